/- ask: Common; AskPaths, walked. -/
import Derived.Test.YthnpaiobjmneaaaDoorAg
import Derived.BigQuiet
namespace Go.Proofs.YthnpaiobjmneaaaDoor.Ak
open Go.RowKit Go.Proofs.YthnpaiobjmneaaaDoor.Ed Go.Proofs.YthnpaiobjmneaaaDoor.Ro Go.Proofs.YthnpaiobjmneaaaDoor.Cs
set_option linter.unusedVariables false
set_option linter.unusedSimpArgs false
section
variable {w : World} {B p bb N : Nat} {tv : Value} {l : List E2}
set_option maxHeartbeats 2000000 in
set_option maxRecDepth 100000 in
theorem common_out (hc : CS w B p bb tv N l) (a b : Int) (hf : (a < 0 ∨ (N : Int) ≤ a) ∨ (b < 0 ∨ (N : Int) ≤ b)) :
    Calls Tryd.prog 40 #[pV p, .int .i64 a, .int .i64 b] w fun e w' => e = .returned (.tuple #[.slice none 0 0, noV 2]) ∧ Hid (Below w.heap.size w w') := by
  obtain ⟨W1, hW1⟩ : ∃ W1, (w.alloc (.cells #[pV p] 36)).alloc (.cells #[.int .i64 b] 3) = W1 := ⟨_, rfl⟩
  have HB1 : Hid (Below w.heap.size w W1) := Lib.hid (by rw [← hW1]; exact ((Below.refl _ w).alloc (Nat.le_refl _) _).alloc (by simp) _)
  have c1 : W1.cell? ⟨w.heap.size, 0, none⟩ = some (pV p) := by
    rw [← hW1]
    exact Go.Lib.cell?_alloc_some _ (cell_of_row _ w.heap.size 0 _ _ _ (heap_alloc_new w _))
  have c2 : W1.cell? ⟨w.heap.size + 1, 0, none⟩ = some (.int .i64 b) := by
    rw [← hW1]
    have := heap_alloc_new (w.alloc (.cells #[pV p] 36)) (.cells #[.int .i64 b] 3)
    rw [show (w.alloc (.cells #[pV p] 36)).heap.size = w.heap.size + 1 by simp] at this
    exact cell_of_row _ (w.heap.size + 1) 0 _ _ _ this
  have HA : Hid (Below W1.heap.size W1 (W1.alloc (.cells #[.int .i64 a, .int .i64 b] 3))) := Lib.hid ((Below.refl _ _).alloc (Nat.le_refl _) _)
  have HT := Lib.hid (there_out ((hc.later HB1.out).later HA.out) W1.heap.size _ [a, b] (JR.lit W1 [a, b] _ rfl 2 rfl (by simp)) (by simp) (by
    rcases hf with hf | hf
    · exact ⟨a, by simp, hf⟩
    · exact ⟨b, by simp, hf⟩))
  have HW := Lib.hid hW1
  clear hc hf hW1
  go_enter Tryd.func40, Tryd.ntmps40
  go_upto_region 1 with (fail)
  rw [HW.out]
  go_wp2_with (go_at_call 51; refine HT.out.mono ?_; rintro e w1 ⟨rfl, rfl⟩)
  go_ret2
  exact ⟨rfl, Lib.hid (HB1.out.trans (HA.out.mono HB1.out.size))⟩
set_option maxHeartbeats 2000000 in
set_option maxRecDepth 100000 in
theorem common_ok (hc : CS w B p bb tv N l) (a b : Nat) (ha : a < N) (hb : b < N) :
    Calls Tryd.prog 40 #[pV p, .int .i64 (a : Int), .int .i64 (b : Int)] w fun e w' => ∃ v' g, e = .returned (.tuple #[v', .nilIface]) ∧ Hid (JR w' g v' ((tgt l a).filter fun x => decide (x ∈ tgt l b))) ∧ Hid (Below w.heap.size w w') := by
  obtain ⟨W1, hW1⟩ : ∃ W1, (w.alloc (.cells #[pV p] 36)).alloc (.cells #[.int .i64 (b : Int)] 3) = W1 := ⟨_, rfl⟩
  have HB1 : Hid (Below w.heap.size w W1) := Lib.hid (by rw [← hW1]; exact ((Below.refl _ w).alloc (Nat.le_refl _) _).alloc (by simp) _)
  have c1 : W1.cell? ⟨w.heap.size, 0, none⟩ = some (pV p) := by
    rw [← hW1]
    exact Go.Lib.cell?_alloc_some _ (cell_of_row _ w.heap.size 0 _ _ _ (heap_alloc_new w _))
  have c2 : W1.cell? ⟨w.heap.size + 1, 0, none⟩ = some (.int .i64 (b : Int)) := by
    rw [← hW1]
    have := heap_alloc_new (w.alloc (.cells #[pV p] 36)) (.cells #[.int .i64 (b : Int)] 3)
    rw [show (w.alloc (.cells #[pV p] 36)).heap.size = w.heap.size + 1 by simp] at this
    exact cell_of_row _ (w.heap.size + 1) 0 _ _ _ this
  have l1 : ∀ ob, (W1.alloc ob).cell? ⟨w.heap.size, 0, none⟩ = some (pV p) := fun ob => Go.Lib.cell?_alloc_some ob c1
  have l2 : ∀ ob, (W1.alloc ob).cell? ⟨w.heap.size + 1, 0, none⟩ = some (.int .i64 (b : Int)) := fun ob => Go.Lib.cell?_alloc_some ob c2
  have HA : Hid (Below W1.heap.size W1 (W1.alloc (.cells #[.int .i64 (a : Int), .int .i64 (b : Int)] 3))) := Lib.hid ((Below.refl _ _).alloc (Nat.le_refl _) _)
  have hc2 := (hc.later HB1.out).later HA.out
  have HT := Lib.hid (there_ok hc2 W1.heap.size _ [(a : Int), (b : Int)] (JR.lit W1 [(a : Int), (b : Int)] _ rfl 2 rfl (by simp)) (by simp) (by
    intro z hz
    rcases List.mem_cons.1 hz with rfl | hz
    · omega
    · obtain rfl : z = (b : Int) := by simpa using hz
      omega))
  have HTA := Lib.hid (targets_calls hc2 a ha)
  have HTL : Hid ((tgt l a).length ≤ 1000000) := Lib.hid (by rw [tgt_len]; have := deg_le l a; have := hc.few; omega)
  have HID := Lib.hid (fun W hB v zs ho hl => idel_calls hc2 b hb w.heap.size (w.heap.size + 1) (l1 _) (l2 _) W hB v zs ho hl)
  generalize tgt l b = tb at HID ⊢
  generalize tgt l a = ta at HTA HTL ⊢
  have HW := Lib.hid hW1
  clear hc hc2 hW1
  go_enter Tryd.func40, Tryd.ntmps40
  go_upto_region 1 with (fail)
  rw [HW.out]
  go_wp2_with (first
    | (go_at_call 51; refine HT.out.mono ?_; rintro e w1 ⟨rfl, rfl⟩)
    | (go_at_call 28; refine HTA.out.mono ?_; rintro e w2 ⟨v2, rfl, HO2, HB2⟩)
    | (go_at_call 61; refine (HID.out _ HB2.out _ ta HO2.out HTL.out).mono ?_; rintro e w3 ⟨v3, g3, rfl, hj3, hb3⟩; have HJ3 := Lib.hid hj3; have HB3 := Lib.hid hb3; clear hj3 hb3))
  go_ret2
  have h2 := HB1.out.trans (HA.out.mono HB1.out.size)
  exact ⟨_, _, rfl, HJ3, Lib.hid (h2.trans (HB3.out.mono h2.size))⟩
theorem path_some (hc : CS w B p bb tv N l) (hN : N ≤ 60) (fr tz : Int) (hf : 0 ≤ fr ∧ fr < (N : Int)) (ht : 0 ≤ tz ∧ tz < (N : Int)) (n : Nat) (h : FarIs (tgt l) fr tz (some n)) :
    Calls Tryd.prog 39 #[pV p, .int .i64 fr, .int .i64 tz] w fun e w' => ∃ v P, e = .returned (.tuple #[v, .nilIface]) ∧ Hid (OJ w' w.heap.size v P ∧ Pth (tgt l) P n fr tz) ∧ Hid (Below w.heap.size w w') := by
  rcases path_is hc hN fr tz hf ht with ⟨n', h1, h2⟩ | ⟨h1, -⟩
  · have := h.one h1
    injection this with this
    subst this
    exact h2
  · have := h.one h1
    simp at this
theorem path_no (hc : CS w B p bb tv N l) (hN : N ≤ 60) (fr tz : Int) (hf : 0 ≤ fr ∧ fr < (N : Int)) (ht : 0 ≤ tz ∧ tz < (N : Int)) (h : FarIs (tgt l) fr tz none) :
    Calls Tryd.prog 39 #[pV p, .int .i64 fr, .int .i64 tz] w fun e w' => e = .returned (.tuple #[.slice none 0 0, noV 9]) ∧ Hid (Below w.heap.size w w') := by
  rcases path_is hc hN fr tz hf ht with ⟨n', h1, -⟩ | ⟨-, h2⟩
  · have := h.one h1
    simp at this
  · exact h2
theorem has_quiet (hc : CS w B p bb tv N l) (x y : Int) (hx : 0 ≤ x ∧ x < (N : Int)) (hy : y ∈ tgt l x) (n : Nat) :
    Calls Tryd.prog 30 #[pV p, .int .i64 x, .int .i64 y] (w.drewN n) fun e w' => e = .returned (.bool true) ∧ ∃ q, w' = w.drewN q := by
  obtain ⟨xn, rfl⟩ := Int.eq_ofNat_of_zero_le hx.1
  refine (has_q (hc.later (Ed.drewN_below _ _ n)) xn (by omega) y).mono ?_
  rintro e w' ⟨he, q, rfl⟩
  exact ⟨by rw [he, decide_eq_true hy], n + q, by simp [World.drewN, Nat.add_assoc]⟩
end
theorem Pth.inn {t : Int → List Int} {P : List Int} {n N : Nat} {a b : Int} (h : Pth t P n a b) (ht : ∀ v : Int, 0 ≤ v ∧ v < (N : Int) → ∀ x ∈ t v, 0 ≤ x ∧ x < (N : Int)) (ha : 0 ≤ a ∧ a < (N : Int)) : ∀ j, j ≤ n → 0 ≤ P.getD j 0 ∧ P.getD j 0 < (N : Int)
  | 0, _ => by rw [h.first]; exact ha
  | j + 1, hj => ht _ (h.inn ht ha j (by omega)) _ (h.step j (by omega))
theorem filter_step (L tb : List Int) (i : Nat) (hi : i < L.length) : (L.take (i + 1)).filter (fun x => decide (x ∈ tb)) = (L.take i).filter (fun x => decide (x ∈ tb)) ++ (if L.getD i 0 ∈ tb then [L.getD i 0] else []) := by
  rw [List.take_add_one, List.getElem?_eq_getElem hi, List.filter_append, List.getD_eq_getElem?_getD, List.getElem?_eq_getElem hi]
  by_cases h : L[i] ∈ tb
  · simp [h]
  · simp [h]
set_option maxHeartbeats 16000000 in
set_option maxRecDepth 100000 in
theorem paths_walk (n : Int) (g : Nat) (A : Option Addr) (len c : Nat) (l0 : List E2) (f t : Int) (w : World) (hG : Er.G0 w) (hr : ER w g (.slice A len c) l0) (hlen : l0.length = len) :
    Calls Tryd.prog 8 #[.int .i64 n, .slice A len c, .agg #[.int .i64 f, .int .i64 t]] w fun e w' => e = .returned (.bool true) ∧ Hid (Below w.heap.size w w') := by
  have HR := Lib.hid hr
  have HL := Lib.hid hlen
  have HC0 : Hid (∀ (k : Int) (W : World), Below w.heap.size w W → Calls Tryd.prog 11 #[noV k] W fun r w' => r = .returned (.int .i64 k) ∧ Hid (Below W.heap.size W w')) := Lib.hid (fun k W h => Er.code_calls (.no k) W (g0_later hG h))
  have HA0 : Hid (Below w.heap.size w (w.alloc (.cells #[.int .i64 f, .int .i64 t] 49))) := Lib.hid ((Below.refl _ _).alloc (Nat.le_refl _) _)
  have HA1 : Hid ((w.alloc (.cells #[.int .i64 f, .int .i64 t] 49)).heap[w.heap.size]? = some (.cells #[.int .i64 f, .int .i64 t] 49 (0, 0))) := Lib.hid (heap_alloc_new w _)
  clear hr hlen hG
  go_enter Tryd.func8, Tryd.ntmps8
  go_upto_region 3 with (go_at_call 18; refine (awake_calls _).mono ?_; rintro e w1 ⟨rfl, HB⟩)
  obtain ⟨b0, hb0⟩ : ∃ b0, w.heap.size = b0 := ⟨_, rfl⟩
  have HZ := Lib.hid (HA0.out.trans (HB.out.mono HA0.out.size))
  have HAB : Hid (∀ W, Below w1.heap.size w1 W → W.heap[b0]? = some (.cells #[.int .i64 f, .int .i64 t] 49 (0, 0))) := Lib.hid (fun W h => by
    have h0 : w1.heap[b0]? = some (.cells #[.int .i64 f, .int .i64 t] 49 (0, 0)) := by
      rw [← hb0, HB.out.block _ (Array.getElem?_eq_some_iff.1 HA1.out).1]; exact HA1.out
    rw [h.block _ (Array.getElem?_eq_some_iff.1 h0).1]; exact h0)
  have HFIN : Hid (∀ W, Below w1.heap.size w1 W → Below w.heap.size w W) := Lib.hid (fun W h => HZ.out.trans (h.mono HZ.out.size))
  have HE : Hid (∀ W, Below w1.heap.size w1 W → ER W g (.slice A len c) l0) := Lib.hid (fun W h => HR.out.later (HFIN.out W h))
  have HT : Hid (Below w1.heap.size w1 w1) := Lib.hid (Below.refl _ _)
  rw [hb0]
  clear HR HA0 HA1 HB hb0 HZ
  by_cases hbig : 120 < len ∨ 60 < n
  · go_wp2_with (go_at_call 19; refine (built_many n g _ l0 _ (HE.out _ HT.out) (by rw [HL.out]; exact hbig)).mono ?_; rintro e w2 ⟨rfl, HB2⟩)
    go_ret
    exact ⟨rfl, Lib.hid (HFIN.out _ (HT.out.trans (HB2.out.mono HT.out.size)))⟩
  by_cases hw : wrg n l0 = -2
  case neg =>
    have HW := Lib.hid hw
    clear hw
    go_wp2_with (go_at_call 19; refine (built_bad n g _ l0 _ (HE.out _ HT.out) (by rw [HL.out]; omega) (by omega) HW.out).mono ?_; rintro e w2 ⟨rfl, HB2⟩)
    go_ret
    exact ⟨rfl, Lib.hid (HFIN.out _ (HT.out.trans (HB2.out.mono HT.out.size)))⟩
  case pos =>
    obtain ⟨n0, n1, -, -⟩ := wrg_ok.1 hw
    obtain ⟨N, rfl⟩ := Int.eq_ofNat_of_zero_le n0
    have HW := Lib.hid hw
    have nn : N ≤ 60 := by omega
    have ll : len ≤ 120 := by omega
    clear hw n0 n1 hbig
    go_upto_region 6 with (go_at_call 19; refine (built_ok N g _ l0 _ (HE.out _ HT.out) (by rw [HL.out]; omega) nn HW.out).mono ?_; rintro e w2 ⟨p, bb, tv, rfl, HC, HB2⟩)
    have HT2 := Lib.hid (HT.out.trans (HB2.out.mono HT.out.size))
    have hblk := HAB.out _ HT2.out
    have c0 : w2.cell? ⟨b0, 0, none⟩ = some (.int .i64 f) := cell_of_row w2 _ 0 _ _ _ hblk
    have c1 : w2.cell? ⟨b0, 1, none⟩ = some (.int .i64 t) := cell_of_row w2 _ 1 _ _ _ hblk
    clear hblk
    go_quiet (fail)
    have HD := Lib.hid (Ed.drewN_below w2.heap.size w2 nq)
    have HC3 := Lib.hid (HC.out.later HD.out)
    have HT3 := Lib.hid (HT2.out.trans (HD.out.mono HT2.out.size))
    clear c0 c1 HC HD HB2 HT HT2
    generalize w2.drewN nq = w3 at HC3 HT3 ⊢
    have HFX : Hid (∀ W, Below w3.heap.size w3 W → Below w.heap.size w W) := Lib.hid (fun W h => HFIN.out _ (HT3.out.trans (h.mono HT3.out.size)))
    have HCX : Hid (∀ (k : Int) (W : World), Below w3.heap.size w3 W → Calls Tryd.prog 11 #[noV k] W fun r w' => r = .returned (.int .i64 k) ∧ Hid (Below W.heap.size W w')) := Lib.hid (fun k W h => HC0.out k W (HFX.out W h))
    have HRN : Hid (∀ W : World, Below w3.heap.size w3 W → Calls Tryd.prog 16 #[.slice A len c] W fun e w' => ∃ v', e = .returned v' ∧ Hid (EO w' W.heap.size v' (nrm l0)) ∧ Hid (Below W.heap.size W w')) := Lib.hid (fun W h => rnorm_calls g _ l0 W (HE.out W (HT3.out.trans (h.mono HT3.out.size))) (by rw [HL.out]; omega))
    have HT : Hid (Below w3.heap.size w3 w3) := Lib.hid (Below.refl _ _)
    clear HAB HFIN HE HW HC0 HT3
    generalize nrm l0 = l at HC3 HRN
    have HLE : Hid (l.length ≤ 20000) := Lib.hid HC3.out.few
    by_cases hin : (0 ≤ f ∧ f < (N : Int)) ∧ 0 ≤ t ∧ t < (N : Int)
    case neg =>
      have hout : (f < 0 ∨ (N : Int) ≤ f) ∨ (t < 0 ∨ (N : Int) ≤ t) := by omega
      have F1 : Hid (∀ W : World, Below w3.heap.size w3 W → Calls Tryd.prog 38 #[pV p, .int .i64 f, .int .i64 t] W fun e w' => e = .returned (.tuple #[.int .i64 0, noV 2]) ∧ Hid (Below W.heap.size W w')) := Lib.hid (fun W h => far_out (HC3.out.later h) f t hout)
      have F2 : Hid (∀ W : World, Below w3.heap.size w3 W → Calls Tryd.prog 39 #[pV p, .int .i64 f, .int .i64 t] W fun e w' => e = .returned (.tuple #[.slice none 0 0, noV 2]) ∧ Hid (Below W.heap.size W w')) := Lib.hid (fun W h => path_out (HC3.out.later h) f t hout)
      have F3 : Hid (∀ W : World, Below w3.heap.size w3 W → Calls Tryd.prog 40 #[pV p, .int .i64 f, .int .i64 t] W fun e w' => e = .returned (.tuple #[.slice none 0 0, noV 2]) ∧ Hid (Below W.heap.size W w')) := Lib.hid (fun W h => common_out (HC3.out.later h) f t hout)
      have HMX : Hid (¬ min f t < 0 → max f t ≥ (N : Int)) := Lib.hid (fun h => by omega)
      clear hin hout
      by_cases hmn : min f t < 0
      · go_wp2_with (first
          | (go_at_call 38; refine (F1.out _ HT.out).mono ?_; rintro e w5 ⟨rfl, HBx⟩; have HT := Lib.hid (HT.out.trans (HBx.out.mono HT.out.size)); clear HBx)
          | (go_at_call 39; refine (F2.out _ HT.out).mono ?_; rintro e w5 ⟨rfl, HBx⟩; have HT := Lib.hid (HT.out.trans (HBx.out.mono HT.out.size)); clear HBx)
          | (go_at_call 40; refine (F3.out _ HT.out).mono ?_; rintro e w5 ⟨rfl, HBx⟩; have HT := Lib.hid (HT.out.trans (HBx.out.mono HT.out.size)); clear HBx)
          | (go_at_call 11; refine (HCX.out _ _ HT.out).mono ?_; rintro e w7 ⟨rfl, HBx⟩; have HT := Lib.hid (HT.out.trans (HBx.out.mono HT.out.size)); clear HBx))
        go_ret
        exact ⟨rfl, Lib.hid (HFX.out _ HT.out)⟩
      · have hmx := HMX.out hmn
        go_wp2_with (first
          | (go_at_call 38; refine (F1.out _ HT.out).mono ?_; rintro e w5 ⟨rfl, HBx⟩; have HT := Lib.hid (HT.out.trans (HBx.out.mono HT.out.size)); clear HBx)
          | (go_at_call 39; refine (F2.out _ HT.out).mono ?_; rintro e w5 ⟨rfl, HBx⟩; have HT := Lib.hid (HT.out.trans (HBx.out.mono HT.out.size)); clear HBx)
          | (go_at_call 40; refine (F3.out _ HT.out).mono ?_; rintro e w5 ⟨rfl, HBx⟩; have HT := Lib.hid (HT.out.trans (HBx.out.mono HT.out.size)); clear HBx)
          | (go_at_call 11; refine (HCX.out _ _ HT.out).mono ?_; rintro e w7 ⟨rfl, HBx⟩; have HT := Lib.hid (HT.out.trans (HBx.out.mono HT.out.size)); clear HBx))
        go_ret
        exact ⟨rfl, Lib.hid (HFX.out _ HT.out)⟩
    case pos =>
      obtain ⟨⟨hf0, hf1⟩, ht0, ht1⟩ := hin
      have hmn : ¬ min f t < 0 := by omega
      have hmx : ¬ max f t ≥ (N : Int) := by omega
      obtain ⟨fn, rfl⟩ := Int.eq_ofNat_of_zero_le hf0
      obtain ⟨tn, rfl⟩ := Int.eq_ofNat_of_zero_le ht0
      have hfN : fn < N := by omega
      have htN : tn < N := by omega
      obtain ⟨r, hr, -⟩ := far_is HC3.out nn (fn : Int) (tn : Int) ⟨hf0, hf1⟩ ⟨ht0, ht1⟩
      have HRR := Lib.hid hr
      have HTN := Lib.hid (cs_tgt HC3.out)
      have HCM : Hid (∀ W : World, Below w3.heap.size w3 W → Calls Tryd.prog 40 #[pV p, .int .i64 (fn : Int), .int .i64 (tn : Int)] W fun e w' => ∃ v' g, e = .returned (.tuple #[v', .nilIface]) ∧ Hid (JR w' g v' ((tgt l fn).filter fun x => decide (x ∈ tgt l tn))) ∧ Hid (Below W.heap.size W w')) := Lib.hid (fun W h => common_ok (HC3.out.later h) fn tn hfN htN)
      have HRT : Hid (∀ (W : World) (g : Nat) (v : Value), ER W g v l → Calls Tryd.prog 31 #[v, .int .i64 (fn : Int)] W fun e w' => ∃ v', e = .returned v' ∧ Hid (OJ w' W.heap.size v' (tgt l fn)) ∧ Hid (Below W.heap.size W w')) := Lib.hid (fun W g v h => rtargets_calls g v l _ W h (by have := HLE.out; omega))
      have HRT2 : Hid (∀ (W : World) (g : Nat) (v : Value), ER W g v l → Calls Tryd.prog 31 #[v, .int .i64 (tn : Int)] W fun e w' => ∃ v', e = .returned v' ∧ Hid (OJ w' W.heap.size v' (tgt l tn)) ∧ Hid (Below W.heap.size W w')) := Lib.hid (fun W g v h => rtargets_calls g v l _ W h (by have := HLE.out; omega))
      have HF : Hid (∀ (W : World) (r' : Option Nat), r = r' → Below w3.heap.size w3 W → Calls Tryd.prog 38 #[pV p, .int .i64 (fn : Int), .int .i64 (tn : Int)] W fun e w' => e = .returned (farV r') ∧ Hid (Below W.heap.size W w')) := Lib.hid (fun W r' e h => by subst e; exact far_calls (HC3.out.later h) nn _ _ ⟨hf0, hf1⟩ ⟨ht0, ht1⟩ r hr)
      have HST : Hid (∀ (W : World) (g : Nat) (v : Value) (r' : Option Nat), r = r' → ER W g v l → Calls Tryd.prog 41 #[v, .int .i64 (N : Int), .int .i64 (fn : Int), .int .i64 (tn : Int)] W fun e w' => e = .returned (.int .i64 (stepsI r')) ∧ Hid (Below W.heap.size W w')) := Lib.hid (fun W g v r' e h => by
        subst e
        exact steps_calls g v l N _ _ W h HLE.out nn r hr (fun n e => by
          subst e
          have hw := bfs_whole (d := 4096) (m := 4096) (cs_tgt HC3.out) ⟨hf0, hf1⟩ (by omega) (by omega)
          obtain ⟨k, k1, k2, k3⟩ := hw.has hr.1
          have hd := hw.dst k1
          rw [k2] at hd
          have := Dst.one hr hd
          have := (hw.cap k k1).2
          have := hw.len
          omega))
      have HTFL : Hid ((tgt l fn).length ≤ 20000) := Lib.hid (by rw [tgt_len]; have := deg_le l fn; have := HLE.out; omega)
      cases r with
      | none =>
        have HPA : Hid (∀ W : World, Below w3.heap.size w3 W → Calls Tryd.prog 39 #[pV p, .int .i64 (fn : Int), .int .i64 (tn : Int)] W fun e w' => e = .returned (.tuple #[.slice none 0 0, noV 9]) ∧ Hid (Below W.heap.size W w')) := Lib.hid (fun W h => path_no (HC3.out.later h) nn _ _ ⟨hf0, hf1⟩ ⟨ht0, ht1⟩ hr)
        have HF' : Hid (∀ W : World, Below w3.heap.size w3 W → Calls Tryd.prog 38 #[pV p, .int .i64 (fn : Int), .int .i64 (tn : Int)] W fun e w' => e = .returned (.tuple #[.int .i64 0, noV 9]) ∧ Hid (Below W.heap.size W w')) := Lib.hid (fun W h => HF.out W none rfl h)
        have HST' : Hid (∀ (W : World) (g : Nat) (v : Value), ER W g v l → Calls Tryd.prog 41 #[v, .int .i64 (N : Int), .int .i64 (fn : Int), .int .i64 (tn : Int)] W fun e w' => e = .returned (.int .i64 (-1)) ∧ Hid (Below W.heap.size W w')) := Lib.hid (fun W g v h => HST.out W g v none rfl h)
        clear hr HRR HF HST hf0 hf1 ht0 ht1
        obtain ⟨ta, hta⟩ : ∃ ta, tgt l fn = ta := ⟨_, rfl⟩
        obtain ⟨tb, htb⟩ : ∃ tb, tgt l tn = tb := ⟨_, rfl⟩
        rw [hta] at HCM HRT HTFL
        rw [htb] at HCM HRT2
        obtain ⟨an, han⟩ : ∃ an, ta.length = an := ⟨_, rfl⟩
        rw [han] at HTFL
        have HAN := Lib.hid han
        have han2 : an ≤ 20000 := HTFL.out
        clear hta htb han
        go_upto_region 15 with (first
          | (go_at_call 38; refine (HF'.out _ HT.out).mono ?_; rintro e w4 ⟨rfl, HBx⟩; have HT := Lib.hid (HT.out.trans (HBx.out.mono HT.out.size)); clear HBx)
          | (go_at_call 39; refine (HPA.out _ HT.out).mono ?_; rintro e w5 ⟨rfl, HBx⟩; have HT := Lib.hid (HT.out.trans (HBx.out.mono HT.out.size)); clear HBx)
          | (go_at_call 40; refine (HCM.out _ HT.out).mono ?_; rintro e w6 ⟨v6, g6, rfl, HJ6, HBx⟩; have HT := Lib.hid (HT.out.trans (HBx.out.mono HT.out.size)); clear HBx; have HY6 : Hid (Below w6.heap.size w6 w6) := Lib.hid (Below.refl _ _))
          | (go_at_call 16; refine (HRN.out _ HT.out).mono ?_; rintro e w7 ⟨v7, rfl, HO7, HBx⟩; have HT := Lib.hid (HT.out.trans (HBx.out.mono HT.out.size)); have HY6 := Lib.hid (HY6.out.trans (HBx.out.mono HY6.out.size)); clear HBx; obtain ⟨g7, hg7, -⟩ := HO7.out.reads; have HE7 := Lib.hid hg7; clear hg7 HO7)
          | (go_at_call 31; refine (HRT.out _ g7 _ HE7.out).mono ?_; rintro e w8 ⟨v8, rfl, HO8, HBx⟩; have HT := Lib.hid (HT.out.trans (HBx.out.mono HT.out.size)); have HY6 := Lib.hid (HY6.out.trans (HBx.out.mono HY6.out.size)); have HE7 := Lib.hid (HE7.out.later HBx.out); clear HBx; obtain ⟨g8, hg8, -⟩ := HO8.out.reads; have HG8 := Lib.hid hg8; clear hg8; obtain ⟨A8, c8, rfl, -⟩ := id HO8.out.shape; rw [HAN.out] at HG8 ⊢))
        have HX8 := Lib.hid (HJ6.out.later HY6.out)
        have HB0 : Hid (Below w8.heap.size w8 w8) := Lib.hid (Below.refl _ _)
        have HO0 : Hid (OJ w8 w8.heap.size (.slice none 0 0) ((ta.take 0).filter fun x => decide (x ∈ tb))) := Lib.hid (OJ.nil _ _)
        clear HJ6 HY6 HO8 HRT HCM HRN HF' HPA hmn hmx
        go_loopw [17, 98] (fun u x wz => ∃ i : Nat, x = .int .i64 (i : Int) ∧ i ≤ an ∧ Hid (OJ wz w8.heap.size u ((ta.take i).filter fun x => decide (x ∈ tb))) ∧ Hid (Below w8.heap.size w8 wz)) (fun _ x _ => an - (intOf x).toNat)
        case atStart => exact ⟨0, rfl, Nat.zero_le _, HO0, HB0⟩
        case round =>
          clear HO0 HB0
          obtain ⟨i, rfl, hi, HO, HB⟩ := hrel
          obtain ⟨uA, uc, rfl, -⟩ := id HO.out.shape
          have HOB := Lib.hid HO.out.base
          have HFL : Hid (((ta.take i).filter fun x => decide (x ∈ tb)).length ≤ 20000) := Lib.hid (Nat.le_trans (List.length_filter_le _ _) (by rw [List.length_take, HAN.out]; omega))
          obtain ⟨un, hun⟩ : ∃ un, ((ta.take i).filter fun x => decide (x ∈ tb)).length = un := ⟨_, rfl⟩
          rw [hun] at HO HOB ⊢
          by_cases hlt : i < an
          · obtain ⟨A', c', o', hv', -, -, hrd⟩ := HG8.out.later HB.out
            rw [HAN.out] at hrd hv'
            obtain ⟨rfl, -, hcell⟩ := hrd (by omega)
            injection hv' with hv1 _ hv2
            subst hv1 hv2
            have q0 := hcell i hlt
            have hst := filter_step ta tb i (by rw [HAN.out]; exact hlt)
            obtain ⟨x, hx⟩ : ∃ x, ta.getD i 0 = x := ⟨_, rfl⟩
            rw [hx] at q0 hst
            have HST9 := Lib.hid hst
            have i0 : (0 : Int) ≤ (i : Int) := by omega
            have i1 : (i : Int) < (an : Int) := by omega
            have hbz := HB.out.size
            have HRTW := Lib.hid (HRT2.out wr g7 v7 (HE7.out.later HB.out))
            have HHW := Lib.hid (fun W g v (h : JR W g v tb) => rhas_calls g v tb x W h)
            clear hcell hrd hst hx hun
            by_cases hm : x ∈ tb
            · have HHW' : Hid (∀ (W : World) (g : Nat) (v : Value), JR W g v tb → Calls Tryd.prog 33 #[v, .int .i64 x] W fun e w' => e = .returned (.bool true) ∧ W = w') := Lib.hid (fun W g v h => by have := HHW.out W g v h; rw [decide_eq_true hm] at this; exact this)
              clear HHW
              have HSS : Hid ((ta.take (i + 1)).filter (fun x => decide (x ∈ tb)) = (ta.take i).filter (fun x => decide (x ∈ tb)) ++ [x]) := Lib.hid (by rw [HST9.out, if_pos hm])
              clear hm
              go_wp2_with (first
                | (go_at_call 31; refine HRTW.out.mono ?_; rintro e wa ⟨va, rfl, HOa, HBa⟩; obtain ⟨ga, hga, -⟩ := HOa.out.reads; have HGa := Lib.hid hga; clear hga; have HO := Lib.hid (HO.out.later HBa.out); have HB := Lib.hid (HB.out.trans (HBa.out.mono HB.out.size)); have hbz := HB.out.size)
                | (go_at_call 33; refine (HHW'.out _ ga _ HGa.out).mono ?_; rintro e wb ⟨rfl, rfl⟩)
                | (at_builtin; refine OJ.app_on (base := w8.heap.size) (HO.out.alloc _) (JR.lit _ [x] _ rfl 1 rfl (by simp)) rfl _ _ rfl rfl rfl (by simp; omega) (by have := HFL.out; simp only [List.length_cons, List.length_nil]; omega) ?_; intro v1 w3' k1 k2 k3; have K1 := Lib.hid k1; have K2 := Lib.hid k2; clear k1 k2 k3))
              go_roundw
              case rel => exact ⟨i + 1, by go_num, by omega, Lib.hid (by rw [HSS.out]; exact K1.out), Lib.hid ((HB.out.alloc hbz _).grown K2.out (by simp; omega) HOB.out)⟩
              case measure => simp [intOf]; omega
            · have HHW' : Hid (∀ (W : World) (g : Nat) (v : Value), JR W g v tb → Calls Tryd.prog 33 #[v, .int .i64 x] W fun e w' => e = .returned (.bool false) ∧ W = w') := Lib.hid (fun W g v h => by have := HHW.out W g v h; rw [decide_eq_false hm] at this; exact this)
              clear HHW
              have HSS : Hid ((ta.take (i + 1)).filter (fun x => decide (x ∈ tb)) = (ta.take i).filter (fun x => decide (x ∈ tb))) := Lib.hid (by rw [HST9.out, if_neg hm, List.append_nil])
              clear hm
              go_wp2_with (first
                | (go_at_call 31; refine HRTW.out.mono ?_; rintro e wa ⟨va, rfl, HOa, HBa⟩; obtain ⟨ga, hga, -⟩ := HOa.out.reads; have HGa := Lib.hid hga; clear hga; have HO := Lib.hid (HO.out.later HBa.out); have HB := Lib.hid (HB.out.trans (HBa.out.mono HB.out.size)); have hbz := HB.out.size)
                | (go_at_call 33; refine (HHW'.out _ ga _ HGa.out).mono ?_; rintro e wb ⟨rfl, rfl⟩))
              go_roundw
              case rel => exact ⟨i + 1, by go_num, by omega, Lib.hid (by rw [HSS.out]; exact HO.out), HB⟩
              case measure => simp [intOf]; omega
          · obtain rfl : an = i := by omega
            have HOF : Hid (OJ wr w8.heap.size (.slice uA un uc) (ta.filter fun x => decide (x ∈ tb))) := Lib.hid (by have := HO.out; rw [List.take_of_length_le (by rw [HAN.out]; exact Nat.le_refl _)] at this; exact this)
            obtain ⟨gF, hgF, -⟩ := HOF.out.reads
            have HIN := Lib.hid (ints_b g6 gF v6 _ _ _ wr (HX8.out.later HB.out) hgF)
            rw [decide_eq_true (p := (ta.filter fun x => decide (x ∈ tb)) = ta.filter fun x => decide (x ∈ tb)) rfl] at HIN
            have HTW := Lib.hid (HT.out.trans (HB.out.mono HT.out.size))
            have HY9 : Hid (Below wr.heap.size wr wr) := Lib.hid (Below.refl _ _)
            have HE9 := Lib.hid (HE7.out.later HB.out)
            clear hgF HO HOF HX8 HE7 HG8 HFL HOB hun HRT2 HT
            have HFR : Hid (∀ W, Below wr.heap.size wr W → Below w3.heap.size w3 W) := Lib.hid (fun W h => HTW.out.trans (h.mono HTW.out.size))
            go_wp2_with (first
              | (go_at_call 32; refine HIN.out.mono ?_; rintro e wc ⟨rfl, HBx⟩; have HY9 := Lib.hid (HY9.out.trans (HBx.out.mono HY9.out.size)); clear HBx)
              | (go_at_call 41; refine (HST'.out _ g7 v7 (HE9.out.later HY9.out)).mono ?_; rintro e wd ⟨rfl, HBx⟩; have HY9 := Lib.hid (HY9.out.trans (HBx.out.mono HY9.out.size)); clear HBx)
              | (go_at_call 11; refine (HCX.out _ _ (HFR.out _ HY9.out)).mono ?_; rintro e wf ⟨rfl, HBx⟩; have HY9 := Lib.hid (HY9.out.trans (HBx.out.mono HY9.out.size)); clear HBx))
            go_ret
            exact ⟨rfl, Lib.hid (HFX.out _ (HFR.out _ HY9.out))⟩
      | some k =>
        have hk60 : k < 60 := far_lt HC3.out nn ⟨hf0, hf1⟩ hr
        have HPA : Hid (∀ W : World, Below w3.heap.size w3 W → Calls Tryd.prog 39 #[pV p, .int .i64 (fn : Int), .int .i64 (tn : Int)] W fun e w' => ∃ v P, e = .returned (.tuple #[v, .nilIface]) ∧ Hid (OJ w' W.heap.size v P ∧ Pth (tgt l) P k (fn : Int) (tn : Int)) ∧ Hid (Below W.heap.size W w')) := Lib.hid (fun W h => path_some (HC3.out.later h) nn _ _ ⟨hf0, hf1⟩ ⟨ht0, ht1⟩ k hr)
        have HF' : Hid (∀ W : World, Below w3.heap.size w3 W → Calls Tryd.prog 38 #[pV p, .int .i64 (fn : Int), .int .i64 (tn : Int)] W fun e w' => e = .returned (.tuple #[.int .i64 (k : Int), .nilIface]) ∧ Hid (Below W.heap.size W w')) := Lib.hid (fun W h => HF.out W (some k) rfl h)
        have HST' : Hid (∀ (W : World) (g : Nat) (v : Value), ER W g v l → Calls Tryd.prog 41 #[v, .int .i64 (N : Int), .int .i64 (fn : Int), .int .i64 (tn : Int)] W fun e w' => e = .returned (.int .i64 ((k : Int))) ∧ Hid (Below W.heap.size W w')) := Lib.hid (fun W g v h => HST.out W g v (some k) rfl h)
        clear hr HRR HF HST hf0 hf1 ht0 ht1
        obtain ⟨ta, hta⟩ : ∃ ta, tgt l fn = ta := ⟨_, rfl⟩
        obtain ⟨tb, htb⟩ : ∃ tb, tgt l tn = tb := ⟨_, rfl⟩
        rw [hta] at HCM HRT HTFL
        rw [htb] at HCM HRT2
        obtain ⟨an, han⟩ : ∃ an, ta.length = an := ⟨_, rfl⟩
        rw [han] at HTFL
        have HAN := Lib.hid han
        have han2 : an ≤ 20000 := HTFL.out
        clear hta htb han
        go_upto_region 15 with (first
          | (go_at_call 38; refine (HF'.out _ HT.out).mono ?_; rintro e w4 ⟨rfl, HBx⟩; have HT := Lib.hid (HT.out.trans (HBx.out.mono HT.out.size)); clear HBx)
          | (go_at_call 39; refine (HPA.out _ HT.out).mono ?_; rintro e w5 ⟨v5, P5, rfl, HO5, HBx⟩; have HT := Lib.hid (HT.out.trans (HBx.out.mono HT.out.size)); clear HBx; have HP5 := Lib.hid HO5.out.2; have HO5 := Lib.hid HO5.out.1; have HY5 : Hid (Below w5.heap.size w5 w5) := Lib.hid (Below.refl _ _); obtain ⟨A5, c5, hv5, -⟩ := id HO5.out.shape; rw [HP5.out.len] at hv5; subst hv5)
          | (go_at_call 40; refine (HCM.out _ HT.out).mono ?_; rintro e w6 ⟨v6, g6, rfl, HJ6, HBx⟩; have HT := Lib.hid (HT.out.trans (HBx.out.mono HT.out.size)); have HY5 := Lib.hid (HY5.out.trans (HBx.out.mono HY5.out.size)); clear HBx; have HY6 : Hid (Below w6.heap.size w6 w6) := Lib.hid (Below.refl _ _))
          | (go_at_call 16; refine (HRN.out _ HT.out).mono ?_; rintro e w7 ⟨v7, rfl, HO7, HBx⟩; have HT := Lib.hid (HT.out.trans (HBx.out.mono HT.out.size)); have HY5 := Lib.hid (HY5.out.trans (HBx.out.mono HY5.out.size)); have HY6 := Lib.hid (HY6.out.trans (HBx.out.mono HY6.out.size)); clear HBx; obtain ⟨g7, hg7, -⟩ := HO7.out.reads; have HE7 := Lib.hid hg7; clear hg7 HO7)
          | (go_at_call 31; refine (HRT.out _ g7 _ HE7.out).mono ?_; rintro e w8 ⟨v8, rfl, HO8, HBx⟩; have HT := Lib.hid (HT.out.trans (HBx.out.mono HT.out.size)); have HY5 := Lib.hid (HY5.out.trans (HBx.out.mono HY5.out.size)); have HY6 := Lib.hid (HY6.out.trans (HBx.out.mono HY6.out.size)); have HE7 := Lib.hid (HE7.out.later HBx.out); clear HBx; obtain ⟨g8, hg8, -⟩ := HO8.out.reads; have HG8 := Lib.hid hg8; clear hg8; obtain ⟨A8, c8, rfl, -⟩ := id HO8.out.shape; rw [HAN.out] at HG8 ⊢))
        have HX8 := Lib.hid (HJ6.out.later HY6.out)
        have HO58 := Lib.hid (HO5.out.later HY5.out)
        have HB0 : Hid (Below w8.heap.size w8 w8) := Lib.hid (Below.refl _ _)
        have HO0 : Hid (OJ w8 w8.heap.size (.slice none 0 0) ((ta.take 0).filter fun x => decide (x ∈ tb))) := Lib.hid (OJ.nil _ _)
        clear HJ6 HY6 HO8 HRT HCM HRN HF' HPA hmn hmx HO5 HY5
        go_loopw [17, 98] (fun u x wz => ∃ i : Nat, x = .int .i64 (i : Int) ∧ i ≤ an ∧ Hid (OJ wz w8.heap.size u ((ta.take i).filter fun x => decide (x ∈ tb))) ∧ Hid (Below w8.heap.size w8 wz)) (fun _ x _ => an - (intOf x).toNat)
        case atStart => exact ⟨0, rfl, Nat.zero_le _, HO0, HB0⟩
        case round =>
          clear HO0 HB0
          obtain ⟨i, rfl, hi, HO, HB⟩ := hrel
          obtain ⟨uA, uc, rfl, -⟩ := id HO.out.shape
          have HOB := Lib.hid HO.out.base
          have HFL : Hid (((ta.take i).filter fun x => decide (x ∈ tb)).length ≤ 20000) := Lib.hid (Nat.le_trans (List.length_filter_le _ _) (by rw [List.length_take, HAN.out]; omega))
          obtain ⟨un, hun⟩ : ∃ un, ((ta.take i).filter fun x => decide (x ∈ tb)).length = un := ⟨_, rfl⟩
          rw [hun] at HO HOB ⊢
          by_cases hlt : i < an
          · obtain ⟨A', c', o', hv', -, -, hrd⟩ := HG8.out.later HB.out
            rw [HAN.out] at hrd hv'
            obtain ⟨rfl, -, hcell⟩ := hrd (by omega)
            injection hv' with hv1 _ hv2
            subst hv1 hv2
            have q0 := hcell i hlt
            have hst := filter_step ta tb i (by rw [HAN.out]; exact hlt)
            obtain ⟨x, hx⟩ : ∃ x, ta.getD i 0 = x := ⟨_, rfl⟩
            rw [hx] at q0 hst
            have HST9 := Lib.hid hst
            have i0 : (0 : Int) ≤ (i : Int) := by omega
            have i1 : (i : Int) < (an : Int) := by omega
            have hbz := HB.out.size
            have HRTW := Lib.hid (HRT2.out wr g7 v7 (HE7.out.later HB.out))
            have HHW := Lib.hid (fun W g v (h : JR W g v tb) => rhas_calls g v tb x W h)
            clear hcell hrd hst hx hun
            by_cases hm : x ∈ tb
            · have HHW' : Hid (∀ (W : World) (g : Nat) (v : Value), JR W g v tb → Calls Tryd.prog 33 #[v, .int .i64 x] W fun e w' => e = .returned (.bool true) ∧ W = w') := Lib.hid (fun W g v h => by have := HHW.out W g v h; rw [decide_eq_true hm] at this; exact this)
              clear HHW
              have HSS : Hid ((ta.take (i + 1)).filter (fun x => decide (x ∈ tb)) = (ta.take i).filter (fun x => decide (x ∈ tb)) ++ [x]) := Lib.hid (by rw [HST9.out, if_pos hm])
              clear hm
              go_wp2_with (first
                | (go_at_call 31; refine HRTW.out.mono ?_; rintro e wa ⟨va, rfl, HOa, HBa⟩; obtain ⟨ga, hga, -⟩ := HOa.out.reads; have HGa := Lib.hid hga; clear hga; have HO := Lib.hid (HO.out.later HBa.out); have HB := Lib.hid (HB.out.trans (HBa.out.mono HB.out.size)); have hbz := HB.out.size)
                | (go_at_call 33; refine (HHW'.out _ ga _ HGa.out).mono ?_; rintro e wb ⟨rfl, rfl⟩)
                | (at_builtin; refine OJ.app_on (base := w8.heap.size) (HO.out.alloc _) (JR.lit _ [x] _ rfl 1 rfl (by simp)) rfl _ _ rfl rfl rfl (by simp; omega) (by have := HFL.out; simp only [List.length_cons, List.length_nil]; omega) ?_; intro v1 w3' k1 k2 k3; have K1 := Lib.hid k1; have K2 := Lib.hid k2; clear k1 k2 k3))
              go_roundw
              case rel => exact ⟨i + 1, by go_num, by omega, Lib.hid (by rw [HSS.out]; exact K1.out), Lib.hid ((HB.out.alloc hbz _).grown K2.out (by simp; omega) HOB.out)⟩
              case measure => simp [intOf]; omega
            · have HHW' : Hid (∀ (W : World) (g : Nat) (v : Value), JR W g v tb → Calls Tryd.prog 33 #[v, .int .i64 x] W fun e w' => e = .returned (.bool false) ∧ W = w') := Lib.hid (fun W g v h => by have := HHW.out W g v h; rw [decide_eq_false hm] at this; exact this)
              clear HHW
              have HSS : Hid ((ta.take (i + 1)).filter (fun x => decide (x ∈ tb)) = (ta.take i).filter (fun x => decide (x ∈ tb))) := Lib.hid (by rw [HST9.out, if_neg hm, List.append_nil])
              clear hm
              go_wp2_with (first
                | (go_at_call 31; refine HRTW.out.mono ?_; rintro e wa ⟨va, rfl, HOa, HBa⟩; obtain ⟨ga, hga, -⟩ := HOa.out.reads; have HGa := Lib.hid hga; clear hga; have HO := Lib.hid (HO.out.later HBa.out); have HB := Lib.hid (HB.out.trans (HBa.out.mono HB.out.size)); have hbz := HB.out.size)
                | (go_at_call 33; refine (HHW'.out _ ga _ HGa.out).mono ?_; rintro e wb ⟨rfl, rfl⟩))
              go_roundw
              case rel => exact ⟨i + 1, by go_num, by omega, Lib.hid (by rw [HSS.out]; exact HO.out), HB⟩
              case measure => simp [intOf]; omega
          · obtain rfl : an = i := by omega
            have HOF : Hid (OJ wr w8.heap.size (.slice uA un uc) (ta.filter fun x => decide (x ∈ tb))) := Lib.hid (by have := HO.out; rw [List.take_of_length_le (by rw [HAN.out]; exact Nat.le_refl _)] at this; exact this)
            obtain ⟨gF, hgF, -⟩ := HOF.out.reads
            have HIN := Lib.hid (ints_b g6 gF v6 _ _ _ wr (HX8.out.later HB.out) hgF)
            rw [decide_eq_true (p := (ta.filter fun x => decide (x ∈ tb)) = ta.filter fun x => decide (x ∈ tb)) rfl] at HIN
            have HTW := Lib.hid (HT.out.trans (HB.out.mono HT.out.size))
            have HY9 : Hid (Below wr.heap.size wr wr) := Lib.hid (Below.refl _ _)
            have HE9 := Lib.hid (HE7.out.later HB.out)
            have HO9 := Lib.hid (HO58.out.later HB.out)
            clear hgF HO HOF HX8 HE7 HG8 HFL HOB hun HRT2 HT HO58
            have HFR : Hid (∀ W, Below wr.heap.size wr W → Below w3.heap.size w3 W) := Lib.hid (fun W h => HTW.out.trans (h.mono HTW.out.size))
            go_upto_region 25 with (first
              | (go_at_call 32; refine HIN.out.mono ?_; rintro e wc ⟨rfl, HBx⟩; have HY9 := Lib.hid (HY9.out.trans (HBx.out.mono HY9.out.size)); clear HBx)
              | (go_at_call 41; refine (HST'.out _ g7 v7 (HE9.out.later HY9.out)).mono ?_; rintro e wd ⟨rfl, HBx⟩; have HY9 := Lib.hid (HY9.out.trans (HBx.out.mono HY9.out.size)); clear HBx))
            rename World => wq
            have HO10 := Lib.hid (HO9.out.later HY9.out)
            obtain ⟨g5, c5', hv5, -, hc5⟩ := oj_form HO10.out (by rw [HP5.out.len]; omega)
            rw [HP5.out.len] at hv5 hc5
            injection hv5 with hv5 _ hcc
            subst hv5 hcc
            have p0 := hc5 0 (by omega)
            have pk := hc5 k (by omega)
            rw [HP5.out.first] at p0
            rw [HP5.out.last] at pk
            have e1 : ((k : Int) != (k : Int)) = false := by simp
            have e2 : ((k : Int) + 1 != (k : Int) + 1) = false := by simp
            have e3 : ((fn : Int) != (fn : Int)) = false := by simp
            have e4 : ((tn : Int) != (tn : Int)) = false := by simp
            have kk0 : (0 : Int) ≤ (k : Int) := by omega
            have kk1 : (k : Int) < (k : Int) + 1 := by omega
            have kk2 : (0 : Int) < (k : Int) + 1 := by omega
            have HC5 := Lib.hid hc5
            have HQQ := Lib.hid (HFR.out _ HY9.out)
            have HZ0 : Hid (Below wq.heap.size wq wq) := Lib.hid (Below.refl _ _)
            clear hc5 HY9 HIN HB
            go_upto_region 28 with (fail)
            clear p0 pk
            go_loopw [21] (fun x wz => ∃ i : Nat, x = .int .i64 (i : Int) ∧ 1 ≤ i ∧ i ≤ k + 1 ∧ Hid (Below wq.heap.size wq wz)) (fun x _ => k + 1 - (intOf x).toNat)
            case atStart => exact ⟨1, rfl, Nat.le_refl _, by omega, HZ0⟩
            case round =>
              clear HZ0
              obtain ⟨i, rfl, hi1, hi2, HZ⟩ := hrel
              rename World => wz
              by_cases hlt : i < k + 1
              · obtain ⟨j, rfl⟩ : ∃ j, i = j + 1 := ⟨i - 1, by omega⟩
                have q0 := HC5.out j (by omega)
                have q1 := HC5.out (j + 1) (by omega)
                have eb := HZ.out.block g5 (World.block_lt_of_cell? _ _ q0)
                have r0 : wz.cell? ⟨g5, j, none⟩ = some (.int .i64 (P5.getD j 0)) := by rw [← q0]; simp only [World.cell?, eb]
                have r1 : wz.cell? ⟨g5, j + 1, none⟩ = some (.int .i64 (P5.getD (j + 1) 0)) := by rw [← q1]; simp only [World.cell?, eb]
                have hstp := HP5.out.step j (by omega)
                have hinn := HP5.out.inn HTN.out (by omega) j (by omega)
                obtain ⟨x, hx⟩ : ∃ x, P5.getD j 0 = x := ⟨_, rfl⟩
                obtain ⟨y, hy⟩ : ∃ y, P5.getD (j + 1) 0 = y := ⟨_, rfl⟩
                rw [hx] at r0 hstp hinn
                rw [hy] at r1 hstp
                have HQ : Hid (∀ n, Calls Tryd.prog 30 #[pV p, .int .i64 x, .int .i64 y] (wz.drewN n) fun e w' => e = .returned (.bool true) ∧ ∃ q, w' = wz.drewN q) := Lib.hid (fun n => has_quiet (HC3.out.later (HQQ.out.trans (HZ.out.mono HQQ.out.size))) x y hinn hstp n)
                have cj : ((j + 1 : Nat) : Int) = (j : Int) + 1 := by omega
                rw [cj]
                have j0 : (0 : Int) ≤ (j : Int) := by omega
                have j1 : (j : Int) < (k : Int) + 1 := by omega
                have j2 : (j : Int) + 1 < (k : Int) + 1 := by omega
                have j3 : (0 : Int) ≤ (j : Int) + 1 := by omega
                have j4 : ((j : Int) + 1).toNat = j + 1 := by omega
                have j5 : IntKind.i64.wrap ((j : Int) + 1 - 1) = (j : Int) := by rw [show (j : Int) + 1 - 1 = (j : Int) by omega]; exact IntWalk.i64_in _ (by omega)
                have j6 : (j : Int) + 1 - 1 = (j : Int) := by omega
                clear q0 q1 eb hstp hinn hx hy
                go_upto_region 30 with (fail)
                go_big_quiet (first | (go_at_call 30; exact HQ.out _))
                go_wp2
                go_roundw
                case rel => exact ⟨j + 2, by go_num, by omega, by omega, Lib.hid (HZ.out.trans ((Ed.drewN_below _ _ _).mono HZ.out.size))⟩
                case measure => simp [intOf]; omega
              · obtain rfl : i = k + 1 := by omega
                go_wp2
                go_ret
                exact ⟨rfl, Lib.hid (HFX.out _ (HQQ.out.trans (HZ.out.mono HQQ.out.size)))⟩
theorem paths_row (n : Int) (g : Nat) (v : Value) (l : List E2) (f t : Int) (w : World) (hG : Er.G0 w) (hn : (Lit.int .i64 n).wf = true) (hr : ER w g v l) (hb : ∀ e ∈ l, (-9223372036854775808 ≤ e.1 ∧ e.1 < 9223372036854775808) ∧ (-9223372036854775808 ≤ e.2 ∧ e.2 < 9223372036854775808))
    (h0 : (Lit.int .i64 f).wf = true) (h1 : (Lit.int .i64 t).wf = true) :
    Calls Tryd.prog 8 #[.int .i64 n, v, .agg #[.int .i64 f, .int .i64 t]] w fun e w' => e = .returned (.bool true) ∧ Below w.heap.size w w' := by
  obtain ⟨A, c, rfl, -⟩ := er_form hr
  exact (paths_walk n g A l.length c l f t w hG hr rfl).mono fun _ _ h => ⟨h.1, h.2.out⟩
end Go.Proofs.YthnpaiobjmneaaaDoor.Ak
