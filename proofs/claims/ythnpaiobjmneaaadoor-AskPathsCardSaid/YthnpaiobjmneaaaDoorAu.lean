/- AskSearches, walked. -/
import Derived.Test.YthnpaiobjmneaaaDoorAr
import Derived.Test.YthnpaiobjmneaaaDoorAt
import Derived.Test.YthnpaiobjmneaaaDoorEn
import Derived.BigQuiet
namespace Go.Proofs.YthnpaiobjmneaaaDoor.Ak
open Go.RowKit Go.Proofs.YthnpaiobjmneaaaDoor.Ed Go.Proofs.YthnpaiobjmneaaaDoor.Ro Go.Proofs.YthnpaiobjmneaaaDoor.Cs
set_option linter.unusedVariables false
set_option linter.unusedSimpArgs false
section
variable {w : World} {B p bb N : Nat} {tv : Value} {l : List E2}
set_option maxHeartbeats 1000000 in
theorem whole_calls (hc : CS w B p bb tv N l) (fr : Int) (hf : 0 ≤ fr ∧ fr < (N : Int)) :
    Calls Tryd.prog 53 #[pV p, .int .i64 fr] w fun e w' => ∃ s, e = .returned (.pointer (some ⟨s, 0, none⟩)) ∧ Hid (RX w w' w.heap.size s (pV p) 4096 (bfs N (tgt l) 4096 4096 fr)) := by
  have HR := Lib.hid (run_calls hc fr 4096 4096 hf (by omega) (by omega))
  generalize bfs N (tgt l) 4096 4096 fr = R at HR ⊢
  clear hc hf
  go_enter Tryd.func53, Tryd.ntmps53
  go_wp2_with (go_at_call 52; refine HR.out.mono ?_; rintro e w2 ⟨s, rfl, HX⟩)
  go_ret
  exact ⟨s, rfl, HX⟩
set_option maxHeartbeats 2000000 in
set_option maxRecDepth 100000 in
theorem reach_ok (hc : CS w B p bb tv N l) (fr : Int) (hf : 0 ≤ fr ∧ fr < (N : Int)) (n : Nat) (hn : (bfs N (tgt l) 4096 4096 fr).length = n) :
    Calls Tryd.prog 21 #[pV p, .int .i64 fr] w fun e w' => e = .returned (.tuple #[.int .i64 (n : Int), .nilIface]) ∧ Hid (Below w.heap.size w w') := by
  have HA : Hid (Below w.heap.size w (w.alloc (.cells #[.int .i64 fr] 3))) := Lib.hid ((Below.refl _ _).alloc (Nat.le_refl _) _)
  have HT := Lib.hid (there_ok (hc.later HA.out) w.heap.size _ [fr] (JR.lit w [fr] _ rfl 1 rfl (by simp)) (by simp) (by simpa using hf))
  have HR := Lib.hid (whole_calls (hc.later HA.out) fr hf)
  generalize bfs N (tgt l) 4096 4096 fr = R at HR hn
  have HN := Lib.hid hn
  clear hc hf hn
  go_enter Tryd.func21, Tryd.ntmps21
  go_wp2_with (first
    | (go_at_call 51; refine HT.out.mono ?_; rintro e w1 ⟨rfl, rfl⟩)
    | (go_at_call 53; refine HR.out.mono ?_; rintro e w2 ⟨s, rfl, HX⟩; obtain ⟨mb, v, hs, hb⟩ := HX.out; obtain ⟨A, c, hv, -, -⟩ := id hs.row.shape; rw [show (mts R).length = n by rw [← HN.out]; simp [mts]] at hv; subst hv; have hblk := hs.blk; have c1 : w2.cell? ⟨s, 1, none⟩ = some (.slice A n c) := (by simp only [World.cell?, hblk]; rfl); have HB := Lib.hid hb; clear hs hb hblk))
  go_ret2
  exact ⟨rfl, Lib.hid (HA.out.trans (HB.out.mono HA.out.size))⟩
set_option maxHeartbeats 2000000 in
set_option maxRecDepth 100000 in
theorem reach_out (hc : CS w B p bb tv N l) (fr : Int) (hf : fr < 0 ∨ (N : Int) ≤ fr) :
    Calls Tryd.prog 21 #[pV p, .int .i64 fr] w fun e w' => e = .returned (.tuple #[.int .i64 0, noV 2]) ∧ Hid (Below w.heap.size w w') := by
  have HA : Hid (Below w.heap.size w (w.alloc (.cells #[.int .i64 fr] 3))) := Lib.hid ((Below.refl _ _).alloc (Nat.le_refl _) _)
  have HT := Lib.hid (there_out (hc.later HA.out) w.heap.size _ [fr] (JR.lit w [fr] _ rfl 1 rfl (by simp)) (by simp) ⟨fr, by simp, hf⟩)
  clear hc hf
  go_enter Tryd.func21, Tryd.ntmps21
  go_wp2_with (go_at_call 51; refine HT.out.mono ?_; rintro e w1 ⟨rfl, rfl⟩)
  go_ret2
  exact ⟨rfl, HA⟩
end
set_option maxHeartbeats 2000000 in
theorem search_nil (w : World) : Calls Tryd.prog 20 #[.pointer none, .int .i64 0, .int .i64 1, .int .i64 1] w fun e w' => e = .returned (.tuple #[.slice none 0 0, noV 1]) ∧ Hid (Below w.heap.size w w') := by
  have HA : Hid (Below w.heap.size w (w.alloc (.cells #[.int .i64 0] 3))) := Lib.hid ((Below.refl _ _).alloc (Nat.le_refl _) _)
  go_enter Tryd.func20, Tryd.ntmps20
  go_wp2_with (go_at_call 51; refine (there_nil _ _).mono ?_; rintro e w1 ⟨rfl, rfl⟩)
  go_ret2
  exact ⟨rfl, HA⟩
theorem mts_get (R : List T3) (i : Nat) : (mts R).getD i (0, 0) = (nd R i, tf R i) := by
  unfold mts nd tf
  rw [List.getD_eq_getElem?_getD, List.getD_eq_getElem?_getD, List.getElem?_map]
  cases R[i]? <;> rfl
theorem mts_len (R : List T3) : (mts R).length = R.length := List.length_map _
/-- a search, in the box of an argument -/
def AB (w : World) (b : Nat) (x y z : Int) : Prop := w.heap[b]? = some (.cells #[.int .i64 x, .int .i64 y, .int .i64 z] 35 (0, 0))
theorem AB.later {w w' : World} {b : Nat} {x y z : Int} (h : AB w b x y z) (hb : Below w.heap.size w w') : AB w' b x y z := (hb.block b (Array.getElem?_eq_some_iff.1 h).1).trans h
theorem AB.cells {w : World} {b : Nat} {x y z : Int} (h : AB w b x y z) : w.cell? ⟨b, 0, none⟩ = some (.int .i64 x) ∧ w.cell? ⟨b, 1, none⟩ = some (.int .i64 y) ∧ w.cell? ⟨b, 2, none⟩ = some (.int .i64 z) :=
  ⟨cell_of_row w b 0 _ _ _ h, cell_of_row w b 1 _ _ _ h, cell_of_row w b 2 _ _ _ h⟩
set_option maxHeartbeats 8000000 in
set_option maxRecDepth 100000 in
theorem searches_walk (n : Int) (g : Nat) (A : Option Addr) (len c : Nat) (l0 : List E2) (fr d m : Int) (w : World) (hG : Er.G0 w) (hr : ER w g (.slice A len c) l0) (hlen : l0.length = len) :
    Calls Tryd.prog 4 #[.int .i64 n, .slice A len c, .agg #[.int .i64 fr, .int .i64 d, .int .i64 m]] w fun e w' => e = .returned (.bool true) ∧ Hid (Below w.heap.size w w') := by
  have HR := Lib.hid hr
  have HL := Lib.hid hlen
  have HC0 : Hid (∀ (k : Int) (W : World), Below w.heap.size w W → Calls Tryd.prog 11 #[noV k] W fun r w' => r = .returned (.int .i64 k) ∧ Hid (Below W.heap.size W w')) := Lib.hid (fun k W h => Er.code_calls (.no k) W (g0_later hG h))
  have HA0 : Hid (Below w.heap.size w (w.alloc (.cells #[.int .i64 fr, .int .i64 d, .int .i64 m] 35))) := Lib.hid ((Below.refl _ _).alloc (Nat.le_refl _) _)
  have HA1 : Hid (AB (w.alloc (.cells #[.int .i64 fr, .int .i64 d, .int .i64 m] 35)) w.heap.size fr d m) := Lib.hid (heap_alloc_new w _)
  clear hr hlen hG
  go_enter Tryd.func4, Tryd.ntmps4
  go_upto_region 3 with (go_at_call 18; refine (awake_calls _).mono ?_; rintro e w1 ⟨rfl, HB⟩)
  obtain ⟨b0, hb0⟩ : ∃ b0, w.heap.size = b0 := ⟨_, rfl⟩
  have HZ := Lib.hid (HA0.out.trans (HB.out.mono HA0.out.size))
  have HAB : Hid (∀ W, Below w1.heap.size w1 W → AB W b0 fr d m) := Lib.hid (fun W h => by rw [← hb0]; exact (HA1.out.later HB.out).later h)
  have HFIN : Hid (∀ W, Below w1.heap.size w1 W → Below w.heap.size w W) := Lib.hid (fun W h => HZ.out.trans (h.mono HZ.out.size))
  have HE : Hid (∀ W, Below w1.heap.size w1 W → ER W g (.slice A len c) l0) := Lib.hid (fun W h => HR.out.later (HFIN.out W h))
  have HCO : Hid (∀ (k : Int) (W : World), Below w1.heap.size w1 W → Calls Tryd.prog 11 #[noV k] W fun r w' => r = .returned (.int .i64 k) ∧ Hid (Below W.heap.size W w')) := Lib.hid (fun k W h => HC0.out k W (HFIN.out W h))
  have HT : Hid (Below w1.heap.size w1 w1) := Lib.hid (Below.refl _ _)
  rw [hb0]
  clear HR HC0 HA0 HA1 HB hb0 HZ
  by_cases hbig : 120 < len ∨ 60 < n
  · go_wp2_with (go_at_call 19; refine (built_many n g _ l0 _ (HE.out _ HT.out) (by rw [HL.out]; exact hbig)).mono ?_; rintro e w2 ⟨rfl, HB2⟩)
    go_ret
    exact ⟨rfl, Lib.hid (HFIN.out _ (HT.out.trans (HB2.out.mono HT.out.size)))⟩
  by_cases hw : wrg n l0 = -2
  case neg =>
    have HW := Lib.hid hw
    clear hw
    go_wp2_with (go_at_call 19; refine (built_bad n g _ l0 _ (HE.out _ HT.out) (by rw [HL.out]; omega) (by omega) HW.out).mono ?_; rintro e w2 ⟨rfl, HB2⟩)
    go_ret
    exact ⟨rfl, Lib.hid (HFIN.out _ (HT.out.trans (HB2.out.mono HT.out.size)))⟩
  case pos =>
    obtain ⟨n0, n1, -, -⟩ := wrg_ok.1 hw
    obtain ⟨N, rfl⟩ := Int.eq_ofNat_of_zero_le n0
    have HW := Lib.hid hw
    have nn : N ≤ 60 := by omega
    have ll : len ≤ 120 := by omega
    clear hw n0 n1 hbig
    go_upto_region 6 with (go_at_call 19; refine (built_ok N g _ l0 _ (HE.out _ HT.out) (by rw [HL.out]; omega) nn HW.out).mono ?_; rintro e w2 ⟨p, bb, tv, rfl, HC, HB2⟩)
    have HT2 := Lib.hid (HT.out.trans (HB2.out.mono HT.out.size))
    have HUP : Hid (∀ W, Below w2.heap.size w2 W → Below w1.heap.size w1 W) := Lib.hid (fun W h => HT2.out.trans (h.mono HT2.out.size))
    have HU : Hid (Below w2.heap.size w2 w2) := Lib.hid (Below.refl _ _)
    have HABU : Hid (∀ W, Below w2.heap.size w2 W → AB W b0 fr d m) := Lib.hid (fun W h => HAB.out _ (HUP.out _ h))
    have HCU : Hid (∀ (k : Int) (W : World), Below w2.heap.size w2 W → Calls Tryd.prog 11 #[noV k] W fun r w' => r = .returned (.int .i64 k) ∧ Hid (Below W.heap.size W w')) := Lib.hid (fun k W h => HCO.out k W (HUP.out _ h))
    have HFU : Hid (∀ W, Below w2.heap.size w2 W → Below w.heap.size w W) := Lib.hid (fun W h => HFIN.out _ (HUP.out _ h))
    have HEU : Hid (∀ W, Below w2.heap.size w2 W → ER W g (.slice A len c) l0) := Lib.hid (fun W h => HE.out _ (HUP.out _ h))
    have HRN : Hid (∀ W : World, Below w2.heap.size w2 W → Calls Tryd.prog 16 #[.slice A len c] W fun e w' => ∃ v', e = .returned v' ∧ Hid (EO w' W.heap.size v' (nrm l0)) ∧ Hid (Below W.heap.size W w')) := Lib.hid (fun W h => rnorm_calls g _ l0 W (HEU.out W h) (by rw [HL.out]; omega))
    obtain ⟨x0, x1, x2⟩ := (HABU.out _ HU.out).cells
    clear HB2 HT HT2 HUP HCO HAB HE HFIN HW
    generalize nrm l0 = l at HC HRN
    have HLE : Hid (l.length ≤ 20000) := Lib.hid HC.out.few
    have HOK := Lib.hid HC.out.ok
    by_cases harg : 0 ≤ d ∧ 1 ≤ m
    case neg =>
      have harg' : d < 0 ∨ m < 1 := by omega
      have HSA : Hid (∀ W : World, Calls Tryd.prog 20 #[pV p, .int .i64 fr, .int .i64 d, .int .i64 m] W fun e w' => e = .returned (.tuple #[.slice none 0 0, noV 1]) ∧ W = w') := Lib.hid (fun W => search_arg (pV p) fr d m harg' W)
      by_cases hin : 0 ≤ fr ∧ fr < (N : Int)
      · have HRC : Hid (∀ W : World, Below w2.heap.size w2 W → Calls Tryd.prog 21 #[pV p, .int .i64 fr] W fun e w' => e = .returned (.tuple #[.int .i64 ((bfs N (tgt l) 4096 4096 fr).length : Int), .nilIface]) ∧ Hid (Below W.heap.size W w')) := Lib.hid (fun W h => reach_ok (HC.out.later h) fr hin _ rfl)
        generalize (bfs N (tgt l) 4096 4096 fr).length = rn at HRC
        have f1 : ¬ fr < 0 := by omega
        have f2 : ¬ fr ≥ (N : Int) := by omega
        clear hin harg
        by_cases hd : d < 0
        · go_wp2_with (first
            | (go_at_call 20; (with_reducible show Calls Tryd.prog 20 #[pV p, .int .i64 fr, .int .i64 d, .int .i64 m] _ _); refine (HSA.out _).mono ?_; rintro e w3 ⟨rfl, rfl⟩)
            | (go_at_call 20; refine (search_nil _).mono ?_; rintro e w4 ⟨rfl, HBx⟩; have HU := Lib.hid (HU.out.trans (HBx.out.mono HU.out.size)); clear HBx; obtain ⟨x0, x1, x2⟩ := (HABU.out _ HU.out).cells)
            | (go_at_call 21; refine (HRC.out _ HU.out).mono ?_; rintro e w5 ⟨rfl, HBx⟩; have HU := Lib.hid (HU.out.trans (HBx.out.mono HU.out.size)); clear HBx; obtain ⟨x0, x1, x2⟩ := (HABU.out _ HU.out).cells)
            | (go_at_call 11; refine (HCU.out _ _ HU.out).mono ?_; rintro e w6 ⟨rfl, HBx⟩; have HU := Lib.hid (HU.out.trans (HBx.out.mono HU.out.size)); clear HBx; obtain ⟨x0, x1, x2⟩ := (HABU.out _ HU.out).cells))
          go_ret
          exact ⟨rfl, Lib.hid (HFU.out _ HU.out)⟩
        · have hm : m < 1 := by omega
          go_wp2_with (first
            | (go_at_call 20; (with_reducible show Calls Tryd.prog 20 #[pV p, .int .i64 fr, .int .i64 d, .int .i64 m] _ _); refine (HSA.out _).mono ?_; rintro e w3 ⟨rfl, rfl⟩)
            | (go_at_call 20; refine (search_nil _).mono ?_; rintro e w4 ⟨rfl, HBx⟩; have HU := Lib.hid (HU.out.trans (HBx.out.mono HU.out.size)); clear HBx; obtain ⟨x0, x1, x2⟩ := (HABU.out _ HU.out).cells)
            | (go_at_call 21; refine (HRC.out _ HU.out).mono ?_; rintro e w5 ⟨rfl, HBx⟩; have HU := Lib.hid (HU.out.trans (HBx.out.mono HU.out.size)); clear HBx; obtain ⟨x0, x1, x2⟩ := (HABU.out _ HU.out).cells)
            | (go_at_call 11; refine (HCU.out _ _ HU.out).mono ?_; rintro e w6 ⟨rfl, HBx⟩; have HU := Lib.hid (HU.out.trans (HBx.out.mono HU.out.size)); clear HBx; obtain ⟨x0, x1, x2⟩ := (HABU.out _ HU.out).cells))
          go_ret
          exact ⟨rfl, Lib.hid (HFU.out _ HU.out)⟩
      · have hout : fr < 0 ∨ (N : Int) ≤ fr := by omega
        have HRC : Hid (∀ W : World, Below w2.heap.size w2 W → Calls Tryd.prog 21 #[pV p, .int .i64 fr] W fun e w' => e = .returned (.tuple #[.int .i64 0, noV 2]) ∧ Hid (Below W.heap.size W w')) := Lib.hid (fun W h => reach_out (HC.out.later h) fr hout)
        clear hin harg
        by_cases hd : d < 0
        · by_cases f1 : fr < 0
          · go_wp2_with (first
              | (go_at_call 20; (with_reducible show Calls Tryd.prog 20 #[pV p, .int .i64 fr, .int .i64 d, .int .i64 m] _ _); refine (HSA.out _).mono ?_; rintro e w3 ⟨rfl, rfl⟩)
              | (go_at_call 20; refine (search_nil _).mono ?_; rintro e w4 ⟨rfl, HBx⟩; have HU := Lib.hid (HU.out.trans (HBx.out.mono HU.out.size)); clear HBx; obtain ⟨x0, x1, x2⟩ := (HABU.out _ HU.out).cells)
              | (go_at_call 21; refine (HRC.out _ HU.out).mono ?_; rintro e w5 ⟨rfl, HBx⟩; have HU := Lib.hid (HU.out.trans (HBx.out.mono HU.out.size)); clear HBx; obtain ⟨x0, x1, x2⟩ := (HABU.out _ HU.out).cells)
              | (go_at_call 11; refine (HCU.out _ _ HU.out).mono ?_; rintro e w6 ⟨rfl, HBx⟩; have HU := Lib.hid (HU.out.trans (HBx.out.mono HU.out.size)); clear HBx; obtain ⟨x0, x1, x2⟩ := (HABU.out _ HU.out).cells))
            go_ret
            exact ⟨rfl, Lib.hid (HFU.out _ HU.out)⟩
          · have f2 : fr ≥ (N : Int) := by omega
            go_wp2_with (first
              | (go_at_call 20; (with_reducible show Calls Tryd.prog 20 #[pV p, .int .i64 fr, .int .i64 d, .int .i64 m] _ _); refine (HSA.out _).mono ?_; rintro e w3 ⟨rfl, rfl⟩)
              | (go_at_call 20; refine (search_nil _).mono ?_; rintro e w4 ⟨rfl, HBx⟩; have HU := Lib.hid (HU.out.trans (HBx.out.mono HU.out.size)); clear HBx; obtain ⟨x0, x1, x2⟩ := (HABU.out _ HU.out).cells)
              | (go_at_call 21; refine (HRC.out _ HU.out).mono ?_; rintro e w5 ⟨rfl, HBx⟩; have HU := Lib.hid (HU.out.trans (HBx.out.mono HU.out.size)); clear HBx; obtain ⟨x0, x1, x2⟩ := (HABU.out _ HU.out).cells)
              | (go_at_call 11; refine (HCU.out _ _ HU.out).mono ?_; rintro e w6 ⟨rfl, HBx⟩; have HU := Lib.hid (HU.out.trans (HBx.out.mono HU.out.size)); clear HBx; obtain ⟨x0, x1, x2⟩ := (HABU.out _ HU.out).cells))
            go_ret
            exact ⟨rfl, Lib.hid (HFU.out _ HU.out)⟩
        · have hm : m < 1 := by omega
          by_cases f1 : fr < 0
          · go_wp2_with (first
              | (go_at_call 20; (with_reducible show Calls Tryd.prog 20 #[pV p, .int .i64 fr, .int .i64 d, .int .i64 m] _ _); refine (HSA.out _).mono ?_; rintro e w3 ⟨rfl, rfl⟩)
              | (go_at_call 20; refine (search_nil _).mono ?_; rintro e w4 ⟨rfl, HBx⟩; have HU := Lib.hid (HU.out.trans (HBx.out.mono HU.out.size)); clear HBx; obtain ⟨x0, x1, x2⟩ := (HABU.out _ HU.out).cells)
              | (go_at_call 21; refine (HRC.out _ HU.out).mono ?_; rintro e w5 ⟨rfl, HBx⟩; have HU := Lib.hid (HU.out.trans (HBx.out.mono HU.out.size)); clear HBx; obtain ⟨x0, x1, x2⟩ := (HABU.out _ HU.out).cells)
              | (go_at_call 11; refine (HCU.out _ _ HU.out).mono ?_; rintro e w6 ⟨rfl, HBx⟩; have HU := Lib.hid (HU.out.trans (HBx.out.mono HU.out.size)); clear HBx; obtain ⟨x0, x1, x2⟩ := (HABU.out _ HU.out).cells))
            go_ret
            exact ⟨rfl, Lib.hid (HFU.out _ HU.out)⟩
          · have f2 : fr ≥ (N : Int) := by omega
            go_wp2_with (first
              | (go_at_call 20; (with_reducible show Calls Tryd.prog 20 #[pV p, .int .i64 fr, .int .i64 d, .int .i64 m] _ _); refine (HSA.out _).mono ?_; rintro e w3 ⟨rfl, rfl⟩)
              | (go_at_call 20; refine (search_nil _).mono ?_; rintro e w4 ⟨rfl, HBx⟩; have HU := Lib.hid (HU.out.trans (HBx.out.mono HU.out.size)); clear HBx; obtain ⟨x0, x1, x2⟩ := (HABU.out _ HU.out).cells)
              | (go_at_call 21; refine (HRC.out _ HU.out).mono ?_; rintro e w5 ⟨rfl, HBx⟩; have HU := Lib.hid (HU.out.trans (HBx.out.mono HU.out.size)); clear HBx; obtain ⟨x0, x1, x2⟩ := (HABU.out _ HU.out).cells)
              | (go_at_call 11; refine (HCU.out _ _ HU.out).mono ?_; rintro e w6 ⟨rfl, HBx⟩; have HU := Lib.hid (HU.out.trans (HBx.out.mono HU.out.size)); clear HBx; obtain ⟨x0, x1, x2⟩ := (HABU.out _ HU.out).cells))
            go_ret
            exact ⟨rfl, Lib.hid (HFU.out _ HU.out)⟩
    case pos =>
      have d1 : ¬ d < 0 := by omega
      have m1 : ¬ m < 1 := by omega
      by_cases hin : 0 ≤ fr ∧ fr < (N : Int)
      case neg =>
        have hout : fr < 0 ∨ (N : Int) ≤ fr := by omega
        have HSO : Hid (∀ W : World, Below w2.heap.size w2 W → Calls Tryd.prog 20 #[pV p, .int .i64 fr, .int .i64 d, .int .i64 m] W fun e w' => e = .returned (.tuple #[.slice none 0 0, noV 2]) ∧ Hid (Below W.heap.size W w')) := Lib.hid (fun W h => search_out (HC.out.later h) fr d m harg.1 harg.2 hout)
        have HRC : Hid (∀ W : World, Below w2.heap.size w2 W → Calls Tryd.prog 21 #[pV p, .int .i64 fr] W fun e w' => e = .returned (.tuple #[.int .i64 0, noV 2]) ∧ Hid (Below W.heap.size W w')) := Lib.hid (fun W h => reach_out (HC.out.later h) fr hout)
        clear hin harg
        by_cases f1 : fr < 0
        · go_wp2_with (first
            | (go_at_call 20; (with_reducible show Calls Tryd.prog 20 #[pV p, .int .i64 fr, .int .i64 d, .int .i64 m] _ _); refine (HSO.out _ HU.out).mono ?_; rintro e w3 ⟨rfl, HBx⟩; have HU := Lib.hid (HU.out.trans (HBx.out.mono HU.out.size)); clear HBx; obtain ⟨x0, x1, x2⟩ := (HABU.out _ HU.out).cells)
            | (go_at_call 20; refine (search_nil _).mono ?_; rintro e w4 ⟨rfl, HBx⟩; have HU := Lib.hid (HU.out.trans (HBx.out.mono HU.out.size)); clear HBx; obtain ⟨x0, x1, x2⟩ := (HABU.out _ HU.out).cells)
            | (go_at_call 21; refine (HRC.out _ HU.out).mono ?_; rintro e w5 ⟨rfl, HBx⟩; have HU := Lib.hid (HU.out.trans (HBx.out.mono HU.out.size)); clear HBx; obtain ⟨x0, x1, x2⟩ := (HABU.out _ HU.out).cells)
            | (go_at_call 11; refine (HCU.out _ _ HU.out).mono ?_; rintro e w6 ⟨rfl, HBx⟩; have HU := Lib.hid (HU.out.trans (HBx.out.mono HU.out.size)); clear HBx; obtain ⟨x0, x1, x2⟩ := (HABU.out _ HU.out).cells))
          go_ret
          exact ⟨rfl, Lib.hid (HFU.out _ HU.out)⟩
        · have f2 : fr ≥ (N : Int) := by omega
          go_wp2_with (first
            | (go_at_call 20; (with_reducible show Calls Tryd.prog 20 #[pV p, .int .i64 fr, .int .i64 d, .int .i64 m] _ _); refine (HSO.out _ HU.out).mono ?_; rintro e w3 ⟨rfl, HBx⟩; have HU := Lib.hid (HU.out.trans (HBx.out.mono HU.out.size)); clear HBx; obtain ⟨x0, x1, x2⟩ := (HABU.out _ HU.out).cells)
            | (go_at_call 20; refine (search_nil _).mono ?_; rintro e w4 ⟨rfl, HBx⟩; have HU := Lib.hid (HU.out.trans (HBx.out.mono HU.out.size)); clear HBx; obtain ⟨x0, x1, x2⟩ := (HABU.out _ HU.out).cells)
            | (go_at_call 21; refine (HRC.out _ HU.out).mono ?_; rintro e w5 ⟨rfl, HBx⟩; have HU := Lib.hid (HU.out.trans (HBx.out.mono HU.out.size)); clear HBx; obtain ⟨x0, x1, x2⟩ := (HABU.out _ HU.out).cells)
            | (go_at_call 11; refine (HCU.out _ _ HU.out).mono ?_; rintro e w6 ⟨rfl, HBx⟩; have HU := Lib.hid (HU.out.trans (HBx.out.mono HU.out.size)); clear HBx; obtain ⟨x0, x1, x2⟩ := (HABU.out _ HU.out).cells))
          go_ret
          exact ⟨rfl, Lib.hid (HFU.out _ HU.out)⟩
      case pos =>
        have f1 : ¬ fr < 0 := by omega
        have f2 : ¬ fr ≥ (N : Int) := by omega
        have ht : ∀ v : Int, 0 ≤ v ∧ v < (N : Int) → ∀ x ∈ tgt l v, 0 ≤ x ∧ x < (N : Int) := fun v hv x hx => by have := HOK.out _ (mem_tgt.1 hx); unfold okE at this; exact ⟨this.2.1, this.2.2.2⟩
        have hsm := bfs_same (d := 4096) (m := 4096) (d' := 100) (m' := 100) (fr := fr) ht hin (by omega) (by omega) (by omega) (by omega)
        have HSO : Hid (∀ W : World, Below w2.heap.size w2 W → Calls Tryd.prog 20 #[pV p, .int .i64 fr, .int .i64 d, .int .i64 m] W fun e w' => ∃ v, e = .returned (.tuple #[v, .nilIface]) ∧ Hid (MO w' W.heap.size v (mts (bfs N (tgt l) d m fr))) ∧ Hid (Below W.heap.size W w')) := Lib.hid (fun W h => search_ok (HC.out.later h) fr d m harg.1 harg.2 hin)
        have HRC : Hid (∀ W : World, Below w2.heap.size w2 W → Calls Tryd.prog 21 #[pV p, .int .i64 fr] W fun e w' => e = .returned (.tuple #[.int .i64 ((bfs N (tgt l) 100 100 fr).length : Int), .nilIface]) ∧ Hid (Below W.heap.size W w')) := Lib.hid (fun W h => by rw [← hsm]; exact reach_ok (HC.out.later h) fr hin _ rfl)
        have HRS : Hid (∀ (W : World) (g : Nat) (v : Value), ER W g v l → Calls Tryd.prog 22 #[v, .int .i64 fr, .int .i64 d, .int .i64 m] W fun e w' => ∃ v1 v2, e = .returned (.tuple #[v1, v2]) ∧ Hid (RT W w' W.heap.size v1 v2 (.slice none 0 0) (nds (bfs N (tgt l) d m fr)) (fars (bfs N (tgt l) d m fr)) [])) := Lib.hid (fun W g v h => rsearch_calls g v l N fr d m W h HLE.out HOK.out (by omega) hin harg.1 harg.2)
        have HRA : Hid (∀ (W : World) (g : Nat) (v : Value), ER W g v l → Calls Tryd.prog 22 #[v, .int .i64 fr, .int .i64 100, .int .i64 100] W fun e w' => ∃ v1 v2, e = .returned (.tuple #[v1, v2]) ∧ Hid (RT W w' W.heap.size v1 v2 (.slice none 0 0) (nds (bfs N (tgt l) 100 100 fr)) (fars (bfs N (tgt l) 100 100 fr)) [])) := Lib.hid (fun W g v h => rsearch_calls g v l N fr 100 100 W h HLE.out HOK.out (by omega) hin (by omega) (by omega))
        have hlq : (bfs N (tgt l) d m fr).length ≤ 60 := by
          obtain ⟨k, hk⟩ := Q.run ht N 0 (Q.start (d := d) (m := m) fr hin harg.1 harg.2)
          exact Nat.le_trans hk.len nn
        generalize bfs N (tgt l) 100 100 fr = R2 at HRC HRA
        generalize bfs N (tgt l) d m fr = R at HSO HRS hlq
        obtain ⟨rn, hrn⟩ : ∃ rn, R.length = rn := ⟨_, rfl⟩
        obtain ⟨r2, hr2⟩ : ∃ r2, R2.length = r2 := ⟨_, rfl⟩
        rw [hr2] at HRC
        rw [hrn] at hlq
        have HLR := Lib.hid hrn
        have HLR2 := Lib.hid hr2
        have e1 : ((r2 : Int) != (r2 : Int)) = false := by simp
        have e2 : ((rn : Int) != (rn : Int)) = false := by simp
        clear ht hsm hin harg hrn hr2
        go_upto_region 24 with (first
          | (go_at_call 20; (with_reducible show Calls Tryd.prog 20 #[pV p, .int .i64 fr, .int .i64 d, .int .i64 m] _ _); refine (HSO.out _ HU.out).mono ?_; rintro e w3 ⟨v3, rfl, HM3, HBx⟩; have HU := Lib.hid (HU.out.trans (HBx.out.mono HU.out.size)); clear HBx; obtain ⟨x0, x1, x2⟩ := (HABU.out _ HU.out).cells; have HY : Hid (Below w3.heap.size w3 w3) := Lib.hid (Below.refl _ _); obtain ⟨A3, c3, hv3, hle3, -⟩ := id HM3.out.shape; rw [mts_len, HLR.out] at hv3 hle3; subst hv3)
          | (go_at_call 20; refine (search_nil _).mono ?_; rintro e w4 ⟨rfl, HBx⟩; have HU := Lib.hid (HU.out.trans (HBx.out.mono HU.out.size)); have HY := Lib.hid (HY.out.trans (HBx.out.mono HY.out.size)); clear HBx; obtain ⟨x0, x1, x2⟩ := (HABU.out _ HU.out).cells)
          | (go_at_call 21; refine (HRC.out _ HU.out).mono ?_; rintro e w5 ⟨rfl, HBx⟩; have HU := Lib.hid (HU.out.trans (HBx.out.mono HU.out.size)); have HY := Lib.hid (HY.out.trans (HBx.out.mono HY.out.size)); clear HBx; obtain ⟨x0, x1, x2⟩ := (HABU.out _ HU.out).cells)
          | (go_at_call 11; refine (HCU.out _ _ HU.out).mono ?_; rintro e w6 ⟨rfl, HBx⟩; have HU := Lib.hid (HU.out.trans (HBx.out.mono HU.out.size)); have HY := Lib.hid (HY.out.trans (HBx.out.mono HY.out.size)); clear HBx; obtain ⟨x0, x1, x2⟩ := (HABU.out _ HU.out).cells)
          | (go_at_call 16; refine (HRN.out _ HU.out).mono ?_; rintro e w7 ⟨v7, rfl, HO7, HBx⟩; have HU := Lib.hid (HU.out.trans (HBx.out.mono HU.out.size)); have HY := Lib.hid (HY.out.trans (HBx.out.mono HY.out.size)); clear HBx; obtain ⟨x0, x1, x2⟩ := (HABU.out _ HU.out).cells; obtain ⟨g7, hg7, -⟩ := HO7.out.reads; have HE7 := Lib.hid hg7; clear hg7 HO7)
          | (go_at_call 22; (with_reducible show Calls Tryd.prog 22 #[_, .int .i64 fr, .int .i64 d, .int .i64 m] _ _); refine (HRS.out _ g7 _ HE7.out).mono ?_; rintro e w8 ⟨v8, u8, rfl, HT8⟩; have HE7 := Lib.hid (HE7.out.later HT8.out.bel); have HU := Lib.hid (HU.out.trans (HT8.out.bel.mono HU.out.size)); have HY := Lib.hid (HY.out.trans (HT8.out.bel.mono HY.out.size)); obtain ⟨x0, x1, x2⟩ := (HABU.out _ HU.out).cells; obtain ⟨A8, c8, hv8, hle8⟩ := id HT8.out.met.shape; rw [nds_len, HLR.out] at hv8 hle8; subst hv8; obtain ⟨A9, c9, hv9, hle9⟩ := id HT8.out.far.shape; rw [fars_len, HLR.out] at hv9 hle9; subst hv9)
          | (go_at_call 22; refine (HRA.out _ g7 _ HE7.out).mono ?_; rintro e w10 ⟨v10, u10, rfl, HT10⟩; have HU := Lib.hid (HU.out.trans (HT10.out.bel.mono HU.out.size)); have HY := Lib.hid (HY.out.trans (HT10.out.bel.mono HY.out.size)); obtain ⟨A10, c10, hv10, hle10⟩ := id HT10.out.met.shape; rw [nds_len, HLR2.out] at hv10 hle10; subst hv10))
        have HM := Lib.hid (HM3.out.later HY.out)
        have HT := Lib.hid (HT8.out.later HT8.out.bel.size HT10.out.bel)
        obtain ⟨gM, hgM, -⟩ := HM.out.reads
        obtain ⟨g8, hg8, -⟩ := HT.out.met.reads
        obtain ⟨g9, hg9, -⟩ := HT.out.far.reads
        have HG3 := Lib.hid hgM
        have HG8 := Lib.hid hg8
        have HG9 := Lib.hid hg9
        have HY0 : Hid (Below w10.heap.size w10 w10) := Lib.hid (Below.refl _ _)
        have HFX : Hid (∀ W, Below w10.heap.size w10 W → Below w.heap.size w W) := Lib.hid (fun W h => HFU.out _ (HU.out.trans (h.mono HU.out.size)))
        clear hgM hg8 hg9 HM3 HT8 HT10 HE7 HY HU x0 x1 x2 HABU HCU HFU HRN HSO HRC HRS HRA HM HT e1 e2 HC HOK hle10
        go_loopw [141] (fun x wz => ∃ i : Nat, x = .int .i64 (i : Int) ∧ i ≤ rn ∧ Hid (Below w10.heap.size w10 wz)) (fun x _ => rn - (intOf x).toNat)
        case atStart => exact ⟨0, rfl, Nat.zero_le _, HY0⟩
        case round =>
          clear HY0
          obtain ⟨i, rfl, hi, HY⟩ := hrel
          by_cases hlt : i < rn
          · obtain ⟨oM, A3', c3', hv3', -, -, hrd3⟩ := HG3.out.later HY.out
            rw [mts_len, HLR.out] at hv3' hrd3
            injection hv3' with hv1 _ hv2
            subst hv1 hv2
            obtain ⟨rfl, -, hcell3⟩ := hrd3 (by omega)
            obtain ⟨q0, q1⟩ := hcell3 i hlt
            rw [mts_get] at q0 q1
            simp only at q0 q1
            have HNZ : Hid (∀ W, Below wr.heap.size wr W → (∃ o8, A8 = some ⟨g8, o8, none⟩ ∧ W.cell? ⟨g8, o8 + i, none⟩ = some (.int .i64 (nd R i))) ∧ (∃ o9, A9 = some ⟨g9, o9, none⟩ ∧ W.cell? ⟨g9, o9 + i, none⟩ = some (.int .i64 (tf R i)))) := Lib.hid (fun W h => by
              obtain ⟨A8', c8', o8, hv8, -, -, hr8⟩ := (HG8.out.later HY.out).later h
              obtain ⟨A9', c9', o9, hv9, -, -, hr9⟩ := (HG9.out.later HY.out).later h
              rw [nds_len, HLR.out] at hv8 hr8
              rw [fars_len, HLR.out] at hv9 hr9
              injection hv8 with h8 _ _
              injection hv9 with h9 _ _
              obtain ⟨a8, -, b8⟩ := hr8 (by omega)
              obtain ⟨a9, -, b9⟩ := hr9 (by omega)
              have t8 := b8 i hlt
              have t9 := b9 i hlt
              rw [nds_get] at t8
              rw [fars_get] at t9
              exact ⟨⟨o8, h8.trans a8, t8⟩, ⟨o9, h9.trans a9, t9⟩⟩)
            obtain ⟨xn, hxn⟩ : ∃ x, nd R i = x := ⟨_, rfl⟩
            obtain ⟨xf, hxf⟩ : ∃ x, tf R i = x := ⟨_, rfl⟩
            rw [hxn] at q0 HNZ
            rw [hxf] at q1 HNZ
            have i0 : (0 : Int) ≤ (i : Int) := by omega
            have i1 : (i : Int) < (rn : Int) := by omega
            have hgd := fun (op : BinOp) (p q : Operand) (w : World) => guard_run op p q (xn, xf) (xn, xf) w
            simp only at hgd
            have hne : ∀ w, (binOp .neq 47 (.agg #[.int .i64 xn, .int .i64 xf]) (.agg #[.int .i64 xn, .int .i64 xf])).run Tryd.prog w = .ok (.bool false) w := fun w => by
              have := neq_run (xn, xf) (xn, xf) w
              rwa [decide_eq_true rfl] at this
            clear hcell3 hrd3 hxn hxf
            go_upto_region 26 with (fail)
            have HB7a : Hid (Below wr.heap.size wr (wr.alloc (.cells #[.int .i64 xn, .int .i64 xf] 47))) := Lib.hid ((Below.refl _ _).alloc (Nat.le_refl _) _)
            have HM7 : Hid ((wr.alloc (.cells #[.int .i64 xn, .int .i64 xf] 47)).heap[wr.heap.size]? = some (.cells #[.int .i64 xn, .int .i64 xf] 47 (0, 0))) := Lib.hid (heap_alloc_new wr _)
            generalize wr.alloc (.cells #[.int .i64 xn, .int .i64 xf] 47) = W7 at HB7a HM7 ⊢
            have HB7 := Lib.hid (HY.out.trans (HB7a.out.mono HY.out.size))
            obtain ⟨bm, hbm⟩ : ∃ bm, wr.heap.size = bm := ⟨_, rfl⟩
            rw [hbm] at HM7 ⊢
            have m0' : W7.cell? ⟨bm, 0, none⟩ = some (.int .i64 xn) := cell_of_row W7 bm 0 _ _ _ HM7.out
            have m1' : W7.cell? ⟨bm, 1, none⟩ = some (.int .i64 xf) := cell_of_row W7 bm 1 _ _ _ HM7.out
            obtain ⟨⟨o8, rfl, t8⟩, ⟨o9, rfl, t9⟩⟩ := HNZ.out _ HB7a.out
            clear q0 q1 HB7a hbm HNZ HM7 hlt
            go_quiet (fail)
            go_wp2
            go_roundw
            case rel => exact ⟨i + 1, by go_num, by omega, Lib.hid (HB7.out.trans ((Ed.drewN_below _ _ _).mono HB7.out.size))⟩
            case measure => simp [intOf]; omega
          · obtain rfl : rn = i := by omega
            go_wp2
            go_ret
            exact ⟨rfl, Lib.hid (HFX.out _ HY.out)⟩
theorem searches_row (n : Int) (g : Nat) (v : Value) (l : List E2) (f1 d1 m1 : Int) (w : World) (hG : Er.G0 w) (hn : (Lit.int .i64 n).wf = true) (hr : ER w g v l) (hb : ∀ e ∈ l, (-9223372036854775808 ≤ e.1 ∧ e.1 < 9223372036854775808) ∧ (-9223372036854775808 ≤ e.2 ∧ e.2 < 9223372036854775808))
    (h0 : (Lit.int .i64 f1).wf = true) (h1 : (Lit.int .i64 d1).wf = true) (h2 : (Lit.int .i64 m1).wf = true) :
    Calls Tryd.prog 4 #[.int .i64 n, v, .agg #[.int .i64 f1, .int .i64 d1, .int .i64 m1]] w fun e w' => e = .returned (.bool true) ∧ Below w.heap.size w w' := by
  obtain ⟨A, c, rfl, -⟩ := er_form hr
  exact (searches_walk n g A l.length c l f1 d1 m1 w hG hr rfl).mono fun _ _ h => ⟨h.1, h.2.out⟩
end Go.Proofs.YthnpaiobjmneaaaDoor.Ak
