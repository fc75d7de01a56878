/- AskTurned, walked. -/
import Derived.Test.YthnpaiobjmneaaaDoorAy
import Derived.Test.YthnpaiobjmneaaaDoorCo
import Derived.Test.YthnpaiobjmneaaaDoorEn
import Derived.BigQuiet
namespace Go.Proofs.YthnpaiobjmneaaaDoor.Ak
open Go.RowKit Go.Proofs.YthnpaiobjmneaaaDoor.Ed Go.Proofs.YthnpaiobjmneaaaDoor.Ro Go.Proofs.YthnpaiobjmneaaaDoor.Cs
set_option linter.unusedVariables false
set_option linter.unusedSimpArgs false
section
variable {w : World} {B p bb N : Nat} {tv : Value} {l : List E2}
theorem cs_tgt (hc : CS w B p bb tv N l) : ∀ v : Int, 0 ≤ v ∧ v < (N : Int) → ∀ x ∈ tgt l v, 0 ≤ x ∧ x < (N : Int) := fun v hv x hx => by
  have := hc.ok _ (mem_tgt.1 hx); unfold okE at this; exact ⟨this.2.1, this.2.2.2⟩
theorem far_lt (hc : CS w B p bb tv N l) (hN : N ≤ 60) {fr tz : Int} (hf : 0 ≤ fr ∧ fr < (N : Int)) {n : Nat} (h : FarIs (tgt l) fr tz (some n)) : n < 60 := by
  have hw := bfs_whole (d := 4096) (m := 4096) (cs_tgt hc) hf (by omega) (by omega)
  obtain ⟨k, k1, k2, k3⟩ := hw.has h.1
  have hd := hw.dst k1
  rw [k2] at hd
  have := Dst.one h hd
  have := (hw.cap k k1).2
  have := hw.len
  omega
theorem far_calls (hc : CS w B p bb tv N l) (hN : N ≤ 60) (fr tz : Int) (hf : 0 ≤ fr ∧ fr < (N : Int)) (ht : 0 ≤ tz ∧ tz < (N : Int)) (r : Option Nat) (hr : FarIs (tgt l) fr tz r) :
    Calls Tryd.prog 38 #[pV p, .int .i64 fr, .int .i64 tz] w fun e w' => e = .returned (farV r) ∧ Hid (Below w.heap.size w w') := by
  obtain ⟨r', h1, h2⟩ := far_is hc hN fr tz hf ht
  rw [hr.one h1]
  exact h2
end
theorem tgt_turn (l : List E2) : ∀ x y : Int, y ∈ tgt l x ↔ x ∈ tgt (nrm (trn l)) y := fun x y => by
  rw [mem_tgt, mem_tgt, mem_nrm, mem_trn]
/-- what AskTurned's last line says of three distances -/
theorem far_three {t : Int → List Int} {a b m : Int} {r1 : Option Nat} {p q : Nat} (h1 : FarIs t a b r1) (h2 : FarIs t a m (some p)) (h3 : FarIs t m b (some q)) : ∃ n, r1 = some n ∧ n ≤ p + q := by
  have hw := h2.1.app h3.1
  cases r1 with
  | none => exact absurd hw (h1 _)
  | some n => exact ⟨n, rfl, h1.2 _ hw⟩
set_option maxHeartbeats 8000000 in
set_option maxRecDepth 100000 in
theorem turned_walk (n : Int) (g : Nat) (A : Option Addr) (len c : Nat) (l0 : List E2) (x y z : Int) (w : World) (hG : Er.G0 w) (hr : ER w g (.slice A len c) l0) (hlen : l0.length = len) (hx : 0 ≤ x ∧ x < 256) (hy : 0 ≤ y ∧ y < 256) (hz : 0 ≤ z ∧ z < 256) :
    Calls Tryd.prog 7 #[.int .i64 n, .slice A len c, .agg #[.int .u8 x, .int .u8 y, .int .u8 z]] w fun e w' => e = .returned (.bool true) ∧ Hid (Below w.heap.size w w') := by
  have HR := Lib.hid hr
  have HL := Lib.hid hlen
  have HXYZ := Lib.hid (And.intro hx (And.intro hy hz))
  have HC0 : Hid (∀ (k : Int) (W : World), Below w.heap.size w W → Calls Tryd.prog 11 #[noV k] W fun r w' => r = .returned (.int .i64 k) ∧ Hid (Below W.heap.size W w')) := Lib.hid (fun k W h => Er.code_calls (.no k) W (g0_later hG h))
  have HCN0 : Hid (∀ (W : World), Below w.heap.size w W → Calls Tryd.prog 11 #[.nilIface] W fun r w' => r = .returned (.int .i64 0) ∧ Hid (Below W.heap.size W w')) := Lib.hid (fun W h => Er.code_calls .nil W (g0_later hG h))
  have HA0 : Hid (Below w.heap.size w (w.alloc (.cells #[.int .u8 x, .int .u8 y, .int .u8 z] 69))) := Lib.hid ((Below.refl _ _).alloc (Nat.le_refl _) _)
  have HA1 : Hid ((w.alloc (.cells #[.int .u8 x, .int .u8 y, .int .u8 z] 69)).heap[w.heap.size]? = some (.cells #[.int .u8 x, .int .u8 y, .int .u8 z] 69 (0, 0))) := Lib.hid (heap_alloc_new w _)
  clear hr hlen hG hx hy hz
  go_enter Tryd.func7, Tryd.ntmps7
  go_upto_region 3 with (go_at_call 18; refine (awake_calls _).mono ?_; rintro e w1 ⟨rfl, HB⟩)
  obtain ⟨b0, hb0⟩ : ∃ b0, w.heap.size = b0 := ⟨_, rfl⟩
  have HZ := Lib.hid (HA0.out.trans (HB.out.mono HA0.out.size))
  have HAB : Hid (∀ W, Below w1.heap.size w1 W → W.heap[b0]? = some (.cells #[.int .u8 x, .int .u8 y, .int .u8 z] 69 (0, 0))) := Lib.hid (fun W h => by
    have h0 : w1.heap[b0]? = some (.cells #[.int .u8 x, .int .u8 y, .int .u8 z] 69 (0, 0)) := by
      rw [← hb0, HB.out.block _ (Array.getElem?_eq_some_iff.1 HA1.out).1]; exact HA1.out
    rw [h.block _ (Array.getElem?_eq_some_iff.1 h0).1]; exact h0)
  have HFIN : Hid (∀ W, Below w1.heap.size w1 W → Below w.heap.size w W) := Lib.hid (fun W h => HZ.out.trans (h.mono HZ.out.size))
  have HE : Hid (∀ W, Below w1.heap.size w1 W → ER W g (.slice A len c) l0) := Lib.hid (fun W h => HR.out.later (HFIN.out W h))
  have HT : Hid (Below w1.heap.size w1 w1) := Lib.hid (Below.refl _ _)
  rw [hb0]
  clear HR HA0 HA1 HB hb0 HZ
  by_cases hbig : 120 < len ∨ 60 < n
  · go_wp2_with (go_at_call 19; refine (built_many n g _ l0 _ (HE.out _ HT.out) (by rw [HL.out]; exact hbig)).mono ?_; rintro e w2 ⟨rfl, HB2⟩)
    go_ret
    exact ⟨rfl, Lib.hid (HFIN.out _ (HT.out.trans (HB2.out.mono HT.out.size)))⟩
  by_cases hw : wrg n l0 = -2
  case neg =>
    have HW := Lib.hid hw
    clear hw
    go_wp2_with (go_at_call 19; refine (built_bad n g _ l0 _ (HE.out _ HT.out) (by rw [HL.out]; omega) (by omega) HW.out).mono ?_; rintro e w2 ⟨rfl, HB2⟩)
    go_ret
    exact ⟨rfl, Lib.hid (HFIN.out _ (HT.out.trans (HB2.out.mono HT.out.size)))⟩
  case pos =>
    obtain ⟨n0, n1, -, -⟩ := wrg_ok.1 hw
    obtain ⟨N, rfl⟩ := Int.eq_ofNat_of_zero_le n0
    have HW := Lib.hid hw
    have nn : N ≤ 60 := by omega
    have ll : len ≤ 120 := by omega
    clear hw n0 n1 hbig
    by_cases hN1 : N < 1
    · have b1 : (N : Int) < 1 := by omega
      go_wp2_with (go_at_call 19; refine (built_ok N g _ l0 _ (HE.out _ HT.out) (by rw [HL.out]; omega) nn HW.out).mono ?_; rintro e w2 ⟨p, bb, tv, rfl, HC, HB2⟩)
      go_ret
      exact ⟨rfl, Lib.hid (HFIN.out _ (HT.out.trans (HB2.out.mono HT.out.size)))⟩
    have b1 : ¬ (N : Int) < 1 := by omega
    go_upto_region 6 with (go_at_call 19; refine (built_ok N g _ l0 _ (HE.out _ HT.out) (by rw [HL.out]; omega) nn HW.out).mono ?_; rintro e w2 ⟨p, bb, tv, rfl, HC, HB2⟩)
    have HT2 := Lib.hid (HT.out.trans (HB2.out.mono HT.out.size))
    have HFU : Hid (∀ W, Below w2.heap.size w2 W → Below w.heap.size w W) := Lib.hid (fun W h => HFIN.out _ (HT2.out.trans (h.mono HT2.out.size)))
    have HCU : Hid (∀ (k : Int) (W : World), Below w2.heap.size w2 W → Calls Tryd.prog 11 #[noV k] W fun r w' => r = .returned (.int .i64 k) ∧ Hid (Below W.heap.size W w')) := Lib.hid (fun k W h => HC0.out k W (HFU.out W h))
    have HCN : Hid (∀ (W : World), Below w2.heap.size w2 W → Calls Tryd.prog 11 #[.nilIface] W fun r w' => r = .returned (.int .i64 0) ∧ Hid (Below W.heap.size W w')) := Lib.hid (fun W h => HCN0.out W (HFU.out W h))
    have hblk := HAB.out _ HT2.out
    have c0 : w2.cell? ⟨b0, 0, none⟩ = some (.int .u8 x) := cell_of_row w2 _ 0 _ _ _ hblk
    have c1 : w2.cell? ⟨b0, 1, none⟩ = some (.int .u8 y) := cell_of_row w2 _ 1 _ _ _ hblk
    have c2 : w2.cell? ⟨b0, 2, none⟩ = some (.int .u8 z) := cell_of_row w2 _ 2 _ _ _ hblk
    obtain ⟨⟨hx0, hx1⟩, ⟨hy0, hy1⟩, ⟨hz0, hz1⟩⟩ := HXYZ.out
    have hNN : (1 : Int) ≤ (N : Int) := by omega
    have hN0 : ¬ (N : Int) = 0 := by omega
    clear HB2 HT HT2 HAB HFIN HE HW HC0 HCN0 hblk
    generalize nrm l0 = l at HC
    go_quiet (fail)
    have ha : 0 ≤ x % (N : Int) ∧ x % (N : Int) < (N : Int) := ⟨Int.emod_nonneg _ (by omega), Int.emod_lt_of_pos _ (by omega)⟩
    have hb : 0 ≤ y % (N : Int) ∧ y % (N : Int) < (N : Int) := ⟨Int.emod_nonneg _ (by omega), Int.emod_lt_of_pos _ (by omega)⟩
    have hm : 0 ≤ z % (N : Int) ∧ z % (N : Int) < (N : Int) := ⟨Int.emod_nonneg _ (by omega), Int.emod_lt_of_pos _ (by omega)⟩
    generalize x % (N : Int) = a at ha ⊢
    generalize y % (N : Int) = b at hb ⊢
    generalize z % (N : Int) = m at hm ⊢
    have HD := Lib.hid (Ed.drewN_below w2.heap.size w2 nq)
    have HC3 := Lib.hid (HC.out.later HD.out)
    have HFD : Hid (∀ W, Below (w2.drewN nq).heap.size (w2.drewN nq) W → Below w2.heap.size w2 W) := Lib.hid (fun W h => HD.out.trans (h.mono HD.out.size))
    clear c0 c1 c2 hx0 hx1 hy0 hy1 hz0 hz1 HXYZ
    generalize w2.drewN nq = w3 at HC3 HFD ⊢
    have HFX : Hid (∀ W, Below w3.heap.size w3 W → Below w.heap.size w W) := Lib.hid (fun W h => HFU.out _ (HFD.out _ h))
    have HCX : Hid (∀ (k : Int) (W : World), Below w3.heap.size w3 W → Calls Tryd.prog 11 #[noV k] W fun r w' => r = .returned (.int .i64 k) ∧ Hid (Below W.heap.size W w')) := Lib.hid (fun k W h => HCU.out k W (HFD.out W h))
    have HCNX : Hid (∀ (W : World), Below w3.heap.size w3 W → Calls Tryd.prog 11 #[.nilIface] W fun r w' => r = .returned (.int .i64 0) ∧ Hid (Below W.heap.size W w')) := Lib.hid (fun W h => HCN.out W (HFD.out W h))
    obtain ⟨r1, f1, -⟩ := far_is HC3.out nn a b ha hb
    obtain ⟨r3, f3, -⟩ := far_is HC3.out nn a m ha hm
    obtain ⟨r4, f4, -⟩ := far_is HC3.out nn m b hm hb
    have HTU : Hid (∀ W : World, Below w3.heap.size w3 W → Calls Tryd.prog 36 #[pV p] W fun e w' => ∃ p2 bb2 tv2, e = .returned (pV p2) ∧ Hid (CS w' W.heap.size p2 bb2 tv2 N (nrm (trn l))) ∧ Hid (Below W.heap.size W w')) := Lib.hid (fun W h => cturned_calls (HC3.out.later h))
    have f2 := f1.turn (tgt_turn l)
    have F1 : Hid (∀ (W : World) (r : Option Nat), r1 = r → Below w3.heap.size w3 W → Calls Tryd.prog 38 #[pV p, .int .i64 a, .int .i64 b] W fun e w' => e = .returned (farV r) ∧ Hid (Below W.heap.size W w')) := Lib.hid (fun W r e h => by subst e; exact far_calls (HC3.out.later h) nn a b ha hb r1 f1)
    have F3 : Hid (∀ (W : World) (r : Option Nat), r3 = r → Below w3.heap.size w3 W → Calls Tryd.prog 38 #[pV p, .int .i64 a, .int .i64 m] W fun e w' => e = .returned (farV r) ∧ Hid (Below W.heap.size W w')) := Lib.hid (fun W r e h => by subst e; exact far_calls (HC3.out.later h) nn a m ha hm r3 f3)
    have F4 : Hid (∀ (W : World) (r : Option Nat), r4 = r → Below w3.heap.size w3 W → Calls Tryd.prog 38 #[pV p, .int .i64 m, .int .i64 b] W fun e w' => e = .returned (farV r) ∧ Hid (Below W.heap.size W w')) := Lib.hid (fun W r e h => by subst e; exact far_calls (HC3.out.later h) nn m b hm hb r4 f4)
    have F2 : Hid (∀ (W : World) (p2 : Nat) (B2 bb2 : Nat) (tv2 : Value) (r : Option Nat), r1 = r → CS W B2 p2 bb2 tv2 N (nrm (trn l)) → Calls Tryd.prog 38 #[pV p2, .int .i64 b, .int .i64 a] W fun e w' => e = .returned (farV r) ∧ Hid (Below W.heap.size W w')) := Lib.hid (fun W p2 B2 bb2 tv2 r e h => by subst e; exact far_calls h nn b a hb ha r1 f2)
    have HLT : Hid ((∀ n, r1 = some n → n < 60) ∧ (∀ n, r3 = some n → n < 60) ∧ (∀ n, r4 = some n → n < 60)) := Lib.hid ⟨fun n e => by subst e; exact far_lt HC3.out nn ha f1, fun n e => by subst e; exact far_lt HC3.out nn ha f3, fun n e => by subst e; exact far_lt HC3.out nn hm f4⟩
    have H3 : Hid (∀ p q, r3 = some p → r4 = some q → ∃ n, r1 = some n ∧ n ≤ p + q) := Lib.hid (fun p q e3 e4 => by subst e3 e4; exact far_three f1 f3 f4)
    have HT : Hid (Below w3.heap.size w3 w3) := Lib.hid (Below.refl _ _)
    clear f1 f2 f3 f4 ha hb hm HC HC3 HD HFD HFU HCU HCN
    generalize nrm (trn l) = tl at HTU F2
    cases r3 with
    | none =>
      cases r1 with
      | none =>
        cases r4 with
        | none =>
          have F1' : Hid (∀ W : World, Below w3.heap.size w3 W → Calls Tryd.prog 38 #[pV p, .int .i64 a, .int .i64 b] W fun e w' => e = .returned (.tuple #[.int .i64 0, noV 9]) ∧ Hid (Below W.heap.size W w')) := Lib.hid (fun W h => F1.out W none rfl h)
          have F3' : Hid (∀ W : World, Below w3.heap.size w3 W → Calls Tryd.prog 38 #[pV p, .int .i64 a, .int .i64 m] W fun e w' => e = .returned (.tuple #[.int .i64 0, noV 9]) ∧ Hid (Below W.heap.size W w')) := Lib.hid (fun W h => F3.out W none rfl h)
          have F4' : Hid (∀ W : World, Below w3.heap.size w3 W → Calls Tryd.prog 38 #[pV p, .int .i64 m, .int .i64 b] W fun e w' => e = .returned (.tuple #[.int .i64 0, noV 9]) ∧ Hid (Below W.heap.size W w')) := Lib.hid (fun W h => F4.out W none rfl h)
          have F2' : Hid (∀ (W : World) (p2 : Nat) (B2 bb2 : Nat) (tv2 : Value), CS W B2 p2 bb2 tv2 N tl → Calls Tryd.prog 38 #[pV p2, .int .i64 b, .int .i64 a] W fun e w' => e = .returned (.tuple #[.int .i64 0, noV 9]) ∧ Hid (Below W.heap.size W w')) := Lib.hid (fun W p2 B2 bb2 tv2 h => F2.out W p2 B2 bb2 tv2 none rfl h)
          clear F1 F2 F3 F4 HLT H3
          go_wp2_with (first
            | (go_at_call 36; refine (HTU.out _ HT.out).mono ?_; rintro e w4 ⟨p4, bb4, tv4, rfl, HC4, HBx⟩; have HT := Lib.hid (HT.out.trans (HBx.out.mono HT.out.size)); clear HBx; have HY : Hid (Below w4.heap.size w4 w4) := Lib.hid (Below.refl _ _))
            | (go_at_call 38; (with_reducible show Calls Tryd.prog 38 #[pV p, .int .i64 a, .int .i64 b] _ _); refine (F1'.out _ HT.out).mono ?_; rintro e w5 ⟨rfl, HBx⟩; have HT := Lib.hid (HT.out.trans (HBx.out.mono HT.out.size)); have HY := Lib.hid (HY.out.trans (HBx.out.mono HY.out.size)); clear HBx)
            | (go_at_call 38; (with_reducible show Calls Tryd.prog 38 #[pV p, .int .i64 a, .int .i64 m] _ _); refine (F3'.out _ HT.out).mono ?_; rintro e w5 ⟨rfl, HBx⟩; have HT := Lib.hid (HT.out.trans (HBx.out.mono HT.out.size)); have HY := Lib.hid (HY.out.trans (HBx.out.mono HY.out.size)); clear HBx)
            | (go_at_call 38; (with_reducible show Calls Tryd.prog 38 #[pV p, .int .i64 m, .int .i64 b] _ _); refine (F4'.out _ HT.out).mono ?_; rintro e w5 ⟨rfl, HBx⟩; have HT := Lib.hid (HT.out.trans (HBx.out.mono HT.out.size)); have HY := Lib.hid (HY.out.trans (HBx.out.mono HY.out.size)); clear HBx)
            | (go_at_call 38; refine (F2'.out _ p4 _ _ _ (HC4.out.later HY.out)).mono ?_; rintro e w6 ⟨rfl, HBx⟩; have HT := Lib.hid (HT.out.trans (HBx.out.mono HT.out.size)); have HY := Lib.hid (HY.out.trans (HBx.out.mono HY.out.size)); clear HBx)
            | (go_at_call 11; refine (HCX.out _ _ HT.out).mono ?_; rintro e w7 ⟨rfl, HBx⟩; have HT := Lib.hid (HT.out.trans (HBx.out.mono HT.out.size)); have HY := Lib.hid (HY.out.trans (HBx.out.mono HY.out.size)); clear HBx))
          go_ret
          exact ⟨rfl, Lib.hid (HFX.out _ HT.out)⟩
        | some k4 =>
          have F1' : Hid (∀ W : World, Below w3.heap.size w3 W → Calls Tryd.prog 38 #[pV p, .int .i64 a, .int .i64 b] W fun e w' => e = .returned (.tuple #[.int .i64 0, noV 9]) ∧ Hid (Below W.heap.size W w')) := Lib.hid (fun W h => F1.out W none rfl h)
          have F3' : Hid (∀ W : World, Below w3.heap.size w3 W → Calls Tryd.prog 38 #[pV p, .int .i64 a, .int .i64 m] W fun e w' => e = .returned (.tuple #[.int .i64 0, noV 9]) ∧ Hid (Below W.heap.size W w')) := Lib.hid (fun W h => F3.out W none rfl h)
          have F4' : Hid (∀ W : World, Below w3.heap.size w3 W → Calls Tryd.prog 38 #[pV p, .int .i64 m, .int .i64 b] W fun e w' => e = .returned (.tuple #[.int .i64 (k4 : Int), .nilIface]) ∧ Hid (Below W.heap.size W w')) := Lib.hid (fun W h => F4.out W (some k4) rfl h)
          have F2' : Hid (∀ (W : World) (p2 : Nat) (B2 bb2 : Nat) (tv2 : Value), CS W B2 p2 bb2 tv2 N tl → Calls Tryd.prog 38 #[pV p2, .int .i64 b, .int .i64 a] W fun e w' => e = .returned (.tuple #[.int .i64 0, noV 9]) ∧ Hid (Below W.heap.size W w')) := Lib.hid (fun W p2 B2 bb2 tv2 h => F2.out W p2 B2 bb2 tv2 none rfl h)
          have hk4 : k4 < 60 := HLT.out.2.2 _ rfl
          clear F1 F2 F3 F4 HLT H3
          go_wp2_with (first
            | (go_at_call 36; refine (HTU.out _ HT.out).mono ?_; rintro e w4 ⟨p4, bb4, tv4, rfl, HC4, HBx⟩; have HT := Lib.hid (HT.out.trans (HBx.out.mono HT.out.size)); clear HBx; have HY : Hid (Below w4.heap.size w4 w4) := Lib.hid (Below.refl _ _))
            | (go_at_call 38; (with_reducible show Calls Tryd.prog 38 #[pV p, .int .i64 a, .int .i64 b] _ _); refine (F1'.out _ HT.out).mono ?_; rintro e w5 ⟨rfl, HBx⟩; have HT := Lib.hid (HT.out.trans (HBx.out.mono HT.out.size)); have HY := Lib.hid (HY.out.trans (HBx.out.mono HY.out.size)); clear HBx)
            | (go_at_call 38; (with_reducible show Calls Tryd.prog 38 #[pV p, .int .i64 a, .int .i64 m] _ _); refine (F3'.out _ HT.out).mono ?_; rintro e w5 ⟨rfl, HBx⟩; have HT := Lib.hid (HT.out.trans (HBx.out.mono HT.out.size)); have HY := Lib.hid (HY.out.trans (HBx.out.mono HY.out.size)); clear HBx)
            | (go_at_call 38; (with_reducible show Calls Tryd.prog 38 #[pV p, .int .i64 m, .int .i64 b] _ _); refine (F4'.out _ HT.out).mono ?_; rintro e w5 ⟨rfl, HBx⟩; have HT := Lib.hid (HT.out.trans (HBx.out.mono HT.out.size)); have HY := Lib.hid (HY.out.trans (HBx.out.mono HY.out.size)); clear HBx)
            | (go_at_call 38; refine (F2'.out _ p4 _ _ _ (HC4.out.later HY.out)).mono ?_; rintro e w6 ⟨rfl, HBx⟩; have HT := Lib.hid (HT.out.trans (HBx.out.mono HT.out.size)); have HY := Lib.hid (HY.out.trans (HBx.out.mono HY.out.size)); clear HBx)
            | (go_at_call 11; refine (HCX.out _ _ HT.out).mono ?_; rintro e w7 ⟨rfl, HBx⟩; have HT := Lib.hid (HT.out.trans (HBx.out.mono HT.out.size)); have HY := Lib.hid (HY.out.trans (HBx.out.mono HY.out.size)); clear HBx))
          go_ret
          exact ⟨rfl, Lib.hid (HFX.out _ HT.out)⟩
      | some k1 =>
        cases r4 with
        | none =>
          have F1' : Hid (∀ W : World, Below w3.heap.size w3 W → Calls Tryd.prog 38 #[pV p, .int .i64 a, .int .i64 b] W fun e w' => e = .returned (.tuple #[.int .i64 (k1 : Int), .nilIface]) ∧ Hid (Below W.heap.size W w')) := Lib.hid (fun W h => F1.out W (some k1) rfl h)
          have F3' : Hid (∀ W : World, Below w3.heap.size w3 W → Calls Tryd.prog 38 #[pV p, .int .i64 a, .int .i64 m] W fun e w' => e = .returned (.tuple #[.int .i64 0, noV 9]) ∧ Hid (Below W.heap.size W w')) := Lib.hid (fun W h => F3.out W none rfl h)
          have F4' : Hid (∀ W : World, Below w3.heap.size w3 W → Calls Tryd.prog 38 #[pV p, .int .i64 m, .int .i64 b] W fun e w' => e = .returned (.tuple #[.int .i64 0, noV 9]) ∧ Hid (Below W.heap.size W w')) := Lib.hid (fun W h => F4.out W none rfl h)
          have F2' : Hid (∀ (W : World) (p2 : Nat) (B2 bb2 : Nat) (tv2 : Value), CS W B2 p2 bb2 tv2 N tl → Calls Tryd.prog 38 #[pV p2, .int .i64 b, .int .i64 a] W fun e w' => e = .returned (.tuple #[.int .i64 (k1 : Int), .nilIface]) ∧ Hid (Below W.heap.size W w')) := Lib.hid (fun W p2 B2 bb2 tv2 h => F2.out W p2 B2 bb2 tv2 (some k1) rfl h)
          have hk1 : k1 < 60 := HLT.out.1 _ rfl
          have hnn : ((k1 : Int) != (k1 : Int)) = false := by simp
          clear F1 F2 F3 F4 HLT H3
          go_wp2_with (first
            | (go_at_call 36; refine (HTU.out _ HT.out).mono ?_; rintro e w4 ⟨p4, bb4, tv4, rfl, HC4, HBx⟩; have HT := Lib.hid (HT.out.trans (HBx.out.mono HT.out.size)); clear HBx; have HY : Hid (Below w4.heap.size w4 w4) := Lib.hid (Below.refl _ _))
            | (go_at_call 38; (with_reducible show Calls Tryd.prog 38 #[pV p, .int .i64 a, .int .i64 b] _ _); refine (F1'.out _ HT.out).mono ?_; rintro e w5 ⟨rfl, HBx⟩; have HT := Lib.hid (HT.out.trans (HBx.out.mono HT.out.size)); have HY := Lib.hid (HY.out.trans (HBx.out.mono HY.out.size)); clear HBx)
            | (go_at_call 38; (with_reducible show Calls Tryd.prog 38 #[pV p, .int .i64 a, .int .i64 m] _ _); refine (F3'.out _ HT.out).mono ?_; rintro e w5 ⟨rfl, HBx⟩; have HT := Lib.hid (HT.out.trans (HBx.out.mono HT.out.size)); have HY := Lib.hid (HY.out.trans (HBx.out.mono HY.out.size)); clear HBx)
            | (go_at_call 38; (with_reducible show Calls Tryd.prog 38 #[pV p, .int .i64 m, .int .i64 b] _ _); refine (F4'.out _ HT.out).mono ?_; rintro e w5 ⟨rfl, HBx⟩; have HT := Lib.hid (HT.out.trans (HBx.out.mono HT.out.size)); have HY := Lib.hid (HY.out.trans (HBx.out.mono HY.out.size)); clear HBx)
            | (go_at_call 38; refine (F2'.out _ p4 _ _ _ (HC4.out.later HY.out)).mono ?_; rintro e w6 ⟨rfl, HBx⟩; have HT := Lib.hid (HT.out.trans (HBx.out.mono HT.out.size)); have HY := Lib.hid (HY.out.trans (HBx.out.mono HY.out.size)); clear HBx)
            | (go_at_call 11; refine (HCNX.out _ HT.out).mono ?_; rintro e w7 ⟨rfl, HBx⟩; have HT := Lib.hid (HT.out.trans (HBx.out.mono HT.out.size)); have HY := Lib.hid (HY.out.trans (HBx.out.mono HY.out.size)); clear HBx))
          go_ret
          exact ⟨rfl, Lib.hid (HFX.out _ HT.out)⟩
        | some k4 =>
          have F1' : Hid (∀ W : World, Below w3.heap.size w3 W → Calls Tryd.prog 38 #[pV p, .int .i64 a, .int .i64 b] W fun e w' => e = .returned (.tuple #[.int .i64 (k1 : Int), .nilIface]) ∧ Hid (Below W.heap.size W w')) := Lib.hid (fun W h => F1.out W (some k1) rfl h)
          have F3' : Hid (∀ W : World, Below w3.heap.size w3 W → Calls Tryd.prog 38 #[pV p, .int .i64 a, .int .i64 m] W fun e w' => e = .returned (.tuple #[.int .i64 0, noV 9]) ∧ Hid (Below W.heap.size W w')) := Lib.hid (fun W h => F3.out W none rfl h)
          have F4' : Hid (∀ W : World, Below w3.heap.size w3 W → Calls Tryd.prog 38 #[pV p, .int .i64 m, .int .i64 b] W fun e w' => e = .returned (.tuple #[.int .i64 (k4 : Int), .nilIface]) ∧ Hid (Below W.heap.size W w')) := Lib.hid (fun W h => F4.out W (some k4) rfl h)
          have F2' : Hid (∀ (W : World) (p2 : Nat) (B2 bb2 : Nat) (tv2 : Value), CS W B2 p2 bb2 tv2 N tl → Calls Tryd.prog 38 #[pV p2, .int .i64 b, .int .i64 a] W fun e w' => e = .returned (.tuple #[.int .i64 (k1 : Int), .nilIface]) ∧ Hid (Below W.heap.size W w')) := Lib.hid (fun W p2 B2 bb2 tv2 h => F2.out W p2 B2 bb2 tv2 (some k1) rfl h)
          have hk1 : k1 < 60 := HLT.out.1 _ rfl
          have hnn : ((k1 : Int) != (k1 : Int)) = false := by simp
          have hk4 : k4 < 60 := HLT.out.2.2 _ rfl
          clear F1 F2 F3 F4 HLT H3
          go_wp2_with (first
            | (go_at_call 36; refine (HTU.out _ HT.out).mono ?_; rintro e w4 ⟨p4, bb4, tv4, rfl, HC4, HBx⟩; have HT := Lib.hid (HT.out.trans (HBx.out.mono HT.out.size)); clear HBx; have HY : Hid (Below w4.heap.size w4 w4) := Lib.hid (Below.refl _ _))
            | (go_at_call 38; (with_reducible show Calls Tryd.prog 38 #[pV p, .int .i64 a, .int .i64 b] _ _); refine (F1'.out _ HT.out).mono ?_; rintro e w5 ⟨rfl, HBx⟩; have HT := Lib.hid (HT.out.trans (HBx.out.mono HT.out.size)); have HY := Lib.hid (HY.out.trans (HBx.out.mono HY.out.size)); clear HBx)
            | (go_at_call 38; (with_reducible show Calls Tryd.prog 38 #[pV p, .int .i64 a, .int .i64 m] _ _); refine (F3'.out _ HT.out).mono ?_; rintro e w5 ⟨rfl, HBx⟩; have HT := Lib.hid (HT.out.trans (HBx.out.mono HT.out.size)); have HY := Lib.hid (HY.out.trans (HBx.out.mono HY.out.size)); clear HBx)
            | (go_at_call 38; (with_reducible show Calls Tryd.prog 38 #[pV p, .int .i64 m, .int .i64 b] _ _); refine (F4'.out _ HT.out).mono ?_; rintro e w5 ⟨rfl, HBx⟩; have HT := Lib.hid (HT.out.trans (HBx.out.mono HT.out.size)); have HY := Lib.hid (HY.out.trans (HBx.out.mono HY.out.size)); clear HBx)
            | (go_at_call 38; refine (F2'.out _ p4 _ _ _ (HC4.out.later HY.out)).mono ?_; rintro e w6 ⟨rfl, HBx⟩; have HT := Lib.hid (HT.out.trans (HBx.out.mono HT.out.size)); have HY := Lib.hid (HY.out.trans (HBx.out.mono HY.out.size)); clear HBx)
            | (go_at_call 11; refine (HCNX.out _ HT.out).mono ?_; rintro e w7 ⟨rfl, HBx⟩; have HT := Lib.hid (HT.out.trans (HBx.out.mono HT.out.size)); have HY := Lib.hid (HY.out.trans (HBx.out.mono HY.out.size)); clear HBx))
          go_ret
          exact ⟨rfl, Lib.hid (HFX.out _ HT.out)⟩
    | some k3 =>
      cases r4 with
      | none =>
        cases r1 with
        | none =>
          have F1' : Hid (∀ W : World, Below w3.heap.size w3 W → Calls Tryd.prog 38 #[pV p, .int .i64 a, .int .i64 b] W fun e w' => e = .returned (.tuple #[.int .i64 0, noV 9]) ∧ Hid (Below W.heap.size W w')) := Lib.hid (fun W h => F1.out W none rfl h)
          have F3' : Hid (∀ W : World, Below w3.heap.size w3 W → Calls Tryd.prog 38 #[pV p, .int .i64 a, .int .i64 m] W fun e w' => e = .returned (.tuple #[.int .i64 (k3 : Int), .nilIface]) ∧ Hid (Below W.heap.size W w')) := Lib.hid (fun W h => F3.out W (some k3) rfl h)
          have F4' : Hid (∀ W : World, Below w3.heap.size w3 W → Calls Tryd.prog 38 #[pV p, .int .i64 m, .int .i64 b] W fun e w' => e = .returned (.tuple #[.int .i64 0, noV 9]) ∧ Hid (Below W.heap.size W w')) := Lib.hid (fun W h => F4.out W none rfl h)
          have F2' : Hid (∀ (W : World) (p2 : Nat) (B2 bb2 : Nat) (tv2 : Value), CS W B2 p2 bb2 tv2 N tl → Calls Tryd.prog 38 #[pV p2, .int .i64 b, .int .i64 a] W fun e w' => e = .returned (.tuple #[.int .i64 0, noV 9]) ∧ Hid (Below W.heap.size W w')) := Lib.hid (fun W p2 B2 bb2 tv2 h => F2.out W p2 B2 bb2 tv2 none rfl h)
          have hk3 : k3 < 60 := HLT.out.2.1 _ rfl
          clear F1 F2 F3 F4 HLT H3
          go_wp2_with (first
            | (go_at_call 36; refine (HTU.out _ HT.out).mono ?_; rintro e w4 ⟨p4, bb4, tv4, rfl, HC4, HBx⟩; have HT := Lib.hid (HT.out.trans (HBx.out.mono HT.out.size)); clear HBx; have HY : Hid (Below w4.heap.size w4 w4) := Lib.hid (Below.refl _ _))
            | (go_at_call 38; (with_reducible show Calls Tryd.prog 38 #[pV p, .int .i64 a, .int .i64 b] _ _); refine (F1'.out _ HT.out).mono ?_; rintro e w5 ⟨rfl, HBx⟩; have HT := Lib.hid (HT.out.trans (HBx.out.mono HT.out.size)); have HY := Lib.hid (HY.out.trans (HBx.out.mono HY.out.size)); clear HBx)
            | (go_at_call 38; (with_reducible show Calls Tryd.prog 38 #[pV p, .int .i64 a, .int .i64 m] _ _); refine (F3'.out _ HT.out).mono ?_; rintro e w5 ⟨rfl, HBx⟩; have HT := Lib.hid (HT.out.trans (HBx.out.mono HT.out.size)); have HY := Lib.hid (HY.out.trans (HBx.out.mono HY.out.size)); clear HBx)
            | (go_at_call 38; (with_reducible show Calls Tryd.prog 38 #[pV p, .int .i64 m, .int .i64 b] _ _); refine (F4'.out _ HT.out).mono ?_; rintro e w5 ⟨rfl, HBx⟩; have HT := Lib.hid (HT.out.trans (HBx.out.mono HT.out.size)); have HY := Lib.hid (HY.out.trans (HBx.out.mono HY.out.size)); clear HBx)
            | (go_at_call 38; refine (F2'.out _ p4 _ _ _ (HC4.out.later HY.out)).mono ?_; rintro e w6 ⟨rfl, HBx⟩; have HT := Lib.hid (HT.out.trans (HBx.out.mono HT.out.size)); have HY := Lib.hid (HY.out.trans (HBx.out.mono HY.out.size)); clear HBx)
            | (go_at_call 11; refine (HCX.out _ _ HT.out).mono ?_; rintro e w7 ⟨rfl, HBx⟩; have HT := Lib.hid (HT.out.trans (HBx.out.mono HT.out.size)); have HY := Lib.hid (HY.out.trans (HBx.out.mono HY.out.size)); clear HBx))
          go_ret
          exact ⟨rfl, Lib.hid (HFX.out _ HT.out)⟩
        | some k1 =>
          have F1' : Hid (∀ W : World, Below w3.heap.size w3 W → Calls Tryd.prog 38 #[pV p, .int .i64 a, .int .i64 b] W fun e w' => e = .returned (.tuple #[.int .i64 (k1 : Int), .nilIface]) ∧ Hid (Below W.heap.size W w')) := Lib.hid (fun W h => F1.out W (some k1) rfl h)
          have F3' : Hid (∀ W : World, Below w3.heap.size w3 W → Calls Tryd.prog 38 #[pV p, .int .i64 a, .int .i64 m] W fun e w' => e = .returned (.tuple #[.int .i64 (k3 : Int), .nilIface]) ∧ Hid (Below W.heap.size W w')) := Lib.hid (fun W h => F3.out W (some k3) rfl h)
          have F4' : Hid (∀ W : World, Below w3.heap.size w3 W → Calls Tryd.prog 38 #[pV p, .int .i64 m, .int .i64 b] W fun e w' => e = .returned (.tuple #[.int .i64 0, noV 9]) ∧ Hid (Below W.heap.size W w')) := Lib.hid (fun W h => F4.out W none rfl h)
          have F2' : Hid (∀ (W : World) (p2 : Nat) (B2 bb2 : Nat) (tv2 : Value), CS W B2 p2 bb2 tv2 N tl → Calls Tryd.prog 38 #[pV p2, .int .i64 b, .int .i64 a] W fun e w' => e = .returned (.tuple #[.int .i64 (k1 : Int), .nilIface]) ∧ Hid (Below W.heap.size W w')) := Lib.hid (fun W p2 B2 bb2 tv2 h => F2.out W p2 B2 bb2 tv2 (some k1) rfl h)
          have hk1 : k1 < 60 := HLT.out.1 _ rfl
          have hnn : ((k1 : Int) != (k1 : Int)) = false := by simp
          have hk3 : k3 < 60 := HLT.out.2.1 _ rfl
          clear F1 F2 F3 F4 HLT H3
          go_wp2_with (first
            | (go_at_call 36; refine (HTU.out _ HT.out).mono ?_; rintro e w4 ⟨p4, bb4, tv4, rfl, HC4, HBx⟩; have HT := Lib.hid (HT.out.trans (HBx.out.mono HT.out.size)); clear HBx; have HY : Hid (Below w4.heap.size w4 w4) := Lib.hid (Below.refl _ _))
            | (go_at_call 38; (with_reducible show Calls Tryd.prog 38 #[pV p, .int .i64 a, .int .i64 b] _ _); refine (F1'.out _ HT.out).mono ?_; rintro e w5 ⟨rfl, HBx⟩; have HT := Lib.hid (HT.out.trans (HBx.out.mono HT.out.size)); have HY := Lib.hid (HY.out.trans (HBx.out.mono HY.out.size)); clear HBx)
            | (go_at_call 38; (with_reducible show Calls Tryd.prog 38 #[pV p, .int .i64 a, .int .i64 m] _ _); refine (F3'.out _ HT.out).mono ?_; rintro e w5 ⟨rfl, HBx⟩; have HT := Lib.hid (HT.out.trans (HBx.out.mono HT.out.size)); have HY := Lib.hid (HY.out.trans (HBx.out.mono HY.out.size)); clear HBx)
            | (go_at_call 38; (with_reducible show Calls Tryd.prog 38 #[pV p, .int .i64 m, .int .i64 b] _ _); refine (F4'.out _ HT.out).mono ?_; rintro e w5 ⟨rfl, HBx⟩; have HT := Lib.hid (HT.out.trans (HBx.out.mono HT.out.size)); have HY := Lib.hid (HY.out.trans (HBx.out.mono HY.out.size)); clear HBx)
            | (go_at_call 38; refine (F2'.out _ p4 _ _ _ (HC4.out.later HY.out)).mono ?_; rintro e w6 ⟨rfl, HBx⟩; have HT := Lib.hid (HT.out.trans (HBx.out.mono HT.out.size)); have HY := Lib.hid (HY.out.trans (HBx.out.mono HY.out.size)); clear HBx)
            | (go_at_call 11; refine (HCNX.out _ HT.out).mono ?_; rintro e w7 ⟨rfl, HBx⟩; have HT := Lib.hid (HT.out.trans (HBx.out.mono HT.out.size)); have HY := Lib.hid (HY.out.trans (HBx.out.mono HY.out.size)); clear HBx))
          go_ret
          exact ⟨rfl, Lib.hid (HFX.out _ HT.out)⟩
      | some k4 =>
        cases r1 with
        | none => exact absurd (H3.out k3 k4 rfl rfl) (by simp)
        | some k1 =>
          have F1' : Hid (∀ W : World, Below w3.heap.size w3 W → Calls Tryd.prog 38 #[pV p, .int .i64 a, .int .i64 b] W fun e w' => e = .returned (.tuple #[.int .i64 (k1 : Int), .nilIface]) ∧ Hid (Below W.heap.size W w')) := Lib.hid (fun W h => F1.out W (some k1) rfl h)
          have F3' : Hid (∀ W : World, Below w3.heap.size w3 W → Calls Tryd.prog 38 #[pV p, .int .i64 a, .int .i64 m] W fun e w' => e = .returned (.tuple #[.int .i64 (k3 : Int), .nilIface]) ∧ Hid (Below W.heap.size W w')) := Lib.hid (fun W h => F3.out W (some k3) rfl h)
          have F4' : Hid (∀ W : World, Below w3.heap.size w3 W → Calls Tryd.prog 38 #[pV p, .int .i64 m, .int .i64 b] W fun e w' => e = .returned (.tuple #[.int .i64 (k4 : Int), .nilIface]) ∧ Hid (Below W.heap.size W w')) := Lib.hid (fun W h => F4.out W (some k4) rfl h)
          have F2' : Hid (∀ (W : World) (p2 : Nat) (B2 bb2 : Nat) (tv2 : Value), CS W B2 p2 bb2 tv2 N tl → Calls Tryd.prog 38 #[pV p2, .int .i64 b, .int .i64 a] W fun e w' => e = .returned (.tuple #[.int .i64 (k1 : Int), .nilIface]) ∧ Hid (Below W.heap.size W w')) := Lib.hid (fun W p2 B2 bb2 tv2 h => F2.out W p2 B2 bb2 tv2 (some k1) rfl h)
          have hk1 : k1 < 60 := HLT.out.1 _ rfl
          have hnn : ((k1 : Int) != (k1 : Int)) = false := by simp
          have hk3 : k3 < 60 := HLT.out.2.1 _ rfl
          have hk4 : k4 < 60 := HLT.out.2.2 _ rfl
          have hle : (k1 : Int) ≤ (k3 : Int) + (k4 : Int) := by obtain ⟨n, e, hn⟩ := H3.out _ _ rfl rfl; injection e with e; omega
          clear F1 F2 F3 F4 HLT H3
          go_wp2_with (first
            | (go_at_call 36; refine (HTU.out _ HT.out).mono ?_; rintro e w4 ⟨p4, bb4, tv4, rfl, HC4, HBx⟩; have HT := Lib.hid (HT.out.trans (HBx.out.mono HT.out.size)); clear HBx; have HY : Hid (Below w4.heap.size w4 w4) := Lib.hid (Below.refl _ _))
            | (go_at_call 38; (with_reducible show Calls Tryd.prog 38 #[pV p, .int .i64 a, .int .i64 b] _ _); refine (F1'.out _ HT.out).mono ?_; rintro e w5 ⟨rfl, HBx⟩; have HT := Lib.hid (HT.out.trans (HBx.out.mono HT.out.size)); have HY := Lib.hid (HY.out.trans (HBx.out.mono HY.out.size)); clear HBx)
            | (go_at_call 38; (with_reducible show Calls Tryd.prog 38 #[pV p, .int .i64 a, .int .i64 m] _ _); refine (F3'.out _ HT.out).mono ?_; rintro e w5 ⟨rfl, HBx⟩; have HT := Lib.hid (HT.out.trans (HBx.out.mono HT.out.size)); have HY := Lib.hid (HY.out.trans (HBx.out.mono HY.out.size)); clear HBx)
            | (go_at_call 38; (with_reducible show Calls Tryd.prog 38 #[pV p, .int .i64 m, .int .i64 b] _ _); refine (F4'.out _ HT.out).mono ?_; rintro e w5 ⟨rfl, HBx⟩; have HT := Lib.hid (HT.out.trans (HBx.out.mono HT.out.size)); have HY := Lib.hid (HY.out.trans (HBx.out.mono HY.out.size)); clear HBx)
            | (go_at_call 38; refine (F2'.out _ p4 _ _ _ (HC4.out.later HY.out)).mono ?_; rintro e w6 ⟨rfl, HBx⟩; have HT := Lib.hid (HT.out.trans (HBx.out.mono HT.out.size)); have HY := Lib.hid (HY.out.trans (HBx.out.mono HY.out.size)); clear HBx)
            | (go_at_call 11; refine (HCNX.out _ HT.out).mono ?_; rintro e w7 ⟨rfl, HBx⟩; have HT := Lib.hid (HT.out.trans (HBx.out.mono HT.out.size)); have HY := Lib.hid (HY.out.trans (HBx.out.mono HY.out.size)); clear HBx))
          go_ret
          exact ⟨rfl, Lib.hid (HFX.out _ HT.out)⟩
theorem turned_row (n : Int) (g : Nat) (v : Value) (l : List E2) (x y z : Int) (w : World) (hG : Er.G0 w) (hn : (Lit.int .i64 n).wf = true) (hr : ER w g v l) (hb : ∀ e ∈ l, (-9223372036854775808 ≤ e.1 ∧ e.1 < 9223372036854775808) ∧ (-9223372036854775808 ≤ e.2 ∧ e.2 < 9223372036854775808))
    (h0 : (Lit.int .u8 x).wf = true) (h1 : (Lit.int .u8 y).wf = true) (h2 : (Lit.int .u8 z).wf = true) :
    Calls Tryd.prog 7 #[.int .i64 n, v, .agg #[.int .u8 x, .int .u8 y, .int .u8 z]] w fun e w' => e = .returned (.bool true) ∧ Below w.heap.size w w' := by
  obtain ⟨A, c, rfl, -⟩ := er_form hr
  have q : ∀ a : Int, (Lit.int .u8 a).wf = true → 0 ≤ a ∧ a < 256 := fun a h => by
    simp [Lit.wf, IntKind.min, IntKind.max, IntKind.signed, IntKind.bits] at h; omega
  exact (turned_walk n g A l.length c l x y z w hG hr rfl (q x h0) (q y h1) (q z h2)).mono fun _ _ h => ⟨h.1, h.2.out⟩
end Go.Proofs.YthnpaiobjmneaaaDoor.Ak
