/- ShardSplits, walked. -/
import Derived.Test.YtjokfllldcjheaaGreatDoorTp
import Derived.BigQuiet
import Derived.Test.YtjokfllldcjheaaGreatDoorSz
import Derived.Test.YtjokfllldcjheaaGreatDoorRn
namespace Go.Proofs.YtjokfllldcjheaaGreatDoor.Oc
open Go.RowKit Go.Proofs.YtjokfllldcjheaaGreatDoor.Sha Go.Proofs.YtjokfllldcjheaaGreatDoor.Ro Go.Proofs.YtjokfllldcjheaaGreatDoor.Cs Go.Proofs.YtjokfllldcjheaaGreatDoor.Ed Go.Proofs.YtjokfllldcjheaaGreatDoor.Tb
set_option linter.unusedVariables false
set_option linter.unusedSimpArgs false
theorem split_any {w : World} {B p bb N : Nat} {tv : Value} {l : List E2} (hc : CS w B p bb tv N l) (hN : N ≤ 200) (q : Nat) (h1 : 1 ≤ q) (h3 : ¬ (q < 4096 ∧ (N + q - 1) / q > 64)) :
    Calls Tryz.prog 11 #[pV p, .int .i64 (q : Int)] w fun e w' => ∃ v, e = .returned (.tuple #[v, .nilIface]) ∧ Hid (OT w' w.heap.size v (partsB (tgt l) N (min q 1000) ((N + min q 1000 - 1) / min q 1000))) ∧ Hid (Below w.heap.size w w') := by
  by_cases hq : q < 4096
  · have h := split_calls hc q h1 hq (by omega)
    by_cases hk : q ≤ 1000
    · rw [Nat.min_eq_left hk]; exact h
    · rw [Nat.min_eq_right (by omega), ← parts_big (tgt l) N q 1000 (by omega) (by omega) h1 (by omega)]; exact h
  · have h := split_big hc (q : Int) (by omega)
    rw [Nat.min_eq_right (by omega), ← parts_big (tgt l) N 4096 1000 (by omega) (by omega) (by omega) (by omega)]; exact h
set_option maxHeartbeats 8000000 in
set_option maxRecDepth 100000 in
theorem splits_walk (n : Int) (g : Nat) (A : Option Addr) (len c : Nat) (l0 : List E2) (E : Int) (t : Nat) (w : World) (hG : Er.G0 w) (hr : ER w g (.slice A len c) l0) (hlen : l0.length = len)
    (hE : -9223372036854775808 ≤ E ∧ E < 9223372036854775808) (ht : t ≤ 255) :
    Calls Tryz.prog 3 #[.int .i64 n, .slice A len c, .agg #[.int .i64 E, .int .u8 (t : Int)]] w fun e w' => e = .returned (.bool true) ∧ Hid (Below w.heap.size w w') := by
  have HR := Lib.hid hr
  have HL := Lib.hid hlen
  have hc : len ≤ c ∧ c ≤ 9223372036854775807 := by
    obtain ⟨A', c', hv, h1, h2⟩ := er_form hr
    injection hv with _ _ hv
    subst hv
    rw [hlen] at h1
    exact ⟨h1, h2⟩
  obtain ⟨hc1, hc2⟩ := hc
  obtain ⟨hE1, hE2⟩ := hE
  have HCN : Hid (∀ (k : Int) (W : World), Below w.heap.size w W → Calls Tryz.prog 12 #[noV k] W fun r w' => r = .returned (.int .i64 k) ∧ Hid (Below W.heap.size W w')) := Lib.hid (fun k W h => Er.code_calls (.no k) W (g0_on hG h))
  have HCF : Hid (∀ (a k : Int) (W : World), Below w.heap.size w W → Calls Tryz.prog 12 #[faultV a k] W fun r w' => r = .returned (.int .i64 k) ∧ Hid (Below W.heap.size W w')) := Lib.hid (fun a k W h => Er.code_calls (.at a (.no k)) W (g0_on hG h))
  have HPF : Hid (∀ (a k : Int) (W : World), Below w.heap.size w W → Calls Tryz.prog 18 #[faultV a k] W fun r w' => r = .returned (.int .i64 a) ∧ Hid (Below W.heap.size W w')) := Lib.hid (fun a k W h => Er.place_calls (.at a (.no k)) W (g0_on hG h))
  have HCG : Hid (∀ (b a k : Int) (W : World), Below w.heap.size w W → Calls Tryz.prog 12 #[.iface 106 (.agg #[.int .i64 b, faultV a k])] W fun r w' => r = .returned (.int .i64 k) ∧ Hid (Below W.heap.size W w')) := Lib.hid (fun b a k W h => Er.code_calls (.at b (.at a (.no k))) W (g0_on hG h))
  have HPG : Hid (∀ (b a k : Int) (W : World), Below w.heap.size w W → Calls Tryz.prog 18 #[.iface 106 (.agg #[.int .i64 b, faultV a k])] W fun r w' => r = .returned (.int .i64 b) ∧ Hid (Below W.heap.size W w')) := Lib.hid (fun b a k W h => Er.place_calls (.at b (.at a (.no k))) W (g0_on hG h))
  have HBX : Hid (Below w.heap.size w (w.alloc (.cells #[.int .i64 E, .int .u8 (t : Int)] 24))) := Lib.hid ((Below.refl _ _).alloc (Nat.le_refl _) _)
  clear hr hlen hG
  by_cases hbig : 200 < len
  · have hb : (200 : Int) < (len : Int) := by omega
    go_enter Tryz.func3, Tryz.ntmps3
    go_wp2_with (go_at_call 9; refine (sawake_calls _).mono ?_; rintro e w1 ⟨rfl, HB⟩)
    go_ret
    exact ⟨rfl, Lib.hid (HBX.out.trans (HB.out.mono HBX.out.size))⟩
  have hb : ¬ (200 : Int) < (len : Int) := by omega
  by_cases hn : 200 < n
  · go_enter Tryz.func3, Tryz.ntmps3
    go_wp2_with (go_at_call 9; refine (sawake_calls _).mono ?_; rintro e w1 ⟨rfl, HB⟩)
    go_ret
    exact ⟨rfl, Lib.hid (HBX.out.trans (HB.out.mono HBX.out.size))⟩
  by_cases hw : wrg n l0 = -2
  case neg =>
    have HW := Lib.hid hw
    obtain ⟨z, hz⟩ : ∃ z, wrg n l0 = z := ⟨_, rfl⟩
    have HA := Lib.hid hz
    clear hz hw
    go_enter Tryz.func3, Tryz.ntmps3
    go_wp2_with (first
      | (go_at_call 9; refine (sawake_calls _).mono ?_; rintro e w1 ⟨rfl, HB⟩)
      | (go_at_call 10; refine (build_bad n _ _ l0 _ (HR.out.later (HBX.out.trans (HB.out.mono HBX.out.size))) (by rw [HL.out]; omega) HW.out).mono ?_; rw [HA.out]; unfold errV; rintro e w2 ⟨rfl, HB2⟩))
    go_ret
    exact ⟨rfl, Lib.hid (HBX.out.trans ((HB.out.trans (HB2.out.mono HB.out.size)).mono HBX.out.size))⟩
  case pos =>
    obtain ⟨n0, n1, -, -⟩ := wrg_ok.1 hw
    obtain ⟨N, rfl⟩ := Int.eq_ofNat_of_zero_le n0
    have HW := Lib.hid hw
    have nn : N ≤ 200 := by omega
    have HX0 : Hid ((w.alloc (.cells #[.int .i64 E, .int .u8 (t : Int)] 24)).heap[w.heap.size]? = some (.cells #[.int .i64 E, .int .u8 (t : Int)] 24 (0, 0))) := Lib.hid (heap_alloc_new w _)
    clear hw n0 n1
    go_enter Tryz.func3, Tryz.ntmps3
    go_upto_region 8 with (first
      | (go_at_call 9; refine (sawake_calls _).mono ?_; rintro e w1 ⟨rfl, HB⟩)
      | (go_at_call 10; refine (build_ok N _ _ l0 _ (HR.out.later (HBX.out.trans (HB.out.mono HBX.out.size))) (by rw [HL.out]; omega) HW.out).mono ?_; rintro e w2 ⟨p, bb, tv, rfl, HC, HB2⟩))
    have hbw := HBX.out.trans ((HB.out.trans (HB2.out.mono HB.out.size)).mono HBX.out.size)
    have hxw := ((HB.out.trans (HB2.out.mono HB.out.size)).block w.heap.size (Array.getElem?_eq_some_iff.1 HX0.out).1).trans HX0.out
    have d0 : w2.cell? ⟨w.heap.size, 0, none⟩ = some (.int .i64 E) := cell_of_row w2 _ 0 _ _ _ hxw
    have HBW := Lib.hid hbw
    have HXW := Lib.hid hxw
    generalize w1.heap.size = B0 at HC
    have hnl := nrm_len l0
    have HRN : Hid (∀ W : World, Below w.heap.size w W → Calls Tryz.prog 13 #[.slice A len c] W fun e w' => ∃ v', e = .returned v' ∧ Hid (EO w' W.heap.size v' (nrm l0)) ∧ Hid (Below W.heap.size W w')) := Lib.hid (fun W h => rnorm_calls g _ l0 W (HR.out.later h) (by rw [HL.out]; omega))
    obtain ⟨l, hl⟩ : ∃ l, nrm l0 = l := ⟨_, rfl⟩
    rw [hl] at HC hnl HRN
    rw [HL.out] at hnl
    have HLL : Hid (l.length ≤ 1000000) := Lib.hid (by omega)
    have HSN : Hid (∀ W, Calls Tryz.prog 11 #[.pointer none, .int .i64 1] W fun e w' => e = .returned (.tuple #[.slice none 0 0, noV 1]) ∧ W = w') := Lib.hid (fun W => split_nil W)
    clear hbw hxw HB HB2 HBX HX0 hl hnl
    have HXF : Hid (∀ X, Below w2.heap.size w2 X → X.cell? ⟨w.heap.size, 0, none⟩ = some (.int .i64 E) ∧ X.cell? ⟨w.heap.size, 1, none⟩ = some (.int .u8 (t : Int))) := Lib.hid (fun X h => by
      have h1 := (h.block w.heap.size (Array.getElem?_eq_some_iff.1 HXW.out).1).trans HXW.out
      exact ⟨cell_of_row X _ 0 _ _ _ h1, cell_of_row X _ 1 _ _ _ h1⟩)
    have HBF : Hid (∀ X, Below w2.heap.size w2 X → Below w.heap.size w X) := Lib.hid (fun X h => HBW.out.trans (h.mono HBW.out.size))
    have HK : Hid (Below w2.heap.size w2 w2) := Lib.hid (Below.refl _ _)
    by_cases he : E < 1
    · have HSL := Lib.hid (fun W => split_less p E he W)
      go_wp2_with (first
        | (go_at_call 11; (with_reducible show Calls Tryz.prog 11 #[.pointer none, .int .i64 1] _ _); refine (HSN.out _).mono ?_; rintro e w3 ⟨rfl, rfl⟩)
        | (go_at_call 11; refine (HSL.out _).mono ?_; rintro e w3 ⟨rfl, rfl⟩)
        | (go_at_call 12; refine (HCN.out 1 _ (HBF.out _ HK.out)).mono ?_; rintro e w4 ⟨rfl, HBx⟩; have HK := Lib.hid (HK.out.trans (HBx.out.mono HK.out.size)); clear HBx; obtain ⟨z0, z1⟩ := HXF.out _ HK.out))
      go_ret
      exact ⟨rfl, Lib.hid (HBF.out _ HK.out)⟩
    obtain ⟨q, rfl⟩ := Int.eq_ofNat_of_zero_le (show 0 ≤ E by omega)
    have hq1 : 1 ≤ q := by omega
    have HQB : Hid (q < 9223372036854775808) := Lib.hid (by omega)
    clear hE1 hE2
    have hqz : ¬ (q : Int) = 0 := by omega
    by_cases hlong : q < 4096 ∧ (N + q - 1) / q > 64
    · have HSL := Lib.hid (split_long HC.out q hq1 hlong.1 hlong.2)
      have hq2 : q < N := by
        rcases Nat.lt_or_ge q N with h | h
        · exact h
        · have := (Nat.div_lt_iff_lt_mul (show 0 < q by omega)).2 (show N + q - 1 < 2 * q by omega)
          omega
      have hn64 : 64 < N := by
        have := Nat.div_le_self (N + q - 1) q
        rcases Nat.lt_or_ge 64 N with h | h
        · exact h
        · have h5 := (Nat.div_lt_iff_lt_mul (show 0 < q by omega)).2 (show N + q - 1 < (N + 1) * q by rw [Nat.add_mul, Nat.one_mul]; have := Nat.mul_le_mul_left N hq1; omega)
          omega
      have c1 : (N : Int) > 64 := by omega
      have c2 : (q : Int) < (N : Int) := by omega
      have c3 : ((N : Int) + (q : Int) - 1) / (q : Int) > 64 := by
        rw [show (N : Int) + (q : Int) - 1 = ((N + q - 1 : Nat) : Int) by omega, ← Int.natCast_ediv]
        omega
      clear hlong hq2 hn64
      go_wp2_with (first
        | (go_at_call 11; (with_reducible show Calls Tryz.prog 11 #[.pointer none, .int .i64 1] _ _); refine (HSN.out _).mono ?_; rintro e w3 ⟨rfl, rfl⟩)
        | (go_at_call 11; refine HSL.out.mono ?_; rintro e w3 ⟨rfl, rfl⟩)
        | (go_at_call 12; (with_reducible show Calls Tryz.prog 12 #[.iface _ (.int .i64 1)] _ _); refine (HCN.out 1 _ (HBF.out _ HK.out)).mono ?_; rintro e w4 ⟨rfl, HBx⟩; have HK := Lib.hid (HK.out.trans (HBx.out.mono HK.out.size)); clear HBx; obtain ⟨z0, z1⟩ := HXF.out _ HK.out)
        | (go_at_call 12; refine (HCN.out 6 _ (HBF.out _ HK.out)).mono ?_; rintro e w4 ⟨rfl, HBx⟩; have HK := Lib.hid (HK.out.trans (HBx.out.mono HK.out.size)); clear HBx))
      go_ret
      exact ⟨rfl, Lib.hid (HBF.out _ HK.out)⟩
    · have HOK := Lib.hid (split_any HC.out nn q hq1 hlong)
      obtain ⟨e, hee⟩ : ∃ e, min q 1000 = e := ⟨_, rfl⟩
      rw [hee] at HOK
      have he1 : 1 ≤ e := by omega
      have he2 : e ≤ 1000 := by omega
      obtain ⟨m, hm⟩ : ∃ m, (N + e - 1) / e = m := ⟨_, rfl⟩
      have HM := Lib.hid hm
      have hm200 : m ≤ 200 := by
        rw [← hm]
        exact Nat.lt_succ_iff.1 ((Nat.div_lt_iff_lt_mul (show 0 < e by omega)).2 (by have := Nat.mul_le_mul_left 201 he1; omega))
      rw [hm] at HOK
      have emin : min (q : Int) 1000 = (e : Int) := by omega
      have ediv : ((N : Int) + (e : Int) - 1) / (e : Int) = (m : Int) := by
        rw [show (N : Int) + (e : Int) - 1 = ((N + e - 1 : Nat) : Int) by omega, ← Int.natCast_ediv, hm]
      have hez : ¬ (e : Int) = 0 := by omega
      have hcase : (¬ (N : Int) > 64) ∨ ((N : Int) > 64 ∧ ¬ (q : Int) < (N : Int)) ∨ ((N : Int) > 64 ∧ (q : Int) < (N : Int) ∧ ¬ ((N : Int) + (q : Int) - 1) / (q : Int) > 64) := by
        by_cases h1 : (N : Int) > 64
        · by_cases h2 : (q : Int) < (N : Int)
          · refine .inr (.inr ⟨h1, h2, ?_⟩)
            have h3 : (N + q - 1) / q ≤ 64 := by omega
            rw [show (N : Int) + (q : Int) - 1 = ((N + q - 1 : Nat) : Int) by omega, ← Int.natCast_ediv]
            omega
          · exact .inr (.inl ⟨h1, h2⟩)
        · exact .inl h1
      have HCASE := Lib.hid hcase
      clear hcase hlong hm hee
      go_upto_region 9 with (go_at_call 11; refine HOK.out.mono ?_; rintro r w3 ⟨v1, rfl, HO1, HBx⟩; have HK := HBx; clear HBx)
      obtain ⟨A1, k1, hv1, hk1⟩ := OT_shape HO1.out
      rw [partsB_len] at hv1 hk1
      subst hv1
      obtain ⟨g1, hg1⟩ := HO1.out.reads
      have HSR := Lib.hid hg1
      clear hg1 d0 HOK
      clear HO1
      have HK0 : Hid (Below w2.heap.size w2 w3) := HK
      have HK : Hid (Below w3.heap.size w3 w3) := Lib.hid (Below.refl _ _)
      have HBF3 : Hid (∀ X, Below w3.heap.size w3 X → Below w.heap.size w X) := Lib.hid (fun X h => HBF.out _ (HK0.out.trans (h.mono HK0.out.size)))
      have HXF3 : Hid (∀ X, Below w3.heap.size w3 X → X.cell? ⟨w.heap.size, 0, none⟩ = some (.int .i64 (q : Int)) ∧ X.cell? ⟨w.heap.size, 1, none⟩ = some (.int .u8 (t : Int))) := Lib.hid (fun X h => HXF.out _ (HK0.out.trans (h.mono HK0.out.size)))
      have HC3 := Lib.hid (HC.out.later HK0.out)
      clear HBF HXF HC HXW HBW
      rcases HCASE.out with c1 | ⟨c1, c2⟩ | ⟨c1, c2, c3⟩
      all_goals
        clear HCASE
        go_upto_region 16 with (first
          | (go_at_call 11; refine (HSN.out _).mono ?_; rintro r w4 ⟨rfl, rfl⟩)
          | (go_at_call 12; refine (HCN.out 1 _ (HBF3.out _ HK.out)).mono ?_; rintro r w5 ⟨rfl, HBx⟩; have HK := Lib.hid (HK.out.trans (HBx.out.mono HK.out.size)); clear HBx; obtain ⟨z0, z1⟩ := HXF3.out _ HK.out))
        go_upto_region 17 with (go_at_call 13; refine (HRN.out _ (HBF3.out _ HK.out)).mono ?_; rintro r w6 ⟨v6, rfl, HO6, HBx⟩; have HK := Lib.hid (HK.out.trans (HBx.out.mono HK.out.size)); clear HBx)
        obtain ⟨g6, hg6, -⟩ := HO6.out.reads
        obtain ⟨A6, c6, rfl, -, -⟩ := id HO6.out.shape
        obtain ⟨n6, hn6⟩ : ∃ k, l.length = k := ⟨_, rfl⟩
        rw [hn6] at hg6 ⊢
        have HE6 := Lib.hid hg6
        clear hg6 hn6 HO6
        obtain ⟨y0, y1⟩ := HXF3.out _ HK.out
        have HTC : Hid (∀ X, Below w3.heap.size w3 X → Calls Tryz.prog 14 #[.int .i64 (N : Int), .slice A1 m k1] X fun r w' => ∃ v, r = .returned (.tuple #[v, .nilIface]) ∧ Hid (TBO w' X.heap.size v (tabP (tgt l) N e m)) ∧ Hid (Below X.heap.size X w')) := Lib.hid (fun X h => table_parts HC3.out e he1 m HM.out (by omega) g1 _ X (HSR.out.later h))
        have HJC : Hid (∀ X, Below w3.heap.size w3 X → Calls Tryz.prog 15 #[.int .i64 (N : Int), .slice A1 m k1] X fun r w' => ∃ p2 bb2 tv2, r = .returned (.tuple #[pV p2, .nilIface]) ∧ Hid (CS w' X.heap.size p2 bb2 tv2 N l) ∧ Hid (Below X.heap.size X w')) := Lib.hid (fun X h => join_parts HC3.out e he1 g1 _ X (by rw [HM.out]; exact HSR.out.later h))
        go_upto_region 22 with (go_at_call 14; refine (HTC.out _ HK.out).mono ?_; rintro r w7 ⟨v7, rfl, HO7, HBx⟩; have HK67 := HBx; clear HBx)
        obtain ⟨g7, hg7, -⟩ := HO7.out.reads
        obtain ⟨A7, c7, rfl, -, -⟩ := id HO7.out.shape
        rw [tabP_len] at hg7 ⊢
        have HT7 := Lib.hid hg7
        clear hg7 HO7
        have HK7 := Lib.hid (HK.out.trans (HK67.out.mono HK.out.size))
        go_upto_region 23 with (go_at_call 15; refine (HJC.out _ HK7.out).mono ?_; rintro r w8 ⟨p8, bb8, tv8, rfl, HC8, HBx⟩; have HK78 := HBx; clear HBx)
        have HK8 := Lib.hid (HK7.out.trans (HK78.out.mono HK7.out.size))
        have HSA := Lib.hid (csame_calls HC8.out (HC3.out.later HK8.out))
        have HSA' : Hid (Calls Tryz.prog 16 #[pV p8, pV p] w8 fun r w' => r = .returned (.bool true) ∧ Hid (Below w8.heap.size w8 w')) := Lib.hid (HSA.out.mono fun r w' h => ⟨h.1.trans (by simp), h.2⟩)
        clear HSA
        go_upto_region 26 with (go_at_call 16; refine HSA'.out.mono ?_; rintro r w9 ⟨rfl, HBx⟩; have HK89 := HBx; clear HBx)
        have HK9 := Lib.hid (HK8.out.trans (HK89.out.mono HK8.out.size))
        have HBF9 : Hid (∀ X, Below w9.heap.size w9 X → Below w.heap.size w X) := Lib.hid (fun X h => HBF3.out _ (HK9.out.trans (h.mono HK9.out.size)))
        have HXF9 : Hid (∀ X, Below w9.heap.size w9 X → X.cell? ⟨w.heap.size, 1, none⟩ = some (.int .u8 (t : Int))) := Lib.hid (fun X h => (HXF3.out _ (HK9.out.trans (h.mono HK9.out.size))).2)
        have HE9 := Lib.hid (HE6.out.later (HK67.out.trans ((HK78.out.trans (HK89.out.mono HK78.out.size)).mono HK67.out.size)))
        have HT9 := Lib.hid (HT7.out.later (HK78.out.trans (HK89.out.mono HK78.out.size)))
        have HS9 := Lib.hid (HSR.out.later HK9.out)
        clear HE6 HT7 HSR HSA' HC8 HTC HJC HK67 HK78 HK89 HK7 HK8 HK HBF3 HXF3 HRN HSN y0 y1 z0 z1
        go_loopw [150] (fun x wz => ∃ k : Nat, x = .int .i64 (k : Int) ∧ k ≤ m ∧ Hid (Below w9.heap.size w9 wz)) (fun x _ => m - (intOf x).toNat)
        case atStart => exact ⟨0, rfl, Nat.zero_le _, Lib.hid (Below.refl _ _)⟩
        case round =>
          obtain ⟨k, rfl, hk, HQ⟩ := hrel
          generalize wr = wx at *
          by_cases hlt : k < m
          · have i1 : (k : Int) < (m : Int) := by omega
            have hkN : k * e < N := lt_parts he1 (by rw [HM.out]; exact hlt)
            obtain ⟨s, hs⟩ : ∃ s, partB (tgt l) N e k = s := ⟨_, rfl⟩
            obtain ⟨F, hF⟩ : ∃ F, k * e = F := ⟨_, rfl⟩
            obtain ⟨mm, hmm⟩ : ∃ mm, min e (N - F) = mm := ⟨_, rfl⟩
            have HRP : Hid (Calls Tryz.prog 17 #[.slice A6 n6 c6, .int .i64 (F : Int), .int .i64 (mm : Int)] wx fun r w' => r = .returned (.string s) ∧ Hid (Below wx.heap.size wx w')) := Lib.hid (by
              rw [← hs]
              have := rput_calls N (by omega) g6 _ l wx (HE9.out.later HQ.out) HLL.out (rows_ok HC3.out) F mm (by omega)
              unfold partB
              rw [hF, hmm]
              exact this)
            obtain ⟨o, cc, hv, -, -, hcell⟩ := (HS9.out.later HQ.out).form (by rw [partsB_len]; omega)
            injection hv with hv hv2 hcc
            clear hv2
            subst hv hcc
            have d1 := hcell k s (by unfold partsB; rw [List.getElem?_map, List.getElem?_range hlt]; exact congrArg some hs)
            obtain ⟨ot, hA7, hn7, t1, t2⟩ := tab_cell HT9.out k hlt
            clear hn7
            subst hA7
            rw [hF] at t1
            rw [hs] at t2
            have HTQ : Hid (∀ X, Below wx.heap.size wx X → X.cell? ⟨g7, ot + k * 2, none⟩ = some (.int .i64 (F : Int)) ∧ X.cell? ⟨g7, ot + k * 2 + 1, none⟩ = some (.int .i64 (s.size : Int))) := Lib.hid (fun X h => by
              have hb := HQ.out.trans (h.mono HQ.out.size)
              exact ⟨(hb.cell (p := ⟨g7, ot + k * 2, none⟩) (World.block_lt_of_cell? _ _ t1)).trans t1, (hb.cell (p := ⟨g7, ot + k * 2 + 1, none⟩) (World.block_lt_of_cell? _ _ t2)).trans t2⟩)
            have ekF : (k : Int) * (e : Int) = (F : Int) := by rw [← hF, Int.natCast_mul]
            have emi : min (e : Int) ((N : Int) - (F : Int)) = (mm : Int) := by omega
            have hF200 : (F : Int) ≤ 200 := by omega
            have hsz := part_size HC3.out e he1 k (by rw [HM.out]; exact hlt)
            rw [hs] at hsz
            clear hcell hs hF hmm hkN t1 t2
            go_wp2_with (go_at_call 17; refine HRP.out.mono ?_; rintro r w10 ⟨rfl, HBx⟩; have HQ2 := Lib.hid (HQ.out.trans (HBx.out.mono HQ.out.size)); obtain ⟨t1, t2⟩ := HTQ.out _ HBx.out)
            go_roundw
            case rel => exact ⟨k + 1, by go_num, by omega, HQ2⟩
            case measure => simp [intOf]; omega
          · obtain rfl : m = k := by omega
            have i1 : ¬ (m : Int) < (m : Int) := by omega
            by_cases hm0 : m = 0
            · have i2 : (m : Int) = 0 := by omega
              go_wp2
              go_ret
              exact ⟨rfl, Lib.hid (HBF9.out _ HQ.out)⟩
            · have i2 : ¬ (m : Int) = 0 := by omega
              obtain ⟨a, haa⟩ : ∃ a, t % m = a := ⟨_, rfl⟩
              have ham : a < m := by rw [← haa]; exact Nat.mod_lt _ (by omega)
              have ea : (t : Int) % (m : Int) = (a : Int) := by rw [← haa]; exact (Int.natCast_emod t m).symm
              have ea2 : (t : Int).tmod (m : Int) = (a : Int) := by rw [Int.tmod_eq_emod_of_nonneg (by omega)]; exact ea
              have y1 := HXF9.out _ HQ.out
              obtain ⟨o, cc, hv, hcc1, hcc2, hcell⟩ := (HS9.out.later HQ.out).form (by rw [partsB_len]; omega)
              rw [partsB_len] at hcc1
              injection hv with hv hv2 hcc
              clear hv2
              subst hv hcc
              obtain ⟨a1, ha1⟩ : ∃ a1, a + 1 = a1 := ⟨_, rfl⟩
              have HFT := Lib.hid (SR_first hcell (partsB_len _ _ _ _) hcc1 hcc2 a (by omega))
              have HRT : Hid (SR wx g1 (.slice (if k1 = a1 then some ⟨g1, o, none⟩ else some ⟨g1, o + a1, none⟩) (m - a1) (k1 - a1)) ((partsB (tgt l) N e m).drop a1)) := Lib.hid (by
                have hre := SR_rest hcell (partsB_len _ _ _ _) hcc1 hcc2 a1 (by omega)
                split
                · obtain ⟨A', c', hv, h1, h2, -⟩ := hre
                  injection hv with _ hv2 hv3
                  refine ⟨_, k1 - a1, by rw [hv2], by rw [hv3]; exact h1, by omega, fun hp => ?_⟩
                  exfalso
                  rw [List.length_drop, partsB_len] at hp
                  omega
                · exact hre)
              have HIX : Hid ((partsB (tgt l) N e m).take a ++ (partsB (tgt l) N e m).drop a1 = (idxs m a).map (partB (tgt l) N e)) := Lib.hid (by rw [← ha1]; exact idxs_less (partB (tgt l) N e) ham)
              have HTL : Hid (((partsB (tgt l) N e m).take a).length = a ∧ ((partsB (tgt l) N e m).drop a1).length = m - a1) := Lib.hid (by rw [List.length_take, List.length_drop, partsB_len]; omega)
              have ea1 : IntKind.i64.wrap ((a : Int) + 1) = (a1 : Int) := by rw [IntWalk.i64_in _ (by omega)]; omega
              have ea3 : (a : Int) ≤ (m : Int) := by omega
              have ea4 : (a1 : Int) ≤ (m : Int) := by omega
              have ea5 : (a : Int) ≤ (k1 : Int) := by omega
              have ea6 : (0 : Int) ≤ (a1 : Int) := by omega
              have ea7 : (0 : Int) ≤ (a : Int) := by omega
              clear hcell haa
              go_upto_region 34 with (fail)
              refine wp_region_noPanic ?_
              refine wp_region_held_drew (S := fun _ => True) (by kernel_rfl) trivial (fun hHeld => ?_)
              refine wpAnyH_take (i := 1) (oi := _) (v := ?_) rfl (by kernel_rfl) (by kernel_rfl) (by kernel_rfl) (fun _ _ _ h => h) (Or.inl ⟨by rfl, ?_⟩) (by assumption) ?_
              rotate_left
              · (intro w hSw; (try dsimp only at hSw); go_simp; (try with_reducible rfl))
              try simp only [Act.put, List.setIfInBounds_toArray, List.set_cons_zero, List.set_cons_succ]
              refine wpAnyH_take (i := 2) (oi := _) (v := ?_) rfl (by kernel_rfl) (by kernel_rfl) (by kernel_rfl) (fun _ _ _ h => h) (Or.inl ⟨by rfl, ?_⟩) (by assumption) ?_
              rotate_left
              · (intro w hSw; (try dsimp only at hSw); go_simp; (try with_reducible rfl))
              try simp only [Act.put, List.setIfInBounds_toArray, List.set_cons_zero, List.set_cons_succ]
              refine wpAnyH_take (i := 3) (oi := _) (v := ?_) rfl (by kernel_rfl) (by kernel_rfl) (by kernel_rfl) (fun _ _ _ h => h) (Or.inl ⟨by rfl, ?_⟩) (by assumption) ?_
              rotate_left
              · (intro w hSw; (try dsimp only at hSw); go_simp; (try with_reducible rfl))
              try simp only [Act.put, List.setIfInBounds_toArray, List.set_cons_zero, List.set_cons_succ]
              refine wpAnyH_take (i := 5) (oi := _) (v := ?_) rfl (by kernel_rfl) (by kernel_rfl) (by kernel_rfl) (fun _ _ _ h => h) (Or.inl ⟨by rfl, ?_⟩) (by assumption) ?_
              rotate_left
              · (intro w hSw; (try dsimp only at hSw); go_simp; (try with_reducible rfl))
              try simp only [Act.put, List.setIfInBounds_toArray, List.set_cons_zero, List.set_cons_succ]
              refine wpAnyH_take (i := 6) (oi := _) (v := ?_) rfl (by kernel_rfl) (by kernel_rfl) (by kernel_rfl) (fun _ _ _ h => h) (Or.inl ⟨by rfl, ?_⟩) (by assumption) ?_
              rotate_left
              · (intro w hSw; (try dsimp only at hSw); go_simp; (try with_reducible rfl))
              try simp only [Act.put, List.setIfInBounds_toArray, List.set_cons_zero, List.set_cons_succ]
              refine wpAnyH_take (i := 7) (oi := _) (v := ?_) rfl (by kernel_rfl) (by kernel_rfl) (by kernel_rfl) (fun _ _ _ h => h) (Or.inl ⟨by rfl, ?_⟩) (by assumption) ?_
              rotate_left
              · (intro w hSw; (try dsimp only at hSw); go_simp; (try with_reducible rfl))
              try simp only [Act.put, List.setIfInBounds_toArray, List.set_cons_zero, List.set_cons_succ]
              refine wpAnyH_take (i := 8) (oi := _) (v := ?_) rfl (by kernel_rfl) (by kernel_rfl) (by kernel_rfl) (fun _ _ _ h => h) (Or.inl ⟨by rfl, ?_⟩) (by assumption) ?_
              rotate_left
              · (intro w hSw; (try dsimp only at hSw); go_simp; (try with_reducible rfl))
              try simp only [Act.put, List.setIfInBounds_toArray, List.set_cons_zero, List.set_cons_succ]
              refine wpAnyH_ready (rs := [0]) (by kernel_rfl) (by simp) ?_
              refine AllReadyH.cons (o := _) rfl (fun K hK => ?_) (AllReadyH.nil)
              (go_simp)
              refine hK.out _ _ trivial (fun hHeld => ?_)
              clear hK K
              try simp only [Act.put, List.setIfInBounds_toArray, List.set_cons_zero, List.set_cons_succ]
              refine wpAnyH_ready (rs := [4]) (by kernel_rfl) (by simp) ?_
              refine AllReadyH.cons (o := _) rfl (fun K hK => ?_) (AllReadyH.nil)
              obtain ⟨V1, hV1⟩ : ∃ W, (wx.alloc (.cells #[] 9)).drew = W := ⟨_, rfl⟩
              have HB1 : Below wx.heap.size wx V1 := by rw [← hV1]; exact ((Below.refl _ _).alloc (Nat.le_refl _) _).drew
              have HO1 : OT V1 wx.heap.size (.slice (some ⟨wx.heap.size, 0, none⟩) 0 0) [] := by rw [← hV1]; exact OT.fresh wx wx.heap.size (Nat.le_refl _)
              rw [hV1]
              clear hV1
              refine OT.append_wp0 (ops := _) (base := wx.heap.size) HO1 (HFT.out.later HB1) rfl _ _ (by rfl) (by rfl) (by rfl) HB1.size (by have := HTL.out; simp only [List.length_nil]; omega) ?_
              intro v2 V2 HO2 hg2
              have HB2 := HB1.grown hg2 HB1.size (OT.base HO1)
              have HO2d : OT V2.drew wx.heap.size v2 ([] ++ (partsB (tgt l) N e m).take a) := HO2
              have HB2d := HB2.drew
              refine hK.out _ _ trivial (fun hHeld => ?_)
              clear hK K
              try simp only [Act.put, List.setIfInBounds_toArray, List.set_cons_zero, List.set_cons_succ]
              refine wpAnyH_ready (rs := [9]) (by kernel_rfl) (by simp) ?_
              refine AllReadyH.cons (o := _) rfl (fun K hK => ?_) (AllReadyH.nil)
              first
                | refine OT.append_wp0 (ops := _) (base := wx.heap.size) HO2 (HRT.out.later HB2) rfl _ _ (by rfl) (by rfl) (by rfl) HB2.size (by have := HTL.out; rw [List.nil_append]; omega) ?_
                | refine OT.append_wp0 (ops := _) (base := wx.heap.size) HO2d (HRT.out.later HB2d) rfl _ _ (by rfl) (by rfl) (by rfl) HB2d.size (by have := HTL.out; rw [List.nil_append]; omega) ?_
              intro v3 V3 HO3 hg3
              have HB3 : Hid (Below wx.heap.size wx V3) := Lib.hid (by first | exact HB2.grown hg3 HB2.size (OT.base HO2) | exact HB2d.grown hg3 HB2d.size (OT.base HO2d))
              have HL3 : Hid (OT V3 wx.heap.size v3 ((idxs m a).map (partB (tgt l) N e))) := Lib.hid (by rw [← HIX.out]; rw [List.nil_append] at HO3; exact HO3)
              refine hK.out _ _ trivial (fun hHeld => ?_)
              clear hK K
              try simp only [Act.put, List.setIfInBounds_toArray, List.set_cons_zero, List.set_cons_succ]
              refine wpAnyH_take (i := 10) (oi := _) (v := ?_) rfl (by kernel_rfl) (by kernel_rfl) (by kernel_rfl) (fun _ _ _ h => h) (Or.inl ⟨by rfl, ?_⟩) (by assumption) ?_
              rotate_left
              · (intro w hSw; (try dsimp only at hSw); go_simp; (try with_reducible rfl))
              try simp only [Act.put, List.setIfInBounds_toArray, List.set_cons_zero, List.set_cons_succ]
              refine wpAnyH_done (by kernel_rfl) ?_ _
              refine NoPanic.normal ?_
              clear hHeld
              simp only [List.getElem_toArray, List.getElem_cons_succ, List.getElem_cons_zero, List.setIfInBounds_toArray, List.set_cons_zero, List.set_cons_succ]
              clear HO1 HO2 HO3 HO2d hg2 hg3 HB1 HB2 HB2d HFT HRT HIX
              obtain ⟨A3, k3, hv3, -⟩ := OT_shape HL3.out
              rw [List.length_map, idxs_len ham] at hv3
              obtain ⟨mp, hmp⟩ : ∃ mp, m - 1 = mp := ⟨_, rfl⟩
              rw [hmp] at hv3
              subst hv3
              obtain ⟨g3, hg3⟩ := HL3.out.reads
              have HS3 := Lib.hid hg3
              have HQ3 := Lib.hid (HQ.out.trans (HB3.out.mono HQ.out.size))
              have HJL := Lib.hid (join_less HC3.out e he1 a (by rw [HM.out]; exact ham) (by rw [HM.out]; omega) g3 _ V3 (by rw [HM.out]; exact HS3.out))
              have HU : Hid (Below V3.heap.size V3 V3) := Lib.hid (Below.refl _ _)
              have HUF : Hid (∀ X, Below V3.heap.size V3 X → Below w.heap.size w X) := Lib.hid (fun X h => HBF9.out _ (HQ3.out.trans (h.mono HQ3.out.size)))
              have HWX := Lib.hid HB3.out.size
              have HW0 := Lib.hid (HBF9.out _ HQ.out).size
              have em1 : ((mp : Nat) : Int) = (m : Int) - 1 := by omega
              have HTB : Hid (∀ (X : World) (g : Nat) (v : Value), SR X g v ((idxs m a).map (partB (tgt l) N e) ++ [ByteArray.empty]) → Calls Tryz.prog 14 #[.int .i64 (N : Int), v] X fun r w' => r = .returned (.tuple #[.slice none 0 0, .iface 106 (.agg #[.int .i64 ((m : Int) - 1), faultV 0 3])]) ∧ Hid (Below X.heap.size X w')) := Lib.hid (fun X g v h => table_less HC3.out e he1 m HM.out (by omega) a ham g v X h)
              have HLN : Hid (((idxs m a).map (partB (tgt l) N e)).length = mp) := Lib.hid (by rw [List.length_map, idxs_len ham, hmp])
              clear hg3 hmp
              go_upto_region 38 with (first
                | (go_at_call 15; refine HJL.out.mono ?_; rintro r w11 ⟨rfl, HBx⟩; have HU := HBx; clear HBx)
                | (go_at_call 12; refine (HCF.out a 4 _ (HUF.out _ HU.out)).mono ?_; rintro r w12 ⟨rfl, HBx⟩; have HU := Lib.hid (HU.out.trans (HBx.out.mono HU.out.size)); clear HBx)
                | (go_at_call 18; refine (HPF.out a 4 _ (HUF.out _ HU.out)).mono ?_; rintro r w13 ⟨rfl, HBx⟩; have HU := Lib.hid (HU.out.trans (HBx.out.mono HU.out.size)); clear HBx))
              have HL4 := Lib.hid (HL3.out.later HU.out)
              have HSZ := Lib.hid HU.out.size
              go_upto_region 39 with (first
                | (at_builtin; refine OT.append_on (base := wx.heap.size) (HL4.out.alloc _) (SR.lit _ [ByteArray.empty] _ rfl 1 rfl (by simp)) (by simp) rfl _ _ rfl rfl rfl (by have := HWX.out; have := HSZ.out; simp; omega) (by rw [HLN.out]; simp only [List.length_cons, List.length_nil]; omega) ?_; intro v4 V4 q1 q2; have Q1 := Lib.hid q1; have Q2 := Lib.hid q2; clear q1 q2; obtain ⟨g4, hg4⟩ := Q1.out.reads; have HS4 := Lib.hid hg4; clear hg4; have HX4 : Hid (Below w.heap.size w V4) := Lib.hid (((HUF.out _ HU.out).alloc (HUF.out _ HU.out).size _).grown Q2.out (by have := (HUF.out _ HU.out).size; simp; omega) (fun k hk => Nat.le_trans HW0.out (OT.base HL4.out k hk))))
                | (go_at_call 14; refine (HTB.out _ g4 _ HS4.out).mono ?_; rintro r w14 ⟨rfl, HBx⟩; have HX5 := Lib.hid (HX4.out.trans (HBx.out.mono HX4.out.size))))
              go_wp2_with (first
                | (go_at_call 12; refine (HCG.out ((m : Int) - 1) 0 3 _ HX5.out).mono ?_; rintro r w15 ⟨rfl, HBy⟩; have HX5 := Lib.hid (HX5.out.trans (HBy.out.mono HX5.out.size)); clear HBy)
                | (go_at_call 18; refine (HPG.out ((m : Int) - 1) 0 3 _ HX5.out).mono ?_; rintro r w16 ⟨rfl, HBy⟩; have HX5 := Lib.hid (HX5.out.trans (HBy.out.mono HX5.out.size)); clear HBy))
              all_goals (go_ret; exact ⟨rfl, HX5⟩)
theorem splits_row (n : Int) (g : Nat) (v : Value) (l : List E2) (a b : Int) (w : World) (hG : Er.G0 w) (hn : (Lit.int .i64 n).wf = true) (hr : ER w g v l) (hb : ∀ e ∈ l, (-9223372036854775808 ≤ e.1 ∧ e.1 < 9223372036854775808) ∧ (-9223372036854775808 ≤ e.2 ∧ e.2 < 9223372036854775808))
    (h0 : (Lit.int .i64 a).wf = true) (h1 : (Lit.int .u8 b).wf = true) :
    Calls Tryz.prog 3 #[.int .i64 n, v, .agg #[.int .i64 a, .int .u8 b]] w fun e w' => e = .returned (.bool true) ∧ Below w.heap.size w w' := by
  obtain ⟨A, c, rfl, -⟩ := er_form hr
  have q0 : -9223372036854775808 ≤ a ∧ a < 9223372036854775808 := by
    simp [Lit.wf, IntKind.min, IntKind.max, IntKind.signed, IntKind.bits] at h0; omega
  have q1 : 0 ≤ b ∧ b < 256 := by
    simp [Lit.wf, IntKind.min, IntKind.max, IntKind.signed, IntKind.bits] at h1; omega
  obtain ⟨t, rfl⟩ := Int.eq_ofNat_of_zero_le q1.1
  exact (splits_walk n g A l.length c l a t w hG hr rfl q0 (by omega)).mono fun _ _ h => ⟨h.1, h.2.out⟩
end Go.Proofs.YtjokfllldcjheaaGreatDoor.Oc
