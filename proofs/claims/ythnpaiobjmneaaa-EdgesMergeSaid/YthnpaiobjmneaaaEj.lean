/- The example of layer 4; EdgesDegrees, walked. -/
import Derived.Test.YthnpaiobjmneaaaEi
namespace Go.Proofs.Ythnpaiobjmneaaa.Ed
open Go.RowKit
set_option linter.unusedVariables false
set_option linter.unusedSimpArgs false

theorem aw_wrg : wrg 3 [(2, 0), (0, 1), (2, 0)] = -2 := by decide
theorem aw_nrm : nrm [(2, 0), (0, 1), (2, 0)] = [(0, 1), (2, 0)] := by decide
set_option maxHeartbeats 2000000 in
set_option maxRecDepth 100000 in
theorem awake_calls (w : World) : Calls Try.prog 20 #[] w fun e w' => e = .returned (.bool true) ∧ Hid (Below w.heap.size w w') := by
  have HJ : Hid (ER (w.alloc (.cells #[.int .i64 2, .int .i64 0, .int .i64 0, .int .i64 1, .int .i64 2, .int .i64 0] 47)) w.heap.size (.slice (some ⟨w.heap.size, 0, none⟩) 3 3) [(2, 0), (0, 1), (2, 0)]) := Lib.hid (ER.lit w [(2, 0), (0, 1), (2, 0)] _ rfl 3 rfl (by simp))
  have HI : Hid (∀ W : World, ER (W.alloc (.cells #[.int .i64 0, .int .i64 1, .int .i64 2, .int .i64 0] 47)) W.heap.size (.slice (some ⟨W.heap.size, 0, none⟩) 2 2) [(0, 1), (2, 0)]) := Lib.hid (fun W => ER.lit W [(0, 1), (2, 0)] _ rfl 2 rfl (by simp))
  go_enter Try.func20, Try.ntmps20
  go_wp2_with (first
    | (go_at_call 21; refine (norm_ok 3 _ _ _ _ HJ.out (by simp) aw_wrg).mono ?_; rw [aw_nrm]; rintro e w1 ⟨v1, rfl, HO, HB⟩; obtain ⟨vA, vc, rfl, -, -⟩ := id HO.out.shape)
    | (go_at_call 26; refine (rsame_calls _ _ _ _ _ _ _ (HO.out.reads.choose_spec.1.alloc _) (HI.out w1)).mono ?_; rintro e w2 ⟨rfl, q, rfl⟩))
  go_ret
  refine ⟨rfl, Lib.hid ?_⟩
  have h1 := ((Below.refl _ w).alloc (Nat.le_refl _) _).trans (HB.out.mono (by simp))
  exact (h1.alloc h1.size _).trans (drewN_below _ _ _)
theorem er_shape {w : World} {g : Nat} {v : Value} {l : List E2} (h : ER w g v l) : ∃ A c, v = .slice A l.length c ∧ l.length ≤ c ∧ c ≤ 9223372036854775807 := by
  obtain ⟨o, A, c, hv, h1, h2, -⟩ := h
  exact ⟨A, c, hv, h1, h2⟩
set_option maxHeartbeats 4000000 in
set_option maxRecDepth 100000 in
theorem degrees_walk (n : Int) (g : Nat) (A : Option Addr) (len c : Nat) (l : List E2) (w : World) (hr : ER w g (.slice A len c) l) (hlen : l.length = len) :
    Calls Try.prog 5 #[.int .i64 n, .slice A len c] w fun e w' => e = .returned (.bool true) ∧ Hid (Below w.heap.size w w') := by
  have HR := Lib.hid hr
  have HL := Lib.hid hlen
  have hc : len ≤ c ∧ c ≤ 9223372036854775807 := by
    obtain ⟨A', c', hv, h1, h2⟩ := er_shape hr
    injection hv with _ _ hv
    subst hv
    rw [hlen] at h1
    exact ⟨h1, h2⟩
  obtain ⟨hc1, hc2⟩ := hc
  clear hr hlen
  by_cases hbig : 200 < len
  · have hb : (200 : Int) < (len : Int) := by omega
    go_enter Try.func5, Try.ntmps5
    go_wp2_with (go_at_call 20; refine (awake_calls _).mono ?_; rintro e w1 ⟨rfl, HB⟩)
    go_ret
    exact ⟨rfl, HB⟩
  · have hb : ¬ (200 : Int) < (len : Int) := by omega
    by_cases hn : 300 < n
    · go_enter Try.func5, Try.ntmps5
      go_wp2_with (go_at_call 20; refine (awake_calls _).mono ?_; rintro e w1 ⟨rfl, HB⟩)
      go_ret
      exact ⟨rfl, HB⟩
    · by_cases hw : wrg n l = -2
      · obtain ⟨n0, n1, -, hok⟩ := wrg_ok.1 hw
        obtain ⟨N, rfl⟩ := Int.eq_ofNat_of_zero_le n0
        have HW := Lib.hid hw
        have HOK := Lib.hid hok
        have nn : N ≤ 300 := by omega
        clear hok hw hn
        go_enter Try.func5, Try.ntmps5
        go_upto_region 10 with (first
          | (go_at_call 20; refine (awake_calls _).mono ?_; rintro e w1 ⟨rfl, HB⟩)
          | (go_at_call 21; refine (norm_ok (N : Int) _ _ l _ (HR.out.later HB.out) (by rw [HL.out]; omega) HW.out).mono ?_; rintro e w2 ⟨v2, rfl, HO, HB2⟩))
        have HBW := Lib.hid (HB.out.trans (HB2.out.mono HB.out.size))
        obtain ⟨g2, hg2, -⟩ := HO.out.reads
        have HR2 := Lib.hid hg2
        obtain ⟨vA, vc, rfl, hvc, hvm⟩ := id HO.out.shape
        have hnl := nrm_len l
        have HNL : Hid ((nrm l).length ≤ len) := Lib.hid (by rw [← HL.out]; exact hnl)
        obtain ⟨m, hm⟩ : ∃ m, (nrm l).length = m := ⟨_, rfl⟩
        rw [hm] at hvc HNL HR2 ⊢
        have HM := Lib.hid hm
        have hml := HNL.out
        clear hnl hm HB HB2 HO hg2 HNL
        have HB0 : Hid (bel l 0 = 0 ∧ bel (nrm l) 0 = 0) := Lib.hid ⟨bel_zero l fun e he => (HOK.out e he).1, bel_zero _ fun e he => (HOK.out e (mem_nrm.1 he)).1⟩
        go_loopw [7, 8, 9] (fun y z x wz => ∃ (k a b : Nat), x = .int .i64 (k : Int) ∧ y = .int .i64 (a : Int) ∧ z = .int .i64 (b : Int) ∧ k ≤ N ∧ a ≤ 200 ∧ b ≤ 200 ∧ Hid (bel l k = a ∧ bel (nrm l) k = b) ∧ Hid (Below w2.heap.size w2 wz)) (fun _ _ x _ => N - (intOf x).toNat)
        case atStart => exact ⟨0, 0, 0, rfl, rfl, rfl, by omega, by omega, by omega, HB0, Lib.hid (Below.refl _ _)⟩
        case round =>
          obtain ⟨k, a, b, rfl, rfl, rfl, hk, ha, hb2, HBL, HB⟩ := hrel
          by_cases hlt : k < N
          · obtain ⟨da, hda⟩ : ∃ d, deg l k = d := ⟨_, rfl⟩
            obtain ⟨db, hdb⟩ : ∃ d, deg (nrm l) k = d := ⟨_, rfl⟩
            have hs1 := bel_step l k
            have hs2 := bel_step (nrm l) k
            have hle := deg_nrm k l
            have hz := deg_zero_nrm l k
            have hm1 : bel l (k + 1) ≤ l.length := List.countP_le_length
            have hm2 : bel (nrm l) (k + 1) ≤ (nrm l).length := List.countP_le_length
            rw [hda] at hs1 hle hz
            rw [hdb] at hs2 hle hz
            rw [HL.out] at hm1
            rw [HM.out] at hm2
            rw [HBL.out.1] at hs1
            rw [HBL.out.2] at hs2
            have ha2 : a + da ≤ 200 := by omega
            have hb3 : b + db ≤ 200 := by omega
            have HN : Hid (bel l (k + 1 : Nat) = a + da ∧ bel (nrm l) (k + 1 : Nat) = b + db) := Lib.hid ⟨hs1, hs2⟩
            have HD := Lib.hid (And.intro hda hdb)
            have hle2 : (db : Int) ≤ (da : Int) := by omega
            have HZ : (da = 0 ∧ db = 0) ∨ (((da : Int) == 0) = false ∧ ((db : Int) == 0) = false) := by
              by_cases h : da = 0
              · exact .inl ⟨h, hz.2 h⟩
              · refine .inr ⟨?_, ?_⟩
                · rw [beq_eq_false_iff_ne]; omega
                · rw [beq_eq_false_iff_ne]; have : ¬ db = 0 := fun e => h (hz.1 e); omega
            clear hda hdb hs1 hs2 hle hz hm1 hm2
            rcases HZ with ⟨rfl, rfl⟩ | ⟨hz1, hz2⟩
            · go_wp2_with (first
                | (go_at_call 23; with_reducible (show Calls Try.prog _ #[.slice A _ _, _] _ _); refine (degree_calls _ _ l _ _ (HR.out.later (HBW.out.trans (HB.out.mono HBW.out.size))) (by rw [HL.out]; omega)).mono ?_; rw [HD.out.1]; rintro e w3 ⟨rfl, HBx⟩; have HB := Lib.hid (HB.out.trans (HBx.out.mono HB.out.size)); clear HBx)
                | (go_at_call 23; refine (degree_calls _ _ (nrm l) _ _ (HR2.out.later HB.out) (by rw [HM.out]; omega)).mono ?_; rw [HD.out.2]; rintro e w4 ⟨rfl, HBx⟩; have HB := Lib.hid (HB.out.trans (HBx.out.mono HB.out.size)); clear HBx))
              go_roundw
              case rel => exact ⟨k + 1, a, b, by go_num, by go_num, by go_num, by omega, by omega, by omega, HN, HB⟩
              case measure => simp [intOf]; omega
            · go_wp2_with (first
                | (go_at_call 23; with_reducible (show Calls Try.prog _ #[.slice A _ _, _] _ _); refine (degree_calls _ _ l _ _ (HR.out.later (HBW.out.trans (HB.out.mono HBW.out.size))) (by rw [HL.out]; omega)).mono ?_; rw [HD.out.1]; rintro e w3 ⟨rfl, HBx⟩; have HB := Lib.hid (HB.out.trans (HBx.out.mono HB.out.size)); clear HBx)
                | (go_at_call 23; refine (degree_calls _ _ (nrm l) _ _ (HR2.out.later HB.out) (by rw [HM.out]; omega)).mono ?_; rw [HD.out.2]; rintro e w4 ⟨rfl, HBx⟩; have HB := Lib.hid (HB.out.trans (HBx.out.mono HB.out.size)); clear HBx))
              go_roundw
              case rel => exact ⟨k + 1, a + da, b + db, by go_num, by go_num, by go_num, by omega, by omega, by omega, HN, HB⟩
              case measure => simp [intOf]; omega
          · obtain rfl : N = k := by omega
            obtain rfl : len = a := by rw [← HL.out, ← HBL.out.1]; exact (bel_all l _ fun e he => (HOK.out e he).2.2.1).symm
            obtain rfl : m = b := by rw [← HM.out, ← HBL.out.2]; exact (bel_all _ _ fun e he => (HOK.out e (mem_nrm.1 he)).2.2.1).symm
            have e1 : ((len : Int) == (len : Int)) = true := by simp
            have e2 : ((m : Int) == (m : Int)) = true := by simp
            have e3 : (m : Int) ≤ (len : Int) := by omega
            go_wp2
            go_ret
            exact ⟨rfl, Lib.hid (HBW.out.trans (HB.out.mono HBW.out.size))⟩
      · have hcv : chkV n l = errV (wrg n l) := by unfold chkV; rw [if_neg hw]
        have HCV := Lib.hid hcv
        have HW := Lib.hid hw
        clear hcv
        obtain ⟨a, ha⟩ : ∃ a, wrg n l = a := ⟨_, rfl⟩
        rw [ha] at HCV HW
        have HA := Lib.hid ha
        clear ha hw
        go_enter Try.func5, Try.ntmps5
        go_wp2_with (first
          | (go_at_call 20; refine (awake_calls _).mono ?_; rintro e w1 ⟨rfl, HB⟩)
          | (go_at_call 21; refine (norm_bad n _ _ l _ (HR.out.later HB.out) (by rw [HL.out]; omega) (by rw [HA.out]; exact HW.out)).mono ?_; rw [HA.out]; unfold errV; rintro e w2 ⟨rfl, HB2⟩)
          | (go_at_call 22; refine (check_calls n _ _ l _ (HR.out.later (HB.out.trans (HB2.out.mono HB.out.size))) (by rw [HL.out]; omega)).mono ?_; rw [HCV.out]; unfold errV; rintro e w3 ⟨rfl, HB3⟩))
        go_ret
        have h2 := HB.out.trans (HB2.out.mono HB.out.size)
        exact ⟨rfl, Lib.hid (h2.trans (HB3.out.mono h2.size))⟩
theorem degrees_row (n : Int) (g : Nat) (v : Value) (l : List E2) (w : World) (hn : (Lit.int .i64 n).wf = true) (hr : ER w g v l) (hb : ∀ e ∈ l, (-9223372036854775808 ≤ e.1 ∧ e.1 < 9223372036854775808) ∧ (-9223372036854775808 ≤ e.2 ∧ e.2 < 9223372036854775808)) :
    Calls Try.prog 5 #[.int .i64 n, v] w fun e w' => e = .returned (.bool true) ∧ Below w.heap.size w w' := by
  obtain ⟨A, c, rfl, -⟩ := er_shape hr
  exact (degrees_walk n g A l.length c l w hr rfl).mono fun _ _ h => ⟨h.1, h.2.out⟩
end Go.Proofs.Ythnpaiobjmneaaa.Ed
