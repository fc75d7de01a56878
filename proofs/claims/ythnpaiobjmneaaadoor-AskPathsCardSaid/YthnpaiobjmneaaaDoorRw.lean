/- The reference of layer 4: Wrong, less, Norm. -/
import Derived.Test.YthnpaiobjmneaaaDoorEi
import Derived.BigQuiet
namespace Go.Proofs.YthnpaiobjmneaaaDoor.Ed
open Go.RowKit
set_option linter.unusedVariables false
set_option linter.unusedSimpArgs false
set_option maxHeartbeats 2000000 in
set_option maxRecDepth 100000 in
theorem rwrong_calls (n : Int) (g : Nat) (v : Value) (l : List E2) (w : World) (h : ER w g v l) (hl : l.length ≤ 1000000) :
    Calls Tryd.prog 14 #[.int .i64 n, v] w fun e w' => e = .returned (.int .i64 (wrg n l)) ∧ w = w' := by
  have HE := Lib.hid h
  obtain ⟨o, A, c, rfl, h1, h2, hread⟩ := id h
  obtain ⟨len, hlen⟩ : ∃ len, l.length = len := ⟨_, rfl⟩
  rw [hlen] at h1 hl hread ⊢
  have HL := Lib.hid hlen
  have HRD := Lib.hid hread
  have hl7 : (len : Int) ≤ 1000000 := by omega
  obtain ⟨r, hr⟩ : ∃ r, wrg n l = r := ⟨_, rfl⟩
  rw [hr]
  have HR := Lib.hid hr
  clear h hlen hr hread
  by_cases hn0 : n < 0
  · have : r = -1 := by rw [← HR.out]; unfold wrg; rw [if_pos (Or.inl hn0)]
    subst this
    go_enter Tryd.func14, Tryd.ntmps14
    go_wp2
    go_ret
    exact ⟨rfl, rfl⟩
  · by_cases hn1 : 4096 < n
    · have : r = -1 := by rw [← HR.out]; unfold wrg; rw [if_pos (Or.inr hn1)]
      subst this
      go_enter Tryd.func14, Tryd.ntmps14
      go_wp2
      go_ret
      exact ⟨rfl, rfl⟩
    · by_cases hb : 20000 < len
      · have hb2 : (20000 : Int) < (len : Int) := by omega
        have : r = 20000 := by rw [← HR.out]; unfold wrg; rw [if_neg (by omega), if_pos (by rw [HL.out]; exact hb)]
        subst this
        go_enter Tryd.func14, Tryd.ntmps14
        go_wp2
        go_ret
        exact ⟨rfl, rfl⟩
      · have hb2 : ¬ (20000 : Int) < (len : Int) := by omega
        have HQ : Hid (r = badE n (l.drop 0) 0) := Lib.hid (by rw [← HR.out]; unfold wrg; rw [if_neg (by omega), if_neg (by rw [HL.out]; exact hb)]; rfl)
        go_enter Tryd.func14, Tryd.ntmps14
        go_upto_region 6 with (fail)
        go_loopw [5] (fun x wz => ∃ k : Nat, x = .int .i64 (k : Int) ∧ k ≤ len ∧ Hid (r = badE n (l.drop k) k) ∧ wz = w) (fun x _ => len - (intOf x).toNat)
        case atStart => exact ⟨0, rfl, by omega, HQ, rfl⟩
        case round =>
          clear HQ
          obtain ⟨k, rfl, hk, HQ, hwz⟩ := hrel
          subst hwz
          by_cases hlt : k < len
          · obtain ⟨rfl, -, hcell⟩ := HRD.out (by omega)
            obtain ⟨q0, q1⟩ := hcell k hlt
            have hstep := badE_drop n l k (by rw [HL.out]; exact hlt) k
            obtain ⟨⟨x, y⟩, hxy⟩ : ∃ x, l.getD k (0, 0) = x := ⟨_, rfl⟩
            rw [hxy] at q0 q1 hstep
            simp only at q0 q1
            have HS := Lib.hid hstep
            have i0 : (0 : Int) ≤ (k : Int) := by omega
            have i1 : (k : Int) < (len : Int) := by omega
            clear hcell hstep hxy
            by_cases hok : okE n (x, y)
            · have HQ2 : Hid (r = badE n (l.drop (k + 1)) (k + 1 : Nat)) := Lib.hid (by
                have := HQ.out
                rw [HS.out, if_pos hok] at this
                rw [this]; rfl)
              unfold okE at hok
              simp only at hok
              have b1 : ¬ x < 0 := by omega
              have b2 : ¬ y < 0 := by omega
              have b3 : ¬ x ≥ n := by omega
              have b4 : ¬ y ≥ n := by omega
              clear hok HS HQ
              go_wp2
              go_roundw
              case rel => exact ⟨k + 1, by go_num, by omega, HQ2, trivial⟩
              case measure => simp [intOf]; omega
            · have : r = (k : Int) := by rw [HQ.out, HS.out, if_neg hok]
              subst this
              unfold okE at hok
              simp only at hok
              clear HS HQ
              by_cases b1 : x < 0
              · clear hok
                go_wp2
                go_ret
                exact ⟨rfl, rfl⟩
              · by_cases b2 : y < 0
                · clear hok
                  go_wp2
                  go_ret
                  exact ⟨rfl, rfl⟩
                · by_cases b3 : x ≥ n
                  · clear hok
                    go_wp2
                    go_ret
                    exact ⟨rfl, rfl⟩
                  · have b4 : y ≥ n := by omega
                    clear hok
                    go_wp2
                    go_ret
                    exact ⟨rfl, rfl⟩
          · obtain rfl : len = k := by omega
            have : r = -2 := by rw [HQ.out, List.drop_of_length_le (by rw [HL.out]; omega)]; rfl
            subst this
            clear HQ
            go_wp2
            go_ret
            exact ⟨rfl, rfl⟩
instance (a b : E2) : Decidable (Lt a b) := by unfold Lt; infer_instance
set_option maxHeartbeats 2000000 in
set_option maxRecDepth 100000 in
theorem rless_calls (a b : E2) (w : World) : Calls Tryd.prog 48 #[.agg #[.int .i64 a.1, .int .i64 a.2], .agg #[.int .i64 b.1, .int .i64 b.2]] w fun e w' => e = .returned (.bool (decide (Lt a b))) ∧ Hid (Below w.heap.size w w') := by
  obtain ⟨a1, a2⟩ := a
  obtain ⟨b1, b2⟩ := b
  have HB : Hid (∀ o o', Below w.heap.size w ((w.alloc o).alloc o')) := Lib.hid (fun o o' => ((Below.refl _ _).alloc (Nat.le_refl _) _).alloc (by simp) _)
  obtain ⟨r, hr⟩ : ∃ r, decide (Lt (a1, a2) (b1, b2)) = r := ⟨_, rfl⟩
  rw [hr]
  simp only
  by_cases h1 : a1 < b1
  · have : r = true := by rw [← hr]; exact decide_eq_true (Or.inl h1)
    subst this
    clear hr
    go_enter Tryd.func48, Tryd.ntmps48
    go_wp2
    go_ret
    exact ⟨rfl, Lib.hid (HB.out _ _)⟩
  · by_cases h2 : a1 = b1
    · subst h2
      by_cases h3 : a2 < b2
      · have : r = true := by rw [← hr]; exact decide_eq_true (Or.inr ⟨rfl, h3⟩)
        subst this
        clear hr
        go_enter Tryd.func48, Tryd.ntmps48
        go_wp2
        go_ret
        exact ⟨rfl, Lib.hid (HB.out _ _)⟩
      · have : r = false := by rw [← hr]; exact decide_eq_false (by unfold Lt; simp only; omega)
        subst this
        clear hr
        go_enter Tryd.func48, Tryd.ntmps48
        go_wp2
        go_ret
        exact ⟨rfl, Lib.hid (HB.out _ _)⟩
    · have : r = false := by rw [← hr]; exact decide_eq_false (by unfold Lt; simp only; omega)
      subst this
      clear hr
      go_enter Tryd.func48, Tryd.ntmps48
      go_wp2
      go_ret
      exact ⟨rfl, Lib.hid (HB.out _ _)⟩
end Go.Proofs.YthnpaiobjmneaaaDoor.Ed
