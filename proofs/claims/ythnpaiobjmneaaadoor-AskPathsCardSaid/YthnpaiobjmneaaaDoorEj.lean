/- The example of layer 4; EdgesDegrees, walked. -/
import Derived.Test.YthnpaiobjmneaaaDoorEi
namespace Go.Proofs.YthnpaiobjmneaaaDoor.Ed
open Go.RowKit
set_option linter.unusedVariables false
set_option linter.unusedSimpArgs false

theorem aw_wrg : wrg 3 [(2, 0), (0, 1), (2, 0)] = -2 := by decide
theorem aw_nrm : nrm [(2, 0), (0, 1), (2, 0)] = [(0, 1), (2, 0)] := by decide
set_option maxHeartbeats 2000000 in
set_option maxRecDepth 100000 in
theorem awake_calls (w : World) : Calls Tryd.prog 9 #[] w fun e w' => e = .returned (.bool true) ∧ Hid (Below w.heap.size w w') := by
  have HJ : Hid (ER (w.alloc (.cells #[.int .i64 2, .int .i64 0, .int .i64 0, .int .i64 1, .int .i64 2, .int .i64 0] 67)) w.heap.size (.slice (some ⟨w.heap.size, 0, none⟩) 3 3) [(2, 0), (0, 1), (2, 0)]) := Lib.hid (ER.lit w [(2, 0), (0, 1), (2, 0)] _ rfl 3 rfl (by simp))
  have HI : Hid (∀ W : World, ER (W.alloc (.cells #[.int .i64 0, .int .i64 1, .int .i64 2, .int .i64 0] 67)) W.heap.size (.slice (some ⟨W.heap.size, 0, none⟩) 2 2) [(0, 1), (2, 0)]) := Lib.hid (fun W => ER.lit W [(0, 1), (2, 0)] _ rfl 2 rfl (by simp))
  go_enter Tryd.func9, Tryd.ntmps9
  go_wp2_with (first
    | (go_at_call 10; refine (norm_ok 3 _ _ _ _ HJ.out (by simp) aw_wrg).mono ?_; rw [aw_nrm]; rintro e w1 ⟨v1, rfl, HO, HB⟩; obtain ⟨vA, vc, rfl, -, -⟩ := id HO.out.shape)
    | (go_at_call 15; refine (rsame_calls _ _ _ _ _ _ _ (HO.out.reads.choose_spec.1.alloc _) (HI.out w1)).mono ?_; rintro e w2 ⟨rfl, q, rfl⟩))
  go_ret
  refine ⟨rfl, Lib.hid ?_⟩
  have h1 := ((Below.refl _ w).alloc (Nat.le_refl _) _).trans (HB.out.mono (by simp))
  exact (h1.alloc h1.size _).trans (drewN_below _ _ _)
theorem er_shape {w : World} {g : Nat} {v : Value} {l : List E2} (h : ER w g v l) : ∃ A c, v = .slice A l.length c ∧ l.length ≤ c ∧ c ≤ 9223372036854775807 := by
  obtain ⟨o, A, c, hv, h1, h2, -⟩ := h
  exact ⟨A, c, hv, h1, h2⟩
end Go.Proofs.YthnpaiobjmneaaaDoor.Ed
