/- The reference of layer 4: Wrong, less, Norm. -/
import Derived.Test.YtjokfllldcjheaaGreatDoorEi
import Derived.BigQuiet
namespace Go.Proofs.YtjokfllldcjheaaGreatDoor.Ed
open Go.RowKit
set_option linter.unusedVariables false
set_option linter.unusedSimpArgs false
instance (a b : E2) : Decidable (Lt a b) := by unfold Lt; infer_instance
set_option maxHeartbeats 2000000 in
set_option maxRecDepth 100000 in
theorem rless_calls (a b : E2) (w : World) : Calls Tryz.prog 45 #[.agg #[.int .i64 a.1, .int .i64 a.2], .agg #[.int .i64 b.1, .int .i64 b.2]] w fun e w' => e = .returned (.bool (decide (Lt a b))) ∧ Hid (Below w.heap.size w w') := by
  obtain ⟨a1, a2⟩ := a
  obtain ⟨b1, b2⟩ := b
  have HB : Hid (∀ o o', Below w.heap.size w ((w.alloc o).alloc o')) := Lib.hid (fun o o' => ((Below.refl _ _).alloc (Nat.le_refl _) _).alloc (by simp) _)
  obtain ⟨r, hr⟩ : ∃ r, decide (Lt (a1, a2) (b1, b2)) = r := ⟨_, rfl⟩
  rw [hr]
  simp only
  by_cases h1 : a1 < b1
  · have : r = true := by rw [← hr]; exact decide_eq_true (Or.inl h1)
    subst this
    clear hr
    go_enter Tryz.func45, Tryz.ntmps45
    go_wp2
    go_ret
    exact ⟨rfl, Lib.hid (HB.out _ _)⟩
  · by_cases h2 : a1 = b1
    · subst h2
      by_cases h3 : a2 < b2
      · have : r = true := by rw [← hr]; exact decide_eq_true (Or.inr ⟨rfl, h3⟩)
        subst this
        clear hr
        go_enter Tryz.func45, Tryz.ntmps45
        go_wp2
        go_ret
        exact ⟨rfl, Lib.hid (HB.out _ _)⟩
      · have : r = false := by rw [← hr]; exact decide_eq_false (by unfold Lt; simp only; omega)
        subst this
        clear hr
        go_enter Tryz.func45, Tryz.ntmps45
        go_wp2
        go_ret
        exact ⟨rfl, Lib.hid (HB.out _ _)⟩
    · have : r = false := by rw [← hr]; exact decide_eq_false (by unfold Lt; simp only; omega)
      subst this
      clear hr
      go_enter Tryz.func45, Tryz.ntmps45
      go_wp2
      go_ret
      exact ⟨rfl, Lib.hid (HB.out _ _)⟩
end Go.Proofs.YtjokfllldcjheaaGreatDoor.Ed
