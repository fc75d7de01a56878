/- want: the calls on no state. -/
import Derived.Test.YthnpaiobjmneaaaWd
namespace Go.Proofs.Ythnpaiobjmneaaa.Wa
open Go.RowKit Go.Maps
set_option linter.unusedVariables false
set_option linter.unusedSimpArgs false

set_option maxHeartbeats 1000000 in
theorem next_nil (now : Int) (w : World) : Calls Try.prog 15 #[.pointer none, .int .i64 now] w fun e w' => e = .returned (.tuple #[.int .i64 0, .bool false]) ∧ Hid (Below w.heap.size w w') := by
  go_enter Try.func15, Try.ntmps15
  go_upto_region 1 with (fail)
  go_quiet (fail)
  go_wp2
  go_ret2
  exact ⟨rfl, Lib.hid (drewN_below _ _ _)⟩
set_option maxHeartbeats 1000000 in
theorem until_nil (i : Int) (w : World) : Calls Try.prog 32 #[.pointer none, .int .i64 i] w fun e w' => e = .returned (.tuple #[.int .i64 0, .bool false]) ∧ Hid (Below w.heap.size w w') := by
  go_enter Try.func32, Try.ntmps32
  go_wp2
  go_ret2
  exact ⟨rfl, Lib.hid (Below.refl _ _)⟩
set_option maxHeartbeats 1000000 in
theorem got_nil (i : Int) (w : World) : Calls Try.prog 19 #[.pointer none, .int .i64 i] w fun e w' => e = .returned (.bool false) ∧ Hid (Below w.heap.size w w') := by
  go_enter Try.func19, Try.ntmps19
  go_wp2
  go_ret
  exact ⟨rfl, Lib.hid (Below.refl _ _)⟩
set_option maxHeartbeats 1000000 in
theorem missing_nil (w : World) : Calls Try.prog 18 #[.pointer none] w fun e w' => e = .returned (.slice none 0 0) ∧ Hid (Below w.heap.size w w') := by
  go_enter Try.func18, Try.ntmps18
  go_wp2
  go_ret
  exact ⟨rfl, Lib.hid (Below.refl _ _)⟩
set_option maxHeartbeats 1000000 in
theorem asked_nil (w : World) : Calls Try.prog 17 #[.pointer none] w fun e w' => e = .returned (.slice none 0 0) ∧ Hid (Below w.heap.size w w') := by
  go_enter Try.func17, Try.ntmps17
  go_wp2
  go_ret
  exact ⟨rfl, Lib.hid (Below.refl _ _)⟩
set_option maxHeartbeats 1000000 in
theorem bits_nil (n : Int) (w : World) : Calls Try.prog 27 #[.pointer none, .int .i64 n] w fun e w' => e = .returned (.string ⟨#[]⟩) ∧ Hid (Below w.heap.size w w') := by
  go_enter Try.func27, Try.ntmps27
  go_wp2
  go_ret
  exact ⟨rfl, Lib.hid (Below.refl _ _)⟩
set_option maxHeartbeats 1000000 in
theorem over_nil (now : Int) (w : World) : Calls Try.prog 16 #[.pointer none, .int .i64 now] w fun e w' => e = .returned (.slice none 0 0) ∧ Hid (Below w.heap.size w w') := by
  go_enter Try.func16, Try.ntmps16
  go_upto_region 3 with (go_at_call 17; refine (asked_nil _).mono ?_; rintro e w1 ⟨rfl, HB⟩)
  go_loopw [5, 11] (fun u x wz => u = .slice none 0 0 ∧ x = .int .i64 0 ∧ wz = w1) (fun _ _ _ => 0)
  case atStart => exact ⟨rfl, rfl, rfl⟩
  case round =>
    obtain ⟨rfl, rfl, rfl⟩ := hrel
    go_wp2
    go_ret
    exact ⟨rfl, HB⟩
set_option maxHeartbeats 1000000 in
theorem add_nil (g : Nat) (z : Int) (w : World) (hc : w.cell? ⟨g, 0, none⟩ = some (.int .i64 z)) : Calls Try.prog 14 #[.pointer none, .slice (some ⟨g, 0, none⟩) 1 1] w fun e w' => e = .returned (.tuple #[]) ∧ Hid (Below w.heap.size w w') := by
  go_enter Try.func14, Try.ntmps14
  go_upto_region 1 with (fail)
  go_loopw [8] (fun x wz => (x = .int .i64 0 ∨ x = .int .i64 1) ∧ wz = w) (fun x _ => 1 - (intOf x).toNat)
  case atStart => exact ⟨.inl rfl, rfl⟩
  case round =>
    obtain ⟨rfl | rfl, rfl⟩ := hrel
    · go_wp2
      go_roundw
      case rel => simp
      case measure => simp [intOf]
    · go_wp2
      go_end0
      exact ⟨rfl, Lib.hid (Below.refl _ _)⟩
end Go.Proofs.Ythnpaiobjmneaaa.Wa
