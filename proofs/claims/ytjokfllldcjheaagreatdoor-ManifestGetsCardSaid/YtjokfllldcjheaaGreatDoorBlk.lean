/- The contracts of block.Count, block.Size and block.Needs. -/
import Derived.Test.YtjokfllldcjheaaGreatDoorProg
import Derived.WalkKit
import Derived.WalkSpells
import Derived.WalkLawsBesides
import Derived.Lib.Hide
namespace Go.Proofs.YtjokfllldcjheaaGreatDoor.Blk
open Go.RowKit
set_option linter.unusedVariables false
set_option linter.unusedSimpArgs false

theorem ret_int {k : IntKind} {a b : Int} (h : a = b) : Ending.returned (.int k a) = .returned (.int k b) := by rw [h]

/-- how many blocks -/
def cnt (x : Int) : Int := (x + 63) / 64
/-- how many bytes the i-th block has -/
def siz (x i : Int) : Int := if i < 0 then 0 else if cnt x ≤ i then 0 else if x - 64 * i < 64 then x - 64 * i else 64

theorem count_calls (x : Int) (w : World) (h0 : 0 ≤ x) (h1 : x ≤ 1000000000) :
    Calls Tryz.prog 32 #[.int .i64 x] w fun e w' => e = .returned (.int .i64 (cnt x)) ∧ w = w' := by
  by_cases h : x < 1
  all_goals
    go_enter Tryz.func32, Tryz.ntmps32
    go_wp2
    go_ret
    exact ⟨ret_int (by unfold cnt; omega), rfl⟩

theorem siz_neg (x i : Int) (h : i < 0) : siz x i = 0 := by unfold siz; rw [if_pos h]
theorem siz_out (x i : Int) (h : cnt x ≤ i) : siz x i = 0 := by
  unfold siz
  split
  · rfl
  · simp [h]
theorem siz_in (x i : Int) (h0 : 0 ≤ i) (h : i < cnt x) : 64 * i < x ∧ (x - 64 * i < 64 ∧ siz x i = x - 64 * i ∨ 64 ≤ x - 64 * i ∧ siz x i = 64) := by
  unfold siz
  rw [if_neg (by omega), if_neg (by omega)]
  unfold cnt at h
  split <;> omega

theorem size_calls (x i : Int) (w : World) (h0 : 0 ≤ x) (h1 : x ≤ 1000000000) (hi : -9000000000000000000 ≤ i) (hi1 : i ≤ 9000000000000000000) :
    Calls Tryz.prog 96 #[.int .i64 x, .int .i64 i] w fun e w' => e = .returned (.int .i64 (siz x i)) ∧ w = w' := by
  by_cases h : i < 0
  · have HS := Lib.hid (siz_neg x i h)
    go_enter Tryz.func96, Tryz.ntmps96
    go_wp2
    go_ret
    exact ⟨ret_int HS.out.symm, rfl⟩
  · have hc : cnt x ≤ 1000000000 := by unfold cnt; omega
    have hc0 : 0 ≤ cnt x := by unfold cnt; omega
    by_cases h2 : cnt x ≤ i
    · have HS := Lib.hid (siz_out x i h2)
      go_enter Tryz.func96, Tryz.ntmps96
      go_wp2_with (go_at_call 32; refine (count_calls x _ h0 h1).mono ?_; rintro e w' ⟨rfl, rfl⟩)
      go_ret
      exact ⟨ret_int HS.out.symm, rfl⟩
    · obtain ⟨h3, ⟨h4, h5⟩ | ⟨h4, h5⟩⟩ := siz_in x i (by omega) (by omega)
      all_goals
        have HS := Lib.hid h5
        clear h5
        have h6 : 64 * i < 1000000000 := by omega
        go_enter Tryz.func96, Tryz.ntmps96
        go_wp2_with (go_at_call 32; refine (count_calls x _ h0 h1).mono ?_; rintro e w' ⟨rfl, rfl⟩)
        go_ret
        exact ⟨ret_int (by have := HS.out; omega), rfl⟩

/-- what block.Needs tells -/
def needs (n f m : Int) : Int × Int := if m = 0 then (0, -1) else (f / 64, (f + m - 1) / 64)

end Go.Proofs.YtjokfllldcjheaaGreatDoor.Blk
