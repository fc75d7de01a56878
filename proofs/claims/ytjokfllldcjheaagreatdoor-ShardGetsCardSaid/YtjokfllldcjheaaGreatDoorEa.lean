/- edges: the small functions: Compare, Or, order, wrong, Check, Clone. -/
import Derived.Test.YtjokfllldcjheaaGreatDoorEr
import Derived.Deep.QuietTactic
import Derived.BigQuiet
import Derived.Deep.RegionHeld3
import Derived.Sort.Grow
import Derived.WalkSpells
import Derived.Deep.DeepCutAuto
import Derived.Deep.CutBlock
namespace Go.Proofs.YtjokfllldcjheaaGreatDoor.Ed
open Go.RowKit
set_option linter.unusedVariables false
set_option linter.unusedSimpArgs false

/-- how two numbers stand -/
def cmpI (x y : Int) : Int := if x < y then -1 else if y < x then 1 else 0
/-- how two edges stand -/
def ordF (a b : E2) : Int := if cmpI a.1 b.1 = 0 then cmpI a.2 b.2 else cmpI a.1 b.1
theorem cmpI_lt {x y : Int} (h : x < y) : cmpI x y = -1 := by unfold cmpI; rw [if_pos h]
theorem cmpI_gt {x y : Int} (h : y < x) : cmpI x y = 1 := by unfold cmpI; rw [if_neg (by omega), if_pos h]
theorem cmpI_eq (x : Int) : cmpI x x = 0 := by unfold cmpI; rw [if_neg (by omega), if_neg (by omega)]
theorem ordF_neg (a b : E2) : ordF a b < 0 ↔ Lt a b := by
  unfold ordF cmpI Lt
  by_cases h1 : a.1 < b.1
  · simp [h1]
  · by_cases h2 : b.1 < a.1
    · simp [h1, h2]; omega
    · have : a.1 = b.1 := by omega
      by_cases h3 : a.2 < b.2
      · simp [h1, h2, h3, this]
      · by_cases h4 : b.2 < a.2 <;> simp [h1, h2, h3, h4, this]

set_option maxHeartbeats 1000000 in
theorem isnan_calls (x : Int) (w : World) : Calls Tryz.prog 141 #[.int .i64 x] w fun e w' => e = .returned (.bool false) ∧ w = w' := by
  go_enter Tryz.func141, Tryz.ntmps141
  go_wp2
  go_ret
  exact ⟨by simp, rfl⟩
set_option maxHeartbeats 1000000 in
theorem compare_calls (x y : Int) (w : World) : Calls Tryz.prog 110 #[.int .i64 x, .int .i64 y] w fun e w' => e = .returned (.int .i64 (cmpI x y)) ∧ w = w' := by
  by_cases h1 : x < y
  · rw [cmpI_lt h1]
    go_enter Tryz.func110, Tryz.ntmps110
    go_wp2_with (go_at_call 141; refine (isnan_calls _ _).mono ?_; rintro e w' ⟨rfl, rfl⟩)
    go_ret
    exact ⟨rfl, rfl⟩
  · by_cases h2 : y < x
    · rw [cmpI_gt h2]
      go_enter Tryz.func110, Tryz.ntmps110
      go_wp2_with (go_at_call 141; refine (isnan_calls _ _).mono ?_; rintro e w' ⟨rfl, rfl⟩)
      go_ret
      exact ⟨rfl, rfl⟩
    · obtain rfl : x = y := by omega
      rw [cmpI_eq]
      clear h1 h2
      go_enter Tryz.func110, Tryz.ntmps110
      go_wp2_with (go_at_call 141; refine (isnan_calls _ _).mono ?_; rintro e w' ⟨rfl, rfl⟩)
      go_ret
      exact ⟨rfl, rfl⟩
set_option maxHeartbeats 1000000 in
theorem or_calls (g : Nat) (a b : Int) (w : World) (h0 : w.cell? ⟨g, 0, none⟩ = some (.int .i64 a)) (h1 : w.cell? ⟨g, 1, none⟩ = some (.int .i64 b)) :
    Calls Tryz.prog 109 #[.slice (some ⟨g, 0, none⟩) 2 2] w fun e w' => e = .returned (.int .i64 (if a = 0 then b else a)) ∧ w = w' := by
  have HR : Hid ((a ≠ 0 → (if a = 0 then b else a) = a) ∧ (a = 0 → (if a = 0 then b else a) = b)) := Lib.hid ⟨fun h => if_neg h, fun h => if_pos h⟩
  generalize (if a = 0 then b else a) = r at HR ⊢
  go_enter Tryz.func109, Tryz.ntmps109
  go_wp2
  go_loop [8] (fun i => i = .int .i64 0 ∨ (a = 0 ∧ i = .int .i64 1) ∨ (a = 0 ∧ b = 0 ∧ i = .int .i64 2)) (fun i => 2 - (intOf i).toNat)
  case atStart => exact .inl rfl
  case round =>
    rcases hrel with rfl | ⟨h0, rfl⟩ | ⟨h0, hb, rfl⟩
    · by_cases ha : a = 0
      · subst ha
        go_wp2
        go_round
        case rel => simp
        case measure => simp [intOf]
      · have ha' : (a == 0) = false := by simpa using ha
        have ha2 : (a != 0) = true := by simpa using ha
        go_wp2
        go_ret
        exact ⟨by rw [HR.out.1 ha]; rfl, rfl⟩
    · subst h0
      by_cases hb : b = 0
      · subst hb
        go_wp2
        go_round
        case rel => simp
        case measure => simp [intOf]
      · have ha' : (b == 0) = false := by simpa using hb
        have ha2 : (b != 0) = true := by simpa using hb
        go_wp2
        go_ret
        exact ⟨by rw [HR.out.2 (by simp)]; rfl, rfl⟩
    · subst h0 hb
      go_wp2
      go_ret
      exact ⟨by rw [HR.out.2 (by simp)]; rfl, rfl⟩
end Go.Proofs.YtjokfllldcjheaaGreatDoor.Ed
