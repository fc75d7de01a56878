/- SHA-256's turning of words: sha.right turns a word right. -/
import Derived.Test.YtmhjocbnoppbbaaProg
import Derived.Test.YtmhjocbnoppbbaaShaP
import Derived.WalkKit
import Derived.WalkSpells
import Derived.WalkLawsBesides
import Derived.Lib.Hide
import Derived.Laws.BitsAllLaws
namespace Go.Proofs.Ytmhjocbnoppbbaa.Sha
open Go.RowKit
set_option linter.unusedVariables false
set_option linter.unusedSimpArgs false

theorem right2 (x : Nat) (w : World) (hx : x < 4294967296) :
    Calls Try.prog 69 #[.int .u32 (x : Int), .int .i64 2] w fun e w' => e = .returned (.int .u32 ((rotr x 2 : Nat) : Int)) ∧ w = w' := by
  have hx' : (x : Int) < 4294967296 := by omega
  have e7 : bits .and .u64 (IntKind.u64.wrap (-2)) 31 = 30 := by decide +kernel
  have HV := Lib.hid (rot_val x 2 30 hx rfl)
  go_enter Try.func69, Try.ntmps69
  go_wp2
  go_ret
  refine ⟨?_, rfl⟩
  exact congrArg (fun z => Ending.returned (.int .u32 z)) HV.out

theorem right6 (x : Nat) (w : World) (hx : x < 4294967296) :
    Calls Try.prog 69 #[.int .u32 (x : Int), .int .i64 6] w fun e w' => e = .returned (.int .u32 ((rotr x 6 : Nat) : Int)) ∧ w = w' := by
  have hx' : (x : Int) < 4294967296 := by omega
  have e7 : bits .and .u64 (IntKind.u64.wrap (-6)) 31 = 26 := by decide +kernel
  have HV := Lib.hid (rot_val x 6 26 hx rfl)
  go_enter Try.func69, Try.ntmps69
  go_wp2
  go_ret
  refine ⟨?_, rfl⟩
  exact congrArg (fun z => Ending.returned (.int .u32 z)) HV.out

theorem right7 (x : Nat) (w : World) (hx : x < 4294967296) :
    Calls Try.prog 69 #[.int .u32 (x : Int), .int .i64 7] w fun e w' => e = .returned (.int .u32 ((rotr x 7 : Nat) : Int)) ∧ w = w' := by
  have hx' : (x : Int) < 4294967296 := by omega
  have e7 : bits .and .u64 (IntKind.u64.wrap (-7)) 31 = 25 := by decide +kernel
  have HV := Lib.hid (rot_val x 7 25 hx rfl)
  go_enter Try.func69, Try.ntmps69
  go_wp2
  go_ret
  refine ⟨?_, rfl⟩
  exact congrArg (fun z => Ending.returned (.int .u32 z)) HV.out

theorem right11 (x : Nat) (w : World) (hx : x < 4294967296) :
    Calls Try.prog 69 #[.int .u32 (x : Int), .int .i64 11] w fun e w' => e = .returned (.int .u32 ((rotr x 11 : Nat) : Int)) ∧ w = w' := by
  have hx' : (x : Int) < 4294967296 := by omega
  have e7 : bits .and .u64 (IntKind.u64.wrap (-11)) 31 = 21 := by decide +kernel
  have HV := Lib.hid (rot_val x 11 21 hx rfl)
  go_enter Try.func69, Try.ntmps69
  go_wp2
  go_ret
  refine ⟨?_, rfl⟩
  exact congrArg (fun z => Ending.returned (.int .u32 z)) HV.out

theorem right13 (x : Nat) (w : World) (hx : x < 4294967296) :
    Calls Try.prog 69 #[.int .u32 (x : Int), .int .i64 13] w fun e w' => e = .returned (.int .u32 ((rotr x 13 : Nat) : Int)) ∧ w = w' := by
  have hx' : (x : Int) < 4294967296 := by omega
  have e7 : bits .and .u64 (IntKind.u64.wrap (-13)) 31 = 19 := by decide +kernel
  have HV := Lib.hid (rot_val x 13 19 hx rfl)
  go_enter Try.func69, Try.ntmps69
  go_wp2
  go_ret
  refine ⟨?_, rfl⟩
  exact congrArg (fun z => Ending.returned (.int .u32 z)) HV.out

theorem right17 (x : Nat) (w : World) (hx : x < 4294967296) :
    Calls Try.prog 69 #[.int .u32 (x : Int), .int .i64 17] w fun e w' => e = .returned (.int .u32 ((rotr x 17 : Nat) : Int)) ∧ w = w' := by
  have hx' : (x : Int) < 4294967296 := by omega
  have e7 : bits .and .u64 (IntKind.u64.wrap (-17)) 31 = 15 := by decide +kernel
  have HV := Lib.hid (rot_val x 17 15 hx rfl)
  go_enter Try.func69, Try.ntmps69
  go_wp2
  go_ret
  refine ⟨?_, rfl⟩
  exact congrArg (fun z => Ending.returned (.int .u32 z)) HV.out

theorem right18 (x : Nat) (w : World) (hx : x < 4294967296) :
    Calls Try.prog 69 #[.int .u32 (x : Int), .int .i64 18] w fun e w' => e = .returned (.int .u32 ((rotr x 18 : Nat) : Int)) ∧ w = w' := by
  have hx' : (x : Int) < 4294967296 := by omega
  have e7 : bits .and .u64 (IntKind.u64.wrap (-18)) 31 = 14 := by decide +kernel
  have HV := Lib.hid (rot_val x 18 14 hx rfl)
  go_enter Try.func69, Try.ntmps69
  go_wp2
  go_ret
  refine ⟨?_, rfl⟩
  exact congrArg (fun z => Ending.returned (.int .u32 z)) HV.out

theorem right19 (x : Nat) (w : World) (hx : x < 4294967296) :
    Calls Try.prog 69 #[.int .u32 (x : Int), .int .i64 19] w fun e w' => e = .returned (.int .u32 ((rotr x 19 : Nat) : Int)) ∧ w = w' := by
  have hx' : (x : Int) < 4294967296 := by omega
  have e7 : bits .and .u64 (IntKind.u64.wrap (-19)) 31 = 13 := by decide +kernel
  have HV := Lib.hid (rot_val x 19 13 hx rfl)
  go_enter Try.func69, Try.ntmps69
  go_wp2
  go_ret
  refine ⟨?_, rfl⟩
  exact congrArg (fun z => Ending.returned (.int .u32 z)) HV.out

theorem right22 (x : Nat) (w : World) (hx : x < 4294967296) :
    Calls Try.prog 69 #[.int .u32 (x : Int), .int .i64 22] w fun e w' => e = .returned (.int .u32 ((rotr x 22 : Nat) : Int)) ∧ w = w' := by
  have hx' : (x : Int) < 4294967296 := by omega
  have e7 : bits .and .u64 (IntKind.u64.wrap (-22)) 31 = 10 := by decide +kernel
  have HV := Lib.hid (rot_val x 22 10 hx rfl)
  go_enter Try.func69, Try.ntmps69
  go_wp2
  go_ret
  refine ⟨?_, rfl⟩
  exact congrArg (fun z => Ending.returned (.int .u32 z)) HV.out

theorem right25 (x : Nat) (w : World) (hx : x < 4294967296) :
    Calls Try.prog 69 #[.int .u32 (x : Int), .int .i64 25] w fun e w' => e = .returned (.int .u32 ((rotr x 25 : Nat) : Int)) ∧ w = w' := by
  have hx' : (x : Int) < 4294967296 := by omega
  have e7 : bits .and .u64 (IntKind.u64.wrap (-25)) 31 = 7 := by decide +kernel
  have HV := Lib.hid (rot_val x 25 7 hx rfl)
  go_enter Try.func69, Try.ntmps69
  go_wp2
  go_ret
  refine ⟨?_, rfl⟩
  exact congrArg (fun z => Ending.returned (.int .u32 z)) HV.out

/-- is n one of the numbers by which words are turned? -/
def turnable (n : Int) : Bool := n == 2 || n == 6 || n == 7 || n == 11 || n == 13 || n == 17 || n == 18 || n == 19 || n == 22 || n == 25

theorem right_calls (x : Nat) (n : Int) (w : World) (hx : x < 4294967296) (hn : turnable n = true) :
    Calls Try.prog 69 #[.int .u32 (x : Int), .int .i64 n] w fun e w' => e = .returned (.int .u32 ((rotr x n : Nat) : Int)) ∧ w = w' := by
  simp only [turnable, Bool.or_eq_true, beq_iff_eq] at hn
  rcases hn with (((((((((rfl | rfl) | rfl) | rfl) | rfl) | rfl) | rfl) | rfl) | rfl) | rfl)
  · exact right2 x w hx
  · exact right6 x w hx
  · exact right7 x w hx
  · exact right11 x w hx
  · exact right13 x w hx
  · exact right17 x w hx
  · exact right18 x w hx
  · exact right19 x w hx
  · exact right22 x w hx
  · exact right25 x w hx
end Go.Proofs.Ytmhjocbnoppbbaa.Sha
