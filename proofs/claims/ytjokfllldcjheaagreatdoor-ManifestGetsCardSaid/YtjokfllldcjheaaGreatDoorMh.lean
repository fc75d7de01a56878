/- octet: Text; manifest: Get. -/
import Derived.Test.YtjokfllldcjheaaGreatDoorMg
namespace Go.Proofs.YtjokfllldcjheaaGreatDoor.Mn
open Go.RowKit Go.Proofs.YtjokfllldcjheaaGreatDoor.Oc Go.Proofs.YtjokfllldcjheaaGreatDoor.Ed Go.Proofs.YtjokfllldcjheaaGreatDoor.Tb Go.Proofs.YtjokfllldcjheaaGreatDoor.Sha Go.Proofs.YtjokfllldcjheaaGreatDoor.Cs Go.Proofs.YtjokfllldcjheaaGreatDoor.Mk
set_option linter.unusedVariables false
set_option linter.unusedSimpArgs false
set_option maxHeartbeats 4000000 in
set_option maxRecDepth 100000 in
theorem text_any (s : ByteArray) (a : Nat) (h : a ≤ s.size) (hs : s.size ≤ 140737488355328) : ∃ (y : ByteArray) (av : Int) (ev : Value), RS s (s.data.toList.take a ++ txtB y) av ev ∧ ∀ w,
    Calls Tryz.prog 70 #[.string s, .int .i64 (a : Int), .int .i64 72057594037927935] w fun r w' => r = .returned (.tuple #[.string y, .int .i64 av, ev]) ∧ Hid (Below w.heap.size w w') := by
  have hS := fun W => Short_calls s a h hs W
  cases hR : rdAt s.data.toList a with
  | error b =>
    rw [hR] at hS
    have hb := rdAt_bad hR
    have HS : Hid (∀ W, Calls Tryz.prog 86 #[.string s, .int .i64 (a : Int)] W fun e w' => e = .returned (.tuple #[.int .i64 0, .int .i64 (a : Int), faultV (b.2 : Int) (b.1 : Int)]) ∧ W = w') := Lib.hid hS
    have HB := Lib.hid hb
    clear hS hR hb
    refine ⟨⟨#[]⟩, (a : Int), faultV (b.2 : Int) (b.1 : Int), .inr ⟨b.2, b.1, rfl, HB.out⟩, fun w => ?_⟩
    go_enter Tryz.func70, Tryz.ntmps70
    go_wp2_with (go_at_call 86; refine (HS.out _).mono ?_; rintro e w2 ⟨rfl, rfl⟩)
    go_ret3
    exact ⟨rfl, Lib.hid (Below.refl _ _)⟩
  | ok q =>
    rw [hR] at hS
    obtain ⟨n, m⟩ := q
    have hl := rdAt_len hR
    have hi := rdAt_inv hR (by rw [list_sz0]; exact h)
    rw [list_sz0] at hl
    simp only at hl hi
    have hn : n < 72057594037927936 := by simpa using hl.2.2
    have hm : m ≤ s.size := hl.2.1
    have HS : Hid (∀ W, Calls Tryz.prog 86 #[.string s, .int .i64 (a : Int)] W fun e w' => e = .returned (.tuple #[.int .i64 (n : Int), .int .i64 (m : Int), .nilIface]) ∧ W = w') := Lib.hid hS
    have HI := Lib.hid hi
    have h1 : ¬ (72057594037927935 : Int) < (n : Int) := by omega
    clear hS hR hl hi
    by_cases hlt : n ≤ s.size - m
    · have h2 : ¬ (s.size : Int) - (m : Int) < (n : Int) := by omega
      have hmm : (m : Int) ≤ (m : Int) + (n : Int) := by omega
      have hms : (m : Int) + (n : Int) ≤ (s.size : Int) := by omega
      have hy : (s.extract m (m + n)).size = n := by rw [ByteArray.size_extract]; omega
      have hyl : (s.extract m (m + n)).data.toList = (s.data.toList.drop m).take n := by
        rw [ByteArray.data_extract, Array.toList_extract]
        simp [Nat.add_sub_cancel_left]
      refine ⟨s.extract m (m + n), ((m + n : Nat) : Int), .nilIface, .inl ⟨rfl, m + n, rfl, by omega, ?_⟩, fun w => ?_⟩
      · rw [List.take_add, HI.out, ← hyl, txtB, hy, List.append_assoc]
      · clear hy hyl
        go_enter Tryz.func70, Tryz.ntmps70
        go_wp2_with (go_at_call 86; refine (HS.out _).mono ?_; rintro e w2 ⟨rfl, rfl⟩)
        go_ret3
        exact ⟨by go_num, Lib.hid (Below.refl _ _)⟩
    · have h2 : (s.size : Int) - (m : Int) < (n : Int) := by omega
      have HF : Hid (∀ (p k : Int) W, Calls Tryz.prog 104 #[.int .i64 p, noV k] W fun e w' => e = .returned (faultV p k) ∧ W = w') := Lib.hid (fun p k W => fault_calls p k W)
      refine ⟨⟨#[]⟩, (a : Int), faultV (s.size : Int) 3, .inr ⟨s.size, 3, rfl, .inl rfl⟩, fun w => ?_⟩
      go_enter Tryz.func70, Tryz.ntmps70
      go_wp2_with (first
        | (go_at_call 86; refine (HS.out _).mono ?_; rintro e w2 ⟨rfl, rfl⟩)
        | (go_at_call 104; refine (HF.out _ 3 _).mono ?_; rintro e w3 ⟨rfl, rfl⟩))
      go_ret3
      exact ⟨rfl, Lib.hid (Below.refl _ _)⟩
end Go.Proofs.YtjokfllldcjheaaGreatDoor.Mn
