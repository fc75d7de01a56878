/- BlockSpans: the blocks that block.Needs names for a range of bytes are just those that have one of these bytes, and the sizes of all blocks add up, for every total below 2000. Conditions: none beyond the statement's own. -/
import Derived.Test.YtmhjocbnoppbbaaBlk
import Derived.OpenShut
namespace Go.Proofs.Ytmhjocbnoppbbaa.Blk
open Go.RowKit
set_option linter.unusedVariables false
set_option linter.unusedSimpArgs false

theorem needs_fact (n f m : Int) (hf0 : 0 ≤ f) (hm0 : 0 ≤ m) :
    (m ≤ 0 ∧ (needs n f m).1 = 0 ∧ (needs n f m).2 = -1) ∨ (0 < m ∧ 64 * (needs n f m).1 ≤ f ∧ f < 64 * (needs n f m).1 + 64 ∧ 64 * (needs n f m).2 ≤ f + m - 1 ∧ f + m - 1 < 64 * (needs n f m).2 + 64) := by
  unfold needs
  split
  · left; omega
  · right; simp only; omega

set_option maxHeartbeats 4000000 in
set_option maxRecDepth 100000 in
theorem spans_calls (a0 a1 a2 : Int) (w : World) (l0 : 0 ≤ a0) (u0 : a0 < 65536) (l1 : 0 ≤ a1) (u1 : a1 < 65536) (l2 : 0 ≤ a2) (u2 : a2 < 65536) :
    Calls Try.prog 3 #[.int .u16 a0, .int .u16 a1, .int .u16 a2] w fun e w' => e = .returned (.bool true) ∧ w = w' := by
  have n0 : 0 ≤ a0 % 2000 := by omega
  have n1 : a0 % 2000 < 2000 := by omega
  have f0 : 0 ≤ a1 % (a0 % 2000 + 1) := Int.emod_nonneg _ (by omega)
  have f1 : a1 % (a0 % 2000 + 1) ≤ a0 % 2000 := by have := Int.emod_lt_of_pos a1 (show 0 < a0 % 2000 + 1 by omega); omega
  have m0 : 0 ≤ a2 % (a0 % 2000 - a1 % (a0 % 2000 + 1) + 1) := Int.emod_nonneg _ (by omega)
  have m1 : a2 % (a0 % 2000 - a1 % (a0 % 2000 + 1) + 1) ≤ a0 % 2000 - a1 % (a0 % 2000 + 1) := by have := Int.emod_lt_of_pos a2 (show 0 < a0 % 2000 - a1 % (a0 % 2000 + 1) + 1 by omega); omega
  go_enter Try.func3, Try.ntmps3
  go_wp2_with (go_at_call 11; refine (blk_awake_calls _).mono ?_; rintro e w' ⟨rfl, rfl⟩)
  generalize a2 % (a0 % 2000 - a1 % (a0 % 2000 + 1) + 1) = m at *
  generalize a1 % (a0 % 2000 + 1) = f at *
  generalize a0 % 2000 = n at *
  refine (needs_calls n f m _ (by omega) f0 f1 m0 m1).mono ?_
  rintro e w' ⟨rfl, rfl⟩
  have hab := needs_fact n f m f0 m0
  generalize (needs n f m).1 = a at *
  generalize (needs n f m).2 = b at *
  go_wp2_with fail
  go_loop [13, 14] (fun x y => ∃ at_ i : Int, x = .int .i64 at_ ∧ y = .int .i64 i ∧ 0 ≤ i ∧ i ≤ cnt n ∧ (64 * i ≤ n ∧ at_ = 64 * i ∨ n ≤ 64 * i ∧ at_ = n)) (fun _ y => (cnt n - intOf y).toNat)
  case atStart => exact ⟨0, 0, rfl, rfl, by omega, by unfold cnt; omega, by omega⟩
  case round =>
    obtain ⟨at_, i, rfl, rfl, i0, i1, hat⟩ := hrel
    have hc : cnt n ≤ 1000 := by unfold cnt; omega
    by_cases hlt : i < cnt n
    · obtain ⟨hin, hs⟩ := siz_in n i i0 hlt
      obtain rfl : at_ = 64 * i := by omega
      have s0 : 0 < siz n i := by omega
      have s1 : siz n i ≤ 64 := by omega
      have hnext : (64 * (i + 1) ≤ n ∧ 64 * i + siz n i = 64 * (i + 1) ∨ n ≤ 64 * (i + 1) ∧ 64 * i + siz n i = n) := by omega
      have HN := Lib.hid hnext
      clear hnext hat
      by_cases c1 : 64 * i < f + m
      all_goals by_cases c2 : f < 64 * i + siz n i
      all_goals by_cases c3 : 0 < m
      all_goals by_cases c4 : a ≤ i
      all_goals by_cases c5 : i ≤ b
      all_goals first
        | (exfalso; omega)
        | (clear hs hab
           first | (have d3 := decide_eq_false c3) | (have d3 := decide_eq_true c3)
           first | (have d4 := decide_eq_false c4) | (have d4 := decide_eq_true c4)
           first | (have d5 := decide_eq_false c5) | (have d5 := decide_eq_true c5)
           go_wp2_with (first
             | (go_at_call 13; refine (count_calls _ _ (by omega) (by omega)).mono ?_; rintro e w' ⟨rfl, rfl⟩)
             | (go_at_call 14; refine (size_calls _ _ _ (by omega) (by omega) (by omega) (by omega)).mono ?_; rintro e w' ⟨rfl, rfl⟩))
           go_round
           case rel => exact ⟨_, _, rfl, rfl, by omega, by omega, HN.out⟩
           case measure => simp [intOf]; omega)
    · obtain rfl : at_ = n := by unfold cnt at hlt i1; omega
      clear hat
      go_wp2_with (go_at_call 13; refine (count_calls _ _ (by omega) (by omega)).mono ?_; rintro e w' ⟨rfl, rfl⟩)
      go_ret
      exact ⟨rfl, rfl⟩
theorem u16_range {a : Int} (h : (Lit.int .u16 a).wf = true) : 0 ≤ a ∧ a < 65536 := by
  have := bounds_u16 h
  omega

theorem spans_walk (a0 a1 a2 : Int) (w : World) (w0 : (Lit.int .u16 a0).wf = true) (w1 : (Lit.int .u16 a1).wf = true) (w2 : (Lit.int .u16 a2).wf = true) :
    Calls Try.prog 3 #[.int .u16 a0, .int .u16 a1, .int .u16 a2] w fun e w' => e = .returned (.bool true) ∧ Below w.heap.size w w' := by
  obtain ⟨l0, u0⟩ := u16_range w0
  obtain ⟨l1, u1⟩ := u16_range w1
  obtain ⟨l2, u2⟩ := u16_range w2
  refine (spans_calls a0 a1 a2 w l0 u0 l1 u1 l2 u2).mono ?_
  rintro e w' ⟨rfl, rfl⟩
  exact ⟨rfl, Below.refl _ _⟩
end Go.Proofs.Ytmhjocbnoppbbaa.Blk
