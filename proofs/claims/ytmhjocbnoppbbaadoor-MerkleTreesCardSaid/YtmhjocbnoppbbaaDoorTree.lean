/- Leaves, nodes, the split: what the package merkle's small functions hand back. -/
import Derived.Test.YtmhjocbnoppbbaaDoorMap
import Derived.Test.YtmhjocbnoppbbaaDoorBits
namespace Go.Proofs.YtmhjocbnoppbbaaDoor.Mk
open Go.RowKit Go.Proofs.YtmhjocbnoppbbaaDoor.Sha
set_option linter.unusedVariables false
set_option linter.unusedSimpArgs false

/-- a leaf's digest, a node's, nothing's -/
def leafD (s : ByteArray) : ByteArray := dig (0 :: s.data.toList)
def nodeD (a b : ByteArray) : ByteArray := dig (1 :: (a.data.toList ++ b.data.toList))
def emptyD : ByteArray := dig [2]
theorem nodeD_size (a b : ByteArray) : (nodeD a b).size = 32 := dig_size _
theorem leafD_size (a : ByteArray) : (leafD a).size = 32 := dig_size _
/-- the greatest power of two below n (n at least 2) -/
def hb (n : Nat) : Nat := 2 ^ Nat.log2 (n - 1)
theorem hb_pos (n : Nat) : 0 < hb n := Nat.pow_pos (by omega)
theorem hb_lt {n : Nat} (h : 2 ≤ n) : hb n < n := by
  have := Nat.log2_self_le (n := n - 1) (by omega)
  unfold hb; omega
theorem hb_le {n : Nat} (h : 2 ≤ n) : n ≤ 2 * hb n := by
  have := Nat.lt_log2_self (n := n - 1)
  unfold hb
  rw [Nat.pow_succ] at this
  omega
theorem bitLen_log (x : Nat) : x ≠ 0 → x < 2 ^ 64 → Lib.bitLen x = Nat.log2 x + 1 := by
  induction x using Nat.strongRecOn with
  | _ x ih =>
    intro h0 h
    rw [Lib.bitLen_half x h0 h]
    by_cases h2 : x / 2 = 0
    · have : x = 1 := by omega
      subst this
      decide
    · rw [ih (x / 2) (by omega) h2 (by omega), Nat.log2_def x, if_pos (by omega)]
      omega

theorem leaf_calls (s : ByteArray) (w : World) (hsz : s.size ≤ 900000) :
    Calls Tryd.prog 47 #[.string s] w fun e w' => e = .returned (.string (leafD s)) ∧ Hid (Below w.heap.size w w') := by
  have hc : cat [⟨#[0]⟩, s] = 0 :: s.data.toList := by simp [cat]
  have hl : (cat [⟨#[0]⟩, s]).length ≤ 1000000 := by rw [hc, List.length_cons, toList_len]; omega
  have HL := Lib.hid hl
  have HC := Lib.hid hc
  clear hc hl
  go_enter Tryd.func47, Tryd.ntmps47
  go_wp2_with ((go_at_call 52; refine (sum_calls w.heap.size _ [⟨#[0]⟩, s] _ (SR.lit w [⟨#[0]⟩, s] _ rfl 2 rfl (by simp)) HL.out).mono ?_; rintro e w1 ⟨rfl, hb1⟩; rw [HC.out]; have HB1 : Hid (Below w.heap.size w w1) := Lib.hid (Below.trans ((Below.refl _ _).alloc (Nat.le_refl _) _) (hb1.mono (by simp))); clear hb1))
  go_ret
  exact ⟨rfl, HB1⟩
theorem node_calls (a b : ByteArray) (w : World) (ha : a.size ≤ 400000) (hb : b.size ≤ 400000) :
    Calls Tryd.prog 50 #[.string a, .string b] w fun e w' => e = .returned (.string (nodeD a b)) ∧ Hid (Below w.heap.size w w') := by
  have hc : cat [⟨#[1]⟩, a, b] = 1 :: (a.data.toList ++ b.data.toList) := by simp [cat]
  have hl : (cat [⟨#[1]⟩, a, b]).length ≤ 1000000 := by rw [hc, List.length_cons, List.length_append, toList_len, toList_len]; omega
  have HL := Lib.hid hl
  have HC := Lib.hid hc
  clear hc hl
  go_enter Tryd.func50, Tryd.ntmps50
  go_wp2_with ((go_at_call 52; refine (sum_calls w.heap.size _ [⟨#[1]⟩, a, b] _ (SR.lit w [⟨#[1]⟩, a, b] _ rfl 3 rfl (by simp)) HL.out).mono ?_; rintro e w1 ⟨rfl, hb1⟩; rw [HC.out]; have HB1 : Hid (Below w.heap.size w w1) := Lib.hid (Below.trans ((Below.refl _ _).alloc (Nat.le_refl _) _) (hb1.mono (by simp))); clear hb1))
  go_ret
  exact ⟨rfl, HB1⟩
theorem split_calls (n : Nat) (w : World) (h2 : 2 ≤ n) (hn : n ≤ 1000000000) :
    Calls Tryd.prog 53 #[.int .i64 (n : Int)] w fun e w' => e = .returned (.int .i64 ((hb n : Nat) : Int)) ∧ w = w' := by
  have h1 : (1 : Int) ≤ (n : Int) := by omega
  have hn2 : (n : Int) ≤ 1000000000 := by omega
  have hbl : Lib.bitLen (n - 1) = Nat.log2 (n - 1) + 1 := bitLen_log (n - 1) (by omega) (by omega)
  obtain ⟨L, hL⟩ : ∃ L, Nat.log2 (n - 1) = L := ⟨_, rfl⟩
  have hh : hb n = 2 ^ L := by unfold hb; rw [hL]
  rw [hL] at hbl
  have hL2 : L ≤ 30 := by
    have h3 : Nat.log2 (n - 1) < 31 := (Nat.log2_lt (by omega)).2 (by omega)
    omega
  have hp : 2 ^ L ≤ 2 ^ 30 := Nat.pow_le_pow_right (by omega) hL2
  have hw : wrap64 (((L + 1 : Nat) : Int) - 1) = (L : Int) := by unfold wrap64; omega
  have hq : wrap64 ((2 : Int) ^ L) = ((2 ^ L : Nat) : Int) := by
    have e2 : ((2 : Int) ^ L) = ((2 ^ L : Nat) : Int) := by simp
    rw [e2]
    generalize 2 ^ L = x at hp
    unfold wrap64; omega
  have HQ := Lib.hid hq
  rw [hh]
  clear hh hL hp hq
  go_enter Tryd.func53, Tryd.ntmps53
  go_wp2_with ((go_at_call 66; refine (Tryd.bits_Len _ _ (by omega) (by omega)).mono ?_; rintro e w1 ⟨rfl, rfl⟩; rw [show ((n : Int) - 1).toNat = n - 1 by omega, hbl]))
  go_ret
  refine ⟨?_, rfl⟩
  show Ending.returned (.int .i64 (wrap64 ((2 : Int) ^ L))) = _
  rw [HQ.out]
end Go.Proofs.YtmhjocbnoppbbaaDoor.Mk
