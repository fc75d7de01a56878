/- csr: List; the example of layer 5. -/
import Derived.Test.YtjokfllldcjheaaGreatDoorCv
namespace Go.Proofs.YtjokfllldcjheaaGreatDoor.Cs
open Go.RowKit Go.Proofs.YtjokfllldcjheaaGreatDoor.Ed Go.Proofs.YtjokfllldcjheaaGreatDoor.Ro
set_option linter.unusedVariables false
set_option linter.unusedSimpArgs false

/-- the edges of the nodes below v, and k of v's -/
def lsts (l : List E2) (v k : Nat) : List E2 := lists l v ++ ((tgt l v).take k).map fun w => ((v : Int), w)
theorem lsts_zero (l : List E2) (v : Nat) : lsts l v 0 = lists l v := by simp [lsts]
theorem lsts_all (l : List E2) (v : Nat) : lsts l v (deg l v) = lists l (v + 1) := by
  unfold lsts
  rw [← tgt_len, List.take_length, lists]
theorem lsts_succ (l : List E2) (v k : Nat) (h : k < deg l v) : lsts l v (k + 1) = lsts l v k ++ [((v : Int), (tgt l v).getD k 0)] := by
  unfold lsts
  have hk : k < (tgt l v).length := by rw [tgt_len]; exact h
  rw [List.take_add_one, List.getElem?_eq_getElem hk, Option.toList_some, List.map_append, ← List.append_assoc, List.getD_eq_getElem?_getD, List.getElem?_eq_getElem hk]
  rfl
theorem lists_len {l : List E2} (h : Up l) (h0 : ∀ e ∈ l, 0 ≤ e.1) (n : Nat) : (lists l n).length ≤ l.length := by
  rw [lists_take h h0, List.length_take]; omega
theorem lsts_len {l : List E2} (h : Up l) (h0 : ∀ e ∈ l, 0 ≤ e.1) (v k : Nat) : (lsts l v k).length ≤ l.length := by
  have h1 := lists_len h h0 (v + 1)
  rw [lists, List.length_append, List.length_map, tgt_len] at h1
  unfold lsts
  rw [List.length_append, List.length_map, List.length_take, tgt_len]
  omega
theorem aw_wrg : wrg ((3 : Nat) : Int) [(2, 0), (0, 1)] = -2 := by decide
theorem aw_nrm : nrm [(2, 0), (0, 1)] = [(0, 1), (2, 0)] := by decide
theorem aw_tgt : tgt [(0, 1), (2, 0)] ((2 : Nat) : Int) = [0] := by decide
theorem aw_bel : bel [(0, 1), (2, 0)] ((3 : Nat) : Int) = 2 := by decide
end Go.Proofs.YtjokfllldcjheaaGreatDoor.Cs
