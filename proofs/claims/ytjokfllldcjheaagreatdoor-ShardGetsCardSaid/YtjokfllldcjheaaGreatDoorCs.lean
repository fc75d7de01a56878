/- csr: a graph's rows in memory; rows, walked. -/
import Derived.Test.YtjokfllldcjheaaGreatDoorCp
import Derived.Test.YtjokfllldcjheaaGreatDoorEi
import Derived.Test.YtjokfllldcjheaaGreatDoorRo
import Derived.BigRegion
import Derived.OrdersHeld
import Derived.Deep.RegionHeld3
namespace Go.Proofs.YtjokfllldcjheaaGreatDoor.Cs
open Go.RowKit Go.Proofs.YtjokfllldcjheaaGreatDoor.Ed Go.Proofs.YtjokfllldcjheaaGreatDoor.Ro
set_option linter.unusedVariables false
set_option linter.unusedSimpArgs false

theorem er_form {w : World} {g : Nat} {v : Value} {l : List E2} (h : ER w g v l) : ∃ A c, v = .slice A l.length c ∧ l.length ≤ c ∧ c ≤ 9223372036854775807 := by
  obtain ⟨o, A, c, hv, h1, h2, -⟩ := h
  exact ⟨A, c, hv, h1, h2⟩
/-- where each node's targets begin -/
abbrev begV (bb N : Nat) : Value := .slice (some ⟨bb, 0, none⟩) (N + 1) (N + 1)
def begF (l : List E2) : Nat → Int := fun v => (bel l v : Nat)
/-- while it is counted: how many go from the node ahead -/
def cntF (l : List E2) : Nat → Int := fun v => if v = 0 then 0 else (deg l ((v : Int) - 1) : Nat)
/-- while it is added up: up to node j it is done -/
def addF (l : List E2) (j : Nat) : Nat → Int := fun v => if v ≤ j then begF l v else cntF l v
theorem cntF_nil (n : Nat) : rowF (cntF []) n = List.replicate n 0 := by
  unfold rowF
  apply List.ext_getElem
  · simp
  · intro i h1 h2
    simp [cntF, deg]
theorem cntF_step (l : List E2) (k X : Nat) (n : Nat) (hk : k < l.length) (hX : (l.getD k (0, 0)).1 = (X : Int)) :
    rowF (fun j => if j = X + 1 then cntF (l.take k) (X + 1) + 1 else cntF (l.take k) j) n = rowF (cntF (l.take (k + 1))) n := by
  refine rowF_congr fun v _ => ?_
  by_cases e : v = X + 1
  · subst e
    rw [if_pos rfl]
    unfold cntF
    rw [if_neg (by omega), if_neg (by omega), show ((X + 1 : Nat) : Int) - 1 = (X : Int) by omega, deg_take l _ k hk, if_pos hX]
    omega
  · rw [if_neg e]
    unfold cntF
    by_cases h0 : v = 0
    · rw [if_pos h0, if_pos h0]
    · rw [if_neg h0, if_neg h0, deg_take l _ k hk, if_neg (by omega)]
      rfl
theorem addF_zero (l : List E2) (n : Nat) (h : ∀ e ∈ l, 0 ≤ e.1) : rowF (addF l 0) n = rowF (cntF l) n := by
  refine rowF_congr fun v _ => ?_
  unfold addF
  by_cases h0 : v = 0
  · subst h0
    rw [if_pos (Nat.le_refl _)]
    unfold begF cntF
    rw [if_pos rfl, show ((0 : Nat) : Int) = 0 from rfl, bel_zero l h]
    rfl
  · rw [if_neg (by omega)]
theorem addF_step (l : List E2) (j n : Nat) : rowF (fun v => if v = j + 1 then addF l j (j + 1) + addF l j j else addF l j v) n = rowF (addF l (j + 1)) n := by
  refine rowF_congr fun v _ => ?_
  by_cases e : v = j + 1
  · subst e
    rw [if_pos rfl]
    unfold addF
    rw [if_neg (by omega), if_pos (Nat.le_refl _), if_pos (Nat.le_refl _)]
    unfold cntF begF
    rw [if_neg (by omega), show ((j + 1 : Nat) : Int) - 1 = (j : Int) by omega, show ((j + 1 : Nat) : Int) = (j : Int) + 1 by omega, bel_step]
    omega
  · rw [if_neg e]
    unfold addF
    by_cases h : v ≤ j
    · rw [if_pos h, if_pos (by omega)]
    · rw [if_neg h, if_neg (by omega)]
theorem addF_all (l : List E2) (N : Nat) : rowF (addF l N) (N + 1) = rowF (begF l) (N + 1) := rowF_congr fun v h => by
  unfold addF; rw [if_pos (by omega)]
/-- a graph's rows, at block p -/
structure CS (w : World) (B p bb : Nat) (tv : Value) (N : Nat) (l : List E2) : Prop where
  blk : w.heap[p]? = some (.cells #[begV bb N, tv] 102 (0, 0))
  beg : OJ w B (begV bb N) (rowF (begF l) (N + 1))
  row : OJ w B tv (tos l)
  base : B ≤ p
  up : Up l
  ok : ∀ e ∈ l, okE N e
  few : l.length ≤ 20000
  nodes : N ≤ 4096
theorem CS.lt {w : World} {B p bb : Nat} {tv : Value} {N : Nat} {l : List E2} (h : CS w B p bb tv N l) : p < w.heap.size := (Array.getElem?_eq_some_iff.1 h.blk).1
theorem CS.kept {w w' : World} {B p bb : Nat} {tv : Value} {N : Nat} {l : List E2} (h : CS w B p bb tv N l) {row : Option Nat} (hg : w.grownBy w' row) (hr : ∀ k, row = some k → k < B ∨ w.heap.size ≤ k) : CS w' B p bb tv N l := by
  have hl := h.lt
  have hb := OJ.lt h.beg bb rfl
  have hb2 := OJ.base h.beg bb rfl
  have hB := h.base
  refine ⟨?_, h.beg.kept hg (.inr ?_), ?_, hB, h.up, h.ok, h.few, h.nodes⟩
  · rw [hg.block p hl (fun e => by have := hr p e.symm; omega)]
    exact h.blk
  · intro e
    have := hr bb (e.symm.trans rfl)
    omega
  · cases hv : tv.ownBlock with
    | none => exact h.row.kept hg (.inl hv)
    | some k =>
      have h1 := OJ.lt h.row k hv
      have h2 := OJ.base h.row k hv
      refine h.row.kept hg (.inr fun e => ?_)
      have := hr k (by rw [← e, hv])
      omega
theorem CS.later {w w' : World} {B p bb : Nat} {tv : Value} {N : Nat} {l : List E2} (h : CS w B p bb tv N l) (hb : Below w.heap.size w w') : CS w' B p bb tv N l :=
  h.kept (grown_below hb none) (fun k e => by cases e)
/-- the two cells -/
theorem CS.cells {w : World} {B p bb : Nat} {tv : Value} {N : Nat} {l : List E2} (h : CS w B p bb tv N l) : w.cell? ⟨p, 0, none⟩ = some (begV bb N) ∧ w.cell? ⟨p, 1, none⟩ = some tv :=
  ⟨by rw [cell_of_row w p 0 _ _ _ h.blk]; rfl, by rw [cell_of_row w p 1 _ _ _ h.blk]; rfl⟩
theorem tos_take (l : List E2) (k : Nat) (h : k < l.length) : tos (l.take (k + 1)) = tos (l.take k) ++ [(l.getD k (0, 0)).2] := by
  rw [List.take_add_one, List.getElem?_eq_getElem h]
  have e : l.getD k (0, 0) = l[k] := by simp [List.getD_eq_getElem?_getD, h]
  rw [e]
  simp only [tos, List.map_append, Option.toList_some, List.map_cons, List.map_nil]
end Go.Proofs.YtjokfllldcjheaaGreatDoor.Cs
