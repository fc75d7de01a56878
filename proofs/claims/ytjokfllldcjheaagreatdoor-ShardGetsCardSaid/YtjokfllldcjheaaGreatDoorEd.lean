/- edges: Degree, Turned, Same; the reference's Same. -/
import Derived.Test.YtjokfllldcjheaaGreatDoorEc
namespace Go.Proofs.YtjokfllldcjheaaGreatDoor.Ed
open Go.RowKit
set_option linter.unusedVariables false
set_option linter.unusedSimpArgs false

/-- edges the other way round -/
def trn (l : List E2) : List E2 := l.map fun e => (e.2, e.1)
theorem trn_take (l : List E2) (k : Nat) (h : k < l.length) : trn (l.take (k + 1)) = trn (l.take k) ++ [((l.getD k (0, 0)).2, (l.getD k (0, 0)).1)] := by
  rw [List.take_add_one, List.getElem?_eq_getElem h]
  have e : l.getD k (0, 0) = l[k] := by simp [List.getD_eq_getElem?_getD, h]
  rw [e]
  simp only [trn, List.map_append, Option.toList_some, List.map_cons, List.map_nil]
theorem ER.litH (w : World) (l : List E2) (cs : Array Value) (hcs : cs = (ecells l).toArray) (n : Nat) (hn : n = l.length) (h : l.length ≤ 9223372036854775807) (H : Nat) (hH : w.heap.size = H) : ER (w.alloc (.cells cs 68)) H (.slice (some ⟨H, 0, none⟩) n n) l := by
  subst hH; exact ER.lit w l cs hcs n hn h
/-- the first k of both are one -/
def samE (a b : List E2) (k : Nat) : Prop := ∀ j, j < k → a.getD j (0, 0) = b.getD j (0, 0)
theorem samE_all {a b : List E2} (hl : a.length = b.length) (h : samE a b a.length) : a = b := by
  apply List.ext_getElem hl
  intro j h1 h2
  have := h j h1
  simpa [List.getD_eq_getElem?_getD, h1, h2] using this
theorem samE_succ {a b : List E2} {k : Nat} (h : samE a b k) (e : a.getD k (0, 0) = b.getD k (0, 0)) : samE a b (k + 1) := fun j hj => by
  by_cases e' : j = k
  · subst e'; exact e
  · exact h j (by omega)
end Go.Proofs.YtjokfllldcjheaaGreatDoor.Ed
