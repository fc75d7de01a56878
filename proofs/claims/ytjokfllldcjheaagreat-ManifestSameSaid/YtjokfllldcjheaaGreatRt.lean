/- The reference of layer 5: Targets, Begin, Has. -/
import Derived.Test.YtjokfllldcjheaaGreatCw
namespace Go.Proofs.YtjokfllldcjheaaGreat.Cs
open Go.RowKit Go.Proofs.YtjokfllldcjheaaGreat.Ed Go.Proofs.YtjokfllldcjheaaGreat.Ro
set_option linter.unusedVariables false
set_option linter.unusedSimpArgs false
theorem tgt_take (l : List E2) (v : Int) (k : Nat) (h : k < l.length) : tgt (l.take (k + 1)) v = tgt (l.take k) v ++ if (l.getD k (0, 0)).1 = v then [(l.getD k (0, 0)).2] else [] := by
  have e : l[k]? = some (l.getD k (0, 0)) := by rw [List.getD_eq_getElem?_getD, List.getElem?_eq_getElem h]; rfl
  unfold tgt
  rw [List.take_add_one, e, List.filter_append, List.map_append]
  congr 1
  by_cases hh : (l.getD k (0, 0)).1 = v
  · rw [if_pos hh]; simp only [Option.toList, List.filter_cons, decide_eq_true hh]; rfl
  · rw [if_neg hh]; simp only [Option.toList, List.filter_cons, decide_eq_false hh]; rfl
theorem bel_take (l : List E2) (v : Int) (k : Nat) (h : k < l.length) : bel (l.take (k + 1)) v = bel (l.take k) v + if (l.getD k (0, 0)).1 < v then 1 else 0 := by
  have e : l[k]? = some (l.getD k (0, 0)) := by rw [List.getD_eq_getElem?_getD, List.getElem?_eq_getElem h]; rfl
  unfold bel
  rw [List.take_add_one, e, List.countP_append]
  congr 1
  by_cases hh : (l.getD k (0, 0)).1 < v
  · rw [if_pos hh]; simp only [Option.toList, List.countP_cons, decide_eq_true hh]; rfl
  · rw [if_neg hh]; simp only [Option.toList, List.countP_cons, decide_eq_false hh]; rfl
end Go.Proofs.YtjokfllldcjheaaGreat.Cs
