/- Plain facts of layer 9: a list's root by its two parts; all pairs that a root takes; unlike lists with one root have two unlike texts with one digest among their pairs. -/
import Derived.Test.YtmhjocbnoppbbaaDoorProof
namespace Go.Proofs.YtmhjocbnoppbbaaDoor.Mk
open Go.RowKit Go.Proofs.YtmhjocbnoppbbaaDoor.Sha
set_option linter.unusedVariables false
set_option linter.unusedSimpArgs false

theorem treeR_drop (ls : List ByteArray) (c : Nat) (n : Nat) : ∀ a, treeR ls (c + a) n = treeR (ls.drop c) a n := by
  induction n using Nat.strongRecOn with
  | _ n ih =>
    intro a
    by_cases h : n ≤ 1
    · rw [treeR, dif_pos h, treeR, dif_pos h]
      simp [List.getD_eq_getElem?_getD, List.getElem?_drop]
    · have h1 := hb_lt (n := n) (by omega)
      have h2 := hb_pos n
      rw [treeR_more _ _ _ (by omega), treeR_more _ a _ (by omega), ih (hb n) h1, Nat.add_assoc, ih (n - hb n) (by omega)]
theorem treeR_take (ls : List ByteArray) (k : Nat) (n : Nat) : ∀ a, 1 ≤ n → a + n ≤ k → treeR (ls.take k) a n = treeR ls a n := by
  induction n using Nat.strongRecOn with
  | _ n ih =>
    intro a h0 hk
    by_cases h : n ≤ 1
    · rw [treeR, dif_pos h, treeR, dif_pos h]
      simp [List.getD_eq_getElem?_getD, List.getElem?_take_of_lt (show a < k by omega)]
    · have h1 := hb_lt (n := n) (by omega)
      have h2 := hb_pos n
      rw [treeR_more _ _ _ (by omega), treeR_more ls a _ (by omega), ih (hb n) h1 _ h2 (by omega), ih (n - hb n) (by omega) _ (by omega) (by omega)]
theorem leaves_take' (ss : List ByteArray) (k : Nat) : leaves (ss.take k) = (leaves ss).take k := by simp [leaves]
theorem leaves_drop' (ss : List ByteArray) (k : Nat) : leaves (ss.drop k) = (leaves ss).drop k := by simp [leaves]
theorem rootD_pos {ss : List ByteArray} (h : 1 ≤ ss.length) : rootD ss = treeR (leaves ss) 0 ss.length := by
  unfold rootD
  rw [if_neg (fun e => by rw [e] at h; simp at h)]
theorem rootD_more {ss : List ByteArray} (h : 2 ≤ ss.length) : rootD ss = nodeD (rootD (ss.take (hb ss.length))) (rootD (ss.drop (hb ss.length))) := by
  have h1 := hb_lt h
  have h2 := hb_pos ss.length
  have e1 : (ss.take (hb ss.length)).length = hb ss.length := by rw [List.length_take]; omega
  have e2 : (ss.drop (hb ss.length)).length = ss.length - hb ss.length := List.length_drop
  rw [rootD_pos (by omega), rootD_pos (ss := ss.take _) (by omega), rootD_pos (ss := ss.drop _) (by omega), e1, e2, treeR_more _ _ _ h, leaves_take', leaves_drop', treeR_take _ _ _ _ h2 (by omega), ← treeR_drop]
  simp
theorem rootD_single (s : ByteArray) : rootD [s] = leafD s := by
  rw [rootD_pos (by simp)]
  show treeR (leaves [s]) 0 1 = _
  rw [treeR_one]
  rfl
theorem rootD_size (ss : List ByteArray) : (rootD ss).size = 32 := by
  by_cases h : 1 ≤ ss.length
  · rw [rootD_pos h]
    exact treeR_size (leaves_size ss) _ _ h (by rw [leaves_length]; omega)
  · unfold rootD
    rw [if_pos (List.eq_nil_of_length_eq_zero (by omega))]
    exact dig_size _

/-- what was hashed, and its digest -/
abbrev Pr := ByteArray × ByteArray
def leafIn (s : ByteArray) : ByteArray := ⟨#[0]⟩ ++ s
def nodeIn (a b : ByteArray) : ByteArray := ⟨#[1]⟩ ++ a ++ b
/-- all pairs that a list's root takes -/
def pairsT (ss : List ByteArray) : List Pr :=
  if h0 : ss.length = 0 then [(⟨#[2]⟩, emptyD)]
  else if h1 : ss.length = 1 then [(leafIn (ss.getD 0 ByteArray.empty), leafD (ss.getD 0 ByteArray.empty))]
  else pairsT (ss.take (hb ss.length)) ++ pairsT (ss.drop (hb ss.length)) ++ [(nodeIn (rootD (ss.take (hb ss.length))) (rootD (ss.drop (hb ss.length))), rootD ss)]
termination_by ss.length
decreasing_by
  · have := hb_lt (n := ss.length) (by omega); rw [List.length_take]; omega
  · have := hb_pos ss.length; rw [List.length_drop]; omega
theorem pairsT_nil : pairsT [] = [(⟨#[2]⟩, emptyD)] := by rw [pairsT]; simp
theorem pairsT_one (s : ByteArray) : pairsT [s] = [(leafIn s, leafD s)] := by rw [pairsT]; simp
theorem pairsT_more {ss : List ByteArray} (h : 2 ≤ ss.length) : pairsT ss = pairsT (ss.take (hb ss.length)) ++ pairsT (ss.drop (hb ss.length)) ++ [(nodeIn (rootD (ss.take (hb ss.length))) (rootD (ss.drop (hb ss.length))), rootD ss)] := by
  rw [pairsT, dif_neg (by omega), dif_neg (by omega)]
theorem pairsT_length (ss : List ByteArray) : (pairsT ss).length ≤ 2 * ss.length + 1 := by
  suffices ∀ n (ss : List ByteArray), ss.length = n → (pairsT ss).length ≤ 2 * n + 1 ∧ (1 ≤ n → (pairsT ss).length + 1 ≤ 2 * n) from (this _ ss rfl).1
  intro n
  induction n using Nat.strongRecOn with
  | _ n ih =>
    intro ss hn
    by_cases h0 : n = 0
    · have : ss = [] := List.eq_nil_of_length_eq_zero (by omega)
      subst this
      rw [pairsT_nil]
      simp; omega
    · by_cases h1 : n = 1
      · match ss, hn with
        | [s], _ => rw [pairsT_one]; simp; omega
        | [], hn => simp at hn; omega
        | _ :: _ :: _, hn => simp at hn; omega
      · have hl := hb_lt (n := ss.length) (by omega)
        have hp := hb_pos ss.length
        have i1 := ih (hb ss.length) (by omega) (ss.take (hb ss.length)) (by rw [List.length_take]; omega)
        have i2 := ih (ss.length - hb ss.length) (by omega) (ss.drop (hb ss.length)) List.length_drop
        rw [pairsT_more (by omega), List.length_append, List.length_append, List.length_singleton]
        omega
theorem nodeIn_inj {a b c d : ByteArray} (ha : a.size = 32) (hc : c.size = 32) (h : nodeIn a b = nodeIn c d) : a = c ∧ b = d := by
  have h1 := congrArg (fun x : ByteArray => x.data.toList) h
  simp only [nodeIn, append_bytes] at h1
  have h2 : a.data.toList ++ b.data.toList = c.data.toList ++ d.data.toList := by simpa using h1
  have h3 := List.append_inj h2 (by rw [toList_len, toList_len, ha, hc])
  exact ⟨ByteArray.ext (Array.toList_inj.1 h3.1), ByteArray.ext (Array.toList_inj.1 h3.2)⟩
theorem leafIn_inj {a b : ByteArray} (h : leafIn a = leafIn b) : a = b := by
  have h1 := congrArg (fun x : ByteArray => x.data.toList) h
  simp only [leafIn, append_bytes] at h1
  exact ByteArray.ext (Array.toList_inj.1 (by simpa using h1))
/-- unlike lists of as many texts with one root: two unlike texts with one digest are among their pairs -/
theorem unlike (n : Nat) : ∀ ss tt : List ByteArray, ss.length = n → tt.length = n → rootD ss = rootD tt → ss ≠ tt → ∃ p ∈ pairsT ss, ∃ q ∈ pairsT tt, p.2 = q.2 ∧ p.1 ≠ q.1 := by
  induction n using Nat.strongRecOn with
  | _ n ih =>
    intro ss tt hs ht hr hne
    by_cases h0 : n = 0
    · exact absurd ((List.eq_nil_of_length_eq_zero (by omega)).trans (List.eq_nil_of_length_eq_zero (l := tt) (by omega)).symm) hne
    · by_cases h1 : n = 1
      · match ss, tt, hs, ht with
        | [s], [t], _, _ =>
          rw [rootD_single, rootD_single] at hr
          refine ⟨(leafIn s, leafD s), by rw [pairsT_one]; simp, (leafIn t, leafD t), by rw [pairsT_one]; simp, hr, fun e => hne (by rw [leafIn_inj e])⟩
        | [], _, hs, _ => simp at hs; omega
        | _ :: _ :: _, _, hs, _ => simp at hs; omega
        | _, [], _, ht => simp at ht; omega
        | _, _ :: _ :: _, _, ht => simp at ht; omega
      · have hl := hb_lt (n := n) (by omega)
        have hp := hb_pos n
        have ps := pairsT_more (ss := ss) (by omega)
        have pt := pairsT_more (ss := tt) (by omega)
        rw [hs] at ps
        rw [ht] at pt
        by_cases he : nodeIn (rootD (ss.take (hb n))) (rootD (ss.drop (hb n))) = nodeIn (rootD (tt.take (hb n))) (rootD (tt.drop (hb n)))
        · obtain ⟨e1, e2⟩ := nodeIn_inj (rootD_size _) (rootD_size _) he
          by_cases hl1 : ss.take (hb n) = tt.take (hb n)
          · have hd : ss.drop (hb n) ≠ tt.drop (hb n) := fun e => hne (by rw [← List.take_append_drop (hb n) ss, ← List.take_append_drop (hb n) tt, hl1, e])
            obtain ⟨p, h1, q, h2, h3⟩ := ih (n - hb n) (by omega) _ _ (by rw [List.length_drop, hs]) (by rw [List.length_drop, ht]) e2 hd
            exact ⟨p, by rw [ps]; simp [h1], q, by rw [pt]; simp [h2], h3⟩
          · obtain ⟨p, h1, q, h2, h3⟩ := ih (hb n) hl _ _ (by rw [List.length_take]; omega) (by rw [List.length_take]; omega) e1 hl1
            exact ⟨p, by rw [ps]; simp [h1], q, by rw [pt]; simp [h2], h3⟩
        · exact ⟨_, by rw [ps]; exact List.mem_append_right _ (List.mem_singleton.2 rfl), _, by rw [pt]; exact List.mem_append_right _ (List.mem_singleton.2 rfl), hr, he⟩
/-- have two unlike texts one digest? -/
def Clash (l : List Pr) : Prop := ∃ i k, k < i ∧ i < l.length ∧ (l.getD i (ByteArray.empty, ByteArray.empty)).2 = (l.getD k (ByteArray.empty, ByteArray.empty)).2 ∧ (l.getD i (ByteArray.empty, ByteArray.empty)).1 ≠ (l.getD k (ByteArray.empty, ByteArray.empty)).1
theorem clash_of {xs ys : List Pr} (h : ∃ p ∈ xs, ∃ q ∈ ys, p.2 = q.2 ∧ p.1 ≠ q.1) : Clash (xs ++ ys) := by
  obtain ⟨p, hp, q, hq, h1, h2⟩ := h
  obtain ⟨k, hk, rfl⟩ := List.mem_iff_getElem.1 hp
  obtain ⟨i, hi, rfl⟩ := List.mem_iff_getElem.1 hq
  refine ⟨xs.length + i, k, by omega, by rw [List.length_append]; omega, ?_⟩
  have e1 : (xs ++ ys).getD (xs.length + i) (ByteArray.empty, ByteArray.empty) = ys[i] := by simp [List.getD_eq_getElem?_getD, hi]
  have e2 : (xs ++ ys).getD k (ByteArray.empty, ByteArray.empty) = xs[k] := by simp [List.getD_eq_getElem?_getD, List.getElem?_append_left hk, hk]
  rw [e1, e2]
  exact ⟨h1.symm, fun e => h2 e.symm⟩
end Go.Proofs.YtmhjocbnoppbbaaDoor.Mk
