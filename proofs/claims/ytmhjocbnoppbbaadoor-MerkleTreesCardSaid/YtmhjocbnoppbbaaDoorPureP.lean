/- Plain facts on proofs of layer 9: of a list's parts; a right proof leads to the root; what leads to the root is right, or two unlike texts with one digest are among the pairs. -/
import Derived.Test.YtmhjocbnoppbbaaDoorPure9
import Derived.Test.YtmhjocbnoppbbaaDoorUps
namespace Go.Proofs.YtmhjocbnoppbbaaDoor.Mk
open Go.RowKit Go.Proofs.YtmhjocbnoppbbaaDoor.Sha
set_option linter.unusedVariables false
set_option linter.unusedSimpArgs false

theorem proofT_drop (ls : List ByteArray) (c : Nat) (n : Nat) : ∀ i a, proofT ls (c + i) (c + a) n = proofT (ls.drop c) i a n := by
  induction n using Nat.strongRecOn with
  | _ n ih =>
    intro i a
    by_cases h : n ≤ 1
    · rw [proofT_one _ _ _ _ h, proofT_one _ _ _ _ h]
    · have h1 := hb_lt (n := n) (by omega)
      have h2 := hb_pos n
      by_cases hi : i < a + hb n
      · rw [proofT_left _ _ _ _ (by omega) (by omega), proofT_left _ i a n (by omega) hi, ih _ h1, Nat.add_assoc, treeR_drop]
      · rw [proofT_right _ _ _ _ (by omega) (by omega), proofT_right _ i a n (by omega) hi, Nat.add_assoc, ih _ (by omega), treeR_drop]
theorem proofT_take (ls : List ByteArray) (k : Nat) (n : Nat) : ∀ i a, 1 ≤ n → a + n ≤ k → proofT (ls.take k) i a n = proofT ls i a n := by
  induction n using Nat.strongRecOn with
  | _ n ih =>
    intro i a h0 hk
    by_cases h : n ≤ 1
    · rw [proofT_one _ _ _ _ h, proofT_one _ _ _ _ h]
    · have h1 := hb_lt (n := n) (by omega)
      have h2 := hb_pos n
      by_cases hi : i < a + hb n
      · rw [proofT_left _ _ _ _ (by omega) hi, proofT_left _ i a n (by omega) hi, ih _ h1 _ _ h2 (by omega), treeR_take _ _ _ _ (by omega) (by omega)]
      · rw [proofT_right _ _ _ _ (by omega) hi, proofT_right _ i a n (by omega) hi, ih _ (by omega) _ _ (by omega) (by omega), treeR_take _ _ _ _ h2 (by omega)]
/-- the proof of the i-th of a list of texts -/
def prf (ss : List ByteArray) (i : Nat) : List ByteArray := proofT (leaves ss) i 0 ss.length
theorem prf_one {ss : List ByteArray} {i : Nat} (h : ss.length ≤ 1) : prf ss i = [] := proofT_one _ _ _ _ h
theorem prf_left {ss : List ByteArray} {i : Nat} (h : 2 ≤ ss.length) (hi : i < hb ss.length) : prf ss i = prf (ss.take (hb ss.length)) i ++ [rootD (ss.drop (hb ss.length))] := by
  have h1 := hb_lt h
  have h2 := hb_pos ss.length
  have e1 : (ss.take (hb ss.length)).length = hb ss.length := by rw [List.length_take]; omega
  have e2 : (ss.drop (hb ss.length)).length = ss.length - hb ss.length := List.length_drop
  unfold prf
  rw [proofT_left _ _ _ _ h (by omega), e1, leaves_take', proofT_take _ _ _ _ _ h2 (by omega), rootD_pos (ss := ss.drop _) (by omega), e2, leaves_drop', ← treeR_drop]
  simp
theorem prf_right {ss : List ByteArray} {i : Nat} (h : 2 ≤ ss.length) (hi : ¬ i < hb ss.length) : prf ss i = prf (ss.drop (hb ss.length)) (i - hb ss.length) ++ [rootD (ss.take (hb ss.length))] := by
  have h1 := hb_lt h
  have h2 := hb_pos ss.length
  have e1 : (ss.take (hb ss.length)).length = hb ss.length := by rw [List.length_take]; omega
  have e2 : (ss.drop (hb ss.length)).length = ss.length - hb ss.length := List.length_drop
  unfold prf
  rw [proofT_right _ _ _ _ h (by omega), e2, leaves_drop', ← proofT_drop, rootD_pos (ss := ss.take _) (by omega), e1, leaves_take', treeR_take _ _ _ _ h2 (by omega), show hb ss.length + (i - hb ss.length) = i by omega]
  simp
/-- a list's proof is as long as its sides, and of digests -/
theorem prf_fits (n : Nat) : ∀ (ss : List ByteArray) (i : Nat), ss.length = n → (prf ss i).length = (sidesB i n).length ∧ ∀ p ∈ prf ss i, p.size = 32 := by
  induction n using Nat.strongRecOn with
  | _ n ih =>
    intro ss i hn
    by_cases h : n ≤ 1
    · rw [prf_one (by omega), sidesB_one _ _ h]; simp
    · have h1 := hb_lt (n := n) (by omega)
      have h2 := hb_pos n
      by_cases hi : i < hb n
      · rw [prf_left (by omega) (by rw [hn]; exact hi), sidesB_left _ _ (by omega) hi, hn]
        obtain ⟨e1, e2⟩ := ih (hb n) h1 (ss.take (hb n)) i (by rw [List.length_take]; omega)
        refine ⟨by rw [List.length_append, e1]; simp, fun p hp => ?_⟩
        rcases List.mem_append.1 hp with hp | hp
        · exact e2 p hp
        · rw [List.mem_singleton.1 hp]; exact rootD_size _
      · rw [prf_right (by omega) (by rw [hn]; exact hi), sidesB_right _ _ (by omega) hi, hn]
        obtain ⟨e1, e2⟩ := ih (n - hb n) (by omega) (ss.drop (hb n)) (i - hb n) (by rw [List.length_drop, hn])
        refine ⟨by rw [List.length_append, e1]; simp, fun p hp => ?_⟩
        rcases List.mem_append.1 hp with hp | hp
        · exact e2 p hp
        · rw [List.mem_singleton.1 hp]; exact rootD_size _
theorem upN_append (bs : List Bool) (leaf : ByteArray) (ps qs : List ByteArray) : ∀ k, k ≤ ps.length → upN bs leaf (ps ++ qs) k = upN bs leaf ps k := by
  intro k hk
  have h := upN_take bs leaf (ps ++ qs) ps.length k hk
  rw [List.take_left'  rfl] at h
  exact h.symm
theorem getD_mid (ps : List ByteArray) (x : ByteArray) (n : Nat) (h : ps.length = n) : (ps ++ [x]).getD n ByteArray.empty = x := by
  subst h; simp [List.getD_eq_getElem?_getD]
/-- a right proof leads to the root -/
theorem prf_leads (n : Nat) : ∀ (ss : List ByteArray) (i : Nat), ss.length = n → i < n → upN (sidesB i n) (leafD (ss.getD i ByteArray.empty)) (prf ss i) (sidesB i n).length = rootD ss := by
  induction n using Nat.strongRecOn with
  | _ n ih =>
    intro ss i hn hin
    by_cases h : n ≤ 1
    · match ss, hn with
      | [s], hn1 =>
        obtain rfl : n = 1 := by simpa using hn1.symm
        obtain rfl : i = 0 := by omega
        rw [sidesB_one _ _ h, rootD_single]
        rfl
      | [], hn => simp at hn; omega
      | _ :: _ :: _, hn => simp at hn; omega
    · have h1 := hb_lt (n := n) (by omega)
      have h2 := hb_pos n
      by_cases hi : i < hb n
      · have hl := (prf_fits (hb n) (ss.take (hb n)) i (by rw [List.length_take]; omega)).1
        rw [prf_left (by omega) (by rw [hn]; exact hi), sidesB_left _ _ (by omega) hi, hn, List.length_cons, upN_top, if_pos rfl, upN_append _ _ _ _ _ (by omega), getD_mid _ _ _ hl]
        have := ih (hb n) h1 (ss.take (hb n)) i (by rw [List.length_take]; omega) hi
        rw [show (ss.take (hb n)).getD i ByteArray.empty = ss.getD i ByteArray.empty by simp [List.getD_eq_getElem?_getD, List.getElem?_take_of_lt hi]] at this
        rw [this, rootD_more (ss := ss) (by omega), hn]
      · have hl := (prf_fits (n - hb n) (ss.drop (hb n)) (i - hb n) (by rw [List.length_drop, hn])).1
        rw [prf_right (by omega) (by rw [hn]; exact hi), sidesB_right _ _ (by omega) hi, hn, List.length_cons, upN_top, if_neg (by simp), upN_append _ _ _ _ _ (by omega), getD_mid _ _ _ hl]
        have := ih (n - hb n) (by omega) (ss.drop (hb n)) (i - hb n) (by rw [List.length_drop, hn]) (by omega)
        rw [show (ss.drop (hb n)).getD (i - hb n) ByteArray.empty = ss.getD i ByteArray.empty by simp [List.getD_eq_getElem?_getD, List.getElem?_drop, show hb n + (i - hb n) = i by omega]] at this
        rw [this, rootD_more (ss := ss) (by omega), hn]

/-- all pairs that a proof's way up takes; bs: the sides from the root downwards -/
def upPairs : List Bool → ByteArray → List ByteArray → List Pr
  | [], inp, _ => [(inp, dig inp.data.toList)]
  | b :: bs, inp, ps => upPairs bs inp ps ++ [((if b = true then nodeIn (upN bs (dig inp.data.toList) ps bs.length) (ps.getD bs.length ByteArray.empty) else nodeIn (ps.getD bs.length ByteArray.empty) (upN bs (dig inp.data.toList) ps bs.length)), upN (b :: bs) (dig inp.data.toList) ps (bs.length + 1))]
theorem upPairs_take (bs : List Bool) (inp : ByteArray) (ps : List ByteArray) (m : Nat) (h : bs.length ≤ m) : upPairs bs inp (ps.take m) = upPairs bs inp ps := by
  induction bs with
  | nil => rfl
  | cons b bs ih =>
    rw [List.length_cons] at h
    have e : (ps.take m).getD bs.length ByteArray.empty = ps.getD bs.length ByteArray.empty := by simp [List.getD_eq_getElem?_getD, List.getElem?_take_of_lt (show bs.length < m by omega)]
    rw [upPairs, upPairs, ih (by omega), upN_take _ _ _ _ _ (by omega), upN_take _ _ _ _ _ (by omega), e]
theorem split_last (ps : List ByteArray) (L : Nat) (h : ps.length = L + 1) : ps = ps.take L ++ [ps.getD L ByteArray.empty] := by
  conv => lhs; rw [← List.take_append_drop L ps]
  congr 1
  have hd : (ps.drop L).length = 1 := by rw [List.length_drop]; omega
  match hx : ps.drop L, hd with
  | [x], _ =>
    have h2 : ps[L]? = some x := by
      have := congrArg (·[0]?) hx
      simpa [List.getElem?_drop] using this
    rw [List.getD_eq_getElem?_getD, h2]; rfl
/-- what leads to a list's root is right; or two unlike texts with one digest are among the pairs -/
theorem leads_right (n : Nat) : ∀ (ss ps : List ByteArray) (i : Nat) (S : ByteArray), ss.length = n → i < n → ps.length = (sidesB i n).length → (∀ p ∈ ps, p.size = 32) → upN (sidesB i n) (dig (leafIn S).data.toList) ps (sidesB i n).length = rootD ss →
    (S = ss.getD i ByteArray.empty ∧ ps = prf ss i) ∨ ∃ p ∈ pairsT ss, ∃ q ∈ upPairs (sidesB i n) (leafIn S) ps, p.2 = q.2 ∧ p.1 ≠ q.1 := by
  induction n using Nat.strongRecOn with
  | _ n ih =>
    intro ss ps i S hn hin hps h32 hup
    by_cases h : n ≤ 1
    · match ss, hn with
      | [s], hn1 =>
        obtain rfl : n = 1 := by simpa using hn1.symm
        obtain rfl : i = 0 := by omega
        rw [sidesB_one _ _ h] at hps hup ⊢
        rw [rootD_single] at hup
        by_cases he : leafIn S = leafIn s
        · left
          exact ⟨leafIn_inj he, by rw [prf_one (by simp)]; exact List.eq_nil_of_length_eq_zero hps⟩
        · right
          exact ⟨(leafIn s, leafD s), by rw [pairsT_one]; simp, (leafIn S, dig (leafIn S).data.toList), by simp [upPairs], hup.symm, fun e => he e.symm⟩
      | [], hn => simp at hn; omega
      | _ :: _ :: _, hn => simp at hn; omega
    · have h1 := hb_lt (n := n) (by omega)
      have h2 := hb_pos n
      have pt := pairsT_more (ss := ss) (by omega)
      have rm := rootD_more (ss := ss) (by omega)
      rw [hn] at pt rm
      by_cases hi : i < hb n
      · rw [sidesB_left _ _ (by omega) hi] at hps hup ⊢
        rw [List.length_cons] at hps hup
        have hd := upN_size (sidesB i (hb n)) (dig (leafIn S).data.toList) ps (dig_size _) (sidesB i (hb n)).length
        by_cases he : nodeIn (upN (sidesB i (hb n)) (dig (leafIn S).data.toList) ps (sidesB i (hb n)).length) (ps.getD (sidesB i (hb n)).length ByteArray.empty) = nodeIn (rootD (ss.take (hb n))) (rootD (ss.drop (hb n)))
        · obtain ⟨e1, e2⟩ := nodeIn_inj hd (rootD_size _) he
          rcases ih (hb n) h1 (ss.take (hb n)) (ps.take (sidesB i (hb n)).length) i S (by rw [List.length_take]; omega) hi (by rw [List.length_take]; omega) (fun p hp => h32 p (List.mem_of_mem_take hp)) (by rw [upN_take _ _ _ _ _ (Nat.le_refl _)]; exact e1) with ⟨q1, q2⟩ | ⟨p, q1, q, q2, q3⟩
          · left
            refine ⟨by rw [q1]; simp [List.getD_eq_getElem?_getD, List.getElem?_take_of_lt hi], ?_⟩
            rw [split_last ps _ hps, prf_left (by omega) (by rw [hn]; exact hi), hn, ← q2, ← e2]
          · right
            rw [upPairs_take _ _ _ _ (Nat.le_refl _)] at q2
            exact ⟨p, by rw [pt]; simp [q1], q, by rw [upPairs]; exact List.mem_append_left _ q2, q3⟩
        · right
          refine ⟨_, by rw [pt]; exact List.mem_append_right _ (List.mem_singleton.2 rfl), _, by rw [upPairs]; exact List.mem_append_right _ (List.mem_singleton.2 rfl), hup.symm, ?_⟩
          rw [if_pos rfl]
          exact fun e => he e.symm
      · rw [sidesB_right _ _ (by omega) hi] at hps hup ⊢
        rw [List.length_cons] at hps hup
        have hd := upN_size (sidesB (i - hb n) (n - hb n)) (dig (leafIn S).data.toList) ps (dig_size _) (sidesB (i - hb n) (n - hb n)).length
        have hl32 : (ps.getD (sidesB (i - hb n) (n - hb n)).length ByteArray.empty).size = 32 := h32 _ (by rw [List.getD_eq_getElem?_getD, List.getElem?_eq_getElem (by omega)]; exact List.getElem_mem _)
        by_cases he : nodeIn (ps.getD (sidesB (i - hb n) (n - hb n)).length ByteArray.empty) (upN (sidesB (i - hb n) (n - hb n)) (dig (leafIn S).data.toList) ps (sidesB (i - hb n) (n - hb n)).length) = nodeIn (rootD (ss.take (hb n))) (rootD (ss.drop (hb n)))
        · obtain ⟨e2, e1⟩ := nodeIn_inj hl32 (rootD_size _) he
          rcases ih (n - hb n) (by omega) (ss.drop (hb n)) (ps.take (sidesB (i - hb n) (n - hb n)).length) (i - hb n) S (by rw [List.length_drop, hn]) (by omega) (by rw [List.length_take]; omega) (fun p hp => h32 p (List.mem_of_mem_take hp)) (by rw [upN_take _ _ _ _ _ (Nat.le_refl _)]; exact e1) with ⟨q1, q2⟩ | ⟨p, q1, q, q2, q3⟩
          · left
            refine ⟨by rw [q1]; simp [List.getD_eq_getElem?_getD, List.getElem?_drop, show hb n + (i - hb n) = i by omega], ?_⟩
            rw [split_last ps _ hps, prf_right (by omega) (by rw [hn]; exact hi), hn, ← q2, ← e2]
          · right
            rw [upPairs_take _ _ _ _ (Nat.le_refl _)] at q2
            exact ⟨p, by rw [pt]; simp [q1], q, by rw [upPairs]; exact List.mem_append_left _ q2, q3⟩
        · right
          refine ⟨_, by rw [pt]; exact List.mem_append_right _ (List.mem_singleton.2 rfl), _, by rw [upPairs]; exact List.mem_append_right _ (List.mem_singleton.2 rfl), hup.symm, ?_⟩
          rw [if_neg (by simp)]
          exact fun e => he e.symm
end Go.Proofs.YtmhjocbnoppbbaaDoor.Mk
