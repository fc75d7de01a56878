/- ask: the search as a list, in plain words. -/
import Derived.Test.YthnpaiobjmneaaaDoorCp
namespace Go.Proofs.YthnpaiobjmneaaaDoor.Ak
open Go.Proofs.YthnpaiobjmneaaaDoor.Ed
set_option linter.unusedVariables false
/-- who was met, how far, through whom -/
abbrev T3 := Int × Int × Int
def nds (L : List T3) : List Int := L.map (·.1)
def mts (L : List T3) : List E2 := L.map fun x => (x.1, x.2.1)
def meet (m : Int) (L : List T3) (v far th : Int) : List T3 := if v ∉ nds L ∧ (L.length : Int) < m then L ++ [(v, far, th)] else L
def meets (m : Int) (L : List T3) (ts : List Int) (far th : Int) : List T3 := ts.foldl (fun L v => meet m L v far th) L
def run (t : Int → List Int) (d m : Int) : Nat → Nat → List T3 → List T3
  | 0, _, L => L
  | f + 1, i, L => match L[i]? with
    | none => L
    | some x => if x.2.1 ≥ d then L else run t d m f (i + 1) (meets m L (t x.1) (x.2.1 + 1) x.1)
def bfs (N : Nat) (t : Int → List Int) (d m from_ : Int) : List T3 := run t d m N 0 [(from_, 0, from_)]

theorem meet_pre (m : Int) (L : List T3) (v far th : Int) : L <+: meet m L v far th := by
  unfold meet; split
  · exact List.prefix_append _ _
  · exact List.prefix_rfl
theorem meets_pre (m : Int) (ts : List Int) (far th : Int) : ∀ L : List T3, L <+: meets m L ts far th := by
  induction ts with
  | nil => intro L; exact List.prefix_rfl
  | cons v ts ih => intro L; exact (meet_pre m L v far th).trans (ih _)
theorem run_pre (t : Int → List Int) (d m : Int) : ∀ f i (L : List T3), L <+: run t d m f i L := by
  intro f
  induction f with
  | zero => intro i L; exact List.prefix_rfl
  | succ f ih =>
    intro i L
    unfold run
    split
    · exact List.prefix_rfl
    · split
      · exact List.prefix_rfl
      · exact (meets_pre m _ _ _ L).trans (ih _ _)
theorem run_depth (t : Int → List Int) {d d' : Int} (m : Int) (h : d ≤ d') : ∀ f i (L : List T3), run t d m f i L <+: run t d' m f i L := by
  intro f
  induction f with
  | zero => intro i L; exact List.prefix_rfl
  | succ f ih =>
    intro i L
    by_cases hx : ∃ x, L[i]? = some x
    · obtain ⟨x, hx⟩ := hx
      by_cases hd : x.2.1 ≥ d
      · rw [show run t d m (f + 1) i L = L by unfold run; simp [hx, hd]]
        exact run_pre t d' m _ _ L
      · have hd' : ¬ x.2.1 ≥ d' := by omega
        rw [show run t d m (f + 1) i L = run t d m f (i + 1) (meets m L (t x.1) (x.2.1 + 1) x.1) by rw [run]; simp [hx, hd]]
        rw [show run t d' m (f + 1) i L = run t d' m f (i + 1) (meets m L (t x.1) (x.2.1 + 1) x.1) by rw [run]; simp [hx, hd']]
        exact ih _ _
    · have hn : L[i]? = none := by
        cases e : L[i]? with
        | none => rfl
        | some x => exact absurd ⟨x, e⟩ hx
      rw [show run t d m (f + 1) i L = L by rw [run]; simp [hn]]
      exact run_pre t d' m _ _ L
theorem meet_full {m : Int} {L : List T3} (h : m ≤ L.length) (v far th : Int) : meet m L v far th = L := by
  unfold meet; rw [if_neg]; omega
theorem meets_full {m : Int} (ts : List Int) (far th : Int) : ∀ {L : List T3}, m ≤ L.length → meets m L ts far th = L := by
  induction ts with
  | nil => intro L h; rfl
  | cons v ts ih => intro L h; show meets m (meet m L v far th) ts far th = L; rw [meet_full h]; exact ih h
theorem run_full (t : Int → List Int) (d m : Int) : ∀ f i {L : List T3}, m ≤ L.length → run t d m f i L = L := by
  intro f
  induction f with
  | zero => intro i L h; rfl
  | succ f ih =>
    intro i L h
    rw [run]
    split
    · rfl
    · split
      · rfl
      · rw [meets_full _ _ _ h]; exact ih _ h
theorem meets_most {m m' : Int} (hm : m ≤ m') (far th : Int) : ∀ (ts : List Int) (L : List T3), meets m L ts far th = meets m' L ts far th ∨ (m ≤ (meets m L ts far th).length ∧ meets m L ts far th <+: meets m' L ts far th) := by
  intro ts
  induction ts with
  | nil => intro L; exact .inl rfl
  | cons v ts ih =>
    intro L
    show meets m (meet m L v far th) ts far th = meets m' (meet m' L v far th) ts far th ∨ (m ≤ (meets m (meet m L v far th) ts far th).length ∧ meets m (meet m L v far th) ts far th <+: meets m' (meet m' L v far th) ts far th)
    by_cases hl : (L.length : Int) < m
    · have e : meet m L v far th = meet m' L v far th := by
        unfold meet
        by_cases hv : v ∉ nds L
        · rw [if_pos ⟨hv, hl⟩, if_pos ⟨hv, by omega⟩]
        · rw [if_neg (fun h => hv h.1), if_neg (fun h => hv h.1)]
      rw [e]
      exact ih _
    · right
      have hl : m ≤ L.length := by omega
      rw [meet_full hl, meets_full _ _ _ hl]
      exact ⟨hl, (meet_pre m' L v far th).trans (meets_pre m' ts far th _)⟩
theorem run_most (t : Int → List Int) (d : Int) {m m' : Int} (hm : m ≤ m') : ∀ f i (L : List T3), run t d m f i L <+: run t d m' f i L := by
  intro f
  induction f with
  | zero => intro i L; exact List.prefix_rfl
  | succ f ih =>
    intro i L
    rw [run, run]
    split
    · exact List.prefix_rfl
    · rename_i x hx
      split
      · exact List.prefix_rfl
      · rcases meets_most hm (x.2.1 + 1) x.1 (t x.1) L with e | ⟨h1, h2⟩
        · rw [e]; exact ih _ _
        · rw [run_full t d m _ _ h1]
          exact h2.trans (run_pre t d m' _ _ _)

/-- how far the j-th is -/
def tf (L : List T3) (j : Nat) : Int := (L.getD j (0, 0, 0)).2.1
theorem tf_app (L : List T3) (x : T3) (j : Nat) : tf (L ++ [x]) j = if j < L.length then tf L j else if j = L.length then x.2.1 else 0 := by
  unfold tf
  simp only [List.getD_eq_getElem?_getD, List.getElem?_append]
  by_cases h : j < L.length
  · simp [h]
  · by_cases e : j = L.length
    · subst e; simp
    · have : j - L.length ≠ 0 := by omega
      cases hj : j - L.length with
      | zero => omega
      | succ k => simp [h, e]
/-- what holds behind each step of a search of nodes below N -/
structure Q (N : Nat) (d m : Int) (i : Nat) (L : List T3) : Prop where
  pos : 0 < L.length
  few : (L.length : Int) ≤ m
  nodup : (nds L).Nodup
  inn : ∀ x ∈ L, (0 ≤ x.1 ∧ x.1 < N) ∧ 0 ≤ x.2.2 ∧ x.2.2 < N
  step : ∀ j, j + 1 < L.length → tf L j ≤ tf L (j + 1) ∧ tf L (j + 1) ≤ tf L j + 1
  cap : ∀ j, j < L.length → 0 ≤ tf L j ∧ tf L j ≤ d ∧ tf L j ≤ j
  top : i < L.length → ∀ j, j < L.length → tf L j ≤ tf L i + 1
theorem Q.mono {N : Nat} {d m : Int} {i : Nat} {L : List T3} (h : Q N d m i L) (a : Nat) : ∀ b, a ≤ b → b < L.length → tf L a ≤ tf L b := by
  intro b
  induction b with
  | zero => intro h1 h2; have : a = 0 := by omega
            subst this; omega
  | succ b ih =>
    intro h1 h2
    by_cases e : a = b + 1
    · subst e; omega
    · have := ih (by omega) (by omega)
      have := (h.step b h2).1
      omega
theorem Q.start {N : Nat} {d m : Int} (from_ : Int) (h0 : 0 ≤ from_ ∧ from_ < N) (hd : 0 ≤ d) (hm : 1 ≤ m) : Q N d m 0 [(from_, 0, from_)] := by
  refine ⟨by simp, by simpa using hm, by simp [nds], by simp [h0], by simp, ?_, ?_⟩
  · intro j hj
    have : j = 0 := by simpa using hj
    subst this; simp [tf, hd]
  · intro _ j hj
    have : j = 0 := by simpa using hj
    subst this; simp [tf]
theorem Q.meet {N : Nat} {d m : Int} {i : Nat} {L : List T3} (h : Q N d m i L) {v th : Int} (hv : 0 ≤ v ∧ v < N) (hth : 0 ≤ th ∧ th < N) (hi : i < L.length) (hd : tf L i < d) :
    Q N d m i (Ak.meet m L v (tf L i + 1) th) ∧ tf (Ak.meet m L v (tf L i + 1) th) i = tf L i := by
  unfold Ak.meet
  split
  · rename_i hc
    have e : tf (L ++ [(v, tf L i + 1, th)]) i = tf L i := by rw [tf_app, if_pos hi]
    refine ⟨⟨by simp, by simp; omega, ?_, ?_, ?_, ?_, ?_⟩, e⟩
    · unfold nds
      rw [List.map_append, List.nodup_append]
      refine ⟨h.nodup, by simp, ?_⟩
      intro a ha b hb
      have : b = v := by simpa using hb
      subst this
      exact fun e => hc.1 (e ▸ ha)
    · intro x hx
      rcases List.mem_append.1 hx with hx | hx
      · exact h.inn x hx
      · have : x = (v, tf L i + 1, th) := by simpa using hx
        subst this
        exact ⟨hv, hth⟩
    · intro j hj
      have hj : j + 1 < L.length + 1 := by simpa using hj
      rw [tf_app, tf_app, if_pos (show j < L.length by omega)]
      by_cases e : j + 1 < L.length
      · rw [if_pos e]; exact h.step j e
      · rw [if_neg e, if_pos (by omega)]
        have h1 := h.top hi j (by omega)
        have h2 := h.mono i j (by omega) (by omega)
        simp only; omega
    · intro j hj
      have hj : j < L.length + 1 := by simpa using hj
      rw [tf_app]
      by_cases e : j < L.length
      · rw [if_pos e]; exact h.cap j e
      · rw [if_neg e, if_pos (by omega)]
        have := h.cap i hi
        simp only; omega
    · intro _ j hj
      have hj : j < L.length + 1 := by simpa using hj
      rw [e, tf_app]
      by_cases e : j < L.length
      · rw [if_pos e]; exact h.top hi j e
      · rw [if_neg e, if_pos (by omega)]; simp only; omega
  · exact ⟨h, rfl⟩
theorem meet_len (m : Int) (L : List T3) (v far th : Int) : L.length ≤ (meet m L v far th).length := (meet_pre m L v far th).length_le
theorem Q.meets {N : Nat} {d m : Int} {i : Nat} {th : Int} (hth : 0 ≤ th ∧ th < N) (f : Int) : ∀ (ts : List Int) {L : List T3}, Q N d m i L → (∀ v ∈ ts, 0 ≤ v ∧ v < N) → i < L.length → tf L i < d → f = tf L i →
    Q N d m i (Ak.meets m L ts (f + 1) th) ∧ tf (Ak.meets m L ts (f + 1) th) i = f := by
  intro ts
  induction ts with
  | nil => intro L h _ _ _ e; exact ⟨h, e.symm⟩
  | cons v ts ih =>
    intro L h hv hi hd e
    subst e
    have h1 := h.meet (hv v (List.mem_cons_self ..)) hth hi hd
    exact ih h1.1 (fun x hx => hv x (List.mem_cons_of_mem _ hx)) (Nat.lt_of_lt_of_le hi (meet_len _ _ _ _ _)) (by rw [h1.2]; exact hd) h1.2.symm
theorem Q.next {N : Nat} {d m : Int} {i : Nat} {L : List T3} (h : Q N d m i L) : Q N d m (i + 1) L :=
  ⟨h.pos, h.few, h.nodup, h.inn, h.step, h.cap, fun hi j hj => by
    have h1 := h.top (by omega) j hj
    have h2 := (h.step i hi).1
    omega⟩
theorem pigeon : ∀ (N : Nat) (l : List Int), l.Nodup → (∀ x ∈ l, 0 ≤ x ∧ x < (N : Int)) → l.length ≤ N := by
  intro N
  induction N with
  | zero =>
    intro l _ h
    cases l with
    | nil => simp
    | cons x l => have := h x (List.mem_cons_self ..); omega
  | succ N ih =>
    intro l hn h
    by_cases hm : (N : Int) ∈ l
    · have h1 := ih (l.erase (N : Int)) (hn.erase _) (fun x hx => by
        have hx := (hn.mem_erase_iff).1 hx
        have := h x hx.2
        have := hx.1
        omega)
      rw [List.length_erase_of_mem hm] at h1
      omega
    · have := ih l hn (fun x hx => by
        have h1 := h x hx
        have : x ≠ (N : Int) := fun e => hm (e ▸ hx)
        omega)
      omega
theorem Q.len {N : Nat} {d m : Int} {i : Nat} {L : List T3} (h : Q N d m i L) : L.length ≤ N := by
  have := pigeon N (nds L) h.nodup (fun x hx => by
    obtain ⟨y, hy, rfl⟩ := List.mem_map.1 hx
    exact (h.inn y hy).1)
  simpa [nds] using this
theorem tf_get {L : List T3} {i : Nat} {x : T3} (h : L[i]? = some x) : tf L i = x.2.1 := by simp [tf, List.getD_eq_getElem?_getD, h]
theorem run_end {t : Int → List Int} {d m : Int} {f i : Nat} {L : List T3} (h : L.length ≤ i) : run t d m f i L = L := by
  cases f with
  | zero => rfl
  | succ f => rw [run]; simp [List.getElem?_eq_none h]
theorem run_far {t : Int → List Int} {d m : Int} {f i : Nat} {L : List T3} (h : tf L i ≥ d) (hi : i < L.length) : run t d m f i L = L := by
  cases f with
  | zero => rfl
  | succ f =>
    rw [run]
    have e : L[i]? = some L[i] := List.getElem?_eq_getElem hi
    rw [tf_get e] at h
    simp [e, h]
theorem run_go {t : Int → List Int} {d m : Int} {f i : Nat} {L : List T3} {x : T3} (e : L[i]? = some x) (h : ¬ x.2.1 ≥ d) : run t d m (f + 1) i L = run t d m f (i + 1) (meets m L (t x.1) (x.2.1 + 1) x.1) := by
  rw [run]; simp [e, h]
theorem Q.run {N : Nat} {t : Int → List Int} {d m : Int} (ht : ∀ v : Int, 0 ≤ v ∧ v < (N : Int) → ∀ x ∈ t v, 0 ≤ x ∧ x < (N : Int)) : ∀ f i {L : List T3}, Q N d m i L → ∃ k, Q N d m k (Ak.run t d m f i L) := by
  intro f
  induction f with
  | zero => intro i L h; exact ⟨i, h⟩
  | succ f ih =>
    intro i L h
    by_cases hi : i < L.length
    · have e : L[i]? = some L[i] := List.getElem?_eq_getElem hi
      by_cases hd : L[i].2.1 ≥ d
      · rw [run_far (by rw [tf_get e]; exact hd) hi]; exact ⟨i, h⟩
      · rw [run_go e hd]
        have hx := (h.inn L[i] (List.getElem_mem hi)).1
        have := h.meets hx L[i].2.1 (t L[i].1) (ht _ hx) hi (by rw [tf_get e]; omega) (tf_get e).symm
        exact ih _ this.1.next
    · rw [run_end (by omega)]; exact ⟨i, h⟩
end Go.Proofs.YthnpaiobjmneaaaDoor.Ak
