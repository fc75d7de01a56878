/- Edges in plain numbers: how they stand, normalised lists, degrees, what may not be; no program in sight. -/
import Derived.WalkKit
namespace Go.Proofs.YtjokfllldcjheaaGreatDoor.Ed
set_option linter.unusedVariables false
set_option linter.unusedSimpArgs false

/-- an edge: from, to -/
abbrev E2 := Int × Int
/-- one stands ahead of the other -/
def Lt (a b : E2) : Prop := a.1 < b.1 ∨ a.1 = b.1 ∧ a.2 < b.2
instance (a b : E2) : Decidable (Lt a b) := inferInstanceAs (Decidable (_ ∨ _))
theorem lt_irrefl (a : E2) : ¬ Lt a a := by unfold Lt; omega
theorem lt_trans {a b c : E2} (h1 : Lt a b) (h2 : Lt b c) : Lt a c := by unfold Lt at *; omega
theorem lt_total {a b : E2} (h1 : ¬ Lt a b) (h2 : a ≠ b) : Lt b a := by
  unfold Lt at *
  have : ¬ (a.1 = b.1 ∧ a.2 = b.2) := fun h => h2 (Prod.ext h.1 h.2)
  omega
theorem lt_asymm {a b : E2} (h : Lt a b) : ¬ Lt b a := by unfold Lt at *; omega
abbrev Up (l : List E2) : Prop := l.Pairwise Lt
/-- an edge laid into its place -/
def insE (i : E2) : List E2 → List E2
  | [] => [i]
  | x :: xs => if Lt i x then i :: x :: xs else if i = x then x :: xs else x :: insE i xs
/-- edges, normalised -/
def nrm : List E2 → List E2
  | [] => []
  | x :: xs => insE x (nrm xs)
theorem mem_insE {i x : E2} : ∀ {l : List E2}, x ∈ insE i l ↔ x = i ∨ x ∈ l
  | [] => by simp [insE]
  | y :: ys => by
    unfold insE
    split
    · simp
    · split
      · rename_i h
        subst h
        simp
      · simp [mem_insE (l := ys)]
        constructor
        · rintro (h | h | h)
          · exact .inr (.inl h)
          · exact .inl h
          · exact .inr (.inr h)
        · rintro (h | h | h)
          · exact .inr (.inl h)
          · exact .inl h
          · exact .inr (.inr h)
theorem up_insE {i : E2} : ∀ {l : List E2}, Up l → Up (insE i l)
  | [], _ => by simp [insE]
  | y :: ys, h => by
    unfold insE
    split
    · rename_i hl
      refine List.pairwise_cons.2 ⟨fun a ha => ?_, h⟩
      rcases List.mem_cons.1 ha with rfl | ha
      · exact hl
      · exact lt_trans hl ((List.pairwise_cons.1 h).1 a ha)
    · split
      · exact h
      · rename_i h1 h2
        refine List.pairwise_cons.2 ⟨fun a ha => ?_, up_insE (List.pairwise_cons.1 h).2⟩
        rcases mem_insE.1 ha with rfl | ha
        · exact lt_total h1 h2
        · exact (List.pairwise_cons.1 h).1 a ha
theorem up_ext : ∀ {a b : List E2}, Up a → Up b → (∀ x, x ∈ a ↔ x ∈ b) → a = b
  | [], [], _, _, _ => rfl
  | [], y :: ys, _, _, h => by have := (h y).2 (by simp); simp at this
  | x :: xs, [], _, _, h => by have := (h x).1 (by simp); simp at this
  | x :: xs, y :: ys, ha, hb, h => by
    obtain ⟨a1, a2⟩ := List.pairwise_cons.1 ha
    obtain ⟨b1, b2⟩ := List.pairwise_cons.1 hb
    have e : x = y := by
      have h1 := (h x).1 (by simp)
      have h2 := (h y).2 (by simp)
      rcases List.mem_cons.1 h1 with h1 | h1
      · exact h1
      · rcases List.mem_cons.1 h2 with h2 | h2
        · exact h2.symm
        · exact absurd (b1 x h1) (lt_asymm (a1 y h2))
    subst e
    rw [up_ext a2 b2 fun z => ?_]
    constructor
    · intro hz
      rcases List.mem_cons.1 ((h z).1 (List.mem_cons_of_mem _ hz)) with rfl | hz2
      · exact absurd (a1 z hz) (lt_irrefl z)
      · exact hz2
    · intro hz
      rcases List.mem_cons.1 ((h z).2 (List.mem_cons_of_mem _ hz)) with rfl | hz2
      · exact absurd (b1 z hz) (lt_irrefl z)
      · exact hz2
theorem mem_nrm {x : E2} : ∀ {l : List E2}, x ∈ nrm l ↔ x ∈ l
  | [] => by simp [nrm]
  | y :: ys => by simp [nrm, mem_insE, mem_nrm (l := ys)]
theorem up_nrm : ∀ l : List E2, Up (nrm l)
  | [] => by simp [nrm]
  | y :: ys => up_insE (up_nrm ys)
/-- whatever stands so and has the same edges is it -/
theorem nrm_eq {l m : List E2} (hu : Up m) (h : ∀ x, x ∈ m ↔ x ∈ l) : m = nrm l := up_ext hu (up_nrm l) fun x => by rw [h, mem_nrm]
theorem nrm_congr {l m : List E2} (h : ∀ x, x ∈ l ↔ x ∈ m) : nrm l = nrm m := up_ext (up_nrm l) (up_nrm m) fun x => by rw [mem_nrm, mem_nrm, h]
theorem nrm_nrm (l : List E2) : nrm (nrm l) = nrm l := nrm_congr fun x => mem_nrm
theorem insE_len (i : E2) : ∀ l : List E2, (insE i l).length ≤ l.length + 1
  | [] => by simp [insE]
  | y :: ys => by
    unfold insE
    split
    · simp
    · split
      · simp
      · have := insE_len i ys; simp; omega
theorem nrm_len : ∀ l : List E2, (nrm l).length ≤ l.length
  | [] => by simp [nrm]
  | y :: ys => by have := insE_len y (nrm ys); have := nrm_len ys; simp only [nrm, List.length_cons]; omega

/-- adjacent repeats struck -/
def ddp : List E2 → List E2
  | [] => []
  | [x] => [x]
  | x :: y :: r => if x = y then ddp (y :: r) else x :: ddp (y :: r)
theorem mem_ddp {z : E2} : ∀ {l : List E2}, z ∈ ddp l ↔ z ∈ l
  | [] => by simp [ddp]
  | [x] => by simp [ddp]
  | x :: y :: r => by
    unfold ddp
    split
    · rename_i h
      subst h
      rw [mem_ddp (l := x :: r)]
      simp
    · rw [List.mem_cons, mem_ddp (l := y :: r), List.mem_cons (l := y :: r)]
theorem ddp_up : ∀ {l : List E2}, l.Pairwise (fun a b => ¬ Lt b a) → Up (ddp l)
  | [], _ => by simp [ddp]
  | [x], _ => by simp [ddp]
  | x :: y :: r, h => by
    obtain ⟨h1, h2⟩ := List.pairwise_cons.1 h
    unfold ddp
    split
    · exact ddp_up h2
    · rename_i hne
      refine List.pairwise_cons.2 ⟨fun a ha => ?_, ddp_up h2⟩
      have ha2 := mem_ddp.1 ha
      have hxy : Lt x y := lt_total (h1 y (by simp)) (fun e => hne e.symm)
      rcases List.mem_cons.1 ha2 with rfl | har
      · exact hxy
      · by_cases e : y = a
        · subst e; exact hxy
        · exact lt_trans hxy (lt_total ((List.pairwise_cons.1 h2).1 a har) (fun h => e h.symm))
theorem ddp_len : ∀ l : List E2, (ddp l).length ≤ l.length
  | [] => by simp [ddp]
  | [x] => by simp [ddp]
  | x :: y :: r => by
    have := ddp_len (y :: r)
    unfold ddp
    split <;> simp only [List.length_cons] at * <;> omega

/-- how many edges go from a node -/
def deg (l : List E2) (v : Int) : Nat := l.countP fun e => decide (e.1 = v)
/-- how many go from nodes ahead of one -/
def bel (l : List E2) (v : Int) : Nat := l.countP fun e => decide (e.1 < v)
theorem deg_take (l : List E2) (v : Int) (k : Nat) (h : k < l.length) : deg (l.take (k + 1)) v = deg (l.take k) v + if (l.getD k (0, 0)).1 = v then 1 else 0 := by
  rw [List.take_add_one, List.getElem?_eq_getElem h]
  have e : l.getD k (0, 0) = l[k] := by simp [List.getD_eq_getElem?_getD, h]
  rw [e]
  simp only [deg, List.countP_append, Option.toList_some, List.countP_singleton, decide_eq_true_eq]
theorem deg_le (l : List E2) (v : Int) : deg l v ≤ l.length := List.countP_le_length
theorem bel_step (l : List E2) (v : Int) : bel l (v + 1) = bel l v + deg l v := by
  induction l with
  | nil => rfl
  | cons x xs ih =>
    simp only [bel, deg, List.countP_cons] at *
    simp only [decide_eq_true_eq]
    by_cases h1 : x.1 < v
    · rw [if_pos (show x.1 < v + 1 by omega), if_pos h1, if_neg (show ¬ x.1 = v by omega)]; omega
    · by_cases h3 : x.1 = v
      · rw [if_pos (show x.1 < v + 1 by omega), if_neg h1, if_pos h3]; omega
      · rw [if_neg (show ¬ x.1 < v + 1 by omega), if_neg h1, if_neg h3]; omega
theorem bel_zero (l : List E2) (h : ∀ e ∈ l, 0 ≤ e.1) : bel l 0 = 0 := by
  rw [bel, List.countP_eq_zero]
  intro e he
  have := h e he
  simp; omega
theorem bel_all (l : List E2) (n : Int) (h : ∀ e ∈ l, e.1 < n) : bel l n = l.length := by
  rw [bel, List.countP_eq_length]
  intro e he
  simpa using h e he
theorem deg_insE (i : E2) (v : Int) : ∀ l : List E2, deg (insE i l) v ≤ deg (i :: l) v
  | [] => by simp [insE]
  | y :: ys => by
    have ih := deg_insE i v ys
    unfold insE
    split
    · exact Nat.le_refl _
    · split
      · simp only [deg, List.countP_cons]; omega
      · simp only [deg, List.countP_cons] at *; omega
theorem deg_nrm (v : Int) : ∀ l : List E2, deg (nrm l) v ≤ deg l v
  | [] => by simp [nrm]
  | y :: ys => by
    have h1 := deg_insE y v (nrm ys)
    have h2 := deg_nrm v ys
    simp only [nrm]
    simp only [deg, List.countP_cons] at *
    omega
theorem deg_zero (l : List E2) (v : Int) : deg l v = 0 ↔ ∀ e ∈ l, e.1 ≠ v := by
  rw [deg, List.countP_eq_zero]
  simp
theorem deg_zero_nrm (l : List E2) (v : Int) : deg (nrm l) v = 0 ↔ deg l v = 0 := by
  rw [deg_zero, deg_zero]
  simp only [mem_nrm]

/-- an edge that may be -/
def okE (n : Int) (e : E2) : Prop := 0 ≤ e.1 ∧ 0 ≤ e.2 ∧ e.1 < n ∧ e.2 < n
instance (n : Int) (e : E2) : Decidable (okE n e) := inferInstanceAs (Decidable (_ ∧ _))
/-- the first edge that may not be, or -2 -/
def badE (n : Int) : List E2 → Int → Int
  | [], _ => -2
  | e :: r, i => if okE n e then badE n r (i + 1) else i
/-- the place of what may not be; -2: all may -/
def wrg (n : Int) (l : List E2) : Int := if n < 0 ∨ n > 4096 then -1 else if l.length > 20000 then 20000 else badE n l 0
theorem badE_ok (n : Int) : ∀ (l : List E2) (i : Int), 0 ≤ i → (badE n l i = -2 ↔ ∀ e ∈ l, okE n e)
  | [], i, _ => by simp [badE]
  | e :: r, i, h => by
    have ih := badE_ok n r (i + 1) (by omega)
    unfold badE
    by_cases hk : okE n e
    · simp [hk, ih]
    · simp [hk]; omega
theorem wrg_ok {n : Int} {l : List E2} : wrg n l = -2 ↔ (0 ≤ n ∧ n ≤ 4096 ∧ l.length ≤ 20000 ∧ ∀ e ∈ l, okE n e) := by
  unfold wrg
  split
  · constructor
    · intro h; omega
    · rintro ⟨h1, h2, _⟩; omega
  · split
    · constructor
      · intro h; omega
      · rintro ⟨_, _, h3, _⟩; omega
    · rw [badE_ok n l 0 (by omega)]
      constructor
      · intro h; exact ⟨by omega, by omega, by omega, h⟩
      · exact fun h => h.2.2.2
theorem badE_drop (n : Int) (l : List E2) (k : Nat) (h : k < l.length) (i : Int) : badE n (l.drop k) i = if okE n (l.getD k (0, 0)) then badE n (l.drop (k + 1)) (i + 1) else i := by
  have e : l.drop k = l.getD k (0, 0) :: l.drop (k + 1) := by
    rw [List.drop_eq_getElem_cons h]
    simp [List.getD_eq_getElem?_getD, h]
  rw [e, badE]
end Go.Proofs.YtjokfllldcjheaaGreatDoor.Ed
