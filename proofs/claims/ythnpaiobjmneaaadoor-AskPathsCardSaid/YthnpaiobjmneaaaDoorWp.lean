/- What is wanted, in plain numbers: ascending lists; what is asked for next, what came, what is over; no program in sight. -/
import Derived.WalkKit
namespace Go.Proofs.YthnpaiobjmneaaaDoor.Wa
set_option linter.unusedVariables false
set_option linter.unusedSimpArgs false

/-- a number laid into an ascending list -/
def ins (i : Int) : List Int → List Int
  | [] => [i]
  | x :: xs => if i < x then i :: x :: xs else if i = x then x :: xs else x :: ins i xs
/-- a number struck from a list -/
def del (i : Int) (l : List Int) : List Int := l.filter fun x => decide (x ≠ i)
abbrev Asc (l : List Int) : Prop := l.Pairwise (· < ·)

theorem mem_ins {i x : Int} : ∀ {l : List Int}, x ∈ ins i l ↔ x = i ∨ x ∈ l
  | [] => by simp [ins]
  | y :: ys => by
    unfold ins
    split
    · simp
    · split
      · rename_i h
        subst h
        simp
      · simp [mem_ins (l := ys)]
        constructor
        · rintro (h | h | h)
          · exact .inr (.inl h)
          · exact .inl h
          · exact .inr (.inr h)
        · rintro (h | h | h)
          · exact .inr (.inl h)
          · exact .inl h
          · exact .inr (.inr h)
theorem asc_ins {i : Int} : ∀ {l : List Int}, Asc l → Asc (ins i l)
  | [], _ => by simp [ins]
  | y :: ys, h => by
    unfold ins
    split
    · rename_i hl
      refine List.pairwise_cons.2 ⟨fun a ha => ?_, h⟩
      rcases List.mem_cons.1 ha with rfl | ha
      · exact hl
      · have := (List.pairwise_cons.1 h).1 a ha
        omega
    · split
      · exact h
      · refine List.pairwise_cons.2 ⟨fun a ha => ?_, asc_ins (List.pairwise_cons.1 h).2⟩
        rcases mem_ins.1 ha with rfl | ha
        · omega
        · exact (List.pairwise_cons.1 h).1 a ha
theorem len_ins {i : Int} : ∀ {l : List Int}, i ∉ l → (ins i l).length = l.length + 1
  | [], _ => rfl
  | y :: ys, h => by
    unfold ins
    split
    · rfl
    · split
      · rename_i h1
        exact absurd (by simp [h1]) h
      · have h2 : i ∉ ys := fun hm => h (List.mem_cons_of_mem _ hm)
        simp [len_ins h2]
theorem asc_ext : ∀ {a b : List Int}, Asc a → Asc b → (∀ x, x ∈ a ↔ x ∈ b) → a = b
  | [], [], _, _, _ => rfl
  | [], y :: ys, _, _, h => by have := (h y).2 (by simp); simp at this
  | x :: xs, [], _, _, h => by have := (h x).1 (by simp); simp at this
  | x :: xs, y :: ys, ha, hb, h => by
    obtain ⟨a1, a2⟩ := List.pairwise_cons.1 ha
    obtain ⟨b1, b2⟩ := List.pairwise_cons.1 hb
    have e : x = y := by
      have h1 := (h x).1 (by simp)
      have h2 := (h y).2 (by simp)
      rcases List.mem_cons.1 h1 with h1 | h1
      · exact h1
      · rcases List.mem_cons.1 h2 with h2 | h2
        · exact h2.symm
        · have := b1 x h1
          have := a1 y h2
          omega
    subst e
    rw [asc_ext a2 b2 fun z => ?_]
    constructor
    · intro hz
      rcases List.mem_cons.1 ((h z).1 (List.mem_cons_of_mem _ hz)) with rfl | hz2
      · exact absurd (a1 z hz) (by omega)
      · exact hz2
    · intro hz
      rcases List.mem_cons.1 ((h z).2 (List.mem_cons_of_mem _ hz)) with rfl | hz2
      · exact absurd (b1 z hz) (by omega)
      · exact hz2
theorem ins_mem {i : Int} {l : List Int} (h : Asc l) (hm : i ∈ l) : ins i l = l :=
  asc_ext (asc_ins h) h fun x => by
    rw [mem_ins]
    constructor
    · rintro (rfl | h)
      · exact hm
      · exact h
    · exact .inr
theorem mem_del {i x : Int} {l : List Int} : x ∈ del i l ↔ x ∈ l ∧ x ≠ i := by simp [del]
theorem asc_del {i : Int} {l : List Int} (h : Asc l) : Asc (del i l) := h.filter _
theorem asc_filter {l : List Int} (h : Asc l) (p : Int → Bool) : Asc (l.filter p) := h.filter _
theorem asc_nodup {l : List Int} (h : Asc l) : l.Nodup := h.imp fun {a b} h e => by subst e; omega
theorem del_len_le (i : Int) (l : List Int) : (del i l).length ≤ l.length := List.length_filter_le _ _
theorem del_len {i : Int} : ∀ {l : List Int}, Asc l → i ∈ l → (del i l).length + 1 = l.length
  | [], _, h => by simp at h
  | x :: xs, ha, h => by
    obtain ⟨a1, a2⟩ := List.pairwise_cons.1 ha
    rcases List.mem_cons.1 h with rfl | h
    · have e : del i (i :: xs) = xs := by
        simp only [del, List.filter_cons, ne_eq, not_true_eq_false, decide_false, Bool.false_eq_true, if_false]
        exact List.filter_eq_self.2 fun z hz => by have := a1 z hz; simp; omega
      rw [e]; rfl
    · have hne : x ≠ i := by have := a1 i h; omega
      have ih := del_len a2 h
      have e : del i (x :: xs) = x :: del i xs := by simp [del, hne]
      rw [e]
      simpa using ih
theorem del_not {i : Int} {l : List Int} (h : i ∉ l) : del i l = l := List.filter_eq_self.2 fun z hz => by
  have : z ≠ i := fun e => h (e ▸ hz)
  simp [this]

/-- the times of what is asked for, one of them laid anew -/
def upd (T : Int → Int) (i t : Int) : Int → Int := fun j => if j = i then t else T j
/-- a tick, held within bounds -/
def heldI (now : Int) : Int := min (max now 0) 1125899906842624

/-- the first that is missing and not asked for -/
def nxt (M A : List Int) : Option Int := M.find? fun i => !A.contains i
theorem nxt_some {M A : List Int} {i : Int} (h : nxt M A = some i) : i ∈ M ∧ i ∉ A := by
  have h1 := List.mem_of_find?_eq_some h
  have h2 := List.find?_some h
  simp at h2
  exact ⟨h1, h2⟩
theorem nxt_none {M A : List Int} (h : nxt M A = none) : ∀ i ∈ M, i ∈ A := by
  intro i hi
  have := List.find?_eq_none.1 h i hi
  simpa using this
/-- the numbers below n -/
def upto (n : Nat) : List Int := (List.range n).map fun k : Nat => (k : Int)
theorem mem_upto {n : Nat} {x : Int} : x ∈ upto n ↔ 0 ≤ x ∧ x < n := by
  simp only [upto, List.mem_map, List.mem_range]
  constructor
  · rintro ⟨a, h, rfl⟩; omega
  · rintro ⟨h1, h2⟩
    exact ⟨x.toNat, by omega, by omega⟩
theorem upto_len (n : Nat) : (upto n).length = n := by simp [upto]
theorem upto_asc : ∀ n, Asc (upto n)
  | 0 => by simp [upto]
  | n + 1 => by
    have e : upto (n + 1) = upto n ++ [(n : Int)] := by simp [upto, List.range_succ]
    rw [e]
    refine List.pairwise_append.2 ⟨upto_asc n, by simp, fun a ha b hb => ?_⟩
    obtain rfl : b = (n : Int) := by simpa using hb
    exact (mem_upto.1 ha).2
theorem ins_upto (n : Nat) : ins (n : Int) (upto n) = upto (n + 1) :=
  asc_ext (asc_ins (upto_asc n)) (upto_asc (n + 1)) fun x => by
    rw [mem_ins, mem_upto, mem_upto]; omega
theorem nxt_upto (n i : Nat) (h : i < n) : nxt (upto n) (upto i) = some (i : Int) := by
  unfold nxt
  induction n with
  | zero => omega
  | succ n ih =>
    have e : upto (n + 1) = upto n ++ [(n : Int)] := by simp [upto, List.range_succ]
    rw [e, List.find?_append]
    by_cases hi : i < n
    · rw [ih hi]; rfl
    · obtain rfl : i = n := by omega
      have h1 : (upto i).find? (fun z => !(upto i).contains z) = none := List.find?_eq_none.2 fun z hz => by simp [hz]
      rw [h1]
      have h2 : (i : Int) ∉ upto i := fun h => by have := mem_upto.1 h; omega
      simp [h2]
theorem nxt_len {M A : List Int} {i : Int} (h : nxt M A = some i) : (ins i A).length = A.length + 1 := len_ins (nxt_some h).2
end Go.Proofs.YthnpaiobjmneaaaDoor.Wa
