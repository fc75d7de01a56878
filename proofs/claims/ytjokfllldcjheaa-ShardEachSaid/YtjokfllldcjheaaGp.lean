/- gap: a row of targets as bytes, in plain words. -/
import Derived.Test.YtjokfllldcjheaaOc
namespace Go.Proofs.Ytjokfllldcjheaa.Oc
set_option linter.unusedVariables false
set_option linter.unusedSimpArgs false
/-- what went wrong: the error's number, and its place -/
abbrev Bad := Nat × Nat
/-- a short number at a place: it, and the place behind it -/
def rdAt (bs : List UInt8) (at_ : Nat) : Except Bad (Nat × Nat) :=
  match rd (bs.drop at_) 0 0 with
  | .ok r => .ok (r.1, at_ + r.2)
  | .error k => .error (k, if k = 3 then bs.length else at_)
theorem rdAt_put (a t : List UInt8) (x : Nat) (hx : x < 128 ^ 8) : rdAt (a ++ shB x ++ t) a.length = .ok (x, a.length + (shB x).length) := by
  unfold rdAt
  rw [List.append_assoc, List.drop_left, rd_put x t hx]
theorem rdAt_ok {bs : List UInt8} {at_ : Nat} {r : Nat × Nat} (h : rdAt bs at_ = .ok r) : ∃ n, rd (bs.drop at_) 0 0 = .ok (r.1, n) ∧ r.2 = at_ + n := by
  unfold rdAt at h
  cases e : rd (bs.drop at_) 0 0 with
  | error k => rw [e] at h; simp at h
  | ok q =>
    rw [e] at h
    injection h with h
    subst h
    exact ⟨q.2, rfl, rfl⟩
theorem rdAt_more {bs : List UInt8} (t : List UInt8) {at_ : Nat} {r : Nat × Nat} (h : rdAt bs at_ = .ok r) : rdAt (bs ++ t) at_ = .ok r := by
  obtain ⟨n, h1, h2⟩ := rdAt_ok h
  have hl : at_ ≤ bs.length := by
    by_cases hle : at_ ≤ bs.length
    · exact hle
    · rw [List.drop_of_length_le (by omega)] at h1
      simp [rd] at h1
  unfold rdAt
  rw [List.drop_append_of_le_length hl, rd_more _ t _ _ _ h1]
  exact congrArg Except.ok (Prod.ext rfl h2.symm)
theorem rdAt_len {bs : List UInt8} {at_ : Nat} {r : Nat × Nat} (h : rdAt bs at_ = .ok r) : at_ < r.2 ∧ r.2 ≤ bs.length ∧ r.1 < 128 ^ 8 := by
  obtain ⟨n, h1, h2⟩ := rdAt_ok h
  have a := rd_len _ _ _ _ h1
  have b := rd_bound _ _ _ _ h1 (by omega) (by simp)
  simp only [List.length_drop] at a
  simp only at a b
  omega
/-- the targets behind the first one -/
def gaps : Int → List Int → List UInt8
  | _, [] => []
  | last, t :: r => shB (t - last - 1).toNat ++ gaps t r
/-- a row's bytes -/
def gapB (v : Int) (l : List Int) : List UInt8 := shB l.length ++ match l with
  | [] => []
  | t :: r => shB (turn (t - v)) ++ gaps t r
/-- the next target: the first one against v, others against the one ahead -/
def stepY (first : Bool) (x : Nat) : Int := if first then back x else (x : Int) + 1
/-- n targets, from a place on -/
def rdSteps (bs : List UInt8) (nodes : Nat) : Nat → Bool → Int → Nat → Except Bad (List Int × Nat)
  | 0, _, _, at_ => .ok ([], at_)
  | k + 1, first, now, at_ => match rdAt bs at_ with
    | .error e => .error e
    | .ok r => if stepY first r.1 < -now ∨ stepY first r.1 ≥ (nodes : Int) - now then .error (4, at_) else
      match rdSteps bs nodes k false (now + stepY first r.1) r.2 with
      | .error e => .error e
      | .ok q => .ok ((now + stepY first r.1) :: q.1, q.2)
def rdRow (bs : List UInt8) (nodes : Nat) (at_ : Nat) (v : Int) : Except Bad (List Int × Nat) :=
  match rdAt bs at_ with
  | .error e => .error e
  | .ok r => if r.1 > nodes then .error (4, at_) else rdSteps bs nodes r.1 true v r.2
theorem rdSteps_ok {bs : List UInt8} {nodes k : Nat} {first : Bool} {now : Int} {at_ : Nat} {q : List Int × Nat} (h : rdSteps bs nodes (k + 1) first now at_ = .ok q) :
    ∃ x nx q', rdAt bs at_ = .ok (x, nx) ∧ ¬ (stepY first x < -now ∨ stepY first x ≥ (nodes : Int) - now) ∧ rdSteps bs nodes k false (now + stepY first x) nx = .ok q' ∧ q = ((now + stepY first x) :: q'.1, q'.2) := by
  rw [rdSteps] at h
  cases e : rdAt bs at_ with
  | error b => rw [e] at h; simp at h
  | ok r =>
    rw [e] at h
    simp only at h
    split at h
    · simp at h
    · rename_i hb
      cases e2 : rdSteps bs nodes k false (now + stepY first r.1) r.2 with
      | error b => rw [e2] at h; simp at h
      | ok q' =>
        rw [e2] at h
        injection h with h
        exact ⟨r.1, r.2, q', rfl, hb, e2, h.symm⟩
theorem rdSteps_mk {bs : List UInt8} {nodes k : Nat} {first : Bool} {now : Int} {at_ x nx : Nat} {q' : List Int × Nat} (h1 : rdAt bs at_ = .ok (x, nx)) (h2 : ¬ (stepY first x < -now ∨ stepY first x ≥ (nodes : Int) - now)) (h3 : rdSteps bs nodes k false (now + stepY first x) nx = .ok q') :
    rdSteps bs nodes (k + 1) first now at_ = .ok ((now + stepY first x) :: q'.1, q'.2) := by
  rw [rdSteps, h1]
  simp only
  rw [if_neg h2, h3]
theorem rdSteps_more {bs : List UInt8} (t : List UInt8) {nodes : Nat} : ∀ {k : Nat} {first : Bool} {now : Int} {at_ : Nat} {q : List Int × Nat}, rdSteps bs nodes k first now at_ = .ok q → rdSteps (bs ++ t) nodes k first now at_ = .ok q
  | 0, _, _, _, _, h => h
  | k + 1, first, now, at_, q, h => by
    obtain ⟨x, nx, q', h1, h2, h3, rfl⟩ := rdSteps_ok h
    exact rdSteps_mk (rdAt_more t h1) h2 (rdSteps_more t h3)
theorem rdSteps_len {bs : List UInt8} {nodes : Nat} : ∀ {k : Nat} {first : Bool} {now : Int} {at_ : Nat} {q : List Int × Nat}, at_ ≤ bs.length → rdSteps bs nodes k first now at_ = .ok q → at_ ≤ q.2 ∧ q.2 ≤ bs.length ∧ q.1.length = k
  | 0, _, _, at_, q, hl, h => by injection h with h; subst h; exact ⟨Nat.le_refl _, hl, rfl⟩
  | k + 1, first, now, at_, q, hl, h => by
    obtain ⟨x, nx, q', h1, h2, h3, rfl⟩ := rdSteps_ok h
    have a := rdAt_len h1
    have b := rdSteps_len (by exact a.2.1) h3
    simp only [List.length_cons] at *
    omega
theorem rdRow_ok {bs : List UInt8} {nodes at_ : Nat} {v : Int} {q : List Int × Nat} (h : rdRow bs nodes at_ v = .ok q) : ∃ n nx, rdAt bs at_ = .ok (n, nx) ∧ n ≤ nodes ∧ rdSteps bs nodes n true v nx = .ok q := by
  unfold rdRow at h
  cases e : rdAt bs at_ with
  | error b => rw [e] at h; simp at h
  | ok r =>
    rw [e] at h
    simp only at h
    split at h
    · simp at h
    · exact ⟨r.1, r.2, rfl, by omega, h⟩
theorem rdRow_mk {bs : List UInt8} {nodes at_ n nx : Nat} {v : Int} {q : List Int × Nat} (h1 : rdAt bs at_ = .ok (n, nx)) (h2 : n ≤ nodes) (h3 : rdSteps bs nodes n true v nx = .ok q) : rdRow bs nodes at_ v = .ok q := by
  unfold rdRow
  rw [h1]
  simp only
  rw [if_neg (by omega)]
  exact h3
theorem rdRow_more {bs : List UInt8} (t : List UInt8) {nodes at_ : Nat} {v : Int} {q : List Int × Nat} (h : rdRow bs nodes at_ v = .ok q) : rdRow (bs ++ t) nodes at_ v = .ok q := by
  obtain ⟨n, nx, h1, h2, h3⟩ := rdRow_ok h
  exact rdRow_mk (rdAt_more t h1) h2 (rdSteps_more t h3)
theorem rdRow_len {bs : List UInt8} {nodes at_ : Nat} {v : Int} {q : List Int × Nat} (h : rdRow bs nodes at_ v = .ok q) : at_ < q.2 ∧ q.2 ≤ bs.length ∧ q.1.length ≤ nodes := by
  obtain ⟨n, nx, h1, h2, h3⟩ := rdRow_ok h
  have a := rdAt_len h1
  have b := rdSteps_len a.2.1 h3
  omega
theorem small {x : Nat} (h : x < 10000) : x < 128 ^ 8 := Nat.lt_of_lt_of_le h (by decide)
/-- what gaps wrote is read -/
theorem rdSteps_gaps (nodes : Nat) (hN : nodes ≤ 4096) : ∀ (r : List Int) (a t : List UInt8) (now : Int), 0 ≤ now → now < nodes → (∀ x ∈ r, x < nodes) → (now :: r).Pairwise (· < ·) → rdSteps (a ++ gaps now r ++ t) nodes r.length false now a.length = .ok (r, a.length + (gaps now r).length)
  | [], a, t, now, _, _, _, _ => by simp [rdSteps, gaps]
  | x :: r, a, t, now, h0, h1, h2, h3 => by
    have hx : now < x := (List.pairwise_cons.1 h3).1 x (List.mem_cons_self ..)
    have hx2 := h2 x (List.mem_cons_self ..)
    obtain ⟨d, hd⟩ : ∃ d : Nat, (x - now - 1).toNat = d := ⟨_, rfl⟩
    have hd2 : x = now + ((d : Int) + 1) := by omega
    have ih := rdSteps_gaps nodes hN r (a ++ shB d) t x (by omega) hx2 (fun y hy => h2 y (List.mem_cons_of_mem _ hy)) (List.pairwise_cons.1 h3).2
    have e : a ++ gaps now (x :: r) ++ t = a ++ shB d ++ (gaps x r ++ t) := by simp [gaps, hd]
    rw [e]
    have e1 := rdAt_put a (gaps x r ++ t) d (small (by omega))
    have e3 : rdSteps (a ++ shB d ++ (gaps x r ++ t)) nodes r.length false (now + stepY false d) (a.length + (shB d).length) = .ok (r, (a ++ shB d).length + (gaps x r).length) := by
      rw [show now + stepY false d = x by rw [hd2]; rfl, ← List.append_assoc]
      rw [List.length_append] at ih
      rw [List.length_append]
      exact ih
    have := rdSteps_mk (nodes := nodes) (first := false) (now := now) e1 (by unfold stepY; simp; omega) e3
    rw [List.length_cons, this, show now + stepY false d = x by rw [hd2]; rfl]
    simp only [gaps, hd, List.length_append]
    congr 2
    omega
theorem rdRow_gapB (nodes : Nat) (hN : nodes ≤ 4096) (v : Int) (hv : 0 ≤ v ∧ v < nodes) (l : List Int) (h0 : ∀ x ∈ l, 0 ≤ x ∧ x < nodes) (hp : l.Pairwise (· < ·)) (hl : l.length ≤ nodes) (a t : List UInt8) :
    rdRow (a ++ gapB v l ++ t) nodes a.length v = .ok (l, a.length + (gapB v l).length) := by
  cases l with
  | nil =>
    have e1 := rdAt_put a t 0 (by decide)
    refine rdRow_mk (n := 0) (nx := a.length + (shB 0).length) ?_ (Nat.zero_le _) ?_
    · simpa [gapB] using e1
    · simp [rdSteps, gapB]
  | cons x r =>
    have hx := h0 x (List.mem_cons_self ..)
    obtain ⟨d, hd⟩ : ∃ d : Nat, turn (x - v) = d := ⟨_, rfl⟩
    have hb : back d = x - v := by rw [← hd]; exact back_turn _
    have hdl : d < 10000 := by rw [← hd]; unfold turn; split <;> omega
    have hlen : (x :: r).length < 10000 := by omega
    have e : a ++ gapB v (x :: r) ++ t = a ++ shB (x :: r).length ++ (shB d ++ gaps x r ++ t) := by simp [gapB, hd]
    have e1 := rdAt_put a (shB d ++ gaps x r ++ t) (x :: r).length (small hlen)
    refine rdRow_mk (n := (x :: r).length) (nx := a.length + (shB (x :: r).length).length) (by rw [e]; exact e1) hl ?_
    have e2 := rdAt_put (a ++ shB (x :: r).length) (gaps x r ++ t) d (small hdl)
    have ih := rdSteps_gaps nodes hN r (a ++ shB (x :: r).length ++ shB d) t x hx.1 hx.2 (fun y hy => (h0 y (List.mem_cons_of_mem _ hy)).2) hp
    have ey : v + stepY true d = x := by unfold stepY; rw [if_pos rfl, hb]; omega
    have e0 : a ++ gapB v (x :: r) ++ t = a ++ shB (x :: r).length ++ shB d ++ (gaps x r ++ t) := by rw [e]; simp
    have e3 : rdSteps (a ++ gapB v (x :: r) ++ t) nodes r.length false (v + stepY true d) ((a ++ shB (x :: r).length).length + (shB d).length) = .ok (r, (a ++ shB (x :: r).length ++ shB d).length + (gaps x r).length) := by
      rw [ey, e0, ← List.append_assoc, ← List.length_append]; exact ih
    rw [e0] at e3 ⊢
    rw [List.length_append] at e2
    have := rdSteps_mk (nodes := nodes) (first := true) (now := v) e2 (by unfold stepY; rw [if_pos rfl, hb]; omega) (by rw [List.length_append] at e3; exact e3)
    rw [List.length_cons] at this ⊢
    rw [this, ey]
    simp only [gapB, hd, List.length_append, List.length_cons]
    congr 2
    omega
end Go.Proofs.Ytjokfllldcjheaa.Oc
