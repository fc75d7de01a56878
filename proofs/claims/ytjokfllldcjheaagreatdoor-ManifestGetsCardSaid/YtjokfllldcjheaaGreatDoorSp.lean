/- octet: short numbers as bytes, in plain words. · gap: a row of targets as bytes, in plain words. · shard: some nodes' rows as bytes, in plain words. -/
import Derived.WalkKit
/- octet: short numbers as bytes, in plain words. -/
namespace Go.Proofs.YtjokfllldcjheaaGreatDoor.Oc
set_option linter.unusedVariables false
set_option linter.unusedSimpArgs false
/-- a short number's bytes -/
def shB (x : Nat) : List UInt8 := if h : x < 128 then [UInt8.ofNat x] else UInt8.ofNat (x % 128 + 128) :: shB (x / 128)
termination_by x
decreasing_by omega
theorem shB_lt {x : Nat} (h : x < 128) : shB x = [UInt8.ofNat x] := by rw [shB, dif_pos h]
theorem shB_ge {x : Nat} (h : ¬ x < 128) : shB x = UInt8.ofNat (x % 128 + 128) :: shB (x / 128) := by rw [shB, dif_neg h]
theorem shB_pos (x : Nat) : 0 < (shB x).length := by
  by_cases h : x < 128
  · rw [shB_lt h]; simp
  · rw [shB_ge h]; simp
/-- what reading a short number tells: the number, how many bytes; or the error's number -/
def rd : List UInt8 → Nat → Nat → Except Nat (Nat × Nat)
  | [], _, _ => .error 3
  | c :: r, i, x =>
    if 128 ≤ c.toNat then (if i = 7 then .error 4 else rd r (i + 1) (x + c.toNat % 128 * 128 ^ i))
    else if c.toNat = 0 ∧ 0 < i then .error 4 else .ok (x + c.toNat * 128 ^ i, i + 1)
theorem rd_go {c : UInt8} {r : List UInt8} {i x : Nat} (h : 128 ≤ c.toNat) (h7 : i ≠ 7) : rd (c :: r) i x = rd r (i + 1) (x + c.toNat % 128 * 128 ^ i) := by rw [rd, if_pos h, if_neg h7]
theorem rd_seven {c : UInt8} {r : List UInt8} {x : Nat} (h : 128 ≤ c.toNat) : rd (c :: r) 7 x = .error 4 := by rw [rd, if_pos h, if_pos rfl]
theorem rd_nought {c : UInt8} {r : List UInt8} {i x : Nat} (h : c.toNat = 0) (hi : 0 < i) : rd (c :: r) i x = .error 4 := by rw [rd, if_neg (by omega), if_pos ⟨h, hi⟩]
theorem rd_last {c : UInt8} {r : List UInt8} {i x : Nat} (h : c.toNat < 128) (hi : ¬ (c.toNat = 0 ∧ 0 < i)) : rd (c :: r) i x = .ok (x + c.toNat * 128 ^ i, i + 1) := by rw [rd, if_neg (by omega), if_neg hi]
/-- what was read is read of more bytes, too -/
theorem rd_more : ∀ (bs t : List UInt8) (i x : Nat) (r : Nat × Nat), rd bs i x = .ok r → rd (bs ++ t) i x = .ok r
  | [], t, i, x, r, h => by simp [rd] at h
  | c :: bs, t, i, x, r, h => by
    rw [List.cons_append]
    by_cases h1 : 128 ≤ c.toNat
    · by_cases h7 : i = 7
      · subst h7; rw [rd_seven h1] at h; simp at h
      · rw [rd_go h1 h7] at h ⊢
        exact rd_more bs t _ _ r h
    · by_cases h0 : c.toNat = 0 ∧ 0 < i
      · rw [rd_nought h0.1 h0.2] at h; simp at h
      · rw [rd_last (by omega) h0] at h ⊢; exact h
/-- how many bytes it has read -/
theorem rd_len : ∀ (bs : List UInt8) (i x : Nat) (r : Nat × Nat), rd bs i x = .ok r → i < r.2 ∧ r.2 ≤ i + bs.length
  | [], i, x, r, h => by simp [rd] at h
  | c :: bs, i, x, r, h => by
    by_cases h1 : 128 ≤ c.toNat
    · by_cases h7 : i = 7
      · subst h7; rw [rd_seven h1] at h; simp at h
      · rw [rd_go h1 h7] at h
        have := rd_len bs _ _ r h
        simp only [List.length_cons]
        omega
    · by_cases h0 : c.toNat = 0 ∧ 0 < i
      · rw [rd_nought h0.1 h0.2] at h; simp at h
      · rw [rd_last (by omega) h0] at h
        injection h with h
        subst h
        simp only [List.length_cons]
        omega
theorem ofNat_toNat {x : Nat} (h : x < 256) : (UInt8.ofNat x).toNat = x := by
  simp [UInt8.toNat_ofNat']; omega
/-- a number's bytes are read as that number -/
theorem rd_shB : ∀ (x : Nat) (t : List UInt8) (i y : Nat), x < 128 ^ (8 - i) → i ≤ 7 → (x = 0 → i = 0) → rd (shB x ++ t) i y = .ok (y + x * 128 ^ i, i + (shB x).length) := by
  intro x
  induction x using Nat.strongRecOn with
  | ind x ih =>
    intro t i y hx hi h0
    by_cases h : x < 128
    · rw [shB_lt h]
      have e := ofNat_toNat (show x < 256 by omega)
      rw [List.cons_append, List.nil_append, rd_last (by rw [e]; exact h) (by rw [e]; rintro ⟨a, b⟩; have := h0 a; omega), e]
      rfl
    · rw [shB_ge h]
      have e := ofNat_toNat (show x % 128 + 128 < 256 by omega)
      have h7 : i ≠ 7 := fun h7 => by subst h7; simp at hx; omega
      have hp : (128 : Nat) ^ (8 - i) = 128 * 128 ^ (8 - (i + 1)) := by rw [show 8 - i = (8 - (i + 1)) + 1 by omega, Nat.pow_succ, Nat.mul_comm]
      rw [List.cons_append, rd_go (by rw [e]; omega) h7, ih (x / 128) (by omega) t (i + 1) _ (by rw [hp] at hx; exact Nat.div_lt_of_lt_mul hx) (by omega) (fun h => by omega), e]
      congr 2
      · rw [Nat.pow_succ, show (x % 128 + 128) % 128 = x % 128 by omega]
        have := Nat.div_add_mod x 128
        generalize 128 ^ i = p at *
        calc y + x % 128 * p + x / 128 * (p * 128) = y + (128 * (x / 128) + x % 128) * p := by
              rw [Nat.add_mul, show x / 128 * (p * 128) = 128 * (x / 128) * p by rw [Nat.mul_comm p 128, ← Nat.mul_assoc, Nat.mul_comm (x / 128) 128]]; omega
          _ = y + x * p := by rw [this]
      · simp only [List.length_cons]; omega
theorem rd_put (x : Nat) (t : List UInt8) (hx : x < 128 ^ 8) : rd (shB x ++ t) 0 0 = .ok (x, (shB x).length) := by
  have := rd_shB x t 0 0 (by simpa using hx) (by omega) (fun _ => rfl)
  simpa using this
theorem rd_bound : ∀ (bs : List UInt8) (i x : Nat) (r : Nat × Nat), rd bs i x = .ok r → i ≤ 7 → x < 128 ^ i → r.1 < 128 ^ 8
  | [], i, x, r, h, _, _ => by simp [rd] at h
  | c :: bs, i, x, r, h, hi, hx => by
    have hp : (128 : Nat) ^ (i + 1) = 128 * 128 ^ i := by rw [Nat.pow_succ, Nat.mul_comm]
    have hc : c.toNat % 128 ≤ 127 := by omega
    have hm : c.toNat % 128 * 128 ^ i ≤ 127 * 128 ^ i := Nat.mul_le_mul_right _ hc
    by_cases h1 : 128 ≤ c.toNat
    · by_cases h7 : i = 7
      · subst h7; rw [rd_seven h1] at h; simp at h
      · rw [rd_go h1 h7] at h
        exact rd_bound bs _ _ r h (by omega) (by rw [hp]; omega)
    · by_cases h0 : c.toNat = 0 ∧ 0 < i
      · rw [rd_nought h0.1 h0.2] at h; simp at h
      · rw [rd_last (by omega) h0] at h
        injection h with h
        subst h
        have e : c.toNat % 128 = c.toNat := by omega
        rw [e] at hm
        have : (128 : Nat) ^ (i + 1) ≤ 128 ^ 8 := Nat.pow_le_pow_right (by omega) (by omega)
        show x + c.toNat * 128 ^ i < 128 ^ 8
        omega
/-- turned numbers: what is written for one -/
def turn (x : Int) : Nat := if x < 0 then (-2 * x - 1).toNat else (2 * x).toNat
def back (x : Nat) : Int := if x % 2 = 1 then -((x / 2 : Nat) : Int) - 1 else ((x / 2 : Nat) : Int)
theorem back_turn (x : Int) : back (turn x) = x := by
  unfold back turn
  split
  · rw [if_pos (by omega)]; omega
  · rw [if_neg (by omega)]; omega
end Go.Proofs.YtjokfllldcjheaaGreatDoor.Oc
/- gap: a row of targets as bytes, in plain words. -/
namespace Go.Proofs.YtjokfllldcjheaaGreatDoor.Oc
set_option linter.unusedVariables false
set_option linter.unusedSimpArgs false
/-- what went wrong: the error's number, and its place -/
abbrev Bad := Nat × Nat
/-- a short number at a place: it, and the place behind it -/
def rdAt (bs : List UInt8) (at_ : Nat) : Except Bad (Nat × Nat) :=
  match rd (bs.drop at_) 0 0 with
  | .ok r => .ok (r.1, at_ + r.2)
  | .error k => .error (k, if k = 3 then bs.length else at_)
theorem rdAt_put (a t : List UInt8) (x : Nat) (hx : x < 128 ^ 8) : rdAt (a ++ shB x ++ t) a.length = .ok (x, a.length + (shB x).length) := by
  unfold rdAt
  rw [List.append_assoc, List.drop_left, rd_put x t hx]
theorem rdAt_ok {bs : List UInt8} {at_ : Nat} {r : Nat × Nat} (h : rdAt bs at_ = .ok r) : ∃ n, rd (bs.drop at_) 0 0 = .ok (r.1, n) ∧ r.2 = at_ + n := by
  unfold rdAt at h
  cases e : rd (bs.drop at_) 0 0 with
  | error k => rw [e] at h; simp at h
  | ok q =>
    rw [e] at h
    injection h with h
    subst h
    exact ⟨q.2, rfl, rfl⟩
theorem rdAt_more {bs : List UInt8} (t : List UInt8) {at_ : Nat} {r : Nat × Nat} (h : rdAt bs at_ = .ok r) : rdAt (bs ++ t) at_ = .ok r := by
  obtain ⟨n, h1, h2⟩ := rdAt_ok h
  have hl : at_ ≤ bs.length := by
    by_cases hle : at_ ≤ bs.length
    · exact hle
    · rw [List.drop_of_length_le (by omega)] at h1
      simp [rd] at h1
  unfold rdAt
  rw [List.drop_append_of_le_length hl, rd_more _ t _ _ _ h1]
  exact congrArg Except.ok (Prod.ext rfl h2.symm)
theorem rdAt_len {bs : List UInt8} {at_ : Nat} {r : Nat × Nat} (h : rdAt bs at_ = .ok r) : at_ < r.2 ∧ r.2 ≤ bs.length ∧ r.1 < 128 ^ 8 := by
  obtain ⟨n, h1, h2⟩ := rdAt_ok h
  have a := rd_len _ _ _ _ h1
  have b := rd_bound _ _ _ _ h1 (by omega) (by simp)
  simp only [List.length_drop] at a
  simp only at a b
  omega
/-- the targets behind the first one -/
def gaps : Int → List Int → List UInt8
  | _, [] => []
  | last, t :: r => shB (t - last - 1).toNat ++ gaps t r
/-- a row's bytes -/
def gapB (v : Int) (l : List Int) : List UInt8 := shB l.length ++ match l with
  | [] => []
  | t :: r => shB (turn (t - v)) ++ gaps t r
/-- the next target: the first one against v, others against the one ahead -/
def stepY (first : Bool) (x : Nat) : Int := if first then back x else (x : Int) + 1
/-- n targets, from a place on -/
def rdSteps (bs : List UInt8) (nodes : Nat) : Nat → Bool → Int → Nat → Except Bad (List Int × Nat)
  | 0, _, _, at_ => .ok ([], at_)
  | k + 1, first, now, at_ => match rdAt bs at_ with
    | .error e => .error e
    | .ok r => if stepY first r.1 < -now ∨ stepY first r.1 ≥ (nodes : Int) - now then .error (4, at_) else
      match rdSteps bs nodes k false (now + stepY first r.1) r.2 with
      | .error e => .error e
      | .ok q => .ok ((now + stepY first r.1) :: q.1, q.2)
def rdRow (bs : List UInt8) (nodes : Nat) (at_ : Nat) (v : Int) : Except Bad (List Int × Nat) :=
  match rdAt bs at_ with
  | .error e => .error e
  | .ok r => if r.1 > nodes then .error (4, at_) else rdSteps bs nodes r.1 true v r.2
theorem rdSteps_ok {bs : List UInt8} {nodes k : Nat} {first : Bool} {now : Int} {at_ : Nat} {q : List Int × Nat} (h : rdSteps bs nodes (k + 1) first now at_ = .ok q) :
    ∃ x nx q', rdAt bs at_ = .ok (x, nx) ∧ ¬ (stepY first x < -now ∨ stepY first x ≥ (nodes : Int) - now) ∧ rdSteps bs nodes k false (now + stepY first x) nx = .ok q' ∧ q = ((now + stepY first x) :: q'.1, q'.2) := by
  rw [rdSteps] at h
  cases e : rdAt bs at_ with
  | error b => rw [e] at h; simp at h
  | ok r =>
    rw [e] at h
    simp only at h
    split at h
    · simp at h
    · rename_i hb
      cases e2 : rdSteps bs nodes k false (now + stepY first r.1) r.2 with
      | error b => rw [e2] at h; simp at h
      | ok q' =>
        rw [e2] at h
        injection h with h
        exact ⟨r.1, r.2, q', rfl, hb, e2, h.symm⟩
theorem rdSteps_mk {bs : List UInt8} {nodes k : Nat} {first : Bool} {now : Int} {at_ x nx : Nat} {q' : List Int × Nat} (h1 : rdAt bs at_ = .ok (x, nx)) (h2 : ¬ (stepY first x < -now ∨ stepY first x ≥ (nodes : Int) - now)) (h3 : rdSteps bs nodes k false (now + stepY first x) nx = .ok q') :
    rdSteps bs nodes (k + 1) first now at_ = .ok ((now + stepY first x) :: q'.1, q'.2) := by
  rw [rdSteps, h1]
  simp only
  rw [if_neg h2, h3]
theorem rdSteps_more {bs : List UInt8} (t : List UInt8) {nodes : Nat} : ∀ {k : Nat} {first : Bool} {now : Int} {at_ : Nat} {q : List Int × Nat}, rdSteps bs nodes k first now at_ = .ok q → rdSteps (bs ++ t) nodes k first now at_ = .ok q
  | 0, _, _, _, _, h => h
  | k + 1, first, now, at_, q, h => by
    obtain ⟨x, nx, q', h1, h2, h3, rfl⟩ := rdSteps_ok h
    exact rdSteps_mk (rdAt_more t h1) h2 (rdSteps_more t h3)
theorem rdSteps_len {bs : List UInt8} {nodes : Nat} : ∀ {k : Nat} {first : Bool} {now : Int} {at_ : Nat} {q : List Int × Nat}, at_ ≤ bs.length → rdSteps bs nodes k first now at_ = .ok q → at_ ≤ q.2 ∧ q.2 ≤ bs.length ∧ q.1.length = k
  | 0, _, _, at_, q, hl, h => by injection h with h; subst h; exact ⟨Nat.le_refl _, hl, rfl⟩
  | k + 1, first, now, at_, q, hl, h => by
    obtain ⟨x, nx, q', h1, h2, h3, rfl⟩ := rdSteps_ok h
    have a := rdAt_len h1
    have b := rdSteps_len (by exact a.2.1) h3
    simp only [List.length_cons] at *
    omega
theorem rdRow_ok {bs : List UInt8} {nodes at_ : Nat} {v : Int} {q : List Int × Nat} (h : rdRow bs nodes at_ v = .ok q) : ∃ n nx, rdAt bs at_ = .ok (n, nx) ∧ n ≤ nodes ∧ rdSteps bs nodes n true v nx = .ok q := by
  unfold rdRow at h
  cases e : rdAt bs at_ with
  | error b => rw [e] at h; simp at h
  | ok r =>
    rw [e] at h
    simp only at h
    split at h
    · simp at h
    · exact ⟨r.1, r.2, rfl, by omega, h⟩
theorem rdRow_mk {bs : List UInt8} {nodes at_ n nx : Nat} {v : Int} {q : List Int × Nat} (h1 : rdAt bs at_ = .ok (n, nx)) (h2 : n ≤ nodes) (h3 : rdSteps bs nodes n true v nx = .ok q) : rdRow bs nodes at_ v = .ok q := by
  unfold rdRow
  rw [h1]
  simp only
  rw [if_neg (by omega)]
  exact h3
theorem rdRow_more {bs : List UInt8} (t : List UInt8) {nodes at_ : Nat} {v : Int} {q : List Int × Nat} (h : rdRow bs nodes at_ v = .ok q) : rdRow (bs ++ t) nodes at_ v = .ok q := by
  obtain ⟨n, nx, h1, h2, h3⟩ := rdRow_ok h
  exact rdRow_mk (rdAt_more t h1) h2 (rdSteps_more t h3)
theorem rdRow_len {bs : List UInt8} {nodes at_ : Nat} {v : Int} {q : List Int × Nat} (h : rdRow bs nodes at_ v = .ok q) : at_ < q.2 ∧ q.2 ≤ bs.length ∧ q.1.length ≤ nodes := by
  obtain ⟨n, nx, h1, h2, h3⟩ := rdRow_ok h
  have a := rdAt_len h1
  have b := rdSteps_len a.2.1 h3
  omega
theorem small {x : Nat} (h : x < 10000) : x < 128 ^ 8 := Nat.lt_of_lt_of_le h (by decide)
/-- what gaps wrote is read -/
theorem rdSteps_gaps (nodes : Nat) (hN : nodes ≤ 4096) : ∀ (r : List Int) (a t : List UInt8) (now : Int), 0 ≤ now → now < nodes → (∀ x ∈ r, x < nodes) → (now :: r).Pairwise (· < ·) → rdSteps (a ++ gaps now r ++ t) nodes r.length false now a.length = .ok (r, a.length + (gaps now r).length)
  | [], a, t, now, _, _, _, _ => by simp [rdSteps, gaps]
  | x :: r, a, t, now, h0, h1, h2, h3 => by
    have hx : now < x := (List.pairwise_cons.1 h3).1 x (List.mem_cons_self ..)
    have hx2 := h2 x (List.mem_cons_self ..)
    obtain ⟨d, hd⟩ : ∃ d : Nat, (x - now - 1).toNat = d := ⟨_, rfl⟩
    have hd2 : x = now + ((d : Int) + 1) := by omega
    have ih := rdSteps_gaps nodes hN r (a ++ shB d) t x (by omega) hx2 (fun y hy => h2 y (List.mem_cons_of_mem _ hy)) (List.pairwise_cons.1 h3).2
    have e : a ++ gaps now (x :: r) ++ t = a ++ shB d ++ (gaps x r ++ t) := by simp [gaps, hd]
    rw [e]
    have e1 := rdAt_put a (gaps x r ++ t) d (small (by omega))
    have e3 : rdSteps (a ++ shB d ++ (gaps x r ++ t)) nodes r.length false (now + stepY false d) (a.length + (shB d).length) = .ok (r, (a ++ shB d).length + (gaps x r).length) := by
      rw [show now + stepY false d = x by rw [hd2]; rfl, ← List.append_assoc]
      rw [List.length_append] at ih
      rw [List.length_append]
      exact ih
    have := rdSteps_mk (nodes := nodes) (first := false) (now := now) e1 (by unfold stepY; simp; omega) e3
    rw [List.length_cons, this, show now + stepY false d = x by rw [hd2]; rfl]
    simp only [gaps, hd, List.length_append]
    congr 2
    omega
theorem rdRow_gapB (nodes : Nat) (hN : nodes ≤ 4096) (v : Int) (hv : 0 ≤ v ∧ v < nodes) (l : List Int) (h0 : ∀ x ∈ l, 0 ≤ x ∧ x < nodes) (hp : l.Pairwise (· < ·)) (hl : l.length ≤ nodes) (a t : List UInt8) :
    rdRow (a ++ gapB v l ++ t) nodes a.length v = .ok (l, a.length + (gapB v l).length) := by
  cases l with
  | nil =>
    have e1 := rdAt_put a t 0 (by decide)
    refine rdRow_mk (n := 0) (nx := a.length + (shB 0).length) ?_ (Nat.zero_le _) ?_
    · simpa [gapB] using e1
    · simp [rdSteps, gapB]
  | cons x r =>
    have hx := h0 x (List.mem_cons_self ..)
    obtain ⟨d, hd⟩ : ∃ d : Nat, turn (x - v) = d := ⟨_, rfl⟩
    have hb : back d = x - v := by rw [← hd]; exact back_turn _
    have hdl : d < 10000 := by rw [← hd]; unfold turn; split <;> omega
    have hlen : (x :: r).length < 10000 := by omega
    have e : a ++ gapB v (x :: r) ++ t = a ++ shB (x :: r).length ++ (shB d ++ gaps x r ++ t) := by simp [gapB, hd]
    have e1 := rdAt_put a (shB d ++ gaps x r ++ t) (x :: r).length (small hlen)
    refine rdRow_mk (n := (x :: r).length) (nx := a.length + (shB (x :: r).length).length) (by rw [e]; exact e1) hl ?_
    have e2 := rdAt_put (a ++ shB (x :: r).length) (gaps x r ++ t) d (small hdl)
    have ih := rdSteps_gaps nodes hN r (a ++ shB (x :: r).length ++ shB d) t x hx.1 hx.2 (fun y hy => (h0 y (List.mem_cons_of_mem _ hy)).2) hp
    have ey : v + stepY true d = x := by unfold stepY; rw [if_pos rfl, hb]; omega
    have e0 : a ++ gapB v (x :: r) ++ t = a ++ shB (x :: r).length ++ shB d ++ (gaps x r ++ t) := by rw [e]; simp
    have e3 : rdSteps (a ++ gapB v (x :: r) ++ t) nodes r.length false (v + stepY true d) ((a ++ shB (x :: r).length).length + (shB d).length) = .ok (r, (a ++ shB (x :: r).length ++ shB d).length + (gaps x r).length) := by
      rw [ey, e0, ← List.append_assoc, ← List.length_append]; exact ih
    rw [e0] at e3 ⊢
    rw [List.length_append] at e2
    have := rdSteps_mk (nodes := nodes) (first := true) (now := v) e2 (by unfold stepY; rw [if_pos rfl, hb]; omega) (by rw [List.length_append] at e3; exact e3)
    rw [List.length_cons] at this ⊢
    rw [this, ey]
    simp only [gapB, hd, List.length_append, List.length_cons]
    congr 2
    omega
end Go.Proofs.YtjokfllldcjheaaGreatDoor.Oc
/- shard: some nodes' rows as bytes, in plain words. -/
namespace Go.Proofs.YtjokfllldcjheaaGreatDoor.Oc
set_option linter.unusedVariables false
set_option linter.unusedSimpArgs false
/-- k nodes' rows, from v on -/
def rowsB (t : Int → List Int) : Int → Nat → List UInt8
  | _, 0 => []
  | v, k + 1 => gapB v (t v) ++ rowsB t (v + 1) k
theorem rowsB_snoc (t : Int → List Int) : ∀ (k : Nat) (v : Int), rowsB t v (k + 1) = rowsB t v k ++ gapB (v + k) (t (v + k))
  | 0, v => by simp [rowsB]
  | k + 1, v => by
    rw [rowsB, rowsB_snoc t k (v + 1), rowsB, List.append_assoc, show v + 1 + (k : Int) = v + ((k + 1 : Nat) : Int) by omega]
/-- the numbers of the index -/
def marksOf (t : Int → List Int) (v : Int) (k : Nat) : List Nat := (List.range ((k + 7) / 8)).map fun i => (rowsB t v (8 * i)).length
theorem marksOf_len (t : Int → List Int) (v : Int) (k : Nat) : (marksOf t v k).length = (k + 7) / 8 := by simp [marksOf]
theorem marksOf_step (t : Int → List Int) (v : Int) (k : Nat) : marksOf t v (k + 1) = if k % 8 = 0 then marksOf t v k ++ [(rowsB t v k).length] else marksOf t v k := by
  unfold marksOf
  by_cases h : k % 8 = 0
  · rw [if_pos h, show (k + 1 + 7) / 8 = (k + 7) / 8 + 1 by omega, List.range_succ, List.map_append, List.map_cons, List.map_nil, show 8 * ((k + 7) / 8) = k by omega]
  · rw [if_neg h, show (k + 1 + 7) / 8 = (k + 7) / 8 by omega]
def idxB (ms : List Nat) : List UInt8 := ms.flatMap shB
theorem idxB_snoc (ms : List Nat) (x : Nat) : idxB (ms ++ [x]) = idxB ms ++ shB x := by simp [idxB]
/-- a shard's bytes -/
def shardB (t : Int → List Int) (first many : Nat) : List UInt8 := shB first ++ shB many ++ idxB (marksOf t first many) ++ rowsB t first many
/-- so many numbers of the index: these, their places, the place behind -/
def rdIdx (bs : List UInt8) : Nat → Nat → Except Bad (List Nat × List Nat × Nat)
  | 0, at_ => .ok ([], [], at_)
  | k + 1, at_ => match rdAt bs at_ with
    | .error e => .error e
    | .ok r => match rdIdx bs k r.2 with
      | .error e => .error e
      | .ok q => .ok (r.1 :: q.1, at_ :: q.2.1, q.2.2)
/-- so many rows: these, where each begins, the place behind -/
def rdRows (bs : List UInt8) (nodes begin_ : Nat) : Nat → Int → Nat → Except Bad (List (List Int) × List Nat × Nat)
  | 0, _, at_ => .ok ([], [], at_)
  | k + 1, v, at_ => match rdRow bs nodes at_ v with
    | .error e => .error e
    | .ok r => match rdRows bs nodes begin_ k (v + 1) r.2 with
      | .error e => .error e
      | .ok q => .ok (r.1 :: q.1, (at_ - begin_) :: q.2.1, q.2.2)
/-- the place of the first number of the index that is another -/
def chk (begins : List Nat) : List Nat → List Nat → Nat → Option Nat
  | m :: ms, p :: ps, i => if m = begins.getD (8 * i) 0 then chk begins ms ps (i + 1) else some p
  | _, _, _ => none
/-- a shard's first node, and how many, and the place of its index -/
def rdHead (bs : List UInt8) (nodes : Nat) : Except Bad (Nat × Nat × Nat) :=
  match rdAt bs 0 with
  | .error e => .error e
  | .ok a => match rdAt bs a.2 with
    | .error e => .error e
    | .ok b => if b.1 < 1 ∨ a.1 > nodes ∨ b.1 > nodes - a.1 then .error (4, a.2) else .ok (a.1, b.1, b.2)
def rdCore (bs : List UInt8) (nodes : Nat) : Except Bad (Nat × List (List Int) × Nat) :=
  match rdHead bs nodes with
  | .error e => .error e
  | .ok h => match rdIdx bs ((h.2.1 + 7) / 8) h.2.2 with
    | .error e => .error e
    | .ok x => match rdRows bs nodes x.2.2 h.2.1 h.1 x.2.2 with
      | .error e => .error e
      | .ok r => match chk r.2.1 x.1 x.2.1 0 with
        | some p => .error (4, p)
        | none => .ok (h.1, r.1, r.2.2)
/-- the shard of bytes -/
def rdShard (bs : List UInt8) (nodes : Nat) : Except Bad (Nat × List (List Int)) :=
  match rdCore bs nodes with
  | .error e => .error e
  | .ok r => if r.2.2 < bs.length then .error (4, r.2.2) else .ok (r.1, r.2.1)
theorem rdIdx_ok {bs : List UInt8} {k at_ : Nat} {q : List Nat × List Nat × Nat} (h : rdIdx bs (k + 1) at_ = .ok q) : ∃ x nx q', rdAt bs at_ = .ok (x, nx) ∧ rdIdx bs k nx = .ok q' ∧ q = (x :: q'.1, at_ :: q'.2.1, q'.2.2) := by
  rw [rdIdx] at h
  cases e : rdAt bs at_ with
  | error b => rw [e] at h; simp at h
  | ok r =>
    rw [e] at h
    simp only at h
    cases e2 : rdIdx bs k r.2 with
    | error b => rw [e2] at h; simp at h
    | ok q' =>
      rw [e2] at h
      injection h with h
      exact ⟨r.1, r.2, q', rfl, e2, h.symm⟩
theorem rdIdx_mk {bs : List UInt8} {k at_ x nx : Nat} {q' : List Nat × List Nat × Nat} (h1 : rdAt bs at_ = .ok (x, nx)) (h2 : rdIdx bs k nx = .ok q') : rdIdx bs (k + 1) at_ = .ok (x :: q'.1, at_ :: q'.2.1, q'.2.2) := by
  rw [rdIdx, h1]; simp only; rw [h2]
theorem rdIdx_more {bs : List UInt8} (t : List UInt8) : ∀ {k at_ : Nat} {q : List Nat × List Nat × Nat}, rdIdx bs k at_ = .ok q → rdIdx (bs ++ t) k at_ = .ok q
  | 0, _, _, h => h
  | k + 1, at_, q, h => by
    obtain ⟨x, nx, q', h1, h2, rfl⟩ := rdIdx_ok h
    exact rdIdx_mk (rdAt_more t h1) (rdIdx_more t h2)
theorem rdIdx_len {bs : List UInt8} : ∀ {k at_ : Nat} {q : List Nat × List Nat × Nat}, at_ ≤ bs.length → rdIdx bs k at_ = .ok q → at_ ≤ q.2.2 ∧ q.2.2 ≤ bs.length ∧ q.1.length = k ∧ q.2.1.length = k
  | 0, at_, q, hl, h => by injection h with h; subst h; exact ⟨Nat.le_refl _, hl, rfl, rfl⟩
  | k + 1, at_, q, hl, h => by
    obtain ⟨x, nx, q', h1, h2, rfl⟩ := rdIdx_ok h
    have a := rdAt_len h1
    have b := rdIdx_len a.2.1 h2
    simp only [List.length_cons] at *
    omega
theorem rdRows_ok {bs : List UInt8} {nodes begin_ k at_ : Nat} {v : Int} {q : List (List Int) × List Nat × Nat} (h : rdRows bs nodes begin_ (k + 1) v at_ = .ok q) : ∃ l nx q', rdRow bs nodes at_ v = .ok (l, nx) ∧ rdRows bs nodes begin_ k (v + 1) nx = .ok q' ∧ q = (l :: q'.1, (at_ - begin_) :: q'.2.1, q'.2.2) := by
  rw [rdRows] at h
  cases e : rdRow bs nodes at_ v with
  | error b => rw [e] at h; simp at h
  | ok r =>
    rw [e] at h
    simp only at h
    cases e2 : rdRows bs nodes begin_ k (v + 1) r.2 with
    | error b => rw [e2] at h; simp at h
    | ok q' =>
      rw [e2] at h
      injection h with h
      exact ⟨r.1, r.2, q', rfl, e2, h.symm⟩
theorem rdRows_mk {bs : List UInt8} {nodes begin_ k at_ nx : Nat} {v : Int} {l : List Int} {q' : List (List Int) × List Nat × Nat} (h1 : rdRow bs nodes at_ v = .ok (l, nx)) (h2 : rdRows bs nodes begin_ k (v + 1) nx = .ok q') : rdRows bs nodes begin_ (k + 1) v at_ = .ok (l :: q'.1, (at_ - begin_) :: q'.2.1, q'.2.2) := by
  rw [rdRows, h1]; simp only; rw [h2]
theorem rdRows_more {bs : List UInt8} (t : List UInt8) {nodes begin_ : Nat} : ∀ {k at_ : Nat} {v : Int} {q : List (List Int) × List Nat × Nat}, rdRows bs nodes begin_ k v at_ = .ok q → rdRows (bs ++ t) nodes begin_ k v at_ = .ok q
  | 0, _, _, _, h => h
  | k + 1, at_, v, q, h => by
    obtain ⟨x, nx, q', h1, h2, rfl⟩ := rdRows_ok h
    exact rdRows_mk (rdRow_more t h1) (rdRows_more t h2)
theorem rdRows_len {bs : List UInt8} {nodes begin_ : Nat} : ∀ {k at_ : Nat} {v : Int} {q : List (List Int) × List Nat × Nat}, at_ ≤ bs.length → rdRows bs nodes begin_ k v at_ = .ok q → at_ ≤ q.2.2 ∧ q.2.2 ≤ bs.length ∧ q.1.length = k ∧ q.2.1.length = k
  | 0, at_, v, q, hl, h => by injection h with h; subst h; exact ⟨Nat.le_refl _, hl, rfl, rfl⟩
  | k + 1, at_, v, q, hl, h => by
    obtain ⟨x, nx, q', h1, h2, rfl⟩ := rdRows_ok h
    have a := rdRow_len h1
    have b := rdRows_len a.2.1 h2
    simp only [List.length_cons] at *
    omega
theorem rdHead_ok {bs : List UInt8} {nodes : Nat} {q : Nat × Nat × Nat} (h : rdHead bs nodes = .ok q) : ∃ a mid b nx, rdAt bs 0 = .ok (a, mid) ∧ rdAt bs mid = .ok (b, nx) ∧ ¬ (b < 1 ∨ a > nodes ∨ b > nodes - a) ∧ q = (a, b, nx) := by
  unfold rdHead at h
  cases e : rdAt bs 0 with
  | error b => rw [e] at h; simp at h
  | ok a =>
    rw [e] at h
    simp only at h
    cases e2 : rdAt bs a.2 with
    | error b => rw [e2] at h; simp at h
    | ok b =>
      rw [e2] at h
      simp only at h
      split at h
      · simp at h
      · rename_i hb
        injection h with h
        exact ⟨a.1, a.2, b.1, b.2, rfl, e2, hb, h.symm⟩
theorem rdHead_mk {bs : List UInt8} {nodes a mid b nx : Nat} (h1 : rdAt bs 0 = .ok (a, mid)) (h2 : rdAt bs mid = .ok (b, nx)) (h3 : ¬ (b < 1 ∨ a > nodes ∨ b > nodes - a)) : rdHead bs nodes = .ok (a, b, nx) := by
  unfold rdHead; rw [h1]; simp only; rw [h2]; simp only; rw [if_neg h3]
theorem rdHead_more {bs : List UInt8} (t : List UInt8) {nodes : Nat} {q : Nat × Nat × Nat} (h : rdHead bs nodes = .ok q) : rdHead (bs ++ t) nodes = .ok q := by
  obtain ⟨a, mid, b, nx, h1, h2, h3, rfl⟩ := rdHead_ok h
  exact rdHead_mk (rdAt_more t h1) (rdAt_more t h2) h3
theorem rdCore_ok {bs : List UInt8} {nodes : Nat} {q : Nat × List (List Int) × Nat} (h : rdCore bs nodes = .ok q) : ∃ hd x r, rdHead bs nodes = .ok hd ∧ rdIdx bs ((hd.2.1 + 7) / 8) hd.2.2 = .ok x ∧ rdRows bs nodes x.2.2 hd.2.1 hd.1 x.2.2 = .ok r ∧ chk r.2.1 x.1 x.2.1 0 = none ∧ q = (hd.1, r.1, r.2.2) := by
  unfold rdCore at h
  cases e : rdHead bs nodes with
  | error b => rw [e] at h; simp at h
  | ok hd =>
    rw [e] at h
    simp only at h
    cases e2 : rdIdx bs ((hd.2.1 + 7) / 8) hd.2.2 with
    | error b => rw [e2] at h; simp at h
    | ok x =>
      rw [e2] at h
      simp only at h
      cases e3 : rdRows bs nodes x.2.2 hd.2.1 hd.1 x.2.2 with
      | error b => rw [e3] at h; simp at h
      | ok r =>
        rw [e3] at h
        simp only at h
        cases e4 : chk r.2.1 x.1 x.2.1 0 with
        | some p => rw [e4] at h; simp at h
        | none =>
          rw [e4] at h
          injection h with h
          exact ⟨hd, x, r, rfl, e2, e3, e4, h.symm⟩
theorem rdCore_mk {bs : List UInt8} {nodes : Nat} {hd : Nat × Nat × Nat} {x : List Nat × List Nat × Nat} {r : List (List Int) × List Nat × Nat} (h1 : rdHead bs nodes = .ok hd) (h2 : rdIdx bs ((hd.2.1 + 7) / 8) hd.2.2 = .ok x) (h3 : rdRows bs nodes x.2.2 hd.2.1 hd.1 x.2.2 = .ok r) (h4 : chk r.2.1 x.1 x.2.1 0 = none) : rdCore bs nodes = .ok (hd.1, r.1, r.2.2) := by
  unfold rdCore; rw [h1]; simp only; rw [h2]; simp only; rw [h3]; simp only; rw [h4]
theorem rdCore_more {bs : List UInt8} (t : List UInt8) {nodes : Nat} {q : Nat × List (List Int) × Nat} (h : rdCore bs nodes = .ok q) : rdCore (bs ++ t) nodes = .ok q := by
  obtain ⟨hd, x, r, h1, h2, h3, h4, rfl⟩ := rdCore_ok h
  exact rdCore_mk (rdHead_more t h1) (rdIdx_more t h2) (rdRows_more t h3) h4
theorem rdCore_len {bs : List UInt8} {nodes : Nat} {q : Nat × List (List Int) × Nat} (h : rdCore bs nodes = .ok q) : q.2.2 ≤ bs.length := by
  obtain ⟨hd, x, r, h1, h2, h3, h4, rfl⟩ := rdCore_ok h
  obtain ⟨a, mid, b, nx, g1, g2, g3, rfl⟩ := rdHead_ok h1
  have a1 := (rdAt_len g2).2.1
  have a2 := rdIdx_len a1 h2
  exact (rdRows_len a2.2.1 h3).2.1
/-- bytes of a shard that are cut are none's -/
theorem rdShard_cut {bs : List UInt8} {nodes : Nat} {q : Nat × List (List Int)} (h : rdShard bs nodes = .ok q) (k : Nat) (hk : k < bs.length) (q' : Nat × List (List Int)) : rdShard (bs.take k) nodes ≠ .ok q' := by
  intro h'
  unfold rdShard at h h'
  cases e : rdCore (bs.take k) nodes with
  | error b => rw [e] at h'; simp at h'
  | ok r =>
    rw [e] at h'
    simp only at h'
    split at h'
    · simp at h'
    · rename_i hz
      have hm := rdCore_more (bs.drop k) e
      rw [List.take_append_drop] at hm
      rw [hm] at h
      simp only at h
      have hl := rdCore_len e
      rw [List.length_take] at hz hl
      rw [if_pos (by omega)] at h
      simp at h
theorem rdIdx_put : ∀ (M : List Nat) (a t : List UInt8), (∀ x ∈ M, x < 128 ^ 8) → ∃ ps, ps.length = M.length ∧ rdIdx (a ++ idxB M ++ t) M.length a.length = .ok (M, ps, a.length + (idxB M).length)
  | [], a, t, _ => ⟨[], rfl, by simp [rdIdx, idxB]⟩
  | x :: M, a, t, h => by
    obtain ⟨ps, hp, ih⟩ := rdIdx_put M (a ++ shB x) t (fun y hy => h y (List.mem_cons_of_mem _ hy))
    have e1 := rdAt_put a (idxB M ++ t) x (h x (List.mem_cons_self ..))
    have e : a ++ idxB (x :: M) ++ t = a ++ shB x ++ (idxB M ++ t) := by simp [idxB]
    rw [show a ++ shB x ++ idxB M ++ t = a ++ shB x ++ (idxB M ++ t) by simp, List.length_append] at ih
    refine ⟨a.length :: ps, by simp [hp], ?_⟩
    rw [e, List.length_cons, rdIdx_mk e1 ih]
    simp only [idxB, List.flatMap_cons, List.length_append]
    rw [Nat.add_assoc]
theorem rdRows_put (t : Int → List Int) (nodes : Nat) (hN : nodes ≤ 4096) (ht : ∀ v : Int, 0 ≤ v ∧ v < nodes → (∀ x ∈ t v, 0 ≤ x ∧ x < nodes) ∧ (t v).Pairwise (· < ·) ∧ (t v).length ≤ nodes) (b : Nat) : ∀ (k : Nat) (v : Int) (a s : List UInt8), 0 ≤ v → v + k ≤ nodes → b ≤ a.length →
    rdRows (a ++ rowsB t v k ++ s) nodes b k v a.length = .ok ((List.range k).map (fun i => t (v + (i : Nat))), (List.range k).map (fun i => a.length - b + (rowsB t v i).length), a.length + (rowsB t v k).length)
  | 0, v, a, s, _, _, _ => by simp [rdRows, rowsB]
  | k + 1, v, a, s, hv, hk, hb => by
    obtain ⟨g1, g2, g3⟩ := ht v ⟨hv, by omega⟩
    have e1 := rdRow_gapB nodes hN v ⟨hv, by omega⟩ (t v) g1 g2 g3 a (rowsB t (v + 1) k ++ s)
    have ih := rdRows_put t nodes hN ht b k (v + 1) (a ++ gapB v (t v)) s (by omega) (by omega) (by rw [List.length_append]; omega)
    have e : a ++ rowsB t v (k + 1) ++ s = a ++ gapB v (t v) ++ (rowsB t (v + 1) k ++ s) := by simp [rowsB]
    rw [show a ++ gapB v (t v) ++ rowsB t (v + 1) k ++ s = a ++ gapB v (t v) ++ (rowsB t (v + 1) k ++ s) by simp, List.length_append] at ih
    rw [e, rdRows_mk e1 ih, List.range_succ_eq_map]
    simp only [List.map_cons, List.map_map, rowsB, List.length_append]
    congr 2
    · congr 1
      · simp
      · refine List.map_congr_left fun i _ => ?_
        show t (v + 1 + (i : Nat)) = t (v + ((i + 1 : Nat) : Int))
        congr 1; omega
    · congr 1
      · congr 1
        refine List.map_congr_left fun i _ => ?_
        · show a.length + (gapB v (t v)).length - b + (rowsB t (v + 1) i).length = a.length - b + (rowsB t v (i + 1)).length
          rw [rowsB, List.length_append]; omega
      · omega
theorem chk_all (begins : List Nat) : ∀ (ms ps : List Nat) (i : Nat), (∀ j, j < ms.length → ms.getD j 0 = begins.getD (8 * (i + j)) 0) → chk begins ms ps i = none
  | [], _, _, _ => by unfold chk; rfl
  | m :: ms, [], _, _ => by unfold chk; rfl
  | m :: ms, p :: ps, i, h => by
    have h0 := h 0 (by simp)
    unfold chk
    rw [if_pos (by simpa using h0)]
    refine chk_all begins ms ps (i + 1) fun j hj => ?_
    have := h (j + 1) (by simpa using hj)
    rw [show 8 * (i + 1 + j) = 8 * (i + (j + 1)) by omega]
    simpa using this
theorem getD_map (f : Nat → Nat) (n j : Nat) (h : j < n) : ((List.range n).map f).getD j 0 = f j := by
  rw [List.getD_eq_getElem?_getD, List.getElem?_map, List.getElem?_range h]; rfl
theorem shB_len {x : Nat} (h : x < 16384) : (shB x).length ≤ 2 := by
  by_cases h1 : x < 128
  · rw [shB_lt h1]; simp
  · rw [shB_ge h1, shB_lt (by omega)]; simp
theorem gaps_le (nodes : Nat) (hN : nodes ≤ 4096) : ∀ (r : List Int) (now : Int), 0 ≤ now → (∀ x ∈ r, 0 ≤ x ∧ x < nodes) → (gaps now r).length ≤ 2 * r.length
  | [], _, _, _ => by simp [gaps]
  | x :: r, now, h0, h => by
    have hx := h x (List.mem_cons_self ..)
    have ih := gaps_le nodes hN r x hx.1 (fun y hy => h y (List.mem_cons_of_mem _ hy))
    have := shB_len (x := (x - now - 1).toNat) (by omega)
    rw [gaps, List.length_append, List.length_cons]
    omega
theorem gapB_le (nodes : Nat) (hN : nodes ≤ 4096) (v : Int) (hv : 0 ≤ v ∧ v < nodes) (l : List Int) (h : ∀ x ∈ l, 0 ≤ x ∧ x < nodes) (hl : l.length ≤ nodes) : (gapB v l).length ≤ 2 + 2 * l.length := by
  have h1 := shB_len (x := l.length) (by omega)
  cases l with
  | nil => simpa [gapB] using h1
  | cons x r =>
    have hx := h x (List.mem_cons_self ..)
    have h2 := shB_len (x := turn (x - v)) (by unfold turn; split <;> omega)
    have h3 := gaps_le nodes hN r x hx.1 (fun y hy => h y (List.mem_cons_of_mem _ hy))
    rw [gapB, List.length_append]
    simp only [List.length_append, List.length_cons] at *
    omega
theorem rowsB_le (t : Int → List Int) (nodes : Nat) (hN : nodes ≤ 4096) (ht : ∀ v : Int, 0 ≤ v ∧ v < nodes → (∀ x ∈ t v, 0 ≤ x ∧ x < nodes) ∧ (t v).Pairwise (· < ·) ∧ (t v).length ≤ nodes) : ∀ (k : Nat) (v : Int), 0 ≤ v → v + k ≤ nodes → (rowsB t v k).length ≤ k * 8194
  | 0, v, _, _ => by simp [rowsB]
  | k + 1, v, hv, hk => by
    obtain ⟨g1, g2, g3⟩ := ht v ⟨hv, by omega⟩
    have a := gapB_le nodes hN v ⟨hv, by omega⟩ (t v) g1 g3
    have b := rowsB_le t nodes hN ht k (v + 1) (by omega) (by omega)
    rw [rowsB, List.length_append, Nat.add_mul]
    omega
/-- what was written for a shard is read as it -/
theorem rdShard_put (t : Int → List Int) (nodes : Nat) (hN : nodes ≤ 4096) (ht : ∀ v : Int, 0 ≤ v ∧ v < nodes → (∀ x ∈ t v, 0 ≤ x ∧ x < nodes) ∧ (t v).Pairwise (· < ·) ∧ (t v).length ≤ nodes) (first many : Nat) (h1 : 1 ≤ many) (h2 : first + many ≤ nodes) :
    rdShard (shardB t first many) nodes = .ok (first, (List.range many).map fun i => t ((first : Int) + (i : Nat))) := by
  have e1 := rdAt_put [] (shB many ++ idxB (marksOf t first many) ++ rowsB t first many) first (small (by omega))
  have e2 := rdAt_put (shB first) (idxB (marksOf t first many) ++ rowsB t first many) many (small (by omega))
  simp only [List.nil_append, List.length_nil, Nat.zero_add] at e1
  have hh := rdHead_mk (nodes := nodes) (bs := shardB t first many) (by rw [← e1]; simp [shardB]) (by rw [← e2]; simp [shardB]) (by omega)
  have hml := marksOf_len t first many
  have hbig : ∀ x ∈ marksOf t first many, x < 128 ^ 8 := by
    intro x hx
    unfold marksOf at hx
    obtain ⟨i, hi, rfl⟩ := List.mem_map.1 hx
    have hi := List.mem_range.1 hi
    have := rowsB_le t nodes hN ht (8 * i) first (by omega) (by omega)
    have : (rowsB t first (8 * i)).length ≤ 4096 * 8194 := Nat.le_trans this (Nat.mul_le_mul_right _ (by omega))
    exact Nat.lt_of_le_of_lt this (by decide)
  obtain ⟨ps, hps, hi⟩ := rdIdx_put (marksOf t first many) (shB first ++ shB many) (rowsB t first many) hbig
  rw [hml] at hi
  have hr := rdRows_put t nodes hN ht (shB first ++ shB many ++ idxB (marksOf t first many)).length many first (shB first ++ shB many ++ idxB (marksOf t first many)) [] (by omega) (by omega) (Nat.le_refl _)
  rw [List.append_nil] at hr
  have hb : shardB t first many = shB first ++ shB many ++ idxB (marksOf t first many) ++ rowsB t first many := rfl
  have hl : (shB first).length + (shB many).length = (shB first ++ shB many).length := (List.length_append ..).symm
  have hl2 : (shB first ++ shB many).length + (idxB (marksOf t first many)).length = (shB first ++ shB many ++ idxB (marksOf t first many)).length := (List.length_append ..).symm
  rw [hl2] at hi
  have hcore := rdCore_mk (bs := shardB t first many) (nodes := nodes) hh (by rw [hl]; exact hi) (by simp only; exact hr) (by
    refine chk_all _ _ _ _ fun j hj => ?_
    rw [hml] at hj
    rw [Nat.zero_add, getD_map _ _ _ (by omega)]
    unfold marksOf
    rw [getD_map _ _ _ hj]
    omega)
  unfold rdShard
  rw [hcore]
  simp only
  rw [if_neg (by rw [hb, List.length_append (bs := rowsB t first many)]; omega)]
end Go.Proofs.YtjokfllldcjheaaGreatDoor.Oc
