/- octet: short numbers as bytes, in plain words. -/
import Derived.WalkKit
namespace Go.Proofs.Ytjokfllldcjheaa.Oc
set_option linter.unusedVariables false
set_option linter.unusedSimpArgs false
/-- a short number's bytes -/
def shB (x : Nat) : List UInt8 := if h : x < 128 then [UInt8.ofNat x] else UInt8.ofNat (x % 128 + 128) :: shB (x / 128)
termination_by x
decreasing_by omega
theorem shB_lt {x : Nat} (h : x < 128) : shB x = [UInt8.ofNat x] := by rw [shB, dif_pos h]
theorem shB_ge {x : Nat} (h : ¬ x < 128) : shB x = UInt8.ofNat (x % 128 + 128) :: shB (x / 128) := by rw [shB, dif_neg h]
theorem shB_pos (x : Nat) : 0 < (shB x).length := by
  by_cases h : x < 128
  · rw [shB_lt h]; simp
  · rw [shB_ge h]; simp
/-- what reading a short number tells: the number, how many bytes; or the error's number -/
def rd : List UInt8 → Nat → Nat → Except Nat (Nat × Nat)
  | [], _, _ => .error 3
  | c :: r, i, x =>
    if 128 ≤ c.toNat then (if i = 7 then .error 4 else rd r (i + 1) (x + c.toNat % 128 * 128 ^ i))
    else if c.toNat = 0 ∧ 0 < i then .error 4 else .ok (x + c.toNat * 128 ^ i, i + 1)
theorem rd_go {c : UInt8} {r : List UInt8} {i x : Nat} (h : 128 ≤ c.toNat) (h7 : i ≠ 7) : rd (c :: r) i x = rd r (i + 1) (x + c.toNat % 128 * 128 ^ i) := by rw [rd, if_pos h, if_neg h7]
theorem rd_seven {c : UInt8} {r : List UInt8} {x : Nat} (h : 128 ≤ c.toNat) : rd (c :: r) 7 x = .error 4 := by rw [rd, if_pos h, if_pos rfl]
theorem rd_nought {c : UInt8} {r : List UInt8} {i x : Nat} (h : c.toNat = 0) (hi : 0 < i) : rd (c :: r) i x = .error 4 := by rw [rd, if_neg (by omega), if_pos ⟨h, hi⟩]
theorem rd_last {c : UInt8} {r : List UInt8} {i x : Nat} (h : c.toNat < 128) (hi : ¬ (c.toNat = 0 ∧ 0 < i)) : rd (c :: r) i x = .ok (x + c.toNat * 128 ^ i, i + 1) := by rw [rd, if_neg (by omega), if_neg hi]
/-- what was read is read of more bytes, too -/
theorem rd_more : ∀ (bs t : List UInt8) (i x : Nat) (r : Nat × Nat), rd bs i x = .ok r → rd (bs ++ t) i x = .ok r
  | [], t, i, x, r, h => by simp [rd] at h
  | c :: bs, t, i, x, r, h => by
    rw [List.cons_append]
    by_cases h1 : 128 ≤ c.toNat
    · by_cases h7 : i = 7
      · subst h7; rw [rd_seven h1] at h; simp at h
      · rw [rd_go h1 h7] at h ⊢
        exact rd_more bs t _ _ r h
    · by_cases h0 : c.toNat = 0 ∧ 0 < i
      · rw [rd_nought h0.1 h0.2] at h; simp at h
      · rw [rd_last (by omega) h0] at h ⊢; exact h
/-- how many bytes it has read -/
theorem rd_len : ∀ (bs : List UInt8) (i x : Nat) (r : Nat × Nat), rd bs i x = .ok r → i < r.2 ∧ r.2 ≤ i + bs.length
  | [], i, x, r, h => by simp [rd] at h
  | c :: bs, i, x, r, h => by
    by_cases h1 : 128 ≤ c.toNat
    · by_cases h7 : i = 7
      · subst h7; rw [rd_seven h1] at h; simp at h
      · rw [rd_go h1 h7] at h
        have := rd_len bs _ _ r h
        simp only [List.length_cons]
        omega
    · by_cases h0 : c.toNat = 0 ∧ 0 < i
      · rw [rd_nought h0.1 h0.2] at h; simp at h
      · rw [rd_last (by omega) h0] at h
        injection h with h
        subst h
        simp only [List.length_cons]
        omega
theorem ofNat_toNat {x : Nat} (h : x < 256) : (UInt8.ofNat x).toNat = x := by
  simp [UInt8.toNat_ofNat']; omega
/-- a number's bytes are read as that number -/
theorem rd_shB : ∀ (x : Nat) (t : List UInt8) (i y : Nat), x < 128 ^ (8 - i) → i ≤ 7 → (x = 0 → i = 0) → rd (shB x ++ t) i y = .ok (y + x * 128 ^ i, i + (shB x).length) := by
  intro x
  induction x using Nat.strongRecOn with
  | ind x ih =>
    intro t i y hx hi h0
    by_cases h : x < 128
    · rw [shB_lt h]
      have e := ofNat_toNat (show x < 256 by omega)
      rw [List.cons_append, List.nil_append, rd_last (by rw [e]; exact h) (by rw [e]; rintro ⟨a, b⟩; have := h0 a; omega), e]
      rfl
    · rw [shB_ge h]
      have e := ofNat_toNat (show x % 128 + 128 < 256 by omega)
      have h7 : i ≠ 7 := fun h7 => by subst h7; simp at hx; omega
      have hp : (128 : Nat) ^ (8 - i) = 128 * 128 ^ (8 - (i + 1)) := by rw [show 8 - i = (8 - (i + 1)) + 1 by omega, Nat.pow_succ, Nat.mul_comm]
      rw [List.cons_append, rd_go (by rw [e]; omega) h7, ih (x / 128) (by omega) t (i + 1) _ (by rw [hp] at hx; exact Nat.div_lt_of_lt_mul hx) (by omega) (fun h => by omega), e]
      congr 2
      · rw [Nat.pow_succ, show (x % 128 + 128) % 128 = x % 128 by omega]
        have := Nat.div_add_mod x 128
        generalize 128 ^ i = p at *
        calc y + x % 128 * p + x / 128 * (p * 128) = y + (128 * (x / 128) + x % 128) * p := by
              rw [Nat.add_mul, show x / 128 * (p * 128) = 128 * (x / 128) * p by rw [Nat.mul_comm p 128, ← Nat.mul_assoc, Nat.mul_comm (x / 128) 128]]; omega
          _ = y + x * p := by rw [this]
      · simp only [List.length_cons]; omega
theorem rd_put (x : Nat) (t : List UInt8) (hx : x < 128 ^ 8) : rd (shB x ++ t) 0 0 = .ok (x, (shB x).length) := by
  have := rd_shB x t 0 0 (by simpa using hx) (by omega) (fun _ => rfl)
  simpa using this
theorem rd_bound : ∀ (bs : List UInt8) (i x : Nat) (r : Nat × Nat), rd bs i x = .ok r → i ≤ 7 → x < 128 ^ i → r.1 < 128 ^ 8
  | [], i, x, r, h, _, _ => by simp [rd] at h
  | c :: bs, i, x, r, h, hi, hx => by
    have hp : (128 : Nat) ^ (i + 1) = 128 * 128 ^ i := by rw [Nat.pow_succ, Nat.mul_comm]
    have hc : c.toNat % 128 ≤ 127 := by omega
    have hm : c.toNat % 128 * 128 ^ i ≤ 127 * 128 ^ i := Nat.mul_le_mul_right _ hc
    by_cases h1 : 128 ≤ c.toNat
    · by_cases h7 : i = 7
      · subst h7; rw [rd_seven h1] at h; simp at h
      · rw [rd_go h1 h7] at h
        exact rd_bound bs _ _ r h (by omega) (by rw [hp]; omega)
    · by_cases h0 : c.toNat = 0 ∧ 0 < i
      · rw [rd_nought h0.1 h0.2] at h; simp at h
      · rw [rd_last (by omega) h0] at h
        injection h with h
        subst h
        have e : c.toNat % 128 = c.toNat := by omega
        rw [e] at hm
        have : (128 : Nat) ^ (i + 1) ≤ 128 ^ 8 := Nat.pow_le_pow_right (by omega) (by omega)
        show x + c.toNat * 128 ^ i < 128 ^ 8
        omega
/-- turned numbers: what is written for one -/
def turn (x : Int) : Nat := if x < 0 then (-2 * x - 1).toNat else (2 * x).toNat
def back (x : Nat) : Int := if x % 2 = 1 then -((x / 2 : Nat) : Int) - 1 else ((x / 2 : Nat) : Int)
theorem back_turn (x : Int) : back (turn x) = x := by
  unfold back turn
  split
  · rw [if_pos (by omega)]; omega
  · rw [if_neg (by omega)]; omega
end Go.Proofs.Ytjokfllldcjheaa.Oc
