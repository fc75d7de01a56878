/- The reference's words and its first state: what its K and its H hand back. -/
import Derived.Test.YtmhjocbnoppbbaaDoorRefK2
namespace Go.Proofs.YtmhjocbnoppbbaaDoor.Ref
open Go.RowKit Go.Proofs.YtmhjocbnoppbbaaDoorW.PrintWords Go.Proofs.YtmhjocbnoppbbaaDoorW.PrintLast Go.Proofs.YtmhjocbnoppbbaaDoorW.PrintMore
set_option linter.unusedVariables false
set_option linter.unusedSimpArgs false
theorem leO_le {α : Type} {f : Nat → Option α} (h : ∀ k, LeO (f k) (f (k + 1))) {a b : Nat} (hab : a ≤ b) : LeO (f a) (f b) := by
  induction b with
  | zero => obtain rfl : a = 0 := by omega
            exact fun r hr => hr
  | succ b ih =>
    by_cases e : a = b + 1
    · subst e; exact fun r hr => hr
    · exact fun r hr => h b r (ih (by omega) r hr)
theorem wrap_small (i : Nat) (h : i < 1000) : wrap64 ((i : Int) + 1) = ((i + 1 : Nat) : Int) := by
  unfold wrap64; omega
theorem rd_nat (xs : List Int) (i : Nat) : rd xs (i : Int) = xs.getD i 0 := by simp [rd]
theorem PR_length : PR.length = 64 := by decide
def KI : List Int := Sha.K64.map fun x : Nat => (x : Int)
def HI : List Int := Sha.H8.map fun x : Nat => (x : Int)
theorem KI_length : KI.length = 64 := by decide
theorem HI_length : HI.length = 8 := by decide
theorem KI_getD (i : Nat) (h : i < 64) : KI.getD i 0 = ((Sha.K64.getD i 0 : Nat) : Int) := by
  have : i < Sha.K64.length := by rw [Sha.K64_length]; exact h
  simp [KI, List.getD_eq_getElem?_getD, this]
theorem HI_getD (i : Nat) (h : i < 8) : HI.getD i 0 = ((Sha.H8.getD i 0 : Nat) : Int) := by
  have : i < Sha.H8.length := h
  simp [HI, List.getD_eq_getElem?_getD, this]
theorem take_snoc {xs : List Int} {i : Nat} (h : i < xs.length) : xs.take i ++ [xs.getD i 0] = xs.take (i + 1) := by
  rw [List.take_succ_eq_append_getElem h]
  simp [List.getD_eq_getElem?_getD, h]
theorem K_loop : ∀ n i k, i + n = 64 → 151 + n ≤ k → ladingref02_K.l0 k (KI.take i) PR (i : Int) = some KI
  | 0, i, k, hi, hk => by
    obtain ⟨k, rfl⟩ : ∃ m, k = m + 1 := ⟨k - 1, by omega⟩
    obtain rfl : i = 64 := by omega
    unfold ladingref02_K.l0
    rw [if_neg (by decide), List.take_of_length_le (by rw [KI_length]; exact Nat.le_refl _)]
  | n + 1, i, k, hi, hk => by
    obtain ⟨k, rfl⟩ : ∃ m, k = m + 1 := ⟨k - 1, by omega⟩
    unfold ladingref02_K.l0
    rw [if_pos (by omega), if_pos (by omega), if_pos (by rw [PR_length]; omega), rd_nat, leO_le (fun k => ladingref02_broken.mono _ _ k) (show 150 ≤ k by omega) _ (root64 i (by omega))]
    simp only [Option.bind_some]
    rw [if_pos (by rw [List.length_take]; omega), wrap_small i (by omega), ← KI_getD i (by omega), take_snoc (by rw [KI_length]; omega)]
    exact K_loop n (i + 1) k (by omega) (by omega)
theorem K_val : ladingref02_K.f 12000 = some KI := by
  unfold ladingref02_K.f
  rw [pr64, Option.bind_some]
  have h := K_loop 64 0 12000 (by omega) (by omega)
  rw [List.take_zero, show ((0 : Nat) : Int) = 0 from rfl] at h
  exact h
theorem H_loop : ∀ n i k, i + n = 8 → 151 + n ≤ k → ladingref02_H.l0 k (HI.take i) (PR.take 8) (i : Int) = some HI
  | 0, i, k, hi, hk => by
    obtain ⟨k, rfl⟩ : ∃ m, k = m + 1 := ⟨k - 1, by omega⟩
    obtain rfl : i = 8 := by omega
    unfold ladingref02_H.l0
    rw [if_neg (by decide), List.take_of_length_le (by rw [HI_length]; exact Nat.le_refl _)]
  | n + 1, i, k, hi, hk => by
    obtain ⟨k, rfl⟩ : ∃ m, k = m + 1 := ⟨k - 1, by omega⟩
    unfold ladingref02_H.l0
    rw [if_pos (by omega), if_pos (by omega), if_pos (by rw [List.length_take, PR_length]; omega), rd_nat, leO_le (fun k => ladingref02_broken.mono _ _ k) (show 150 ≤ k by omega) _ (root8 i (by omega))]
    simp only [Option.bind_some]
    rw [if_pos (by rw [List.length_take]; omega), wrap_small i (by omega), ← HI_getD i (by omega), take_snoc (by rw [HI_length]; omega)]
    exact H_loop n (i + 1) k (by omega) (by omega)
theorem H_val : ladingref02_H.f 12000 = some HI := by
  unfold ladingref02_H.f
  rw [pr8, Option.bind_some]
  have h := H_loop 8 0 12000 (by omega) (by omega)
  rw [List.take_zero, show ((0 : Nat) : Int) = 0 from rfl] at h
  exact h

/-- v is a slice that reads as the numbers xs -/
def NR (w : World) (b : Nat) (v : Value) (xs : List Nat) : Prop :=
  ∃ g c, v = .slice (some ⟨g, 0, none⟩) xs.length c ∧ b ≤ g ∧ g < w.heap.size ∧ ∀ i, i < xs.length → w.cell? ⟨g, i, none⟩ = some (.int .i64 ((xs.getD i 0 : Nat) : Int))
theorem NR.later {w w' : World} {b : Nat} {v : Value} {xs : List Nat} (h : NR w b v xs) (hb : Below w.heap.size w w') : NR w' b v xs := by
  obtain ⟨g, c, hv, h2, h3, h4⟩ := h
  exact ⟨g, c, hv, h2, Nat.lt_of_lt_of_le h3 hb.size, fun i hi => (hb.cell (p := ⟨g, i, none⟩) h3).trans (h4 i hi)⟩
theorem NR.of_R {w w0 : World} {v : Value} {xs : List Nat} (hx : 0 < xs.length) (h : Kd.R (Kd.int .i64) 3 w w0.heap.size (fun _ => True) v (xs.map fun x : Nat => (x : Int))) : NR w w0.heap.size v xs := by
  obtain ⟨g, c, hv, hb, hl, -⟩ := Kd.R_form h (by simpa using hx)
  subst hv
  refine ⟨g, c, by simp, hb, hl, fun i hi => ?_⟩
  have hc := (Kd.R_celln 0 h (i : Int) (by omega) (by simpa using hi)).1
  simpa [rdOf, hi] using hc
theorem K_calls (w : World) : Calls Tryd.prog 43 #[] w fun e w' => ∃ v, e = .returned v ∧ Hid (NR w' w.heap.size v Sha.K64) ∧ Hid (Below w.heap.size w w') :=
  (ladingref02_K.calls 12000 KI w K_val).mono fun _ _ ⟨v, he, h1, h2⟩ => ⟨v, he, NR.of_R (by decide) h1, h2⟩
theorem H_calls (w : World) : Calls Tryd.prog 44 #[] w fun e w' => ∃ v, e = .returned v ∧ Hid (NR w' w.heap.size v Sha.H8) ∧ Hid (Below w.heap.size w w') :=
  (ladingref02_H.calls 12000 HI w H_val).mono fun _ _ ⟨v, he, h1, h2⟩ => ⟨v, he, NR.of_R (by decide) h1, h2⟩
end Go.Proofs.YtmhjocbnoppbbaaDoor.Ref
