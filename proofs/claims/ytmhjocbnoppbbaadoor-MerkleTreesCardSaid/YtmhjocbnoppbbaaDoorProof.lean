/- The method Proof of merkle.Tree: a block's proof. -/
import Derived.Test.YtmhjocbnoppbbaaDoorNew
namespace Go.Proofs.YtmhjocbnoppbbaaDoor.Mk
open Go.RowKit Go.Proofs.YtmhjocbnoppbbaaDoor.Sha
set_option linter.unusedVariables false
set_option linter.unusedSimpArgs false

/-- the digests that prove the i-th leaf within the span (a, n), from the leaf upwards -/
def proofT (ls : List ByteArray) (i a n : Nat) : List ByteArray :=
  if h : n ≤ 1 then [] else if i < a + hb n then proofT ls i a (hb n) ++ [treeR ls (a + hb n) (n - hb n)] else proofT ls i (a + hb n) (n - hb n) ++ [treeR ls a (hb n)]
termination_by n
decreasing_by
  all_goals first | exact hb_lt (by omega) | (have := hb_pos n; omega)
theorem proofT_one (ls : List ByteArray) (i a n : Nat) (h : n ≤ 1) : proofT ls i a n = [] := by rw [proofT, dif_pos h]
theorem proofT_left (ls : List ByteArray) (i a n : Nat) (h : 2 ≤ n) (hi : i < a + hb n) : proofT ls i a n = proofT ls i a (hb n) ++ [treeR ls (a + hb n) (n - hb n)] := by rw [proofT, dif_neg (by omega), if_pos hi]
theorem proofT_right (ls : List ByteArray) (i a n : Nat) (h : 2 ≤ n) (hi : ¬ i < a + hb n) : proofT ls i a n = proofT ls i (a + hb n) (n - hb n) ++ [treeR ls a (hb n)] := by rw [proofT, dif_neg (by omega), if_neg hi]
theorem proofT_length (ls : List ByteArray) (n : Nat) : ∀ i a, (proofT ls i a n).length ≤ n := by
  induction n using Nat.strongRecOn with
  | _ n ih =>
    intro i a
    by_cases h : n ≤ 1
    · rw [proofT_one _ _ _ _ h]; simp
    · have h1 := hb_lt (n := n) (by omega)
      have h2 := hb_pos n
      by_cases hi : i < a + hb n
      · rw [proofT_left _ _ _ _ (by omega) hi]; have := ih (hb n) h1 i a; simp; omega
      · rw [proofT_right _ _ _ _ (by omega) hi]; have := ih (n - hb n) (by omega) i (a + hb n); simp; omega
/-- the span (c, m) is one of those into which (a, n) is split -/
inductive InT : Nat → Nat → Nat → Nat → Prop
  | self (a n : Nat) : InT a n a n
  | left {a n c m : Nat} : 2 ≤ n → InT a (hb n) c m → InT a n c m
  | right {a n c m : Nat} : 2 ≤ n → InT (a + hb n) (n - hb n) c m → InT a n c m
theorem InT.bound {a n c m : Nat} (h : InT a n c m) : 1 ≤ n → a ≤ c ∧ c + m ≤ a + n ∧ 1 ≤ m := by
  induction h with
  | self a n => intro h; omega
  | left h2 _ ih => intro _; have := ih (hb_pos _); have := hb_lt h2; omega
  | right h2 _ ih => intro _; have hl := hb_lt h2; have := ih (by omega); omega
theorem InT.goLeft {a n c m : Nat} (h : InT a n c m) : 2 ≤ m → InT a n c (hb m) := by
  induction h with
  | self a n => intro h2; exact .left h2 (.self _ _)
  | left h2 _ ih => intro h3; exact .left h2 (ih h3)
  | right h2 _ ih => intro h3; exact .right h2 (ih h3)
theorem InT.goRight {a n c m : Nat} (h : InT a n c m) : 2 ≤ m → InT a n (c + hb m) (m - hb m) := by
  induction h with
  | self a n => intro h2; exact .right h2 (.self _ _)
  | left h2 _ ih => intro h3; exact .left h2 (ih h3)
  | right h2 _ ih => intro h3; exact .right h2 (ih h3)
theorem fillF_in (ls : List ByteArray) {a n c m : Nat} (h : InT a n c m) : ∀ f, 1 ≤ n → fillF ls f a n c m = some (treeR ls c m) := by
  induction h with
  | self a n =>
    intro f h1
    by_cases h : n ≤ 1
    · obtain rfl : n = 1 := by omega
      rw [fillF_one, treeR_one, upd_same]
    · rw [fillF_more _ _ _ _ (by omega), upd_same]
  | @left a n c m h2 hin ih =>
    intro f h1
    have hb1 := hin.bound (hb_pos n)
    have hl := hb_lt h2
    have hp := hb_pos n
    rw [fillF_more _ _ _ _ h2, upd_other (by omega), fillF_out _ _ _ _ _ _ (by omega) (by omega)]
    exact ih f hp
  | @right a n c m h2 hin ih =>
    intro f h1
    have hl := hb_lt h2
    have hp := hb_pos n
    have hb1 := hin.bound (by omega)
    rw [fillF_more _ _ _ _ h2, upd_other (by omega)]
    exact ih _ (by omega)
theorem mapOf_in (ss : List ByteArray) {c m : Nat} (h : InT 0 ss.length c m) (hne : ss ≠ []) : mapOf ss c m = some (treeR (leaves ss) c m) := by
  unfold mapOf
  rw [if_neg hne]
  exact fillF_in _ h _ (List.length_pos_iff.2 hne)

theorem OT_lit (w : World) (base : Nat) (hb : base ≤ w.heap.size) (s : ByteArray) : OT (w.alloc (.cells #[.string s] 9)) base (.slice (some ⟨w.heap.size, 0, none⟩) 1 1) [s] :=
  World.ownsRow_lit w #[.string s] 1 hb (by simp only [maxLen]; omega) rfl
theorem OT_append_run {w : World} {base : Nat} {v : Value} {xs : List ByteArray} (HO : OT w base v xs) {g : Nat} {y : Value} {ys : List ByteArray} (HR : SR w g y ys) (ty : TypeId) (hbase : base ≤ w.heap.size) (hl : xs.length + ys.length ≤ 1000000000) :
    ∃ v1 w1, (Builtin.append_ #[22, 22] ty #[v, y]).run Tryd.prog w = .ok v1 w1 ∧ OT w1 base v1 (xs ++ ys) ∧ w.grownBy w1 v.ownBlock := by
  by_cases hp : 0 < ys.length
  · exact OT.append_run HO HR hp ty hbase hl
  · have hy : ys = [] := List.eq_nil_of_length_eq_zero (by omega)
    subst hy
    obtain ⟨i0, hi, hzz⟩ := Option.map_eq_some_iff.1 infoStr
    simp only [Prod.mk.injEq] at hzz
    obtain ⟨hz0, hz1, hz2⟩ := hzz
    obtain ⟨A, c, rfl, h1, h2, h3⟩ := HR
    rcases A with _ | ad
    · refine ⟨v, w, ?_, by simpa using HO, World.grownBy.refl w _⟩
      rcases HO.2 with ⟨rfl, hn⟩ | ⟨g, cap, cur, rfl, _, _, hnc, _⟩
      · simp [Builtin.append_, run_underlying Tryd.underlying22, sizeOf, typeInfo, hi, Builtin.lenOf, Builtin.firstCells]
      · simp [Builtin.append_, run_underlying Tryd.underlying22, sizeOf, typeInfo, hi, Builtin.lenOf, Builtin.firstCells, hnc, storeCells]
    · obtain ⟨v1, w1, hr, k2, k3, _, k5⟩ := run_append_own_at (P := Tryd.prog) w base 22 ty 9 i0 (.string ByteArray.empty) 1 16 Tryd.underlying22 hi hz0 hz1 hz2 rfl (by omega) v xs.length (xs.map Value.string) HO ad 0 c [] rfl (fun j u hu => by simp at hu) (by simp) (by simp only [maxLen]; simp at hl; omega) (by simp at hl; omega) hbase
      refine ⟨v1, w1, hr, ?_, k3⟩
      unfold OT
      rw [List.append_nil]
      simpa using k2
section
variable {ops : Array Oper} {rest : List Oper} {o : Oper} {a : Act} {w : World} {Q : Exit → Act → World → Prop}
theorem OT_append_wp {K : Act → World → Prop} {E : Prop} {base : Nat} {v : Value} {xs : List ByteArray} (HO : OT w base v xs) {g : Nat} {y : Value} {ys : List ByteArray} (HR : SR w g y ys) (hgd : o.guard = none) (s x : Operand)
    (ho : o.op = .call { callee := .builtin .append, args := #[s, x], argTypes := #[22, 22] }) (hs : a.eval s = v) (hx : a.eval x = y)
    (hbase : base ≤ w.heap.size) (hl : xs.length + ys.length ≤ 1000000000)
    (k : ∀ v1 w1, OT w1 base v1 (xs ++ ys) → w.grownBy w1 v.ownBlock → K (a.put o.dst v1) w1) : if Region.wanted o (yielded ops a.tmps) = true then Oper.wp Tryd.prog o a w K Q else E := by
  obtain ⟨v1, w1, hr, k2, k3⟩ := OT_append_run HO HR o.type hbase hl
  exact Sha.append_wp hgd s x _ _ ho hs hx hr (k v1 w1 k2 k3)
end
end Go.Proofs.YtmhjocbnoppbbaaDoor.Mk
