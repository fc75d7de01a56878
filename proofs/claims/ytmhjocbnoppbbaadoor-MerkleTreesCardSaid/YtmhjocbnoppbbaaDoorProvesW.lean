/- The law MerkleProves, walked. -/
import Derived.Test.YtmhjocbnoppbbaaDoorKprf
import Derived.Test.YtmhjocbnoppbbaaDoorKup
import Derived.Test.YtmhjocbnoppbbaaDoorClash
import Derived.Test.YtmhjocbnoppbbaaDoorUpsW
namespace Go.Proofs.YtmhjocbnoppbbaaDoor.Mk
open Go.RowKit Go.Proofs.YtmhjocbnoppbbaaDoor.Sha Go.Proofs.YtmhjocbnoppbbaaDoor.Ref
set_option linter.unusedVariables false
set_option linter.unusedSimpArgs false

theorem greatB_no {ss : List ByteArray} (h : greatB ss = false) : ss.length ≤ 20 ∧ ∀ s ∈ ss, s.size ≤ 100 := by
  unfold greatB at h
  rw [Bool.or_eq_false_iff] at h
  refine ⟨by have := of_decide_eq_false h.1; omega, fun s hs => ?_⟩
  have := List.any_eq_false.1 h.2 s hs
  have h2 : ¬ (100 < s.size) := by simpa using this
  omega
/-! ### an append that hangs on a test -/
theorem wpList_wanted {P : Program} {ops : Array Oper} {rest : List Oper} {o : Oper} {a : Act} {w : World} {Q : Exit → Act → World → Prop} (hw : Region.wanted o (yielded ops a.tmps) = true)
    (h : ∀ K : Act → World → Prop, (∀ a w, wpList P ops Q rest a w → K a w) → o.wp P a w K Q) : wpList P ops Q (o :: rest) a w :=
  wpList_step fun K hK => by rw [if_pos hw]; exact h K hK
theorem append_stepW {P : Program} {ops : Array Oper} {rest : List Oper} {o : Oper} {a : Act} {w : World} {Q : Exit → Act → World → Prop} (hw : Region.wanted o (yielded ops a.tmps) = true) (s x : Operand) (t t' : TypeId)
    (ho : o.op = .call { callee := .builtin .append, args := #[s, x], argTypes := #[t, t'] }) {v y v1 : Value} {w1 : World} (hs : a.eval s = v) (hx : a.eval x = y)
    (hr : (Builtin.append_ #[t, t'] o.type #[v, y]).run P w = .ok v1 w1) (k : wpList P ops Q rest (a.put o.dst v1) w1) : wpList P ops Q (o :: rest) a w := by
  refine wpList_wanted hw fun K hK => ?_
  unfold Oper.wp execOp
  simp only [ho, resolve, invoke, builtin, Sem.run_bind, Sem.run_pure, Result.andThen_ok, List.map_toArray, List.map_cons, List.map_nil, hs, hx, hr]
  exact hK _ _ k
section
variable {ops : Array Oper} {rest : List Oper} {o : Oper} {a : Act} {w : World} {Q : Exit → Act → World → Prop}
theorem PO.appendW_on {base : Nat} {v : Value} {xs : List (ByteArray × ByteArray)} (HO : PO w base v xs) {g : Nat} {y : Value} {ys : List (ByteArray × ByteArray)} (HR : PRd w g y ys) (hp : 0 < ys.length) (hw : Region.wanted o (yielded ops a.tmps) = true) (s x : Operand)
    (ho : o.op = .call { callee := .builtin .append, args := #[s, x], argTypes := #[49, 49] }) (hs : a.eval s = v) (hx : a.eval x = y)
    (hbase : base ≤ w.heap.size) (hl : xs.length + ys.length ≤ 1000000000)
    (k : ∀ v1 w1, PO w1 base v1 (xs ++ ys) → w.grownBy w1 v.ownBlock → wpList Tryd.prog ops Q rest (a.put o.dst v1) w1) : wpList Tryd.prog ops Q (o :: rest) a w := by
  obtain ⟨v1, w1, hr, k2, k3, k5⟩ := PO.append_run HO HR hp o.type hbase hl
  exact append_stepW hw s x _ _ ho hs hx hr (k v1 w1 k2 k3)
end
/-! ### what Check tells -/
theorem checkV_out {root : ByteArray} {i n : Int} {s : ByteArray} {ps : List ByteArray} (h : ¬ (0 ≤ i ∧ i < n ∧ n ≤ 1048576)) : checkV root i n s ps = .iface 39 (.int .i64 2) := by
  unfold checkV; rw [upR_out h]
theorem checkV_in {root : ByteArray} {i n : Nat} {s : ByteArray} {ps : List ByteArray} (h : i < n) (hn : n ≤ 1048576) :
    (checkV root (i : Int) (n : Int) s ps = .nilIface ∧ ps.length = (sidesB i n).length ∧ (∀ p ∈ ps, p.size = 32) ∧ upN (sidesB i n) (leafD s) ps (sidesB i n).length = root) ∨
    (∃ e : Er.Er, checkV root (i : Int) (n : Int) s ps = e.val ∧ e.code = 11 ∧ ∃ t v, e.val = .iface t v) := by
  have hu := upR_in (leaf := leafD s) (ps := ps) h hn
  by_cases hg : ps.length = (sidesB i n).length ∧ (leafD s).size = 32 ∧ (∀ p ∈ ps, p.size = 32)
  · rw [if_pos hg] at hu
    by_cases hd : upN (sidesB i n) (leafD s) ps ps.length = root
    · left
      refine ⟨?_, hg.1, hg.2.2, by rw [← hg.1]; exact hd⟩
      unfold checkV; rw [hu]; simp [hd]
    · right
      refine ⟨.at i (.no 11), ?_, rfl, _, _, rfl⟩
      unfold checkV; rw [hu]; simp [hd, Er.Er.val]
  · rw [if_neg hg] at hu
    right
    refine ⟨.no 11, ?_, rfl, _, _, rfl⟩
    unfold checkV; rw [hu]; rfl
theorem checkV_right {ss : List ByteArray} {i : Nat} (h : i < ss.length) (hn : ss.length ≤ 1048576) : checkV (rootD ss) (i : Int) (ss.length : Int) (ss.getD i ByteArray.empty) (prf ss i) = .nilIface := by
  have hf := prf_fits ss.length ss i rfl
  have hl := prf_leads ss.length ss i rfl h
  have hu := upR_in (leaf := leafD (ss.getD i ByteArray.empty)) (ps := prf ss i) h hn
  rw [if_pos ⟨hf.1, leafD_size _, hf.2⟩, hf.1, hl] at hu
  unfold checkV; rw [hu]; simp
end Go.Proofs.YtmhjocbnoppbbaaDoor.Mk
