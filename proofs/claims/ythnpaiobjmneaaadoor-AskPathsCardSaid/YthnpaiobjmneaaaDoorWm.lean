/- Maps from numbers that the program makes: a set, and a table of times; what a look-up reads, what a store and a delete leave. -/
import Derived.Test.YthnpaiobjmneaaaDoorProg
import Derived.Test.YthnpaiobjmneaaaDoorWp
import Derived.Maps.OwnSet
import Derived.Maps.Ext
import Derived.Lib.SlKeysI
import Derived.Deep.Draws
namespace Go.Proofs.YthnpaiobjmneaaaDoor.Wa
open Go.RowKit Go.Maps
set_option linter.unusedVariables false
set_option linter.unusedSimpArgs false
set_option maxRecDepth 100000

theorem kI : Keyed Tryd.prog 3 := int_keyed Tryd.underlying3
def wfI (i : Int) : Prop := -9223372036854775808 ≤ i ∧ i < 9223372036854775808
theorem wfI_lit {i : Int} (h : wfI i) : (Lit.int .i64 i).wf = true := by
  unfold wfI at h
  simp [Lit.wf, IntKind.min, IntKind.max, IntKind.signed, IntKind.bits]
  omega
theorem keyI {i : Int} (h : wfI i) : keyOf Tryd.prog 3 (.int .i64 i) = some (.int .i64 i) := keyOf_int_mk Tryd.underlying3 (wfI_lit h)
theorem isKey (i : Int) : WideAt.IsKeyLit (.int .i64 i) := by simp [WideAt.IsKeyLit]
theorem ne_lit {i j : Int} (h : i ≠ j) : Lit.int .i64 i ≠ Lit.int .i64 j := fun e => h (by injection e)

theorem own_size {P : Program} {k : TypeId} {R : Value → Option (DataW Unit × List MemPlace)} {w : World} {b n : Nat} {D : DataW Unit} (h : w.ownsMap P k R b n D) : w.ownsMap P k R b (Maps.size D) D := by
  obtain ⟨es, clock, hb, F, hs, rfl⟩ := h
  exact ⟨es, clock, hb, F, by simp [Maps.size, length_sorted], rfl⟩

/-- D's keys are just these numbers -/
structure KeysAre (D : DataW Unit) (M : List Int) : Prop where
  asc : Asc M
  wf : ∀ i ∈ M, wfI i
  has : ∀ i, Maps.has D (.int .i64 i) = decide (i ∈ M)
  size : Maps.size D = M.length
theorem KeysAre.none : KeysAre (.map []) [] := ⟨List.Pairwise.nil, by simp, fun i => by simp [Maps.has], rfl⟩
theorem KeysAre.put {D : DataW Unit} {M : List Int} (h : KeysAre D M) (ht : Tidy D) {i : Int} (hi : wfI i) (d : DataW Unit) : KeysAre (D.put (.int .i64 i) d) (ins i M) := by
  refine ⟨asc_ins h.asc, fun j hj => ?_, fun j => ?_, ?_⟩
  · rcases mem_ins.1 hj with rfl | hj
    · exact hi
    · exact h.wf j hj
  · by_cases e : j = i
    · subst e
      rw [has_put_same ht.isMap (isKey j)]
      simp [mem_ins]
    · rw [has_put_other (ne_lit e), h.has]
      simp [mem_ins, e]
  · rw [size_put ht, h.has, h.size]
    by_cases hm : i ∈ M
    · rw [ins_mem h.asc hm]; simp [hm]
    · rw [len_ins hm]; simp [hm]
theorem KeysAre.del {D : DataW Unit} {M : List Int} (h : KeysAre D M) (ht : Tidy D) (i : Int) : KeysAre (D.del (.int .i64 i)) (del i M) := by
  refine ⟨asc_del h.asc, fun j hj => h.wf j (mem_del.1 hj).1, fun j => ?_, ?_⟩
  · by_cases e : j = i
    · subst e
      rw [has_del_same]
      simp [mem_del]
    · rw [has_del_other (ne_lit e), h.has]
      simp [mem_del, e]
  · have := size_del (k := .int .i64 i) ht
    rw [h.has, h.size] at this
    by_cases hm : i ∈ M
    · have h2 := del_len h.asc hm
      simp [hm] at this
      omega
    · rw [del_not hm]
      simp [hm] at this
      exact this
theorem KeysAre.sorted {P : Program} {k : TypeId} {R : Value → Option (DataW Unit × List MemPlace)} {w : World} {b n : Nat} {D : DataW Unit} {M : List Int} (h : KeysAre D M) (hown : w.ownsMap P k R b n D) (K : Keyed P k) (hk : P.underlying k = some (.int .i64)) {ss : List Int} (hp : ss.Perm (intKeys D)) : ss.mergeSort leI = M := by
  obtain ⟨es, hD, hpw, _⟩ := hown.entries K
  obtain ⟨es', hD', hko⟩ := hown.keysOf
  obtain rfl : es = es' := by rw [hD] at hD'; simpa using hD'
  subst hD
  have hM : M.Perm (intKeys (.map es)) := perm_intKeys hpw (fun p hp => by obtain ⟨v, hv⟩ := hko p hp; obtain ⟨x, _, hx, _⟩ := Maps.keyOf_i64 hk hv; exact ⟨x, hx⟩) (asc_nodup h.asc) (fun x => by rw [h.has x]; simp)
  rw [mergeSort_of_perm_i (hp.trans hM.symm)]
  exact List.mergeSort_of_pairwise (h.asc.imp fun {a b} hab => by simp only [leI, decide_eq_true_eq]; omega)

/-- block b is a table of these numbers' times -/
def IM (w : World) (b : Nat) (A : List Int) (T : Int → Int) : Prop :=
  ∃ D : DataW Unit, w.ownsMap Tryd.prog 3 (plainElem Tryd.prog 3) b A.length D ∧ KeysAre D A ∧ ∀ i ∈ A, wfI (T i) ∧ ∀ z, D.atKey (.int .i64 i) z = .lit (.int .i64 (T i))
section
variable {w w' : World} {b : Nat} {M A : List Int} {T : Int → Int}
theorem IM.asc (h : IM w b A T) : Asc A := by obtain ⟨D, h1, h2, h3⟩ := h; exact h2.asc
theorem IM.wf (h : IM w b A T) : ∀ i ∈ A, wfI i := by obtain ⟨D, h1, h2, h3⟩ := h; exact h2.wf
theorem IM.lt (h : IM w b A T) : b < w.heap.size := by obtain ⟨D, h1, _⟩ := h; exact h1.lt
theorem own_other {P : Program} {k : TypeId} {R : Value → Option (DataW Unit × List MemPlace)} {n : Nat} {D : DataW Unit} (h : w.ownsMap P k R b n D) (e : w'.heap[b]? = w.heap[b]?) : w'.ownsMap P k R b n D := by
  obtain ⟨es, clock, hb, r⟩ := h
  exact ⟨es, clock, e.trans hb, r⟩
theorem IM.other (h : IM w b A T) (e : w'.heap[b]? = w.heap[b]?) : IM w' b A T := by obtain ⟨D, h1, h2⟩ := h; exact ⟨D, own_other h1 e, h2⟩
theorem IM.later (h : IM w b A T) (hb : Below w.heap.size w w') : IM w' b A T := h.other (hb.block b h.lt)
theorem IM.kept (h : IM w b A T) {row : Option Nat} (hg : w.grownBy w' row) (hr : some b ≠ row) : IM w' b A T := h.other (hg.block b h.lt hr)
theorem IM.alloc (h : IM w b A T) (o : Obj) : IM (w.alloc o) b A T := h.later ((Below.refl _ _).alloc (Nat.le_refl _) o)
theorem IM.drewN (h : IM w b A T) (n : Nat) : IM (w.drewN n) b A T := h
theorem IM.made (w : World) (T : Int → Int) : IM (w.alloc (.map #[] 0)) w.heap.size [] T := ⟨_, World.ownsMap_made w _ _ _, KeysAre.none, by simp⟩
theorem IM.congr (h : IM w b A T) {T' : Int → Int} (e : ∀ i ∈ A, T' i = T i) : IM w b A T' := by
  obtain ⟨D, h1, h2, h3⟩ := h
  exact ⟨D, h1, h2, fun i hi => by rw [e i hi]; exact h3 i hi⟩
theorem IM.look (h : IM w b A T) (i : Int) (hi : i ∈ A) : (Instr.lookup 86 (.map (some b)) (.int .i64 i) false).run Tryd.prog w = .ok (.int .i64 (T i)) w := by
  obtain ⟨D, h1, h2, h3⟩ := h
  obtain ⟨c, hr, hv, hw⟩ := h1.lookup_int (t := 86) kI Tryd.underlying86 Tryd.underlying3 (Tryd.zeroValue3 w) (keyI (h2.wf i hi))
  rw [(h3 i hi).2] at hv
  rw [hr]
  injection hv with hv
  injection hv with _ hv
  rw [hv]
theorem IM.look_ok (h : IM w b A T) (i : Int) (hi : wfI i) : (Instr.lookup 86 (.map (some b)) (.int .i64 i) true).run Tryd.prog w = .ok (.tuple #[.int .i64 (if i ∈ A then T i else 0), .bool (decide (i ∈ A))]) w := by
  obtain ⟨D, h1, h2, h3⟩ := h
  obtain ⟨v, ps, hr, hv⟩ := h1.look_ok (t := 86) kI Tryd.underlying86 (Tryd.zeroValue3 w) (plainElem_int Tryd.underlying3 (by decide)) (keyI hi)
  obtain ⟨c, rfl, hc, _⟩ := plainElem_int_inv Tryd.underlying3 hv
  rw [hr, h2.has]
  have hc := congrArg Prod.fst hc
  by_cases hm : i ∈ A
  · rw [(h3 i hm).2] at hc
    injection hc with hc
    injection hc with _ hc
    simp [hm, hc]
  · have hn : Maps.has D (.int .i64 i) = false := by rw [h2.has]; simp [hm]
    rw [atKey_of_not_has hn] at hc
    injection hc with hc
    injection hc with _ hc
    simp [hm, ← hc]
theorem IM.len (h : IM w b A T) (ty : TypeId) : (Builtin.len_ #[86] ty #[.map (some b)]).run Tryd.prog w = .ok (.int .i64 (A.length : Int)) w := by
  obtain ⟨D, h1, h2, h3⟩ := h
  rw [h1.len Tryd.underlying86 ty, h2.size]
theorem IM.store (h : IM w b A T) (i t : Int) (hi : wfI i) (htt : wfI t) (hn : A.length < 4000000) : ∃ w', (Instr.mapUpdate 86 (.map (some b)) (.int .i64 i) (.int .i64 t)).run Tryd.prog w = .ok () w' ∧ IM w' b (ins i A) (upd T i t) ∧ w.grownBy w' (some b) := by
  obtain ⟨D, h1, h2, h3⟩ := h
  have ht := h1.tidy kI
  obtain ⟨w', hr, h4, hg⟩ := h1.update (t := 86) kI Tryd.underlying86 (by simp only [maxLen]; omega) (keyI hi) (plainElem_int Tryd.underlying3 (wfI_lit htt))
  have hk := h2.put ht hi (.lit (.int .i64 t))
  refine ⟨w', hr, ⟨_, ?_, hk, fun j hj => ?_⟩, hg⟩
  · rw [← hk.size]; exact own_size h4
  · by_cases e : j = i
    · subst e
      refine ⟨by simpa [upd] using htt, fun z => ?_⟩
      rw [atKey_put_same ht.isMap (isKey j)]
      simp [upd]
    · have := h3 j ((mem_ins.1 hj).resolve_left e)
      refine ⟨by simpa [upd, e] using this.1, fun z => ?_⟩
      rw [atKey_put_other (ne_lit e), this.2]
      simp [upd, e]
theorem turned_grown (h : w.mapTurned w' b) : w.grownBy w' (some b) := h.grown
theorem IM.drop (h : IM w b A T) (i : Int) (hi : wfI i) (ty : TypeId) : ∃ w', (Builtin.delete_ #[86, 3] ty #[.map (some b), .int .i64 i]).run Tryd.prog w = .ok (.tuple #[]) w' ∧ IM w' b (del i A) T ∧ w.grownBy w' (some b) := by
  obtain ⟨D, h1, h2, h3⟩ := h
  have ht := h1.tidy kI
  obtain ⟨w', hr, h4, hg⟩ := h1.drop (t := 86) kI Tryd.underlying86 (keyI hi) ty
  have hk := h2.del ht i
  refine ⟨w', hr, ⟨_, ?_, hk, fun j hj => ⟨(h3 j (mem_del.1 hj).1).1, fun z => ?_⟩⟩, turned_grown hg⟩
  · rw [← hk.size]; exact own_size h4
  · rw [atKey_del_other (ne_lit (mem_del.1 hj).2)]
    exact (h3 j (mem_del.1 hj).1).2 z
end
end Go.Proofs.YthnpaiobjmneaaaDoor.Wa
