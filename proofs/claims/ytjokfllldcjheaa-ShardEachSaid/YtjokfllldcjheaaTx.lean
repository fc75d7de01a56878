/- Rows of texts: read (SR), owned (OT). -/
import Derived.Test.YtjokfllldcjheaaSg
namespace Go.Proofs.Ytjokfllldcjheaa.Sha
open Go.RowKit
set_option linter.unusedVariables false
set_option linter.unusedSimpArgs false
/-- v is a slice, in block g, that reads as the texts ss -/
def SR (w : World) (g : Nat) (v : Value) (ss : List ByteArray) : Prop :=
  ∃ A c, v = .slice A ss.length c ∧ ss.length ≤ c ∧ c ≤ 9223372036854775807 ∧ (0 < ss.length → ∃ ad : Addr, A = some ad ∧ ad.block = g ∧ ∀ i, i < ss.length → w.cell? (ad.add i) = some (.string (ss.getD i ByteArray.empty)))
theorem Addr.add_block (a : Addr) (i : Nat) : (a.add i).block = a.block := by unfold Addr.add; split <;> rfl
theorem SR.kept {w w' : World} {g : Nat} {v : Value} {ss : List ByteArray} (h : SR w g v ss) {row : Option Nat} (hg : w.grownBy w' row) (hr : some g ≠ row) : SR w' g v ss := by
  obtain ⟨A, c, hv, h1, h2, h3⟩ := h
  refine ⟨A, c, hv, h1, h2, fun h => ?_⟩
  obtain ⟨ad, ha, hb, hc⟩ := h3 h
  exact ⟨ad, ha, hb, fun i hi => hg.cell (hc i hi) (by rw [Addr.add_block, hb]; exact hr)⟩
theorem SR.later {w w' : World} {g : Nat} {v : Value} {ss : List ByteArray} (h : SR w g v ss) (hb : Below w.heap.size w w') : SR w' g v ss := by
  obtain ⟨A, c, hv, h1, h2, h3⟩ := h
  refine ⟨A, c, hv, h1, h2, fun h => ?_⟩
  obtain ⟨ad, ha, hbk, hc⟩ := h3 h
  exact ⟨ad, ha, hbk, fun i hi => (hb.cell (World.block_lt_of_cell? _ _ (hc i hi))).trans (hc i hi)⟩
theorem SR.lt {w : World} {g : Nat} {v : Value} {ss : List ByteArray} (h : SR w g v ss) : ss = [] ∨ g < w.heap.size := by
  obtain ⟨A, c, hv, h1, h2, h3⟩ := h
  by_cases e : ss = []
  · exact .inl e
  · right
    obtain ⟨ad, ha, hbk, hc⟩ := h3 (List.length_pos_iff.2 e)
    rw [← hbk]
    have := hc 0 (List.length_pos_iff.2 e)
    have := World.block_lt_of_cell? _ _ this
    rwa [Addr.add_block] at this
/-- of what block a slice of no texts is told does not matter -/
theorem SR.move {w : World} {g : Nat} {v : Value} {ss : List ByteArray} (h : SR w g v ss) (g' : Nat) (he : ss = []) : SR w g' v ss := by
  obtain ⟨A, c, hv, h1, h2, h3⟩ := h
  exact ⟨A, c, hv, h1, h2, fun h => by subst he; simp at h⟩
/-- the texts of a row that was laid for a call -/
theorem SR.lit (w : World) (ss : List ByteArray) (cs : Array Value) (hcs : cs = (ss.map Value.string).toArray) (n : Nat) (hn : n = ss.length) (h : ss.length ≤ 9223372036854775807) : SR (w.alloc (.cells cs 9)) w.heap.size (.slice (some ⟨w.heap.size, 0, none⟩) n n) ss := by
  subst hcs hn
  refine ⟨_, _, rfl, Nat.le_refl _, h, fun _ => ⟨_, rfl, rfl, fun i hi => ?_⟩⟩
  rw [show (⟨w.heap.size, 0, none⟩ : Addr).add i = ⟨w.heap.size, 0 + i, none⟩ by unfold Addr.add; split <;> simp_all, cell_of_row _ w.heap.size (0 + i) _ 9 (0, 0) (heap_alloc_new w _)]
  simp [hi]
theorem SR.form {w : World} {g : Nat} {v : Value} {ss : List ByteArray} (h : SR w g v ss) (hp : 0 < ss.length) :
    ∃ o c, v = .slice (some ⟨g, o, none⟩) ss.length c ∧ ss.length ≤ c ∧ c ≤ 9223372036854775807 ∧ ∀ (j : Nat) x, ss[j]? = some x → w.cell? ⟨g, o + j, none⟩ = some (.string x) := by
  obtain ⟨A, c, hv, h1, h2, h3⟩ := h
  obtain ⟨ad, rfl, rfl, hc⟩ := h3 hp
  obtain ⟨b, o, sp⟩ := ad
  have h0 := hc 0 hp
  have hsp : sp = none := by
    cases sp with
    | none => rfl
    | some q =>
      exfalso
      simp only [Addr.add, World.cell?, if_pos] at h0
      split at h0 <;> simp at h0
  subst hsp
  refine ⟨o, c, hv, h1, h2, fun j x hx => ?_⟩
  have hj : j < ss.length := (List.getElem?_eq_some_iff.1 hx).1
  have := hc j hj
  rw [show (⟨b, o, none⟩ : Addr).add j = ⟨b, o + j, none⟩ by unfold Addr.add; split <;> simp_all] at this
  rw [this]
  simp [List.getD_eq_getElem?_getD, hx]

/-- v is a row of texts of the call's own -/
def OT (w : World) (base : Nat) (v : Value) (ss : List ByteArray) : Prop := w.ownsRow base 9 1 v ss.length (ss.map Value.string)
theorem OT.nil (w : World) (base : Nat) : OT w base (.slice none 0 0) [] := World.ownsRow_nil w base 9 1
theorem OT.alloc {w : World} {base : Nat} {v : Value} {ss : List ByteArray} (h : OT w base v ss) (o : Obj) : OT (w.alloc o) base v ss := World.ownsRow.alloc h o
theorem OT.base {w : World} {base : Nat} {v : Value} {ss : List ByteArray} (h : OT w base v ss) : ∀ k, v.ownBlock = some k → base ≤ k := fun k hk => (World.ownsRow.lt h k hk).1
theorem OT.reads {w : World} {base : Nat} {v : Value} {ss : List ByteArray} (h : OT w base v ss) : ∃ g, SR w g v ss := by
  rcases h.2 with ⟨hv, hn⟩ | ⟨g, cap, cur, hv, hb, hh, hnc, hcm, hcs, htk⟩
  · exact ⟨0, none, 0, by rw [hv, hn], by omega, by omega, fun h => by omega⟩
  · refine ⟨g, some ⟨g, 0, none⟩, cap, hv, hnc, by simp only [maxLen] at hcm; omega, fun _ => ⟨_, rfl, rfl, fun i hi => ?_⟩⟩
    have := World.ownsRow.cells h (g := g) (by rw [hv]; rfl) i (.string (ss.getD i ByteArray.empty)) (by simp [List.getD_eq_getElem?_getD, hi])
    exact this
theorem infoStr : (Try.prog.info? 9).map (fun i => (i.zero, i.size, i.bytes)) = some (some (.string ByteArray.empty), 1, 16) := by kernel_rfl
theorem OT.append_run {w : World} {base : Nat} {v : Value} {xs : List ByteArray} (HO : OT w base v xs) {g : Nat} {y : Value} {ys : List ByteArray} (HR : SR w g y ys) (hp : 0 < ys.length) (ty : TypeId) (hbase : base ≤ w.heap.size) (hl : xs.length + ys.length ≤ 1000000000) :
    ∃ v1 w1, (Builtin.append_ #[30, 30] ty #[v, y]).run Try.prog w = .ok v1 w1 ∧ OT w1 base v1 (xs ++ ys) ∧ w.grownBy w1 v.ownBlock := by
  obtain ⟨i0, hi, hzz⟩ := Option.map_eq_some_iff.1 infoStr
  simp only [Prod.mk.injEq] at hzz
  obtain ⟨hz0, hz1, hz2⟩ := hzz
  obtain ⟨off, c, rfl, h1, h2, h3⟩ := HR.form hp
  obtain ⟨v1, w1, hr, k2, k3, _, k5⟩ := run_append_own_at (P := Try.prog) w base 30 ty 9 i0 (.string ByteArray.empty) 1 16 Try.underlying30 hi hz0 hz1 hz2 rfl (by omega) v xs.length (xs.map Value.string) HO ⟨g, off, none⟩ ys.length c (ys.map Value.string) (by simp) (fun j u hu => by
    have hj : j < ys.length := by
      have := (List.getElem?_eq_some_iff.1 hu).1
      simpa using this
    have e : u = .string ys[j] := by simpa [hj] using hu.symm
    rw [e, show (⟨g, off, none⟩ : Addr).add j = ⟨g, off + j, none⟩ by unfold Addr.add; split <;> simp_all]
    exact h3 j _ (List.getElem?_eq_getElem hj)) (by simp [Value.oneCell']) (by simp only [maxLen]; omega) (by omega) hbase
  refine ⟨v1, w1, hr, ?_, k3⟩
  unfold OT
  rw [List.length_append, List.map_append]
  exact k2
section
variable {ops : Array Oper} {rest : List Oper} {o : Oper} {a : Act} {w : World} {Q : Exit → Act → World → Prop}
theorem OT.append_on {base : Nat} {v : Value} {xs : List ByteArray} (HO : OT w base v xs) {g : Nat} {y : Value} {ys : List ByteArray} (HR : SR w g y ys) (hp : 0 < ys.length) (hgd : o.guard = none) (s x : Operand)
    (ho : o.op = .call { callee := .builtin .append, args := #[s, x], argTypes := #[30, 30] }) (hs : a.eval s = v) (hx : a.eval x = y)
    (hbase : base ≤ w.heap.size) (hl : xs.length + ys.length ≤ 1000000000)
    (k : ∀ v1 w1, OT w1 base v1 (xs ++ ys) → w.grownBy w1 v.ownBlock → wpList Try.prog ops Q rest (a.put o.dst v1) w1) : wpList Try.prog ops Q (o :: rest) a w := by
  obtain ⟨i0, hi, hzz⟩ := Option.map_eq_some_iff.1 infoStr
  simp only [Prod.mk.injEq] at hzz
  obtain ⟨hz0, hz1, hz2⟩ := hzz
  obtain ⟨off, c, rfl, h1, h2, h3⟩ := HR.form hp
  obtain ⟨v1, w1, hr, k2, k3, _, k5⟩ := run_append_own_at (P := Try.prog) w base 30 o.type 9 i0 (.string ByteArray.empty) 1 16 Try.underlying30 hi hz0 hz1 hz2 rfl (by omega) v xs.length (xs.map Value.string) HO ⟨g, off, none⟩ ys.length c (ys.map Value.string) (by simp) (fun j u hu => by
    have hj : j < ys.length := by
      have := (List.getElem?_eq_some_iff.1 hu).1
      simpa using this
    have e : u = .string ys[j] := by simpa [hj] using hu.symm
    rw [e, show (⟨g, off, none⟩ : Addr).add j = ⟨g, off + j, none⟩ by unfold Addr.add; split <;> simp_all]
    exact h3 j _ (List.getElem?_eq_getElem hj)) (by simp [Value.oneCell']) (by simp only [maxLen]; omega) (by omega) hbase
  refine append_step hgd s x _ _ ho hs hx hr (k v1 w1 ?_ k3)
  unfold OT
  rw [List.length_append, List.map_append]
  exact k2
end

theorem OT.later {w w' : World} {base : Nat} {v : Value} {ss : List ByteArray} (h : OT w base v ss) (hb : Below w.heap.size w w') : OT w' base v ss :=
  World.ownsRow.kept h (grown_below hb none) (by cases v.ownBlock <;> simp)
theorem OT.drewN {w : World} {base : Nat} {v : Value} {ss : List ByteArray} (h : OT w base v ss) (n : Nat) : OT (w.drewN n) base v ss := h
/-- the row's tag -/
def TagS (w : World) (g : Nat) (ss : List ByteArray) : Prop := ss ≠ [] → ∃ cur fz, w.heap[g]? = some (.cells cur 9 fz)
theorem TagS.kept {w w' : World} {g : Nat} {ss : List ByteArray} (h : TagS w g ss) (hk : ∀ o, w.heap[g]? = some o → w'.heap[g]? = some o) : TagS w' g ss := by
  intro he
  obtain ⟨cur, fz, hc⟩ := h he
  exact ⟨cur, fz, hk _ hc⟩
theorem OT.readsAt {w : World} {base : Nat} {v : Value} {ss : List ByteArray} (h : OT w base v ss) : ∃ g, SR w g v ss ∧ base ≤ g ∧ TagS w g ss := by
  obtain ⟨g', h'⟩ := h.reads
  rcases h.2 with ⟨hv, hn⟩ | ⟨g, cap, cur, hv, hb, hh, hnc, hcm, hcs, htk⟩
  · exact ⟨base, h'.move base (List.length_eq_zero_iff.1 hn), Nat.le_refl _, fun e => absurd (List.length_eq_zero_iff.1 hn) e⟩
  · refine ⟨g, ⟨some ⟨g, 0, none⟩, cap, hv, hnc, by simp only [maxLen] at hcm; omega, fun _ => ⟨_, rfl, rfl, fun i hi => ?_⟩⟩, hb, fun _ => ⟨_, _, hh⟩⟩
    have := World.ownsRow.cells h (g := g) (by rw [hv]; rfl) i (.string (ss.getD i ByteArray.empty)) (by simp [List.getD_eq_getElem?_getD, hi])
    exact this
end Go.Proofs.Ytjokfllldcjheaa.Sha
