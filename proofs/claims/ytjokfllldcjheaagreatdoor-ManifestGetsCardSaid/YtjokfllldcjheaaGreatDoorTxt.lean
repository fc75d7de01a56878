/- Rows of texts of the call's own: append at a list of operations and at a step of a region that draws. -/
import Derived.Test.YtjokfllldcjheaaGreatDoorShaM
namespace Go.Proofs.YtjokfllldcjheaaGreatDoor.Sha
open Go.RowKit
set_option linter.unusedVariables false
set_option linter.unusedSimpArgs false

theorem SR.form {w : World} {g : Nat} {v : Value} {ss : List ByteArray} (h : SR w g v ss) (hp : 0 < ss.length) :
    ∃ o c, v = .slice (some ⟨g, o, none⟩) ss.length c ∧ ss.length ≤ c ∧ c ≤ 9223372036854775807 ∧ ∀ (j : Nat) x, ss[j]? = some x → w.cell? ⟨g, o + j, none⟩ = some (.string x) := by
  obtain ⟨A, c, hv, h1, h2, h3⟩ := h
  obtain ⟨ad, rfl, rfl, hc⟩ := h3 hp
  obtain ⟨b, o, sp⟩ := ad
  have h0 := hc 0 hp
  have hsp : sp = none := by
    cases sp with
    | none => rfl
    | some q =>
      exfalso
      simp only [Addr.add, World.cell?, if_pos] at h0
      split at h0 <;> simp at h0
  subst hsp
  refine ⟨o, c, hv, h1, h2, fun j x hx => ?_⟩
  have hj : j < ss.length := (List.getElem?_eq_some_iff.1 hx).1
  have := hc j hj
  rw [show (⟨b, o, none⟩ : Addr).add j = ⟨b, o + j, none⟩ by unfold Addr.add; split <;> simp_all] at this
  rw [this]
  simp [List.getD_eq_getElem?_getD, hx]

/-- v is a row of texts of the call's own -/
def OT (w : World) (base : Nat) (v : Value) (ss : List ByteArray) : Prop := w.ownsRow base 9 1 v ss.length (ss.map Value.string)
theorem OT.nil (w : World) (base : Nat) : OT w base (.slice none 0 0) [] := World.ownsRow_nil w base 9 1
theorem OT.alloc {w : World} {base : Nat} {v : Value} {ss : List ByteArray} (h : OT w base v ss) (o : Obj) : OT (w.alloc o) base v ss := World.ownsRow.alloc h o
theorem OT.base {w : World} {base : Nat} {v : Value} {ss : List ByteArray} (h : OT w base v ss) : ∀ k, v.ownBlock = some k → base ≤ k := fun k hk => (World.ownsRow.lt h k hk).1
theorem OT.reads {w : World} {base : Nat} {v : Value} {ss : List ByteArray} (h : OT w base v ss) : ∃ g, SR w g v ss := by
  rcases h.2 with ⟨hv, hn⟩ | ⟨g, cap, cur, hv, hb, hh, hnc, hcm, hcs, htk⟩
  · exact ⟨0, none, 0, by rw [hv, hn], by omega, by omega, fun h => by omega⟩
  · refine ⟨g, some ⟨g, 0, none⟩, cap, hv, hnc, by simp only [maxLen] at hcm; omega, fun _ => ⟨_, rfl, rfl, fun i hi => ?_⟩⟩
    have := World.ownsRow.cells h (g := g) (by rw [hv]; rfl) i (.string (ss.getD i ByteArray.empty)) (by simp [List.getD_eq_getElem?_getD, hi])
    exact this
theorem infoStr : (Tryz.prog.info? 9).map (fun i => (i.zero, i.size, i.bytes)) = some (some (.string ByteArray.empty), 1, 16) := by kernel_rfl
theorem OT.append_run {w : World} {base : Nat} {v : Value} {xs : List ByteArray} (HO : OT w base v xs) {g : Nat} {y : Value} {ys : List ByteArray} (HR : SR w g y ys) (hp : 0 < ys.length) (ty : TypeId) (hbase : base ≤ w.heap.size) (hl : xs.length + ys.length ≤ 1000000000) :
    ∃ v1 w1, (Builtin.append_ #[31, 31] ty #[v, y]).run Tryz.prog w = .ok v1 w1 ∧ OT w1 base v1 (xs ++ ys) ∧ w.grownBy w1 v.ownBlock := by
  obtain ⟨i0, hi, hzz⟩ := Option.map_eq_some_iff.1 infoStr
  simp only [Prod.mk.injEq] at hzz
  obtain ⟨hz0, hz1, hz2⟩ := hzz
  obtain ⟨off, c, rfl, h1, h2, h3⟩ := HR.form hp
  obtain ⟨v1, w1, hr, k2, k3, _, k5⟩ := run_append_own_at (P := Tryz.prog) w base 31 ty 9 i0 (.string ByteArray.empty) 1 16 Tryz.underlying31 hi hz0 hz1 hz2 rfl (by omega) v xs.length (xs.map Value.string) HO ⟨g, off, none⟩ ys.length c (ys.map Value.string) (by simp) (fun j u hu => by
    have hj : j < ys.length := by
      have := (List.getElem?_eq_some_iff.1 hu).1
      simpa using this
    have e : u = .string ys[j] := by simpa [hj] using hu.symm
    rw [e, show (⟨g, off, none⟩ : Addr).add j = ⟨g, off + j, none⟩ by unfold Addr.add; split <;> simp_all]
    exact h3 j _ (List.getElem?_eq_getElem hj)) (by simp [Value.oneCell']) (by simp only [maxLen]; omega) (by omega) hbase
  refine ⟨v1, w1, hr, ?_, k3⟩
  unfold OT
  rw [List.length_append, List.map_append]
  exact k2
section
variable {ops : Array Oper} {rest : List Oper} {o : Oper} {a : Act} {w : World} {Q : Exit → Act → World → Prop}
theorem OT.append_on {base : Nat} {v : Value} {xs : List ByteArray} (HO : OT w base v xs) {g : Nat} {y : Value} {ys : List ByteArray} (HR : SR w g y ys) (hp : 0 < ys.length) (hgd : o.guard = none) (s x : Operand)
    (ho : o.op = .call { callee := .builtin .append, args := #[s, x], argTypes := #[31, 31] }) (hs : a.eval s = v) (hx : a.eval x = y)
    (hbase : base ≤ w.heap.size) (hl : xs.length + ys.length ≤ 1000000000)
    (k : ∀ v1 w1, OT w1 base v1 (xs ++ ys) → w.grownBy w1 v.ownBlock → wpList Tryz.prog ops Q rest (a.put o.dst v1) w1) : wpList Tryz.prog ops Q (o :: rest) a w := by
  obtain ⟨i0, hi, hzz⟩ := Option.map_eq_some_iff.1 infoStr
  simp only [Prod.mk.injEq] at hzz
  obtain ⟨hz0, hz1, hz2⟩ := hzz
  obtain ⟨off, c, rfl, h1, h2, h3⟩ := HR.form hp
  obtain ⟨v1, w1, hr, k2, k3, _, k5⟩ := run_append_own_at (P := Tryz.prog) w base 31 o.type 9 i0 (.string ByteArray.empty) 1 16 Tryz.underlying31 hi hz0 hz1 hz2 rfl (by omega) v xs.length (xs.map Value.string) HO ⟨g, off, none⟩ ys.length c (ys.map Value.string) (by simp) (fun j u hu => by
    have hj : j < ys.length := by
      have := (List.getElem?_eq_some_iff.1 hu).1
      simpa using this
    have e : u = .string ys[j] := by simpa [hj] using hu.symm
    rw [e, show (⟨g, off, none⟩ : Addr).add j = ⟨g, off + j, none⟩ by unfold Addr.add; split <;> simp_all]
    exact h3 j _ (List.getElem?_eq_getElem hj)) (by simp [Value.oneCell']) (by simp only [maxLen]; omega) (by omega) hbase
  refine append_step hgd s x _ _ ho hs hx hr (k v1 w1 ?_ k3)
  unfold OT
  rw [List.length_append, List.map_append]
  exact k2
theorem OT.append_wp {K : Act → World → Prop} {E : Prop} {base : Nat} {v : Value} {xs : List ByteArray} (HO : OT w base v xs) {g : Nat} {y : Value} {ys : List ByteArray} (HR : SR w g y ys) (hp : 0 < ys.length) (hgd : o.guard = none) (s x : Operand)
    (ho : o.op = .call { callee := .builtin .append, args := #[s, x], argTypes := #[31, 31] }) (hs : a.eval s = v) (hx : a.eval x = y)
    (hbase : base ≤ w.heap.size) (hl : xs.length + ys.length ≤ 1000000000)
    (k : ∀ v1 w1, OT w1 base v1 (xs ++ ys) → w.grownBy w1 v.ownBlock → K (a.put o.dst v1) w1) : if Region.wanted o (yielded ops a.tmps) = true then Oper.wp Tryz.prog o a w K Q else E := by
  obtain ⟨v1, w1, hr, k2, k3⟩ := OT.append_run HO HR hp o.type hbase hl
  exact Sha.append_wp hgd s x _ _ ho hs hx hr (k v1 w1 k2 k3)
end

theorem OT.later {w w' : World} {base : Nat} {v : Value} {ss : List ByteArray} (h : OT w base v ss) (hb : Below w.heap.size w w') : OT w' base v ss :=
  World.ownsRow.kept h (grown_below hb none) (by cases v.ownBlock <;> simp)
theorem OT.drewN {w : World} {base : Nat} {v : Value} {ss : List ByteArray} (h : OT w base v ss) (n : Nat) : OT (w.drewN n) base v ss := h
/-- the row's tag -/
def TagS (w : World) (g : Nat) (ss : List ByteArray) : Prop := ss ≠ [] → ∃ cur fz, w.heap[g]? = some (.cells cur 9 fz)
theorem TagS.kept {w w' : World} {g : Nat} {ss : List ByteArray} (h : TagS w g ss) (hk : ∀ o, w.heap[g]? = some o → w'.heap[g]? = some o) : TagS w' g ss := by
  intro he
  obtain ⟨cur, fz, hc⟩ := h he
  exact ⟨cur, fz, hk _ hc⟩
theorem OT.readsAt {w : World} {base : Nat} {v : Value} {ss : List ByteArray} (h : OT w base v ss) : ∃ g, SR w g v ss ∧ base ≤ g ∧ TagS w g ss := by
  obtain ⟨g', h'⟩ := h.reads
  rcases h.2 with ⟨hv, hn⟩ | ⟨g, cap, cur, hv, hb, hh, hnc, hcm, hcs, htk⟩
  · exact ⟨base, h'.move base (List.length_eq_zero_iff.1 hn), Nat.le_refl _, fun e => absurd (List.length_eq_zero_iff.1 hn) e⟩
  · refine ⟨g, ⟨some ⟨g, 0, none⟩, cap, hv, hnc, by simp only [maxLen] at hcm; omega, fun _ => ⟨_, rfl, rfl, fun i hi => ?_⟩⟩, hb, fun _ => ⟨_, _, hh⟩⟩
    have := World.ownsRow.cells h (g := g) (by rw [hv]; rfl) i (.string (ss.getD i ByteArray.empty)) (by simp [List.getD_eq_getElem?_getD, hi])
    exact this
end Go.Proofs.YtjokfllldcjheaaGreatDoor.Sha
