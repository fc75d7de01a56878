/- Rows of shards of a table (api.Shard), as rows of edges are. Printed from XEr. -/
import Derived.Test.YtjokfllldcjheaaGreatDoorEe
namespace Go.Proofs.YtjokfllldcjheaaGreatDoor.Tb
open Go.RowKit Go.Proofs.YtjokfllldcjheaaGreatDoor.Ed
set_option linter.unusedVariables false
set_option linter.unusedSimpArgs false
set_option maxRecDepth 100000
/-- v is a slice, in block g from cell o, that reads as these edges -/
def TBRo (w : World) (g o : Nat) (v : Value) (l : List E2) : Prop :=
  ∃ A c, v = .slice A l.length c ∧ l.length ≤ c ∧ c ≤ 9223372036854775807 ∧ (0 < l.length → A = some ⟨g, o, none⟩ ∧ g < w.heap.size ∧ ∀ i, i < l.length → w.cell? ⟨g, o + i * 2, none⟩ = some (.int .i64 (l.getD i (0, 0)).1) ∧ w.cell? ⟨g, o + i * 2 + 1, none⟩ = some (.int .i64 (l.getD i (0, 0)).2))
def TBR (w : World) (g : Nat) (v : Value) (l : List E2) : Prop := ∃ o, TBRo w g o v l
theorem TBR.other {w w' : World} {g : Nat} {v : Value} {l : List E2} (h : TBR w g v l) (hs : w.heap.size ≤ w'.heap.size) (hb : l ≠ [] → w'.heap[g]? = w.heap[g]?) : TBR w' g v l := by
  obtain ⟨o, A, c, hv, h1, h2, h3⟩ := h
  refine ⟨o, A, c, hv, h1, h2, fun h => ?_⟩
  obtain ⟨ha, hl, hc⟩ := h3 h
  have hb := hb (by intro e; rw [e] at h; simp at h)
  refine ⟨ha, Nat.lt_of_lt_of_le hl hs, fun i hi => ?_⟩
  have e : ∀ k, w'.cell? ⟨g, k, none⟩ = w.cell? ⟨g, k, none⟩ := fun k => by simp only [World.cell?, hb]
  rw [e, e]
  exact hc i hi
theorem TBR.kept {w w' : World} {g : Nat} {v : Value} {l : List E2} (h : TBR w g v l) {row : Option Nat} (hg : w.grownBy w' row) (hr : l = [] ∨ some g ≠ row) : TBR w' g v l := by
  have hl : l ≠ [] → g < w.heap.size := by
    obtain ⟨o, A, c, hv, h1, h2, h3⟩ := h
    exact fun e => (h3 (List.length_pos_iff.2 e)).2.1
  exact h.other hg.size fun e => hg.block g (hl e) (hr.resolve_left e)
theorem TBR.lt {w : World} {g : Nat} {v : Value} {l : List E2} (h : TBR w g v l) : l = [] ∨ g < w.heap.size := by
  by_cases e : l = []
  · exact .inl e
  · obtain ⟨o, A, c, hv, h1, h2, h3⟩ := h
    exact .inr (h3 (List.length_pos_iff.2 e)).2.1
theorem TBR.later {w w' : World} {g : Nat} {v : Value} {l : List E2} (h : TBR w g v l) (hb : Below w.heap.size w w') : TBR w' g v l :=
  h.other hb.size fun e => hb.block g (h.lt.resolve_left e)
theorem TBR.alloc {w : World} {g : Nat} {v : Value} {l : List E2} (h : TBR w g v l) (o : Obj) : TBR (w.alloc o) g v l := h.later ((Below.refl _ _).alloc (Nat.le_refl _) o)
theorem TBR.drewN {w : World} {g : Nat} {v : Value} {l : List E2} (h : TBR w g v l) (n : Nat) : TBR (w.drewN n) g v l := h
theorem TBR.nil (w : World) : TBR w 0 (.slice none 0 0) [] := ⟨0, none, 0, rfl, Nat.le_refl _, by omega, fun h => by simp at h⟩
theorem TBR.lit (w : World) (l : List E2) (cs : Array Value) (hcs : cs = (ecells l).toArray) (n : Nat) (hn : n = l.length) (h : l.length ≤ 9223372036854775807) : TBR (w.alloc (.cells cs 43)) w.heap.size (.slice (some ⟨w.heap.size, 0, none⟩) n n) l := by
  subst hcs hn
  refine ⟨0, some ⟨w.heap.size, 0, none⟩, l.length, rfl, Nat.le_refl _, h, fun hp => ⟨rfl, by simp, fun i hi => ?_⟩⟩
  have e := ecells_get l i hi
  constructor
  · rw [cell_of_row _ w.heap.size _ _ _ _ (heap_alloc_new w _)]
    simpa using e.1
  · rw [cell_of_row _ w.heap.size _ _ _ _ (heap_alloc_new w _)]
    simpa using e.2

/-- v is a row of edges of the call's own -/
def TBO (w : World) (base : Nat) (v : Value) (l : List E2) : Prop := w.ownsRow base 43 2 v l.length (ecells l)
theorem TBO.nil (w : World) (base : Nat) : TBO w base (.slice none 0 0) [] := World.ownsRow_nil w base 43 2
theorem TBO.alloc {w : World} {base : Nat} {v : Value} {l : List E2} (h : TBO w base v l) (o : Obj) : TBO (w.alloc o) base v l := World.ownsRow.alloc h o
theorem TBO.base {w : World} {base : Nat} {v : Value} {l : List E2} (h : TBO w base v l) : ∀ k, v.ownBlock = some k → base ≤ k := fun k hk => (World.ownsRow.lt h k hk).1
theorem TBO.lt {w : World} {base : Nat} {v : Value} {l : List E2} (h : TBO w base v l) : ∀ k, v.ownBlock = some k → k < w.heap.size := fun k hk => (World.ownsRow.lt h k hk).2
theorem TBO.kept {w w' : World} {base : Nat} {v : Value} {l : List E2} (h : TBO w base v l) {row : Option Nat} (hg : w.grownBy w' row) (hr : v.ownBlock = none ∨ v.ownBlock ≠ row) : TBO w' base v l := World.ownsRow.kept h hg hr
theorem TBO.later {w w' : World} {base : Nat} {v : Value} {l : List E2} (h : TBO w base v l) (hb : Below w.heap.size w w') : TBO w' base v l :=
  h.kept (grown_below hb none) (by cases v.ownBlock <;> simp)
theorem TBO.mono {w : World} {b b' : Nat} {v : Value} {l : List E2} (h : TBO w b v l) (hb : b' ≤ b) : TBO w b' v l := by
  refine ⟨h.1, ?_⟩
  rcases h.2 with h2 | ⟨g, cap, cur, hv, hg, hh⟩
  · exact .inl h2
  · exact .inr ⟨g, cap, cur, hv, Nat.le_trans hb hg, hh⟩
theorem TBO.reads {w : World} {base : Nat} {v : Value} {l : List E2} (h : TBO w base v l) : ∃ g, TBR w g v l ∧ (l ≠ [] → v.ownBlock = some g) := by
  rcases h.2 with ⟨hv, hn⟩ | ⟨g, cap, cur, hv, hb, hh, hnc, hcm, hcs, htk⟩
  · exact ⟨0, ⟨0, none, 0, by rw [hv, hn], by omega, by omega, fun h => by omega⟩, fun e => absurd (List.eq_nil_of_length_eq_zero hn) e⟩
  · refine ⟨g, ⟨0, some ⟨g, 0, none⟩, cap, hv, hnc, by simp only [maxLen] at hcm; omega, fun _ => ⟨rfl, (Array.getElem?_eq_some_iff.1 hh).1, fun i hi => ?_⟩⟩, fun _ => by rw [hv]; rfl⟩
    have e := ecells_get l i hi
    have h0 := World.ownsRow.cells h (g := g) (by rw [hv]; rfl) _ _ e.1
    have h1 := World.ownsRow.cells h (g := g) (by rw [hv]; rfl) _ _ e.2
    rw [add_none] at h0 h1
    rw [Nat.add_assoc]
    exact ⟨h0, h1⟩
theorem TBO.shape {w : World} {base : Nat} {v : Value} {l : List E2} (h : TBO w base v l) : ∃ A c, v = .slice A l.length c ∧ l.length ≤ c ∧ c ≤ 9223372036854775807 := by
  rcases h.2 with ⟨rfl, e⟩ | ⟨g, cap, cur, rfl, -, -, hn, hm, -⟩
  · exact ⟨none, 0, by rw [e], by omega, by omega⟩
  · exact ⟨_, _, rfl, hn, by simp only [maxLen] at hm; omega⟩
theorem TBO.fresh (w : World) (base : Nat) (hb : base ≤ w.heap.size) : TBO (w.alloc (.cells #[] 43)) base (.slice (some ⟨w.heap.size, 0, none⟩) 0 0) [] :=
  World.ownsRow_lit w #[] 0 hb (by simp only [maxLen]; omega) rfl
theorem infoTB : (Tryz.prog.info? 43).map (fun i => (i.zero, i.size, i.bytes)) = some (some (.agg #[.int .i64 0, .int .i64 0]), 2, 16) := by kernel_rfl
/-- append(v, ys...) -/
theorem TBO.append_run {w : World} {base : Nat} {v : Value} {xs : List E2} (HO : TBO w base v xs) {g : Nat} {y : Value} {ys : List E2} (HR : TBR w g y ys) (ty : TypeId) (hbase : base ≤ w.heap.size) (hl : xs.length + ys.length ≤ 1000000000) :
    ∃ v1 w1, (Builtin.append_ #[36, 36] ty #[v, y]).run Tryz.prog w = .ok v1 w1 ∧ TBO w1 base v1 (xs ++ ys) ∧ w.grownBy w1 v.ownBlock ∧ (v1.ownBlock = v.ownBlock ∨ v1.ownBlock = some w.heap.size) := by
  obtain ⟨i0, hi, hzz⟩ := Option.map_eq_some_iff.1 infoTB
  simp only [Prod.mk.injEq] at hzz
  obtain ⟨hz0, hz1, hz2⟩ := hzz
  obtain ⟨o, A, c, rfl, h1, h2, h3⟩ := HR
  have go : ∀ ad : Addr, A = some ad → (∀ j u, (ecells ys)[j]? = some u → w.cell? (ad.add j) = some u) → ∃ v1 w1, (Builtin.append_ #[36, 36] ty #[v, .slice A ys.length c]).run Tryz.prog w = .ok v1 w1 ∧ TBO w1 base v1 (xs ++ ys) ∧ w.grownBy w1 v.ownBlock ∧ (v1.ownBlock = v.ownBlock ∨ v1.ownBlock = some w.heap.size) := by
    rintro ad rfl hc
    obtain ⟨v1, w1, hr, k2, k3, _, k5⟩ := run_append_own_at (P := Tryz.prog) w base 36 ty 43 i0 (.agg #[.int .i64 0, .int .i64 0]) 2 16 Tryz.underlying36 hi hz0 hz1 hz2 rfl (by omega) v xs.length (ecells xs) HO ad ys.length c (ecells ys) (ecells_length ys) hc (ecells_one ys) (by simp only [maxLen]; omega) (by omega) hbase
    refine ⟨v1, w1, hr, ?_, k3, k5⟩
    unfold TBO
    rw [ecells_append, List.length_append]
    exact k2
  by_cases hn : ys = []
  · subst hn
    rcases A with _ | ad
    · refine ⟨v, w, ?_, by simpa using HO, World.grownBy.refl w _, .inl rfl⟩
      rcases HO.2 with ⟨rfl, hn⟩ | ⟨g, cap, cur, rfl, _, _, hnc, _⟩
      · simp [Builtin.append_, run_underlying Tryz.underlying36, sizeOf, typeInfo, hi, Builtin.lenOf, Builtin.firstCells, hz1]
      · simp [Builtin.append_, run_underlying Tryz.underlying36, sizeOf, typeInfo, hi, Builtin.lenOf, Builtin.firstCells, hnc, storeCells, hz1]
    · exact go ad rfl (fun j u hu => by simp [ecells] at hu)
  · obtain ⟨ha, hlt, hcell⟩ := h3 (List.length_pos_iff.2 hn)
    refine go ⟨g, o, none⟩ ha (fun j u hu => ?_)
    rw [add_none]
    have hj : j < ys.length * 2 := by
      have := (List.getElem?_eq_some_iff.1 hu).1
      rwa [ecells_length] at this
    obtain ⟨i, hi2⟩ : ∃ i, j = i * 2 ∨ j = i * 2 + 1 := ⟨j / 2, by omega⟩
    have e := ecells_get ys i (by omega)
    have hc := hcell i (by omega)
    rcases hi2 with rfl | rfl
    · rw [e.1] at hu
      injection hu with hu
      rw [← hu]
      exact hc.1
    · rw [e.2] at hu
      injection hu with hu
      rw [← hu, ← Nat.add_assoc]
      exact hc.2
section
variable {ops : Array Oper} {rest : List Oper} {o : Oper} {a : Act} {w : World} {Q : Exit → Act → World → Prop}
theorem TBO.append_on {base : Nat} {v : Value} {xs : List E2} (HO : TBO w base v xs) {g : Nat} {y : Value} {ys : List E2} (HR : TBR w g y ys) (hgd : o.guard = none) (s x : Operand)
    (ho : o.op = .call { callee := .builtin .append, args := #[s, x], argTypes := #[36, 36] }) (hs : a.eval s = v) (hx : a.eval x = y)
    (hbase : base ≤ w.heap.size) (hl : xs.length + ys.length ≤ 1000000000)
    (k : ∀ v1 w1, TBO w1 base v1 (xs ++ ys) → w.grownBy w1 v.ownBlock → (v1.ownBlock = v.ownBlock ∨ v1.ownBlock = some w.heap.size) → wpList Tryz.prog ops Q rest (a.put o.dst v1) w1) : wpList Tryz.prog ops Q (o :: rest) a w := by
  obtain ⟨v1, w1, hr, k2, k3, k5⟩ := TBO.append_run HO HR o.type hbase hl
  exact append_step hgd s x _ _ ho hs hx hr (k v1 w1 k2 k3 k5)
end
end Go.Proofs.YtjokfllldcjheaaGreatDoor.Tb
