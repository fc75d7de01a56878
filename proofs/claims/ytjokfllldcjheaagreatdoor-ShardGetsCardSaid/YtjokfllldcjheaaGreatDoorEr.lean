/- Rows of edges in memory: read (ER), of the call's own (EO), appended to; an argument opened. -/
import Derived.Test.YtjokfllldcjheaaGreatDoorProg
import Derived.Test.YtjokfllldcjheaaGreatDoorEp
import Derived.WalkKit
import Derived.Maps.AppendAt
import Derived.OpenShut
import Derived.Deep.SlicePairs
import Derived.Lib.Hide
import Derived.Deep.Draws
namespace Go.Proofs.YtjokfllldcjheaaGreatDoor.Ed
open Go.RowKit
set_option linter.unusedVariables false
set_option linter.unusedSimpArgs false
set_option maxRecDepth 100000

/-- an edge's two cells -/
def enc (x : E2) : List Value := [.int .i64 x.1, .int .i64 x.2]
/-- the cells of edges -/
def ecells (l : List E2) : List Value := l.flatMap enc
theorem ecells_length (l : List E2) : (ecells l).length = l.length * 2 := by
  induction l with
  | nil => rfl
  | cons p l ih =>
    show (Value.int .i64 p.1 :: Value.int .i64 p.2 :: ecells l).length = _
    simp [ih]; omega
theorem ecells_append (xs ys : List E2) : ecells (xs ++ ys) = ecells xs ++ ecells ys := by simp [ecells]
theorem ecells_get (l : List E2) : ∀ i, i < l.length → (ecells l)[i * 2]? = some (.int .i64 (l.getD i (0, 0)).1) ∧ (ecells l)[i * 2 + 1]? = some (.int .i64 (l.getD i (0, 0)).2) := by
  induction l with
  | nil => intro i h; simp at h
  | cons p l ih =>
    intro i h
    show (Value.int .i64 p.1 :: Value.int .i64 p.2 :: ecells l)[i * 2]? = _ ∧ (Value.int .i64 p.1 :: Value.int .i64 p.2 :: ecells l)[i * 2 + 1]? = _
    cases i with
    | zero => exact ⟨rfl, rfl⟩
    | succ i =>
      have := ih i (by simpa using h)
      rw [show (i + 1) * 2 = i * 2 + 1 + 1 by omega]
      simpa using this
theorem ecells_one (l : List E2) : ∀ u ∈ ecells l, u.oneCell' = true := by
  intro u hu
  obtain ⟨p, _, hp⟩ := List.mem_flatMap.1 hu
  simp only [enc, List.mem_cons, List.not_mem_nil, or_false] at hp
  rcases hp with rfl | rfl <;> rfl
theorem add_none (g o i : Nat) : (⟨g, o, none⟩ : Addr).add i = ⟨g, o + i, none⟩ := by unfold Addr.add; split <;> simp_all
/-- v is a slice, in block g from cell o, that reads as these edges -/
def ERo (w : World) (g o : Nat) (v : Value) (l : List E2) : Prop :=
  ∃ A c, v = .slice A l.length c ∧ l.length ≤ c ∧ c ≤ 9223372036854775807 ∧ (0 < l.length → A = some ⟨g, o, none⟩ ∧ g < w.heap.size ∧ ∀ i, i < l.length → w.cell? ⟨g, o + i * 2, none⟩ = some (.int .i64 (l.getD i (0, 0)).1) ∧ w.cell? ⟨g, o + i * 2 + 1, none⟩ = some (.int .i64 (l.getD i (0, 0)).2))
def ER (w : World) (g : Nat) (v : Value) (l : List E2) : Prop := ∃ o, ERo w g o v l
theorem ER.other {w w' : World} {g : Nat} {v : Value} {l : List E2} (h : ER w g v l) (hs : w.heap.size ≤ w'.heap.size) (hb : l ≠ [] → w'.heap[g]? = w.heap[g]?) : ER w' g v l := by
  obtain ⟨o, A, c, hv, h1, h2, h3⟩ := h
  refine ⟨o, A, c, hv, h1, h2, fun h => ?_⟩
  obtain ⟨ha, hl, hc⟩ := h3 h
  have hb := hb (by intro e; rw [e] at h; simp at h)
  refine ⟨ha, Nat.lt_of_lt_of_le hl hs, fun i hi => ?_⟩
  have e : ∀ k, w'.cell? ⟨g, k, none⟩ = w.cell? ⟨g, k, none⟩ := fun k => by simp only [World.cell?, hb]
  rw [e, e]
  exact hc i hi
theorem ER.kept {w w' : World} {g : Nat} {v : Value} {l : List E2} (h : ER w g v l) {row : Option Nat} (hg : w.grownBy w' row) (hr : l = [] ∨ some g ≠ row) : ER w' g v l := by
  have hl : l ≠ [] → g < w.heap.size := by
    obtain ⟨o, A, c, hv, h1, h2, h3⟩ := h
    exact fun e => (h3 (List.length_pos_iff.2 e)).2.1
  exact h.other hg.size fun e => hg.block g (hl e) (hr.resolve_left e)
theorem ER.lt {w : World} {g : Nat} {v : Value} {l : List E2} (h : ER w g v l) : l = [] ∨ g < w.heap.size := by
  by_cases e : l = []
  · exact .inl e
  · obtain ⟨o, A, c, hv, h1, h2, h3⟩ := h
    exact .inr (h3 (List.length_pos_iff.2 e)).2.1
theorem ER.later {w w' : World} {g : Nat} {v : Value} {l : List E2} (h : ER w g v l) (hb : Below w.heap.size w w') : ER w' g v l :=
  h.other hb.size fun e => hb.block g (h.lt.resolve_left e)
theorem ER.alloc {w : World} {g : Nat} {v : Value} {l : List E2} (h : ER w g v l) (o : Obj) : ER (w.alloc o) g v l := h.later ((Below.refl _ _).alloc (Nat.le_refl _) o)
theorem ER.drewN {w : World} {g : Nat} {v : Value} {l : List E2} (h : ER w g v l) (n : Nat) : ER (w.drewN n) g v l := h
theorem ER.nil (w : World) : ER w 0 (.slice none 0 0) [] := ⟨0, none, 0, rfl, Nat.le_refl _, by omega, fun h => by simp at h⟩
theorem ER.lit (w : World) (l : List E2) (cs : Array Value) (hcs : cs = (ecells l).toArray) (n : Nat) (hn : n = l.length) (h : l.length ≤ 9223372036854775807) : ER (w.alloc (.cells cs 68)) w.heap.size (.slice (some ⟨w.heap.size, 0, none⟩) n n) l := by
  subst hcs hn
  refine ⟨0, some ⟨w.heap.size, 0, none⟩, l.length, rfl, Nat.le_refl _, h, fun hp => ⟨rfl, by simp, fun i hi => ?_⟩⟩
  have e := ecells_get l i hi
  constructor
  · rw [cell_of_row _ w.heap.size _ _ _ _ (heap_alloc_new w _)]
    simpa using e.1
  · rw [cell_of_row _ w.heap.size _ _ _ _ (heap_alloc_new w _)]
    simpa using e.2

/-- v is a row of edges of the call's own -/
def EO (w : World) (base : Nat) (v : Value) (l : List E2) : Prop := w.ownsRow base 68 2 v l.length (ecells l)
theorem EO.nil (w : World) (base : Nat) : EO w base (.slice none 0 0) [] := World.ownsRow_nil w base 68 2
theorem EO.alloc {w : World} {base : Nat} {v : Value} {l : List E2} (h : EO w base v l) (o : Obj) : EO (w.alloc o) base v l := World.ownsRow.alloc h o
theorem EO.base {w : World} {base : Nat} {v : Value} {l : List E2} (h : EO w base v l) : ∀ k, v.ownBlock = some k → base ≤ k := fun k hk => (World.ownsRow.lt h k hk).1
theorem EO.lt {w : World} {base : Nat} {v : Value} {l : List E2} (h : EO w base v l) : ∀ k, v.ownBlock = some k → k < w.heap.size := fun k hk => (World.ownsRow.lt h k hk).2
theorem EO.kept {w w' : World} {base : Nat} {v : Value} {l : List E2} (h : EO w base v l) {row : Option Nat} (hg : w.grownBy w' row) (hr : v.ownBlock = none ∨ v.ownBlock ≠ row) : EO w' base v l := World.ownsRow.kept h hg hr
theorem grown_below {w w1 : World} (h : Below w.heap.size w w1) (row : Option Nat) : w.grownBy w1 row := ⟨h.os, h.tape, h.output, h.size, fun i hi _ => h.block i hi⟩
theorem EO.later {w w' : World} {base : Nat} {v : Value} {l : List E2} (h : EO w base v l) (hb : Below w.heap.size w w') : EO w' base v l :=
  h.kept (grown_below hb none) (by cases v.ownBlock <;> simp)
theorem EO.mono {w : World} {b b' : Nat} {v : Value} {l : List E2} (h : EO w b v l) (hb : b' ≤ b) : EO w b' v l := by
  refine ⟨h.1, ?_⟩
  rcases h.2 with h2 | ⟨g, cap, cur, hv, hg, hh⟩
  · exact .inl h2
  · exact .inr ⟨g, cap, cur, hv, Nat.le_trans hb hg, hh⟩
theorem EO.reads {w : World} {base : Nat} {v : Value} {l : List E2} (h : EO w base v l) : ∃ g, ER w g v l ∧ (l ≠ [] → v.ownBlock = some g) := by
  rcases h.2 with ⟨hv, hn⟩ | ⟨g, cap, cur, hv, hb, hh, hnc, hcm, hcs, htk⟩
  · exact ⟨0, ⟨0, none, 0, by rw [hv, hn], by omega, by omega, fun h => by omega⟩, fun e => absurd (List.eq_nil_of_length_eq_zero hn) e⟩
  · refine ⟨g, ⟨0, some ⟨g, 0, none⟩, cap, hv, hnc, by simp only [maxLen] at hcm; omega, fun _ => ⟨rfl, (Array.getElem?_eq_some_iff.1 hh).1, fun i hi => ?_⟩⟩, fun _ => by rw [hv]; rfl⟩
    have e := ecells_get l i hi
    have h0 := World.ownsRow.cells h (g := g) (by rw [hv]; rfl) _ _ e.1
    have h1 := World.ownsRow.cells h (g := g) (by rw [hv]; rfl) _ _ e.2
    rw [add_none] at h0 h1
    rw [Nat.add_assoc]
    exact ⟨h0, h1⟩
theorem EO.shape {w : World} {base : Nat} {v : Value} {l : List E2} (h : EO w base v l) : ∃ A c, v = .slice A l.length c ∧ l.length ≤ c ∧ c ≤ 9223372036854775807 := by
  rcases h.2 with ⟨rfl, e⟩ | ⟨g, cap, cur, rfl, -, -, hn, hm, -⟩
  · exact ⟨none, 0, by rw [e], by omega, by omega⟩
  · exact ⟨_, _, rfl, hn, by simp only [maxLen] at hm; omega⟩
theorem EO.fresh (w : World) (base : Nat) (hb : base ≤ w.heap.size) : EO (w.alloc (.cells #[] 68)) base (.slice (some ⟨w.heap.size, 0, none⟩) 0 0) [] :=
  World.ownsRow_lit w #[] 0 hb (by simp only [maxLen]; omega) rfl
theorem infoE : (Tryz.prog.info? 68).map (fun i => (i.zero, i.size, i.bytes)) = some (some (.agg #[.int .i64 0, .int .i64 0]), 2, 16) := by kernel_rfl
/-- append(v, ys...) -/
theorem EO.append_run {w : World} {base : Nat} {v : Value} {xs : List E2} (HO : EO w base v xs) {g : Nat} {y : Value} {ys : List E2} (HR : ER w g y ys) (ty : TypeId) (hbase : base ≤ w.heap.size) (hl : xs.length + ys.length ≤ 1000000000) :
    ∃ v1 w1, (Builtin.append_ #[22, 22] ty #[v, y]).run Tryz.prog w = .ok v1 w1 ∧ EO w1 base v1 (xs ++ ys) ∧ w.grownBy w1 v.ownBlock ∧ (v1.ownBlock = v.ownBlock ∨ v1.ownBlock = some w.heap.size) := by
  obtain ⟨i0, hi, hzz⟩ := Option.map_eq_some_iff.1 infoE
  simp only [Prod.mk.injEq] at hzz
  obtain ⟨hz0, hz1, hz2⟩ := hzz
  obtain ⟨o, A, c, rfl, h1, h2, h3⟩ := HR
  have go : ∀ ad : Addr, A = some ad → (∀ j u, (ecells ys)[j]? = some u → w.cell? (ad.add j) = some u) → ∃ v1 w1, (Builtin.append_ #[22, 22] ty #[v, .slice A ys.length c]).run Tryz.prog w = .ok v1 w1 ∧ EO w1 base v1 (xs ++ ys) ∧ w.grownBy w1 v.ownBlock ∧ (v1.ownBlock = v.ownBlock ∨ v1.ownBlock = some w.heap.size) := by
    rintro ad rfl hc
    obtain ⟨v1, w1, hr, k2, k3, _, k5⟩ := run_append_own_at (P := Tryz.prog) w base 22 ty 68 i0 (.agg #[.int .i64 0, .int .i64 0]) 2 16 Tryz.underlying22 hi hz0 hz1 hz2 rfl (by omega) v xs.length (ecells xs) HO ad ys.length c (ecells ys) (ecells_length ys) hc (ecells_one ys) (by simp only [maxLen]; omega) (by omega) hbase
    refine ⟨v1, w1, hr, ?_, k3, k5⟩
    unfold EO
    rw [ecells_append, List.length_append]
    exact k2
  by_cases hn : ys = []
  · subst hn
    rcases A with _ | ad
    · refine ⟨v, w, ?_, by simpa using HO, World.grownBy.refl w _, .inl rfl⟩
      rcases HO.2 with ⟨rfl, hn⟩ | ⟨g, cap, cur, rfl, _, _, hnc, _⟩
      · simp [Builtin.append_, run_underlying Tryz.underlying22, sizeOf, typeInfo, hi, Builtin.lenOf, Builtin.firstCells, hz1]
      · simp [Builtin.append_, run_underlying Tryz.underlying22, sizeOf, typeInfo, hi, Builtin.lenOf, Builtin.firstCells, hnc, storeCells, hz1]
    · exact go ad rfl (fun j u hu => by simp [ecells] at hu)
  · obtain ⟨ha, hlt, hcell⟩ := h3 (List.length_pos_iff.2 hn)
    refine go ⟨g, o, none⟩ ha (fun j u hu => ?_)
    rw [add_none]
    have hj : j < ys.length * 2 := by
      have := (List.getElem?_eq_some_iff.1 hu).1
      rwa [ecells_length] at this
    obtain ⟨i, hi2⟩ : ∃ i, j = i * 2 ∨ j = i * 2 + 1 := ⟨j / 2, by omega⟩
    have e := ecells_get ys i (by omega)
    have hc := hcell i (by omega)
    rcases hi2 with rfl | rfl
    · rw [e.1] at hu
      injection hu with hu
      rw [← hu]
      exact hc.1
    · rw [e.2] at hu
      injection hu with hu
      rw [← hu, ← Nat.add_assoc]
      exact hc.2
theorem append_step {P : Program} {ops : Array Oper} {rest : List Oper} {o : Oper} {a : Act} {w : World} {Q : Exit → Act → World → Prop} (hgd : o.guard = none) (s x : Operand) (t t' : TypeId)
    (ho : o.op = .call { callee := .builtin .append, args := #[s, x], argTypes := #[t, t'] }) {v y v1 : Value} {w1 : World} (hs : a.eval s = v) (hx : a.eval x = y)
    (hr : (Builtin.append_ #[t, t'] o.type #[v, y]).run P w = .ok v1 w1) (k : wpList P ops Q rest (a.put o.dst v1) w1) : wpList P ops Q (o :: rest) a w := by
  refine wpList_plain hgd fun K hK => ?_
  unfold Oper.wp execOp
  simp only [ho, resolve, invoke, builtin, Sem.run_bind, Sem.run_pure, Result.andThen_ok, List.map_toArray, List.map_cons, List.map_nil, hs, hx, hr]
  exact hK _ _ k
section
variable {ops : Array Oper} {rest : List Oper} {o : Oper} {a : Act} {w : World} {Q : Exit → Act → World → Prop}
theorem EO.append_on {base : Nat} {v : Value} {xs : List E2} (HO : EO w base v xs) {g : Nat} {y : Value} {ys : List E2} (HR : ER w g y ys) (hgd : o.guard = none) (s x : Operand)
    (ho : o.op = .call { callee := .builtin .append, args := #[s, x], argTypes := #[22, 22] }) (hs : a.eval s = v) (hx : a.eval x = y)
    (hbase : base ≤ w.heap.size) (hl : xs.length + ys.length ≤ 1000000000)
    (k : ∀ v1 w1, EO w1 base v1 (xs ++ ys) → w.grownBy w1 v.ownBlock → (v1.ownBlock = v.ownBlock ∨ v1.ownBlock = some w.heap.size) → wpList Tryz.prog ops Q rest (a.put o.dst v1) w1) : wpList Tryz.prog ops Q (o :: rest) a w := by
  obtain ⟨v1, w1, hr, k2, k3, k5⟩ := EO.append_run HO HR o.type hbase hl
  exact append_step hgd s x _ _ ho hs hx hr (k v1 w1 k2 k3 k5)
end

open Go.ChangeShapes Go.WideShapes Go.Deep in
/-- an argument: a slice of edges -/
theorem edges_open {H : Type} {enc : TypeId × Value → H} {W : World} {base : Nat} {spare : Nat → Bool} {held : Bool} {d : DataW H}
    {a : Option Addr} {len cap : Nat} {cs : List Value} (hcs0 : cs = [.slice a len cap]) {fuel : Nat} {p : List MemPlace} (h : DataW.trod enc Tryz.prog W base spare held fuel 22 cs = some (d, p)) :
    ∃ g l, ER W g (.slice a len cap) l ∧ ∀ e ∈ l, (-9223372036854775808 ≤ e.1 ∧ e.1 < 9223372036854775808) ∧ (-9223372036854775808 ≤ e.2 ∧ e.2 < 9223372036854775808) := by
  rcases open_slice_pairs Tryz.underlying22 Tryz.underlying68 (by kernel_rfl) rfl rfl (by kernel_rfl) (by kernel_rfl) h with ⟨hcs, hx⟩ | ⟨x, l, c, m, n, V0, V1, D0, D1, P0, P1, hcs, _, hl, hm, hmm, hx, hcell⟩
  · rw [hcs0] at hcs
    injection hcs with hcs _
    injection hcs with h1 h2 h3
    subst h1 h2 h3
    exact ⟨0, [], ER.nil W, by simp⟩
  · rw [hcs0] at hcs
    injection hcs with hcs _
    injection hcs with h1 h2 h3
    subst h1 h2 h3
    have hlm : len ≤ m := by rw [hmm]; split <;> omega
    have hv : ∀ i, i < len → ∃ q : Int × Int, V0 i = .int .i64 q.1 ∧ V1 i = .int .i64 q.2 ∧ (Lit.int .i64 q.1).wf = true ∧ (Lit.int .i64 q.2).wf = true := by
      intro i hi
      obtain ⟨_, _, t0, t1⟩ := hcell i (by omega)
      obtain ⟨z0, e0, _, w0⟩ := DataW.trod_int Tryz.underlying3 t0
      obtain ⟨z1, e1, _, w1⟩ := DataW.trod_int Tryz.underlying3 t1
      injection e0 with e0 _
      injection e1 with e1 _
      exact ⟨(z0, z1), e0, e1, w0, w1⟩
    obtain ⟨q, hq⟩ := choose_lt hv
    have hlen : ((List.range len).map q).length = len := by simp
    obtain ⟨xb, xo, xs⟩ := x
    have hget : ∀ i, i < len → ((List.range len).map q).getD i (0, 0) = q i := fun i hi => by simp [List.getD_eq_getElem?_getD, hi]
    refine ⟨xb, (List.range len).map q, ⟨xo, some ⟨xb, xo, xs⟩, cap, by rw [hlen], by rw [hlen]; exact hl, by simpa [maxLen] using hm, fun h => ?_⟩, fun e he => ?_⟩
    · rw [hlen] at h ⊢
      obtain ⟨c0, _⟩ := hcell 0 (by omega)
      have hsp : xs = none := by
        cases xs with
        | none => rfl
        | some q =>
          exfalso
          simp only [Addr.add, World.cell?, if_pos] at c0
          split at c0 <;> simp at c0
      subst hsp
      refine ⟨rfl, ?_, fun i hi => ?_⟩
      · have := World.block_lt_of_cell? _ _ c0
        rw [add_none] at this
        exact this
      · obtain ⟨c0, c1, _, _⟩ := hcell i (by omega)
        obtain ⟨q0, q1, _, _⟩ := hq i hi
        rw [add_none] at c0 c1
        rw [hget i hi, Nat.add_assoc, c0, c1, q0, q1]
        exact ⟨rfl, rfl⟩
    · obtain ⟨i, hi, rfl⟩ := List.mem_map.1 he
      obtain ⟨_, _, w0, w1⟩ := hq i (List.mem_range.1 hi)
      have b0 := bounds_i64 w0
      have b1 := bounds_i64 w1
      exact ⟨by omega, by omega⟩
end Go.Proofs.YtjokfllldcjheaaGreatDoor.Ed
