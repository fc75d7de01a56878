/- Rows of what was met (ask.Met), as rows of edges are; slices.Equal at them, Same. Printed from XEr and XEe. -/
import Derived.Test.YthnpaiobjmneaaaDoorEe
namespace Go.Proofs.YthnpaiobjmneaaaDoor.Ak
open Go.RowKit Go.Proofs.YthnpaiobjmneaaaDoor.Ed
set_option linter.unusedVariables false
set_option linter.unusedSimpArgs false
set_option maxRecDepth 100000

/-- v is a slice, in block g from cell o, that reads as these edges -/
def MRo (w : World) (g o : Nat) (v : Value) (l : List E2) : Prop :=
  ∃ A c, v = .slice A l.length c ∧ l.length ≤ c ∧ c ≤ 9223372036854775807 ∧ (0 < l.length → A = some ⟨g, o, none⟩ ∧ g < w.heap.size ∧ ∀ i, i < l.length → w.cell? ⟨g, o + i * 2, none⟩ = some (.int .i64 (l.getD i (0, 0)).1) ∧ w.cell? ⟨g, o + i * 2 + 1, none⟩ = some (.int .i64 (l.getD i (0, 0)).2))
def MR (w : World) (g : Nat) (v : Value) (l : List E2) : Prop := ∃ o, MRo w g o v l
theorem MR.other {w w' : World} {g : Nat} {v : Value} {l : List E2} (h : MR w g v l) (hs : w.heap.size ≤ w'.heap.size) (hb : l ≠ [] → w'.heap[g]? = w.heap[g]?) : MR w' g v l := by
  obtain ⟨o, A, c, hv, h1, h2, h3⟩ := h
  refine ⟨o, A, c, hv, h1, h2, fun h => ?_⟩
  obtain ⟨ha, hl, hc⟩ := h3 h
  have hb := hb (by intro e; rw [e] at h; simp at h)
  refine ⟨ha, Nat.lt_of_lt_of_le hl hs, fun i hi => ?_⟩
  have e : ∀ k, w'.cell? ⟨g, k, none⟩ = w.cell? ⟨g, k, none⟩ := fun k => by simp only [World.cell?, hb]
  rw [e, e]
  exact hc i hi
theorem MR.kept {w w' : World} {g : Nat} {v : Value} {l : List E2} (h : MR w g v l) {row : Option Nat} (hg : w.grownBy w' row) (hr : l = [] ∨ some g ≠ row) : MR w' g v l := by
  have hl : l ≠ [] → g < w.heap.size := by
    obtain ⟨o, A, c, hv, h1, h2, h3⟩ := h
    exact fun e => (h3 (List.length_pos_iff.2 e)).2.1
  exact h.other hg.size fun e => hg.block g (hl e) (hr.resolve_left e)
theorem MR.lt {w : World} {g : Nat} {v : Value} {l : List E2} (h : MR w g v l) : l = [] ∨ g < w.heap.size := by
  by_cases e : l = []
  · exact .inl e
  · obtain ⟨o, A, c, hv, h1, h2, h3⟩ := h
    exact .inr (h3 (List.length_pos_iff.2 e)).2.1
theorem MR.later {w w' : World} {g : Nat} {v : Value} {l : List E2} (h : MR w g v l) (hb : Below w.heap.size w w') : MR w' g v l :=
  h.other hb.size fun e => hb.block g (h.lt.resolve_left e)
theorem MR.alloc {w : World} {g : Nat} {v : Value} {l : List E2} (h : MR w g v l) (o : Obj) : MR (w.alloc o) g v l := h.later ((Below.refl _ _).alloc (Nat.le_refl _) o)
theorem MR.drewN {w : World} {g : Nat} {v : Value} {l : List E2} (h : MR w g v l) (n : Nat) : MR (w.drewN n) g v l := h
theorem MR.nil (w : World) : MR w 0 (.slice none 0 0) [] := ⟨0, none, 0, rfl, Nat.le_refl _, by omega, fun h => by simp at h⟩
theorem MR.lit (w : World) (l : List E2) (cs : Array Value) (hcs : cs = (ecells l).toArray) (n : Nat) (hn : n = l.length) (h : l.length ≤ 9223372036854775807) : MR (w.alloc (.cells cs 47)) w.heap.size (.slice (some ⟨w.heap.size, 0, none⟩) n n) l := by
  subst hcs hn
  refine ⟨0, some ⟨w.heap.size, 0, none⟩, l.length, rfl, Nat.le_refl _, h, fun hp => ⟨rfl, by simp, fun i hi => ?_⟩⟩
  have e := ecells_get l i hi
  constructor
  · rw [cell_of_row _ w.heap.size _ _ _ _ (heap_alloc_new w _)]
    simpa using e.1
  · rw [cell_of_row _ w.heap.size _ _ _ _ (heap_alloc_new w _)]
    simpa using e.2

/-- v is a row of edges of the call's own -/
def MO (w : World) (base : Nat) (v : Value) (l : List E2) : Prop := w.ownsRow base 47 2 v l.length (ecells l)
theorem MO.nil (w : World) (base : Nat) : MO w base (.slice none 0 0) [] := World.ownsRow_nil w base 47 2
theorem MO.alloc {w : World} {base : Nat} {v : Value} {l : List E2} (h : MO w base v l) (o : Obj) : MO (w.alloc o) base v l := World.ownsRow.alloc h o
theorem MO.base {w : World} {base : Nat} {v : Value} {l : List E2} (h : MO w base v l) : ∀ k, v.ownBlock = some k → base ≤ k := fun k hk => (World.ownsRow.lt h k hk).1
theorem MO.lt {w : World} {base : Nat} {v : Value} {l : List E2} (h : MO w base v l) : ∀ k, v.ownBlock = some k → k < w.heap.size := fun k hk => (World.ownsRow.lt h k hk).2
theorem MO.kept {w w' : World} {base : Nat} {v : Value} {l : List E2} (h : MO w base v l) {row : Option Nat} (hg : w.grownBy w' row) (hr : v.ownBlock = none ∨ v.ownBlock ≠ row) : MO w' base v l := World.ownsRow.kept h hg hr
theorem MO.later {w w' : World} {base : Nat} {v : Value} {l : List E2} (h : MO w base v l) (hb : Below w.heap.size w w') : MO w' base v l :=
  h.kept (Ed.grown_below hb none) (by cases v.ownBlock <;> simp)
theorem MO.mono {w : World} {b b' : Nat} {v : Value} {l : List E2} (h : MO w b v l) (hb : b' ≤ b) : MO w b' v l := by
  refine ⟨h.1, ?_⟩
  rcases h.2 with h2 | ⟨g, cap, cur, hv, hg, hh⟩
  · exact .inl h2
  · exact .inr ⟨g, cap, cur, hv, Nat.le_trans hb hg, hh⟩
theorem MO.reads {w : World} {base : Nat} {v : Value} {l : List E2} (h : MO w base v l) : ∃ g, MR w g v l ∧ (l ≠ [] → v.ownBlock = some g) := by
  rcases h.2 with ⟨hv, hn⟩ | ⟨g, cap, cur, hv, hb, hh, hnc, hcm, hcs, htk⟩
  · exact ⟨0, ⟨0, none, 0, by rw [hv, hn], by omega, by omega, fun h => by omega⟩, fun e => absurd (List.eq_nil_of_length_eq_zero hn) e⟩
  · refine ⟨g, ⟨0, some ⟨g, 0, none⟩, cap, hv, hnc, by simp only [maxLen] at hcm; omega, fun _ => ⟨rfl, (Array.getElem?_eq_some_iff.1 hh).1, fun i hi => ?_⟩⟩, fun _ => by rw [hv]; rfl⟩
    have e := ecells_get l i hi
    have h0 := World.ownsRow.cells h (g := g) (by rw [hv]; rfl) _ _ e.1
    have h1 := World.ownsRow.cells h (g := g) (by rw [hv]; rfl) _ _ e.2
    rw [add_none] at h0 h1
    rw [Nat.add_assoc]
    exact ⟨h0, h1⟩
theorem MO.shape {w : World} {base : Nat} {v : Value} {l : List E2} (h : MO w base v l) : ∃ A c, v = .slice A l.length c ∧ l.length ≤ c ∧ c ≤ 9223372036854775807 := by
  rcases h.2 with ⟨rfl, e⟩ | ⟨g, cap, cur, rfl, -, -, hn, hm, -⟩
  · exact ⟨none, 0, by rw [e], by omega, by omega⟩
  · exact ⟨_, _, rfl, hn, by simp only [maxLen] at hm; omega⟩
theorem MO.fresh (w : World) (base : Nat) (hb : base ≤ w.heap.size) : MO (w.alloc (.cells #[] 47)) base (.slice (some ⟨w.heap.size, 0, none⟩) 0 0) [] :=
  World.ownsRow_lit w #[] 0 hb (by simp only [maxLen]; omega) rfl
theorem infoM : (Tryd.prog.info? 47).map (fun i => (i.zero, i.size, i.bytes)) = some (some (.agg #[.int .i64 0, .int .i64 0]), 2, 16) := by kernel_rfl
/-- append(v, ys...) -/
theorem MO.append_run {w : World} {base : Nat} {v : Value} {xs : List E2} (HO : MO w base v xs) {g : Nat} {y : Value} {ys : List E2} (HR : MR w g y ys) (ty : TypeId) (hbase : base ≤ w.heap.size) (hl : xs.length + ys.length ≤ 1000000000) :
    ∃ v1 w1, (Builtin.append_ #[38, 38] ty #[v, y]).run Tryd.prog w = .ok v1 w1 ∧ MO w1 base v1 (xs ++ ys) ∧ w.grownBy w1 v.ownBlock ∧ (v1.ownBlock = v.ownBlock ∨ v1.ownBlock = some w.heap.size) := by
  obtain ⟨i0, hi, hzz⟩ := Option.map_eq_some_iff.1 infoM
  simp only [Prod.mk.injEq] at hzz
  obtain ⟨hz0, hz1, hz2⟩ := hzz
  obtain ⟨o, A, c, rfl, h1, h2, h3⟩ := HR
  have go : ∀ ad : Addr, A = some ad → (∀ j u, (ecells ys)[j]? = some u → w.cell? (ad.add j) = some u) → ∃ v1 w1, (Builtin.append_ #[38, 38] ty #[v, .slice A ys.length c]).run Tryd.prog w = .ok v1 w1 ∧ MO w1 base v1 (xs ++ ys) ∧ w.grownBy w1 v.ownBlock ∧ (v1.ownBlock = v.ownBlock ∨ v1.ownBlock = some w.heap.size) := by
    rintro ad rfl hc
    obtain ⟨v1, w1, hr, k2, k3, _, k5⟩ := run_append_own_at (P := Tryd.prog) w base 38 ty 47 i0 (.agg #[.int .i64 0, .int .i64 0]) 2 16 Tryd.underlying38 hi hz0 hz1 hz2 rfl (by omega) v xs.length (ecells xs) HO ad ys.length c (ecells ys) (ecells_length ys) hc (ecells_one ys) (by simp only [maxLen]; omega) (by omega) hbase
    refine ⟨v1, w1, hr, ?_, k3, k5⟩
    unfold MO
    rw [ecells_append, List.length_append]
    exact k2
  by_cases hn : ys = []
  · subst hn
    rcases A with _ | ad
    · refine ⟨v, w, ?_, by simpa using HO, World.grownBy.refl w _, .inl rfl⟩
      rcases HO.2 with ⟨rfl, hn⟩ | ⟨g, cap, cur, rfl, _, _, hnc, _⟩
      · simp [Builtin.append_, run_underlying Tryd.underlying38, sizeOf, typeInfo, hi, Builtin.lenOf, Builtin.firstCells, hz1]
      · simp [Builtin.append_, run_underlying Tryd.underlying38, sizeOf, typeInfo, hi, Builtin.lenOf, Builtin.firstCells, hnc, storeCells, hz1]
    · exact go ad rfl (fun j u hu => by simp [ecells] at hu)
  · obtain ⟨ha, hlt, hcell⟩ := h3 (List.length_pos_iff.2 hn)
    refine go ⟨g, o, none⟩ ha (fun j u hu => ?_)
    rw [add_none]
    have hj : j < ys.length * 2 := by
      have := (List.getElem?_eq_some_iff.1 hu).1
      rwa [ecells_length] at this
    obtain ⟨i, hi2⟩ : ∃ i, j = i * 2 ∨ j = i * 2 + 1 := ⟨j / 2, by omega⟩
    have e := ecells_get ys i (by omega)
    have hc := hcell i (by omega)
    rcases hi2 with rfl | rfl
    · rw [e.1] at hu
      injection hu with hu
      rw [← hu]
      exact hc.1
    · rw [e.2] at hu
      injection hu with hu
      rw [← hu, ← Nat.add_assoc]
      exact hc.2
section
variable {ops : Array Oper} {rest : List Oper} {o : Oper} {a : Act} {w : World} {Q : Exit → Act → World → Prop}
theorem MO.append_on {base : Nat} {v : Value} {xs : List E2} (HO : MO w base v xs) {g : Nat} {y : Value} {ys : List E2} (HR : MR w g y ys) (hgd : o.guard = none) (s x : Operand)
    (ho : o.op = .call { callee := .builtin .append, args := #[s, x], argTypes := #[38, 38] }) (hs : a.eval s = v) (hx : a.eval x = y)
    (hbase : base ≤ w.heap.size) (hl : xs.length + ys.length ≤ 1000000000)
    (k : ∀ v1 w1, MO w1 base v1 (xs ++ ys) → w.grownBy w1 v.ownBlock → (v1.ownBlock = v.ownBlock ∨ v1.ownBlock = some w.heap.size) → wpList Tryd.prog ops Q rest (a.put o.dst v1) w1) : wpList Tryd.prog ops Q (o :: rest) a w := by
  obtain ⟨v1, w1, hr, k2, k3, k5⟩ := MO.append_run HO HR o.type hbase hl
  exact Ed.append_step hgd s x _ _ ho hs hx hr (k v1 w1 k2 k3 k5)
end

theorem eql_run (a b : E2) (w : World) : (binOp .eql 47 (.agg #[.int .i64 a.1, .int .i64 a.2]) (.agg #[.int .i64 b.1, .int .i64 b.2])).run Tryd.prog w = .ok (.bool (decide (a = b))) w := by
  have u3 := Tryd.underlying3
  have a3 := Tryd.isAgg3
  have z3 := Tryd.sizeOf3
  have hS : Tryd.prog.underlying 47 = some (.struct (Tryd.prog.fieldsOf 47)) := by kernel_rfl
  have hp : Tryd.prog.stoodInHeld 47 = false := by kernel_rfl
  rw [run_eql_struct, show (10000 : Nat) = 9999 + 1 from rfl, run_equalIn_agg w 9999 47 _ _ hS hp]
  simp only [Program.fieldsOf, Tryd.underlying47]
  go_simp
  obtain ⟨x, x'⟩ := a
  obtain ⟨y, y'⟩ := b
  by_cases h1 : x = y <;> by_cases h2 : x' = y' <;> simp [h1, h2]
theorem neq_run (a b : E2) (w : World) : (binOp .neq 47 (.agg #[.int .i64 a.1, .int .i64 a.2]) (.agg #[.int .i64 b.1, .int .i64 b.2])).run Tryd.prog w = .ok (.bool (!decide (a = b))) w := by
  have u3 := Tryd.underlying3
  have a3 := Tryd.isAgg3
  have z3 := Tryd.sizeOf3
  have hS : Tryd.prog.underlying 47 = some (.struct (Tryd.prog.fieldsOf 47)) := by kernel_rfl
  have hp : Tryd.prog.stoodInHeld 47 = false := by kernel_rfl
  rw [run_neq_struct, show (10000 : Nat) = 9999 + 1 from rfl, run_equalIn_agg w 9999 47 _ _ hS hp]
  simp only [Program.fieldsOf, Tryd.underlying47]
  go_simp
  obtain ⟨x, x'⟩ := a
  obtain ⟨y, y'⟩ := b
  by_cases h1 : x = y <;> by_cases h2 : x' = y' <;> simp [h1, h2]
theorem guard_run (op : BinOp) (p q : Operand) (a b : E2) (w : World) : (eqGuard op 47 p q (.agg #[.int .i64 a.1, .int .i64 a.2]) (.agg #[.int .i64 b.1, .int .i64 b.2])).run Tryd.prog w = .ok () w :=
  run_eqGuard_agg w op 47 p q _ _ (by kernel_rfl)
set_option maxHeartbeats 2000000 in
set_option maxRecDepth 100000 in
/-- slices.Equal -/
theorem equal_calls (g1 g2 : Nat) (v1 v2 : Value) (a b : List E2) (w : World) (h1 : MR w g1 v1 a) (h2 : MR w g2 v2 b) :
    Calls Tryd.prog 71 #[v1, v2] w fun e w' => e = .returned (.bool (decide (a = b))) ∧ ∃ q, w' = w.drewN q := by
  obtain ⟨o1, A1, c1, rfl, hc1, hm1, hr1⟩ := h1
  obtain ⟨o2, A2, c2, rfl, hc2, hm2, hr2⟩ := h2
  obtain ⟨n, hn⟩ : ∃ n, a.length = n := ⟨_, rfl⟩
  obtain ⟨m, hm⟩ : ∃ m, b.length = m := ⟨_, rfl⟩
  rw [hn] at hc1 hr1 ⊢
  rw [hm] at hc2 hr2 ⊢
  by_cases hnm : n = m
  case neg =>
    have hd : decide (a = b) = false := decide_eq_false (fun e => hnm (by rw [← hn, ← hm, e]))
    have hb : ((n : Int) != (m : Int)) = true := by rw [bne_iff_ne]; omega
    rw [hd]
    clear hd hn hm hnm hr1 hr2
    go_enter Tryd.func71, Tryd.ntmps71
    go_wp2
    go_ret
    exact ⟨rfl, 0, rfl⟩
  case pos =>
    subst hnm
    have HN := Lib.hid hn
    have HM := Lib.hid hm
    have H1 := Lib.hid hr1
    have H2 := Lib.hid hr2
    obtain ⟨r, hr⟩ : ∃ r, decide (a = b) = r := ⟨_, rfl⟩
    rw [hr]
    have HR := Lib.hid hr
    clear hn hm hr1 hr2 hr
    have hb : ((n : Int) != (n : Int)) = false := by simp
    go_enter Tryd.func71, Tryd.ntmps71
    go_wp2
    go_loopw [13] (fun i wr => ∃ (k q : Nat), i = .int .i64 (k : Int) ∧ k ≤ n ∧ Hid (samE a b k) ∧ wr = w.drewN q) (fun i _ => n - (intOf i).toNat)
    case atStart => exact ⟨0, 0, rfl, by omega, Lib.hid (fun j hj => by omega), rfl⟩
    case round =>
      obtain ⟨k, q, rfl, hk, HS, rfl⟩ := hrel
      by_cases hlt : k < n
      · obtain ⟨rfl, -, hq1⟩ := H1.out (by omega)
        obtain ⟨rfl, -, hq2⟩ := H2.out (by omega)
        obtain ⟨q1, q3⟩ := hq1 k hlt
        obtain ⟨q2, q4⟩ := hq2 k hlt
        clear hq1 hq2
        obtain ⟨⟨x, x'⟩, hx⟩ : ∃ x, a.getD k (0, 0) = x := ⟨_, rfl⟩
        obtain ⟨⟨y, y'⟩, hy⟩ : ∃ y, b.getD k (0, 0) = y := ⟨_, rfl⟩
        rw [hx] at q1 q3
        rw [hy] at q2 q4
        simp only at q1 q2 q3 q4
        have HX := Lib.hid hx
        have HY := Lib.hid hy
        clear hx hy
        have i0 : (0 : Int) ≤ (k : Int) := by omega
        have i1 : (k : Int) < (n : Int) := by omega
        have hgd := fun (op : BinOp) (p q : Operand) (w : World) => guard_run op p q (x, x') (y, y') w
        simp only at hgd
        by_cases hxy : (x, x') = (y, y')
        · have hne : ∀ w, (binOp .neq 47 (.agg #[.int .i64 x, .int .i64 x']) (.agg #[.int .i64 y, .int .i64 y'])).run Tryd.prog w = .ok (.bool false) w := fun w => by
            have := neq_run (x, x') (y, y') w
            rwa [decide_eq_true hxy] at this
          have HXY : Hid (samE a b (k + 1)) := Lib.hid (samE_succ HS.out (by rw [HX.out, HY.out, hxy]))
          clear hxy
          go_upto_region 6 with (fail)
          go_quiet (fail)
          go_wp2
          go_roundw
          case rel => exact ⟨k + 1, q + nq, by go_num, by omega, HXY, rfl⟩
          case measure => simp [intOf]; omega
        · have hne : ∀ w, (binOp .neq 47 (.agg #[.int .i64 x, .int .i64 x']) (.agg #[.int .i64 y, .int .i64 y'])).run Tryd.prog w = .ok (.bool true) w := fun w => by
            have := neq_run (x, x') (y, y') w
            rwa [decide_eq_false hxy] at this
          have hd : r = false := by rw [← HR.out]; exact decide_eq_false (fun e => hxy (by rw [← HX.out, ← HY.out, e]))
          subst hd
          clear hxy
          go_upto_region 6 with (fail)
          go_quiet (fail)
          go_wp2
          go_ret
          exact ⟨rfl, q + nq, rfl⟩
      · obtain rfl : k = n := by omega
        have hd : r = true := by rw [← HR.out]; exact decide_eq_true (samE_all (by rw [HN.out, HM.out]) (by rw [HN.out]; exact HS.out))
        subst hd
        clear hlt
        go_wp2
        go_ret
        exact ⟨rfl, q, rfl⟩

set_option maxHeartbeats 1000000 in
theorem same_calls (g1 g2 : Nat) (v1 v2 : Value) (a b : List E2) (w : World) (h1 : MR w g1 v1 a) (h2 : MR w g2 v2 b) :
    Calls Tryd.prog 50 #[v1, v2] w fun e w' => e = .returned (.bool (decide (a = b))) ∧ ∃ q, w' = w.drewN q := by
  have HE := Lib.hid (equal_calls g1 g2 v1 v2 a b w h1 h2)
  obtain ⟨o1, A1, c1, rfl, -⟩ := h1
  obtain ⟨o2, A2, c2, rfl, -⟩ := h2
  generalize a.length = n at *
  generalize b.length = m at *
  generalize decide (a = b) = r at *
  go_enter Tryd.func50, Tryd.ntmps50
  go_wp2_with (go_at_call 71; refine HE.out.mono ?_; rintro e w' ⟨rfl, q, rfl⟩)
  go_ret
  exact ⟨rfl, q, rfl⟩
end Go.Proofs.YthnpaiobjmneaaaDoor.Ak
