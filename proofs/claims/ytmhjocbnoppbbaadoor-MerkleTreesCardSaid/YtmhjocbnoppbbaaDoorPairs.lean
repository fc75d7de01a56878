/- Rows of pairs of texts: read, owned, appended to. -/
import Derived.Test.YtmhjocbnoppbbaaDoorTxt
namespace Go.Proofs.YtmhjocbnoppbbaaDoor.Mk
open Go.RowKit Go.Proofs.YtmhjocbnoppbbaaDoor.Sha
set_option linter.unusedVariables false
set_option linter.unusedSimpArgs false

/-- the cells of pairs -/
def pcells (ps : List (ByteArray × ByteArray)) : List Value := ps.flatMap fun p => [Value.string p.1, Value.string p.2]
theorem pcells_length (ps : List (ByteArray × ByteArray)) : (pcells ps).length = ps.length * 2 := by
  induction ps with
  | nil => rfl
  | cons p ps ih =>
    show (Value.string p.1 :: Value.string p.2 :: pcells ps).length = _
    simp [ih]; omega
theorem pcells_append (xs ys : List (ByteArray × ByteArray)) : pcells (xs ++ ys) = pcells xs ++ pcells ys := by simp [pcells]
theorem pcells_get (ps : List (ByteArray × ByteArray)) : ∀ i, i < ps.length → (pcells ps)[2 * i]? = some (.string (ps.getD i (ByteArray.empty, ByteArray.empty)).1) ∧ (pcells ps)[2 * i + 1]? = some (.string (ps.getD i (ByteArray.empty, ByteArray.empty)).2) := by
  induction ps with
  | nil => intro i h; simp at h
  | cons p ps ih =>
    intro i h
    show (Value.string p.1 :: Value.string p.2 :: pcells ps)[2 * i]? = _ ∧ (Value.string p.1 :: Value.string p.2 :: pcells ps)[2 * i + 1]? = _
    cases i with
    | zero => exact ⟨rfl, rfl⟩
    | succ i =>
      have := ih i (by simpa using h)
      rw [show 2 * (i + 1) = 2 * i + 1 + 1 by omega]
      simpa using this
theorem pcells_one (ps : List (ByteArray × ByteArray)) : ∀ u ∈ pcells ps, u.oneCell' = true := by
  intro u hu
  obtain ⟨p, _, hp⟩ := List.mem_flatMap.1 hu
  simp only [List.mem_cons, List.not_mem_nil, or_false] at hp
  rcases hp with rfl | rfl <;> rfl
/-- v is a slice, at the head of block g, that reads as these pairs -/
def PRd (w : World) (g : Nat) (v : Value) (ps : List (ByteArray × ByteArray)) : Prop :=
  ∃ A c, v = .slice A ps.length c ∧ ps.length ≤ c ∧ c ≤ 9223372036854775807 ∧ (0 < ps.length → A = some ⟨g, 0, none⟩ ∧ g < w.heap.size ∧ ∀ (j : Nat) u, (pcells ps)[j]? = some u → w.cell? ⟨g, j, none⟩ = some u)
theorem PRd.kept {w w' : World} {g : Nat} {v : Value} {ps : List (ByteArray × ByteArray)} (h : PRd w g v ps) {row : Option Nat} (hg : w.grownBy w' row) (hr : some g ≠ row) : PRd w' g v ps := by
  obtain ⟨A, c, hv, h1, h2, h3⟩ := h
  refine ⟨A, c, hv, h1, h2, fun h => ?_⟩
  obtain ⟨ha, hl, hc⟩ := h3 h
  exact ⟨ha, Nat.lt_of_lt_of_le hl hg.size, fun j u hu => hg.cell (hc j u hu) hr⟩
theorem PRd.lt {w : World} {g : Nat} {v : Value} {ps : List (ByteArray × ByteArray)} (h : PRd w g v ps) (hp : 0 < ps.length) : g < w.heap.size := by
  obtain ⟨A, c, hv, h1, h2, h3⟩ := h
  exact (h3 hp).2.1
theorem PRd.lit (w : World) (a b : ByteArray) : PRd (w.alloc (.cells #[.string a, .string b] 85)) w.heap.size (.slice (some ⟨w.heap.size, 0, none⟩) 1 1) [(a, b)] := by
  refine ⟨_, _, rfl, Nat.le_refl _, by omega, fun _ => ⟨rfl, by simp, fun j u hu => ?_⟩⟩
  rw [cell_of_row _ w.heap.size j _ _ _ (heap_alloc_new w _)]
  have hj : j < 2 := by
    have := (List.getElem?_eq_some_iff.1 hu).1
    simpa [pcells] using this
  have : j = 0 ∨ j = 1 := by omega
  rcases this with rfl | rfl <;> simpa [pcells] using hu
theorem PRd.later {w w' : World} {g : Nat} {v : Value} {ps : List (ByteArray × ByteArray)} (h : PRd w g v ps) (hb : Below w.heap.size w w') : PRd w' g v ps := by
  obtain ⟨A, c, hv, h1, h2, h3⟩ := h
  refine ⟨A, c, hv, h1, h2, fun h => ?_⟩
  obtain ⟨ha, hl, hc⟩ := h3 h
  exact ⟨ha, Nat.lt_of_lt_of_le hl hb.size, fun j u hu => (hb.cell (p := ⟨g, j, none⟩) hl).trans (hc j u hu)⟩
/-- v is a row of pairs of the call's own -/
def PO (w : World) (base : Nat) (v : Value) (ps : List (ByteArray × ByteArray)) : Prop := w.ownsRow base 85 2 v ps.length (pcells ps)
theorem PO.alloc {w : World} {base : Nat} {v : Value} {ss : List (ByteArray × ByteArray)} (h : PO w base v ss) (o : Obj) : PO (w.alloc o) base v ss := World.ownsRow.alloc h o
theorem PO.base {w : World} {base : Nat} {v : Value} {ss : List (ByteArray × ByteArray)} (h : PO w base v ss) : ∀ k, v.ownBlock = some k → base ≤ k := fun k hk => (World.ownsRow.lt h k hk).1
theorem PO.later {w w' : World} {base : Nat} {v : Value} {ss : List (ByteArray × ByteArray)} (h : PO w base v ss) (hb : Below w.heap.size w w') : PO w' base v ss :=
  World.ownsRow.kept h (grown_below hb none) (by cases v.ownBlock <;> simp)
theorem PO.mono {w : World} {b b' : Nat} {v : Value} {ss : List (ByteArray × ByteArray)} (h : PO w b v ss) (hb : b' ≤ b) : PO w b' v ss := by
  refine ⟨h.1, ?_⟩
  rcases h.2 with h2 | ⟨g, cap, cur, hv, hg, hh⟩
  · exact .inl h2
  · exact .inr ⟨g, cap, cur, hv, Nat.le_trans hb hg, hh⟩
theorem PO.reads {w : World} {base : Nat} {v : Value} {ps : List (ByteArray × ByteArray)} (h : PO w base v ps) : ∃ g, PRd w g v ps := by
  rcases h.2 with ⟨hv, hn⟩ | ⟨g, cap, cur, hv, hb, hh, hnc, hcm, hcs, htk⟩
  · exact ⟨0, none, 0, by rw [hv, hn], by omega, by omega, fun h => by omega⟩
  · refine ⟨g, some ⟨g, 0, none⟩, cap, hv, hnc, by simp only [maxLen] at hcm; omega, fun _ => ⟨rfl, (Array.getElem?_eq_some_iff.1 hh).1, fun j u hu => ?_⟩⟩
    have := World.ownsRow.cells h (g := g) (by rw [hv]; rfl) j u hu
    rwa [show (⟨g, 0, none⟩ : Addr).add j = ⟨g, j, none⟩ by unfold Addr.add; split <;> simp_all] at this
theorem PO.fresh (w : World) (base : Nat) (hb : base ≤ w.heap.size) : PO (w.alloc (.cells #[] 85)) base (.slice (some ⟨w.heap.size, 0, none⟩) 0 0) [] :=
  World.ownsRow_lit w #[] 0 hb (by simp only [maxLen]; omega) rfl
theorem PO.lit (w : World) (base : Nat) (hb : base ≤ w.heap.size) (a b : ByteArray) : PO (w.alloc (.cells #[.string a, .string b] 85)) base (.slice (some ⟨w.heap.size, 0, none⟩) 1 1) [(a, b)] :=
  World.ownsRow_lit w #[.string a, .string b] 1 hb (by simp only [maxLen]; omega) rfl
theorem infoPair : (Tryd.prog.info? 85).map (fun i => (i.zero, i.size, i.bytes)) = some (some (.agg #[.string ByteArray.empty, .string ByteArray.empty]), 2, 32) := by kernel_rfl
theorem PO.append_run {w : World} {base : Nat} {v : Value} {xs : List (ByteArray × ByteArray)} (HO : PO w base v xs) {g : Nat} {y : Value} {ys : List (ByteArray × ByteArray)} (HR : PRd w g y ys) (hp : 0 < ys.length) (ty : TypeId) (hbase : base ≤ w.heap.size) (hl : xs.length + ys.length ≤ 1000000000) :
    ∃ v1 w1, (Builtin.append_ #[49, 49] ty #[v, y]).run Tryd.prog w = .ok v1 w1 ∧ PO w1 base v1 (xs ++ ys) ∧ w.grownBy w1 v.ownBlock ∧ (v1.ownBlock = v.ownBlock ∨ v1.ownBlock = some w.heap.size) := by
  obtain ⟨i0, hi, hzz⟩ := Option.map_eq_some_iff.1 infoPair
  simp only [Prod.mk.injEq] at hzz
  obtain ⟨hz0, hz1, hz2⟩ := hzz
  obtain ⟨A, c, rfl, h1, h2, h3⟩ := HR
  obtain ⟨rfl, hlt, hcell⟩ := h3 hp
  obtain ⟨v1, w1, hr, k2, k3, _, k5⟩ := run_append_own_at (P := Tryd.prog) w base 49 ty 85 i0 (.agg #[.string ByteArray.empty, .string ByteArray.empty]) 2 32 Tryd.underlying49 hi hz0 hz1 hz2 rfl (by omega) v xs.length (pcells xs) HO ⟨g, 0, none⟩ ys.length c (pcells ys) (pcells_length ys) (fun j u hu => by
    rw [show (⟨g, 0, none⟩ : Addr).add j = ⟨g, j, none⟩ by unfold Addr.add; split <;> simp_all]
    exact hcell j u hu) (pcells_one ys) (by simp only [maxLen]; omega) (by omega) hbase
  refine ⟨v1, w1, hr, ?_, k3, k5⟩
  unfold PO
  rw [List.length_append, pcells_append]
  exact k2
section
variable {ops : Array Oper} {rest : List Oper} {o : Oper} {a : Act} {w : World} {Q : Exit → Act → World → Prop}
theorem PO.append_on {base : Nat} {v : Value} {xs : List (ByteArray × ByteArray)} (HO : PO w base v xs) {g : Nat} {y : Value} {ys : List (ByteArray × ByteArray)} (HR : PRd w g y ys) (hp : 0 < ys.length) (hgd : o.guard = none) (s x : Operand)
    (ho : o.op = .call { callee := .builtin .append, args := #[s, x], argTypes := #[49, 49] }) (hs : a.eval s = v) (hx : a.eval x = y)
    (hbase : base ≤ w.heap.size) (hl : xs.length + ys.length ≤ 1000000000)
    (k : ∀ v1 w1, PO w1 base v1 (xs ++ ys) → w.grownBy w1 v.ownBlock → (v1.ownBlock = v.ownBlock ∨ v1.ownBlock = some w.heap.size) → wpList Tryd.prog ops Q rest (a.put o.dst v1) w1) : wpList Tryd.prog ops Q (o :: rest) a w := by
  obtain ⟨v1, w1, hr, k2, k3, k5⟩ := PO.append_run HO HR hp o.type hbase hl
  exact append_step hgd s x _ _ ho hs hx hr (k v1 w1 k2 k3 k5)
theorem PO.append_wp {K : Act → World → Prop} {E : Prop} {base : Nat} {v : Value} {xs : List (ByteArray × ByteArray)} (HO : PO w base v xs) {g : Nat} {y : Value} {ys : List (ByteArray × ByteArray)} (HR : PRd w g y ys) (hp : 0 < ys.length) (hgd : o.guard = none) (s x : Operand)
    (ho : o.op = .call { callee := .builtin .append, args := #[s, x], argTypes := #[49, 49] }) (hs : a.eval s = v) (hx : a.eval x = y)
    (hbase : base ≤ w.heap.size) (hl : xs.length + ys.length ≤ 1000000000)
    (k : ∀ v1 w1, PO w1 base v1 (xs ++ ys) → w.grownBy w1 v.ownBlock → (v1.ownBlock = v.ownBlock ∨ v1.ownBlock = some w.heap.size) → K (a.put o.dst v1) w1) : if Region.wanted o (yielded ops a.tmps) = true then Oper.wp Tryd.prog o a w K Q else E := by
  obtain ⟨v1, w1, hr, k2, k3, k5⟩ := PO.append_run HO HR hp o.type hbase hl
  exact Sha.append_wp hgd s x _ _ ho hs hx hr (k v1 w1 k2 k3 k5)
end
/-- the first k texts of a slice, and the others -/
theorem SR_take {w : World} {g o n c : Nat} {ss : List ByteArray} (hc : ∀ (j : Nat) x, ss[j]? = some x → w.cell? ⟨g, o + j, none⟩ = some (.string x)) (hn : ss.length = n) (hnc : n ≤ c) (hcm : c ≤ 9223372036854775807) (k : Nat) (hk : k ≤ n) : SR w g (.slice (some ⟨g, o, none⟩) k c) (ss.take k) := by
  refine ⟨some ⟨g, o, none⟩, c, by rw [List.length_take, Nat.min_eq_left (by omega)], by rw [List.length_take]; omega, hcm, fun h => ⟨_, rfl, rfl, fun i hi => ?_⟩⟩
  rw [List.length_take] at hi
  have hi2 : i < ss.length := by omega
  have := hc i ss[i] (List.getElem?_eq_getElem hi2)
  rw [show (⟨g, o, none⟩ : Addr).add i = ⟨g, o + i, none⟩ by unfold Addr.add; split <;> simp_all, this]
  simp [List.getD_eq_getElem?_getD, List.getElem?_take_of_lt (show i < k by omega), hi2]
theorem SR_drop {w : World} {g o n c : Nat} {ss : List ByteArray} (hc : ∀ (j : Nat) x, ss[j]? = some x → w.cell? ⟨g, o + j, none⟩ = some (.string x)) (hn : ss.length = n) (hnc : n ≤ c) (hcm : c ≤ 9223372036854775807) (k : Nat) (hk : k ≤ n) : SR w g (.slice (some ⟨g, o + k, none⟩) (n - k) (c - k)) (ss.drop k) := by
  refine ⟨some ⟨g, o + k, none⟩, c - k, by rw [List.length_drop, hn], by rw [List.length_drop]; omega, by omega, fun h => ⟨_, rfl, rfl, fun i hi => ?_⟩⟩
  rw [List.length_drop] at hi
  have hi2 : k + i < ss.length := by omega
  have := hc (k + i) ss[k + i] (List.getElem?_eq_getElem hi2)
  rw [show (⟨g, o + k, none⟩ : Addr).add i = ⟨g, o + (k + i), none⟩ by unfold Addr.add; split <;> simp_all [Nat.add_assoc], this]
  simp [List.getD_eq_getElem?_getD, hi2]
end Go.Proofs.YtmhjocbnoppbbaaDoor.Mk
