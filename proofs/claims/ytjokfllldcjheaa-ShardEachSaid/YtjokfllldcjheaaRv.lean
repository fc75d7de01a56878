/- Rows of rows of integers in memory. -/
import Derived.Test.YtjokfllldcjheaaSi
namespace Go.Proofs.Ytjokfllldcjheaa.Oc
open Go.RowKit Go.Proofs.Ytjokfllldcjheaa.Sha Go.Proofs.Ytjokfllldcjheaa.Ro Go.Proofs.Ytjokfllldcjheaa.Cs Go.Proofs.Ytjokfllldcjheaa.Ed
set_option linter.unusedVariables false
set_option linter.unusedSimpArgs false
/-- v is a row of slices of the call's own -/
def OV (w : World) (base : Nat) (v : Value) (vs : List Value) : Prop := w.ownsRow base 50 1 v vs.length vs
theorem OV.nil (w : World) (base : Nat) : OV w base (.slice none 0 0) [] := World.ownsRow_nil w base 50 1
theorem OV.alloc {w : World} {base : Nat} {v : Value} {zs : List Value} (h : OV w base v zs) (o : Obj) : OV (w.alloc o) base v zs := World.ownsRow.alloc h o
theorem OV.kept {w w' : World} {base : Nat} {v : Value} {zs : List Value} (h : OV w base v zs) {row : Option Nat} (hg : w.grownBy w' row) (hr : v.ownBlock = none ∨ v.ownBlock ≠ row) : OV w' base v zs := World.ownsRow.kept h hg hr
theorem OV.base {w : World} {base : Nat} {v : Value} {l : List Value} (h : OV w base v l) : ∀ k, v.ownBlock = some k → base ≤ k := fun k hk => (World.ownsRow.lt h k hk).1
theorem OV.lt {w : World} {base : Nat} {v : Value} {l : List Value} (h : OV w base v l) : ∀ k, v.ownBlock = some k → k < w.heap.size := fun k hk => (World.ownsRow.lt h k hk).2
theorem OV.later {w w' : World} {base : Nat} {v : Value} {l : List Value} (h : OV w base v l) (hb : Below w.heap.size w w') : OV w' base v l :=
  World.ownsRow.kept h (Ed.grown_below hb none) (by cases v.ownBlock <;> simp)
theorem OV.shape {w : World} {base : Nat} {v : Value} {zs : List Value} (h : OV w base v zs) : ∃ A c, v = .slice A zs.length c ∧ zs.length ≤ c := by
  rcases h.2 with ⟨rfl, e⟩ | ⟨g, cap, cur, rfl, -, -, hn, -⟩
  · exact ⟨none, 0, by rw [e], by omega⟩
  · exact ⟨_, _, rfl, hn⟩
theorem infoRow : (Try.prog.info? 50).map (fun i => (i.zero, i.size, i.bytes)) = some (some (.slice none 0 0), 1, 24) := by kernel_rfl
section
variable {ops : Array Oper} {rest : List Oper} {o : Oper} {a : Act} {w : World} {Q : Exit → Act → World → Prop}
theorem OV.push_on {base : Nat} {v : Value} {xs : List Value} (HO : OV w base v xs) {g : Nat} {z : Value} (hz1 : z.oneCell' = true) (hc : w.cell? ⟨g, 0, none⟩ = some z) (hgd : o.guard = none) (s x : Operand)
    (ho : o.op = .call { callee := .builtin .append, args := #[s, x], argTypes := #[35, 35] }) (hs : a.eval s = v) (hx : a.eval x = .slice (some ⟨g, 0, none⟩) 1 1)
    (hbase : base ≤ w.heap.size) (hl : xs.length ≤ 1000000000)
    (k : ∀ v1 w1, OV w1 base v1 (xs ++ [z]) → w.grownBy w1 v.ownBlock → (v1.ownBlock = v.ownBlock ∨ v1.ownBlock = some w.heap.size) → wpList Try.prog ops Q rest (a.put o.dst v1) w1) : wpList Try.prog ops Q (o :: rest) a w := by
  obtain ⟨i0, hi, hzz⟩ := Option.map_eq_some_iff.1 infoRow
  simp only [Prod.mk.injEq] at hzz
  obtain ⟨hz0, hz2, hz3⟩ := hzz
  obtain ⟨v1, w1, hr, k2, k3, _, k5⟩ := run_append_own_at (P := Try.prog) w base 35 o.type 50 i0 (.slice none 0 0) 1 24 Try.underlying35 hi hz0 hz2 hz3 rfl (by omega) v xs.length xs HO ⟨g, 0, none⟩ 1 1 [z] rfl (fun j u hu => by
    cases j with
    | zero =>
      obtain rfl : u = z := by simpa using hu.symm
      rw [Ro.add_none]
      exact hc
    | succ j => simp at hu) (by simpa using hz1) (by simp only [maxLen]; omega) (by omega) hbase
  refine Ro.append_step hgd s x _ _ ho hs hx hr (k v1 w1 ?_ k3 k5)
  unfold OV
  rw [List.length_append]
  exact k2
end
/-- v is a slice, in block g, that reads as these values -/
def VR (w : World) (g : Nat) (v : Value) (zs : List Value) : Prop :=
  ∃ A c o, v = .slice A zs.length c ∧ zs.length ≤ c ∧ c ≤ 9223372036854775807 ∧ (0 < zs.length → A = some ⟨g, o, none⟩ ∧ g < w.heap.size ∧ ∀ i, i < zs.length → w.cell? ⟨g, o + i, none⟩ = some (zs.getD i undef))
theorem VR.other {w w' : World} {g : Nat} {v : Value} {l : List Value} (h : VR w g v l) (hs : w.heap.size ≤ w'.heap.size) (hb : l ≠ [] → w'.heap[g]? = w.heap[g]?) : VR w' g v l := by
  obtain ⟨A, c, o, hv, h1, h2, h3⟩ := h
  refine ⟨A, c, o, hv, h1, h2, fun h => ?_⟩
  obtain ⟨ha, hl, hc⟩ := h3 h
  have hb := hb (by intro e; rw [e] at h; simp at h)
  refine ⟨ha, Nat.lt_of_lt_of_le hl hs, fun i hi => ?_⟩
  rw [← hc i hi]
  simp only [World.cell?, hb]
theorem VR.lt {w : World} {g : Nat} {v : Value} {l : List Value} (h : VR w g v l) : l = [] ∨ g < w.heap.size := by
  by_cases e : l = []
  · exact .inl e
  · obtain ⟨A, c, o, hv, h1, h2, h3⟩ := h
    exact .inr (h3 (List.length_pos_iff.2 e)).2.1
theorem VR.later {w w' : World} {g : Nat} {v : Value} {l : List Value} (h : VR w g v l) (hb : Below w.heap.size w w') : VR w' g v l :=
  h.other hb.size fun e => hb.block g (h.lt.resolve_left e)
theorem OV.reads {w : World} {base : Nat} {v : Value} {zs : List Value} (h : OV w base v zs) : ∃ g, VR w g v zs ∧ (zs ≠ [] → base ≤ g ∧ v.ownBlock = some g) := by
  rcases h.2 with ⟨hv, hn⟩ | ⟨g, cap, cur, hv, hb, hh, hnc, hcm, hcs, htk⟩
  · exact ⟨0, ⟨none, 0, 0, by rw [hv, hn], by omega, by omega, fun h => by omega⟩, fun e => absurd (List.eq_nil_of_length_eq_zero hn) e⟩
  · refine ⟨g, ⟨some ⟨g, 0, none⟩, cap, 0, hv, hnc, by simp only [maxLen] at hcm; omega, fun _ => ⟨rfl, (Array.getElem?_eq_some_iff.1 hh).1, fun i hi => ?_⟩⟩, fun _ => ⟨hb, by rw [hv]; rfl⟩⟩
    have := World.ownsRow.cells h (g := g) (by rw [hv]; rfl) i (zs.getD i undef) (by simp [List.getD_eq_getElem?_getD, hi])
    rwa [Ro.add_none] at this
/-- these values are slices that read as these rows, in blocks of which K holds -/
def RS (w : World) (K : Nat → Prop) (vs : List Value) (LL : List (List Int)) : Prop :=
  vs.length = LL.length ∧ ∀ i, i < LL.length → ∃ g, JR w g (vs.getD i undef) (LL.getD i []) ∧ (LL.getD i [] ≠ [] → K g)
theorem RS.nil (w : World) (K : Nat → Prop) : RS w K [] [] := ⟨rfl, fun i h => by simp at h⟩
theorem RS.move {w w' : World} {K K' : Nat → Prop} {vs : List Value} {LL : List (List Int)} (h : RS w K vs LL) (hs : w.heap.size ≤ w'.heap.size) (hk : ∀ g, g < w.heap.size → K g → w'.heap[g]? = w.heap[g]? ∧ K' g) : RS w' K' vs LL := by
  refine ⟨h.1, fun i hi => ?_⟩
  obtain ⟨g, h1, h2⟩ := h.2 i hi
  by_cases e : LL.getD i [] = []
  · exact ⟨g, h1.other hs (fun e2 => absurd e e2), fun e2 => absurd e e2⟩
  · have hlt := h1.lt.resolve_left e
    obtain ⟨a, b⟩ := hk g hlt (h2 e)
    exact ⟨g, h1.other hs (fun _ => a), fun _ => b⟩
theorem RS.later {w w' : World} {K : Nat → Prop} {vs : List Value} {LL : List (List Int)} (h : RS w K vs LL) (hb : Below w.heap.size w w') : RS w' K vs LL :=
  h.move hb.size fun g hg k => ⟨hb.block g hg, k⟩
theorem RS.weak {w : World} {K K' : Nat → Prop} {vs : List Value} {LL : List (List Int)} (h : RS w K vs LL) (hk : ∀ g, K g → K' g) : RS w K' vs LL :=
  h.move (Nat.le_refl _) fun g _ k => ⟨rfl, hk g k⟩
theorem RS.snoc {w : World} {K : Nat → Prop} {vs : List Value} {LL : List (List Int)} (h : RS w K vs LL) {v : Value} {L : List Int} (hn : ∃ g, JR w g v L ∧ (L ≠ [] → K g)) : RS w K (vs ++ [v]) (LL ++ [L]) := by
  refine ⟨by simp [h.1], fun i hi => ?_⟩
  by_cases e : i < LL.length
  · have e2 : i < vs.length := by rw [h.1]; exact e
    have a1 : (vs ++ [v]).getD i undef = vs.getD i undef := by simp [List.getD_eq_getElem?_getD, List.getElem?_append, e2]
    have a2 : (LL ++ [L]).getD i [] = LL.getD i [] := by simp [List.getD_eq_getElem?_getD, List.getElem?_append, e]
    rw [a1, a2]
    exact h.2 i e
  · obtain rfl : i = LL.length := by simp at hi; omega
    have a1 : (vs ++ [v]).getD LL.length undef = v := by rw [← h.1]; simp [List.getD_eq_getElem?_getD]
    have a2 : (LL ++ [L]).getD LL.length [] = L := by simp [List.getD_eq_getElem?_getD]
    rw [a1, a2]
    exact hn
/-- v is a row of rows, all in blocks of which K holds -/
def RR (w : World) (K : Nat → Prop) (v : Value) (LL : List (List Int)) : Prop := ∃ g vs, VR w g v vs ∧ (vs ≠ [] → K g) ∧ RS w K vs LL
theorem RR.move {w w' : World} {K K' : Nat → Prop} {v : Value} {LL : List (List Int)} (h : RR w K v LL) (hs : w.heap.size ≤ w'.heap.size) (hk : ∀ g, g < w.heap.size → K g → w'.heap[g]? = w.heap[g]? ∧ K' g) : RR w' K' v LL := by
  obtain ⟨g, vs, h1, h2, h3⟩ := h
  by_cases e : vs = []
  · exact ⟨g, vs, h1.other hs (fun e2 => absurd e e2), fun e2 => absurd e e2, h3.move hs hk⟩
  · obtain ⟨a, b⟩ := hk g (h1.lt.resolve_left e) (h2 e)
    exact ⟨g, vs, h1.other hs (fun _ => a), fun _ => b, h3.move hs hk⟩
theorem RR.later {w w' : World} {K : Nat → Prop} {v : Value} {LL : List (List Int)} (h : RR w K v LL) (hb : Below w.heap.size w w') : RR w' K v LL :=
  h.move hb.size fun g hg k => ⟨hb.block g hg, k⟩
theorem RR.shape {w : World} {K : Nat → Prop} {v : Value} {LL : List (List Int)} (h : RR w K v LL) : ∃ A c, v = .slice A LL.length c ∧ LL.length ≤ c := by
  obtain ⟨g, vs, ⟨A, c, o, hv, h1, -⟩, -, h3⟩ := h
  rw [h3.1] at hv h1
  exact ⟨A, c, hv, h1⟩
theorem setCell_other (w : World) (a : Addr) (k : Nat) (v : Value) (h : k ≠ a.block) : (w.setCell a v).heap[k]? = w.heap[k]? := heap_setCell_other w a k v h
/-- the state in which the rows are read: begins, and rows in a box of their own -/
structure GL (W wz : World) (a : Nat) (bg rows : Value) (BG : List Int) (vs : List Value) (LL : List (List Int)) : Prop where
  bel : Below W.heap.size W wz
  out : wz.heap[W.heap.size]? = some (.cells #[.int .i64 (a : Int), rows] 37 (0, 0))
  one : OJ wz (W.heap.size + 1) bg BG
  two : OV wz (W.heap.size + 1) rows vs
  ne : ∀ k, bg.ownBlock = some k → rows.ownBlock ≠ some k
  els : RS wz (fun g => W.heap.size < g ∧ bg.ownBlock ≠ some g ∧ rows.ownBlock ≠ some g) vs LL
theorem GL.lt {W wz : World} {a : Nat} {bg rows : Value} {BG : List Int} {vs : List Value} {LL : List (List Int)} (h : GL W wz a bg rows BG vs LL) : W.heap.size < wz.heap.size := (Array.getElem?_eq_some_iff.1 h.out).1
theorem GL.start (W : World) (a : Nat) : GL W (W.alloc (.cells #[.int .i64 (a : Int), .slice none 0 0] 37)) a (.slice none 0 0) (.slice none 0 0) [] [] [] :=
  ⟨(Below.refl _ _).alloc (Nat.le_refl _) _, heap_alloc_new W _, OJ.nil _ _, OV.nil _ _, by simp [Value.ownBlock], RS.nil _ _⟩
theorem GL.later {W wz wy : World} {a : Nat} {bg rows : Value} {BG : List Int} {vs : List Value} {LL : List (List Int)} (h : GL W wz a bg rows BG vs LL) (hb : Below wz.heap.size wz wy) : GL W wy a bg rows BG vs LL :=
  ⟨h.bel.trans (hb.mono (by have := h.lt; omega)), (hb.block _ h.lt).trans h.out, h.one.later hb, h.two.later hb, h.ne, h.els.later hb⟩
theorem GL.push1 {W wz w3 : World} {a : Nat} {bg rows v1 : Value} {BG B2 : List Int} {vs : List Value} {LL : List (List Int)} (h : GL W wz a bg rows BG vs LL) (k1 : OJ w3 (W.heap.size + 1) v1 B2) (k2 : wz.grownBy w3 bg.ownBlock) (k3 : v1.ownBlock = bg.ownBlock ∨ v1.ownBlock = some wz.heap.size) : GL W w3 a v1 rows B2 vs LL := by
  have hlt := h.lt
  have hob : ∀ k, bg.ownBlock = some k → W.heap.size + 1 ≤ k := h.one.base
  refine ⟨h.bel.grown k2 (by omega) (fun k hk => by have := hob k hk; omega), (k2.block _ hlt (fun e => by have := hob _ e.symm; omega)).trans h.out, k1, h.two.kept k2 ?_, fun k e e2 => ?_, h.els.move k2.size fun g hg hk => ?_⟩
  · cases e : rows.ownBlock with
    | none => exact .inl rfl
    | some j => exact .inr fun e2 => h.ne j e2.symm e
  · rcases k3 with k3 | k3
    · exact h.ne k (k3 ▸ e) e2
    · have := h.two.lt k e2
      rw [k3] at e
      injection e with e
      omega
  · refine ⟨k2.block g hg (fun e => hk.2.1 e.symm), hk.1, fun e => ?_, hk.2.2⟩
    rcases k3 with k3 | k3
    · exact hk.2.1 (k3 ▸ e)
    · rw [k3] at e
      injection e with e
      omega
/-- a row that was read since is in a block of its own -/
theorem GL.new {W wz wy : World} {a : Nat} {bg rows : Value} {BG : List Int} {vs : List Value} {LL : List (List Int)} (h : GL W wz a bg rows BG vs LL) {t : Value} {L : List Int} (ht : OJ wy wz.heap.size t L) : ∃ g, JR wy g t L ∧ (L ≠ [] → W.heap.size < g ∧ bg.ownBlock ≠ some g ∧ rows.ownBlock ≠ some g) := by
  obtain ⟨g, h1, h2⟩ := ht.reads
  refine ⟨g, h1, fun e => ?_⟩
  have hg := h2 e
  have := h.lt
  exact ⟨by omega, fun e2 => by have := h.one.lt g e2; omega, fun e2 => by have := h.two.lt g e2; omega⟩
theorem GL.push2 {W wz w3 : World} {a : Nat} {bg rows v1 t : Value} {BG : List Int} {vs : List Value} {LL : List (List Int)} {L : List Int} (h : GL W wz a bg rows BG vs LL) (ht : ∃ g, JR wz g t L ∧ (L ≠ [] → W.heap.size < g ∧ bg.ownBlock ≠ some g ∧ rows.ownBlock ≠ some g)) (k1 : OV w3 (W.heap.size + 1) v1 (vs ++ [t])) (k2 : wz.grownBy w3 rows.ownBlock) (k3 : v1.ownBlock = rows.ownBlock ∨ v1.ownBlock = some wz.heap.size) : GL W (w3.setCell ⟨W.heap.size, 1, none⟩ v1) a bg v1 BG (vs ++ [t]) (LL ++ [L]) := by
  have hlt := h.lt
  have hob : ∀ k, rows.ownBlock = some k → W.heap.size + 1 ≤ k := h.two.base
  have hout : w3.heap[W.heap.size]? = some (.cells #[.int .i64 (a : Int), rows] 37 (0, 0)) := (k2.block _ hlt (fun e => by have := hob _ e.symm; omega)).trans h.out
  have hlt3 := k2.size
  have hsz : (w3.setCell ⟨W.heap.size, 1, none⟩ v1).heap.size = w3.heap.size := by simp [World.setCell]
  have hoth : ∀ k, k ≠ W.heap.size → (w3.setCell ⟨W.heap.size, 1, none⟩ v1).heap[k]? = w3.heap[k]? := fun k hk => Go.Proofs.Ytjokfllldcjheaa.Oc.setCell_other w3 _ k v1 hk
  have hv1 : ∀ k, v1.ownBlock = some k → W.heap.size + 1 ≤ k := k1.base
  have hgs : w3.grownBy (w3.setCell ⟨W.heap.size, 1, none⟩ v1) (some W.heap.size) := ⟨rfl, rfl, rfl, by rw [hsz]; exact Nat.le_refl _, fun k hk hn => hoth k (fun e => hn (by rw [e]))⟩
  have hbgb : ∀ k, bg.ownBlock = some k → W.heap.size + 1 ≤ k := h.one.base
  refine ⟨(h.bel.grown k2 (by omega) (fun k hk => by have := hob k hk; omega)).setCell (Nat.le_refl _) v1, ?_, (h.one.kept k2 ?_).kept hgs ?_, k1.kept hgs ?_, fun k e e2 => ?_, ?_⟩
  · rw [heap_setCell_same _ _ _ _ _ _ hout]; rfl
  · cases e : bg.ownBlock with
    | none => exact .inl rfl
    | some j => exact .inr fun e2 => h.ne j e e2.symm
  · cases e : bg.ownBlock with
    | none => exact .inl rfl
    | some j => exact .inr fun e2 => by injection e2 with e2; have := hbgb j e; omega
  · cases e : v1.ownBlock with
    | none => exact .inl rfl
    | some j => exact .inr fun e2 => by injection e2 with e2; have := hv1 j e; omega
  · rcases k3 with k3 | k3
    · exact h.ne k e (k3 ▸ e2)
    · have := h.one.lt k e
      rw [k3] at e2
      injection e2 with e2
      omega
  · refine (h.els.snoc ht).move (by rw [hsz]; exact hlt3) fun g hg hk => ⟨?_, hk.1, hk.2.1, fun e => ?_⟩
    · rw [hoth g (by omega)]
      exact k2.block g hg (fun e => hk.2.2 e.symm)
    · rcases k3 with k3 | k3
      · exact hk.2.2 (k3 ▸ e)
      · rw [k3] at e
        injection e with e
        omega
theorem GL.alloc {W wz : World} {a : Nat} {bg rows : Value} {BG : List Int} {vs : List Value} {LL : List (List Int)} (h : GL W wz a bg rows BG vs LL) (o : Obj) : GL W (wz.alloc o) a bg rows BG vs LL := h.later ((Below.refl _ _).alloc (Nat.le_refl _) o)
theorem new_alloc {w : World} {t : Value} {L : List Int} {C : Nat → Prop} (o : Obj) (h : ∃ g, JR w g t L ∧ (L ≠ [] → C g)) : ∃ g, JR (w.alloc o) g t L ∧ (L ≠ [] → C g) := by
  obtain ⟨g, h1, h2⟩ := h
  exact ⟨g, h1.later ((Below.refl _ _).alloc (Nat.le_refl _) o), h2⟩
theorem jr_form {w : World} {g : Nat} {v : Value} {l : List Int} (h : JR w g v l) (hp : 0 < l.length) : ∃ o c, v = .slice (some ⟨g, o, none⟩) l.length c ∧ l.length ≤ c ∧ c ≤ 9223372036854775807 := by
  obtain ⟨A, c, o, hv, h1, h2, h3⟩ := h
  obtain ⟨rfl, -, -⟩ := h3 hp
  exact ⟨o, c, hv, h1, h2⟩
theorem jr_cell {w : World} {g g1 o1 n c : Nat} {l : List Int} (h : JR w g (.slice (some ⟨g1, o1, none⟩) n c) l) (i : Nat) (hi : i < l.length) : w.cell? ⟨g1, o1 + i, none⟩ = some (.int .i64 (l.getD i 0)) := by
  obtain ⟨A, c', o, hv, h1, h2, h3⟩ := h
  obtain ⟨rfl, -, h5⟩ := h3 (by omega)
  injection hv with a1 a2 a3
  injection a1 with a1
  injection a1 with b1 b2
  subst b1 b2
  exact h5 i hi
/-- the box's cells, in the midst of the append -/
theorem GL.box {W wz w3 : World} {a : Nat} {bg rows : Value} {BG : List Int} {vs : List Value} {LL : List (List Int)} (h : GL W wz a bg rows BG vs LL) (k2 : wz.grownBy w3 rows.ownBlock) : w3.cell? ⟨W.heap.size, 1, none⟩ = some rows ∧ w3.frozen? ⟨W.heap.size, 1, none⟩ = false := by
  have hob : ∀ k, rows.ownBlock = some k → W.heap.size + 1 ≤ k := h.two.base
  have hout : w3.heap[W.heap.size]? = some (.cells #[.int .i64 (a : Int), rows] 37 (0, 0)) := (k2.block _ h.lt (fun e => by have := hob _ e.symm; omega)).trans h.out
  exact ⟨cell_of_row w3 _ 1 _ _ _ hout, frozen_of_row w3 _ 1 _ _ hout⟩
theorem GL.cells {W wz : World} {a : Nat} {bg rows : Value} {BG : List Int} {vs : List Value} {LL : List (List Int)} (h : GL W wz a bg rows BG vs LL) : wz.cell? ⟨W.heap.size, 0, none⟩ = some (.int .i64 (a : Int)) ∧ wz.cell? ⟨W.heap.size, 1, none⟩ = some rows :=
  ⟨cell_of_row wz _ 0 _ _ _ h.out, cell_of_row wz _ 1 _ _ _ h.out⟩
/-- what is told of the rows, wherever an older block is written to -/
theorem GL.rows {W wz w' : World} {a n : Nat} {bg rows : Value} {BG : List Int} {vs : List Value} {LL : List (List Int)} (h : GL W wz a bg rows BG vs LL) (hn : n < W.heap.size) (hs : w'.heap.size = wz.heap.size) (ho : ∀ k, k ≠ n → w'.heap[k]? = wz.heap[k]?) : RR w' (fun g => W.heap.size ≤ g) rows LL := by
  obtain ⟨g, h1, h2⟩ := h.two.reads
  have hr : RR wz (fun g => W.heap.size ≤ g) rows LL := ⟨g, vs, h1, fun e => by have := (h2 e).1; omega, h.els.weak fun g k => by omega⟩
  exact hr.move (by omega) fun g _ hg => ⟨ho g (by omega), hg⟩
end Go.Proofs.Ytjokfllldcjheaa.Oc
