/- Rows of rows of integers in memory. · shard, walked: Get. -/
import Derived.Test.YtjokfllldcjheaaGreatDoorSi
/- Rows of rows of integers in memory. -/
namespace Go.Proofs.YtjokfllldcjheaaGreatDoor.Oc
open Go.RowKit Go.Proofs.YtjokfllldcjheaaGreatDoor.Sha Go.Proofs.YtjokfllldcjheaaGreatDoor.Ro Go.Proofs.YtjokfllldcjheaaGreatDoor.Cs Go.Proofs.YtjokfllldcjheaaGreatDoor.Ed
set_option linter.unusedVariables false
set_option linter.unusedSimpArgs false
/-- v is a row of slices of the call's own -/
def OV (w : World) (base : Nat) (v : Value) (vs : List Value) : Prop := w.ownsRow base 53 1 v vs.length vs
theorem OV.nil (w : World) (base : Nat) : OV w base (.slice none 0 0) [] := World.ownsRow_nil w base 53 1
theorem OV.alloc {w : World} {base : Nat} {v : Value} {zs : List Value} (h : OV w base v zs) (o : Obj) : OV (w.alloc o) base v zs := World.ownsRow.alloc h o
theorem OV.kept {w w' : World} {base : Nat} {v : Value} {zs : List Value} (h : OV w base v zs) {row : Option Nat} (hg : w.grownBy w' row) (hr : v.ownBlock = none ∨ v.ownBlock ≠ row) : OV w' base v zs := World.ownsRow.kept h hg hr
theorem OV.base {w : World} {base : Nat} {v : Value} {l : List Value} (h : OV w base v l) : ∀ k, v.ownBlock = some k → base ≤ k := fun k hk => (World.ownsRow.lt h k hk).1
theorem OV.lt {w : World} {base : Nat} {v : Value} {l : List Value} (h : OV w base v l) : ∀ k, v.ownBlock = some k → k < w.heap.size := fun k hk => (World.ownsRow.lt h k hk).2
theorem OV.later {w w' : World} {base : Nat} {v : Value} {l : List Value} (h : OV w base v l) (hb : Below w.heap.size w w') : OV w' base v l :=
  World.ownsRow.kept h (Ed.grown_below hb none) (by cases v.ownBlock <;> simp)
theorem OV.shape {w : World} {base : Nat} {v : Value} {zs : List Value} (h : OV w base v zs) : ∃ A c, v = .slice A zs.length c ∧ zs.length ≤ c := by
  rcases h.2 with ⟨rfl, e⟩ | ⟨g, cap, cur, rfl, -, -, hn, -⟩
  · exact ⟨none, 0, by rw [e], by omega⟩
  · exact ⟨_, _, rfl, hn⟩
theorem infoRow : (Tryz.prog.info? 53).map (fun i => (i.zero, i.size, i.bytes)) = some (some (.slice none 0 0), 1, 24) := by kernel_rfl
section
variable {ops : Array Oper} {rest : List Oper} {o : Oper} {a : Act} {w : World} {Q : Exit → Act → World → Prop}
theorem OV.push_on {base : Nat} {v : Value} {xs : List Value} (HO : OV w base v xs) {g : Nat} {z : Value} (hz1 : z.oneCell' = true) (hc : w.cell? ⟨g, 0, none⟩ = some z) (hgd : o.guard = none) (s x : Operand)
    (ho : o.op = .call { callee := .builtin .append, args := #[s, x], argTypes := #[48, 48] }) (hs : a.eval s = v) (hx : a.eval x = .slice (some ⟨g, 0, none⟩) 1 1)
    (hbase : base ≤ w.heap.size) (hl : xs.length ≤ 1000000000)
    (k : ∀ v1 w1, OV w1 base v1 (xs ++ [z]) → w.grownBy w1 v.ownBlock → (v1.ownBlock = v.ownBlock ∨ v1.ownBlock = some w.heap.size) → wpList Tryz.prog ops Q rest (a.put o.dst v1) w1) : wpList Tryz.prog ops Q (o :: rest) a w := by
  obtain ⟨i0, hi, hzz⟩ := Option.map_eq_some_iff.1 infoRow
  simp only [Prod.mk.injEq] at hzz
  obtain ⟨hz0, hz2, hz3⟩ := hzz
  obtain ⟨v1, w1, hr, k2, k3, _, k5⟩ := run_append_own_at (P := Tryz.prog) w base 48 o.type 53 i0 (.slice none 0 0) 1 24 Tryz.underlying48 hi hz0 hz2 hz3 rfl (by omega) v xs.length xs HO ⟨g, 0, none⟩ 1 1 [z] rfl (fun j u hu => by
    cases j with
    | zero =>
      obtain rfl : u = z := by simpa using hu.symm
      rw [Ro.add_none]
      exact hc
    | succ j => simp at hu) (by simpa using hz1) (by simp only [maxLen]; omega) (by omega) hbase
  refine Ro.append_step hgd s x _ _ ho hs hx hr (k v1 w1 ?_ k3 k5)
  unfold OV
  rw [List.length_append]
  exact k2
end
/-- v is a slice, in block g, that reads as these values -/
def VR (w : World) (g : Nat) (v : Value) (zs : List Value) : Prop :=
  ∃ A c o, v = .slice A zs.length c ∧ zs.length ≤ c ∧ c ≤ 9223372036854775807 ∧ (0 < zs.length → A = some ⟨g, o, none⟩ ∧ g < w.heap.size ∧ ∀ i, i < zs.length → w.cell? ⟨g, o + i, none⟩ = some (zs.getD i undef))
theorem VR.other {w w' : World} {g : Nat} {v : Value} {l : List Value} (h : VR w g v l) (hs : w.heap.size ≤ w'.heap.size) (hb : l ≠ [] → w'.heap[g]? = w.heap[g]?) : VR w' g v l := by
  obtain ⟨A, c, o, hv, h1, h2, h3⟩ := h
  refine ⟨A, c, o, hv, h1, h2, fun h => ?_⟩
  obtain ⟨ha, hl, hc⟩ := h3 h
  have hb := hb (by intro e; rw [e] at h; simp at h)
  refine ⟨ha, Nat.lt_of_lt_of_le hl hs, fun i hi => ?_⟩
  rw [← hc i hi]
  simp only [World.cell?, hb]
theorem VR.lt {w : World} {g : Nat} {v : Value} {l : List Value} (h : VR w g v l) : l = [] ∨ g < w.heap.size := by
  by_cases e : l = []
  · exact .inl e
  · obtain ⟨A, c, o, hv, h1, h2, h3⟩ := h
    exact .inr (h3 (List.length_pos_iff.2 e)).2.1
theorem VR.later {w w' : World} {g : Nat} {v : Value} {l : List Value} (h : VR w g v l) (hb : Below w.heap.size w w') : VR w' g v l :=
  h.other hb.size fun e => hb.block g (h.lt.resolve_left e)
theorem OV.reads {w : World} {base : Nat} {v : Value} {zs : List Value} (h : OV w base v zs) : ∃ g, VR w g v zs ∧ (zs ≠ [] → base ≤ g ∧ v.ownBlock = some g) := by
  rcases h.2 with ⟨hv, hn⟩ | ⟨g, cap, cur, hv, hb, hh, hnc, hcm, hcs, htk⟩
  · exact ⟨0, ⟨none, 0, 0, by rw [hv, hn], by omega, by omega, fun h => by omega⟩, fun e => absurd (List.eq_nil_of_length_eq_zero hn) e⟩
  · refine ⟨g, ⟨some ⟨g, 0, none⟩, cap, 0, hv, hnc, by simp only [maxLen] at hcm; omega, fun _ => ⟨rfl, (Array.getElem?_eq_some_iff.1 hh).1, fun i hi => ?_⟩⟩, fun _ => ⟨hb, by rw [hv]; rfl⟩⟩
    have := World.ownsRow.cells h (g := g) (by rw [hv]; rfl) i (zs.getD i undef) (by simp [List.getD_eq_getElem?_getD, hi])
    rwa [Ro.add_none] at this
/-- these values are slices that read as these rows, in blocks of which K holds -/
def RS (w : World) (K : Nat → Prop) (vs : List Value) (LL : List (List Int)) : Prop :=
  vs.length = LL.length ∧ ∀ i, i < LL.length → ∃ g, JR w g (vs.getD i undef) (LL.getD i []) ∧ (LL.getD i [] ≠ [] → K g)
theorem RS.nil (w : World) (K : Nat → Prop) : RS w K [] [] := ⟨rfl, fun i h => by simp at h⟩
theorem RS.move {w w' : World} {K K' : Nat → Prop} {vs : List Value} {LL : List (List Int)} (h : RS w K vs LL) (hs : w.heap.size ≤ w'.heap.size) (hk : ∀ g, g < w.heap.size → K g → w'.heap[g]? = w.heap[g]? ∧ K' g) : RS w' K' vs LL := by
  refine ⟨h.1, fun i hi => ?_⟩
  obtain ⟨g, h1, h2⟩ := h.2 i hi
  by_cases e : LL.getD i [] = []
  · exact ⟨g, h1.other hs (fun e2 => absurd e e2), fun e2 => absurd e e2⟩
  · have hlt := h1.lt.resolve_left e
    obtain ⟨a, b⟩ := hk g hlt (h2 e)
    exact ⟨g, h1.other hs (fun _ => a), fun _ => b⟩
theorem RS.later {w w' : World} {K : Nat → Prop} {vs : List Value} {LL : List (List Int)} (h : RS w K vs LL) (hb : Below w.heap.size w w') : RS w' K vs LL :=
  h.move hb.size fun g hg k => ⟨hb.block g hg, k⟩
theorem RS.weak {w : World} {K K' : Nat → Prop} {vs : List Value} {LL : List (List Int)} (h : RS w K vs LL) (hk : ∀ g, K g → K' g) : RS w K' vs LL :=
  h.move (Nat.le_refl _) fun g _ k => ⟨rfl, hk g k⟩
theorem RS.snoc {w : World} {K : Nat → Prop} {vs : List Value} {LL : List (List Int)} (h : RS w K vs LL) {v : Value} {L : List Int} (hn : ∃ g, JR w g v L ∧ (L ≠ [] → K g)) : RS w K (vs ++ [v]) (LL ++ [L]) := by
  refine ⟨by simp [h.1], fun i hi => ?_⟩
  by_cases e : i < LL.length
  · have e2 : i < vs.length := by rw [h.1]; exact e
    have a1 : (vs ++ [v]).getD i undef = vs.getD i undef := by simp [List.getD_eq_getElem?_getD, List.getElem?_append, e2]
    have a2 : (LL ++ [L]).getD i [] = LL.getD i [] := by simp [List.getD_eq_getElem?_getD, List.getElem?_append, e]
    rw [a1, a2]
    exact h.2 i e
  · obtain rfl : i = LL.length := by simp at hi; omega
    have a1 : (vs ++ [v]).getD LL.length undef = v := by rw [← h.1]; simp [List.getD_eq_getElem?_getD]
    have a2 : (LL ++ [L]).getD LL.length [] = L := by simp [List.getD_eq_getElem?_getD]
    rw [a1, a2]
    exact hn
/-- v is a row of rows, all in blocks of which K holds -/
def RR (w : World) (K : Nat → Prop) (v : Value) (LL : List (List Int)) : Prop := ∃ g vs, VR w g v vs ∧ (vs ≠ [] → K g) ∧ RS w K vs LL
theorem RR.move {w w' : World} {K K' : Nat → Prop} {v : Value} {LL : List (List Int)} (h : RR w K v LL) (hs : w.heap.size ≤ w'.heap.size) (hk : ∀ g, g < w.heap.size → K g → w'.heap[g]? = w.heap[g]? ∧ K' g) : RR w' K' v LL := by
  obtain ⟨g, vs, h1, h2, h3⟩ := h
  by_cases e : vs = []
  · exact ⟨g, vs, h1.other hs (fun e2 => absurd e e2), fun e2 => absurd e e2, h3.move hs hk⟩
  · obtain ⟨a, b⟩ := hk g (h1.lt.resolve_left e) (h2 e)
    exact ⟨g, vs, h1.other hs (fun _ => a), fun _ => b, h3.move hs hk⟩
theorem RR.later {w w' : World} {K : Nat → Prop} {v : Value} {LL : List (List Int)} (h : RR w K v LL) (hb : Below w.heap.size w w') : RR w' K v LL :=
  h.move hb.size fun g hg k => ⟨hb.block g hg, k⟩
theorem RR.shape {w : World} {K : Nat → Prop} {v : Value} {LL : List (List Int)} (h : RR w K v LL) : ∃ A c, v = .slice A LL.length c ∧ LL.length ≤ c := by
  obtain ⟨g, vs, ⟨A, c, o, hv, h1, -⟩, -, h3⟩ := h
  rw [h3.1] at hv h1
  exact ⟨A, c, hv, h1⟩
theorem setCell_other (w : World) (a : Addr) (k : Nat) (v : Value) (h : k ≠ a.block) : (w.setCell a v).heap[k]? = w.heap[k]? := heap_setCell_other w a k v h
/-- the state in which the rows are read: begins, and rows in a box of their own -/
structure GL (W wz : World) (a : Nat) (bg rows : Value) (BG : List Int) (vs : List Value) (LL : List (List Int)) : Prop where
  bel : Below W.heap.size W wz
  out : wz.heap[W.heap.size]? = some (.cells #[.int .i64 (a : Int), rows] 50 (0, 0))
  one : OJ wz (W.heap.size + 1) bg BG
  two : OV wz (W.heap.size + 1) rows vs
  ne : ∀ k, bg.ownBlock = some k → rows.ownBlock ≠ some k
  els : RS wz (fun g => W.heap.size < g ∧ bg.ownBlock ≠ some g ∧ rows.ownBlock ≠ some g) vs LL
theorem GL.lt {W wz : World} {a : Nat} {bg rows : Value} {BG : List Int} {vs : List Value} {LL : List (List Int)} (h : GL W wz a bg rows BG vs LL) : W.heap.size < wz.heap.size := (Array.getElem?_eq_some_iff.1 h.out).1
theorem GL.start (W : World) (a : Nat) : GL W (W.alloc (.cells #[.int .i64 (a : Int), .slice none 0 0] 50)) a (.slice none 0 0) (.slice none 0 0) [] [] [] :=
  ⟨(Below.refl _ _).alloc (Nat.le_refl _) _, heap_alloc_new W _, OJ.nil _ _, OV.nil _ _, by simp [Value.ownBlock], RS.nil _ _⟩
theorem GL.later {W wz wy : World} {a : Nat} {bg rows : Value} {BG : List Int} {vs : List Value} {LL : List (List Int)} (h : GL W wz a bg rows BG vs LL) (hb : Below wz.heap.size wz wy) : GL W wy a bg rows BG vs LL :=
  ⟨h.bel.trans (hb.mono (by have := h.lt; omega)), (hb.block _ h.lt).trans h.out, h.one.later hb, h.two.later hb, h.ne, h.els.later hb⟩
theorem GL.push1 {W wz w3 : World} {a : Nat} {bg rows v1 : Value} {BG B2 : List Int} {vs : List Value} {LL : List (List Int)} (h : GL W wz a bg rows BG vs LL) (k1 : OJ w3 (W.heap.size + 1) v1 B2) (k2 : wz.grownBy w3 bg.ownBlock) (k3 : v1.ownBlock = bg.ownBlock ∨ v1.ownBlock = some wz.heap.size) : GL W w3 a v1 rows B2 vs LL := by
  have hlt := h.lt
  have hob : ∀ k, bg.ownBlock = some k → W.heap.size + 1 ≤ k := h.one.base
  refine ⟨h.bel.grown k2 (by omega) (fun k hk => by have := hob k hk; omega), (k2.block _ hlt (fun e => by have := hob _ e.symm; omega)).trans h.out, k1, h.two.kept k2 ?_, fun k e e2 => ?_, h.els.move k2.size fun g hg hk => ?_⟩
  · cases e : rows.ownBlock with
    | none => exact .inl rfl
    | some j => exact .inr fun e2 => h.ne j e2.symm e
  · rcases k3 with k3 | k3
    · exact h.ne k (k3 ▸ e) e2
    · have := h.two.lt k e2
      rw [k3] at e
      injection e with e
      omega
  · refine ⟨k2.block g hg (fun e => hk.2.1 e.symm), hk.1, fun e => ?_, hk.2.2⟩
    rcases k3 with k3 | k3
    · exact hk.2.1 (k3 ▸ e)
    · rw [k3] at e
      injection e with e
      omega
/-- a row that was read since is in a block of its own -/
theorem GL.new {W wz wy : World} {a : Nat} {bg rows : Value} {BG : List Int} {vs : List Value} {LL : List (List Int)} (h : GL W wz a bg rows BG vs LL) {t : Value} {L : List Int} (ht : OJ wy wz.heap.size t L) : ∃ g, JR wy g t L ∧ (L ≠ [] → W.heap.size < g ∧ bg.ownBlock ≠ some g ∧ rows.ownBlock ≠ some g) := by
  obtain ⟨g, h1, h2⟩ := ht.reads
  refine ⟨g, h1, fun e => ?_⟩
  have hg := h2 e
  have := h.lt
  exact ⟨by omega, fun e2 => by have := h.one.lt g e2; omega, fun e2 => by have := h.two.lt g e2; omega⟩
theorem GL.push2 {W wz w3 : World} {a : Nat} {bg rows v1 t : Value} {BG : List Int} {vs : List Value} {LL : List (List Int)} {L : List Int} (h : GL W wz a bg rows BG vs LL) (ht : ∃ g, JR wz g t L ∧ (L ≠ [] → W.heap.size < g ∧ bg.ownBlock ≠ some g ∧ rows.ownBlock ≠ some g)) (k1 : OV w3 (W.heap.size + 1) v1 (vs ++ [t])) (k2 : wz.grownBy w3 rows.ownBlock) (k3 : v1.ownBlock = rows.ownBlock ∨ v1.ownBlock = some wz.heap.size) : GL W (w3.setCell ⟨W.heap.size, 1, none⟩ v1) a bg v1 BG (vs ++ [t]) (LL ++ [L]) := by
  have hlt := h.lt
  have hob : ∀ k, rows.ownBlock = some k → W.heap.size + 1 ≤ k := h.two.base
  have hout : w3.heap[W.heap.size]? = some (.cells #[.int .i64 (a : Int), rows] 50 (0, 0)) := (k2.block _ hlt (fun e => by have := hob _ e.symm; omega)).trans h.out
  have hlt3 := k2.size
  have hsz : (w3.setCell ⟨W.heap.size, 1, none⟩ v1).heap.size = w3.heap.size := by simp [World.setCell]
  have hoth : ∀ k, k ≠ W.heap.size → (w3.setCell ⟨W.heap.size, 1, none⟩ v1).heap[k]? = w3.heap[k]? := fun k hk => Go.Proofs.YtjokfllldcjheaaGreatDoor.Oc.setCell_other w3 _ k v1 hk
  have hv1 : ∀ k, v1.ownBlock = some k → W.heap.size + 1 ≤ k := k1.base
  have hgs : w3.grownBy (w3.setCell ⟨W.heap.size, 1, none⟩ v1) (some W.heap.size) := ⟨rfl, rfl, rfl, by rw [hsz]; exact Nat.le_refl _, fun k hk hn => hoth k (fun e => hn (by rw [e]))⟩
  have hbgb : ∀ k, bg.ownBlock = some k → W.heap.size + 1 ≤ k := h.one.base
  refine ⟨(h.bel.grown k2 (by omega) (fun k hk => by have := hob k hk; omega)).setCell (Nat.le_refl _) v1, ?_, (h.one.kept k2 ?_).kept hgs ?_, k1.kept hgs ?_, fun k e e2 => ?_, ?_⟩
  · rw [heap_setCell_same _ _ _ _ _ _ hout]; rfl
  · cases e : bg.ownBlock with
    | none => exact .inl rfl
    | some j => exact .inr fun e2 => h.ne j e e2.symm
  · cases e : bg.ownBlock with
    | none => exact .inl rfl
    | some j => exact .inr fun e2 => by injection e2 with e2; have := hbgb j e; omega
  · cases e : v1.ownBlock with
    | none => exact .inl rfl
    | some j => exact .inr fun e2 => by injection e2 with e2; have := hv1 j e; omega
  · rcases k3 with k3 | k3
    · exact h.ne k e (k3 ▸ e2)
    · have := h.one.lt k e
      rw [k3] at e2
      injection e2 with e2
      omega
  · refine (h.els.snoc ht).move (by rw [hsz]; exact hlt3) fun g hg hk => ⟨?_, hk.1, hk.2.1, fun e => ?_⟩
    · rw [hoth g (by omega)]
      exact k2.block g hg (fun e => hk.2.2 e.symm)
    · rcases k3 with k3 | k3
      · exact hk.2.2 (k3 ▸ e)
      · rw [k3] at e
        injection e with e
        omega
theorem GL.alloc {W wz : World} {a : Nat} {bg rows : Value} {BG : List Int} {vs : List Value} {LL : List (List Int)} (h : GL W wz a bg rows BG vs LL) (o : Obj) : GL W (wz.alloc o) a bg rows BG vs LL := h.later ((Below.refl _ _).alloc (Nat.le_refl _) o)
theorem new_alloc {w : World} {t : Value} {L : List Int} {C : Nat → Prop} (o : Obj) (h : ∃ g, JR w g t L ∧ (L ≠ [] → C g)) : ∃ g, JR (w.alloc o) g t L ∧ (L ≠ [] → C g) := by
  obtain ⟨g, h1, h2⟩ := h
  exact ⟨g, h1.later ((Below.refl _ _).alloc (Nat.le_refl _) o), h2⟩
theorem jr_form {w : World} {g : Nat} {v : Value} {l : List Int} (h : JR w g v l) (hp : 0 < l.length) : ∃ o c, v = .slice (some ⟨g, o, none⟩) l.length c ∧ l.length ≤ c ∧ c ≤ 9223372036854775807 := by
  obtain ⟨A, c, o, hv, h1, h2, h3⟩ := h
  obtain ⟨rfl, -, -⟩ := h3 hp
  exact ⟨o, c, hv, h1, h2⟩
theorem jr_cell {w : World} {g g1 o1 n c : Nat} {l : List Int} (h : JR w g (.slice (some ⟨g1, o1, none⟩) n c) l) (i : Nat) (hi : i < l.length) : w.cell? ⟨g1, o1 + i, none⟩ = some (.int .i64 (l.getD i 0)) := by
  obtain ⟨A, c', o, hv, h1, h2, h3⟩ := h
  obtain ⟨rfl, -, h5⟩ := h3 (by omega)
  injection hv with a1 a2 a3
  injection a1 with a1
  injection a1 with b1 b2
  subst b1 b2
  exact h5 i hi
/-- the box's cells, in the midst of the append -/
theorem GL.box {W wz w3 : World} {a : Nat} {bg rows : Value} {BG : List Int} {vs : List Value} {LL : List (List Int)} (h : GL W wz a bg rows BG vs LL) (k2 : wz.grownBy w3 rows.ownBlock) : w3.cell? ⟨W.heap.size, 1, none⟩ = some rows ∧ w3.frozen? ⟨W.heap.size, 1, none⟩ = false := by
  have hob : ∀ k, rows.ownBlock = some k → W.heap.size + 1 ≤ k := h.two.base
  have hout : w3.heap[W.heap.size]? = some (.cells #[.int .i64 (a : Int), rows] 50 (0, 0)) := (k2.block _ h.lt (fun e => by have := hob _ e.symm; omega)).trans h.out
  exact ⟨cell_of_row w3 _ 1 _ _ _ hout, frozen_of_row w3 _ 1 _ _ hout⟩
theorem GL.cells {W wz : World} {a : Nat} {bg rows : Value} {BG : List Int} {vs : List Value} {LL : List (List Int)} (h : GL W wz a bg rows BG vs LL) : wz.cell? ⟨W.heap.size, 0, none⟩ = some (.int .i64 (a : Int)) ∧ wz.cell? ⟨W.heap.size, 1, none⟩ = some rows :=
  ⟨cell_of_row wz _ 0 _ _ _ h.out, cell_of_row wz _ 1 _ _ _ h.out⟩
/-- what is told of the rows, wherever an older block is written to -/
theorem GL.rows {W wz w' : World} {a n : Nat} {bg rows : Value} {BG : List Int} {vs : List Value} {LL : List (List Int)} (h : GL W wz a bg rows BG vs LL) (hn : n < W.heap.size) (hs : w'.heap.size = wz.heap.size) (ho : ∀ k, k ≠ n → w'.heap[k]? = wz.heap[k]?) : RR w' (fun g => W.heap.size ≤ g) rows LL := by
  obtain ⟨g, h1, h2⟩ := h.two.reads
  have hr : RR wz (fun g => W.heap.size ≤ g) rows LL := ⟨g, vs, h1, fun e => by have := (h2 e).1; omega, h.els.weak fun g k => by omega⟩
  exact hr.move (by omega) fun g _ hg => ⟨ho g (by omega), hg⟩
end Go.Proofs.YtjokfllldcjheaaGreatDoor.Oc
/- shard, walked: Get. -/
namespace Go.Proofs.YtjokfllldcjheaaGreatDoor.Oc
open Go.RowKit Go.Proofs.YtjokfllldcjheaaGreatDoor.Sha Go.Proofs.YtjokfllldcjheaaGreatDoor.Ro Go.Proofs.YtjokfllldcjheaaGreatDoor.Cs Go.Proofs.YtjokfllldcjheaaGreatDoor.Ed
set_option linter.unusedVariables false
set_option linter.unusedSimpArgs false
/-- what is still to be read of the rows leads to R -/
def LeadR (R : Except Bad (List (List Int) × List Nat × Nat)) (LL : List (List Int)) (BG : List Nat) (S : Except Bad (List (List Int) × List Nat × Nat)) : Prop := match S with
  | .error b => R = .error b
  | .ok q => R = .ok (LL ++ q.1, BG ++ q.2.1, q.2.2)
theorem LeadR.bad {R : Except Bad (List (List Int) × List Nat × Nat)} {LL : List (List Int)} {BG : List Nat} {bs : List UInt8} {N z k a : Nat} {v : Int} {b : Bad} (h : LeadR R LL BG (rdRows bs N z (k + 1) v a)) (hR : rdRow bs N a v = .error b) : R = .error b := by
  rw [rdRows, hR] at h; exact h
theorem LeadR.next {R : Except Bad (List (List Int) × List Nat × Nat)} {LL : List (List Int)} {BG : List Nat} {bs : List UInt8} {N z k a nx : Nat} {v : Int} {L : List Int} (h : LeadR R LL BG (rdRows bs N z (k + 1) v a)) (hR : rdRow bs N a v = .ok (L, nx)) : LeadR R (LL ++ [L]) (BG ++ [a - z]) (rdRows bs N z k (v + 1) nx) := by
  rw [rdRows, hR] at h
  simp only at h
  cases e : rdRows bs N z k (v + 1) nx with
  | error b => rw [e] at h; exact h
  | ok q => rw [e] at h; unfold LeadR at h ⊢; simp only at h ⊢; rw [h]; simp
theorem LeadR.done {R : Except Bad (List (List Int) × List Nat × Nat)} {LL : List (List Int)} {BG : List Nat} {bs : List UInt8} {N z a : Nat} {v : Int} (h : LeadR R LL BG (rdRows bs N z 0 v a)) : R = .ok (LL, BG, a) := by
  rw [rdRows] at h; unfold LeadR at h; simpa using h
theorem rdShard_e1 {bs : List UInt8} {N : Nat} {b : Bad} (h : rdHead bs N = .error b) : rdShard bs N = .error b := by
  unfold rdShard rdCore; rw [h]
theorem rdShard_e2 {bs : List UInt8} {N : Nat} {hd : Nat × Nat × Nat} {b : Bad} (h : rdHead bs N = .ok hd) (h2 : rdIdx bs ((hd.2.1 + 7) / 8) hd.2.2 = .error b) : rdShard bs N = .error b := by
  unfold rdShard rdCore; rw [h]; simp only; rw [h2]
theorem rdShard_e3 {bs : List UInt8} {N : Nat} {hd : Nat × Nat × Nat} {x : List Nat × List Nat × Nat} {b : Bad} (h : rdHead bs N = .ok hd) (h2 : rdIdx bs ((hd.2.1 + 7) / 8) hd.2.2 = .ok x) (h3 : rdRows bs N x.2.2 hd.2.1 hd.1 x.2.2 = .error b) : rdShard bs N = .error b := by
  unfold rdShard rdCore; rw [h]; simp only; rw [h2]; simp only; rw [h3]
theorem rdShard_e4 {bs : List UInt8} {N : Nat} {hd : Nat × Nat × Nat} {x : List Nat × List Nat × Nat} {r : List (List Int) × List Nat × Nat} {p : Nat} (h : rdHead bs N = .ok hd) (h2 : rdIdx bs ((hd.2.1 + 7) / 8) hd.2.2 = .ok x) (h3 : rdRows bs N x.2.2 hd.2.1 hd.1 x.2.2 = .ok r) (h4 : chk r.2.1 x.1 x.2.1 0 = some p) : rdShard bs N = .error (4, p) := by
  unfold rdShard rdCore; rw [h]; simp only; rw [h2]; simp only; rw [h3]; simp only; rw [h4]
theorem rdShard_e5 {bs : List UInt8} {N : Nat} {hd : Nat × Nat × Nat} {x : List Nat × List Nat × Nat} {r : List (List Int) × List Nat × Nat} (h : rdHead bs N = .ok hd) (h2 : rdIdx bs ((hd.2.1 + 7) / 8) hd.2.2 = .ok x) (h3 : rdRows bs N x.2.2 hd.2.1 hd.1 x.2.2 = .ok r) (h4 : chk r.2.1 x.1 x.2.1 0 = none) (h5 : r.2.2 < bs.length) : rdShard bs N = .error (4, r.2.2) := by
  unfold rdShard; rw [rdCore_mk h h2 h3 h4]; simp only; rw [if_pos h5]
theorem rdShard_e6 {bs : List UInt8} {N : Nat} {hd : Nat × Nat × Nat} {x : List Nat × List Nat × Nat} {r : List (List Int) × List Nat × Nat} (h : rdHead bs N = .ok hd) (h2 : rdIdx bs ((hd.2.1 + 7) / 8) hd.2.2 = .ok x) (h3 : rdRows bs N x.2.2 hd.2.1 hd.1 x.2.2 = .ok r) (h4 : chk r.2.1 x.1 x.2.1 0 = none) (h5 : ¬ r.2.2 < bs.length) : rdShard bs N = .ok (hd.1, r.1) := by
  unfold rdShard; rw [rdCore_mk h h2 h3 h4]; simp only; rw [if_neg h5]
theorem chk_step (begins : List Nat) (M P : List Nat) (i : Nat) (h : i < M.length) (h2 : i < P.length) : chk begins (M.drop i) (P.drop i) i = if M.getD i 0 = begins.getD (8 * i) 0 then chk begins (M.drop (i + 1)) (P.drop (i + 1)) (i + 1) else some (P.getD i 0) := by
  rw [List.drop_eq_getElem_cons h, List.drop_eq_getElem_cons h2, chk]
  simp [List.getD_eq_getElem?_getD, h, h2]
theorem chk_end (begins : List Nat) (M P : List Nat) (i : Nat) : chk begins (M.drop M.length) P i = none := by
  rw [List.drop_length]; unfold chk; rfl
theorem getD_ofNat (l : List Nat) (i : Nat) : (l.map Int.ofNat).getD i 0 = ((l.getD i 0 : Nat) : Int) := by
  simp only [List.getD_eq_getElem?_getD, List.getElem?_map]
  cases l[i]? <;> rfl
theorem setCell_two_size (w : World) (n i j : Nat) (x y : Value) : ((w.setCell ⟨n, i, none⟩ x).setCell ⟨n, j, none⟩ y).heap.size = w.heap.size := by simp [World.setCell]
theorem setCell_two_other (w : World) (n i j k : Nat) (x y : Value) (h : k ≠ n) : ((w.setCell ⟨n, i, none⟩ x).setCell ⟨n, j, none⟩ y).heap[k]? = w.heap[k]? := by
  rw [setCell_other _ _ _ _ h, setCell_other _ _ _ _ h]
/-- what Get answers -/
def SG (R : Except Bad (Nat × List (List Int))) (w w' : World) (e : Ending) : Prop := match R with
  | .error b => e = .returned (.tuple #[.agg #[.int .i64 0, .slice none 0 0], faultV (b.2 : Int) (b.1 : Int)])
  | .ok q => ∃ rv, e = .returned (.tuple #[.agg #[.int .i64 (q.1 : Int), rv], .nilIface]) ∧ RR w' (fun g => w.heap.size ≤ g) rv q.2
theorem box2 {W : World} {n : Nat} {a0 a1 : Value} {t : TypeId} (h : W.heap[n]? = some (.cells #[a0, a1] t (0, 0))) (b0 b1 : Value) :
    W.cell? ⟨n, 0, none⟩ = some a0 ∧ W.frozen? ⟨n, 0, none⟩ = false ∧ (W.setCell ⟨n, 0, none⟩ b0).cell? ⟨n, 1, none⟩ = some a1 ∧ (W.setCell ⟨n, 0, none⟩ b0).frozen? ⟨n, 1, none⟩ = false ∧ ((W.setCell ⟨n, 0, none⟩ b0).setCell ⟨n, 1, none⟩ b1).heap[n]? = some (.cells #[b0, b1] t (0, 0)) := by
  have h1 := heap_setCell_same W n 0 _ t b0 h
  have h2 := heap_setCell_same _ n 1 _ t b1 h1
  exact ⟨cell_of_row W n 0 _ _ _ h, frozen_of_row W n 0 _ _ h, cell_of_row _ n 1 _ _ _ h1, frozen_of_row _ n 1 _ _ h1, h2⟩
theorem box_later {w W : World} {o : Obj} (h0 : Below w.heap.size w (w.alloc o)) (h1 : (w.alloc o).heap[w.heap.size]? = some o) (hb : Below (w.alloc o).heap.size (w.alloc o) W) : Below w.heap.size w W ∧ W.heap[w.heap.size]? = some o :=
  ⟨h0.trans (hb.mono (by simp)), (hb.block _ (by simp)).trans h1⟩
set_option maxHeartbeats 8000000 in
set_option maxRecDepth 100000 in
theorem get_calls (s : ByteArray) (N : Nat) (hs : s.size ≤ 140737488355328) (hN : N ≤ 4096) (w : World) :
    Calls Tryz.prog 20 #[.string s, .int .i64 (N : Int)] w fun e w' => Hid (SG (rdShard s.data.toList N) w w' e) ∧ Hid (Below w.heap.size w w') := by
  obtain ⟨R, hR⟩ : ∃ R, rdShard s.data.toList N = R := ⟨_, rfl⟩
  rw [hR]
  obtain ⟨HE, hHE⟩ : ∃ HE, rdHead s.data.toList N = HE := ⟨_, rfl⟩
  have HC := Lib.hid (fun W => heads_calls s N hs hN W)
  rw [hHE] at HC
  have HB0 : Hid (Below w.heap.size w (w.alloc (.cells #[.int .i64 0, .slice none 0 0] 50))) := Lib.hid ((Below.refl _ _).alloc (Nat.le_refl _) _)
  have HR0 : Hid ((w.alloc (.cells #[.int .i64 0, .slice none 0 0] 50)).heap[w.heap.size]? = some (.cells #[.int .i64 0, .slice none 0 0] 50 (0, 0))) := Lib.hid (heap_alloc_new w _)
  cases HE with
  | error b =>
    have HRE := Lib.hid (hR.symm.trans (rdShard_e1 hHE))
    clear hR hHE
    have HC' : Hid (∀ W, Calls Tryz.prog 52 #[.string s, .int .i64 (N : Int)] W fun e w' => e = .returned (.tuple #[.agg #[.int .i64 0, .int .i64 0, .int .i64 0], faultV (b.2 : Int) (b.1 : Int)]) ∧ Hid (Below W.heap.size W w')) := HC
    clear HC
    go_enter Tryz.func20, Tryz.ntmps20
    go_upto_region 3 with (go_at_call 52; refine (HC'.out _).mono ?_; rintro e w1 ⟨rfl, HB1⟩)
    obtain ⟨hBW, hrW⟩ := box_later HB0.out HR0.out (HB1.out.alloc HB1.out.size (.cells #[.int .i64 0, .int .i64 0, .int .i64 0] 111))
    generalize w1.alloc (.cells #[.int .i64 0, .int .i64 0, .int .i64 0] 111) = W at *
    have HBW := Lib.hid hBW
    have HRW := Lib.hid hrW
    clear hBW hrW
    obtain ⟨f0, f1, f2, f3, f4⟩ := box2 HRW.out (.int .i64 0) (.slice none 0 0)
    have HF4 := Lib.hid f4
    clear f4
    go_wp2
    exact bodyPost_ret (cell2_result HF4.out rfl _ rfl Tryz.underlying50 (by kernel_rfl) rfl) rfl ⟨Lib.hid (by rw [HRE.out]; rfl), Lib.hid ((HBW.out.setCell (Nat.le_refl _) _).setCell (Nat.le_refl _) _)⟩
  | ok hd =>
    obtain ⟨a, m1, b, c, e1, e2, e3, rfl⟩ := rdHead_ok hHE
    have hc := (rdAt_len e2).2.1
    rw [list_sz] at hc
    simp only at hc
    have hb1 : 1 ≤ b := by omega
    have hab : a + b ≤ N := by omega
    clear e1 e2 e3
    have HC' : Hid (∀ W, Calls Tryz.prog 52 #[.string s, .int .i64 (N : Int)] W fun e w' => e = .returned (.tuple #[headV a b c, .nilIface]) ∧ Hid (Below W.heap.size W w')) := HC
    clear HC
    obtain ⟨mk, hmk⟩ : ∃ mk, (b + 7) / 8 = mk := ⟨_, rfl⟩
    have HM0 := Lib.hid (fun W => marks_calls a b c (by omega) W)
    rw [hmk] at HM0
    have HI0 := Lib.hid (fun W => index_calls s a b c mk hs hc (by omega) W)
    obtain ⟨IX, hIX⟩ : ∃ IX, rdIdx s.data.toList mk c = IX := ⟨_, rfl⟩
    rw [hIX] at HI0
    have HIX : Hid (rdIdx s.data.toList ((((a, b, c) : Nat × Nat × Nat).2.1 + 7) / 8) ((a, b, c) : Nat × Nat × Nat).2.2 = IX) := Lib.hid (by show rdIdx s.data.toList ((b + 7) / 8) c = IX; rw [hmk]; exact hIX)
    have HHE := Lib.hid hHE
    have HRS := Lib.hid hR
    clear hHE hR
    cases IX with
    | error bd =>
      have HRE := Lib.hid (HRS.out.symm.trans (rdShard_e2 HHE.out HIX.out))
      have HI' : Hid (∀ W, Calls Tryz.prog 53 #[headV a b c, .string s, .int .i64 (mk : Int)] W fun e w' => e = .returned (.tuple #[.slice none 0 0, .slice none 0 0, .int .i64 0, faultV (bd.2 : Int) (bd.1 : Int)]) ∧ Hid (Below W.heap.size W w')) := Lib.hid (fun W => (HI0.out W).mono fun e w' h => ⟨h.1.out, h.2⟩)
      clear HI0 hIX HIX HHE HRS
      go_enter Tryz.func20, Tryz.ntmps20
      go_upto_region 4 with (go_at_call 52; refine (HC'.out _).mono ?_; rintro e w1 ⟨rfl, HB1⟩)
      obtain ⟨hBW, hrW⟩ := box_later HB0.out HR0.out (HB1.out.alloc HB1.out.size (.cells #[.int .i64 (a : Int), .int .i64 (b : Int), .int .i64 (c : Int)] 111))
      have hhW := heap_alloc_new w1 (.cells #[.int .i64 (a : Int), .int .i64 (b : Int), .int .i64 (c : Int)] 111)
      generalize w1.alloc (.cells #[.int .i64 (a : Int), .int .i64 (b : Int), .int .i64 (c : Int)] 111) = W at *
      have hlt := (Array.getElem?_eq_some_iff.1 hhW).1
      generalize w1.heap.size = hb at *
      have HS : Hid (∀ X, Below W.heap.size W X → X.cell? ⟨hb, 0, none⟩ = some (.int .i64 (a : Int)) ∧ X.cell? ⟨hb, 1, none⟩ = some (.int .i64 (b : Int)) ∧ X.cell? ⟨hb, 2, none⟩ = some (.int .i64 (c : Int))) := Lib.hid (fun X h => by
        have h1 := (h.block hb hlt).trans hhW
        exact ⟨cell_of_row X hb 0 _ _ _ h1, cell_of_row X hb 1 _ _ _ h1, cell_of_row X hb 2 _ _ _ h1⟩)
      have HBB : Hid (Below W.heap.size W W.drew) := Lib.hid (Below.refl _ _).drew
      have HBW := Lib.hid hBW
      have HRW := Lib.hid hrW
      clear hBW hrW hhW
      go_region_held3 (fun X => X.cell? ⟨hb, 0, none⟩ = some (.int .i64 (a : Int)) ∧ X.cell? ⟨hb, 1, none⟩ = some (.int .i64 (b : Int)) ∧ X.cell? ⟨hb, 2, none⟩ = some (.int .i64 (c : Int)))
        (first | (go_keep; done) | exact HS.out _ HBB.out)
        (first
          | (go_at_call 54; refine (HM0.out _).mono ?_; rintro e w3 ⟨rfl, HBx⟩; have HBB := Lib.hid (HBB.out.trans (HBx.out.mono HBB.out.size)))
          | (go_at_call 53; refine (HI'.out _).mono ?_; rintro e w4 ⟨rfl, HBy⟩; have HBB := Lib.hid (HBB.out.trans (HBy.out.mono HBB.out.size))))
      obtain ⟨f0, f1, f2, f3, f4⟩ := box2 ((HBB.out.block _ (Array.getElem?_eq_some_iff.1 HRW.out).1).trans HRW.out) (.int .i64 0) (.slice none 0 0)
      have HF4 := Lib.hid f4
      have HBZ := Lib.hid (HBW.out.trans (HBB.out.mono HBW.out.size))
      clear f4
      go_wp2
      exact bodyPost_ret (cell2_result HF4.out rfl _ rfl Tryz.underlying50 (by kernel_rfl) rfl) rfl ⟨Lib.hid (by rw [HRE.out]; rfl), Lib.hid ((HBZ.out.setCell (Nat.le_refl _) _).setCell (Nat.le_refl _) _)⟩
    | ok x =>
      obtain ⟨M, P, z⟩ := x
      have hIL := rdIdx_len (by rw [list_sz]; exact hc) hIX
      simp only [list_sz] at hIL
      obtain ⟨hz0, hz, hMl, hPl⟩ := hIL
      have HI' : Hid (∀ W, Calls Tryz.prog 53 #[headV a b c, .string s, .int .i64 (mk : Int)] W fun e w' => ∃ u v, e = .returned (.tuple #[u, v, .int .i64 (z : Int), .nilIface]) ∧ Hid (OJ w' W.heap.size u (M.map Int.ofNat) ∧ OJ w' W.heap.size v (P.map Int.ofNat)) ∧ Hid (Below W.heap.size W w')) := Lib.hid (fun W => (HI0.out W).mono fun e w' h => by obtain ⟨u, v, g1, g2, g3⟩ := h.1.out; exact ⟨u, v, g1, Lib.hid ⟨g2, g3⟩, h.2⟩)
      obtain ⟨RW, hRW⟩ : ∃ RW, rdRows s.data.toList N z b (a : Int) z = RW := ⟨_, rfl⟩
      have HRW0 : Hid (rdRows s.data.toList N (((M, P, z) : List Nat × List Nat × Nat).2.2) (((a, b, c) : Nat × Nat × Nat).2.1) ((((a, b, c) : Nat × Nat × Nat).1 : Nat) : Int) (((M, P, z) : List Nat × List Nat × Nat).2.2) = RW) := Lib.hid hRW
      have HLE : Hid (LeadR RW [] [] (rdRows s.data.toList N z (a + b - a) ((a : Nat) : Int) z)) := Lib.hid (by
        rw [Nat.add_sub_cancel_left, hRW]; unfold LeadR
        cases RW with
        | error b => rfl
        | ok q => simp)
      clear HI0 hIX hRW
      go_enter Tryz.func20, Tryz.ntmps20
      go_upto_region 4 with (go_at_call 52; refine (HC'.out _).mono ?_; rintro e w1 ⟨rfl, HB1⟩)
      obtain ⟨hBW, hrW⟩ := box_later HB0.out HR0.out (HB1.out.alloc HB1.out.size (.cells #[.int .i64 (a : Int), .int .i64 (b : Int), .int .i64 (c : Int)] 111))
      have hhW := heap_alloc_new w1 (.cells #[.int .i64 (a : Int), .int .i64 (b : Int), .int .i64 (c : Int)] 111)
      generalize w1.alloc (.cells #[.int .i64 (a : Int), .int .i64 (b : Int), .int .i64 (c : Int)] 111) = W at *
      have hlt := (Array.getElem?_eq_some_iff.1 hhW).1
      generalize w1.heap.size = hb at *
      have HS : Hid (∀ X, Below W.heap.size W X → X.cell? ⟨hb, 0, none⟩ = some (.int .i64 (a : Int)) ∧ X.cell? ⟨hb, 1, none⟩ = some (.int .i64 (b : Int)) ∧ X.cell? ⟨hb, 2, none⟩ = some (.int .i64 (c : Int))) := Lib.hid (fun X h => by
        have h1 := (h.block hb hlt).trans hhW
        exact ⟨cell_of_row X hb 0 _ _ _ h1, cell_of_row X hb 1 _ _ _ h1, cell_of_row X hb 2 _ _ _ h1⟩)
      have HBB : Hid (Below W.heap.size W W.drew) := Lib.hid (Below.refl _ _).drew
      have HBW := Lib.hid hBW
      have HRW := Lib.hid hrW
      clear hBW hrW hhW
      go_region_held3 (fun X => X.cell? ⟨hb, 0, none⟩ = some (.int .i64 (a : Int)) ∧ X.cell? ⟨hb, 1, none⟩ = some (.int .i64 (b : Int)) ∧ X.cell? ⟨hb, 2, none⟩ = some (.int .i64 (c : Int)))
        (first | (go_keep; done) | exact HS.out _ HBB.out)
        (first
          | (go_at_call 54; refine (HM0.out _).mono ?_; rintro e w3 ⟨rfl, HBx⟩; have HBB := Lib.hid (HBB.out.trans (HBx.out.mono HBB.out.size)))
          | (go_at_call 53; refine (HI'.out _).mono ?_; rintro e w4 ⟨mv, pv, rfl, HMP, HBy⟩; have HSZ := Lib.hid HBB.out.size; have HBB := Lib.hid (HBB.out.trans (HBy.out.mono HBB.out.size))))
      have HB4 := Lib.hid (HBW.out.trans (HBB.out.mono HBW.out.size))
      have HR4 : Hid (w4.heap[w.heap.size]? = some (.cells #[.int .i64 0, .slice none 0 0] 50 (0, 0))) := Lib.hid ((HBB.out.block _ (Array.getElem?_eq_some_iff.1 HRW.out).1).trans HRW.out)
      have HW4 : Hid (w.heap.size < w4.heap.size) := Lib.hid (Array.getElem?_eq_some_iff.1 HR4.out).1
      have HS4 : Hid (∀ X, Below w4.heap.size w4 X → X.cell? ⟨hb, 0, none⟩ = some (.int .i64 (a : Int)) ∧ X.cell? ⟨hb, 1, none⟩ = some (.int .i64 (b : Int))) := Lib.hid (fun X h => by
        have := HS.out X (HBB.out.trans (h.mono HBB.out.size))
        exact ⟨this.1, this.2.1⟩)
      clear HBB HRW HBW HS hlt
      obtain ⟨c0, c1⟩ := HS4.out w4 (Below.refl _ _)
      have c2 := fun o => (HS4.out (w4.alloc o) ((Below.refl _ _).alloc (Nat.le_refl _) o)).1
      go_upto_region 11 with (fail)
      go_loopw [12, 13, 14] (fun p u x wz => ∃ (y at_ : Nat) (BG : List Nat) (rows : Value) (vs : List Value) (LL : List (List Int)), p = .int .i64 (at_ : Int) ∧ x = .int .i64 (y : Int) ∧ a ≤ y ∧ y ≤ a + b ∧ z ≤ at_ ∧ at_ ≤ s.size ∧ Hid (a + BG.length = y ∧ a + LL.length = y) ∧ Hid (LeadR RW LL BG (rdRows s.data.toList N z (a + b - y) (y : Int) at_)) ∧ Hid (GL w4 wz a u rows (BG.map Int.ofNat) vs LL)) (fun _ _ x _ => a + b - (intOf x).toNat)
      case atStart => exact ⟨a, z, [], _, [], [], rfl, rfl, Nat.le_refl _, by omega, Nat.le_refl _, hz, Lib.hid ⟨rfl, rfl⟩, HLE, Lib.hid (GL.start w4 a)⟩
      case round =>
        clear HLE
        obtain ⟨y, at_, BG, rows, vs, LL, rfl, rfl, hay, hyb, hzat, hat, HLN, HLE, HG⟩ := hrel
        obtain ⟨d0, d1⟩ := HS4.out _ HG.out.bel
        have HBL : Hid ((BG.map Int.ofNat).length ≤ 4096) := Lib.hid (by rw [List.length_map]; have := HLN.out.1; omega)
        by_cases hlt : y < a + b
        · have i1 : (y : Int) < (a : Int) + (b : Int) := by omega
          have hk : a + b - y = (a + b - (y + 1)) + 1 := by omega
          rw [hk] at HLE
          have HSC := Lib.hid (fun W => gget_calls s at_ N y hat hs hN (by omega) W)
          cases hA : rdRow s.data.toList N at_ (y : Int) with
          | error bd =>
            have HRE := Lib.hid (HRS.out.symm.trans (rdShard_e3 HHE.out HIX.out (HRW0.out.trans (HLE.out.bad hA))))
            have HSC' : Hid (∀ W, Calls Tryz.prog 55 #[.string s, .int .i64 (at_ : Int), .int .i64 (N : Int), .int .i64 (y : Int)] W fun e w' => e = .returned (.tuple #[.slice none 0 0, .int .i64 (at_ : Int), faultV (bd.2 : Int) (bd.1 : Int)]) ∧ Hid (Below W.heap.size W w')) := Lib.hid (fun W => by have := HSC.out W; rw [hA] at this; exact this.mono fun e w' h => ⟨h.1.out, h.2⟩)
            obtain ⟨uA, uc, hu, -⟩ := id HG.out.one.shape
            obtain ⟨un, hun⟩ : ∃ un, (BG.map Int.ofNat).length = un := ⟨_, rfl⟩
            rw [hun] at hu
            subst hu
            clear HSC HLE hA hk hun
            go_upto_region 16 with (first
              | (at_builtin; refine OJ.app_on (base := w4.heap.size + 1) (HG.out.one.alloc _) (JR.lit _ [(at_ : Int) - (z : Int)] _ rfl 1 rfl (by simp)) rfl _ _ rfl rfl rfl (by have := HG.out.lt; simp; omega) (by have := HBL.out; simp only [List.length_cons, List.length_nil]; omega) ?_; intro v1 w5 k1 k2 k3; have HG5 := Lib.hid ((HG.out.alloc _).push1 k1 k2 k3); clear k1 k2 k3)
              | (go_at_call 55; refine (HSC'.out _).mono ?_; rintro e w6 ⟨rfl, HBy⟩))
            have HG6 := Lib.hid (HG5.out.later HBy.out)
            obtain ⟨f0, f1, f2, f3, f4⟩ := box2 ((HG6.out.bel.block _ HW4.out).trans HR4.out) (.int .i64 0) (.slice none 0 0)
            have HF4 := Lib.hid f4
            have HBZ := Lib.hid (HB4.out.trans (HG6.out.bel.mono HB4.out.size))
            clear f4
            go_wp2
            exact bodyPost_ret (cell2_result HF4.out rfl _ rfl Tryz.underlying50 (by kernel_rfl) rfl) rfl ⟨Lib.hid (by rw [HRE.out]; rfl), Lib.hid ((HBZ.out.setCell (Nat.le_refl _) _).setCell (Nat.le_refl _) _)⟩
          | ok q =>
            obtain ⟨L, nx⟩ := q
            have hq := (rdRow_len hA).2.1
            rw [list_sz] at hq
            have hq0 := (rdRow_len hA).1
            simp only at hq hq0
            have HLE2 := Lib.hid (HLE.out.next hA)
            have HSC' : Hid (∀ W, Calls Tryz.prog 55 #[.string s, .int .i64 (at_ : Int), .int .i64 (N : Int), .int .i64 (y : Int)] W fun e w' => ∃ t, e = .returned (.tuple #[t, .int .i64 (nx : Int), .nilIface]) ∧ Hid (OJ w' W.heap.size t L) ∧ Hid (Below W.heap.size W w')) := Lib.hid (fun W => by have := HSC.out W; rw [hA] at this; exact this.mono fun e w' h => by obtain ⟨t, g1, g2⟩ := h.1.out; exact ⟨t, g1, Lib.hid g2, h.2⟩)
            obtain ⟨uA, uc, hu, -⟩ := id HG.out.one.shape
            obtain ⟨un, hun⟩ : ∃ un, (BG.map Int.ofNat).length = un := ⟨_, rfl⟩
            rw [hun] at hu
            subst hu
            clear HSC HLE hA hk hun
            go_upto_region 17 with (first
              | (at_builtin; refine OJ.app_on (base := w4.heap.size + 1) (HG.out.one.alloc _) (JR.lit _ [(at_ : Int) - (z : Int)] _ rfl 1 rfl (by simp)) rfl _ _ rfl rfl rfl (by have := HG.out.lt; simp; omega) (by have := HBL.out; simp only [List.length_cons, List.length_nil]; omega) ?_; intro v1 w5 k1 k2 k3; have HG5 := Lib.hid ((HG.out.alloc _).push1 k1 k2 k3); clear k1 k2 k3)
              | (go_at_call 55; refine (HSC'.out _).mono ?_; rintro e w6 ⟨t, rfl, HT, HBy⟩))
            have HG6 := Lib.hid (HG5.out.later HBy.out)
            have HTN := Lib.hid (HG5.out.new HT.out)
            obtain ⟨tA, tc, ht, -⟩ := id HT.out.shape
            obtain ⟨tn, htn⟩ : ∃ tn, L.length = tn := ⟨_, rfl⟩
            rw [htn] at ht
            subst ht
            have HVL : Hid (vs.length ≤ 4096) := Lib.hid (by have := HG6.out.els.1; have := HLN.out.2; omega)
            obtain ⟨b0, b1⟩ := HG6.out.cells
            clear HT b0
            go_wp2_with (at_builtin; refine OV.push_on (base := w4.heap.size + 1) (HG6.out.two.alloc _) (z := .slice tA tn tc) rfl (cell_of_row _ _ 0 _ _ _ (heap_alloc_new w6 _)) rfl _ _ rfl rfl rfl (by have := HG6.out.lt; simp; omega) (by have := HVL.out; omega) ?_; intro v2 w7 k1 k2 k3; obtain ⟨vA, vc, hv2, -⟩ := id k1.shape; generalize (vs ++ [Value.slice tA tn tc]).length = vn at hv2; subst hv2; obtain ⟨q1, q2⟩ := (HG6.out.alloc _).box k2; have HG7 := Lib.hid ((HG6.out.alloc _).push2 (new_alloc _ HTN.out) k1 k2 k3); clear k1 k2 k3)
            go_roundw
            case rel => exact ⟨y + 1, nx, BG ++ [at_ - z], _, vs ++ [_], LL ++ [L], rfl, by go_num, by omega, by omega, by omega, hq, Lib.hid (by have := HLN.out; simp; omega), Lib.hid (by have := HLE2.out; rw [show (y : Int) + 1 = ((y + 1 : Nat) : Int) by omega] at this; exact this), Lib.hid (by rw [map_snoc, show ((at_ - z : Nat) : Int) = (at_ : Int) - (z : Int) by omega]; exact HG7.out)⟩
            case measure => simp [intOf]; omega
        · have i1 : ¬ (y : Int) < (a : Int) + (b : Int) := by omega
          have hye : a + b - y = 0 := by omega
          have HF : Hid (RW = .ok (LL, BG, at_)) := Lib.hid (by have := HLE.out; rw [hye] at this; exact this.done)
          obtain ⟨C, hC⟩ : ∃ C, chk BG M P 0 = C := ⟨_, rfl⟩
          have HCC := Lib.hid hC
          have HC0 : Hid (chk BG (M.drop 0) (P.drop 0) 0 = C) := Lib.hid hC
          have HBGl : Hid (BG.length = b) := Lib.hid (by have := HLN.out.1; omega)
          have HLLl : Hid (LL.length = b) := Lib.hid (by have := HLN.out.2; omega)
          obtain ⟨gm, jm, -⟩ := HMP.out.1.reads
          obtain ⟨gp, jp, -⟩ := HMP.out.2.reads
          obtain ⟨gb, jb, -⟩ := HG.out.one.reads
          obtain ⟨om, cm, hm, hm1, hm2⟩ := jr_form jm (by rw [List.length_map]; omega)
          obtain ⟨op, cp, hp, hp1, hp2⟩ := jr_form jp (by rw [List.length_map]; omega)
          obtain ⟨ob, cb, hv, hv1, hv2⟩ := jr_form jb (by rw [List.length_map, HBGl.out]; omega)
          rw [List.length_map, hMl] at hm hm1
          rw [List.length_map, hPl] at hp hp1
          rw [List.length_map, HBGl.out] at hv hv1
          subst hm hp hv
          have HJM := Lib.hid jm
          have HJP := Lib.hid jp
          have HML := Lib.hid hMl
          have HPL := Lib.hid hPl
          have h8 : mk * 8 ≤ b + 7 := by omega
          clear hye hC jm jp jb hMl hPl HLE HLN HBL
          go_upto_region 19 with (fail)
          go_loopw [87] (fun x wz => ∃ (i : Nat), x = .int .i64 (i : Int) ∧ i ≤ mk ∧ Hid (chk BG (M.drop i) (P.drop i) i = C) ∧ Hid (GL w4 wz a (.slice (some ⟨gb, ob, none⟩) b cb) rows (BG.map Int.ofNat) vs LL)) (fun x _ => mk - (intOf x).toNat)
          case atStart => exact ⟨0, rfl, Nat.zero_le _, HC0, HG⟩
          case round =>
            clear HC0 HG
            obtain ⟨i, rfl, hi, HC1, HG⟩ := hrel
            by_cases him : i < mk
            · have i2 : (i : Int) < (mk : Int) := by omega
              have i3 : i * 8 < b := by omega
              have i4 : (i : Int) * 8 < (b : Int) := by omega
              have p1 := jr_cell (HJM.out.later HG.out.bel) i (by rw [List.length_map, HML.out]; exact him)
              have p2 := jr_cell (HJP.out.later HG.out.bel) i (by rw [List.length_map, HPL.out]; exact him)
              obtain ⟨g3, j3, -⟩ := HG.out.one.reads
              have p3 := jr_cell j3 (i * 8) (by rw [List.length_map, HBGl.out]; exact i3)
              have HC2 := HC1.out
              rw [chk_step BG M P i (by rw [HML.out]; exact him) (by rw [HPL.out]; exact him)] at HC2
              rw [getD_ofNat] at p1 p2 p3
              rw [Nat.mul_comm 8 i] at HC2
              by_cases hmb : M.getD i 0 = BG.getD (i * 8) 0
              · rw [if_pos hmb] at HC2
                have HC3 := Lib.hid HC2
                rw [← hmb] at p3
                clear HC2 hmb HC1 j3 p2
                generalize M.getD i 0 = mi at *
                have b9 : ((mi : Int) != (mi : Int)) = false := by simp
                go_wp2
                go_roundw
                case rel => exact ⟨i + 1, by go_num, by omega, HC3, HG⟩
                case measure => simp [intOf]; omega
              · rw [if_neg hmb] at HC2
                have HRE := Lib.hid (HRS.out.symm.trans (rdShard_e4 HHE.out HIX.out (HRW0.out.trans HF.out) (HCC.out.trans HC2.symm)))
                have b9 : (((M.getD i 0 : Nat) : Int) != ((BG.getD (i * 8) 0 : Nat) : Int)) = true := by rw [bne_iff_ne]; omega
                obtain ⟨f0, f1, f2, f3, f4⟩ := box2 ((HG.out.bel.block _ HW4.out).trans HR4.out) (.int .i64 0) (.slice none 0 0)
                have HF4 := Lib.hid f4
                have HBZ := Lib.hid (HB4.out.trans (HG.out.bel.mono HB4.out.size))
                clear f4 HC2 hmb HC1 j3
                generalize M.getD i 0 = mi at *
                generalize BG.getD (i * 8) 0 = bi at *
                generalize P.getD i 0 = pi at *
                go_wp2_with (go_at_call 46; refine (swrong_calls _ _ _).mono ?_; rintro e w8 ⟨rfl, rfl⟩)
                exact bodyPost_ret (cell2_result HF4.out rfl _ rfl Tryz.underlying50 (by kernel_rfl) rfl) rfl ⟨Lib.hid (by rw [HRE.out]; rfl), Lib.hid ((HBZ.out.setCell (Nat.le_refl _) _).setCell (Nat.le_refl _) _)⟩
            · obtain rfl : mk = i := by omega
              have i2 : ¬ (mk : Int) < (mk : Int) := by omega
              have HC4 : Hid (chk BG M P 0 = none) := Lib.hid (by
                have := HC1.out
                have e : M.drop mk = M.drop M.length := by rw [HML.out]
                rw [e, chk_end] at this
                rw [HCC.out, this])
              obtain ⟨rA, rc, hrw, -⟩ := id HG.out.two.shape
              obtain ⟨rn, hrn⟩ : ∃ rn, vs.length = rn := ⟨_, rfl⟩
              rw [hrn] at hrw
              subst hrw
              have HBZ := Lib.hid (HB4.out.trans (HG.out.bel.mono HB4.out.size))
              have hrN := (HG.out.bel.block _ HW4.out).trans HR4.out
              clear hrn HC1
              by_cases hlt2 : at_ < s.size
              · have i5 : (at_ : Int) < (s.size : Int) := by omega
                have HRE := Lib.hid (HRS.out.symm.trans (rdShard_e5 HHE.out HIX.out (HRW0.out.trans HF.out) HC4.out (by rw [list_sz]; exact hlt2)))
                obtain ⟨f0, f1, f2, f3, f4⟩ := box2 hrN (.int .i64 0) (.slice none 0 0)
                have HF4 := Lib.hid f4
                clear f4 hrN
                go_wp2_with (go_at_call 46; refine (swrong_calls _ _ _).mono ?_; rintro e w8 ⟨rfl, rfl⟩)
                exact bodyPost_ret (cell2_result HF4.out rfl _ rfl Tryz.underlying50 (by kernel_rfl) rfl) rfl ⟨Lib.hid (by rw [HRE.out]; rfl), Lib.hid ((HBZ.out.setCell (Nat.le_refl _) _).setCell (Nat.le_refl _) _)⟩
              · have i5 : ¬ (at_ : Int) < (s.size : Int) := by omega
                have HRE := Lib.hid (HRS.out.symm.trans (rdShard_e6 HHE.out HIX.out (HRW0.out.trans HF.out) HC4.out (by rw [list_sz]; exact hlt2)))
                obtain ⟨f0, f1, f2, f3, f4⟩ := box2 hrN (.int .i64 (a : Int)) (.slice rA rn rc)
                obtain ⟨b0, b1⟩ := HG.out.cells
                have HF4 := Lib.hid f4
                have HRR := Lib.hid (HG.out.rows HW4.out (setCell_two_size wr _ 0 1 _ _) (fun k hk => setCell_two_other wr w.heap.size 0 1 k (.int .i64 (a : Int)) (.slice rA rn rc) hk))
                clear f4 hrN
                go_wp2
                exact bodyPost_ret (cell2_result HF4.out rfl _ rfl Tryz.underlying50 (by kernel_rfl) rfl) rfl ⟨Lib.hid (by rw [HRE.out]; exact ⟨_, rfl, HRR.out.move (Nat.le_refl _) fun g _ hg => ⟨rfl, Nat.le_trans (Nat.le_of_lt HW4.out) hg⟩⟩), Lib.hid ((HBZ.out.setCell (Nat.le_refl _) _).setCell (Nat.le_refl _) _)⟩
end Go.Proofs.YtjokfllldcjheaaGreatDoor.Oc
