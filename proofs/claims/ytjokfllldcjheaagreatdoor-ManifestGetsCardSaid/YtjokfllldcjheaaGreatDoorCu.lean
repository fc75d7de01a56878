/- csr: a graph's rows in memory; rows, walked. · csr: rows, walked. · csr: Build, Nodes, Edges, row, Begin, Degree. · csr: row. · csr: Clone of integers, Targets, Degree; what is asked of no node. -/
import Derived.Test.YtjokfllldcjheaaGreatDoorRo
import Derived.Test.YtjokfllldcjheaaGreatDoorEi
import Derived.BigRegion
import Derived.OrdersHeld
import Derived.Deep.RegionHeld3
/- csr: a graph's rows in memory; rows, walked. -/
namespace Go.Proofs.YtjokfllldcjheaaGreatDoor.Cs
open Go.RowKit Go.Proofs.YtjokfllldcjheaaGreatDoor.Ed Go.Proofs.YtjokfllldcjheaaGreatDoor.Ro
set_option linter.unusedVariables false
set_option linter.unusedSimpArgs false

theorem er_form {w : World} {g : Nat} {v : Value} {l : List E2} (h : ER w g v l) : ∃ A c, v = .slice A l.length c ∧ l.length ≤ c ∧ c ≤ 9223372036854775807 := by
  obtain ⟨o, A, c, hv, h1, h2, -⟩ := h
  exact ⟨A, c, hv, h1, h2⟩
/-- where each node's targets begin -/
abbrev begV (bb N : Nat) : Value := .slice (some ⟨bb, 0, none⟩) (N + 1) (N + 1)
def begF (l : List E2) : Nat → Int := fun v => (bel l v : Nat)
/-- while it is counted: how many go from the node ahead -/
def cntF (l : List E2) : Nat → Int := fun v => if v = 0 then 0 else (deg l ((v : Int) - 1) : Nat)
/-- while it is added up: up to node j it is done -/
def addF (l : List E2) (j : Nat) : Nat → Int := fun v => if v ≤ j then begF l v else cntF l v
theorem cntF_nil (n : Nat) : rowF (cntF []) n = List.replicate n 0 := by
  unfold rowF
  apply List.ext_getElem
  · simp
  · intro i h1 h2
    simp [cntF, deg]
theorem cntF_step (l : List E2) (k X : Nat) (n : Nat) (hk : k < l.length) (hX : (l.getD k (0, 0)).1 = (X : Int)) :
    rowF (fun j => if j = X + 1 then cntF (l.take k) (X + 1) + 1 else cntF (l.take k) j) n = rowF (cntF (l.take (k + 1))) n := by
  refine rowF_congr fun v _ => ?_
  by_cases e : v = X + 1
  · subst e
    rw [if_pos rfl]
    unfold cntF
    rw [if_neg (by omega), if_neg (by omega), show ((X + 1 : Nat) : Int) - 1 = (X : Int) by omega, deg_take l _ k hk, if_pos hX]
    omega
  · rw [if_neg e]
    unfold cntF
    by_cases h0 : v = 0
    · rw [if_pos h0, if_pos h0]
    · rw [if_neg h0, if_neg h0, deg_take l _ k hk, if_neg (by omega)]
      rfl
theorem addF_zero (l : List E2) (n : Nat) (h : ∀ e ∈ l, 0 ≤ e.1) : rowF (addF l 0) n = rowF (cntF l) n := by
  refine rowF_congr fun v _ => ?_
  unfold addF
  by_cases h0 : v = 0
  · subst h0
    rw [if_pos (Nat.le_refl _)]
    unfold begF cntF
    rw [if_pos rfl, show ((0 : Nat) : Int) = 0 from rfl, bel_zero l h]
    rfl
  · rw [if_neg (by omega)]
theorem addF_step (l : List E2) (j n : Nat) : rowF (fun v => if v = j + 1 then addF l j (j + 1) + addF l j j else addF l j v) n = rowF (addF l (j + 1)) n := by
  refine rowF_congr fun v _ => ?_
  by_cases e : v = j + 1
  · subst e
    rw [if_pos rfl]
    unfold addF
    rw [if_neg (by omega), if_pos (Nat.le_refl _), if_pos (Nat.le_refl _)]
    unfold cntF begF
    rw [if_neg (by omega), show ((j + 1 : Nat) : Int) - 1 = (j : Int) by omega, show ((j + 1 : Nat) : Int) = (j : Int) + 1 by omega, bel_step]
    omega
  · rw [if_neg e]
    unfold addF
    by_cases h : v ≤ j
    · rw [if_pos h, if_pos (by omega)]
    · rw [if_neg h, if_neg (by omega)]
theorem addF_all (l : List E2) (N : Nat) : rowF (addF l N) (N + 1) = rowF (begF l) (N + 1) := rowF_congr fun v h => by
  unfold addF; rw [if_pos (by omega)]
/-- a graph's rows, at block p -/
structure CS (w : World) (B p bb : Nat) (tv : Value) (N : Nat) (l : List E2) : Prop where
  blk : w.heap[p]? = some (.cells #[begV bb N, tv] 102 (0, 0))
  beg : OJ w B (begV bb N) (rowF (begF l) (N + 1))
  row : OJ w B tv (tos l)
  base : B ≤ p
  up : Up l
  ok : ∀ e ∈ l, okE N e
  few : l.length ≤ 20000
  nodes : N ≤ 4096
theorem CS.lt {w : World} {B p bb : Nat} {tv : Value} {N : Nat} {l : List E2} (h : CS w B p bb tv N l) : p < w.heap.size := (Array.getElem?_eq_some_iff.1 h.blk).1
theorem CS.kept {w w' : World} {B p bb : Nat} {tv : Value} {N : Nat} {l : List E2} (h : CS w B p bb tv N l) {row : Option Nat} (hg : w.grownBy w' row) (hr : ∀ k, row = some k → k < B ∨ w.heap.size ≤ k) : CS w' B p bb tv N l := by
  have hl := h.lt
  have hb := OJ.lt h.beg bb rfl
  have hb2 := OJ.base h.beg bb rfl
  have hB := h.base
  refine ⟨?_, h.beg.kept hg (.inr ?_), ?_, hB, h.up, h.ok, h.few, h.nodes⟩
  · rw [hg.block p hl (fun e => by have := hr p e.symm; omega)]
    exact h.blk
  · intro e
    have := hr bb (e.symm.trans rfl)
    omega
  · cases hv : tv.ownBlock with
    | none => exact h.row.kept hg (.inl hv)
    | some k =>
      have h1 := OJ.lt h.row k hv
      have h2 := OJ.base h.row k hv
      refine h.row.kept hg (.inr fun e => ?_)
      have := hr k (by rw [← e, hv])
      omega
theorem CS.later {w w' : World} {B p bb : Nat} {tv : Value} {N : Nat} {l : List E2} (h : CS w B p bb tv N l) (hb : Below w.heap.size w w') : CS w' B p bb tv N l :=
  h.kept (grown_below hb none) (fun k e => by cases e)
/-- the two cells -/
theorem CS.cells {w : World} {B p bb : Nat} {tv : Value} {N : Nat} {l : List E2} (h : CS w B p bb tv N l) : w.cell? ⟨p, 0, none⟩ = some (begV bb N) ∧ w.cell? ⟨p, 1, none⟩ = some tv :=
  ⟨by rw [cell_of_row w p 0 _ _ _ h.blk]; rfl, by rw [cell_of_row w p 1 _ _ _ h.blk]; rfl⟩
theorem tos_take (l : List E2) (k : Nat) (h : k < l.length) : tos (l.take (k + 1)) = tos (l.take k) ++ [(l.getD k (0, 0)).2] := by
  rw [List.take_add_one, List.getElem?_eq_getElem h]
  have e : l.getD k (0, 0) = l[k] := by simp [List.getD_eq_getElem?_getD, h]
  rw [e]
  simp only [tos, List.map_append, Option.toList_some, List.map_cons, List.map_nil]
end Go.Proofs.YtjokfllldcjheaaGreatDoor.Cs
/- csr: rows, walked. -/
namespace Go.Proofs.YtjokfllldcjheaaGreatDoor.Cs
open Go.RowKit Go.Proofs.YtjokfllldcjheaaGreatDoor.Ed Go.Proofs.YtjokfllldcjheaaGreatDoor.Ro
set_option linter.unusedVariables false
set_option linter.unusedSimpArgs false

/-- while the edges are read: k of them have been -/
structure Rd (w wz : World) (bb p : Nat) (N : Nat) (l : List E2) (k : Nat) (tv : Value) (F : Nat → Int) : Prop where
  blk : wz.heap[p]? = some (.cells #[begV bb N, tv] 102 (0, 0))
  beg : OJ wz w.heap.size (begV bb N) (rowF F (N + 1))
  row : OJ wz w.heap.size tv (tos (l.take k))
  n1 : bb ≠ p
  n2 : ∀ b, tv.ownBlock = some b → b ≠ p ∧ b ≠ bb
  base : w.heap.size ≤ p
  below : Below w.heap.size w wz
theorem Rd.close {w W6 w7 : World} {bb p N : Nat} {l : List E2} {k : Nat} {tv tv' : Value} {y : Int} (hb6 : Below w.heap.size w W6) (hblk : W6.heap[p]? = some (.cells #[begV bb N, tv] 102 (0, 0)))
    (hbeg : OJ W6 w.heap.size (begV bb N) (rowF (cntF (l.take (k + 1))) (N + 1))) (n1 : bb ≠ p) (n2 : ∀ b, tv.ownBlock = some b → b ≠ p ∧ b ≠ bb) (hrow : OJ W6 w.heap.size tv (tos (l.take k)))
    (hg : W6.grownBy w7 tv.ownBlock) (h7 : OJ w7 w.heap.size tv' (tos (l.take k) ++ [y])) (hw : tv'.ownBlock = tv.ownBlock ∨ tv'.ownBlock = some W6.heap.size) (ht : tos (l.take (k + 1)) = tos (l.take k) ++ [y]) (hp : w.heap.size ≤ p) :
    Rd w (w7.setCell ⟨p, 1, none⟩ tv') bb p N l (k + 1) tv' (cntF (l.take (k + 1))) := by
  have hpl := (Array.getElem?_eq_some_iff.1 hblk).1
  have hbl := OJ.lt hbeg bb rfl
  have nep : some p ≠ tv.ownBlock := fun e => (n2 p e.symm).1 rfl
  have neb : some bb ≠ tv.ownBlock := fun e => (n2 bb e.symm).2 rfl
  have hblk7 := (hg.block p hpl nep).trans hblk
  have hset : w7.grownBy (w7.setCell ⟨p, 1, none⟩ tv') (some p) := ⟨rfl, rfl, rfl, by simp, fun j _ hj => heap_setCell_other w7 ⟨p, 1, none⟩ j _ (fun e => hj (by simp [e]))⟩
  have n3 : ∀ b, tv'.ownBlock = some b → b ≠ p ∧ b ≠ bb := by
    intro b hb
    rcases hw with e | e
    · exact n2 b (e ▸ hb)
    · rw [e] at hb
      injection hb with hb
      omega
  refine ⟨?_, ?_, ?_, n1, n3, hp, ?_⟩
  · exact heap_setCell_same w7 p 1 _ _ _ hblk7
  · exact (hbeg.kept hg (.inr neb)).kept hset (.inr fun e => n1 (by injection e))
  · rw [ht]
    cases hv : tv'.ownBlock with
    | none => exact h7.kept hset (.inl hv)
    | some b => exact h7.kept hset (.inr fun e => (n3 b hv).1 (by rw [hv] at e; injection e))
  · have b1 := hb6.grown hg hb6.size (fun b hb => OJ.base hrow b hb)
    exact b1.grown hset b1.size (fun b hb => by injection hb with hb; omega)
set_option maxHeartbeats 4000000 in
set_option maxRecDepth 100000 in
theorem rows_calls (N g : Nat) (v : Value) (l : List E2) (w : World) (h : ER w g v l) (hup : Up l) (hok : ∀ e ∈ l, okE N e) (hl : l.length ≤ 20000) (hN : N ≤ 4096) :
    Calls Tryz.prog 42 #[.int .i64 (N : Int), v] w fun e w' => ∃ p bb tv, e = .returned (.pointer (some ⟨p, 0, none⟩)) ∧ Hid (CS w' w.heap.size p bb tv N l) ∧ Hid (Below w.heap.size w w') := by
  have HE := Lib.hid h
  have HUP := Lib.hid hup
  have HOK := Lib.hid hok
  obtain ⟨A, c, rfl, h1, h2⟩ := er_form h
  obtain ⟨len, hlen⟩ : ∃ len, l.length = len := ⟨_, rfl⟩
  rw [hlen] at h1 hl
  rw [hlen]
  have HL := Lib.hid hlen
  have hl7 : (len : Int) ≤ 20000 := by omega
  obtain ⟨C, hmk, hO1⟩ := make_run w (N + 1) (by omega)
  rw [show ((N + 1 : Nat) : Int) = (N : Int) + 1 by omega] at hmk
  have HO1 := Lib.hid hO1
  clear h hup hok hlen hO1
  go_enter Tryz.func42, Tryz.ntmps42
  go_upto_region 3 with (fail)
  clear hmk
  have hz : (w.alloc (.cells C 3)).heap.size = w.heap.size + 1 := by simp
  have HRD : Hid (Rd w ((w.alloc (.cells C 3)).alloc (.cells #[begV w.heap.size N, .slice none 0 0] 102)) w.heap.size (w.heap.size + 1) N l 0 (.slice none 0 0) (cntF (l.take 0))) := Lib.hid (by
    refine ⟨?_, ?_, OJ.nil _ _, by omega, (fun b hb => by cases hb), by omega, ((Below.refl _ w).alloc (Nat.le_refl _) _).alloc (by simp) _⟩
    · rw [← hz]; exact heap_alloc_new _ _
    · rw [List.take_zero, cntF_nil]
      exact OJ.alloc HO1.out _)
  obtain ⟨p, hp⟩ : ∃ p, w.heap.size + 1 = p := ⟨_, rfl⟩
  obtain ⟨bb, hbb⟩ : ∃ bb, w.heap.size = bb := ⟨_, rfl⟩
  rw [hp, hbb] at HRD
  rw [hp, hbb]
  generalize ((w.alloc (.cells C 3)).alloc (.cells #[begV bb N, .slice none 0 0] 102)) = w1 at *
  have HBB := Lib.hid hbb
  clear hz hp hbb HO1
  go_loopw [16] (fun x wz => ∃ (k : Nat) (tv : Value), x = .int .i64 (k : Int) ∧ k ≤ len ∧ Hid (Rd w wz bb p N l k tv (cntF (l.take k)))) (fun x _ => len - (intOf x).toNat)
  case atStart => exact ⟨0, _, rfl, by omega, HRD⟩
  case round =>
    obtain ⟨k, tv, rfl, hk, HRD⟩ := hrel
    by_cases hlt : k < len
    · obtain ⟨o', A', c', hv', -, -, hread⟩ := HE.out.later HRD.out.below
      rw [HL.out] at hread hv'
      obtain ⟨rfl, hgl, hcell⟩ := hread (by omega)
      injection hv' with hv' _ hcc
      subst hcc hv'
      obtain ⟨q0, q1⟩ := hcell k hlt
      have hmem : l.getD k (0, 0) ∈ l := by rw [List.getD_eq_getElem?_getD, List.getElem?_eq_getElem (by rw [HL.out]; exact hlt)]; exact List.getElem_mem _
      have hxok := HOK.out _ hmem
      have htos := tos_take l k (by rw [HL.out]; exact hlt)
      have hcnt := fun X n => cntF_step l k X n (by rw [HL.out]; exact hlt)
      obtain ⟨⟨x, y⟩, hxy⟩ : ∃ x, l.getD k (0, 0) = x := ⟨_, rfl⟩
      rw [hxy] at q0 q1 hxok htos hcnt
      obtain ⟨hx0, -, hx1, -⟩ := hxok
      simp only at q0 q1 hx0 hx1 htos hcnt
      obtain ⟨X, rfl⟩ := Int.eq_ofNat_of_zero_le hx0
      have HT := Lib.hid htos
      have HCN := Lib.hid (fun n => hcnt X n rfl)
      clear hcell hread hmem htos hcnt hxy
      go_upto_region 5 with (fail)
      obtain ⟨W4, hW4⟩ : ∃ W4, wr.alloc (.cells #[.int .i64 (X : Int), .int .i64 y] 68) = W4 := ⟨_, rfl⟩
      have hRD4 : Rd w W4 bb p N l k tv (cntF (l.take k)) := by
        have hb4 : Below wr.heap.size wr W4 := by rw [← hW4]; exact (Below.refl _ _).alloc (Nat.le_refl _) _
        have h0 := HRD.out
        refine ⟨?_, h0.beg.later hb4, h0.row.later hb4, h0.n1, h0.n2, h0.base, h0.below.trans (hb4.mono h0.below.size)⟩
        rw [hb4.block p (Array.getElem?_eq_some_iff.1 h0.blk).1]
        exact h0.blk
      have z4 := heap_alloc_new wr (.cells #[.int .i64 (X : Int), .int .i64 y] 68)
      obtain ⟨E, hE⟩ : ∃ E, wr.heap.size = E := ⟨_, rfl⟩
      rw [hW4, hE] at z4
      rw [hW4, hE]
      have e0 : W4.cell? ⟨E, 0, none⟩ = some (.int .i64 (X : Int)) := by rw [cell_of_row W4 E 0 _ _ _ z4]; rfl
      have e1 : W4.cell? ⟨E, 1, none⟩ = some (.int .i64 y) := by rw [cell_of_row W4 E 1 _ _ _ z4]; rfl
      have p0 : W4.cell? ⟨p, 0, none⟩ = some (begV bb N) := by rw [cell_of_row W4 p 0 _ _ _ hRD4.blk]; rfl
      have p1 : W4.cell? ⟨p, 1, none⟩ = some tv := by rw [cell_of_row W4 p 1 _ _ _ hRD4.blk]; rfl
      obtain ⟨b0, f0⟩ := OJ.at hRD4.beg (rowF_len _ _) (X + 1) (by omega)
      rw [rowF_get _ (by omega)] at b0
      obtain ⟨hbs, hbg⟩ := OJ.set (OJ.drewN hRD4.beg 0) (rowF_len _ _) (X + 1) (cntF (l.take k) (X + 1) + 1)
      have hf : 0 ≤ cntF (l.take k) (X + 1) ∧ cntF (l.take k) (X + 1) ≤ 20000 := by
        unfold cntF
        rw [if_neg (by omega)]
        have := deg_le (l.take k) (((X + 1 : Nat) : Int) - 1)
        rw [List.length_take] at this
        omega
      rw [rowF_set, HCN.out] at hbs
      obtain ⟨f, hff⟩ : ∃ f, cntF (l.take k) (X + 1) = f := ⟨_, rfl⟩
      rw [hff] at b0 hbs hbg hf
      obtain ⟨hf0, hf1⟩ := hf
      have HBS := Lib.hid (And.intro hbs hbg)
      have HRD4 := Lib.hid hRD4
      have i0 : IntKind.i64.wrap ((X : Int) + 1) = (X : Int) + 1 := IntWalk.i64_in _ (by omega)
      have i1 : (0 : Int) ≤ (X : Int) + 1 := by omega
      have i2 : (X : Int) + 1 < (N : Int) + 1 := by omega
      have i3 : ((X : Int) + 1).toNat = X + 1 := by omega
      have hEW : E < W4.heap.size := (Array.getElem?_eq_some_iff.1 z4).1
      have HNE : Hid (E ≠ p ∧ E ≠ bb) := Lib.hid (by
        have l1 := (Array.getElem?_eq_some_iff.1 HRD.out.blk).1
        have l2 := OJ.lt HRD.out.beg bb rfl
        omega)
      have HB4 : Hid (Below wr.heap.size wr W4) := Lib.hid (by rw [← hW4]; exact (Below.refl _ _).alloc (Nat.le_refl _) _)
      clear hW4 hRD4 z4 hbs hbg hff q0 q1
      go_region
      go_upto_region 6 with (fail)
      obtain ⟨W5, hW5⟩ : ∃ W5, (W4.setCell ⟨bb, X + 1, none⟩ (.int .i64 (f + 1))).drew = W5 := ⟨_, rfl⟩
      have hg45 : W4.grownBy W5 (some bb) := by
        rw [← hW5]
        obtain ⟨-, h⟩ := HBS.out
        exact ⟨h.os, h.tape, h.output, h.size, h.block⟩
      have ho5 : OJ W5 w.heap.size (begV bb N) (rowF (cntF (l.take (k + 1))) (N + 1)) := by
        rw [← hW5]; exact HBS.out.1
      rw [hW5]
      have hbp : W5.heap[p]? = some (.cells #[begV bb N, tv] 102 (0, 0)) := (hg45.block p (Array.getElem?_eq_some_iff.1 HRD4.out.blk).1 (fun e => HRD4.out.n1 (by injection e with e; exact e.symm))).trans HRD4.out.blk
      have e15 : W5.cell? ⟨E, 1, none⟩ = some (.int .i64 y) := hg45.cell e1 (fun e => HNE.out.2 (by injection e))
      have p15 : W5.cell? ⟨p, 1, none⟩ = some tv := by rw [cell_of_row W5 p 1 _ _ _ hbp]; rfl
      have hr5 : OJ W5 w.heap.size tv (tos (l.take k)) := HRD4.out.row.kept hg45 (by
        cases hv : tv.ownBlock with
        | none => exact .inl rfl
        | some b => exact .inr (fun e => (HRD4.out.n2 b hv).2 (by injection e)))
      have HB5 : Hid (Below w.heap.size w W5) := Lib.hid (HRD4.out.below.grown hg45 HRD4.out.below.size (fun b hb => by injection hb with hb; subst hb; exact OJ.base HRD4.out.beg bb rfl))
      have p1a := fun ob => Go.Lib.cell?_alloc_some (W := W5) ob p15
      have hz5 := HB5.out.size
      have hp5 : p < W5.heap.size := (Array.getElem?_eq_some_iff.1 hbp).1
      have HO6 : Hid (OJ (W5.alloc (.cells #[.int .i64 y] 3)).drew w.heap.size tv (tos (l.take k))) := Lib.hid (OJ.drewN (OJ.alloc hr5 _) 1)
      have HL6 : Hid ((W5.alloc (.cells #[.int .i64 y] 3)).drew.cell? ⟨W5.heap.size, 0, none⟩ = some (.int .i64 y)) := Lib.hid (by
        show (W5.alloc _).cell? _ = _
        rw [cell_of_row _ _ 0 _ _ _ (heap_alloc_new _ _)]; rfl)
      have HZ6 : Hid (w.heap.size ≤ (W5.alloc (.cells #[.int .i64 y] 3)).drew.heap.size) := Lib.hid (by show w.heap.size ≤ (W5.alloc _).heap.size; simp; omega)
      have HTL : Hid ((tos (l.take k)).length ≤ 1000000000) := Lib.hid (by rw [tos_len, List.length_take]; omega)
      have HTK : Hid ((tos (l.take k) ++ [y]).length = k + 1) := Lib.hid (by rw [List.length_append, tos_len, List.length_take, HL.out]; simp; omega)
      have P16 : Hid ((W5.alloc (.cells #[.int .i64 y] 3)).drew.cell? ⟨p, 1, none⟩ = some tv) := Lib.hid (p1a _)
      have HN6 : Hid (some p ≠ tv.ownBlock) := Lib.hid (fun e => (HRD4.out.n2 p e.symm).1 rfl)
      have HPL : Hid (p < (W5.alloc (.cells #[.int .i64 y] 3)).drew.heap.size) := Lib.hid (by show p < (W5.alloc _).heap.size; simp; omega)
      have BP6 : Hid ((W5.alloc (.cells #[.int .i64 y] 3)).drew.heap[p]? = some (.cells #[begV bb N, tv] 102 (0, 0))) := Lib.hid ((Below.heap_alloc _ _ p hp5).trans hbp)
      have HO65 : Hid (OJ (W5.alloc (.cells #[.int .i64 y] 3)).drew w.heap.size (begV bb N) (rowF (cntF (l.take (k + 1))) (N + 1))) := Lib.hid (OJ.drewN (OJ.alloc ho5 _) 1)
      have HB6 : Hid (Below w.heap.size w (W5.alloc (.cells #[.int .i64 y] 3)).drew) := Lib.hid ((HB5.out.alloc hz5 _).trans (Ed.drewN_below _ _ 1))
      have HO5 := Lib.hid ho5
      have HR5 := Lib.hid hr5
      have HPP : Hid (W5.heap[p]? = some (.cells #[begV bb N, tv] 102 (0, 0))) := Lib.hid hbp
      clear hW5 hg45 ho5 hr5 hbp HBS i0 i1 i2 i3 e0 p0 b0 f0
      refine wp_region_noPanic ?_
      refine wp_region_held_drew (S := fun _ => True) (by kernel_rfl) trivial (fun hHeld => ?_)
      refine wpAnyH_take (i := 0) (oi := _) (v := ?_) rfl (by kernel_rfl) (by kernel_rfl) (by kernel_rfl) (fun _ _ _ h => h) (Or.inl ⟨by rfl, ?_⟩) (by assumption) ?_
      rotate_left
      · (intro w hSw; (try dsimp only at hSw); go_simp; (try with_reducible rfl))
      try simp only [Act.put, List.setIfInBounds_toArray, List.set_cons_zero, List.set_cons_succ]
      refine wpAnyH_take (i := 1) (oi := _) (v := ?_) rfl (by kernel_rfl) (by kernel_rfl) (by kernel_rfl) (fun _ _ _ h => h) (Or.inl ⟨by rfl, ?_⟩) (by assumption) ?_
      rotate_left
      · (intro w hSw; (try dsimp only at hSw); go_simp; (try with_reducible rfl))
      try simp only [Act.put, List.setIfInBounds_toArray, List.set_cons_zero, List.set_cons_succ]
      refine wpAnyH_take (i := 2) (oi := _) (v := ?_) rfl (by kernel_rfl) (by kernel_rfl) (by kernel_rfl) (fun _ _ _ h => h) (Or.inl ⟨by rfl, ?_⟩) (by assumption) ?_
      rotate_left
      · (intro w hSw; (try dsimp only at hSw); go_simp; (try with_reducible rfl))
      try simp only [Act.put, List.setIfInBounds_toArray, List.set_cons_zero, List.set_cons_succ]
      refine wpAnyH_take (i := 3) (oi := _) (v := ?_) rfl (by kernel_rfl) (by kernel_rfl) (by kernel_rfl) (fun _ _ _ h => h) (Or.inl ⟨by rfl, ?_⟩) (by assumption) ?_
      rotate_left
      · (intro w hSw; (try dsimp only at hSw); go_simp; (try with_reducible rfl))
      try simp only [Act.put, List.setIfInBounds_toArray, List.set_cons_zero, List.set_cons_succ]
      refine wpAnyH_take (i := 5) (oi := _) (v := ?_) rfl (by kernel_rfl) (by kernel_rfl) (by kernel_rfl) (fun _ _ _ h => h) (Or.inl ⟨by rfl, ?_⟩) (by assumption) ?_
      rotate_left
      · (intro w hSw; (try dsimp only at hSw); go_simp; (try with_reducible rfl))
      try simp only [Act.put, List.setIfInBounds_toArray, List.set_cons_zero, List.set_cons_succ]
      refine wpAnyH_ready (rs := [4, 6]) (by kernel_rfl) (by simp) ?_
      refine AllReadyH.cons (o := _) rfl (fun K hK => ?_) (AllReadyH.cons (o := _) rfl (fun K hK => ?_) (AllReadyH.nil))
      · go_simp
        refine hK.out _ _ trivial (fun hHeld => ?_)
        clear hK K
        try simp only [Act.put, List.setIfInBounds_toArray, List.set_cons_zero, List.set_cons_succ]
        refine wpAnyH_ready (rs := [6]) (by kernel_rfl) (by simp) ?_
        refine AllReadyH.cons (o := _) rfl (fun K hK => ?_) (AllReadyH.nil)
        go_simp
        refine hK.out _ _ trivial (fun hHeld => ?_)
        clear hK K
        try simp only [Act.put, List.setIfInBounds_toArray, List.set_cons_zero, List.set_cons_succ]
        refine wpAnyH_ready (rs := [7]) (by kernel_rfl) (by simp) ?_
        refine AllReadyH.cons (o := _) rfl (fun K hK => ?_) (AllReadyH.nil)
        go_simp
        refine hK.out _ _ trivial (fun hHeld => ?_)
        clear hK K
        try simp only [Act.put, List.setIfInBounds_toArray, List.set_cons_zero, List.set_cons_succ]
        refine wpAnyH_ready (rs := [8]) (by kernel_rfl) (by simp) ?_
        refine AllReadyH.cons (o := _) rfl (fun K hK => ?_) (AllReadyH.nil)
        refine OJ.append_wp (ops := _) (base := w.heap.size) HO6.out HL6.out rfl _ _ (by rfl) (by rfl) (by rfl) HZ6.out HTL.out ?_
        intro v7 w7 h7 hg7 ho7
        have H7 := Lib.hid h7
        have HG7 := Lib.hid hg7
        have HW7 := Lib.hid ho7
        have p17 : w7.cell? ⟨p, 1, none⟩ = some tv := hg7.cell P16.out (fun e => HN6.out e)
        have f17 : w7.frozen? ⟨p, 1, none⟩ = false := frozen_of_row w7 p 1 _ _ ((hg7.block p HPL.out HN6.out).trans BP6.out)
        obtain ⟨A7, c7, hv7, -⟩ := OJ.shape h7
        rw [HTK.out] at hv7
        subst hv7
        clear h7 hg7 ho7
        refine hK.out _ _ trivial (fun hHeld => ?_)
        clear hK K
        try simp only [Act.put, List.setIfInBounds_toArray, List.set_cons_zero, List.set_cons_succ]
        refine wpAnyH_take (i := 9) (oi := _) (v := ?_) rfl (by kernel_rfl) (by kernel_rfl) (by kernel_rfl) (fun _ _ _ h => h) (Or.inl ⟨by rfl, ?_⟩) (by assumption) ?_
        rotate_left
        · (intro w hSw; (try dsimp only at hSw); go_simp; (try with_reducible rfl))
        try simp only [Act.put, List.setIfInBounds_toArray, List.set_cons_zero, List.set_cons_succ]
        refine wpAnyH_take (i := 10) (oi := _) (v := ?_) rfl (by kernel_rfl) (by kernel_rfl) (by kernel_rfl) (fun _ _ _ h => h) (Or.inl ⟨by rfl, ?_⟩) (by assumption) ?_
        rotate_left
        · (intro w hSw; (try dsimp only at hSw); go_simp; (try with_reducible rfl))
        try simp only [Act.put, List.setIfInBounds_toArray, List.set_cons_zero, List.set_cons_succ]
        refine wpAnyH_ready (rs := [11]) (by kernel_rfl) (by simp) ?_
        refine AllReadyH.cons (o := _) rfl (fun K hK => ?_) (AllReadyH.nil)
        go_simp
        refine hK.out _ _ trivial (fun hHeld => ?_)
        clear hK K
        try simp only [Act.put, List.setIfInBounds_toArray, List.set_cons_zero, List.set_cons_succ]
        refine wpAnyH_done (by kernel_rfl) ?_ _
        refine NoPanic.normal ?_
        go_wp2
        go_roundw
        case rel => exact ⟨k + 1, _, by go_num, by omega, Lib.hid (Rd.close HB6.out BP6.out HO65.out HRD4.out.n1 HRD4.out.n2 HO6.out HG7.out H7.out HW7.out HT.out HRD4.out.base)⟩
        case measure => simp [intOf]; omega
      · go_simp
        refine hK.out _ _ trivial (fun hHeld => ?_)
        clear hK K
        try simp only [Act.put, List.setIfInBounds_toArray, List.set_cons_zero, List.set_cons_succ]
        refine wpAnyH_ready (rs := [4, 7]) (by kernel_rfl) (by simp) ?_
        refine AllReadyH.cons (o := _) rfl (fun K hK => ?_) (AllReadyH.cons (o := _) rfl (fun K hK => ?_) (AllReadyH.nil))
        · go_simp
          refine hK.out _ _ trivial (fun hHeld => ?_)
          clear hK K
          try simp only [Act.put, List.setIfInBounds_toArray, List.set_cons_zero, List.set_cons_succ]
          refine wpAnyH_ready (rs := [7]) (by kernel_rfl) (by simp) ?_
          refine AllReadyH.cons (o := _) rfl (fun K hK => ?_) (AllReadyH.nil)
          go_simp
          refine hK.out _ _ trivial (fun hHeld => ?_)
          clear hK K
          try simp only [Act.put, List.setIfInBounds_toArray, List.set_cons_zero, List.set_cons_succ]
          refine wpAnyH_ready (rs := [8]) (by kernel_rfl) (by simp) ?_
          refine AllReadyH.cons (o := _) rfl (fun K hK => ?_) (AllReadyH.nil)
          refine OJ.append_wp (ops := _) (base := w.heap.size) HO6.out HL6.out rfl _ _ (by rfl) (by rfl) (by rfl) HZ6.out HTL.out ?_
          intro v7 w7 h7 hg7 ho7
          have H7 := Lib.hid h7
          have HG7 := Lib.hid hg7
          have HW7 := Lib.hid ho7
          have p17 : w7.cell? ⟨p, 1, none⟩ = some tv := hg7.cell P16.out (fun e => HN6.out e)
          have f17 : w7.frozen? ⟨p, 1, none⟩ = false := frozen_of_row w7 p 1 _ _ ((hg7.block p HPL.out HN6.out).trans BP6.out)
          obtain ⟨A7, c7, hv7, -⟩ := OJ.shape h7
          rw [HTK.out] at hv7
          subst hv7
          clear h7 hg7 ho7
          refine hK.out _ _ trivial (fun hHeld => ?_)
          clear hK K
          try simp only [Act.put, List.setIfInBounds_toArray, List.set_cons_zero, List.set_cons_succ]
          refine wpAnyH_take (i := 9) (oi := _) (v := ?_) rfl (by kernel_rfl) (by kernel_rfl) (by kernel_rfl) (fun _ _ _ h => h) (Or.inl ⟨by rfl, ?_⟩) (by assumption) ?_
          rotate_left
          · (intro w hSw; (try dsimp only at hSw); go_simp; (try with_reducible rfl))
          try simp only [Act.put, List.setIfInBounds_toArray, List.set_cons_zero, List.set_cons_succ]
          refine wpAnyH_take (i := 10) (oi := _) (v := ?_) rfl (by kernel_rfl) (by kernel_rfl) (by kernel_rfl) (fun _ _ _ h => h) (Or.inl ⟨by rfl, ?_⟩) (by assumption) ?_
          rotate_left
          · (intro w hSw; (try dsimp only at hSw); go_simp; (try with_reducible rfl))
          try simp only [Act.put, List.setIfInBounds_toArray, List.set_cons_zero, List.set_cons_succ]
          refine wpAnyH_ready (rs := [11]) (by kernel_rfl) (by simp) ?_
          refine AllReadyH.cons (o := _) rfl (fun K hK => ?_) (AllReadyH.nil)
          go_simp
          refine hK.out _ _ trivial (fun hHeld => ?_)
          clear hK K
          try simp only [Act.put, List.setIfInBounds_toArray, List.set_cons_zero, List.set_cons_succ]
          refine wpAnyH_done (by kernel_rfl) ?_ _
          refine NoPanic.normal ?_
          go_wp2
          go_roundw
          case rel => exact ⟨k + 1, _, by go_num, by omega, Lib.hid (Rd.close HB6.out BP6.out HO65.out HRD4.out.n1 HRD4.out.n2 HO6.out HG7.out H7.out HW7.out HT.out HRD4.out.base)⟩
          case measure => simp [intOf]; omega
        · go_simp
          refine hK.out _ _ trivial (fun hHeld => ?_)
          clear hK K
          try simp only [Act.put, List.setIfInBounds_toArray, List.set_cons_zero, List.set_cons_succ]
          refine wpAnyH_ready (rs := [4]) (by kernel_rfl) (by simp) ?_
          refine AllReadyH.cons (o := _) rfl (fun K hK => ?_) (AllReadyH.nil)
          go_simp
          refine hK.out _ _ trivial (fun hHeld => ?_)
          clear hK K
          try simp only [Act.put, List.setIfInBounds_toArray, List.set_cons_zero, List.set_cons_succ]
          refine wpAnyH_ready (rs := [8]) (by kernel_rfl) (by simp) ?_
          refine AllReadyH.cons (o := _) rfl (fun K hK => ?_) (AllReadyH.nil)
          refine OJ.append_wp (ops := _) (base := w.heap.size) HO6.out HL6.out rfl _ _ (by rfl) (by rfl) (by rfl) HZ6.out HTL.out ?_
          intro v7 w7 h7 hg7 ho7
          have H7 := Lib.hid h7
          have HG7 := Lib.hid hg7
          have HW7 := Lib.hid ho7
          have p17 : w7.cell? ⟨p, 1, none⟩ = some tv := hg7.cell P16.out (fun e => HN6.out e)
          have f17 : w7.frozen? ⟨p, 1, none⟩ = false := frozen_of_row w7 p 1 _ _ ((hg7.block p HPL.out HN6.out).trans BP6.out)
          obtain ⟨A7, c7, hv7, -⟩ := OJ.shape h7
          rw [HTK.out] at hv7
          subst hv7
          clear h7 hg7 ho7
          refine hK.out _ _ trivial (fun hHeld => ?_)
          clear hK K
          try simp only [Act.put, List.setIfInBounds_toArray, List.set_cons_zero, List.set_cons_succ]
          refine wpAnyH_take (i := 9) (oi := _) (v := ?_) rfl (by kernel_rfl) (by kernel_rfl) (by kernel_rfl) (fun _ _ _ h => h) (Or.inl ⟨by rfl, ?_⟩) (by assumption) ?_
          rotate_left
          · (intro w hSw; (try dsimp only at hSw); go_simp; (try with_reducible rfl))
          try simp only [Act.put, List.setIfInBounds_toArray, List.set_cons_zero, List.set_cons_succ]
          refine wpAnyH_take (i := 10) (oi := _) (v := ?_) rfl (by kernel_rfl) (by kernel_rfl) (by kernel_rfl) (fun _ _ _ h => h) (Or.inl ⟨by rfl, ?_⟩) (by assumption) ?_
          rotate_left
          · (intro w hSw; (try dsimp only at hSw); go_simp; (try with_reducible rfl))
          try simp only [Act.put, List.setIfInBounds_toArray, List.set_cons_zero, List.set_cons_succ]
          refine wpAnyH_ready (rs := [11]) (by kernel_rfl) (by simp) ?_
          refine AllReadyH.cons (o := _) rfl (fun K hK => ?_) (AllReadyH.nil)
          go_simp
          refine hK.out _ _ trivial (fun hHeld => ?_)
          clear hK K
          try simp only [Act.put, List.setIfInBounds_toArray, List.set_cons_zero, List.set_cons_succ]
          refine wpAnyH_done (by kernel_rfl) ?_ _
          refine NoPanic.normal ?_
          go_wp2
          go_roundw
          case rel => exact ⟨k + 1, _, by go_num, by omega, Lib.hid (Rd.close HB6.out BP6.out HO65.out HRD4.out.n1 HRD4.out.n2 HO6.out HG7.out H7.out HW7.out HT.out HRD4.out.base)⟩
          case measure => simp [intOf]; omega
    · obtain rfl : len = k := by omega
      have hz0 := addF_zero l (N + 1) (fun e he => (HOK.out e he).1)
      have HR2 : Hid (Rd w wr bb p N l len tv (addF l 0)) := Lib.hid (by
        have h0 := HRD.out
        refine ⟨h0.blk, ?_, h0.row, h0.n1, h0.n2, h0.base, h0.below⟩
        have := h0.beg
        rw [List.take_of_length_le (by rw [HL.out]; omega)] at this
        rw [hz0]
        exact this)
      clear hz0 HRD
      go_upto_region 9 with (fail)
      rename World => wo
      go_loopw [44] (fun x wz => ∃ j : Nat, x = .int .i64 (j : Int) ∧ j ≤ N ∧ Hid (Rd w wz bb p N l len tv (addF l j))) (fun x _ => N - (intOf x).toNat)
      case atStart => exact ⟨0, rfl, by omega, HR2⟩
      case round =>
        obtain ⟨j, rfl, hj, HR2⟩ := hrel
        by_cases hlt : j < N
        · have h0 := HR2.out
          have p0 : wr.cell? ⟨p, 0, none⟩ = some (begV bb N) := by rw [cell_of_row wr p 0 _ _ _ h0.blk]; rfl
          obtain ⟨b0, f0⟩ := OJ.at h0.beg (rowF_len _ _) (j + 1) (by omega)
          obtain ⟨b1, f1⟩ := OJ.at h0.beg (rowF_len _ _) j (by omega)
          rw [rowF_get _ (by omega)] at b0 b1
          obtain ⟨hbs, hbg⟩ := OJ.set (OJ.drewN h0.beg 0) (rowF_len _ _) (j + 1) (addF l j (j + 1) + addF l j j)
          rw [rowF_set, addF_step] at hbs
          have hf1 : 0 ≤ addF l j (j + 1) ∧ addF l j (j + 1) ≤ 20000 := by
            unfold addF
            rw [if_neg (by omega)]
            unfold cntF
            rw [if_neg (by omega)]
            have := deg_le l (((j + 1 : Nat) : Int) - 1)
            rw [HL.out] at this
            omega
          have hf2 : 0 ≤ addF l j j ∧ addF l j j ≤ 20000 := by
            unfold addF
            rw [if_pos (Nat.le_refl _)]
            unfold begF
            have := bel_le l (j : Int)
            rw [HL.out] at this
            omega
          obtain ⟨fa, hfa⟩ : ∃ f, addF l j (j + 1) = f := ⟨_, rfl⟩
          obtain ⟨fb, hfb⟩ : ∃ f, addF l j j = f := ⟨_, rfl⟩
          rw [hfa] at b0 hbs hbg hf1
          rw [hfb] at b1 hbs hbg hf2
          obtain ⟨hf10, hf11⟩ := hf1
          obtain ⟨hf20, hf21⟩ := hf2
          have HBS := Lib.hid (And.intro hbs hbg)
          have i0 : IntKind.i64.wrap ((j : Int) + 1) = (j : Int) + 1 := IntWalk.i64_in _ (by omega)
          have i1 : (0 : Int) ≤ (j : Int) + 1 := by omega
          have i2 : (j : Int) + 1 < (N : Int) + 1 := by omega
          have i3 : ((j : Int) + 1).toNat = j + 1 := by omega
          have i4 : (j : Int) < (N : Int) + 1 := by omega
          have i5 : IntKind.i64.wrap (fa + fb) = fa + fb := IntWalk.i64_in _ (by omega)
          clear h0 hbs hbg hfa hfb
          go_upto_region 11 with (fail)
          go_region
          go_wp2
          go_roundw
          case rel =>
            obtain ⟨g1, g2⟩ := HBS.out
            have h0 := HR2.out
            have hg : wr.grownBy ((wr.setCell ⟨bb, j + 1, none⟩ (.int .i64 (fa + fb))).drew) (some bb) := ⟨g2.os, g2.tape, g2.output, g2.size, g2.block⟩
            refine ⟨j + 1, by go_num, by omega, Lib.hid ⟨?_, g1, ?_, h0.n1, h0.n2, h0.base, h0.below.grown hg h0.below.size (fun b hb => by injection hb with hb; subst hb; exact OJ.base h0.beg bb rfl)⟩⟩
            · exact (hg.block p (Array.getElem?_eq_some_iff.1 h0.blk).1 (fun e => h0.n1 (by injection e with e; exact e.symm))).trans h0.blk
            · cases hv : tv.ownBlock with
              | none => exact h0.row.kept hg (.inl hv)
              | some b => exact h0.row.kept hg (.inr fun e => (h0.n2 b hv).2 (by rw [hv] at e; injection e))
          case measure => simp [intOf]; omega
        · obtain rfl : N = j := by omega
          go_wp2
          go_ret
          have h0 := HR2.out
          have e1 := h0.row
          rw [List.take_of_length_le (by rw [HL.out]; omega)] at e1
          have e2 := h0.beg
          rw [addF_all] at e2
          exact ⟨p, bb, tv, rfl, Lib.hid ⟨h0.blk, e2, e1, h0.base, HUP.out, HOK.out, by rw [HL.out]; exact hl, hN⟩, Lib.hid h0.below⟩
end Go.Proofs.YtjokfllldcjheaaGreatDoor.Cs
/- csr: Build, Nodes, Edges, row, Begin, Degree. -/
namespace Go.Proofs.YtjokfllldcjheaaGreatDoor.Cs
open Go.RowKit Go.Proofs.YtjokfllldcjheaaGreatDoor.Ed Go.Proofs.YtjokfllldcjheaaGreatDoor.Ro
set_option linter.unusedVariables false
set_option linter.unusedSimpArgs false

abbrev pV (p : Nat) : Value := .pointer (some ⟨p, 0, none⟩)
set_option maxHeartbeats 1000000 in
theorem build_ok (N g : Nat) (v : Value) (l : List E2) (w : World) (h : ER w g v l) (hl : l.length ≤ 1000000) (hw : wrg (N : Int) l = -2) :
    Calls Tryz.prog 10 #[.int .i64 (N : Int), v] w fun e w' => ∃ p bb tv, e = .returned (.tuple #[pV p, .nilIface]) ∧ Hid (CS w' w.heap.size p bb tv N (nrm l)) ∧ Hid (Below w.heap.size w w') := by
  have HN := Lib.hid (norm_ok (N : Int) g v l w h hl hw)
  obtain ⟨A, c, rfl, -⟩ := er_form h
  obtain ⟨a1, a2, a3, a4⟩ := wrg_ok.1 hw
  have HR := Lib.hid (fun g v W (hW : ER W g v (nrm l)) => rows_calls N g v (nrm l) W hW (up_nrm l) (fun e he => a4 e (mem_nrm.1 he)) (Nat.le_trans (nrm_len l) a3) (by omega))
  generalize l.length = n at *
  clear h hw a1 a2 a3 a4
  go_enter Tryz.func10, Tryz.ntmps10
  go_wp2_with (first
    | (go_at_call 41; refine HN.out.mono ?_; rintro e w1 ⟨v1, rfl, HO, HB⟩; obtain ⟨g1, hg1, -⟩ := HO.out.reads; have HE := Lib.hid hg1; obtain ⟨A1, c1, rfl, -⟩ := id HO.out.shape; clear hg1)
    | (go_at_call 42; refine (HR.out g1 _ _ HE.out).mono ?_; rintro e w2 ⟨p, bb, tv, rfl, HC, HB2⟩))
  go_ret2
  have hz := HB.out.size
  refine ⟨p, bb, tv, rfl, Lib.hid ?_, Lib.hid (HB.out.trans (HB2.out.mono hz))⟩
  have hc := HC.out
  exact ⟨hc.blk, hc.beg.mono hz, hc.row.mono hz, Nat.le_trans hz hc.base, hc.up, hc.ok, hc.few, hc.nodes⟩
set_option maxHeartbeats 1000000 in
theorem build_bad (n : Int) (g : Nat) (v : Value) (l : List E2) (w : World) (h : ER w g v l) (hl : l.length ≤ 1000000) (hw : wrg n l ≠ -2) :
    Calls Tryz.prog 10 #[.int .i64 n, v] w fun e w' => e = .returned (.tuple #[.pointer none, errV (wrg n l)]) ∧ Hid (Below w.heap.size w w') := by
  have HN := Lib.hid (norm_bad n g v l w h hl hw)
  obtain ⟨A, c, rfl, -⟩ := er_form h
  generalize wrg n l = a at *
  generalize l.length = m at *
  clear h hw
  go_enter Tryz.func10, Tryz.ntmps10
  go_wp2_with (go_at_call 41; refine HN.out.mono ?_; unfold errV; rintro e w1 ⟨rfl, HB⟩)
  go_ret2
  exact ⟨rfl, HB⟩
section
variable {w : World} {B p bb N : Nat} {tv : Value} {l : List E2}
set_option maxHeartbeats 1000000 in
theorem nodes_calls (h : CS w B p bb tv N l) : Calls Tryz.prog 43 #[pV p] w fun e w' => e = .returned (.int .i64 (N : Int)) ∧ w = w' := by
  obtain ⟨c0, c1⟩ := h.cells
  have hN := h.nodes
  clear h
  go_enter Tryz.func43, Tryz.ntmps43
  go_wp2
  go_ret
  exact ⟨by simp, rfl⟩
set_option maxHeartbeats 1000000 in
theorem edges_calls (h : CS w B p bb tv N l) : Calls Tryz.prog 31 #[pV p] w fun e w' => e = .returned (.int .i64 (l.length : Int)) ∧ w = w' := by
  obtain ⟨c0, c1⟩ := h.cells
  obtain ⟨A, c, rfl, -⟩ := h.row.shape
  rw [tos_len] at c1
  generalize l.length = n at *
  clear h
  go_enter Tryz.func31, Tryz.ntmps31
  go_wp2
  go_ret
  exact ⟨rfl, rfl⟩
/-- where a node's targets begin, in memory -/
theorem CS.begAt (h : CS w B p bb tv N l) (v : Nat) (hv : v ≤ N) : w.cell? ⟨bb, v, none⟩ = some (.int .i64 (bel l v : Nat)) := by
  have := (OJ.at h.beg (rowF_len _ _) v (by omega)).1
  rwa [rowF_get _ (by omega)] at this
/-- a node's piece of all targets -/
theorem CS.piece (h : CS w B p bb tv N l) (v : Nat) (hv : v < N) : (∃ A o c, tv = .slice (some ⟨A, o, none⟩) l.length c ∧ A < w.heap.size ∧  l.length ≤ c ∧ c ≤ 9223372036854775807 ∧ ∀ o' c', o' = o + bel l v → deg l v ≤ c' → c' ≤ 9223372036854775807 → JR w A (.slice (some ⟨A, o', none⟩) (deg l v) c') (tgt l v)) ∨ (tv = .slice none 0 0 ∧ l = []) := by
  rcases h.row.2 with ⟨rfl, hn⟩ | ⟨g, cap, cur, rfl, hb, hg, hnc, hcm, hcs, htk⟩
  · rw [tos_len] at hn
    exact .inr ⟨rfl, List.eq_nil_of_length_eq_zero hn⟩
  · rw [tos_len] at hnc
    refine .inl ⟨g, 0, cap, by rw [tos_len], (Array.getElem?_eq_some_iff.1 hg).1, hnc, by simp only [maxLen] at hcm; omega, fun o' c' ho hc hm => ?_⟩
    refine ⟨some ⟨g, o', none⟩, c', o', by rw [tgt_len], by rw [tgt_len]; exact hc, hm, fun _ => ⟨rfl, (Array.getElem?_eq_some_iff.1 hg).1, fun i hi => ?_⟩⟩
    rw [tgt_len] at hi
    have hbd := bel_deg l v
    have := (OJ.at h.row rfl (bel l v + i) (by rw [tos_len]; omega)).1
    rw [tgt_get l h.up v i hi, ho, Nat.zero_add]
    exact this
end
end Go.Proofs.YtjokfllldcjheaaGreatDoor.Cs
/- csr: row. -/
namespace Go.Proofs.YtjokfllldcjheaaGreatDoor.Cs
open Go.RowKit Go.Proofs.YtjokfllldcjheaaGreatDoor.Ed Go.Proofs.YtjokfllldcjheaaGreatDoor.Ro
set_option linter.unusedVariables false
set_option linter.unusedSimpArgs false

theorem ret_slice {a : Option Addr} {n m c : Nat} {e : Value} (h : n = m) : Ending.returned (.tuple #[.slice a n c, e]) = .returned (.tuple #[.slice a m c, e]) := by rw [h]
set_option maxHeartbeats 4000000 in
set_option maxRecDepth 100000 in
theorem row_calls {w : World} {B p bb N : Nat} {tv : Value} {l : List E2} (h : CS w B p bb tv N l) (v : Nat) (hv : v < N) :
    Calls Tryz.prog 114 #[pV p, .int .i64 (v : Int)] w fun e w' => ∃ a c g, e = .returned (.tuple #[.slice a (deg l v) c, .nilIface]) ∧ Hid (JR w g (.slice a (deg l v) c) (tgt l v) ∧ (tgt l v ≠ [] → tv.ownBlock = some g)) ∧ Hid (Below w.heap.size w w') := by
  obtain ⟨c0, c1⟩ := h.cells
  have q0 := h.begAt v (by omega)
  have q1 := h.begAt (v + 1) (by omega)
  rw [show ((v + 1 : Nat) : Int) = (v : Int) + 1 by omega, bel_step] at q1
  have HN := Lib.hid (nodes_calls h)
  have hN := h.nodes
  have hbd := bel_deg l v
  have hfew := h.few
  have hpc := h.piece v hv
  have HT := Lib.hid (tgt_len l v)
  have i0 : (v : Int) < (N : Int) := by omega
  have i1 : (v : Int) < (N : Int) + 1 := by omega
  have i2 : IntKind.i64.wrap ((v : Int) + 1) = (v : Int) + 1 := IntWalk.i64_in _ (by omega)
  have i3 : (0 : Int) ≤ (v : Int) + 1 := by omega
  have i4 : (v : Int) + 1 < (N : Int) + 1 := by omega
  have i5 : ((v : Int) + 1).toNat = v + 1 := by omega
  have i6 : (0 : Int) ≤ (v : Int) := by omega
  have HC := Lib.hid h
  obtain ⟨b, hb⟩ : ∃ b, bel l v = b := ⟨_, rfl⟩
  obtain ⟨d, hd⟩ : ∃ d, deg l v = d := ⟨_, rfl⟩
  obtain ⟨t, ht⟩ : ∃ t, tgt l v = t := ⟨_, rfl⟩
  rw [hb] at q0 q1 hbd hpc
  rw [hd] at q1 hbd hpc HT ⊢
  rw [ht] at hpc HT ⊢
  clear h hb hd ht
  rcases hpc with ⟨A, o, c, rfl, hAl, hlc, hcm, hjr⟩ | ⟨rfl, rfl⟩
  · obtain ⟨n, hn⟩ : ∃ n, l.length = n := ⟨_, rfl⟩
    rw [hn] at c1 hbd hlc hfew
    have HJ := Lib.hid hjr
    have j0 : (0 : Int) ≤ (b : Int) := by omega
    have j1 : (b : Int) ≤ ((b + d : Nat) : Int) := by omega
    have j2 : ((b + d : Nat) : Int) ≤ (c : Int) := by omega
    clear hjr hn
    by_cases hcb : c = b
    · go_enter Tryz.func114, Tryz.ntmps114
      go_upto_region 5 with (go_at_call 43; refine HN.out.mono ?_; rintro e w1 ⟨rfl, rfl⟩)
      go_quiet (fail)
      go_wp2
      go_ret2
      obtain rfl : d = 0 := by omega
      have ht : t = [] := List.eq_nil_of_length_eq_zero HT.out
      exact ⟨_, _, 0, ret_slice (by omega), Lib.hid ⟨⟨_, _, 0, by rw [ht]; rfl, by rw [ht]; exact Nat.zero_le _, by omega, fun h => by rw [ht] at h; simp at h⟩, fun h => absurd ht h⟩, Lib.hid (Ed.drewN_below _ _ _)⟩
    · go_enter Tryz.func114, Tryz.ntmps114
      go_upto_region 5 with (go_at_call 43; refine HN.out.mono ?_; rintro e w1 ⟨rfl, rfl⟩)
      go_quiet (fail)
      go_wp2
      go_ret2
      exact ⟨_, _, A, ret_slice (by omega), Lib.hid ⟨HJ.out (o + b) (c - b) rfl (by omega) (by omega), fun _ => rfl⟩, Lib.hid (Ed.drewN_below _ _ _)⟩
  · rw [show (([] : List E2).length) = 0 from rfl] at hbd
    obtain rfl : b = 0 := by omega
    obtain rfl : d = 0 := by omega
    have ht : t = [] := List.eq_nil_of_length_eq_zero HT.out
    go_enter Tryz.func114, Tryz.ntmps114
    go_upto_region 5 with (go_at_call 43; refine HN.out.mono ?_; rintro e w1 ⟨rfl, rfl⟩)
    go_quiet (fail)
    go_wp2
    go_ret2
    exact ⟨_, _, 0, ret_slice (by omega), Lib.hid ⟨⟨_, _, 0, by rw [ht]; rfl, by rw [ht]; exact Nat.zero_le _, by omega, fun h => by rw [ht] at h; simp at h⟩, fun h => absurd ht h⟩, Lib.hid (Ed.drewN_below _ _ _)⟩
end Go.Proofs.YtjokfllldcjheaaGreatDoor.Cs
/- csr: Clone of integers, Targets, Degree; what is asked of no node. -/
namespace Go.Proofs.YtjokfllldcjheaaGreatDoor.Ro
open Go.RowKit
set_option linter.unusedVariables false
set_option linter.unusedSimpArgs false
/-- append(v, ys...) -/
theorem OJ.app_run {w : World} {base : Nat} {v : Value} {xs : List Int} (HO : OJ w base v xs) {g : Nat} {y : Value} {ys : List Int} (HR : JR w g y ys) (ty : TypeId) (hbase : base ≤ w.heap.size) (hl : xs.length + ys.length ≤ 1000000000) :
    ∃ v1 w1, (Builtin.append_ #[53, 53] ty #[v, y]).run Tryz.prog w = .ok v1 w1 ∧ OJ w1 base v1 (xs ++ ys) ∧ w.grownBy w1 v.ownBlock ∧ (v1.ownBlock = v.ownBlock ∨ v1.ownBlock = some w.heap.size) := by
  obtain ⟨i0, hi, hzz⟩ := Option.map_eq_some_iff.1 infoInt
  simp only [Prod.mk.injEq] at hzz
  obtain ⟨hz0, hz1, hz2⟩ := hzz
  obtain ⟨A, c, o, rfl, h1, h2, h3⟩ := HR
  have go : ∀ ad : Addr, A = some ad → (∀ j u, (ys.map fun z => Value.int .i64 z)[j]? = some u → w.cell? (ad.add j) = some u) → ∃ v1 w1, (Builtin.append_ #[53, 53] ty #[v, .slice A ys.length c]).run Tryz.prog w = .ok v1 w1 ∧ OJ w1 base v1 (xs ++ ys) ∧ w.grownBy w1 v.ownBlock ∧ (v1.ownBlock = v.ownBlock ∨ v1.ownBlock = some w.heap.size) := by
    rintro ad rfl hc
    obtain ⟨v1, w1, hr, k2, k3, _, k5⟩ := run_append_own_at (P := Tryz.prog) w base 53 ty 3 i0 (.int .i64 0) 1 8 Tryz.underlying53 hi hz0 hz1 hz2 rfl (by omega) v xs.length (xs.map fun z => .int .i64 z) HO ad ys.length c (ys.map fun z => .int .i64 z) (by simp) hc (by intro u hu; obtain ⟨z, _, rfl⟩ := List.mem_map.1 hu; rfl) (by simp only [maxLen]; omega) (by omega) hbase
    refine ⟨v1, w1, hr, ?_, k3, k5⟩
    unfold OJ
    rw [List.map_append, List.length_append]
    exact k2
  by_cases hn : ys = []
  · subst hn
    rcases A with _ | ad
    · refine ⟨v, w, ?_, by simpa using HO, World.grownBy.refl w _, .inl rfl⟩
      rcases HO.2 with ⟨rfl, hn⟩ | ⟨g, cap, cur, rfl, _, _, hnc, _⟩
      · simp [Builtin.append_, run_underlying Tryz.underlying53, sizeOf, typeInfo, hi, Builtin.lenOf, Builtin.firstCells, hz1]
      · simp [Builtin.append_, run_underlying Tryz.underlying53, sizeOf, typeInfo, hi, Builtin.lenOf, Builtin.firstCells, hnc, storeCells, hz1]
    · exact go ad rfl (fun j u hu => by simp at hu)
  · obtain ⟨ha, hlt, hcell⟩ := h3 (List.length_pos_iff.2 hn)
    refine go ⟨g, o, none⟩ ha (fun j u hu => ?_)
    rw [add_none]
    have hj : j < ys.length := by
      have := (List.getElem?_eq_some_iff.1 hu).1
      simpa using this
    rw [hcell j hj, ← hu]
    simp [List.getD_eq_getElem?_getD, hj]
section
variable {ops : Array Oper} {rest : List Oper} {o : Oper} {a : Act} {w : World} {Q : Exit → Act → World → Prop}
theorem OJ.app_on {base : Nat} {v : Value} {xs : List Int} (HO : OJ w base v xs) {g : Nat} {y : Value} {ys : List Int} (HR : JR w g y ys) (hgd : o.guard = none) (s x : Operand)
    (ho : o.op = .call { callee := .builtin .append, args := #[s, x], argTypes := #[53, 53] }) (hs : a.eval s = v) (hx : a.eval x = y)
    (hbase : base ≤ w.heap.size) (hl : xs.length + ys.length ≤ 1000000000)
    (k : ∀ v1 w1, OJ w1 base v1 (xs ++ ys) → w.grownBy w1 v.ownBlock → (v1.ownBlock = v.ownBlock ∨ v1.ownBlock = some w.heap.size) → wpList Tryz.prog ops Q rest (a.put o.dst v1) w1) : wpList Tryz.prog ops Q (o :: rest) a w := by
  obtain ⟨v1, w1, hr, k2, k3, k5⟩ := OJ.app_run HO HR o.type hbase hl
  exact append_step hgd s x _ _ ho hs hx hr (k v1 w1 k2 k3 k5)
end
theorem OJ.fresh (w : World) (base : Nat) (hb : base ≤ w.heap.size) : OJ (w.alloc (.cells #[] 3)) base (.slice (some ⟨w.heap.size, 0, none⟩) 0 0) [] :=
  World.ownsRow_lit w #[] 0 hb (by simp only [maxLen]; omega) rfl
theorem JR.form {w : World} {g : Nat} {v : Value} {l : List Int} (h : JR w g v l) : ∃ A c, v = .slice A l.length c ∧ l.length ≤ c ∧ c ≤ 9223372036854775807 := by
  obtain ⟨A, c, o, hv, h1, h2, -⟩ := h
  exact ⟨A, c, hv, h1, h2⟩
set_option maxHeartbeats 1000000 in
set_option maxRecDepth 100000 in
theorem iclone_calls (g : Nat) (v : Value) (l : List Int) (w : World) (h : JR w g v l) (hl : l.length ≤ 1000000) :
    Calls Tryz.prog 115 #[v] w fun e w' => ∃ v', e = .returned v' ∧ OJ w' w.heap.size v' l ∧ Below w.heap.size w w' := by
  obtain ⟨A, c, o, rfl, h1, h2, h3⟩ := id h
  have HE := Lib.hid h
  rcases A with _ | ad
  · have hl0 : l = [] := by
      by_cases e : l = []
      · exact e
      · exact absurd (h3 (List.length_pos_iff.2 e)).1 (by simp)
    subst hl0
    have hq : (binOp .eql 53 (.slice none 0 c) (.slice none 0 0)).run Tryz.prog w = .ok (.bool true) w := Lib.run_eql_slice_nil (P := Tryz.prog) w 53 3 none 0 c 0 0 Tryz.underlying53
    clear h h3
    go_enter Tryz.func115, Tryz.ntmps115
    go_wp2
    go_ret
    exact ⟨_, rfl, OJ.nil _ _, Below.refl _ _⟩
  · have hq : (binOp .eql 53 (.slice (some ad) l.length c) (.slice none 0 0)).run Tryz.prog w = .ok (.bool false) w := Lib.run_eql_slice_nil (P := Tryz.prog) w 53 3 (some ad) l.length c 0 0 Tryz.underlying53
    clear h h3
    go_enter Tryz.func115, Tryz.ntmps115
    go_wp2_with (at_builtin; refine OJ.app_on (base := w.heap.size) (OJ.fresh w w.heap.size (Nat.le_refl _)) (HE.out.later ((Below.refl _ _).alloc (Nat.le_refl _) _)) rfl _ _ rfl rfl rfl (by simp) (by simp; omega) ?_; intro v1 w1 k1 k2 _)
    go_ret
    refine ⟨v1, rfl, by simpa using k1, ((Below.refl _ _).alloc (Nat.le_refl _) _).grown k2 (by simp) (fun k hk => ?_)⟩
    simp [Value.ownBlock] at hk
    omega
end Go.Proofs.YtjokfllldcjheaaGreatDoor.Ro
namespace Go.Proofs.YtjokfllldcjheaaGreatDoor.Cs
open Go.RowKit Go.Proofs.YtjokfllldcjheaaGreatDoor.Ed Go.Proofs.YtjokfllldcjheaaGreatDoor.Ro
set_option linter.unusedVariables false
set_option linter.unusedSimpArgs false
/-- an error's number, as an error -/
abbrev noV (n : Int) : Value := .iface 96 (.int .i64 n)
section
variable {w : World} {B p bb N : Nat} {tv : Value} {l : List E2}
set_option maxHeartbeats 1000000 in
theorem row_out (h : CS w B p bb tv N l) (v : Int) (hv : v < 0 ∨ (N : Int) ≤ v) : Calls Tryz.prog 114 #[pV p, .int .i64 v] w fun e w' => e = .returned (.tuple #[.slice none 0 0, noV 2]) ∧ w = w' := by
  have HN := Lib.hid (nodes_calls h)
  clear h
  rcases hv with hv | hv
  · go_enter Tryz.func114, Tryz.ntmps114
    go_wp2_with (go_at_call 43; refine HN.out.mono ?_; rintro e w1 ⟨rfl, rfl⟩)
    go_ret2
    exact ⟨rfl, rfl⟩
  · have h0 : 0 ≤ v := by omega
    go_enter Tryz.func114, Tryz.ntmps114
    go_wp2_with (go_at_call 43; refine HN.out.mono ?_; rintro e w1 ⟨rfl, rfl⟩)
    go_ret2
    exact ⟨rfl, rfl⟩
set_option maxHeartbeats 1000000 in
theorem row_nil (v : Int) (w : World) : Calls Tryz.prog 114 #[.pointer none, .int .i64 v] w fun e w' => e = .returned (.tuple #[.slice none 0 0, noV 1]) ∧ w = w' := by
  go_enter Tryz.func114, Tryz.ntmps114
  go_wp2
  go_ret2
  exact ⟨rfl, rfl⟩
set_option maxHeartbeats 1000000 in
theorem targets_calls (h : CS w B p bb tv N l) (v : Nat) (hv : v < N) : Calls Tryz.prog 84 #[pV p, .int .i64 (v : Int)] w fun e w' => ∃ v', e = .returned (.tuple #[v', .nilIface]) ∧ Hid (OJ w' w.heap.size v' (tgt l v)) ∧ Hid (Below w.heap.size w w') := by
  have HR := Lib.hid (row_calls h v hv)
  have HL : Hid ((tgt l v).length ≤ 1000000) := Lib.hid (by rw [tgt_len]; have := deg_le l v; have := h.few; omega)
  have HD := Lib.hid (tgt_len l v)
  generalize tgt l v = t at *
  generalize deg l v = d at *
  clear h
  go_enter Tryz.func84, Tryz.ntmps84
  go_wp2_with (first
    | (go_at_call 114; refine HR.out.mono ?_; rintro e w1 ⟨a, c, g, rfl, HJ, HB⟩)
    | (go_at_call 115; refine (iclone_calls g _ t _ (HJ.out.1.later HB.out) HL.out).mono ?_; rintro e w2 ⟨v2, rfl, ho, hb⟩; have HO := Lib.hid ho; have HB2 := Lib.hid hb; clear ho hb))
  go_ret2
  exact ⟨v2, rfl, Lib.hid (HO.out.mono HB.out.size), Lib.hid (HB.out.trans (HB2.out.mono HB.out.size))⟩
set_option maxHeartbeats 1000000 in
theorem targets_out (h : CS w B p bb tv N l) (v : Int) (hv : v < 0 ∨ (N : Int) ≤ v) : Calls Tryz.prog 84 #[pV p, .int .i64 v] w fun e w' => e = .returned (.tuple #[.slice none 0 0, noV 2]) ∧ Hid (Below w.heap.size w w') := by
  have HR := Lib.hid (row_out h v hv)
  have HK := Lib.hid (iclone_calls 0 (.slice none 0 0) [] w ⟨none, 0, 0, rfl, Nat.le_refl _, by omega, fun h => by simp at h⟩ (by simp))
  clear h
  have hq : (binOp .eql 53 (.slice none 0 0) (.slice none 0 0)).run Tryz.prog w = .ok (.bool true) w := Lib.run_eql_slice_nil (P := Tryz.prog) w 53 3 none 0 0 0 0 Tryz.underlying53
  have HC : Hid (Calls Tryz.prog 115 #[.slice none 0 0] w fun e w' => e = .returned (.slice none 0 0) ∧ w = w') := Lib.hid (by
    go_enter Tryz.func115, Tryz.ntmps115
    go_wp2
    go_ret
    exact ⟨rfl, rfl⟩)
  clear hq HK
  go_enter Tryz.func84, Tryz.ntmps84
  go_wp2_with (first
    | (go_at_call 114; refine HR.out.mono ?_; rintro e w1 ⟨rfl, rfl⟩)
    | (go_at_call 115; refine HC.out.mono ?_; rintro e w2 ⟨rfl, rfl⟩))
  go_ret2
  exact ⟨rfl, Lib.hid (Below.refl _ _)⟩
end
end Go.Proofs.YtjokfllldcjheaaGreatDoor.Cs
