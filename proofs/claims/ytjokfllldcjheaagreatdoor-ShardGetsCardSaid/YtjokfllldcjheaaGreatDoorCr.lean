/- csr: rows, walked. -/
import Derived.Test.YtjokfllldcjheaaGreatDoorCs
namespace Go.Proofs.YtjokfllldcjheaaGreatDoor.Cs
open Go.RowKit Go.Proofs.YtjokfllldcjheaaGreatDoor.Ed Go.Proofs.YtjokfllldcjheaaGreatDoor.Ro
set_option linter.unusedVariables false
set_option linter.unusedSimpArgs false

/-- while the edges are read: k of them have been -/
structure Rd (w wz : World) (bb p : Nat) (N : Nat) (l : List E2) (k : Nat) (tv : Value) (F : Nat → Int) : Prop where
  blk : wz.heap[p]? = some (.cells #[begV bb N, tv] 102 (0, 0))
  beg : OJ wz w.heap.size (begV bb N) (rowF F (N + 1))
  row : OJ wz w.heap.size tv (tos (l.take k))
  n1 : bb ≠ p
  n2 : ∀ b, tv.ownBlock = some b → b ≠ p ∧ b ≠ bb
  base : w.heap.size ≤ p
  below : Below w.heap.size w wz
theorem Rd.close {w W6 w7 : World} {bb p N : Nat} {l : List E2} {k : Nat} {tv tv' : Value} {y : Int} (hb6 : Below w.heap.size w W6) (hblk : W6.heap[p]? = some (.cells #[begV bb N, tv] 102 (0, 0)))
    (hbeg : OJ W6 w.heap.size (begV bb N) (rowF (cntF (l.take (k + 1))) (N + 1))) (n1 : bb ≠ p) (n2 : ∀ b, tv.ownBlock = some b → b ≠ p ∧ b ≠ bb) (hrow : OJ W6 w.heap.size tv (tos (l.take k)))
    (hg : W6.grownBy w7 tv.ownBlock) (h7 : OJ w7 w.heap.size tv' (tos (l.take k) ++ [y])) (hw : tv'.ownBlock = tv.ownBlock ∨ tv'.ownBlock = some W6.heap.size) (ht : tos (l.take (k + 1)) = tos (l.take k) ++ [y]) (hp : w.heap.size ≤ p) :
    Rd w (w7.setCell ⟨p, 1, none⟩ tv') bb p N l (k + 1) tv' (cntF (l.take (k + 1))) := by
  have hpl := (Array.getElem?_eq_some_iff.1 hblk).1
  have hbl := OJ.lt hbeg bb rfl
  have nep : some p ≠ tv.ownBlock := fun e => (n2 p e.symm).1 rfl
  have neb : some bb ≠ tv.ownBlock := fun e => (n2 bb e.symm).2 rfl
  have hblk7 := (hg.block p hpl nep).trans hblk
  have hset : w7.grownBy (w7.setCell ⟨p, 1, none⟩ tv') (some p) := ⟨rfl, rfl, rfl, by simp, fun j _ hj => heap_setCell_other w7 ⟨p, 1, none⟩ j _ (fun e => hj (by simp [e]))⟩
  have n3 : ∀ b, tv'.ownBlock = some b → b ≠ p ∧ b ≠ bb := by
    intro b hb
    rcases hw with e | e
    · exact n2 b (e ▸ hb)
    · rw [e] at hb
      injection hb with hb
      omega
  refine ⟨?_, ?_, ?_, n1, n3, hp, ?_⟩
  · exact heap_setCell_same w7 p 1 _ _ _ hblk7
  · exact (hbeg.kept hg (.inr neb)).kept hset (.inr fun e => n1 (by injection e))
  · rw [ht]
    cases hv : tv'.ownBlock with
    | none => exact h7.kept hset (.inl hv)
    | some b => exact h7.kept hset (.inr fun e => (n3 b hv).1 (by rw [hv] at e; injection e))
  · have b1 := hb6.grown hg hb6.size (fun b hb => OJ.base hrow b hb)
    exact b1.grown hset b1.size (fun b hb => by injection hb with hb; omega)
set_option maxHeartbeats 4000000 in
set_option maxRecDepth 100000 in
theorem rows_calls (N g : Nat) (v : Value) (l : List E2) (w : World) (h : ER w g v l) (hup : Up l) (hok : ∀ e ∈ l, okE N e) (hl : l.length ≤ 20000) (hN : N ≤ 4096) :
    Calls Tryz.prog 42 #[.int .i64 (N : Int), v] w fun e w' => ∃ p bb tv, e = .returned (.pointer (some ⟨p, 0, none⟩)) ∧ Hid (CS w' w.heap.size p bb tv N l) ∧ Hid (Below w.heap.size w w') := by
  have HE := Lib.hid h
  have HUP := Lib.hid hup
  have HOK := Lib.hid hok
  obtain ⟨A, c, rfl, h1, h2⟩ := er_form h
  obtain ⟨len, hlen⟩ : ∃ len, l.length = len := ⟨_, rfl⟩
  rw [hlen] at h1 hl
  rw [hlen]
  have HL := Lib.hid hlen
  have hl7 : (len : Int) ≤ 20000 := by omega
  obtain ⟨C, hmk, hO1⟩ := make_run w (N + 1) (by omega)
  rw [show ((N + 1 : Nat) : Int) = (N : Int) + 1 by omega] at hmk
  have HO1 := Lib.hid hO1
  clear h hup hok hlen hO1
  go_enter Tryz.func42, Tryz.ntmps42
  go_upto_region 3 with (fail)
  clear hmk
  have hz : (w.alloc (.cells C 3)).heap.size = w.heap.size + 1 := by simp
  have HRD : Hid (Rd w ((w.alloc (.cells C 3)).alloc (.cells #[begV w.heap.size N, .slice none 0 0] 102)) w.heap.size (w.heap.size + 1) N l 0 (.slice none 0 0) (cntF (l.take 0))) := Lib.hid (by
    refine ⟨?_, ?_, OJ.nil _ _, by omega, (fun b hb => by cases hb), by omega, ((Below.refl _ w).alloc (Nat.le_refl _) _).alloc (by simp) _⟩
    · rw [← hz]; exact heap_alloc_new _ _
    · rw [List.take_zero, cntF_nil]
      exact OJ.alloc HO1.out _)
  obtain ⟨p, hp⟩ : ∃ p, w.heap.size + 1 = p := ⟨_, rfl⟩
  obtain ⟨bb, hbb⟩ : ∃ bb, w.heap.size = bb := ⟨_, rfl⟩
  rw [hp, hbb] at HRD
  rw [hp, hbb]
  generalize ((w.alloc (.cells C 3)).alloc (.cells #[begV bb N, .slice none 0 0] 102)) = w1 at *
  have HBB := Lib.hid hbb
  clear hz hp hbb HO1
  go_loopw [16] (fun x wz => ∃ (k : Nat) (tv : Value), x = .int .i64 (k : Int) ∧ k ≤ len ∧ Hid (Rd w wz bb p N l k tv (cntF (l.take k)))) (fun x _ => len - (intOf x).toNat)
  case atStart => exact ⟨0, _, rfl, by omega, HRD⟩
  case round =>
    obtain ⟨k, tv, rfl, hk, HRD⟩ := hrel
    by_cases hlt : k < len
    · obtain ⟨o', A', c', hv', -, -, hread⟩ := HE.out.later HRD.out.below
      rw [HL.out] at hread hv'
      obtain ⟨rfl, hgl, hcell⟩ := hread (by omega)
      injection hv' with hv' _ hcc
      subst hcc hv'
      obtain ⟨q0, q1⟩ := hcell k hlt
      have hmem : l.getD k (0, 0) ∈ l := by rw [List.getD_eq_getElem?_getD, List.getElem?_eq_getElem (by rw [HL.out]; exact hlt)]; exact List.getElem_mem _
      have hxok := HOK.out _ hmem
      have htos := tos_take l k (by rw [HL.out]; exact hlt)
      have hcnt := fun X n => cntF_step l k X n (by rw [HL.out]; exact hlt)
      obtain ⟨⟨x, y⟩, hxy⟩ : ∃ x, l.getD k (0, 0) = x := ⟨_, rfl⟩
      rw [hxy] at q0 q1 hxok htos hcnt
      obtain ⟨hx0, -, hx1, -⟩ := hxok
      simp only at q0 q1 hx0 hx1 htos hcnt
      obtain ⟨X, rfl⟩ := Int.eq_ofNat_of_zero_le hx0
      have HT := Lib.hid htos
      have HCN := Lib.hid (fun n => hcnt X n rfl)
      clear hcell hread hmem htos hcnt hxy
      go_upto_region 5 with (fail)
      obtain ⟨W4, hW4⟩ : ∃ W4, wr.alloc (.cells #[.int .i64 (X : Int), .int .i64 y] 68) = W4 := ⟨_, rfl⟩
      have hRD4 : Rd w W4 bb p N l k tv (cntF (l.take k)) := by
        have hb4 : Below wr.heap.size wr W4 := by rw [← hW4]; exact (Below.refl _ _).alloc (Nat.le_refl _) _
        have h0 := HRD.out
        refine ⟨?_, h0.beg.later hb4, h0.row.later hb4, h0.n1, h0.n2, h0.base, h0.below.trans (hb4.mono h0.below.size)⟩
        rw [hb4.block p (Array.getElem?_eq_some_iff.1 h0.blk).1]
        exact h0.blk
      have z4 := heap_alloc_new wr (.cells #[.int .i64 (X : Int), .int .i64 y] 68)
      obtain ⟨E, hE⟩ : ∃ E, wr.heap.size = E := ⟨_, rfl⟩
      rw [hW4, hE] at z4
      rw [hW4, hE]
      have e0 : W4.cell? ⟨E, 0, none⟩ = some (.int .i64 (X : Int)) := by rw [cell_of_row W4 E 0 _ _ _ z4]; rfl
      have e1 : W4.cell? ⟨E, 1, none⟩ = some (.int .i64 y) := by rw [cell_of_row W4 E 1 _ _ _ z4]; rfl
      have p0 : W4.cell? ⟨p, 0, none⟩ = some (begV bb N) := by rw [cell_of_row W4 p 0 _ _ _ hRD4.blk]; rfl
      have p1 : W4.cell? ⟨p, 1, none⟩ = some tv := by rw [cell_of_row W4 p 1 _ _ _ hRD4.blk]; rfl
      obtain ⟨b0, f0⟩ := OJ.at hRD4.beg (rowF_len _ _) (X + 1) (by omega)
      rw [rowF_get _ (by omega)] at b0
      obtain ⟨hbs, hbg⟩ := OJ.set (OJ.drewN hRD4.beg 0) (rowF_len _ _) (X + 1) (cntF (l.take k) (X + 1) + 1)
      have hf : 0 ≤ cntF (l.take k) (X + 1) ∧ cntF (l.take k) (X + 1) ≤ 20000 := by
        unfold cntF
        rw [if_neg (by omega)]
        have := deg_le (l.take k) (((X + 1 : Nat) : Int) - 1)
        rw [List.length_take] at this
        omega
      rw [rowF_set, HCN.out] at hbs
      obtain ⟨f, hff⟩ : ∃ f, cntF (l.take k) (X + 1) = f := ⟨_, rfl⟩
      rw [hff] at b0 hbs hbg hf
      obtain ⟨hf0, hf1⟩ := hf
      have HBS := Lib.hid (And.intro hbs hbg)
      have HRD4 := Lib.hid hRD4
      have i0 : IntKind.i64.wrap ((X : Int) + 1) = (X : Int) + 1 := IntWalk.i64_in _ (by omega)
      have i1 : (0 : Int) ≤ (X : Int) + 1 := by omega
      have i2 : (X : Int) + 1 < (N : Int) + 1 := by omega
      have i3 : ((X : Int) + 1).toNat = X + 1 := by omega
      have hEW : E < W4.heap.size := (Array.getElem?_eq_some_iff.1 z4).1
      have HNE : Hid (E ≠ p ∧ E ≠ bb) := Lib.hid (by
        have l1 := (Array.getElem?_eq_some_iff.1 HRD.out.blk).1
        have l2 := OJ.lt HRD.out.beg bb rfl
        omega)
      have HB4 : Hid (Below wr.heap.size wr W4) := Lib.hid (by rw [← hW4]; exact (Below.refl _ _).alloc (Nat.le_refl _) _)
      clear hW4 hRD4 z4 hbs hbg hff q0 q1
      go_region
      go_upto_region 6 with (fail)
      obtain ⟨W5, hW5⟩ : ∃ W5, (W4.setCell ⟨bb, X + 1, none⟩ (.int .i64 (f + 1))).drew = W5 := ⟨_, rfl⟩
      have hg45 : W4.grownBy W5 (some bb) := by
        rw [← hW5]
        obtain ⟨-, h⟩ := HBS.out
        exact ⟨h.os, h.tape, h.output, h.size, h.block⟩
      have ho5 : OJ W5 w.heap.size (begV bb N) (rowF (cntF (l.take (k + 1))) (N + 1)) := by
        rw [← hW5]; exact HBS.out.1
      rw [hW5]
      have hbp : W5.heap[p]? = some (.cells #[begV bb N, tv] 102 (0, 0)) := (hg45.block p (Array.getElem?_eq_some_iff.1 HRD4.out.blk).1 (fun e => HRD4.out.n1 (by injection e with e; exact e.symm))).trans HRD4.out.blk
      have e15 : W5.cell? ⟨E, 1, none⟩ = some (.int .i64 y) := hg45.cell e1 (fun e => HNE.out.2 (by injection e))
      have p15 : W5.cell? ⟨p, 1, none⟩ = some tv := by rw [cell_of_row W5 p 1 _ _ _ hbp]; rfl
      have hr5 : OJ W5 w.heap.size tv (tos (l.take k)) := HRD4.out.row.kept hg45 (by
        cases hv : tv.ownBlock with
        | none => exact .inl rfl
        | some b => exact .inr (fun e => (HRD4.out.n2 b hv).2 (by injection e)))
      have HB5 : Hid (Below w.heap.size w W5) := Lib.hid (HRD4.out.below.grown hg45 HRD4.out.below.size (fun b hb => by injection hb with hb; subst hb; exact OJ.base HRD4.out.beg bb rfl))
      have p1a := fun ob => Go.Lib.cell?_alloc_some (W := W5) ob p15
      have hz5 := HB5.out.size
      have hp5 : p < W5.heap.size := (Array.getElem?_eq_some_iff.1 hbp).1
      have HO6 : Hid (OJ (W5.alloc (.cells #[.int .i64 y] 3)).drew w.heap.size tv (tos (l.take k))) := Lib.hid (OJ.drewN (OJ.alloc hr5 _) 1)
      have HL6 : Hid ((W5.alloc (.cells #[.int .i64 y] 3)).drew.cell? ⟨W5.heap.size, 0, none⟩ = some (.int .i64 y)) := Lib.hid (by
        show (W5.alloc _).cell? _ = _
        rw [cell_of_row _ _ 0 _ _ _ (heap_alloc_new _ _)]; rfl)
      have HZ6 : Hid (w.heap.size ≤ (W5.alloc (.cells #[.int .i64 y] 3)).drew.heap.size) := Lib.hid (by show w.heap.size ≤ (W5.alloc _).heap.size; simp; omega)
      have HTL : Hid ((tos (l.take k)).length ≤ 1000000000) := Lib.hid (by rw [tos_len, List.length_take]; omega)
      have HTK : Hid ((tos (l.take k) ++ [y]).length = k + 1) := Lib.hid (by rw [List.length_append, tos_len, List.length_take, HL.out]; simp; omega)
      have P16 : Hid ((W5.alloc (.cells #[.int .i64 y] 3)).drew.cell? ⟨p, 1, none⟩ = some tv) := Lib.hid (p1a _)
      have HN6 : Hid (some p ≠ tv.ownBlock) := Lib.hid (fun e => (HRD4.out.n2 p e.symm).1 rfl)
      have HPL : Hid (p < (W5.alloc (.cells #[.int .i64 y] 3)).drew.heap.size) := Lib.hid (by show p < (W5.alloc _).heap.size; simp; omega)
      have BP6 : Hid ((W5.alloc (.cells #[.int .i64 y] 3)).drew.heap[p]? = some (.cells #[begV bb N, tv] 102 (0, 0))) := Lib.hid ((Below.heap_alloc _ _ p hp5).trans hbp)
      have HO65 : Hid (OJ (W5.alloc (.cells #[.int .i64 y] 3)).drew w.heap.size (begV bb N) (rowF (cntF (l.take (k + 1))) (N + 1))) := Lib.hid (OJ.drewN (OJ.alloc ho5 _) 1)
      have HB6 : Hid (Below w.heap.size w (W5.alloc (.cells #[.int .i64 y] 3)).drew) := Lib.hid ((HB5.out.alloc hz5 _).trans (Ed.drewN_below _ _ 1))
      have HO5 := Lib.hid ho5
      have HR5 := Lib.hid hr5
      have HPP : Hid (W5.heap[p]? = some (.cells #[begV bb N, tv] 102 (0, 0))) := Lib.hid hbp
      clear hW5 hg45 ho5 hr5 hbp HBS i0 i1 i2 i3 e0 p0 b0 f0
      refine wp_region_noPanic ?_
      refine wp_region_held_drew (S := fun _ => True) (by kernel_rfl) trivial (fun hHeld => ?_)
      refine wpAnyH_take (i := 0) (oi := _) (v := ?_) rfl (by kernel_rfl) (by kernel_rfl) (by kernel_rfl) (fun _ _ _ h => h) (Or.inl ⟨by rfl, ?_⟩) (by assumption) ?_
      rotate_left
      · (intro w hSw; (try dsimp only at hSw); go_simp; (try with_reducible rfl))
      try simp only [Act.put, List.setIfInBounds_toArray, List.set_cons_zero, List.set_cons_succ]
      refine wpAnyH_take (i := 1) (oi := _) (v := ?_) rfl (by kernel_rfl) (by kernel_rfl) (by kernel_rfl) (fun _ _ _ h => h) (Or.inl ⟨by rfl, ?_⟩) (by assumption) ?_
      rotate_left
      · (intro w hSw; (try dsimp only at hSw); go_simp; (try with_reducible rfl))
      try simp only [Act.put, List.setIfInBounds_toArray, List.set_cons_zero, List.set_cons_succ]
      refine wpAnyH_take (i := 2) (oi := _) (v := ?_) rfl (by kernel_rfl) (by kernel_rfl) (by kernel_rfl) (fun _ _ _ h => h) (Or.inl ⟨by rfl, ?_⟩) (by assumption) ?_
      rotate_left
      · (intro w hSw; (try dsimp only at hSw); go_simp; (try with_reducible rfl))
      try simp only [Act.put, List.setIfInBounds_toArray, List.set_cons_zero, List.set_cons_succ]
      refine wpAnyH_take (i := 3) (oi := _) (v := ?_) rfl (by kernel_rfl) (by kernel_rfl) (by kernel_rfl) (fun _ _ _ h => h) (Or.inl ⟨by rfl, ?_⟩) (by assumption) ?_
      rotate_left
      · (intro w hSw; (try dsimp only at hSw); go_simp; (try with_reducible rfl))
      try simp only [Act.put, List.setIfInBounds_toArray, List.set_cons_zero, List.set_cons_succ]
      refine wpAnyH_take (i := 5) (oi := _) (v := ?_) rfl (by kernel_rfl) (by kernel_rfl) (by kernel_rfl) (fun _ _ _ h => h) (Or.inl ⟨by rfl, ?_⟩) (by assumption) ?_
      rotate_left
      · (intro w hSw; (try dsimp only at hSw); go_simp; (try with_reducible rfl))
      try simp only [Act.put, List.setIfInBounds_toArray, List.set_cons_zero, List.set_cons_succ]
      refine wpAnyH_ready (rs := [4, 6]) (by kernel_rfl) (by simp) ?_
      refine AllReadyH.cons (o := _) rfl (fun K hK => ?_) (AllReadyH.cons (o := _) rfl (fun K hK => ?_) (AllReadyH.nil))
      · go_simp
        refine hK.out _ _ trivial (fun hHeld => ?_)
        clear hK K
        try simp only [Act.put, List.setIfInBounds_toArray, List.set_cons_zero, List.set_cons_succ]
        refine wpAnyH_ready (rs := [6]) (by kernel_rfl) (by simp) ?_
        refine AllReadyH.cons (o := _) rfl (fun K hK => ?_) (AllReadyH.nil)
        go_simp
        refine hK.out _ _ trivial (fun hHeld => ?_)
        clear hK K
        try simp only [Act.put, List.setIfInBounds_toArray, List.set_cons_zero, List.set_cons_succ]
        refine wpAnyH_ready (rs := [7]) (by kernel_rfl) (by simp) ?_
        refine AllReadyH.cons (o := _) rfl (fun K hK => ?_) (AllReadyH.nil)
        go_simp
        refine hK.out _ _ trivial (fun hHeld => ?_)
        clear hK K
        try simp only [Act.put, List.setIfInBounds_toArray, List.set_cons_zero, List.set_cons_succ]
        refine wpAnyH_ready (rs := [8]) (by kernel_rfl) (by simp) ?_
        refine AllReadyH.cons (o := _) rfl (fun K hK => ?_) (AllReadyH.nil)
        refine OJ.append_wp (ops := _) (base := w.heap.size) HO6.out HL6.out rfl _ _ (by rfl) (by rfl) (by rfl) HZ6.out HTL.out ?_
        intro v7 w7 h7 hg7 ho7
        have H7 := Lib.hid h7
        have HG7 := Lib.hid hg7
        have HW7 := Lib.hid ho7
        have p17 : w7.cell? ⟨p, 1, none⟩ = some tv := hg7.cell P16.out (fun e => HN6.out e)
        have f17 : w7.frozen? ⟨p, 1, none⟩ = false := frozen_of_row w7 p 1 _ _ ((hg7.block p HPL.out HN6.out).trans BP6.out)
        obtain ⟨A7, c7, hv7, -⟩ := OJ.shape h7
        rw [HTK.out] at hv7
        subst hv7
        clear h7 hg7 ho7
        refine hK.out _ _ trivial (fun hHeld => ?_)
        clear hK K
        try simp only [Act.put, List.setIfInBounds_toArray, List.set_cons_zero, List.set_cons_succ]
        refine wpAnyH_take (i := 9) (oi := _) (v := ?_) rfl (by kernel_rfl) (by kernel_rfl) (by kernel_rfl) (fun _ _ _ h => h) (Or.inl ⟨by rfl, ?_⟩) (by assumption) ?_
        rotate_left
        · (intro w hSw; (try dsimp only at hSw); go_simp; (try with_reducible rfl))
        try simp only [Act.put, List.setIfInBounds_toArray, List.set_cons_zero, List.set_cons_succ]
        refine wpAnyH_take (i := 10) (oi := _) (v := ?_) rfl (by kernel_rfl) (by kernel_rfl) (by kernel_rfl) (fun _ _ _ h => h) (Or.inl ⟨by rfl, ?_⟩) (by assumption) ?_
        rotate_left
        · (intro w hSw; (try dsimp only at hSw); go_simp; (try with_reducible rfl))
        try simp only [Act.put, List.setIfInBounds_toArray, List.set_cons_zero, List.set_cons_succ]
        refine wpAnyH_ready (rs := [11]) (by kernel_rfl) (by simp) ?_
        refine AllReadyH.cons (o := _) rfl (fun K hK => ?_) (AllReadyH.nil)
        go_simp
        refine hK.out _ _ trivial (fun hHeld => ?_)
        clear hK K
        try simp only [Act.put, List.setIfInBounds_toArray, List.set_cons_zero, List.set_cons_succ]
        refine wpAnyH_done (by kernel_rfl) ?_ _
        refine NoPanic.normal ?_
        go_wp2
        go_roundw
        case rel => exact ⟨k + 1, _, by go_num, by omega, Lib.hid (Rd.close HB6.out BP6.out HO65.out HRD4.out.n1 HRD4.out.n2 HO6.out HG7.out H7.out HW7.out HT.out HRD4.out.base)⟩
        case measure => simp [intOf]; omega
      · go_simp
        refine hK.out _ _ trivial (fun hHeld => ?_)
        clear hK K
        try simp only [Act.put, List.setIfInBounds_toArray, List.set_cons_zero, List.set_cons_succ]
        refine wpAnyH_ready (rs := [4, 7]) (by kernel_rfl) (by simp) ?_
        refine AllReadyH.cons (o := _) rfl (fun K hK => ?_) (AllReadyH.cons (o := _) rfl (fun K hK => ?_) (AllReadyH.nil))
        · go_simp
          refine hK.out _ _ trivial (fun hHeld => ?_)
          clear hK K
          try simp only [Act.put, List.setIfInBounds_toArray, List.set_cons_zero, List.set_cons_succ]
          refine wpAnyH_ready (rs := [7]) (by kernel_rfl) (by simp) ?_
          refine AllReadyH.cons (o := _) rfl (fun K hK => ?_) (AllReadyH.nil)
          go_simp
          refine hK.out _ _ trivial (fun hHeld => ?_)
          clear hK K
          try simp only [Act.put, List.setIfInBounds_toArray, List.set_cons_zero, List.set_cons_succ]
          refine wpAnyH_ready (rs := [8]) (by kernel_rfl) (by simp) ?_
          refine AllReadyH.cons (o := _) rfl (fun K hK => ?_) (AllReadyH.nil)
          refine OJ.append_wp (ops := _) (base := w.heap.size) HO6.out HL6.out rfl _ _ (by rfl) (by rfl) (by rfl) HZ6.out HTL.out ?_
          intro v7 w7 h7 hg7 ho7
          have H7 := Lib.hid h7
          have HG7 := Lib.hid hg7
          have HW7 := Lib.hid ho7
          have p17 : w7.cell? ⟨p, 1, none⟩ = some tv := hg7.cell P16.out (fun e => HN6.out e)
          have f17 : w7.frozen? ⟨p, 1, none⟩ = false := frozen_of_row w7 p 1 _ _ ((hg7.block p HPL.out HN6.out).trans BP6.out)
          obtain ⟨A7, c7, hv7, -⟩ := OJ.shape h7
          rw [HTK.out] at hv7
          subst hv7
          clear h7 hg7 ho7
          refine hK.out _ _ trivial (fun hHeld => ?_)
          clear hK K
          try simp only [Act.put, List.setIfInBounds_toArray, List.set_cons_zero, List.set_cons_succ]
          refine wpAnyH_take (i := 9) (oi := _) (v := ?_) rfl (by kernel_rfl) (by kernel_rfl) (by kernel_rfl) (fun _ _ _ h => h) (Or.inl ⟨by rfl, ?_⟩) (by assumption) ?_
          rotate_left
          · (intro w hSw; (try dsimp only at hSw); go_simp; (try with_reducible rfl))
          try simp only [Act.put, List.setIfInBounds_toArray, List.set_cons_zero, List.set_cons_succ]
          refine wpAnyH_take (i := 10) (oi := _) (v := ?_) rfl (by kernel_rfl) (by kernel_rfl) (by kernel_rfl) (fun _ _ _ h => h) (Or.inl ⟨by rfl, ?_⟩) (by assumption) ?_
          rotate_left
          · (intro w hSw; (try dsimp only at hSw); go_simp; (try with_reducible rfl))
          try simp only [Act.put, List.setIfInBounds_toArray, List.set_cons_zero, List.set_cons_succ]
          refine wpAnyH_ready (rs := [11]) (by kernel_rfl) (by simp) ?_
          refine AllReadyH.cons (o := _) rfl (fun K hK => ?_) (AllReadyH.nil)
          go_simp
          refine hK.out _ _ trivial (fun hHeld => ?_)
          clear hK K
          try simp only [Act.put, List.setIfInBounds_toArray, List.set_cons_zero, List.set_cons_succ]
          refine wpAnyH_done (by kernel_rfl) ?_ _
          refine NoPanic.normal ?_
          go_wp2
          go_roundw
          case rel => exact ⟨k + 1, _, by go_num, by omega, Lib.hid (Rd.close HB6.out BP6.out HO65.out HRD4.out.n1 HRD4.out.n2 HO6.out HG7.out H7.out HW7.out HT.out HRD4.out.base)⟩
          case measure => simp [intOf]; omega
        · go_simp
          refine hK.out _ _ trivial (fun hHeld => ?_)
          clear hK K
          try simp only [Act.put, List.setIfInBounds_toArray, List.set_cons_zero, List.set_cons_succ]
          refine wpAnyH_ready (rs := [4]) (by kernel_rfl) (by simp) ?_
          refine AllReadyH.cons (o := _) rfl (fun K hK => ?_) (AllReadyH.nil)
          go_simp
          refine hK.out _ _ trivial (fun hHeld => ?_)
          clear hK K
          try simp only [Act.put, List.setIfInBounds_toArray, List.set_cons_zero, List.set_cons_succ]
          refine wpAnyH_ready (rs := [8]) (by kernel_rfl) (by simp) ?_
          refine AllReadyH.cons (o := _) rfl (fun K hK => ?_) (AllReadyH.nil)
          refine OJ.append_wp (ops := _) (base := w.heap.size) HO6.out HL6.out rfl _ _ (by rfl) (by rfl) (by rfl) HZ6.out HTL.out ?_
          intro v7 w7 h7 hg7 ho7
          have H7 := Lib.hid h7
          have HG7 := Lib.hid hg7
          have HW7 := Lib.hid ho7
          have p17 : w7.cell? ⟨p, 1, none⟩ = some tv := hg7.cell P16.out (fun e => HN6.out e)
          have f17 : w7.frozen? ⟨p, 1, none⟩ = false := frozen_of_row w7 p 1 _ _ ((hg7.block p HPL.out HN6.out).trans BP6.out)
          obtain ⟨A7, c7, hv7, -⟩ := OJ.shape h7
          rw [HTK.out] at hv7
          subst hv7
          clear h7 hg7 ho7
          refine hK.out _ _ trivial (fun hHeld => ?_)
          clear hK K
          try simp only [Act.put, List.setIfInBounds_toArray, List.set_cons_zero, List.set_cons_succ]
          refine wpAnyH_take (i := 9) (oi := _) (v := ?_) rfl (by kernel_rfl) (by kernel_rfl) (by kernel_rfl) (fun _ _ _ h => h) (Or.inl ⟨by rfl, ?_⟩) (by assumption) ?_
          rotate_left
          · (intro w hSw; (try dsimp only at hSw); go_simp; (try with_reducible rfl))
          try simp only [Act.put, List.setIfInBounds_toArray, List.set_cons_zero, List.set_cons_succ]
          refine wpAnyH_take (i := 10) (oi := _) (v := ?_) rfl (by kernel_rfl) (by kernel_rfl) (by kernel_rfl) (fun _ _ _ h => h) (Or.inl ⟨by rfl, ?_⟩) (by assumption) ?_
          rotate_left
          · (intro w hSw; (try dsimp only at hSw); go_simp; (try with_reducible rfl))
          try simp only [Act.put, List.setIfInBounds_toArray, List.set_cons_zero, List.set_cons_succ]
          refine wpAnyH_ready (rs := [11]) (by kernel_rfl) (by simp) ?_
          refine AllReadyH.cons (o := _) rfl (fun K hK => ?_) (AllReadyH.nil)
          go_simp
          refine hK.out _ _ trivial (fun hHeld => ?_)
          clear hK K
          try simp only [Act.put, List.setIfInBounds_toArray, List.set_cons_zero, List.set_cons_succ]
          refine wpAnyH_done (by kernel_rfl) ?_ _
          refine NoPanic.normal ?_
          go_wp2
          go_roundw
          case rel => exact ⟨k + 1, _, by go_num, by omega, Lib.hid (Rd.close HB6.out BP6.out HO65.out HRD4.out.n1 HRD4.out.n2 HO6.out HG7.out H7.out HW7.out HT.out HRD4.out.base)⟩
          case measure => simp [intOf]; omega
    · obtain rfl : len = k := by omega
      have hz0 := addF_zero l (N + 1) (fun e he => (HOK.out e he).1)
      have HR2 : Hid (Rd w wr bb p N l len tv (addF l 0)) := Lib.hid (by
        have h0 := HRD.out
        refine ⟨h0.blk, ?_, h0.row, h0.n1, h0.n2, h0.base, h0.below⟩
        have := h0.beg
        rw [List.take_of_length_le (by rw [HL.out]; omega)] at this
        rw [hz0]
        exact this)
      clear hz0 HRD
      go_upto_region 9 with (fail)
      rename World => wo
      go_loopw [44] (fun x wz => ∃ j : Nat, x = .int .i64 (j : Int) ∧ j ≤ N ∧ Hid (Rd w wz bb p N l len tv (addF l j))) (fun x _ => N - (intOf x).toNat)
      case atStart => exact ⟨0, rfl, by omega, HR2⟩
      case round =>
        obtain ⟨j, rfl, hj, HR2⟩ := hrel
        by_cases hlt : j < N
        · have h0 := HR2.out
          have p0 : wr.cell? ⟨p, 0, none⟩ = some (begV bb N) := by rw [cell_of_row wr p 0 _ _ _ h0.blk]; rfl
          obtain ⟨b0, f0⟩ := OJ.at h0.beg (rowF_len _ _) (j + 1) (by omega)
          obtain ⟨b1, f1⟩ := OJ.at h0.beg (rowF_len _ _) j (by omega)
          rw [rowF_get _ (by omega)] at b0 b1
          obtain ⟨hbs, hbg⟩ := OJ.set (OJ.drewN h0.beg 0) (rowF_len _ _) (j + 1) (addF l j (j + 1) + addF l j j)
          rw [rowF_set, addF_step] at hbs
          have hf1 : 0 ≤ addF l j (j + 1) ∧ addF l j (j + 1) ≤ 20000 := by
            unfold addF
            rw [if_neg (by omega)]
            unfold cntF
            rw [if_neg (by omega)]
            have := deg_le l (((j + 1 : Nat) : Int) - 1)
            rw [HL.out] at this
            omega
          have hf2 : 0 ≤ addF l j j ∧ addF l j j ≤ 20000 := by
            unfold addF
            rw [if_pos (Nat.le_refl _)]
            unfold begF
            have := bel_le l (j : Int)
            rw [HL.out] at this
            omega
          obtain ⟨fa, hfa⟩ : ∃ f, addF l j (j + 1) = f := ⟨_, rfl⟩
          obtain ⟨fb, hfb⟩ : ∃ f, addF l j j = f := ⟨_, rfl⟩
          rw [hfa] at b0 hbs hbg hf1
          rw [hfb] at b1 hbs hbg hf2
          obtain ⟨hf10, hf11⟩ := hf1
          obtain ⟨hf20, hf21⟩ := hf2
          have HBS := Lib.hid (And.intro hbs hbg)
          have i0 : IntKind.i64.wrap ((j : Int) + 1) = (j : Int) + 1 := IntWalk.i64_in _ (by omega)
          have i1 : (0 : Int) ≤ (j : Int) + 1 := by omega
          have i2 : (j : Int) + 1 < (N : Int) + 1 := by omega
          have i3 : ((j : Int) + 1).toNat = j + 1 := by omega
          have i4 : (j : Int) < (N : Int) + 1 := by omega
          have i5 : IntKind.i64.wrap (fa + fb) = fa + fb := IntWalk.i64_in _ (by omega)
          clear h0 hbs hbg hfa hfb
          go_upto_region 11 with (fail)
          go_region
          go_wp2
          go_roundw
          case rel =>
            obtain ⟨g1, g2⟩ := HBS.out
            have h0 := HR2.out
            have hg : wr.grownBy ((wr.setCell ⟨bb, j + 1, none⟩ (.int .i64 (fa + fb))).drew) (some bb) := ⟨g2.os, g2.tape, g2.output, g2.size, g2.block⟩
            refine ⟨j + 1, by go_num, by omega, Lib.hid ⟨?_, g1, ?_, h0.n1, h0.n2, h0.base, h0.below.grown hg h0.below.size (fun b hb => by injection hb with hb; subst hb; exact OJ.base h0.beg bb rfl)⟩⟩
            · exact (hg.block p (Array.getElem?_eq_some_iff.1 h0.blk).1 (fun e => h0.n1 (by injection e with e; exact e.symm))).trans h0.blk
            · cases hv : tv.ownBlock with
              | none => exact h0.row.kept hg (.inl hv)
              | some b => exact h0.row.kept hg (.inr fun e => (h0.n2 b hv).2 (by rw [hv] at e; injection e))
          case measure => simp [intOf]; omega
        · obtain rfl : N = j := by omega
          go_wp2
          go_ret
          have h0 := HR2.out
          have e1 := h0.row
          rw [List.take_of_length_le (by rw [HL.out]; omega)] at e1
          have e2 := h0.beg
          rw [addF_all] at e2
          exact ⟨p, bb, tv, rfl, Lib.hid ⟨h0.blk, e2, e1, h0.base, HUP.out, HOK.out, by rw [HL.out]; exact hl, hN⟩, Lib.hid h0.below⟩
end Go.Proofs.YtjokfllldcjheaaGreatDoor.Cs
