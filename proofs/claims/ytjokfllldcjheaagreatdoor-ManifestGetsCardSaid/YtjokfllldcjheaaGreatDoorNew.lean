/- merkle.New makes a tree; Root tells its root. -/
import Derived.Test.YtjokfllldcjheaaGreatDoorFill
import Derived.Test.YtjokfllldcjheaaGreatDoorTxt
import Derived.Deep.RegionLaw
import Derived.Carry
namespace Go.Proofs.YtjokfllldcjheaaGreatDoor.Mk
open Go.RowKit Go.Proofs.YtjokfllldcjheaaGreatDoor.Sha
set_option linter.unusedVariables false
set_option linter.unusedSimpArgs false

theorem OT_reads2 {w : World} {base : Nat} {v : Value} {ss : List ByteArray} (h : OT w base v ss) : ∃ g, base ≤ g ∧ SR w g v ss := by
  rcases h.2 with ⟨hv, hn⟩ | ⟨g, cap, cur, hv, hb, hh, hnc, hcm, hcs, htk⟩
  · exact ⟨base, Nat.le_refl _, none, 0, by rw [hv, hn], by omega, by omega, fun h => by omega⟩
  · refine ⟨g, hb, some ⟨g, 0, none⟩, cap, hv, hnc, by simp only [maxLen] at hcm; omega, fun _ => ⟨_, rfl, rfl, fun i hi => ?_⟩⟩
    have := World.ownsRow.cells h (g := g) (by rw [hv]; rfl) i (.string (ss.getD i ByteArray.empty)) (by simp [List.getD_eq_getElem?_getD, hi])
    exact this
/-- the leaves' digests -/
def leaves (ss : List ByteArray) : List ByteArray := ss.map leafD
theorem leaves_length (ss : List ByteArray) : (leaves ss).length = ss.length := by simp [leaves]
theorem leaves_size (ss : List ByteArray) : ∀ s ∈ leaves ss, s.size = 32 := by
  intro s hs
  obtain ⟨x, _, rfl⟩ := List.mem_map.1 hs
  exact leafD_size x
theorem leaves_take (ss : List ByteArray) (k : Nat) (h : k < ss.length) : leaves (ss.take (k + 1)) = leaves (ss.take k) ++ [leafD (ss.getD k ByteArray.empty)] := by
  unfold leaves
  rw [List.take_succ_eq_append_getElem h, List.map_append]
  simp [List.getD_eq_getElem?_getD, h]
def noneF : Nat → Nat → Option ByteArray := fun _ _ => none
/-- the map of a tree of these blocks -/
def mapOf (ss : List ByteArray) : Nat → Nat → Option ByteArray := if ss = [] then noneF else fillF (leaves ss) noneF 0 ss.length

def TC (w : World) (tb mb : Nat) (v : Value) : Prop := w.heap[tb]? = some (.cells #[v, .map (some mb)] 136 (0, 0))
theorem TC.set {w : World} {tb mb : Nat} {v : Value} (h : TC w tb mb v) (v' : Value) : TC (w.setCell ⟨tb, 0, none⟩ v') tb mb v' := by
  unfold TC
  rw [heap_setCell_same w tb 0 _ _ v' h]
  rfl
theorem TC.later {w w' : World} {tb mb : Nat} {v : Value} (h : TC w tb mb v) (hb : Below w.heap.size w w') : TC w' tb mb v := (hb.block tb (Array.getElem?_eq_some_iff.1 h).1).trans h
theorem TC.kept {w w' : World} {tb mb : Nat} {v : Value} (h : TC w tb mb v) {row : Option Nat} (hg : w.grownBy w' row) (hr : some tb ≠ row) : TC w' tb mb v := (hg.block tb (Array.getElem?_eq_some_iff.1 h).1 hr).trans h
theorem TC.cell0 {w : World} {tb mb : Nat} {v : Value} (h : TC w tb mb v) : w.cell? ⟨tb, 0, none⟩ = some v := by rw [cell_of_row w tb 0 _ _ _ h]; rfl
theorem TC.frozen {w : World} {tb mb : Nat} {v : Value} (h : TC w tb mb v) : w.frozen? ⟨tb, 0, none⟩ = false := frozen_of_row w tb 0 _ _ h
theorem TC.lt {w : World} {tb mb : Nat} {v : Value} (h : TC w tb mb v) : tb < w.heap.size := (Array.getElem?_eq_some_iff.1 h).1
theorem keepc {w : World} {p : Addr} {v : Value} (h : w.cell? p = some v) (hp : p.block < w.heap.size) (o : Obj) : (w.alloc o).cell? p = some v :=
  (((Below.refl w.heap.size w).alloc (Nat.le_refl _) o).cell hp).trans h
theorem of_drew {w w' : World} (h : Below w.drew.heap.size w.drew w') : Below w.heap.size w w' := ⟨h.os, h.tape, h.output, h.size, h.block⟩

set_option maxHeartbeats 2000000 in
set_option maxRecDepth 100000 in
theorem new_calls (lb : Nat) (lv : Value) (ss : List ByteArray) (w : World) (hl : SR w lb lv ss) (hn : ss.length ≤ 1000000) (hss : ∀ s ∈ ss, s.size ≤ 900000) :
    Calls Tryz.prog 66 #[lv] w fun e w' => ∃ tb mb g v, e = .returned (.pointer (some ⟨tb, 0, none⟩)) ∧ Hid (TreeS w' tb mb g v (leaves ss) (mapOf ss)) ∧ Hid (Below w.heap.size w w') := by
  have hl' := hl
  obtain ⟨A, cp, rfl, hcp, hcm, -⟩ := hl
  have HL := Lib.hid hl'
  have HSS := Lib.hid hss
  clear hl' hss
  obtain ⟨len, hlen⟩ : ∃ len, ss.length = len := ⟨_, rfl⟩
  rw [hlen] at hcp HL hn ⊢
  have HLEN := Lib.hid hlen
  clear hlen
  have hmm := @run_makeMap Tryz.prog
  go_enter Tryz.func66, Tryz.ntmps66
  go_wp2
  have HM0 : Hid (MapS ((w.alloc (.map #[] 0)).alloc (.cells #[.slice none 0 0, .map (some w.heap.size)] 136)) w.heap.size noneF) := Lib.hid ((MapS.fresh w).alloc _)
  have HC0 : Hid (TC ((w.alloc (.map #[] 0)).alloc (.cells #[.slice none 0 0, .map (some w.heap.size)] 136)) (w.heap.size + 1) w.heap.size (.slice none 0 0)) := by
    have := heap_alloc_new (w.alloc (.map #[] 0)) (.cells #[.slice none 0 0, .map (some w.heap.size)] 136)
    rw [show (w.alloc (.map #[] 0)).heap.size = w.heap.size + 1 by simp] at this
    exact this
  have HB0 : Hid (Below w.heap.size w ((w.alloc (.map #[] 0)).alloc (.cells #[.slice none 0 0, .map (some w.heap.size)] 136))) := Lib.hid (((Below.refl _ _).alloc (Nat.le_refl _) _).alloc (by simp) _)
  have hz0 : w.heap.size + 2 ≤ ((w.alloc (.map #[] 0)).alloc (.cells #[.slice none 0 0, .map (some w.heap.size)] 136)).heap.size := by simp
  obtain ⟨mb, hmb⟩ : ∃ mb, w.heap.size = mb := ⟨_, rfl⟩
  obtain ⟨W0, hW0⟩ : ∃ W0, (w.alloc (.map #[] 0)).alloc (.cells #[.slice none 0 0, .map (some w.heap.size)] 136) = W0 := ⟨_, rfl⟩
  rw [hW0] at HM0 HC0 HB0 hz0
  try rw [hW0]
  rw [hmb] at HM0 HC0 HB0 hz0
  try rw [hmb]
  have HO0 : Hid (OT W0 (mb + 1 + 1) (.slice none 0 0) (leaves (ss.take 0))) := Lib.hid (OT.nil W0 (mb + 1 + 1))
  obtain ⟨tb, htb⟩ : ∃ tb, mb + 1 = tb := ⟨_, rfl⟩
  rw [htb] at HC0 HO0 ⊢
  go_loopw [11] (fun i wr => ∃ (k : Nat) (v : Value), i = .int .i64 (k : Int) ∧ k ≤ len ∧ Hid (TC wr tb mb v) ∧ Hid (MapS wr mb noneF) ∧ Hid (OT wr (tb + 1) v (leaves (ss.take k))) ∧ Hid (Below mb w wr)) (fun i _ => len - (intOf i).toNat)
  case atStart => exact ⟨0, _, rfl, by omega, HC0, HM0, HO0, HB0⟩
  case round =>
    clear HC0 HM0 HO0 HB0 hW0 hz0
    obtain ⟨k, v, rfl, hk, HC, HM, HO, HB⟩ := hrel
    have hbw : mb ≤ wr.heap.size := by have := HB.out.size; omega
    by_cases hlt : k < len
    · have hl1 := HL.out.later (w' := wr) (by rw [hmb]; exact HB.out)
      obtain ⟨A', c', hv', -, -, hread⟩ := hl1
      rw [HLEN.out] at hread hv'
      obtain ⟨ad, hA, -, hcell⟩ := hread (by omega)
      injection hv' with hv' _ hcc
      subst hcc
      rw [← hv'] at hA
      subst hA
      have ct := hcell k hlt
      have hsn := leaves_take ss k (by rw [HLEN.out]; exact hlt)
      have hssz : (ss.getD k ByteArray.empty).size ≤ 900000 := by
        have : ss.getD k ByteArray.empty = ss[k]'(by rw [HLEN.out]; exact hlt) := by simp [List.getD_eq_getElem?_getD, show k < ss.length by rw [HLEN.out]; exact hlt]
        rw [this]
        exact HSS.out _ (List.getElem_mem _)
      obtain ⟨s, hs⟩ : ∃ s, ss.getD k ByteArray.empty = s := ⟨_, rfl⟩
      rw [hs] at ct hsn hssz
      have hll : (leaves (ss.take k)).length ≤ 1000000 := by rw [leaves_length, List.length_take]; omega
      have HL4 : Hid ((leaves (ss.take k) ++ [leafD s]).length = k + 1) := Lib.hid (by rw [List.length_append, leaves_length, List.length_take, Nat.min_eq_left (by rw [HLEN.out]; omega)]; rfl)
      have HSN := Lib.hid hsn
      have HLL := Lib.hid hll
      have k0 : (0 : Int) ≤ (k : Int) := by omega
      have k1 : (k : Int) < (len : Int) := by omega
      have tc := HC.out.cell0
      have tf := HC.out.frozen
      have htl := HC.out.lt
      clear hcell hv' hread hsn hll hs
      go_upto_region 5 with (fail)
      refine wp_region_noPanic ?_
      refine wp_region_held_drew (S := fun _ => True) (by kernel_rfl) trivial (fun hHeld => ?_)
      refine wpAnyH_take (i := 0) (oi := _) (v := ?_) rfl (by kernel_rfl) (by kernel_rfl) (by kernel_rfl) (fun _ _ _ h => h) (Or.inl ⟨by rfl, ?_⟩) (by assumption) ?_
      rotate_left
      · (intro w hSw; (try dsimp only at hSw); go_simp; (try with_reducible rfl))
      try simp only [Act.put, List.setIfInBounds_toArray, List.set_cons_zero, List.set_cons_succ]
      refine wpAnyH_take (i := 1) (oi := _) (v := ?_) rfl (by kernel_rfl) (by kernel_rfl) (by kernel_rfl) (fun _ _ _ h => h) (Or.inl ⟨by rfl, ?_⟩) (by assumption) ?_
      rotate_left
      · (intro w hSw; (try dsimp only at hSw); go_simp; (try with_reducible rfl))
      try simp only [Act.put, List.setIfInBounds_toArray, List.set_cons_zero, List.set_cons_succ]
      refine wpAnyH_take (i := 2) (oi := _) (v := ?_) rfl (by kernel_rfl) (by kernel_rfl) (by kernel_rfl) (fun _ _ _ h => h) (Or.inl ⟨by rfl, ?_⟩) (by assumption) ?_
      rotate_left
      · (intro w hSw; (try dsimp only at hSw); go_simp; (try with_reducible rfl))
      try simp only [Act.put, List.setIfInBounds_toArray, List.set_cons_zero, List.set_cons_succ]
      refine wpAnyH_take (i := 3) (oi := _) (v := ?_) rfl (by kernel_rfl) (by kernel_rfl) (by kernel_rfl) (fun _ _ _ h => h) (Or.inl ⟨by rfl, ?_⟩) (by assumption) ?_
      rotate_left
      · (intro w hSw; (try dsimp only at hSw); go_simp; (try with_reducible rfl))
      try simp only [Act.put, List.setIfInBounds_toArray, List.set_cons_zero, List.set_cons_succ]
      refine wpAnyH_take (i := 5) (oi := _) (v := ?_) rfl (by kernel_rfl) (by kernel_rfl) (by kernel_rfl) (fun _ _ _ h => h) (Or.inl ⟨by rfl, ?_⟩) (by assumption) ?_
      rotate_left
      · (intro w hSw; (try dsimp only at hSw); go_simp; (try with_reducible rfl))
      try simp only [Act.put, List.setIfInBounds_toArray, List.set_cons_zero, List.set_cons_succ]
      refine wpAnyH_ready (rs := [4, 6]) (by kernel_rfl) (by simp) ?_
      refine AllReadyH.cons (o := _) rfl (fun K hK => ?_) (AllReadyH.cons (o := _) rfl (fun K hK => ?_) (AllReadyH.nil))
      · go_simp
        refine hK.out _ _ trivial (fun hHeld => ?_)
        clear hK K
        try simp only [Act.put, List.setIfInBounds_toArray, List.set_cons_zero, List.set_cons_succ]
        refine wpAnyH_ready (rs := [6]) (by kernel_rfl) (by simp) ?_
        refine AllReadyH.cons (o := _) rfl (fun K hK => ?_) (AllReadyH.nil)
        go_simp
        go_at_call 99
        refine (leaf_calls s _ hssz).mono ?_
        rintro e w3 ⟨rfl, HB3⟩
        have HC3 := Lib.hid (HC.out.later (of_drew HB3.out))
        have tc3 := HC3.out.cell0
        have tc7 : ∀ o, (w3.alloc o).cell? ⟨tb, 0, none⟩ = some v := fun o => keepc tc3 HC3.out.lt o
        go_wp2
        refine hK.out _ _ trivial (fun hHeld => ?_)
        clear hK K
        try simp only [Act.put, List.setIfInBounds_toArray, List.set_cons_zero, List.set_cons_succ]
        refine wpAnyH_ready (rs := [7]) (by kernel_rfl) (by simp) ?_
        refine AllReadyH.cons (o := _) rfl (fun K hK => ?_) (AllReadyH.nil)
        go_simp
        refine hK.out _ _ trivial (fun hHeld => ?_)
        clear hK K
        try simp only [Act.put, List.setIfInBounds_toArray, List.set_cons_zero, List.set_cons_succ]
        refine wpAnyH_ready (rs := [8]) (by kernel_rfl) (by simp) ?_
        refine AllReadyH.cons (o := _) rfl (fun K hK => ?_) (AllReadyH.nil)
        refine OT.append_wp (ops := _) (base := tb + 1) (OT.alloc (HO.out.later (of_drew HB3.out)) _) (SR.lit _ [leafD s] _ rfl 1 rfl (by simp)) (by simp) rfl _ _ (by rfl) (by rfl) (by rfl) (by have := HB3.out.size; simp at this ⊢; omega) (by have := HLL.out; simp; omega) ?_
        intro v4 w4 h4 hg4
        have HC4 := Lib.hid ((HC3.out.later ((Below.refl _ _).alloc (Nat.le_refl _) _)).kept hg4 (fun e => by have := OT.base HO.out tb e.symm; omega))
        have tc4 := HC4.out.cell0
        have tf4 := HC4.out.frozen
        have HO4 := Lib.hid h4
        have HG4 := Lib.hid hg4
        obtain ⟨g4, -, A4, c4, hv4, -, -, -⟩ := OT_reads2 h4
        rw [HL4.out] at hv4
        clear h4 hg4
        subst hv4
        refine hK.out _ _ trivial (fun hHeld => ?_)
        clear hK K
        try simp only [Act.put, List.setIfInBounds_toArray, List.set_cons_zero, List.set_cons_succ]
        refine wpAnyH_take (i := 9) (oi := _) (v := ?_) rfl (by kernel_rfl) (by kernel_rfl) (by kernel_rfl) (fun _ _ _ h => h) (Or.inl ⟨by rfl, ?_⟩) (by assumption) ?_
        rotate_left
        · (intro w hSw; (try dsimp only at hSw); go_simp; (try with_reducible rfl))
        try simp only [Act.put, List.setIfInBounds_toArray, List.set_cons_zero, List.set_cons_succ]
        refine wpAnyH_take (i := 10) (oi := _) (v := ?_) rfl (by kernel_rfl) (by kernel_rfl) (by kernel_rfl) (fun _ _ _ h => h) (Or.inl ⟨by rfl, ?_⟩) (by assumption) ?_
        rotate_left
        · (intro w hSw; (try dsimp only at hSw); go_simp; (try with_reducible rfl))
        try simp only [Act.put, List.setIfInBounds_toArray, List.set_cons_zero, List.set_cons_succ]
        refine wpAnyH_ready (rs := [11]) (by kernel_rfl) (by simp) ?_
        refine AllReadyH.cons (o := _) rfl (fun K hK => ?_) (AllReadyH.nil)
        go_simp
        refine hK.out _ _ trivial (fun hHeld => ?_)
        clear hK K
        try simp only [Act.put, List.setIfInBounds_toArray, List.set_cons_zero, List.set_cons_succ]
        refine wpAnyH_done (by kernel_rfl) ?_ _
        refine NoPanic.normal ?_
        go_wp2
        have hb3 := of_drew HB3.out
        have hb4 := ((HB.out.trans (hb3.mono hbw)).alloc (Nat.le_trans hbw hb3.size) (.cells #[.string (leafD s)] 9)).grown HG4.out (by have := hb3.size; simp; omega) (fun k hk => by have := OT.base HO.out k hk; omega)
        have hm4 := (((HM.out.later hb3).alloc (.cells #[.string (leafD s)] 9)).kept HG4.out (fun e => by have := OT.base HO.out mb e.symm; omega)).kept (grown_setCell w4 ⟨tb, 0, none⟩ (.slice A4 (k + 1) c4)) (fun e => by injection e with e; simp at e; omega)
        have ho4 := World.ownsRow.kept HO4.out (grown_setCell w4 ⟨tb, 0, none⟩ (.slice A4 (k + 1) c4)) (Or.inr (fun e => by have := OT.base HO4.out tb e; omega))
        go_roundw
        case rel => exact ⟨k + 1, _, by go_num, by omega, Lib.hid (HC4.out.set _), Lib.hid hm4, Lib.hid (by rw [HSN.out]; exact ho4), Lib.hid (hb4.setCell (by simp; omega) _)⟩
        case measure => simp [intOf]; omega
      · go_simp
        go_at_call 99
        refine (leaf_calls s _ hssz).mono ?_
        rintro e w3 ⟨rfl, HB3⟩
        have HC3 := Lib.hid (HC.out.later (of_drew HB3.out))
        have tc3 := HC3.out.cell0
        have tc7 : ∀ o, (w3.alloc o).cell? ⟨tb, 0, none⟩ = some v := fun o => keepc tc3 HC3.out.lt o
        go_wp2
        refine hK.out _ _ trivial (fun hHeld => ?_)
        clear hK K
        try simp only [Act.put, List.setIfInBounds_toArray, List.set_cons_zero, List.set_cons_succ]
        refine wpAnyH_ready (rs := [4, 7]) (by kernel_rfl) (by simp) ?_
        refine AllReadyH.cons (o := _) rfl (fun K hK => ?_) (AllReadyH.cons (o := _) rfl (fun K hK => ?_) (AllReadyH.nil))
        · go_simp
          refine hK.out _ _ trivial (fun hHeld => ?_)
          clear hK K
          try simp only [Act.put, List.setIfInBounds_toArray, List.set_cons_zero, List.set_cons_succ]
          refine wpAnyH_ready (rs := [7]) (by kernel_rfl) (by simp) ?_
          refine AllReadyH.cons (o := _) rfl (fun K hK => ?_) (AllReadyH.nil)
          go_simp
          refine hK.out _ _ trivial (fun hHeld => ?_)
          clear hK K
          try simp only [Act.put, List.setIfInBounds_toArray, List.set_cons_zero, List.set_cons_succ]
          refine wpAnyH_ready (rs := [8]) (by kernel_rfl) (by simp) ?_
          refine AllReadyH.cons (o := _) rfl (fun K hK => ?_) (AllReadyH.nil)
          refine OT.append_wp (ops := _) (base := tb + 1) (OT.alloc (HO.out.later (of_drew HB3.out)) _) (SR.lit _ [leafD s] _ rfl 1 rfl (by simp)) (by simp) rfl _ _ (by rfl) (by rfl) (by rfl) (by have := HB3.out.size; simp at this ⊢; omega) (by have := HLL.out; simp; omega) ?_
          intro v4 w4 h4 hg4
          have HC4 := Lib.hid ((HC3.out.later ((Below.refl _ _).alloc (Nat.le_refl _) _)).kept hg4 (fun e => by have := OT.base HO.out tb e.symm; omega))
          have tc4 := HC4.out.cell0
          have tf4 := HC4.out.frozen
          have HO4 := Lib.hid h4
          have HG4 := Lib.hid hg4
          obtain ⟨g4, -, A4, c4, hv4, -, -, -⟩ := OT_reads2 h4
          rw [HL4.out] at hv4
          clear h4 hg4
          subst hv4
          refine hK.out _ _ trivial (fun hHeld => ?_)
          clear hK K
          try simp only [Act.put, List.setIfInBounds_toArray, List.set_cons_zero, List.set_cons_succ]
          refine wpAnyH_take (i := 9) (oi := _) (v := ?_) rfl (by kernel_rfl) (by kernel_rfl) (by kernel_rfl) (fun _ _ _ h => h) (Or.inl ⟨by rfl, ?_⟩) (by assumption) ?_
          rotate_left
          · (intro w hSw; (try dsimp only at hSw); go_simp; (try with_reducible rfl))
          try simp only [Act.put, List.setIfInBounds_toArray, List.set_cons_zero, List.set_cons_succ]
          refine wpAnyH_take (i := 10) (oi := _) (v := ?_) rfl (by kernel_rfl) (by kernel_rfl) (by kernel_rfl) (fun _ _ _ h => h) (Or.inl ⟨by rfl, ?_⟩) (by assumption) ?_
          rotate_left
          · (intro w hSw; (try dsimp only at hSw); go_simp; (try with_reducible rfl))
          try simp only [Act.put, List.setIfInBounds_toArray, List.set_cons_zero, List.set_cons_succ]
          refine wpAnyH_ready (rs := [11]) (by kernel_rfl) (by simp) ?_
          refine AllReadyH.cons (o := _) rfl (fun K hK => ?_) (AllReadyH.nil)
          go_simp
          refine hK.out _ _ trivial (fun hHeld => ?_)
          clear hK K
          try simp only [Act.put, List.setIfInBounds_toArray, List.set_cons_zero, List.set_cons_succ]
          refine wpAnyH_done (by kernel_rfl) ?_ _
          refine NoPanic.normal ?_
          go_wp2
          have hb3 := of_drew HB3.out
          have hb4 := ((HB.out.trans (hb3.mono hbw)).alloc (Nat.le_trans hbw hb3.size) (.cells #[.string (leafD s)] 9)).grown HG4.out (by have := hb3.size; simp; omega) (fun k hk => by have := OT.base HO.out k hk; omega)
          have hm4 := (((HM.out.later hb3).alloc (.cells #[.string (leafD s)] 9)).kept HG4.out (fun e => by have := OT.base HO.out mb e.symm; omega)).kept (grown_setCell w4 ⟨tb, 0, none⟩ (.slice A4 (k + 1) c4)) (fun e => by injection e with e; simp at e; omega)
          have ho4 := World.ownsRow.kept HO4.out (grown_setCell w4 ⟨tb, 0, none⟩ (.slice A4 (k + 1) c4)) (Or.inr (fun e => by have := OT.base HO4.out tb e; omega))
          go_roundw
          case rel => exact ⟨k + 1, _, by go_num, by omega, Lib.hid (HC4.out.set _), Lib.hid hm4, Lib.hid (by rw [HSN.out]; exact ho4), Lib.hid (hb4.setCell (by simp; omega) _)⟩
          case measure => simp [intOf]; omega
        · go_simp
          refine hK.out _ _ trivial (fun hHeld => ?_)
          clear hK K
          try simp only [Act.put, List.setIfInBounds_toArray, List.set_cons_zero, List.set_cons_succ]
          refine wpAnyH_ready (rs := [4]) (by kernel_rfl) (by simp) ?_
          refine AllReadyH.cons (o := _) rfl (fun K hK => ?_) (AllReadyH.nil)
          go_simp
          refine hK.out _ _ trivial (fun hHeld => ?_)
          clear hK K
          try simp only [Act.put, List.setIfInBounds_toArray, List.set_cons_zero, List.set_cons_succ]
          refine wpAnyH_ready (rs := [8]) (by kernel_rfl) (by simp) ?_
          refine AllReadyH.cons (o := _) rfl (fun K hK => ?_) (AllReadyH.nil)
          refine OT.append_wp (ops := _) (base := tb + 1) (OT.alloc (HO.out.later (of_drew HB3.out)) _) (SR.lit _ [leafD s] _ rfl 1 rfl (by simp)) (by simp) rfl _ _ (by rfl) (by rfl) (by rfl) (by have := HB3.out.size; simp at this ⊢; omega) (by have := HLL.out; simp; omega) ?_
          intro v4 w4 h4 hg4
          have HC4 := Lib.hid ((HC3.out.later ((Below.refl _ _).alloc (Nat.le_refl _) _)).kept hg4 (fun e => by have := OT.base HO.out tb e.symm; omega))
          have tc4 := HC4.out.cell0
          have tf4 := HC4.out.frozen
          have HO4 := Lib.hid h4
          have HG4 := Lib.hid hg4
          obtain ⟨g4, -, A4, c4, hv4, -, -, -⟩ := OT_reads2 h4
          rw [HL4.out] at hv4
          clear h4 hg4
          subst hv4
          refine hK.out _ _ trivial (fun hHeld => ?_)
          clear hK K
          try simp only [Act.put, List.setIfInBounds_toArray, List.set_cons_zero, List.set_cons_succ]
          refine wpAnyH_take (i := 9) (oi := _) (v := ?_) rfl (by kernel_rfl) (by kernel_rfl) (by kernel_rfl) (fun _ _ _ h => h) (Or.inl ⟨by rfl, ?_⟩) (by assumption) ?_
          rotate_left
          · (intro w hSw; (try dsimp only at hSw); go_simp; (try with_reducible rfl))
          try simp only [Act.put, List.setIfInBounds_toArray, List.set_cons_zero, List.set_cons_succ]
          refine wpAnyH_take (i := 10) (oi := _) (v := ?_) rfl (by kernel_rfl) (by kernel_rfl) (by kernel_rfl) (fun _ _ _ h => h) (Or.inl ⟨by rfl, ?_⟩) (by assumption) ?_
          rotate_left
          · (intro w hSw; (try dsimp only at hSw); go_simp; (try with_reducible rfl))
          try simp only [Act.put, List.setIfInBounds_toArray, List.set_cons_zero, List.set_cons_succ]
          refine wpAnyH_ready (rs := [11]) (by kernel_rfl) (by simp) ?_
          refine AllReadyH.cons (o := _) rfl (fun K hK => ?_) (AllReadyH.nil)
          go_simp
          refine hK.out _ _ trivial (fun hHeld => ?_)
          clear hK K
          try simp only [Act.put, List.setIfInBounds_toArray, List.set_cons_zero, List.set_cons_succ]
          refine wpAnyH_done (by kernel_rfl) ?_ _
          refine NoPanic.normal ?_
          go_wp2
          have hb3 := of_drew HB3.out
          have hb4 := ((HB.out.trans (hb3.mono hbw)).alloc (Nat.le_trans hbw hb3.size) (.cells #[.string (leafD s)] 9)).grown HG4.out (by have := hb3.size; simp; omega) (fun k hk => by have := OT.base HO.out k hk; omega)
          have hm4 := (((HM.out.later hb3).alloc (.cells #[.string (leafD s)] 9)).kept HG4.out (fun e => by have := OT.base HO.out mb e.symm; omega)).kept (grown_setCell w4 ⟨tb, 0, none⟩ (.slice A4 (k + 1) c4)) (fun e => by injection e with e; simp at e; omega)
          have ho4 := World.ownsRow.kept HO4.out (grown_setCell w4 ⟨tb, 0, none⟩ (.slice A4 (k + 1) c4)) (Or.inr (fun e => by have := OT.base HO4.out tb e; omega))
          go_roundw
          case rel => exact ⟨k + 1, _, by go_num, by omega, Lib.hid (HC4.out.set _), Lib.hid hm4, Lib.hid (by rw [HSN.out]; exact ho4), Lib.hid (hb4.setCell (by simp; omega) _)⟩
          case measure => simp [intOf]; omega
    · obtain rfl : k = len := by omega
      have ho := HO.out
      rw [List.take_of_length_le (by rw [HLEN.out]; exact Nat.le_refl _)] at ho
      obtain ⟨g, hgb, hsr⟩ := OT_reads2 ho
      have HTR : Hid (TreeS wr tb mb g v (leaves ss) noneF) := Lib.hid ⟨HC.out, hsr, HM.out, by omega, by omega⟩
      have hll : (leaves ss).length = k := by rw [leaves_length, HLEN.out]
      have HLL := Lib.hid hll
      clear ho hsr hlt hk HO hll
      by_cases hz : k = 0
      · subst hz
        have hss0 : ss = [] := List.eq_nil_of_length_eq_zero HLEN.out
        have hmo : mapOf ss = noneF := by unfold mapOf; rw [if_pos hss0]
        have HMO := Lib.hid hmo
        clear hss0 hmo
        go_wp2
        go_ret
        exact ⟨tb, mb, g, v, rfl, by rw [HMO.out]; exact HTR, by rw [hmb]; exact HB⟩
      · have hne : ss ≠ [] := fun e => hz (by rw [← HLEN.out, e]; rfl)
        have hmo : mapOf ss = fillF (leaves ss) noneF 0 k := by unfold mapOf; rw [if_neg hne, HLEN.out]
        have HMO := Lib.hid hmo
        have HVL := Lib.hid (show (Value.agg #[.int .i64 0, .int .i64 (k : Int)]) = spV 0 k from rfl)
        have k0 : (0 : Int) < (k : Int) := by omega
        clear hne hmo
        go_wp2_with ((go_at_call 100; rw [HVL.out]; refine (fill_calls tb mb g v (leaves ss) (leaves_size ss) (by rw [HLL.out]; omega) k 0 noneF wr (by omega) (by rw [HLL.out]; omega) HTR.out (fun _ _ _ _ _ => rfl)).mono ?_; rintro e w5 ⟨rfl, HT5, HG5⟩))
        go_ret
        exact ⟨tb, mb, g, v, rfl, by rw [HMO.out]; exact HT5, by rw [hmb]; exact Lib.hid (HB.out.grown HG5.out hbw (fun k hk => by injection hk with hk; omega))⟩
theorem mapOf_root (ss : List ByteArray) (h : ss ≠ []) : mapOf ss 0 ss.length = some (treeR (leaves ss) 0 ss.length) := by
  unfold mapOf
  rw [if_neg h]
  have hp := List.length_pos_iff.2 h
  by_cases h1 : ss.length ≤ 1
  · have : ss.length = 1 := by omega
    rw [this, fillF_one, treeR_one, upd_same]
  · rw [fillF_more _ _ _ _ (by omega), upd_same]
/-- the root of blocks -/
def rootD (ss : List ByteArray) : ByteArray := if ss = [] then emptyD else treeR (leaves ss) 0 ss.length

set_option maxHeartbeats 2000000 in
set_option maxRecDepth 100000 in
theorem troot_calls (tb mb g : Nat) (v : Value) (ss : List ByteArray) (w : World) (hT : TreeS w tb mb g v (leaves ss) (mapOf ss)) :
    Calls Tryz.prog 35 #[.pointer (some ⟨tb, 0, none⟩)] w fun e w' => e = .returned (.string (rootD ss)) ∧ Hid (Below w.heap.size w w') := by
  have HT := Lib.hid hT
  have c0 := hT.cell0
  have c1 := hT.cell1
  obtain ⟨A, c, hv, hc1, hc2, -⟩ := hT.2.1
  rw [leaves_length] at hv hc1
  by_cases h : ss = []
  · have hr : rootD ss = emptyD := by unfold rootD; rw [if_pos h]
    have hl : ss.length = 0 := by rw [h]; rfl
    rw [hl] at hv
    subst hv
    rw [hr]
    clear hr hl h hT hc1
    have hc : cat [⟨#[2]⟩] = [2] := by simp [cat]
    have hll : (cat [⟨#[2]⟩]).length ≤ 1000000 := by rw [hc]; simp
    have HL := Lib.hid hll
    have HC := Lib.hid hc
    clear hc hll
    go_enter Tryz.func35, Tryz.ntmps35
    go_wp2_with ((go_at_call 67; refine (sum_calls w.heap.size _ [⟨#[2]⟩] _ (SR.lit w [⟨#[2]⟩] _ rfl 1 rfl (by simp)) HL.out).mono ?_; rintro e w1 ⟨rfl, hb1⟩; rw [HC.out]; have HB1 : Hid (Below w.heap.size w w1) := Lib.hid (Below.trans ((Below.refl _ _).alloc (Nat.le_refl _) _) (hb1.mono (by simp))); clear hb1))
    go_ret
    exact ⟨rfl, HB1⟩
  · have hr : rootD ss = treeR (leaves ss) 0 ss.length := by unfold rootD; rw [if_neg h]
    have hm := mapOf_root ss h
    have hp := List.length_pos_iff.2 h
    obtain ⟨len, hlen⟩ : ∃ len, ss.length = len := ⟨_, rfl⟩
    rw [hlen] at hv hr hm hp hc1
    subst hv
    rw [hr]
    obtain ⟨R, hR⟩ : ∃ R, treeR (leaves ss) 0 len = R := ⟨_, rfl⟩
    rw [hR] at hm ⊢
    have hlook : ∀ n, (Instr.lookup 134 (.map (some mb)) (.agg #[.int .i64 0, .int .i64 (len : Int)]) false).run Tryz.prog (w.drewN n) = .ok (.string R) (w.drewN n) := fun n => (hT.2.2.1.drewN n).look 0 len hm
    have hl0 : ((len : Int) == 0) = false := by rw [beq_eq_false_iff_ne]; omega
    have hl1 : (0 : Int) < (len : Int) := by omega
    clear hr hR hm h hT
    go_enter Tryz.func35, Tryz.ntmps35
    go_upto_region 5 with (fail)
    go_quiet (fail)
    go_wp2
    go_ret
    exact ⟨rfl, Lib.hid (below_drewN (Below.refl _ _) _)⟩
theorem root_calls (lb : Nat) (lv : Value) (ss : List ByteArray) (w : World) (hl : SR w lb lv ss) (hn : ss.length ≤ 1000000) (hss : ∀ s ∈ ss, s.size ≤ 900000) :
    Calls Tryz.prog 33 #[lv] w fun e w' => e = .returned (.string (rootD ss)) ∧ Hid (Below w.heap.size w w') := by
  go_enter Tryz.func33, Tryz.ntmps33
  go_wp2_with (first
    | (go_at_call 66; refine (new_calls lb lv ss w hl hn hss).mono ?_; rintro e w1 ⟨tb, mb, g, v, rfl, HT, HB1⟩)
    | (go_at_call 35; refine (troot_calls tb mb g v ss w1 HT.out).mono ?_; rintro e w2 ⟨rfl, HB2⟩))
  go_ret
  exact ⟨rfl, Lib.hid (HB1.out.trans (HB2.out.mono HB1.out.size))⟩
end Go.Proofs.YtjokfllldcjheaaGreatDoor.Mk
