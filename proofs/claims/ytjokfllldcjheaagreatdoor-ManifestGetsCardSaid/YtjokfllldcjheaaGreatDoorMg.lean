/- manifest: the reader, Text, Get. -/
import Derived.Test.YtjokfllldcjheaaGreatDoorMa
import Derived.Test.YtjokfllldcjheaaGreatDoorRk
namespace Go.Proofs.YtjokfllldcjheaaGreatDoor.Mn
open Go.RowKit Go.Proofs.YtjokfllldcjheaaGreatDoor.Oc Go.Proofs.YtjokfllldcjheaaGreatDoor.Ed Go.Proofs.YtjokfllldcjheaaGreatDoor.Tb Go.Proofs.YtjokfllldcjheaaGreatDoor.Sha Go.Proofs.YtjokfllldcjheaaGreatDoor.Cs Go.Proofs.YtjokfllldcjheaaGreatDoor.Mk
set_option linter.unusedVariables false
set_option linter.unusedSimpArgs false
/-- a reader, at block rb -/
def MR (w : World) (rb : Nat) (s : ByteArray) (a : Int) (e : Value) : Prop := w.heap[rb]? = some (.cells #[.string s, .int .i64 a, e] 141 (0, 0))
section
variable {w : World} {rb : Nat} {s : ByteArray} {a : Int} {e : Value}
theorem MR.lt (h : MR w rb s a e) : rb < w.heap.size := (Array.getElem?_eq_some_iff.1 h).1
theorem MR.cells (h : MR w rb s a e) : w.cell? ⟨rb, 0, none⟩ = some (.string s) ∧ w.cell? ⟨rb, 1, none⟩ = some (.int .i64 a) ∧ w.cell? ⟨rb, 2, none⟩ = some e :=
  ⟨cell_of_row w rb 0 _ _ _ h, cell_of_row w rb 1 _ _ _ h, cell_of_row w rb 2 _ _ _ h⟩
theorem MR.frozen (h : MR w rb s a e) : w.frozen? ⟨rb, 1, none⟩ = false ∧ w.frozen? ⟨rb, 2, none⟩ = false := ⟨frozen_of_row w rb 1 _ _ h, frozen_of_row w rb 2 _ _ h⟩
theorem MR.kept {w' : World} (h : MR w rb s a e) {row : Option Nat} (hg : w.grownBy w' row) (hr : some rb ≠ row) : MR w' rb s a e := (hg.block rb h.lt hr).trans h
theorem MR.set1 (h : MR w rb s a e) (a' : Int) : MR (w.setCell ⟨rb, 1, none⟩ (.int .i64 a')) rb s a' e := heap_setCell_same w rb 1 _ _ _ h
theorem MR.set2 (h : MR w rb s a e) (e' : Value) : MR (w.setCell ⟨rb, 2, none⟩ e') rb s a e' := heap_setCell_same w rb 2 _ _ _ h
end
theorem set_grown (w : World) (rb o : Nat) (v : Value) : w.grownBy (w.setCell ⟨rb, o, none⟩ v) (some rb) :=
  ⟨rfl, rfl, rfl, by simp, fun j _ hj => heap_setCell_other _ ⟨rb, o, none⟩ j _ (fun e => hj (by rw [e]))⟩
theorem grown_two {w w1 w2 : World} {r : Option Nat} (h1 : w.grownBy w1 r) (h2 : w1.grownBy w2 r) : w.grownBy w2 r :=
  ⟨h2.os.trans h1.os, h2.tape.trans h1.tape, h2.output.trans h1.output, Nat.le_trans h1.size h2.size, fun j hj hr => (h2.block j (Nat.lt_of_lt_of_le hj h1.size) hr).trans (h1.block j hj hr)⟩
set_option maxHeartbeats 4000000 in
set_option maxRecDepth 100000 in
theorem mshort_bad {w : World} {rb : Nat} {s : ByteArray} {a : Int} {t : TypeId} {x : Value} (h : MR w rb s a (.iface t x)) :
    Calls Tryz.prog 69 #[.pointer (some ⟨rb, 0, none⟩)] w fun r w' => r = .returned (.int .i64 0) ∧ w = w' := by
  obtain ⟨c0, c1, c2⟩ := h.cells
  clear h
  go_enter Tryz.func69, Tryz.ntmps69
  go_wp2
  go_ret
  exact ⟨rfl, rfl⟩
set_option maxHeartbeats 4000000 in
set_option maxRecDepth 100000 in
theorem mshort_go {w : World} {rb : Nat} {s : ByteArray} {a : Int} (h : MR w rb s a .nilIface) (xv av : Int) (ev : Value) (hev : ev = .nilIface ∨ ∃ t v, ev = .iface t v)
    (hs : ∀ W, Calls Tryz.prog 86 #[.string s, .int .i64 a] W fun r w' => r = .returned (.tuple #[.int .i64 xv, .int .i64 av, ev]) ∧ W = w') :
    Calls Tryz.prog 69 #[.pointer (some ⟨rb, 0, none⟩)] w fun r w' => r = .returned (.int .i64 xv) ∧ Hid (MR w' rb s av ev) ∧ Hid (w.grownBy w' (some rb)) := by
  have HM := Lib.hid h
  have HS := Lib.hid hs
  obtain ⟨c0, c1, c2⟩ := h.cells
  clear h hs
  go_enter Tryz.func69, Tryz.ntmps69
  go_upto_region 4 with (fail)
  have HD : Hid (MR w.drew rb s a .nilIface) := Lib.hid HM.out
  have HG : Hid (w.grownBy w.drew (some rb)) := Lib.hid ⟨rfl, rfl, rfl, Nat.le_refl _, fun _ _ _ => rfl⟩
  obtain ⟨d0, d1, d2⟩ := HD.out.cells
  obtain ⟨f1, f2⟩ := HD.out.frozen
  have HN : Hid (MR (w.setCell ⟨rb, 1, none⟩ (.int .i64 av)).drew rb s av .nilIface) := Lib.hid (HM.out.set1 av)
  obtain ⟨-, -, k2⟩ := HN.out.cells
  obtain ⟨-, m2⟩ := HN.out.frozen
  clear c0 c1 c2
  rcases hev with rfl | ⟨et, ex, rfl⟩
  all_goals
    refine wp_region_noPanic ?_
    refine wp_region_held_drew (S := fun _ => True) (by kernel_rfl) trivial (fun hHeld => ?_)
    refine wpAnyH_take (i := 0) (oi := _) (v := ?_) rfl (by kernel_rfl) (by kernel_rfl) (by kernel_rfl) (fun _ _ _ h => h) (Or.inl ⟨by rfl, ?_⟩) (by assumption) ?_
    rotate_left
    · (intro w hSw; (try dsimp only at hSw); go_simp; (try with_reducible rfl))
    try simp only [Act.put, List.setIfInBounds_toArray, List.set_cons_zero, List.set_cons_succ]
    refine wpAnyH_take (i := 1) (oi := _) (v := ?_) rfl (by kernel_rfl) (by kernel_rfl) (by kernel_rfl) (fun _ _ _ h => h) (Or.inl ⟨by rfl, ?_⟩) (by assumption) ?_
    rotate_left
    · (intro w hSw; (try dsimp only at hSw); go_simp; (try with_reducible rfl))
    try simp only [Act.put, List.setIfInBounds_toArray, List.set_cons_zero, List.set_cons_succ]
    refine wpAnyH_take (i := 2) (oi := _) (v := ?_) rfl (by kernel_rfl) (by kernel_rfl) (by kernel_rfl) (fun _ _ _ h => h) (Or.inl ⟨by rfl, ?_⟩) (by assumption) ?_
    rotate_left
    · (intro w hSw; (try dsimp only at hSw); go_simp; (try with_reducible rfl))
    try simp only [Act.put, List.setIfInBounds_toArray, List.set_cons_zero, List.set_cons_succ]
    refine wpAnyH_take (i := 3) (oi := _) (v := ?_) rfl (by kernel_rfl) (by kernel_rfl) (by kernel_rfl) (fun _ _ _ h => h) (Or.inl ⟨by rfl, ?_⟩) (by assumption) ?_
    rotate_left
    · (intro w hSw; (try dsimp only at hSw); go_simp; (try with_reducible rfl))
    try simp only [Act.put, List.setIfInBounds_toArray, List.set_cons_zero, List.set_cons_succ]
    refine wpAnyH_take (i := 4) (oi := _) (v := ?_) rfl (by kernel_rfl) (by kernel_rfl) (by kernel_rfl) (fun _ _ _ h => h) (Or.inl ⟨by rfl, ?_⟩) (by assumption) ?_
    rotate_left
    · (intro w hSw; (try dsimp only at hSw); go_simp; (try with_reducible rfl))
    try simp only [Act.put, List.setIfInBounds_toArray, List.set_cons_zero, List.set_cons_succ]
    refine wpAnyH_take (i := 6) (oi := _) (v := ?_) rfl (by kernel_rfl) (by kernel_rfl) (by kernel_rfl) (fun _ _ _ h => h) (Or.inl ⟨by rfl, ?_⟩) (by assumption) ?_
    rotate_left
    · (intro w hSw; (try dsimp only at hSw); go_simp; (try with_reducible rfl))
    try simp only [Act.put, List.setIfInBounds_toArray, List.set_cons_zero, List.set_cons_succ]
    refine wpAnyH_take (i := 7) (oi := _) (v := ?_) rfl (by kernel_rfl) (by kernel_rfl) (by kernel_rfl) (fun _ _ _ h => h) (Or.inl ⟨by rfl, ?_⟩) (by assumption) ?_
    rotate_left
    · (intro w hSw; (try dsimp only at hSw); go_simp; (try with_reducible rfl))
    try simp only [Act.put, List.setIfInBounds_toArray, List.set_cons_zero, List.set_cons_succ]
    refine wpAnyH_take (i := 8) (oi := _) (v := ?_) rfl (by kernel_rfl) (by kernel_rfl) (by kernel_rfl) (fun _ _ _ h => h) (Or.inl ⟨by rfl, ?_⟩) (by assumption) ?_
    rotate_left
    · (intro w hSw; (try dsimp only at hSw); go_simp; (try with_reducible rfl))
    try simp only [Act.put, List.setIfInBounds_toArray, List.set_cons_zero, List.set_cons_succ]
    refine wpAnyH_ready (rs := [5, 9]) (by kernel_rfl) (by simp) ?_
    refine AllReadyH.cons (o := _) rfl (fun K hK => ?_) (AllReadyH.cons (o := _) rfl (fun K hK => ?_) (AllReadyH.nil))
    · go_simp
      refine hK.out _ _ trivial (fun hHeld => ?_)
      clear hK K
      try simp only [Act.put, List.setIfInBounds_toArray, List.set_cons_zero, List.set_cons_succ]
      refine wpAnyH_ready (rs := [9]) (by kernel_rfl) (by simp) ?_
      refine AllReadyH.cons (o := _) rfl (fun K hK => ?_) (AllReadyH.nil)
      go_simp
      refine hK.out _ _ trivial (fun hHeld => ?_)
      clear hK K
      try simp only [Act.put, List.setIfInBounds_toArray, List.set_cons_zero, List.set_cons_succ]
      refine wpAnyH_ready (rs := [10]) (by kernel_rfl) (by simp) ?_
      refine AllReadyH.cons (o := _) rfl (fun K hK => ?_) (AllReadyH.nil)
      (go_simp)
      go_at_call 86
      refine (HS.out _).mono ?_
      rintro r wn ⟨rfl, rfl⟩
      dsimp only
      refine hK.out _ _ trivial (fun hHeld => ?_)
      clear hK K
      try simp only [Act.put, List.setIfInBounds_toArray, List.set_cons_zero, List.set_cons_succ]
      refine wpAnyH_take (i := 11) (oi := _) (v := ?_) rfl (by kernel_rfl) (by kernel_rfl) (by kernel_rfl) (fun _ _ _ h => h) (Or.inl ⟨by rfl, ?_⟩) (by assumption) ?_
      rotate_left
      · (intro w hSw; (try dsimp only at hSw); go_simp; (try with_reducible rfl))
      try simp only [Act.put, List.setIfInBounds_toArray, List.set_cons_zero, List.set_cons_succ]
      refine wpAnyH_take (i := 12) (oi := _) (v := ?_) rfl (by kernel_rfl) (by kernel_rfl) (by kernel_rfl) (fun _ _ _ h => h) (Or.inl ⟨by rfl, ?_⟩) (by assumption) ?_
      rotate_left
      · (intro w hSw; (try dsimp only at hSw); go_simp; (try with_reducible rfl))
      try simp only [Act.put, List.setIfInBounds_toArray, List.set_cons_zero, List.set_cons_succ]
      refine wpAnyH_take (i := 13) (oi := _) (v := ?_) rfl (by kernel_rfl) (by kernel_rfl) (by kernel_rfl) (fun _ _ _ h => h) (Or.inl ⟨by rfl, ?_⟩) (by assumption) ?_
      rotate_left
      · (intro w hSw; (try dsimp only at hSw); go_simp; (try with_reducible rfl))
      try simp only [Act.put, List.setIfInBounds_toArray, List.set_cons_zero, List.set_cons_succ]
      refine wpAnyH_take (i := 14) (oi := _) (v := ?_) rfl (by kernel_rfl) (by kernel_rfl) (by kernel_rfl) (fun _ _ _ h => h) (Or.inl ⟨by rfl, ?_⟩) (by assumption) ?_
      rotate_left
      · (intro w hSw; (try dsimp only at hSw); go_simp; (try with_reducible rfl))
      try simp only [Act.put, List.setIfInBounds_toArray, List.set_cons_zero, List.set_cons_succ]
      refine wpAnyH_take (i := 15) (oi := _) (v := ?_) rfl (by kernel_rfl) (by kernel_rfl) (by kernel_rfl) (fun _ _ _ h => h) (Or.inl ⟨by rfl, ?_⟩) (by assumption) ?_
      rotate_left
      · (intro w hSw; (try dsimp only at hSw); go_simp; (try with_reducible rfl))
      try simp only [Act.put, List.setIfInBounds_toArray, List.set_cons_zero, List.set_cons_succ]
      refine wpAnyH_take (i := 16) (oi := _) (v := ?_) rfl (by kernel_rfl) (by kernel_rfl) (by kernel_rfl) (fun _ _ _ h => h) (Or.inl ⟨by rfl, ?_⟩) (by assumption) ?_
      rotate_left
      · (intro w hSw; (try dsimp only at hSw); go_simp; (try with_reducible rfl))
      try simp only [Act.put, List.setIfInBounds_toArray, List.set_cons_zero, List.set_cons_succ]
      refine wpAnyH_take (i := 17) (oi := _) (v := ?_) rfl (by kernel_rfl) (by kernel_rfl) (by kernel_rfl) (fun _ _ _ h => h) (Or.inl ⟨by rfl, ?_⟩) (by assumption) ?_
      rotate_left
      · (intro w hSw; (try dsimp only at hSw); go_simp; (try with_reducible rfl))
      try simp only [Act.put, List.setIfInBounds_toArray, List.set_cons_zero, List.set_cons_succ]
      refine wpAnyH_ready (rs := [18]) (by kernel_rfl) (by simp) ?_
      refine AllReadyH.cons (o := _) rfl (fun K hK => ?_) (AllReadyH.nil)
      go_simp
      refine hK.out _ _ trivial (fun hHeld => ?_)
      clear hK K
      try simp only [Act.put, List.setIfInBounds_toArray, List.set_cons_zero, List.set_cons_succ]
      refine wpAnyH_take (i := 19) (oi := _) (v := ?_) rfl (by kernel_rfl) (by kernel_rfl) (by kernel_rfl) (fun _ _ _ h => h) (Or.inl ⟨by rfl, ?_⟩) (by assumption) ?_
      rotate_left
      · (intro w hSw; (try dsimp only at hSw); go_simp; (try with_reducible rfl))
      try simp only [Act.put, List.setIfInBounds_toArray, List.set_cons_zero, List.set_cons_succ]
      refine wpAnyH_take (i := 20) (oi := _) (v := ?_) rfl (by kernel_rfl) (by kernel_rfl) (by kernel_rfl) (fun _ _ _ h => h) (Or.inl ⟨by rfl, ?_⟩) (by assumption) ?_
      rotate_left
      · (intro w hSw; (try dsimp only at hSw); go_simp; (try with_reducible rfl))
      try simp only [Act.put, List.setIfInBounds_toArray, List.set_cons_zero, List.set_cons_succ]
      refine wpAnyH_ready (rs := [21]) (by kernel_rfl) (by simp) ?_
      refine AllReadyH.cons (o := _) rfl (fun K hK => ?_) (AllReadyH.nil)
      go_simp
      refine hK.out _ _ trivial (fun hHeld => ?_)
      clear hK K
      try simp only [Act.put, List.setIfInBounds_toArray, List.set_cons_zero, List.set_cons_succ]
      refine wpAnyH_done (by kernel_rfl) ?_ _
      refine NoPanic.normal ?_
      go_wp2
      go_ret
      exact ⟨rfl, Lib.hid ((HD.out.set1 av).set2 _), Lib.hid (grown_two HG.out (grown_two (set_grown _ _ _ _) (set_grown _ _ _ _)))⟩
    · go_simp
      refine hK.out _ _ trivial (fun hHeld => ?_)
      clear hK K
      try simp only [Act.put, List.setIfInBounds_toArray, List.set_cons_zero, List.set_cons_succ]
      refine wpAnyH_ready (rs := [5]) (by kernel_rfl) (by simp) ?_
      refine AllReadyH.cons (o := _) rfl (fun K hK => ?_) (AllReadyH.nil)
      go_simp
      refine hK.out _ _ trivial (fun hHeld => ?_)
      clear hK K
      try simp only [Act.put, List.setIfInBounds_toArray, List.set_cons_zero, List.set_cons_succ]
      refine wpAnyH_ready (rs := [10]) (by kernel_rfl) (by simp) ?_
      refine AllReadyH.cons (o := _) rfl (fun K hK => ?_) (AllReadyH.nil)
      (go_simp)
      go_at_call 86
      refine (HS.out _).mono ?_
      rintro r wn ⟨rfl, rfl⟩
      dsimp only
      refine hK.out _ _ trivial (fun hHeld => ?_)
      clear hK K
      try simp only [Act.put, List.setIfInBounds_toArray, List.set_cons_zero, List.set_cons_succ]
      refine wpAnyH_take (i := 11) (oi := _) (v := ?_) rfl (by kernel_rfl) (by kernel_rfl) (by kernel_rfl) (fun _ _ _ h => h) (Or.inl ⟨by rfl, ?_⟩) (by assumption) ?_
      rotate_left
      · (intro w hSw; (try dsimp only at hSw); go_simp; (try with_reducible rfl))
      try simp only [Act.put, List.setIfInBounds_toArray, List.set_cons_zero, List.set_cons_succ]
      refine wpAnyH_take (i := 12) (oi := _) (v := ?_) rfl (by kernel_rfl) (by kernel_rfl) (by kernel_rfl) (fun _ _ _ h => h) (Or.inl ⟨by rfl, ?_⟩) (by assumption) ?_
      rotate_left
      · (intro w hSw; (try dsimp only at hSw); go_simp; (try with_reducible rfl))
      try simp only [Act.put, List.setIfInBounds_toArray, List.set_cons_zero, List.set_cons_succ]
      refine wpAnyH_take (i := 13) (oi := _) (v := ?_) rfl (by kernel_rfl) (by kernel_rfl) (by kernel_rfl) (fun _ _ _ h => h) (Or.inl ⟨by rfl, ?_⟩) (by assumption) ?_
      rotate_left
      · (intro w hSw; (try dsimp only at hSw); go_simp; (try with_reducible rfl))
      try simp only [Act.put, List.setIfInBounds_toArray, List.set_cons_zero, List.set_cons_succ]
      refine wpAnyH_take (i := 14) (oi := _) (v := ?_) rfl (by kernel_rfl) (by kernel_rfl) (by kernel_rfl) (fun _ _ _ h => h) (Or.inl ⟨by rfl, ?_⟩) (by assumption) ?_
      rotate_left
      · (intro w hSw; (try dsimp only at hSw); go_simp; (try with_reducible rfl))
      try simp only [Act.put, List.setIfInBounds_toArray, List.set_cons_zero, List.set_cons_succ]
      refine wpAnyH_take (i := 15) (oi := _) (v := ?_) rfl (by kernel_rfl) (by kernel_rfl) (by kernel_rfl) (fun _ _ _ h => h) (Or.inl ⟨by rfl, ?_⟩) (by assumption) ?_
      rotate_left
      · (intro w hSw; (try dsimp only at hSw); go_simp; (try with_reducible rfl))
      try simp only [Act.put, List.setIfInBounds_toArray, List.set_cons_zero, List.set_cons_succ]
      refine wpAnyH_take (i := 16) (oi := _) (v := ?_) rfl (by kernel_rfl) (by kernel_rfl) (by kernel_rfl) (fun _ _ _ h => h) (Or.inl ⟨by rfl, ?_⟩) (by assumption) ?_
      rotate_left
      · (intro w hSw; (try dsimp only at hSw); go_simp; (try with_reducible rfl))
      try simp only [Act.put, List.setIfInBounds_toArray, List.set_cons_zero, List.set_cons_succ]
      refine wpAnyH_take (i := 17) (oi := _) (v := ?_) rfl (by kernel_rfl) (by kernel_rfl) (by kernel_rfl) (fun _ _ _ h => h) (Or.inl ⟨by rfl, ?_⟩) (by assumption) ?_
      rotate_left
      · (intro w hSw; (try dsimp only at hSw); go_simp; (try with_reducible rfl))
      try simp only [Act.put, List.setIfInBounds_toArray, List.set_cons_zero, List.set_cons_succ]
      refine wpAnyH_ready (rs := [18]) (by kernel_rfl) (by simp) ?_
      refine AllReadyH.cons (o := _) rfl (fun K hK => ?_) (AllReadyH.nil)
      go_simp
      refine hK.out _ _ trivial (fun hHeld => ?_)
      clear hK K
      try simp only [Act.put, List.setIfInBounds_toArray, List.set_cons_zero, List.set_cons_succ]
      refine wpAnyH_take (i := 19) (oi := _) (v := ?_) rfl (by kernel_rfl) (by kernel_rfl) (by kernel_rfl) (fun _ _ _ h => h) (Or.inl ⟨by rfl, ?_⟩) (by assumption) ?_
      rotate_left
      · (intro w hSw; (try dsimp only at hSw); go_simp; (try with_reducible rfl))
      try simp only [Act.put, List.setIfInBounds_toArray, List.set_cons_zero, List.set_cons_succ]
      refine wpAnyH_take (i := 20) (oi := _) (v := ?_) rfl (by kernel_rfl) (by kernel_rfl) (by kernel_rfl) (fun _ _ _ h => h) (Or.inl ⟨by rfl, ?_⟩) (by assumption) ?_
      rotate_left
      · (intro w hSw; (try dsimp only at hSw); go_simp; (try with_reducible rfl))
      try simp only [Act.put, List.setIfInBounds_toArray, List.set_cons_zero, List.set_cons_succ]
      refine wpAnyH_ready (rs := [21]) (by kernel_rfl) (by simp) ?_
      refine AllReadyH.cons (o := _) rfl (fun K hK => ?_) (AllReadyH.nil)
      go_simp
      refine hK.out _ _ trivial (fun hHeld => ?_)
      clear hK K
      try simp only [Act.put, List.setIfInBounds_toArray, List.set_cons_zero, List.set_cons_succ]
      refine wpAnyH_done (by kernel_rfl) ?_ _
      refine NoPanic.normal ?_
      go_wp2
      go_ret
      exact ⟨rfl, Lib.hid ((HD.out.set1 av).set2 _), Lib.hid (grown_two HG.out (grown_two (set_grown _ _ _ _) (set_grown _ _ _ _)))⟩
/-- what a reader has read: the bytes P, or an error -/
def RS (s : ByteArray) (P : List UInt8) (a : Int) (e : Value) : Prop :=
  (e = .nilIface ∧ ∃ n : Nat, a = (n : Int) ∧ n ≤ s.size ∧ s.data.toList.take n = P) ∨ (∃ p k : Nat, e = faultV (p : Int) (k : Int) ∧ (k = 3 ∨ k = 4))
theorem RS.shape {s : ByteArray} {P : List UInt8} {a : Int} {e : Value} (h : RS s P a e) : e = .nilIface ∨ ∃ t v, e = .iface t v := by
  rcases h with ⟨rfl, -⟩ | ⟨p, k, rfl, -⟩
  · exact .inl rfl
  · exact .inr ⟨_, _, rfl⟩
theorem grown_self (w : World) (r : Option Nat) : w.grownBy w r := ⟨rfl, rfl, rfl, Nat.le_refl _, fun _ _ _ => rfl⟩
theorem mshort_any {w : World} {rb : Nat} {s : ByteArray} {a : Int} {e : Value} {P : List UInt8} (h : MR w rb s a e) (hr : RS s P a e) (hs : s.size ≤ 140737488355328) :
    Calls Tryz.prog 69 #[.pointer (some ⟨rb, 0, none⟩)] w fun r w' => ∃ (x : Nat) (a' : Int) (e' : Value), r = .returned (.int .i64 (x : Int)) ∧ x < 72057594037927936 ∧ Hid (MR w' rb s a' e') ∧ Hid (RS s (P ++ shB x) a' e') ∧ Hid (w.grownBy w' (some rb)) ∧ Hid (e' = .nilIface ∨ x = 0) := by
  rcases hr with ⟨rfl, n, rfl, hn, hp⟩ | ⟨p, k, rfl, hk⟩
  · have hS := fun W => Short_calls s n hn hs W
    cases hR : rdAt s.data.toList n with
    | error b =>
      rw [hR] at hS
      have hb := rdAt_bad hR
      exact (mshort_go h 0 n (faultV (b.2 : Int) (b.1 : Int)) (.inr ⟨_, _, rfl⟩) hS).mono fun r w' ⟨h1, h2, h3⟩ => ⟨0, _, _, h1, by omega, h2, Lib.hid (.inr ⟨b.2, b.1, rfl, hb⟩), h3, Lib.hid (.inr rfl)⟩
    | ok q =>
      rw [hR] at hS
      have hl := rdAt_len hR
      have hi := rdAt_inv hR (by rw [list_sz0]; exact hn)
      rw [list_sz0] at hl
      exact (mshort_go h q.1 q.2 .nilIface (.inl rfl) hS).mono fun r w' ⟨h1, h2, h3⟩ => ⟨q.1, _, _, h1, by simpa using hl.2.2, h2, Lib.hid (.inl ⟨rfl, q.2, rfl, hl.2.1, by rw [hi, hp]⟩), h3, Lib.hid (.inl rfl)⟩
  · exact (mshort_bad h).mono fun r w' ⟨h1, h2⟩ => by
      subst h2
      exact ⟨0, a, _, h1, by omega, Lib.hid h, Lib.hid (.inr ⟨p, k, rfl, hk⟩), Lib.hid (grown_self _ _), Lib.hid (.inr rfl)⟩
abbrev zeroM : Array Value := #[.int .i64 0, .int .i64 0, .int .i64 0, .slice none 0 0, .int .i64 0, .string ⟨#[]⟩]
/-- while a manifest is read: the result's box, the reader, the manifest's box, its table -/
structure GS (w0 w : World) (qb rb mb : Nat) (s : ByteArray) (P : List UInt8) (i0 i1 i2 i4 : Int) (rt : ByteArray) (tb rv : Value) (l : List E2) : Prop where
  rd : ∃ a e, MR w rb s a e ∧ RS s P a e
  bx : w.heap[mb]? = some (.cells #[.int .i64 i0, .int .i64 i1, .int .i64 i2, tb, .int .i64 i4, .string rt] 73 (0, 0))
  res : w.heap[qb]? = some (.cells zeroM 73 (0, 0))
  row : TBO w (mb + 1) rv l
  lt : qb < rb ∧ rb < mb
  base : w0.heap.size ≤ qb
  bel : Below w0.heap.size w0 w
section
variable {w0 w : World} {qb rb mb : Nat} {s : ByteArray} {P : List UInt8} {i0 i1 i2 i4 : Int} {rt : ByteArray} {tb rv : Value} {l : List E2}
theorem GS.mlt (h : GS w0 w qb rb mb s P i0 i1 i2 i4 rt tb rv l) : mb < w.heap.size := (Array.getElem?_eq_some_iff.1 h.bx).1
theorem GS.bsize (h : GS w0 w qb rb mb s P i0 i1 i2 i4 rt tb rv l) : w0.heap.size ≤ w.heap.size := h.bel.size
theorem GS.own (h : GS w0 w qb rb mb s P i0 i1 i2 i4 rt tb rv l) (k : Nat) (hk : k ≤ mb) : rv.ownBlock ≠ some k := fun e => by have := TBO.base h.row k e; omega
theorem GS.read {w' : World} {P' : List UInt8} {a' : Int} {e' : Value} (h : GS w0 w qb rb mb s P i0 i1 i2 i4 rt tb rv l) (hm : MR w' rb s a' e') (hr : RS s P' a' e') (hg : w.grownBy w' (some rb)) : GS w0 w' qb rb mb s P' i0 i1 i2 i4 rt tb rv l :=
  ⟨⟨a', e', hm, hr⟩, (hg.block mb h.mlt (by have := h.lt; intro e; injection e; omega)).trans h.bx, (hg.block qb (by have := h.lt; have := h.mlt; omega) (by have := h.lt; intro e; injection e; omega)).trans h.res,
    h.row.kept hg (.inr (h.own rb (by have := h.lt; omega))), h.lt, h.base, h.bel.grown hg h.bsize (fun k e => by injection e with e; have := h.base; have := h.lt; omega)⟩
theorem GS.alloc (h : GS w0 w qb rb mb s P i0 i1 i2 i4 rt tb rv l) (o : Obj) : GS w0 (w.alloc o) qb rb mb s P i0 i1 i2 i4 rt tb rv l := by
  obtain ⟨a, e, h1, h2⟩ := h.rd
  have hm := h.mlt
  have hl := h.lt
  have keep : ∀ k x, k < w.heap.size → w.heap[k]? = some x → (w.alloc o).heap[k]? = some x := fun k x hk hx => (heap_alloc_old w o hk).trans hx
  exact ⟨⟨a, e, keep rb _ (by omega) h1, h2⟩, keep mb _ hm h.bx, keep qb _ (by omega) h.res, h.row.alloc o, hl, h.base, h.bel.alloc h.bsize o⟩
theorem GS.later {w' : World} (h : GS w0 w qb rb mb s P i0 i1 i2 i4 rt tb rv l) (hb : Below w.heap.size w w') : GS w0 w' qb rb mb s P i0 i1 i2 i4 rt tb rv l := by
  obtain ⟨a, e, h1, h2⟩ := h.rd
  have hm := h.mlt
  have hl := h.lt
  exact ⟨⟨a, e, (hb.block rb (by omega)).trans h1, h2⟩, (hb.block mb hm).trans h.bx, (hb.block qb (by omega)).trans h.res, h.row.later hb, hl, h.base, h.bel.trans (hb.mono h.bsize)⟩
theorem GS.push {w' : World} {v' : Value} {l' : List E2} (h : GS w0 w qb rb mb s P i0 i1 i2 i4 rt tb rv l) (hr : TBO w' (mb + 1) v' l') (hg : w.grownBy w' rv.ownBlock) : GS w0 w' qb rb mb s P i0 i1 i2 i4 rt tb v' l' := by
  obtain ⟨a, e, h1, h2⟩ := h.rd
  have hm := h.mlt
  have hl := h.lt
  have keep : ∀ k, k ≤ mb → w'.heap[k]? = w.heap[k]? := fun k hk => hg.block k (by omega) (fun e => h.own k hk e.symm)
  exact ⟨⟨a, e, (keep rb (by omega)).trans h1, h2⟩, (keep mb (by omega)).trans h.bx, (keep qb (by omega)).trans h.res, hr, hl, h.base, h.bel.grown hg h.bsize (fun k e => by have := TBO.base h.row k e; have := h.base; omega)⟩
theorem GS.cells (h : GS w0 w qb rb mb s P i0 i1 i2 i4 rt tb rv l) : w.cell? ⟨mb, 0, none⟩ = some (.int .i64 i0) ∧ w.cell? ⟨mb, 1, none⟩ = some (.int .i64 i1) ∧ w.cell? ⟨mb, 2, none⟩ = some (.int .i64 i2) ∧ w.cell? ⟨mb, 3, none⟩ = some tb ∧ w.cell? ⟨mb, 4, none⟩ = some (.int .i64 i4) ∧ w.cell? ⟨mb, 5, none⟩ = some (.string rt) :=
  ⟨cell_of_row w mb 0 _ _ _ h.bx, cell_of_row w mb 1 _ _ _ h.bx, cell_of_row w mb 2 _ _ _ h.bx, cell_of_row w mb 3 _ _ _ h.bx, cell_of_row w mb 4 _ _ _ h.bx, cell_of_row w mb 5 _ _ _ h.bx⟩
theorem GS.frozen (h : GS w0 w qb rb mb s P i0 i1 i2 i4 rt tb rv l) (k : Nat) : w.frozen? ⟨mb, k, none⟩ = false := frozen_of_row w mb k _ _ h.bx
theorem GS.setm {i0' i1' i2' i4' : Int} {rt' : ByteArray} {tb' : Value} (h : GS w0 w qb rb mb s P i0 i1 i2 i4 rt tb rv l) (k : Nat) (v : Value) (hv : #[.int .i64 i0, .int .i64 i1, .int .i64 i2, tb, .int .i64 i4, .string rt].setIfInBounds k v = #[.int .i64 i0', .int .i64 i1', .int .i64 i2', tb', .int .i64 i4', .string rt']) : GS w0 (w.setCell ⟨mb, k, none⟩ v) qb rb mb s P i0' i1' i2' i4' rt' tb' rv l := by
  obtain ⟨a, e, h1, h2⟩ := h.rd
  have hl := h.lt
  have hb := heap_setCell_same w mb k _ _ v h.bx
  rw [hv] at hb
  have keep : ∀ j, j ≠ mb → (w.setCell ⟨mb, k, none⟩ v).heap[j]? = w.heap[j]? := fun j hj => heap_setCell_other w ⟨mb, k, none⟩ j v hj
  exact ⟨⟨a, e, (keep rb (by omega)).trans h1, h2⟩, hb, (keep qb (by omega)).trans h.res, h.row.kept (set_grown w mb k v) (.inr (h.own mb (Nat.le_refl _))), hl, h.base, h.bel.setCell (by have := h.base; show w0.heap.size ≤ mb; omega) v⟩
theorem short_gs (h : GS w0 w qb rb mb s P i0 i1 i2 i4 rt tb rv l) (hs : s.size ≤ 140737488355328) :
    Calls Tryz.prog 69 #[.pointer (some ⟨rb, 0, none⟩)] w fun r w' => ∃ x : Nat, r = .returned (.int .i64 (x : Int)) ∧ x < 72057594037927936 ∧ Hid (GS w0 w' qb rb mb s (P ++ shB x) i0 i1 i2 i4 rt tb rv l) ∧ Hid (∀ a e, MR w' rb s a e → e = .nilIface ∨ x = 0) ∧ Hid (w.grownBy w' (some rb)) := by
  obtain ⟨a, e, h1, h2⟩ := h.rd
  refine (mshort_any h1 h2 hs).mono fun r w' ⟨x, a', e', q1, q2, q3, q4, q5, q6⟩ => ⟨x, q1, q2, Lib.hid (h.read q3.out q4.out q5.out), Lib.hid (fun a2 e2 hm => ?_), q5⟩
  have hh := q3.out
  unfold MR at hh hm
  rw [hh] at hm
  injection hm with hm
  injection hm with hm
  have : a' = a2 ∧ e' = e2 := by simpa using hm
  rw [← this.2]
  exact q6.out
end
end Go.Proofs.YtjokfllldcjheaaGreatDoor.Mn
