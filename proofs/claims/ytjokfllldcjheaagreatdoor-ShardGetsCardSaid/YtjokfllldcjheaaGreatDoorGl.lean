/- ShardGets, walked. -/
import Derived.Test.YtjokfllldcjheaaGreatDoorGm
import Derived.Test.YtjokfllldcjheaaGreatDoorSz
import Derived.OrdersHeld
namespace Go.Proofs.YtjokfllldcjheaaGreatDoor.Oc
open Go.RowKit Go.Proofs.YtjokfllldcjheaaGreatDoor.Sha Go.Proofs.YtjokfllldcjheaaGreatDoor.Ro Go.Proofs.YtjokfllldcjheaaGreatDoor.Cs Go.Proofs.YtjokfllldcjheaaGreatDoor.Ed
set_option linter.unusedVariables false
set_option linter.unusedSimpArgs false
set_option maxHeartbeats 8000000 in
set_option maxRecDepth 100000 in
/-- bytes of no shard: what Find and Degree answer is told by (tA, tn, tc, fv) and (d, gv) -/
theorem gets_err (s : ByteArray) (N : Nat) (v : Int) (w : World) (hG : Er.G0 w) (hs : s.size ≤ 300) (hN : N ≤ 4096) (b : Bad) (hR : rdShard s.data.toList N = .error b) (hb : ¬ ((b.1 : Nat) : Int) = 0) (fv gv : Value) (tn : Nat) (d : Int)
    (hF : ∀ W, Calls Tryz.prog 21 #[.string s, .int .i64 (N : Int), .int .i64 v] W fun e w' => ∃ A c, e = .returned (.tuple #[.slice A tn c, fv]) ∧ Hid (Below W.heap.size W w'))
    (hD : ∀ W, Calls Tryz.prog 22 #[.string s, .int .i64 (N : Int), .int .i64 v] W fun e w' => e = .returned (.tuple #[.int .i64 d, gv]) ∧ Hid (Below W.heap.size W w'))
    (hg : (∃ ft fx, fv = .iface ft fx ∧ tn = 0 ∧ ((∃ gt gx, gv = .iface gt gx ∧ d = 0) ∨ gv = .nilIface)) ∨ (fv = .nilIface ∧ gv = .nilIface ∧ d = (tn : Int))) :
    Calls Tryz.prog 5 #[.string s, .int .i64 (N : Int), .int .i64 v] w fun e w' => e = .returned (.bool true) ∧ Hid (Below w.heap.size w w') := by
  have HCF : Hid (∀ (a k : Int) (W : World), Below w.heap.size w W → Calls Tryz.prog 12 #[faultV a k] W fun r w' => r = .returned (.int .i64 k) ∧ Hid (Below W.heap.size W w')) := Lib.hid (fun a k W h => Er.code_calls (.at a (.no k)) W (g0_on hG h))
  have HPF : Hid (∀ (a k : Int) (W : World), Below w.heap.size w W → Calls Tryz.prog 18 #[faultV a k] W fun r w' => r = .returned (.int .i64 a) ∧ Hid (Below W.heap.size W w')) := Lib.hid (fun a k W h => Er.place_calls (.at a (.no k)) W (g0_on hG h))
  obtain ⟨k1, k2⟩ := b
  simp only at hb
  have HGE : Hid (∀ W, Calls Tryz.prog 20 #[.string s, .int .i64 (N : Int)] W fun e w' => e = .returned (.tuple #[.agg #[.int .i64 0, .slice none 0 0], faultV (k2 : Int) (k1 : Int)]) ∧ Hid (Below W.heap.size W w')) := Lib.hid (fun W => (get_calls s N (by omega) hN W).mono fun e w' h => by have h1 := h.1.out; rw [hR] at h1; exact ⟨h1, h.2⟩)
  have HRG : Hid (∀ W, Calls Tryz.prog 25 #[.string s, .int .i64 (N : Int)] W fun e w' => e = .returned (.agg #[.int .i64 0, .slice none 0 0, .int .i64 (k1 : Int), .int .i64 (k2 : Int)]) ∧ Hid (Below W.heap.size W w')) := Lib.hid (fun W => (rget7_calls s N (by omega) hN W).mono fun e w' h => by have h1 := h.1.out; rw [hR] at h1; exact ⟨h1, h.2⟩)
  have HF := Lib.hid hF
  have HD := Lib.hid hD
  have HGV := Lib.hid hg
  have n0 : ¬ (N : Int) < 0 := by omega
  have n1 : ¬ (N : Int) > 4096 := by omega
  have n2 : ¬ (s.size : Int) > 300 := by omega
  have b9 : (((k1 : Nat) : Int) != ((k1 : Nat) : Int)) = false := by simp
  have b8 : (((k2 : Nat) : Int) != ((k2 : Nat) : Int)) = false := by simp
  have b7 : (((k1 : Nat) : Int) != 0) = true := by rw [bne_iff_ne]; exact hb
  have b6 : (((k1 : Nat) : Int) == 0) = false := by rw [beq_eq_false_iff_ne]; exact hb
  clear hF hD hg hR hG
  go_enter Tryz.func5, Tryz.ntmps5
  go_upto_region 6 with (first
    | (go_at_call 9; refine (sawake_calls _).mono ?_; rintro e w1 ⟨rfl, HB1⟩)
    | (go_at_call 20; refine (HGE.out _).mono ?_; rintro e w2 ⟨rfl, HB2⟩))
  have hbw := (HB1.out.trans (HB2.out.mono HB1.out.size)).alloc (Nat.le_trans HB1.out.size HB2.out.size) (.cells #[.int .i64 0, .slice none 0 0] 50)
  have hx := heap_alloc_new w2 (.cells #[.int .i64 0, .slice none 0 0] 50)
  generalize w2.alloc (.cells #[.int .i64 0, .slice none 0 0] 50) = W at *
  generalize w2.heap.size = xb at *
  have HBW := Lib.hid hbw
  have HXW := Lib.hid hx
  have HK : Hid (Below W.heap.size W W) := Lib.hid (Below.refl _ _)
  clear hbw hx HB1 HB2
  go_upto_region 11 with (first
    | (go_at_call 21; refine (HF.out _).mono ?_; rintro e w3 ⟨tA, tc, rfl, HBx⟩; have HK := Lib.hid (HK.out.trans (HBx.out.mono HK.out.size)); clear HBx)
    | (go_at_call 22; refine (HD.out _).mono ?_; rintro e w4 ⟨rfl, HBx⟩; have HK := Lib.hid (HK.out.trans (HBx.out.mono HK.out.size)); clear HBx)
    | (go_at_call 25; refine (HRG.out _).mono ?_; rintro e w5 ⟨rfl, HBx⟩; have HK := Lib.hid (HK.out.trans (HBx.out.mono HK.out.size)); clear HBx))
  have hbz := HK.out.alloc HK.out.size (.cells #[.int .i64 0, .slice none 0 0, .int .i64 (k1 : Int), .int .i64 (k2 : Int)] 62)
  have hz := heap_alloc_new w5 (.cells #[.int .i64 0, .slice none 0 0, .int .i64 (k1 : Int), .int .i64 (k2 : Int)] 62)
  generalize w5.alloc (.cells #[.int .i64 0, .slice none 0 0, .int .i64 (k1 : Int), .int .i64 (k2 : Int)] 62) = W6 at *
  generalize w5.heap.size = zb at *
  have HBZ := Lib.hid hbz
  have HZW := Lib.hid hz
  have HUF : Hid (∀ X, Below W6.heap.size W6 X → Below w.heap.size w X) := Lib.hid (fun X h => HBW.out.trans ((HBZ.out.trans (h.mono HBZ.out.size)).mono HBW.out.size))
  have HU : Hid (Below W6.heap.size W6 W6) := Lib.hid (Below.refl _ _)
  have HSS : Hid (∀ X, Below W6.heap.size W6 X → X.cell? ⟨xb, 0, none⟩ = some (.int .i64 0) ∧ X.cell? ⟨xb, 1, none⟩ = some (.slice none 0 0) ∧ X.cell? ⟨zb, 0, none⟩ = some (.int .i64 0) ∧ X.cell? ⟨zb, 1, none⟩ = some (.slice none 0 0) ∧ X.cell? ⟨zb, 2, none⟩ = some (.int .i64 (k1 : Int)) ∧ X.cell? ⟨zb, 3, none⟩ = some (.int .i64 (k2 : Int))) := Lib.hid (fun X h => by
    have h1 := ((HBZ.out.trans (h.mono HBZ.out.size)).block xb (Array.getElem?_eq_some_iff.1 HXW.out).1).trans HXW.out
    have h2 := (h.block zb (Array.getElem?_eq_some_iff.1 HZW.out).1).trans HZW.out
    exact ⟨cell_of_row X xb 0 _ _ _ h1, cell_of_row X xb 1 _ _ _ h1, cell_of_row X zb 0 _ _ _ h2, cell_of_row X zb 1 _ _ _ h2, cell_of_row X zb 2 _ _ _ h2, cell_of_row X zb 3 _ _ _ h2⟩)
  clear hbz hz
  refine wp_region_noPanic ?_
  refine wp_region_held_drew (S := fun X => X.cell? ⟨xb, 0, none⟩ = some (.int .i64 0) ∧ X.cell? ⟨xb, 1, none⟩ = some (.slice none 0 0) ∧ X.cell? ⟨zb, 0, none⟩ = some (.int .i64 0) ∧ X.cell? ⟨zb, 1, none⟩ = some (.slice none 0 0) ∧ X.cell? ⟨zb, 2, none⟩ = some (.int .i64 (k1 : Int)) ∧ X.cell? ⟨zb, 3, none⟩ = some (.int .i64 (k2 : Int))) (by kernel_rfl) (HSS.out _ HU.out.drew) (fun hHeld => ?_)
  refine wpAnyH_take (i := 0) (oi := _) (v := ?_) rfl (by kernel_rfl) (by kernel_rfl) (by kernel_rfl) (fun _ _ _ h => h) (Or.inl ⟨by rfl, ?_⟩) (by assumption) ?_
  rotate_left
  · (intro w hSw; obtain ⟨s0, s1, s2, s3, s4, s5⟩ := hSw; go_simp; (try with_reducible rfl))
  try simp only [Act.put, List.getElem_toArray, List.getElem_cons_succ, List.getElem_cons_zero, List.setIfInBounds_toArray, List.set_cons_zero, List.set_cons_succ]
  refine wpAnyH_take (i := 2) (oi := _) (v := ?_) rfl (by kernel_rfl) (by kernel_rfl) (by kernel_rfl) (fun _ _ _ h => h) (Or.inl ⟨by rfl, ?_⟩) (by assumption) ?_
  rotate_left
  · (intro w hSw; obtain ⟨s0, s1, s2, s3, s4, s5⟩ := hSw; go_simp; (try with_reducible rfl))
  try simp only [Act.put, List.getElem_toArray, List.getElem_cons_succ, List.getElem_cons_zero, List.setIfInBounds_toArray, List.set_cons_zero, List.set_cons_succ]
  refine wpAnyH_take (i := 3) (oi := _) (v := ?_) rfl (by kernel_rfl) (by kernel_rfl) (by kernel_rfl) (fun _ _ _ h => h) (Or.inl ⟨by rfl, ?_⟩) (by assumption) ?_
  rotate_left
  · (intro w hSw; obtain ⟨s0, s1, s2, s3, s4, s5⟩ := hSw; go_simp; (try with_reducible rfl))
  try simp only [Act.put, List.getElem_toArray, List.getElem_cons_succ, List.getElem_cons_zero, List.setIfInBounds_toArray, List.set_cons_zero, List.set_cons_succ]
  refine wpAnyH_ready (rs := [1]) (by kernel_rfl) (by simp) ?_
  refine AllReadyH.cons (o := _) rfl (fun K hK => ?_) (AllReadyH.nil)
  (go_simp)
  go_at_call 12
  refine (HCF.out (k2 : Int) (k1 : Int) _ (HUF.out _ HU.out.drew)).mono ?_
  rintro r w5 ⟨rfl, HBx⟩
  have HU := Lib.hid (HU.out.drew.trans (HBx.out.mono HU.out.size))
  clear HBx
  dsimp only
  refine hK.out _ _ (HSS.out _ HU.out) (fun hHeld => ?_)
  clear hK K
  try simp only [Act.put, List.getElem_toArray, List.getElem_cons_succ, List.getElem_cons_zero, List.setIfInBounds_toArray, List.set_cons_zero, List.set_cons_succ]
  refine wpAnyH_take (i := 4) (oi := _) (v := ?_) rfl (by kernel_rfl) (by kernel_rfl) (by kernel_rfl) (fun _ _ _ h => h) (Or.inl ⟨by rfl, ?_⟩) (by assumption) ?_
  rotate_left
  · (intro w hSw; obtain ⟨s0, s1, s2, s3, s4, s5⟩ := hSw; go_simp; (try with_reducible rfl))
  try simp only [Act.put, List.getElem_toArray, List.getElem_cons_succ, List.getElem_cons_zero, List.setIfInBounds_toArray, List.set_cons_zero, List.set_cons_succ]
  refine wpAnyH_take (i := 5) (oi := _) (v := ?_) rfl (by kernel_rfl) (by kernel_rfl) (by kernel_rfl) (fun _ _ _ h => h) (Or.inl ⟨by rfl, ?_⟩) (by assumption) ?_
  rotate_left
  · (intro w hSw; obtain ⟨s0, s1, s2, s3, s4, s5⟩ := hSw; go_simp; (try with_reducible rfl))
  try simp only [Act.put, List.getElem_toArray, List.getElem_cons_succ, List.getElem_cons_zero, List.setIfInBounds_toArray, List.set_cons_zero, List.set_cons_succ]
  refine wpAnyH_take (i := 6) (oi := _) (v := ?_) rfl (by kernel_rfl) (by kernel_rfl) (by kernel_rfl) (fun _ _ _ h => h) (Or.inl ⟨by rfl, ?_⟩) (by assumption) ?_
  rotate_left
  · (intro w hSw; obtain ⟨s0, s1, s2, s3, s4, s5⟩ := hSw; go_simp; (try with_reducible rfl))
  try simp only [Act.put, List.getElem_toArray, List.getElem_cons_succ, List.getElem_cons_zero, List.setIfInBounds_toArray, List.set_cons_zero, List.set_cons_succ]
  refine wpAnyH_take (i := 7) (oi := _) (v := ?_) rfl (by kernel_rfl) (by kernel_rfl) (by kernel_rfl) (fun _ _ _ h => h) (Or.inl ⟨by rfl, ?_⟩) (by assumption) ?_
  rotate_left
  · (intro w hSw; obtain ⟨s0, s1, s2, s3, s4, s5⟩ := hSw; go_simp; (try with_reducible rfl))
  try simp only [Act.put, List.getElem_toArray, List.getElem_cons_succ, List.getElem_cons_zero, List.setIfInBounds_toArray, List.set_cons_zero, List.set_cons_succ]
  refine wpAnyH_take (i := 8) (oi := _) (v := ?_) rfl (by kernel_rfl) (by kernel_rfl) (by kernel_rfl) (fun _ _ _ h => h) (Or.inl ⟨by rfl, ?_⟩) (by assumption) ?_
  rotate_left
  · (intro w hSw; obtain ⟨s0, s1, s2, s3, s4, s5⟩ := hSw; go_simp; (try with_reducible rfl))
  try simp only [Act.put, List.getElem_toArray, List.getElem_cons_succ, List.getElem_cons_zero, List.setIfInBounds_toArray, List.set_cons_zero, List.set_cons_succ]
  refine wpAnyH_take (i := 9) (oi := _) (v := ?_) rfl (by kernel_rfl) (by kernel_rfl) (by kernel_rfl) (fun _ _ _ h => h) (Or.inl ⟨by rfl, ?_⟩) (by assumption) ?_
  rotate_left
  · (intro w hSw; obtain ⟨s0, s1, s2, s3, s4, s5⟩ := hSw; go_simp; (try with_reducible rfl))
  try simp only [Act.put, List.getElem_toArray, List.getElem_cons_succ, List.getElem_cons_zero, List.setIfInBounds_toArray, List.set_cons_zero, List.set_cons_succ]
  refine wpAnyH_take (i := 10) (oi := _) (v := ?_) rfl (by kernel_rfl) (by kernel_rfl) (by kernel_rfl) (fun _ _ _ h => h) (Or.inl ⟨by rfl, ?_⟩) (by assumption) ?_
  rotate_left
  · (intro w hSw; obtain ⟨s0, s1, s2, s3, s4, s5⟩ := hSw; go_simp; (try with_reducible rfl))
  try simp only [Act.put, List.getElem_toArray, List.getElem_cons_succ, List.getElem_cons_zero, List.setIfInBounds_toArray, List.set_cons_zero, List.set_cons_succ]
  refine wpAnyH_take (i := 12) (oi := _) (v := ?_) rfl (by kernel_rfl) (by kernel_rfl) (by kernel_rfl) (fun _ _ _ h => h) (Or.inl ⟨by rfl, ?_⟩) (by assumption) ?_
  rotate_left
  · (intro w hSw; obtain ⟨s0, s1, s2, s3, s4, s5⟩ := hSw; go_simp; (try with_reducible rfl))
  try simp only [Act.put, List.getElem_toArray, List.getElem_cons_succ, List.getElem_cons_zero, List.setIfInBounds_toArray, List.set_cons_zero, List.set_cons_succ]
  refine wpAnyH_take (i := 13) (oi := _) (v := ?_) rfl (by kernel_rfl) (by kernel_rfl) (by kernel_rfl) (fun _ _ _ h => h) (Or.inl ⟨by rfl, ?_⟩) (by assumption) ?_
  rotate_left
  · (intro w hSw; obtain ⟨s0, s1, s2, s3, s4, s5⟩ := hSw; go_simp; (try with_reducible rfl))
  try simp only [Act.put, List.getElem_toArray, List.getElem_cons_succ, List.getElem_cons_zero, List.setIfInBounds_toArray, List.set_cons_zero, List.set_cons_succ]
  refine wpAnyH_ready (rs := [11]) (by kernel_rfl) (by simp) ?_
  refine AllReadyH.cons (o := _) rfl (fun K hK => ?_) (AllReadyH.nil)
  (go_simp)
  go_at_call 18
  refine (HPF.out (k2 : Int) (k1 : Int) _ (HUF.out _ HU.out)).mono ?_
  rintro r w6 ⟨rfl, HBx⟩
  have HU := Lib.hid (HU.out.trans (HBx.out.mono HU.out.size))
  clear HBx
  dsimp only
  refine hK.out _ _ (HSS.out _ HU.out) (fun hHeld => ?_)
  clear hK K
  try simp only [Act.put, List.getElem_toArray, List.getElem_cons_succ, List.getElem_cons_zero, List.setIfInBounds_toArray, List.set_cons_zero, List.set_cons_succ]
  refine wpAnyH_take (i := 14) (oi := _) (v := ?_) rfl (by kernel_rfl) (by kernel_rfl) (by kernel_rfl) (fun _ _ _ h => h) (Or.inl ⟨by rfl, ?_⟩) (by assumption) ?_
  rotate_left
  · (intro w hSw; obtain ⟨s0, s1, s2, s3, s4, s5⟩ := hSw; go_simp; (try with_reducible rfl))
  try simp only [Act.put, List.getElem_toArray, List.getElem_cons_succ, List.getElem_cons_zero, List.setIfInBounds_toArray, List.set_cons_zero, List.set_cons_succ]
  refine wpAnyH_take (i := 15) (oi := _) (v := ?_) rfl (by kernel_rfl) (by kernel_rfl) (by kernel_rfl) (fun _ _ _ h => h) (Or.inl ⟨by rfl, ?_⟩) (by assumption) ?_
  rotate_left
  · (intro w hSw; obtain ⟨s0, s1, s2, s3, s4, s5⟩ := hSw; go_simp; (try with_reducible rfl))
  try simp only [Act.put, List.getElem_toArray, List.getElem_cons_succ, List.getElem_cons_zero, List.setIfInBounds_toArray, List.set_cons_zero, List.set_cons_succ]
  refine wpAnyH_take (i := 16) (oi := _) (v := ?_) rfl (by kernel_rfl) (by kernel_rfl) (by kernel_rfl) (fun _ _ _ h => h) (Or.inl ⟨by rfl, ?_⟩) (by assumption) ?_
  rotate_left
  · (intro w hSw; obtain ⟨s0, s1, s2, s3, s4, s5⟩ := hSw; go_simp; (try with_reducible rfl))
  try simp only [Act.put, List.getElem_toArray, List.getElem_cons_succ, List.getElem_cons_zero, List.setIfInBounds_toArray, List.set_cons_zero, List.set_cons_succ]
  refine wpAnyH_take (i := 17) (oi := _) (v := ?_) rfl (by kernel_rfl) (by kernel_rfl) (by kernel_rfl) (fun _ _ _ h => h) (Or.inl ⟨by rfl, ?_⟩) (by assumption) ?_
  rotate_left
  · (intro w hSw; obtain ⟨s0, s1, s2, s3, s4, s5⟩ := hSw; go_simp; (try with_reducible rfl))
  try simp only [Act.put, List.getElem_toArray, List.getElem_cons_succ, List.getElem_cons_zero, List.setIfInBounds_toArray, List.set_cons_zero, List.set_cons_succ]
  refine wpAnyH_take (i := 18) (oi := _) (v := ?_) rfl (by kernel_rfl) (by kernel_rfl) (by kernel_rfl) (fun _ _ _ h => h) (Or.inl ⟨by rfl, ?_⟩) (by assumption) ?_
  rotate_left
  · (intro w hSw; obtain ⟨s0, s1, s2, s3, s4, s5⟩ := hSw; go_simp; (try with_reducible rfl))
  try simp only [Act.put, List.getElem_toArray, List.getElem_cons_succ, List.getElem_cons_zero, List.setIfInBounds_toArray, List.set_cons_zero, List.set_cons_succ]
  refine wpAnyH_take (i := 19) (oi := _) (v := ?_) rfl (by kernel_rfl) (by kernel_rfl) (by kernel_rfl) (fun _ _ _ h => h) (Or.inl ⟨by rfl, ?_⟩) (by assumption) ?_
  rotate_left
  · (intro w hSw; obtain ⟨s0, s1, s2, s3, s4, s5⟩ := hSw; go_simp; (try with_reducible rfl))
  try simp only [Act.put, List.getElem_toArray, List.getElem_cons_succ, List.getElem_cons_zero, List.setIfInBounds_toArray, List.set_cons_zero, List.set_cons_succ]
  refine wpAnyH_take (i := 20) (oi := _) (v := ?_) rfl (by kernel_rfl) (by kernel_rfl) (by kernel_rfl) (fun _ _ _ h => h) (Or.inl ⟨by rfl, ?_⟩) (by assumption) ?_
  rotate_left
  · (intro w hSw; obtain ⟨s0, s1, s2, s3, s4, s5⟩ := hSw; go_simp; (try with_reducible rfl))
  try simp only [Act.put, List.getElem_toArray, List.getElem_cons_succ, List.getElem_cons_zero, List.setIfInBounds_toArray, List.set_cons_zero, List.set_cons_succ]
  refine wpAnyH_take (i := 21) (oi := _) (v := ?_) rfl (by kernel_rfl) (by kernel_rfl) (by kernel_rfl) (fun _ _ _ h => h) (Or.inl ⟨by rfl, ?_⟩) (by assumption) ?_
  rotate_left
  · (intro w hSw; obtain ⟨s0, s1, s2, s3, s4, s5⟩ := hSw; go_simp; (try with_reducible rfl))
  try simp only [Act.put, List.getElem_toArray, List.getElem_cons_succ, List.getElem_cons_zero, List.setIfInBounds_toArray, List.set_cons_zero, List.set_cons_succ]
  refine wpAnyH_take (i := 22) (oi := _) (v := ?_) rfl (by kernel_rfl) (by kernel_rfl) (by kernel_rfl) (fun _ _ _ h => h) (Or.inl ⟨by rfl, ?_⟩) (by assumption) ?_
  rotate_left
  · (intro w hSw; obtain ⟨s0, s1, s2, s3, s4, s5⟩ := hSw; go_simp; (try with_reducible rfl))
  try simp only [Act.put, List.getElem_toArray, List.getElem_cons_succ, List.getElem_cons_zero, List.setIfInBounds_toArray, List.set_cons_zero, List.set_cons_succ]
  refine wpAnyH_take (i := 23) (oi := _) (v := ?_) rfl (by kernel_rfl) (by kernel_rfl) (by kernel_rfl) (fun _ _ _ h => h) (Or.inl ⟨by rfl, ?_⟩) (by assumption) ?_
  rotate_left
  · (intro w hSw; obtain ⟨s0, s1, s2, s3, s4, s5⟩ := hSw; go_simp; (try with_reducible rfl))
  try simp only [Act.put, List.getElem_toArray, List.getElem_cons_succ, List.getElem_cons_zero, List.setIfInBounds_toArray, List.set_cons_zero, List.set_cons_succ]
  refine wpAnyH_take (i := 24) (oi := _) (v := ?_) rfl (by kernel_rfl) (by kernel_rfl) (by kernel_rfl) (fun _ _ _ h => h) (Or.inl ⟨by rfl, ?_⟩) (by assumption) ?_
  rotate_left
  · (intro w hSw; obtain ⟨s0, s1, s2, s3, s4, s5⟩ := hSw; go_simp; (try with_reducible rfl))
  try simp only [Act.put, List.getElem_toArray, List.getElem_cons_succ, List.getElem_cons_zero, List.setIfInBounds_toArray, List.set_cons_zero, List.set_cons_succ]
  refine wpAnyH_take (i := 25) (oi := _) (v := ?_) rfl (by kernel_rfl) (by kernel_rfl) (by kernel_rfl) (fun _ _ _ h => h) (Or.inl ⟨by rfl, ?_⟩) (by assumption) ?_
  rotate_left
  · (intro w hSw; obtain ⟨s0, s1, s2, s3, s4, s5⟩ := hSw; go_simp; (try with_reducible rfl))
  try simp only [Act.put, List.getElem_toArray, List.getElem_cons_succ, List.getElem_cons_zero, List.setIfInBounds_toArray, List.set_cons_zero, List.set_cons_succ]
  refine wpAnyH_take (i := 26) (oi := _) (v := ?_) rfl (by kernel_rfl) (by kernel_rfl) (by kernel_rfl) (fun _ _ _ h => h) (Or.inl ⟨by rfl, ?_⟩) (by assumption) ?_
  rotate_left
  · (intro w hSw; obtain ⟨s0, s1, s2, s3, s4, s5⟩ := hSw; go_simp; (try with_reducible rfl))
  try simp only [Act.put, List.getElem_toArray, List.getElem_cons_succ, List.getElem_cons_zero, List.setIfInBounds_toArray, List.set_cons_zero, List.set_cons_succ]
  refine wpAnyH_take (i := 27) (oi := _) (v := ?_) rfl (by kernel_rfl) (by kernel_rfl) (by kernel_rfl) (fun _ _ _ h => h) (Or.inl ⟨by rfl, ?_⟩) (by assumption) ?_
  rotate_left
  · (intro w hSw; obtain ⟨s0, s1, s2, s3, s4, s5⟩ := hSw; go_simp; (try with_reducible rfl))
  try simp only [Act.put, List.getElem_toArray, List.getElem_cons_succ, List.getElem_cons_zero, List.setIfInBounds_toArray, List.set_cons_zero, List.set_cons_succ]
  refine wpAnyH_take (i := 28) (oi := _) (v := ?_) rfl (by kernel_rfl) (by kernel_rfl) (by kernel_rfl) (fun _ _ _ h => h) (Or.inl ⟨by rfl, ?_⟩) (by assumption) ?_
  rotate_left
  · (intro w hSw; obtain ⟨s0, s1, s2, s3, s4, s5⟩ := hSw; go_simp; (try with_reducible rfl))
  try simp only [Act.put, List.getElem_toArray, List.getElem_cons_succ, List.getElem_cons_zero, List.setIfInBounds_toArray, List.set_cons_zero, List.set_cons_succ]
  refine wpAnyH_take (i := 29) (oi := _) (v := ?_) rfl (by kernel_rfl) (by kernel_rfl) (by kernel_rfl) (fun _ _ _ h => h) (Or.inl ⟨by rfl, ?_⟩) (by assumption) ?_
  rotate_left
  · (intro w hSw; obtain ⟨s0, s1, s2, s3, s4, s5⟩ := hSw; go_simp; (try with_reducible rfl))
  try simp only [Act.put, List.getElem_toArray, List.getElem_cons_succ, List.getElem_cons_zero, List.setIfInBounds_toArray, List.set_cons_zero, List.set_cons_succ]
  refine wpAnyH_take (i := 30) (oi := _) (v := ?_) rfl (by kernel_rfl) (by kernel_rfl) (by kernel_rfl) (fun _ _ _ h => h) (Or.inl ⟨by rfl, ?_⟩) (by assumption) ?_
  rotate_left
  · (intro w hSw; obtain ⟨s0, s1, s2, s3, s4, s5⟩ := hSw; go_simp; (try with_reducible rfl))
  try simp only [Act.put, List.getElem_toArray, List.getElem_cons_succ, List.getElem_cons_zero, List.setIfInBounds_toArray, List.set_cons_zero, List.set_cons_succ]
  refine wpAnyH_take (i := 31) (oi := _) (v := ?_) rfl (by kernel_rfl) (by kernel_rfl) (by kernel_rfl) (fun _ _ _ h => h) (Or.inl ⟨by rfl, ?_⟩) (by assumption) ?_
  rotate_left
  · (intro w hSw; obtain ⟨s0, s1, s2, s3, s4, s5⟩ := hSw; go_simp; (try with_reducible rfl))
  try simp only [Act.put, List.getElem_toArray, List.getElem_cons_succ, List.getElem_cons_zero, List.setIfInBounds_toArray, List.set_cons_zero, List.set_cons_succ]
  refine wpAnyH_take (i := 32) (oi := _) (v := ?_) rfl (by kernel_rfl) (by kernel_rfl) (by kernel_rfl) (fun _ _ _ h => h) (Or.inl ⟨by rfl, ?_⟩) (by assumption) ?_
  rotate_left
  · (intro w hSw; obtain ⟨s0, s1, s2, s3, s4, s5⟩ := hSw; go_simp; (try with_reducible rfl))
  try simp only [Act.put, List.getElem_toArray, List.getElem_cons_succ, List.getElem_cons_zero, List.setIfInBounds_toArray, List.set_cons_zero, List.set_cons_succ]
  refine wpAnyH_take (i := 33) (oi := _) (v := undef) rfl (by kernel_rfl) (by kernel_rfl) (by kernel_rfl) (fun _ _ _ h => h) (Or.inr ⟨by rfl, rfl⟩) (by assumption) ?_
  try simp only [Act.put, List.getElem_toArray, List.getElem_cons_succ, List.getElem_cons_zero, List.setIfInBounds_toArray, List.set_cons_zero, List.set_cons_succ]
  refine wpAnyH_take (i := 34) (oi := _) (v := undef) rfl (by kernel_rfl) (by kernel_rfl) (by kernel_rfl) (fun _ _ _ h => h) (Or.inr ⟨by rfl, rfl⟩) (by assumption) ?_
  try simp only [Act.put, List.getElem_toArray, List.getElem_cons_succ, List.getElem_cons_zero, List.setIfInBounds_toArray, List.set_cons_zero, List.set_cons_succ]
  refine wpAnyH_take (i := 35) (oi := _) (v := undef) rfl (by kernel_rfl) (by kernel_rfl) (by kernel_rfl) (fun _ _ _ h => h) (Or.inr ⟨by rfl, rfl⟩) (by assumption) ?_
  try simp only [Act.put, List.getElem_toArray, List.getElem_cons_succ, List.getElem_cons_zero, List.setIfInBounds_toArray, List.set_cons_zero, List.set_cons_succ]
  refine wpAnyH_take (i := 36) (oi := _) (v := undef) rfl (by kernel_rfl) (by kernel_rfl) (by kernel_rfl) (fun _ _ _ h => h) (Or.inr ⟨by rfl, rfl⟩) (by assumption) ?_
  try simp only [Act.put, List.getElem_toArray, List.getElem_cons_succ, List.getElem_cons_zero, List.setIfInBounds_toArray, List.set_cons_zero, List.set_cons_succ]
  refine wpAnyH_take (i := 37) (oi := _) (v := undef) rfl (by kernel_rfl) (by kernel_rfl) (by kernel_rfl) (fun _ _ _ h => h) (Or.inr ⟨by rfl, rfl⟩) (by assumption) ?_
  try simp only [Act.put, List.getElem_toArray, List.getElem_cons_succ, List.getElem_cons_zero, List.setIfInBounds_toArray, List.set_cons_zero, List.set_cons_succ]
  refine wpAnyH_take (i := 38) (oi := _) (v := undef) rfl (by kernel_rfl) (by kernel_rfl) (by kernel_rfl) (fun _ _ _ h => h) (Or.inr ⟨by rfl, rfl⟩) (by assumption) ?_
  try simp only [Act.put, List.getElem_toArray, List.getElem_cons_succ, List.getElem_cons_zero, List.setIfInBounds_toArray, List.set_cons_zero, List.set_cons_succ]
  refine wpAnyH_take (i := 39) (oi := _) (v := undef) rfl (by kernel_rfl) (by kernel_rfl) (by kernel_rfl) (fun _ _ _ h => h) (Or.inr ⟨by rfl, rfl⟩) (by assumption) ?_
  try simp only [Act.put, List.getElem_toArray, List.getElem_cons_succ, List.getElem_cons_zero, List.setIfInBounds_toArray, List.set_cons_zero, List.set_cons_succ]
  refine wpAnyH_take (i := 40) (oi := _) (v := undef) rfl (by kernel_rfl) (by kernel_rfl) (by kernel_rfl) (fun _ _ _ h => h) (Or.inr ⟨by rfl, rfl⟩) (by assumption) ?_
  try simp only [Act.put, List.getElem_toArray, List.getElem_cons_succ, List.getElem_cons_zero, List.setIfInBounds_toArray, List.set_cons_zero, List.set_cons_succ]
  refine wpAnyH_take (i := 41) (oi := _) (v := undef) rfl (by kernel_rfl) (by kernel_rfl) (by kernel_rfl) (fun _ _ _ h => h) (Or.inr ⟨by rfl, rfl⟩) (by assumption) ?_
  try simp only [Act.put, List.getElem_toArray, List.getElem_cons_succ, List.getElem_cons_zero, List.setIfInBounds_toArray, List.set_cons_zero, List.set_cons_succ]
  refine wpAnyH_take (i := 42) (oi := _) (v := undef) rfl (by kernel_rfl) (by kernel_rfl) (by kernel_rfl) (fun _ _ _ h => h) (Or.inr ⟨by rfl, rfl⟩) (by assumption) ?_
  try simp only [Act.put, List.getElem_toArray, List.getElem_cons_succ, List.getElem_cons_zero, List.setIfInBounds_toArray, List.set_cons_zero, List.set_cons_succ]
  refine wpAnyH_take (i := 43) (oi := _) (v := undef) rfl (by kernel_rfl) (by kernel_rfl) (by kernel_rfl) (fun _ _ _ h => h) (Or.inr ⟨by rfl, rfl⟩) (by assumption) ?_
  try simp only [Act.put, List.getElem_toArray, List.getElem_cons_succ, List.getElem_cons_zero, List.setIfInBounds_toArray, List.set_cons_zero, List.set_cons_succ]
  refine wpAnyH_take (i := 44) (oi := _) (v := undef) rfl (by kernel_rfl) (by kernel_rfl) (by kernel_rfl) (fun _ _ _ h => h) (Or.inr ⟨by rfl, rfl⟩) (by assumption) ?_
  try simp only [Act.put, List.getElem_toArray, List.getElem_cons_succ, List.getElem_cons_zero, List.setIfInBounds_toArray, List.set_cons_zero, List.set_cons_succ]
  refine wpAnyH_take (i := 45) (oi := _) (v := undef) rfl (by kernel_rfl) (by kernel_rfl) (by kernel_rfl) (fun _ _ _ h => h) (Or.inr ⟨by rfl, rfl⟩) (by assumption) ?_
  try simp only [Act.put, List.getElem_toArray, List.getElem_cons_succ, List.getElem_cons_zero, List.setIfInBounds_toArray, List.set_cons_zero, List.set_cons_succ]
  refine wpAnyH_take (i := 46) (oi := _) (v := ?_) rfl (by kernel_rfl) (by kernel_rfl) (by kernel_rfl) (fun _ _ _ h => h) (Or.inl ⟨by rfl, ?_⟩) (by assumption) ?_
  rotate_left
  · (intro w hSw; obtain ⟨s0, s1, s2, s3, s4, s5⟩ := hSw; go_simp; (try with_reducible rfl))
  try simp only [Act.put, List.getElem_toArray, List.getElem_cons_succ, List.getElem_cons_zero, List.setIfInBounds_toArray, List.set_cons_zero, List.set_cons_succ]
  refine wpAnyH_take (i := 47) (oi := _) (v := ?_) rfl (by kernel_rfl) (by kernel_rfl) (by kernel_rfl) (fun _ _ _ h => h) (Or.inl ⟨by rfl, ?_⟩) (by assumption) ?_
  rotate_left
  · (intro w hSw; obtain ⟨s0, s1, s2, s3, s4, s5⟩ := hSw; go_simp; (try with_reducible rfl))
  try simp only [Act.put, List.getElem_toArray, List.getElem_cons_succ, List.getElem_cons_zero, List.setIfInBounds_toArray, List.set_cons_zero, List.set_cons_succ]
  refine wpAnyH_done (by kernel_rfl) ?_ _
  refine NoPanic.normal ?_
  clear hHeld
  obtain ⟨s0, s1, s2, s3, s4, s5⟩ := HSS.out _ HU.out
  rcases HGV.out with ⟨ft, fx, rfl, rfl, ⟨gt, gx, rfl, rfl⟩ | rfl⟩ | ⟨rfl, rfl, rfl⟩
  · go_wp2
    go_ret
    exact ⟨rfl, Lib.hid (HUF.out _ HU.out)⟩
  · go_wp2
    go_ret
    exact ⟨rfl, Lib.hid (HUF.out _ HU.out)⟩
  · go_wp2
    go_ret
    exact ⟨rfl, Lib.hid (HUF.out _ HU.out)⟩
end Go.Proofs.YtjokfllldcjheaaGreatDoor.Oc
