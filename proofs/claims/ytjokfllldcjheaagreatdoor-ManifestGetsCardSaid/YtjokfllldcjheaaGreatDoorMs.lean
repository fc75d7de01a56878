/- reference 10: Same; ManifestSame, walked. -/
import Derived.Test.YtjokfllldcjheaaGreatDoorMa
namespace Go.Proofs.YtjokfllldcjheaaGreatDoor.Mn
open Go.RowKit Go.Proofs.YtjokfllldcjheaaGreatDoor.Oc Go.Proofs.YtjokfllldcjheaaGreatDoor.Ed Go.Proofs.YtjokfllldcjheaaGreatDoor.Tb Go.Proofs.YtjokfllldcjheaaGreatDoor.Sha Go.Proofs.YtjokfllldcjheaaGreatDoor.Cs Go.Proofs.YtjokfllldcjheaaGreatDoor.Mk
set_option linter.unusedVariables false
set_option linter.unusedSimpArgs false
theorem box_old (w : World) (o : Obj) (r : Nat) (h : r < w.heap.size) : (w.alloc o).heap[r]? = w.heap[r]? := heap_alloc_old w o h
set_option maxHeartbeats 8000000 in
set_option maxRecDepth 100000 in
theorem rsame10_calls (m1 m2 : Man) (g1 g2 : Nat) (v1 v2 : Value) (w : World) (h1 : TBR w g1 v1 m1.sh) (h2 : TBR w g2 v2 m2.sh) :
    Calls Tryz.prog 39 #[manV m1 v1, manV m2 v2] w fun e w' => ∃ r, e = .returned (.bool r) ∧ (r = true ↔ m1 = m2) ∧ Hid (Below w.heap.size w w') := by
  have HR1 := Lib.hid h1
  have HR2 := Lib.hid h2
  obtain ⟨o, A, c, rfl, hc1, hm1, -⟩ := id h1
  obtain ⟨o', B, d, rfl, hc2, hm2, -⟩ := id h2
  obtain ⟨x0, x1, x2, l1, x4, s1⟩ := m1
  obtain ⟨y0, y1, y2, l2, y4, s2⟩ := m2
  simp only at HR1 HR2 hc1 hc2 ⊢
  have HEQ : Hid ((⟨x0, x1, x2, l1, x4, s1⟩ : Man) = ⟨y0, y1, y2, l2, y4, s2⟩ ↔ x0 = y0 ∧ x1 = y1 ∧ x2 = y2 ∧ l1 = l2 ∧ x4 = y4 ∧ s1 = s2) := Lib.hid ⟨fun h => by injection h with h1 h2 h3 h4 h5 h6; exact ⟨h1, h2, h3, h4, h5, h6⟩, fun ⟨h1, h2, h3, h4, h5, h6⟩ => by rw [h1, h2, h3, h4, h5, h6]⟩
  obtain ⟨n, hn⟩ : ∃ n, l1.length = n := ⟨_, rfl⟩
  obtain ⟨k, hk⟩ : ∃ k, l2.length = k := ⟨_, rfl⟩
  rw [hn] at hc1 ⊢
  rw [hk] at hc2 ⊢
  have HN := Lib.hid hn
  have HK := Lib.hid hk
  have HBX : Hid (Below w.heap.size w ((w.alloc (.cells #[.int .i64 x0, .int .i64 x1, .int .i64 x2, .slice A n c, .int .i64 x4, .string s1] 73)).alloc (.cells #[.int .i64 y0, .int .i64 y1, .int .i64 y2, .slice B k d, .int .i64 y4, .string s2] 73))) := Lib.hid (((Below.refl _ _).alloc (Nat.le_refl _) _).alloc (by simp) _)
  clear h1 h2 hn hk
  by_cases h0 : x0 = y0
  case neg =>
    have b0 : (x0 != y0) = true := bne_iff_ne.2 h0
    have HF : Hid (¬ (⟨x0, x1, x2, l1, x4, s1⟩ : Man) = ⟨y0, y1, y2, l2, y4, s2⟩) := Lib.hid fun h => h0 (HEQ.out.1 h).1
    clear h0
    go_enter Tryz.func39, Tryz.ntmps39
    go_wp2
    go_ret
    exact ⟨false, rfl, by simp [HF.out], HBX⟩
  have b0 : (x0 != y0) = false := by rw [bne_eq_false_iff_eq]; exact h0
  by_cases h1 : x1 = y1
  case neg =>
    have b1 : (x1 != y1) = true := bne_iff_ne.2 h1
    have HF : Hid (¬ (⟨x0, x1, x2, l1, x4, s1⟩ : Man) = ⟨y0, y1, y2, l2, y4, s2⟩) := Lib.hid fun h => h1 (HEQ.out.1 h).2.1
    clear h0 h1
    go_enter Tryz.func39, Tryz.ntmps39
    go_wp2
    go_ret
    exact ⟨false, rfl, by simp [HF.out], HBX⟩
  have b1 : (x1 != y1) = false := by rw [bne_eq_false_iff_eq]; exact h1
  by_cases h2 : x2 = y2
  case neg =>
    have b2 : (x2 != y2) = true := bne_iff_ne.2 h2
    have HF : Hid (¬ (⟨x0, x1, x2, l1, x4, s1⟩ : Man) = ⟨y0, y1, y2, l2, y4, s2⟩) := Lib.hid fun h => h2 (HEQ.out.1 h).2.2.1
    clear h0 h1 h2
    go_enter Tryz.func39, Tryz.ntmps39
    go_wp2
    go_ret
    exact ⟨false, rfl, by simp [HF.out], HBX⟩
  have b2 : (x2 != y2) = false := by rw [bne_eq_false_iff_eq]; exact h2
  by_cases h4 : x4 = y4
  case neg =>
    have b4 : (x4 != y4) = true := bne_iff_ne.2 h4
    have HF : Hid (¬ (⟨x0, x1, x2, l1, x4, s1⟩ : Man) = ⟨y0, y1, y2, l2, y4, s2⟩) := Lib.hid fun h => h4 (HEQ.out.1 h).2.2.2.2.1
    clear h0 h1 h2 h4
    go_enter Tryz.func39, Tryz.ntmps39
    go_wp2
    go_ret
    exact ⟨false, rfl, by simp [HF.out], HBX⟩
  have b4 : (x4 != y4) = false := by rw [bne_eq_false_iff_eq]; exact h4
  by_cases h5 : s1 = s2
  case neg =>
    have b5 : (s1.toList == s2.toList) = false := bytes_ne h5
    have HF : Hid (¬ (⟨x0, x1, x2, l1, x4, s1⟩ : Man) = ⟨y0, y1, y2, l2, y4, s2⟩) := Lib.hid fun h => h5 (HEQ.out.1 h).2.2.2.2.2
    clear h0 h1 h2 h4 h5
    go_enter Tryz.func39, Tryz.ntmps39
    go_wp2
    go_ret
    exact ⟨false, rfl, by simp [HF.out], HBX⟩
  have b5 : (s1.toList == s2.toList) = true := bytes_eq h5
  by_cases h6 : n = k
  case neg =>
    have b6 : ((n : Int) != (k : Int)) = true := by rw [bne_iff_ne]; omega
    have HF : Hid (¬ (⟨x0, x1, x2, l1, x4, s1⟩ : Man) = ⟨y0, y1, y2, l2, y4, s2⟩) := Lib.hid fun h => h6 (by have := (HEQ.out.1 h).2.2.2.1; rw [← HN.out, ← HK.out, this])
    clear h0 h1 h2 h4 h5 h6
    go_enter Tryz.func39, Tryz.ntmps39
    go_wp2
    go_ret
    exact ⟨false, rfl, by simp [HF.out], HBX⟩
  subst h6
  have b6 : ((n : Int) != (n : Int)) = false := by simp
  have HF : Hid (l1 = l2 ↔ (⟨x0, x1, x2, l1, x4, s1⟩ : Man) = ⟨y0, y1, y2, l2, y4, s2⟩) := Lib.hid ⟨fun h => HEQ.out.2 ⟨h0, h1, h2, h, h4, h5⟩, fun h => (HEQ.out.1 h).2.2.2.1⟩
  clear h0 h1 h2 h4 h5
  obtain ⟨W1, hW1⟩ : ∃ W1, (w.alloc (.cells #[.int .i64 x0, .int .i64 x1, .int .i64 x2, .slice A n c, .int .i64 x4, .string s1] 73)).alloc (.cells #[.int .i64 y0, .int .i64 y1, .int .i64 y2, .slice B n d, .int .i64 y4, .string s2] 73) = W1 := ⟨_, rfl⟩
  rw [hW1] at HBX
  have HC6 : Hid (∀ X, Below W1.heap.size W1 X → (X.cell? ⟨w.heap.size, 0, none⟩ = some (.int .i64 x0) ∧ X.cell? ⟨w.heap.size, 1, none⟩ = some (.int .i64 x1) ∧ X.cell? ⟨w.heap.size, 2, none⟩ = some (.int .i64 x2) ∧ X.cell? ⟨w.heap.size, 3, none⟩ = some (.slice A n c) ∧ X.cell? ⟨w.heap.size, 4, none⟩ = some (.int .i64 x4) ∧ X.cell? ⟨w.heap.size, 5, none⟩ = some (.string s1)) ∧ (X.cell? ⟨w.heap.size + 1, 0, none⟩ = some (.int .i64 y0) ∧ X.cell? ⟨w.heap.size + 1, 1, none⟩ = some (.int .i64 y1) ∧ X.cell? ⟨w.heap.size + 1, 2, none⟩ = some (.int .i64 y2) ∧ X.cell? ⟨w.heap.size + 1, 3, none⟩ = some (.slice B n d) ∧ X.cell? ⟨w.heap.size + 1, 4, none⟩ = some (.int .i64 y4) ∧ X.cell? ⟨w.heap.size + 1, 5, none⟩ = some (.string s2))) := Lib.hid (fun X h => by
    have e0 := heap_alloc_new w (.cells #[.int .i64 x0, .int .i64 x1, .int .i64 x2, .slice A n c, .int .i64 x4, .string s1] 73)
    have e1 := box_old (w.alloc (.cells #[.int .i64 x0, .int .i64 x1, .int .i64 x2, .slice A n c, .int .i64 x4, .string s1] 73)) (.cells #[.int .i64 y0, .int .i64 y1, .int .i64 y2, .slice B n d, .int .i64 y4, .string s2] 73) w.heap.size (by simp)
    have e2 := heap_alloc_new (w.alloc (.cells #[.int .i64 x0, .int .i64 x1, .int .i64 x2, .slice A n c, .int .i64 x4, .string s1] 73)) (.cells #[.int .i64 y0, .int .i64 y1, .int .i64 y2, .slice B n d, .int .i64 y4, .string s2] 73)
    rw [show (w.alloc (.cells #[.int .i64 x0, .int .i64 x1, .int .i64 x2, .slice A n c, .int .i64 x4, .string s1] 73)).heap.size = w.heap.size + 1 by simp] at e2
    rw [e0] at e1
    rw [hW1] at e1 e2
    exact ⟨man_cells (m := ⟨x0, x1, x2, l1, x4, s1⟩) ((h.block _ (Array.getElem?_eq_some_iff.1 e1).1).trans e1), man_cells (m := ⟨y0, y1, y2, l2, y4, s2⟩) ((h.block _ (Array.getElem?_eq_some_iff.1 e2).1).trans e2)⟩)
  have HC3 : Hid (∀ X, Below W1.heap.size W1 X → X.cell? ⟨w.heap.size, 3, none⟩ = some (.slice A n c) ∧ X.cell? ⟨w.heap.size + 1, 3, none⟩ = some (.slice B n d)) := Lib.hid (fun X h => ⟨(HC6.out X h).1.2.2.2.1, (HC6.out X h).2.2.2.2.1⟩)
  obtain ⟨⟨p0, p1, p2, p3, p4, p5⟩, ⟨q0, q1, q2, q3, q4, q5⟩⟩ := HC6.out _ (Below.refl _ _)
  have HU0 : Hid (Below W1.heap.size W1 W1) := Lib.hid (Below.refl _ _)
  have HUF : Hid (∀ X, Below W1.heap.size W1 X → Below w.heap.size w X) := Lib.hid (fun X h => HBX.out.trans (h.mono HBX.out.size))
  go_enter Tryz.func39, Tryz.ntmps39
  go_upto_region 4 with (fail)
  clear hW1 p0 p1 p2 p3 p4 p5 q0 q1 q2 q3 q4 q5 HC6
  go_loopw [5] (fun x wz => ∃ j : Nat, x = .int .i64 (j : Int) ∧ j ≤ n ∧ Hid (samE l1 l2 j) ∧ Hid (Below W1.heap.size W1 wz)) (fun x _ => n - (intOf x).toNat)
  case atStart => exact ⟨0, rfl, by omega, Lib.hid (fun j hj => by omega), HU0⟩
  case round =>
    obtain ⟨j, rfl, hj, HS, HU⟩ := hrel
    obtain ⟨z1, z2⟩ := HC3.out _ HU.out
    by_cases hlt : j < n
    · obtain ⟨o1, A1, c1, e1, -, -, hr1⟩ := HR1.out.later (HUF.out _ HU.out)
      obtain ⟨o2, A2, c2, e2, -, -, hr2⟩ := HR2.out.later (HUF.out _ HU.out)
      rw [HN.out] at hr1 e1
      rw [HK.out] at hr2 e2
      obtain ⟨hA1, -, q1⟩ := hr1 (by omega)
      obtain ⟨hA2, -, q2⟩ := hr2 (by omega)
      injection e1 with e1 _ e1c
      injection e2 with e2 _ e2c
      subst e1c e2c
      rw [hA1] at e1
      rw [hA2] at e2
      subst e1 e2
      obtain ⟨p1, p3⟩ := q1 j hlt
      obtain ⟨p2, p4⟩ := q2 j hlt
      obtain ⟨⟨x, x'⟩, hx⟩ : ∃ x, l1.getD j (0, 0) = x := ⟨_, rfl⟩
      obtain ⟨⟨y, y'⟩, hy⟩ : ∃ x, l2.getD j (0, 0) = x := ⟨_, rfl⟩
      rw [hx] at p1 p3
      rw [hy] at p2 p4
      simp only at p1 p2 p3 p4
      have HX := Lib.hid hx
      have HY := Lib.hid hy
      have hj0 : (0 : Int) ≤ (j : Int) := by omega
      have hj1 : (j : Int) < (n : Int) := by omega
      clear hr1 hr2 q1 q2 hx hy hA1 hA2
      by_cases hxy : x = y
      · have t1 : (x != y) = false := by rw [bne_eq_false_iff_eq]; exact hxy
        by_cases hxy' : x' = y'
        · have t2 : (x' != y') = false := by rw [bne_eq_false_iff_eq]; exact hxy'
          have HNX : Hid (samE l1 l2 (j + 1)) := Lib.hid (samE_succ HS.out (by rw [HX.out, HY.out, hxy, hxy']))
          clear hxy hxy'
          go_upto_region 6 with (fail)
          go_quiet (fail)
          have HU := Lib.hid (below_drewN HU.out nq)
          go_wp2
          go_roundw
          case rel => exact ⟨j + 1, by go_num, by omega, HNX, HU⟩
          case measure => simp [intOf]; omega
        · have t2 : (x' != y') = true := bne_iff_ne.2 hxy'
          have HNE : Hid (¬ l1 = l2) := Lib.hid (fun h => hxy' (by have a := HX.out; rw [h, HY.out] at a; injection a with _ a; exact a.symm))
          clear hxy hxy'
          go_upto_region 6 with (fail)
          go_quiet (fail)
          have HU := Lib.hid (below_drewN HU.out nq)
          go_wp2
          go_ret
          exact .inl ⟨rfl, fun _ _ _ h => (HNE.out h).elim, Lib.hid (HUF.out _ HU.out)⟩
      · have t1 : (x != y) = true := bne_iff_ne.2 hxy
        have HNE : Hid (¬ l1 = l2) := Lib.hid (fun h => hxy (by have a := HX.out; rw [h, HY.out] at a; injection a with a _; exact a.symm))
        clear hxy
        go_upto_region 6 with (fail)
        go_quiet (fail)
        have HU := Lib.hid (below_drewN HU.out nq)
        go_wp2
        go_ret
        exact .inl ⟨rfl, fun _ _ _ h => (HNE.out h).elim, Lib.hid (HUF.out _ HU.out)⟩
    · obtain rfl : j = n := by omega
      have HE : Hid (l1 = l2) := Lib.hid (samE_all (by rw [HN.out, HK.out]) (by rw [HN.out]; exact HS.out))
      go_wp2
      go_ret
      exact ⟨true, rfl, by rw [← HF.out]; simp [HE.out], Lib.hid (HUF.out _ HU.out)⟩
theorem manS_dec {a b : Man} (ha : May a) (hb : May b) : ((⟨(manB a).toArray⟩ : ByteArray).toList == (⟨(manB b).toArray⟩ : ByteArray).toList) = true ↔ a = b := by
  rw [beq_iff_eq, ByteArray.toList_eq, ByteArray.toList_eq]
  constructor
  · intro h
    exact manB_free ha hb (by simpa using h)
  · intro h; rw [h]
end Go.Proofs.YtjokfllldcjheaaGreatDoor.Mn
