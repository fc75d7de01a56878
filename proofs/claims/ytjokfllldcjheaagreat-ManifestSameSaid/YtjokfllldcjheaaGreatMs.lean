/- reference 10: Same; ManifestSame, walked. -/
import Derived.Test.YtjokfllldcjheaaGreatMa
namespace Go.Proofs.YtjokfllldcjheaaGreat.Mn
open Go.RowKit Go.Proofs.YtjokfllldcjheaaGreat.Oc Go.Proofs.YtjokfllldcjheaaGreat.Ed Go.Proofs.YtjokfllldcjheaaGreat.Tb Go.Proofs.YtjokfllldcjheaaGreat.Sha Go.Proofs.YtjokfllldcjheaaGreat.Cs Go.Proofs.YtjokfllldcjheaaGreat.Mk
set_option linter.unusedVariables false
set_option linter.unusedSimpArgs false
theorem box_old (w : World) (o : Obj) (r : Nat) (h : r < w.heap.size) : (w.alloc o).heap[r]? = w.heap[r]? := heap_alloc_old w o h
set_option maxHeartbeats 8000000 in
set_option maxRecDepth 100000 in
theorem rsame10_calls (m1 m2 : Man) (g1 g2 : Nat) (v1 v2 : Value) (w : World) (h1 : TBR w g1 v1 m1.sh) (h2 : TBR w g2 v2 m2.sh) :
    Calls Tryz.prog 10 #[manV m1 v1, manV m2 v2] w fun e w' => ∃ r, e = .returned (.bool r) ∧ (r = true ↔ m1 = m2) ∧ Hid (Below w.heap.size w w') := by
  have HR1 := Lib.hid h1
  have HR2 := Lib.hid h2
  obtain ⟨o, A, c, rfl, hc1, hm1, -⟩ := id h1
  obtain ⟨o', B, d, rfl, hc2, hm2, -⟩ := id h2
  obtain ⟨x0, x1, x2, l1, x4, s1⟩ := m1
  obtain ⟨y0, y1, y2, l2, y4, s2⟩ := m2
  simp only at HR1 HR2 hc1 hc2 ⊢
  have HEQ : Hid ((⟨x0, x1, x2, l1, x4, s1⟩ : Man) = ⟨y0, y1, y2, l2, y4, s2⟩ ↔ x0 = y0 ∧ x1 = y1 ∧ x2 = y2 ∧ l1 = l2 ∧ x4 = y4 ∧ s1 = s2) := Lib.hid ⟨fun h => by injection h with h1 h2 h3 h4 h5 h6; exact ⟨h1, h2, h3, h4, h5, h6⟩, fun ⟨h1, h2, h3, h4, h5, h6⟩ => by rw [h1, h2, h3, h4, h5, h6]⟩
  obtain ⟨n, hn⟩ : ∃ n, l1.length = n := ⟨_, rfl⟩
  obtain ⟨k, hk⟩ : ∃ k, l2.length = k := ⟨_, rfl⟩
  rw [hn] at hc1 ⊢
  rw [hk] at hc2 ⊢
  have HN := Lib.hid hn
  have HK := Lib.hid hk
  have HBX : Hid (Below w.heap.size w ((w.alloc (.cells #[.int .i64 x0, .int .i64 x1, .int .i64 x2, .slice A n c, .int .i64 x4, .string s1] 24)).alloc (.cells #[.int .i64 y0, .int .i64 y1, .int .i64 y2, .slice B k d, .int .i64 y4, .string s2] 24))) := Lib.hid (((Below.refl _ _).alloc (Nat.le_refl _) _).alloc (by simp) _)
  clear h1 h2 hn hk
  by_cases h0 : x0 = y0
  case neg =>
    have b0 : (x0 != y0) = true := bne_iff_ne.2 h0
    have HF : Hid (¬ (⟨x0, x1, x2, l1, x4, s1⟩ : Man) = ⟨y0, y1, y2, l2, y4, s2⟩) := Lib.hid fun h => h0 (HEQ.out.1 h).1
    clear h0
    go_enter Tryz.func10, Tryz.ntmps10
    go_wp2
    go_ret
    exact ⟨false, rfl, by simp [HF.out], HBX⟩
  have b0 : (x0 != y0) = false := by rw [bne_eq_false_iff_eq]; exact h0
  by_cases h1 : x1 = y1
  case neg =>
    have b1 : (x1 != y1) = true := bne_iff_ne.2 h1
    have HF : Hid (¬ (⟨x0, x1, x2, l1, x4, s1⟩ : Man) = ⟨y0, y1, y2, l2, y4, s2⟩) := Lib.hid fun h => h1 (HEQ.out.1 h).2.1
    clear h0 h1
    go_enter Tryz.func10, Tryz.ntmps10
    go_wp2
    go_ret
    exact ⟨false, rfl, by simp [HF.out], HBX⟩
  have b1 : (x1 != y1) = false := by rw [bne_eq_false_iff_eq]; exact h1
  by_cases h2 : x2 = y2
  case neg =>
    have b2 : (x2 != y2) = true := bne_iff_ne.2 h2
    have HF : Hid (¬ (⟨x0, x1, x2, l1, x4, s1⟩ : Man) = ⟨y0, y1, y2, l2, y4, s2⟩) := Lib.hid fun h => h2 (HEQ.out.1 h).2.2.1
    clear h0 h1 h2
    go_enter Tryz.func10, Tryz.ntmps10
    go_wp2
    go_ret
    exact ⟨false, rfl, by simp [HF.out], HBX⟩
  have b2 : (x2 != y2) = false := by rw [bne_eq_false_iff_eq]; exact h2
  by_cases h4 : x4 = y4
  case neg =>
    have b4 : (x4 != y4) = true := bne_iff_ne.2 h4
    have HF : Hid (¬ (⟨x0, x1, x2, l1, x4, s1⟩ : Man) = ⟨y0, y1, y2, l2, y4, s2⟩) := Lib.hid fun h => h4 (HEQ.out.1 h).2.2.2.2.1
    clear h0 h1 h2 h4
    go_enter Tryz.func10, Tryz.ntmps10
    go_wp2
    go_ret
    exact ⟨false, rfl, by simp [HF.out], HBX⟩
  have b4 : (x4 != y4) = false := by rw [bne_eq_false_iff_eq]; exact h4
  by_cases h5 : s1 = s2
  case neg =>
    have b5 : (s1.toList == s2.toList) = false := bytes_ne h5
    have HF : Hid (¬ (⟨x0, x1, x2, l1, x4, s1⟩ : Man) = ⟨y0, y1, y2, l2, y4, s2⟩) := Lib.hid fun h => h5 (HEQ.out.1 h).2.2.2.2.2
    clear h0 h1 h2 h4 h5
    go_enter Tryz.func10, Tryz.ntmps10
    go_wp2
    go_ret
    exact ⟨false, rfl, by simp [HF.out], HBX⟩
  have b5 : (s1.toList == s2.toList) = true := bytes_eq h5
  by_cases h6 : n = k
  case neg =>
    have b6 : ((n : Int) != (k : Int)) = true := by rw [bne_iff_ne]; omega
    have HF : Hid (¬ (⟨x0, x1, x2, l1, x4, s1⟩ : Man) = ⟨y0, y1, y2, l2, y4, s2⟩) := Lib.hid fun h => h6 (by have := (HEQ.out.1 h).2.2.2.1; rw [← HN.out, ← HK.out, this])
    clear h0 h1 h2 h4 h5 h6
    go_enter Tryz.func10, Tryz.ntmps10
    go_wp2
    go_ret
    exact ⟨false, rfl, by simp [HF.out], HBX⟩
  subst h6
  have b6 : ((n : Int) != (n : Int)) = false := by simp
  have HF : Hid (l1 = l2 ↔ (⟨x0, x1, x2, l1, x4, s1⟩ : Man) = ⟨y0, y1, y2, l2, y4, s2⟩) := Lib.hid ⟨fun h => HEQ.out.2 ⟨h0, h1, h2, h, h4, h5⟩, fun h => (HEQ.out.1 h).2.2.2.1⟩
  clear h0 h1 h2 h4 h5
  obtain ⟨W1, hW1⟩ : ∃ W1, (w.alloc (.cells #[.int .i64 x0, .int .i64 x1, .int .i64 x2, .slice A n c, .int .i64 x4, .string s1] 24)).alloc (.cells #[.int .i64 y0, .int .i64 y1, .int .i64 y2, .slice B n d, .int .i64 y4, .string s2] 24) = W1 := ⟨_, rfl⟩
  rw [hW1] at HBX
  have HC6 : Hid (∀ X, Below W1.heap.size W1 X → (X.cell? ⟨w.heap.size, 0, none⟩ = some (.int .i64 x0) ∧ X.cell? ⟨w.heap.size, 1, none⟩ = some (.int .i64 x1) ∧ X.cell? ⟨w.heap.size, 2, none⟩ = some (.int .i64 x2) ∧ X.cell? ⟨w.heap.size, 3, none⟩ = some (.slice A n c) ∧ X.cell? ⟨w.heap.size, 4, none⟩ = some (.int .i64 x4) ∧ X.cell? ⟨w.heap.size, 5, none⟩ = some (.string s1)) ∧ (X.cell? ⟨w.heap.size + 1, 0, none⟩ = some (.int .i64 y0) ∧ X.cell? ⟨w.heap.size + 1, 1, none⟩ = some (.int .i64 y1) ∧ X.cell? ⟨w.heap.size + 1, 2, none⟩ = some (.int .i64 y2) ∧ X.cell? ⟨w.heap.size + 1, 3, none⟩ = some (.slice B n d) ∧ X.cell? ⟨w.heap.size + 1, 4, none⟩ = some (.int .i64 y4) ∧ X.cell? ⟨w.heap.size + 1, 5, none⟩ = some (.string s2))) := Lib.hid (fun X h => by
    have e0 := heap_alloc_new w (.cells #[.int .i64 x0, .int .i64 x1, .int .i64 x2, .slice A n c, .int .i64 x4, .string s1] 24)
    have e1 := box_old (w.alloc (.cells #[.int .i64 x0, .int .i64 x1, .int .i64 x2, .slice A n c, .int .i64 x4, .string s1] 24)) (.cells #[.int .i64 y0, .int .i64 y1, .int .i64 y2, .slice B n d, .int .i64 y4, .string s2] 24) w.heap.size (by simp)
    have e2 := heap_alloc_new (w.alloc (.cells #[.int .i64 x0, .int .i64 x1, .int .i64 x2, .slice A n c, .int .i64 x4, .string s1] 24)) (.cells #[.int .i64 y0, .int .i64 y1, .int .i64 y2, .slice B n d, .int .i64 y4, .string s2] 24)
    rw [show (w.alloc (.cells #[.int .i64 x0, .int .i64 x1, .int .i64 x2, .slice A n c, .int .i64 x4, .string s1] 24)).heap.size = w.heap.size + 1 by simp] at e2
    rw [e0] at e1
    rw [hW1] at e1 e2
    exact ⟨man_cells (m := ⟨x0, x1, x2, l1, x4, s1⟩) ((h.block _ (Array.getElem?_eq_some_iff.1 e1).1).trans e1), man_cells (m := ⟨y0, y1, y2, l2, y4, s2⟩) ((h.block _ (Array.getElem?_eq_some_iff.1 e2).1).trans e2)⟩)
  have HC3 : Hid (∀ X, Below W1.heap.size W1 X → X.cell? ⟨w.heap.size, 3, none⟩ = some (.slice A n c) ∧ X.cell? ⟨w.heap.size + 1, 3, none⟩ = some (.slice B n d)) := Lib.hid (fun X h => ⟨(HC6.out X h).1.2.2.2.1, (HC6.out X h).2.2.2.2.1⟩)
  obtain ⟨⟨p0, p1, p2, p3, p4, p5⟩, ⟨q0, q1, q2, q3, q4, q5⟩⟩ := HC6.out _ (Below.refl _ _)
  have HU0 : Hid (Below W1.heap.size W1 W1) := Lib.hid (Below.refl _ _)
  have HUF : Hid (∀ X, Below W1.heap.size W1 X → Below w.heap.size w X) := Lib.hid (fun X h => HBX.out.trans (h.mono HBX.out.size))
  go_enter Tryz.func10, Tryz.ntmps10
  go_upto_region 4 with (fail)
  clear hW1 p0 p1 p2 p3 p4 p5 q0 q1 q2 q3 q4 q5 HC6
  go_loopw [5] (fun x wz => ∃ j : Nat, x = .int .i64 (j : Int) ∧ j ≤ n ∧ Hid (samE l1 l2 j) ∧ Hid (Below W1.heap.size W1 wz)) (fun x _ => n - (intOf x).toNat)
  case atStart => exact ⟨0, rfl, by omega, Lib.hid (fun j hj => by omega), HU0⟩
  case round =>
    obtain ⟨j, rfl, hj, HS, HU⟩ := hrel
    obtain ⟨z1, z2⟩ := HC3.out _ HU.out
    by_cases hlt : j < n
    · obtain ⟨o1, A1, c1, e1, -, -, hr1⟩ := HR1.out.later (HUF.out _ HU.out)
      obtain ⟨o2, A2, c2, e2, -, -, hr2⟩ := HR2.out.later (HUF.out _ HU.out)
      rw [HN.out] at hr1 e1
      rw [HK.out] at hr2 e2
      obtain ⟨hA1, -, q1⟩ := hr1 (by omega)
      obtain ⟨hA2, -, q2⟩ := hr2 (by omega)
      injection e1 with e1 _ e1c
      injection e2 with e2 _ e2c
      subst e1c e2c
      rw [hA1] at e1
      rw [hA2] at e2
      subst e1 e2
      obtain ⟨p1, p3⟩ := q1 j hlt
      obtain ⟨p2, p4⟩ := q2 j hlt
      obtain ⟨⟨x, x'⟩, hx⟩ : ∃ x, l1.getD j (0, 0) = x := ⟨_, rfl⟩
      obtain ⟨⟨y, y'⟩, hy⟩ : ∃ x, l2.getD j (0, 0) = x := ⟨_, rfl⟩
      rw [hx] at p1 p3
      rw [hy] at p2 p4
      simp only at p1 p2 p3 p4
      have HX := Lib.hid hx
      have HY := Lib.hid hy
      have hj0 : (0 : Int) ≤ (j : Int) := by omega
      have hj1 : (j : Int) < (n : Int) := by omega
      clear hr1 hr2 q1 q2 hx hy hA1 hA2
      by_cases hxy : x = y
      · have t1 : (x != y) = false := by rw [bne_eq_false_iff_eq]; exact hxy
        by_cases hxy' : x' = y'
        · have t2 : (x' != y') = false := by rw [bne_eq_false_iff_eq]; exact hxy'
          have HNX : Hid (samE l1 l2 (j + 1)) := Lib.hid (samE_succ HS.out (by rw [HX.out, HY.out, hxy, hxy']))
          clear hxy hxy'
          go_upto_region 6 with (fail)
          go_quiet (fail)
          have HU := Lib.hid (below_drewN HU.out nq)
          go_wp2
          go_roundw
          case rel => exact ⟨j + 1, by go_num, by omega, HNX, HU⟩
          case measure => simp [intOf]; omega
        · have t2 : (x' != y') = true := bne_iff_ne.2 hxy'
          have HNE : Hid (¬ l1 = l2) := Lib.hid (fun h => hxy' (by have a := HX.out; rw [h, HY.out] at a; injection a with _ a; exact a.symm))
          clear hxy hxy'
          go_upto_region 6 with (fail)
          go_quiet (fail)
          have HU := Lib.hid (below_drewN HU.out nq)
          go_wp2
          go_ret
          exact .inl ⟨rfl, fun _ _ _ h => (HNE.out h).elim, Lib.hid (HUF.out _ HU.out)⟩
      · have t1 : (x != y) = true := bne_iff_ne.2 hxy
        have HNE : Hid (¬ l1 = l2) := Lib.hid (fun h => hxy (by have a := HX.out; rw [h, HY.out] at a; injection a with a _; exact a.symm))
        clear hxy
        go_upto_region 6 with (fail)
        go_quiet (fail)
        have HU := Lib.hid (below_drewN HU.out nq)
        go_wp2
        go_ret
        exact .inl ⟨rfl, fun _ _ _ h => (HNE.out h).elim, Lib.hid (HUF.out _ HU.out)⟩
    · obtain rfl : j = n := by omega
      have HE : Hid (l1 = l2) := Lib.hid (samE_all (by rw [HN.out, HK.out]) (by rw [HN.out]; exact HS.out))
      go_wp2
      go_ret
      exact ⟨true, rfl, by rw [← HF.out]; simp [HE.out], Lib.hid (HUF.out _ HU.out)⟩
theorem manS_dec {a b : Man} (ha : May a) (hb : May b) : ((⟨(manB a).toArray⟩ : ByteArray).toList == (⟨(manB b).toArray⟩ : ByteArray).toList) = true ↔ a = b := by
  rw [beq_iff_eq, ByteArray.toList_eq, ByteArray.toList_eq]
  constructor
  · intro h
    exact manB_free ha hb (by simpa using h)
  · intro h; rw [h]
set_option maxHeartbeats 8000000 in
set_option maxRecDepth 100000 in
theorem same_walk (i0 i1 i2 : Int) (A : Option Addr) (n c : Nat) (i4 : Int) (s1 : ByteArray) (g1 : Nat) (l1 : List E2) (j0 j1 j2 : Int) (B : Option Addr) (k d : Nat) (j4 : Int) (s2 : ByteArray) (g2 : Nat) (l2 : List E2) (w : World) (h1 : TBR w g1 (.slice A n c) l1) (h2 : TBR w g2 (.slice B k d) l2) :
    Calls Tryz.prog 4 #[.agg #[.int .i64 i0, .int .i64 i1, .int .i64 i2, .slice A n c, .int .i64 i4, .string s1], .agg #[.int .i64 j0, .int .i64 j1, .int .i64 j2, .slice B k d, .int .i64 j4, .string s2]] w fun e w' => e = .returned (.bool true) ∧ Hid (Below w.heap.size w w') := by
  obtain ⟨m1, hm1⟩ : ∃ m : Man, m = ⟨i0, i1, i2, l1, i4, s1⟩ := ⟨_, rfl⟩
  obtain ⟨m2, hm2⟩ : ∃ m : Man, m = ⟨j0, j1, j2, l2, j4, s2⟩ := ⟨_, rfl⟩
  have HR1 : Hid (TBR w g1 (.slice A n c) m1.sh) := Lib.hid (by rw [hm1]; exact h1)
  have HR2 : Hid (TBR w g2 (.slice B k d) m2.sh) := Lib.hid (by rw [hm2]; exact h2)
  have HAW := Lib.hid (fun W => awake10_calls W)
  have HG1 := Lib.hid (fun W => great_calls i0 i1 i2 i4 A n c s1 W)
  have HG2 := Lib.hid (fun W => great_calls j0 j1 j2 j4 B k d s2 W)
  obtain ⟨t1, ht1⟩ : ∃ t, decide (80 < n ∨ 100 < s1.size) = t := ⟨_, rfl⟩
  obtain ⟨t2, ht2⟩ : ∃ t, decide (80 < k ∨ 100 < s2.size) = t := ⟨_, rfl⟩
  rw [ht1] at HG1
  rw [ht2] at HG2
  obtain ⟨r, hr⟩ : ∃ r : Bool, (r = true ↔ m1 = m2) := by
    by_cases h : m1 = m2
    · exact ⟨true, by simp [h]⟩
    · exact ⟨false, by simp [h]⟩
  have HRR : Hid (r = true ↔ m1 = m2) := Lib.hid hr
  have boolx : ∀ x : Bool, (x = true ↔ m1 = m2) → x = r := fun x hx => by
    have := HRR.out
    cases x <;> cases r <;> simp_all
  have HS1 : Hid (∀ W, Below w.heap.size w W → Calls Tryz.prog 10 #[.agg #[.int .i64 i0, .int .i64 i1, .int .i64 i2, .slice A n c, .int .i64 i4, .string s1], .agg #[.int .i64 j0, .int .i64 j1, .int .i64 j2, .slice B k d, .int .i64 j4, .string s2]] W fun e w' => e = .returned (.bool r) ∧ Hid (Below W.heap.size W w')) := Lib.hid (fun W h => by
    have := rsame10_calls m1 m2 g1 g2 _ _ W (HR1.out.later h) (HR2.out.later h)
    rw [hm1, hm2] at this
    rw [hm1, hm2] at boolx
    exact this.mono fun e w' ⟨x, he, hx, hb⟩ => ⟨by rw [he, boolx x hx], hb⟩)
  have HS2 : Hid (∀ W, Below w.heap.size w W → Calls Tryz.prog 11 #[.agg #[.int .i64 i0, .int .i64 i1, .int .i64 i2, .slice A n c, .int .i64 i4, .string s1], .agg #[.int .i64 j0, .int .i64 j1, .int .i64 j2, .slice B k d, .int .i64 j4, .string s2]] W fun e w' => e = .returned (.bool r) ∧ Hid (Below W.heap.size W w')) := Lib.hid (fun W h => by
    have := msame_calls m1 m2 g1 g2 _ _ W (HR1.out.later h) (HR2.out.later h)
    rw [hm1, hm2] at this
    rw [hm1, hm2] at boolx
    exact this.mono fun e w' ⟨x, he, hx, hb⟩ => ⟨by rw [he, boolx x hx], hb⟩)
  obtain ⟨W1, hW1⟩ : ∃ W1, (w.alloc (.cells #[.int .i64 i0, .int .i64 i1, .int .i64 i2, .slice A n c, .int .i64 i4, .string s1] 24)).alloc (.cells #[.int .i64 j0, .int .i64 j1, .int .i64 j2, .slice B k d, .int .i64 j4, .string s2] 24) = W1 := ⟨_, rfl⟩
  have HBX : Hid (Below w.heap.size w W1) := Lib.hid (by rw [← hW1]; exact ((Below.refl _ _).alloc (Nat.le_refl _) _).alloc (by simp) _)
  have HSS : Hid (∀ X, Below W1.heap.size W1 X → (X.cell? ⟨w.heap.size, 0, none⟩ = some (.int .i64 i0) ∧ X.cell? ⟨w.heap.size, 1, none⟩ = some (.int .i64 i1) ∧ X.cell? ⟨w.heap.size, 2, none⟩ = some (.int .i64 i2) ∧ X.cell? ⟨w.heap.size, 3, none⟩ = some (.slice A n c) ∧ X.cell? ⟨w.heap.size, 4, none⟩ = some (.int .i64 i4) ∧ X.cell? ⟨w.heap.size, 5, none⟩ = some (.string s1)) ∧ (X.cell? ⟨w.heap.size + 1, 0, none⟩ = some (.int .i64 j0) ∧ X.cell? ⟨w.heap.size + 1, 1, none⟩ = some (.int .i64 j1) ∧ X.cell? ⟨w.heap.size + 1, 2, none⟩ = some (.int .i64 j2) ∧ X.cell? ⟨w.heap.size + 1, 3, none⟩ = some (.slice B k d) ∧ X.cell? ⟨w.heap.size + 1, 4, none⟩ = some (.int .i64 j4) ∧ X.cell? ⟨w.heap.size + 1, 5, none⟩ = some (.string s2))) := Lib.hid (fun X h => by
    have e0 := heap_alloc_new w (.cells #[.int .i64 i0, .int .i64 i1, .int .i64 i2, .slice A n c, .int .i64 i4, .string s1] 24)
    have e1 := box_old (w.alloc (.cells #[.int .i64 i0, .int .i64 i1, .int .i64 i2, .slice A n c, .int .i64 i4, .string s1] 24)) (.cells #[.int .i64 j0, .int .i64 j1, .int .i64 j2, .slice B k d, .int .i64 j4, .string s2] 24) w.heap.size (by simp)
    have e2 := heap_alloc_new (w.alloc (.cells #[.int .i64 i0, .int .i64 i1, .int .i64 i2, .slice A n c, .int .i64 i4, .string s1] 24)) (.cells #[.int .i64 j0, .int .i64 j1, .int .i64 j2, .slice B k d, .int .i64 j4, .string s2] 24)
    rw [show (w.alloc (.cells #[.int .i64 i0, .int .i64 i1, .int .i64 i2, .slice A n c, .int .i64 i4, .string s1] 24)).heap.size = w.heap.size + 1 by simp] at e2
    rw [e0] at e1
    rw [hW1] at e1 e2
    exact ⟨man_cells (m := ⟨i0, i1, i2, l1, i4, s1⟩) ((h.block _ (Array.getElem?_eq_some_iff.1 e1).1).trans e1), man_cells (m := ⟨j0, j1, j2, l2, j4, s2⟩) ((h.block _ (Array.getElem?_eq_some_iff.1 e2).1).trans e2)⟩)
  have HUF : Hid (∀ X, Below W1.heap.size W1 X → Below w.heap.size w X) := Lib.hid (fun X h => HBX.out.trans (h.mono HBX.out.size))
  have HU : Hid (Below W1.heap.size W1 W1) := Lib.hid (Below.refl _ _)
  have HM1 := Lib.hid hm1
  have HM2 := Lib.hid hm2
  clear h1 h2 hm1 hm2 ht1 ht2 hr boolx
  cases t1 with
  | true =>
    go_enter Tryz.func4, Tryz.ntmps4
    go_upto_region 1 with (fail)
    clear hW1
    go_wp2_with (first
      | (go_at_call 5; refine (HAW.out _).mono ?_; rintro e w1 ⟨rfl, HBx⟩; have HU := Lib.hid (HU.out.trans (HBx.out.mono HU.out.size)); clear HBx; obtain ⟨⟨a0, a1, a2, a3, a4, a5⟩, ⟨b0, b1, b2, b3, b4, b5⟩⟩ := HSS.out _ HU.out)
      | (go_at_call 6; refine (HG1.out _).mono ?_; rintro e w2 ⟨rfl, HBx⟩; have HU := Lib.hid (HU.out.trans (HBx.out.mono HU.out.size)); clear HBx))
    go_ret
    exact ⟨rfl, Lib.hid (HUF.out _ HU.out)⟩
  | false =>
    cases t2 with
    | true =>
      go_enter Tryz.func4, Tryz.ntmps4
      go_upto_region 1 with (fail)
      clear hW1
      go_upto_region 3 with (go_at_call 5; refine (HAW.out _).mono ?_; rintro e w1 ⟨rfl, HBx⟩; have HU := Lib.hid (HU.out.trans (HBx.out.mono HU.out.size)); clear HBx; obtain ⟨⟨a0, a1, a2, a3, a4, a5⟩, ⟨b0, b1, b2, b3, b4, b5⟩⟩ := HSS.out _ HU.out)
      have HFLAG : Hid True := Lib.hid trivial
      go_wp2_with (go_at_call 6; first
        | (have := HFLAG; clear HFLAG this; refine (HG1.out _).mono ?_; rintro e w2 ⟨rfl, HBx⟩; have HU := Lib.hid (HU.out.trans (HBx.out.mono HU.out.size)); clear HBx; obtain ⟨⟨a0, a1, a2, a3, a4, a5⟩, ⟨b0, b1, b2, b3, b4, b5⟩⟩ := HSS.out _ HU.out)
        | (refine (HG2.out _).mono ?_; rintro e w3 ⟨rfl, HBx⟩; have HU := Lib.hid (HU.out.trans (HBx.out.mono HU.out.size)); clear HBx))
      go_ret
      exact ⟨rfl, Lib.hid (HUF.out _ HU.out)⟩
    | false =>
      go_enter Tryz.func4, Tryz.ntmps4
      go_upto_region 1 with (fail)
      clear hW1
      go_upto_region 3 with (go_at_call 5; refine (HAW.out _).mono ?_; rintro e w1 ⟨rfl, HBx⟩; have HU := Lib.hid (HU.out.trans (HBx.out.mono HU.out.size)); clear HBx; obtain ⟨⟨a0, a1, a2, a3, a4, a5⟩, ⟨b0, b1, b2, b3, b4, b5⟩⟩ := HSS.out _ HU.out)
      have HFLAG : Hid True := Lib.hid trivial
      have hrr : (r != r) = false := by simp
      go_upto_region 8 with (first
        | (go_at_call 6; have := HFLAG; clear HFLAG this; refine (HG1.out _).mono ?_; rintro e w2 ⟨rfl, HBx⟩; have HU := Lib.hid (HU.out.trans (HBx.out.mono HU.out.size)); clear HBx; obtain ⟨⟨a0, a1, a2, a3, a4, a5⟩, ⟨b0, b1, b2, b3, b4, b5⟩⟩ := HSS.out _ HU.out)
        | (go_at_call 6; refine (HG2.out _).mono ?_; rintro e w3 ⟨rfl, HBx⟩; have HU := Lib.hid (HU.out.trans (HBx.out.mono HU.out.size)); clear HBx; obtain ⟨⟨a0, a1, a2, a3, a4, a5⟩, ⟨b0, b1, b2, b3, b4, b5⟩⟩ := HSS.out _ HU.out)
        | (go_at_call 10; refine (HS1.out _ (HUF.out _ HU.out)).mono ?_; rintro e w4 ⟨rfl, HBx⟩; have HU := Lib.hid (HU.out.trans (HBx.out.mono HU.out.size)); clear HBx; obtain ⟨⟨a0, a1, a2, a3, a4, a5⟩, ⟨b0, b1, b2, b3, b4, b5⟩⟩ := HSS.out _ HU.out)
        | (go_at_call 11; refine (HS2.out _ (HUF.out _ HU.out)).mono ?_; rintro e w5 ⟨rfl, HBx⟩; have HU := Lib.hid (HU.out.trans (HBx.out.mono HU.out.size)); clear HBx; obtain ⟨⟨a0, a1, a2, a3, a4, a5⟩, ⟨b0, b1, b2, b3, b4, b5⟩⟩ := HSS.out _ HU.out))
      by_cases hm1 : May m1
      case neg =>
        have HP1 : Hid (∀ W, Below w.heap.size w W → Calls Tryz.prog 12 #[.agg #[.int .i64 i0, .int .i64 i1, .int .i64 i2, .slice A n c, .int .i64 i4, .string s1]] W fun e w' => ∃ z : Int, e = .returned (.tuple #[.string ByteArray.empty, faultV z 4]) ∧ 0 ≤ z ∧ Hid (Below W.heap.size W w')) := Lib.hid (fun W h => by
          have := mput_bad m1 g1 _ W (HR1.out.later h) hm1
          rw [HM1.out] at this
          exact this)
        have HP2 : Hid (∀ W, Below w.heap.size w W → Calls Tryz.prog 12 #[.agg #[.int .i64 j0, .int .i64 j1, .int .i64 j2, .slice B k d, .int .i64 j4, .string s2]] W fun e w' => ∃ (y : ByteArray) (v : Value), e = .returned (.tuple #[.string y, v]) ∧ Hid (Below W.heap.size W w')) := Lib.hid (fun W h => by
          by_cases hm2 : May m2
          · have := mput_ok m2 g2 _ W (HR2.out.later h) hm2
            rw [HM2.out] at this
            exact this.mono fun e w' ⟨a, b⟩ => ⟨_, _, a, b⟩
          · have := mput_bad m2 g2 _ W (HR2.out.later h) hm2
            rw [HM2.out] at this
            exact this.mono fun e w' ⟨z, a, _, b⟩ => ⟨_, _, a, b⟩)
        clear hm1
        go_wp2_with (go_at_call 12; first
          | (refine (HP1.out _ (HUF.out _ HU.out)).mono ?_; rintro e w6 ⟨z, rfl, hz, HBx⟩; have HU := Lib.hid (HU.out.trans (HBx.out.mono HU.out.size)); clear HBx HP1; obtain ⟨⟨a0, a1, a2, a3, a4, a5⟩, ⟨b0, b1, b2, b3, b4, b5⟩⟩ := HSS.out _ HU.out)
          | (refine (HP2.out _ (HUF.out _ HU.out)).mono ?_; rintro e w7 ⟨y, v, rfl, HBx⟩; have HU := Lib.hid (HU.out.trans (HBx.out.mono HU.out.size)); clear HBx))
        go_ret
        exact ⟨rfl, Lib.hid (HUF.out _ HU.out)⟩
      have HP1 : Hid (∀ W, Below w.heap.size w W → Calls Tryz.prog 12 #[.agg #[.int .i64 i0, .int .i64 i1, .int .i64 i2, .slice A n c, .int .i64 i4, .string s1]] W fun e w' => e = .returned (.tuple #[.string ⟨(manB m1).toArray⟩, .nilIface]) ∧ Hid (Below W.heap.size W w')) := Lib.hid (fun W h => by
        have := mput_ok m1 g1 _ W (HR1.out.later h) hm1
        obtain ⟨x, hx⟩ : ∃ x, manB m1 = x := ⟨_, rfl⟩
        rw [hx] at this ⊢
        rw [HM1.out] at this
        exact this)
      by_cases hm2 : May m2
      case neg =>
        have HP2 : Hid (∀ W, Below w.heap.size w W → Calls Tryz.prog 12 #[.agg #[.int .i64 j0, .int .i64 j1, .int .i64 j2, .slice B k d, .int .i64 j4, .string s2]] W fun e w' => ∃ z : Int, e = .returned (.tuple #[.string ByteArray.empty, faultV z 4]) ∧ 0 ≤ z ∧ Hid (Below W.heap.size W w')) := Lib.hid (fun W h => by
          have := mput_bad m2 g2 _ W (HR2.out.later h) hm2
          rw [HM2.out] at this
          exact this)
        obtain ⟨sa, hsa⟩ : ∃ sa : ByteArray, (⟨(manB m1).toArray⟩ : ByteArray) = sa := ⟨_, rfl⟩
        rw [hsa] at HP1
        clear hm1 hm2 hsa
        go_wp2_with (go_at_call 12; first
          | (refine (HP1.out _ (HUF.out _ HU.out)).mono ?_; rintro e w6 ⟨rfl, HBx⟩; have HU := Lib.hid (HU.out.trans (HBx.out.mono HU.out.size)); clear HBx HP1; obtain ⟨⟨a0, a1, a2, a3, a4, a5⟩, ⟨b0, b1, b2, b3, b4, b5⟩⟩ := HSS.out _ HU.out)
          | (refine (HP2.out _ (HUF.out _ HU.out)).mono ?_; rintro e w7 ⟨z, rfl, hz, HBx⟩; have HU := Lib.hid (HU.out.trans (HBx.out.mono HU.out.size)); clear HBx))
        go_ret
        exact ⟨rfl, Lib.hid (HUF.out _ HU.out)⟩
      have HP2 : Hid (∀ W, Below w.heap.size w W → Calls Tryz.prog 12 #[.agg #[.int .i64 j0, .int .i64 j1, .int .i64 j2, .slice B k d, .int .i64 j4, .string s2]] W fun e w' => e = .returned (.tuple #[.string ⟨(manB m2).toArray⟩, .nilIface]) ∧ Hid (Below W.heap.size W w')) := Lib.hid (fun W h => by
        have := mput_ok m2 g2 _ W (HR2.out.later h) hm2
        obtain ⟨x, hx⟩ : ∃ x, manB m2 = x := ⟨_, rfl⟩
        rw [hx] at this ⊢
        rw [HM2.out] at this
        exact this)
      have hst : ((⟨(manB m1).toArray⟩ : ByteArray).toList == (⟨(manB m2).toArray⟩ : ByteArray).toList) = r := by
        have a := manS_dec hm1 hm2
        have b := HRR.out
        obtain ⟨t, ht⟩ : ∃ t, ((⟨(manB m1).toArray⟩ : ByteArray).toList == (⟨(manB m2).toArray⟩ : ByteArray).toList) = t := ⟨_, rfl⟩
        rw [ht] at a ⊢
        cases t <;> cases r <;> simp_all
      obtain ⟨sa, hsa⟩ : ∃ sa : ByteArray, (⟨(manB m1).toArray⟩ : ByteArray) = sa := ⟨_, rfl⟩
      obtain ⟨sb, hsb⟩ : ∃ sa : ByteArray, (⟨(manB m2).toArray⟩ : ByteArray) = sa := ⟨_, rfl⟩
      rw [hsa, hsb] at hst
      rw [hsa] at HP1
      rw [hsb] at HP2
      have hrq : (r == r) = true := by simp
      clear hm1 hm2 hsa hsb
      go_wp2_with (go_at_call 12; first
        | (refine (HP1.out _ (HUF.out _ HU.out)).mono ?_; rintro e w6 ⟨rfl, HBx⟩; have HU := Lib.hid (HU.out.trans (HBx.out.mono HU.out.size)); clear HBx HP1; obtain ⟨⟨a0, a1, a2, a3, a4, a5⟩, ⟨b0, b1, b2, b3, b4, b5⟩⟩ := HSS.out _ HU.out)
        | (refine (HP2.out _ (HUF.out _ HU.out)).mono ?_; rintro e w7 ⟨rfl, HBx⟩; have HU := Lib.hid (HU.out.trans (HBx.out.mono HU.out.size)); clear HBx))
      go_ret
      exact ⟨by simp, Lib.hid (HUF.out _ HU.out)⟩
theorem same_row (i0 i1 i2 : Int) (A : Option Addr) (n c : Nat) (i4 : Int) (s1 : ByteArray) (g1 : Nat) (l1 : List E2) (j0 j1 j2 : Int) (B : Option Addr) (k d : Nat) (j4 : Int) (s2 : ByteArray) (g2 : Nat) (l2 : List E2) (w : World) (h1 : TBR w g1 (.slice A n c) l1) (h2 : TBR w g2 (.slice B k d) l2) :
    Calls Tryz.prog 4 #[.agg #[.int .i64 i0, .int .i64 i1, .int .i64 i2, .slice A n c, .int .i64 i4, .string s1], .agg #[.int .i64 j0, .int .i64 j1, .int .i64 j2, .slice B k d, .int .i64 j4, .string s2]] w fun e w' => e = .returned (.bool true) ∧ Below w.heap.size w w' :=
  (same_walk i0 i1 i2 A n c i4 s1 g1 l1 j0 j1 j2 B k d j4 s2 g2 l2 w h1 h2).mono fun e w' h => ⟨h.1, h.2.out⟩
end Go.Proofs.YtjokfllldcjheaaGreat.Mn
