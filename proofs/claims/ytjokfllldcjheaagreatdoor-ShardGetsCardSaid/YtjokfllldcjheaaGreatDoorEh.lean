/- edges: Compact at edges; Norm. -/
import Derived.Test.YtjokfllldcjheaaGreatDoorEg
namespace Go.Proofs.YtjokfllldcjheaaGreatDoor.Ed
open Go.RowKit Go.Sort
set_option linter.unusedVariables false
set_option linter.unusedSimpArgs false

theorem EO.at {w : World} {base g cap : Nat} {l : List E2} (h : EO w base (.slice (some ⟨g, 0, none⟩) l.length cap) l) (i : Nat) (hi : i < l.length) :
    (w.cell? ⟨g, i * 2, none⟩ = some (.int .i64 (l.getD i (0, 0)).1) ∧ w.cell? ⟨g, i * 2 + 1, none⟩ = some (.int .i64 (l.getD i (0, 0)).2)) ∧ w.frozen? ⟨g, i * 2, none⟩ = false ∧ w.frozen? ⟨g, i * 2 + 1, none⟩ = false := by
  have e := ecells_get l i hi
  exact ⟨⟨(World.ownsRow.cellAt h _ (by omega)).trans e.1, (World.ownsRow.cellAt h _ (by omega)).trans e.2⟩, World.ownsRow.frozenAt h _, World.ownsRow.frozenAt h _⟩
theorem EO.drewN {w : World} {base : Nat} {v : Value} {l : List E2} (h : EO w base v l) (n : Nat) : EO (w.drewN n) base v l := h
theorem arr_get (l : List E2) (i : Nat) (h : i < l.length) : l.toArray[i]! = l.getD i (0, 0) := by
  rw [getElem!_pos l.toArray i (by simpa using h)]
  simp [List.getD_eq_getElem?_getD, h]
theorem ddp_short {l : List E2} (h : l.length < 2) : ddp l = l := by
  match l, h with
  | [], _ => rfl
  | [x], _ => rfl
set_option maxHeartbeats 4000000 in
set_option maxRecDepth 100000 in
theorem compact_two (base g cap n : Nat) (l : List E2) (w : World) (h : EO w base (.slice (some ⟨g, 0, none⟩) l.length cap) l) (hn : l.length = n) (hl : n ≤ 1000000) (h2 : 2 ≤ n) :
    Calls Tryz.prog 77 #[.slice (some ⟨g, 0, none⟩) n cap] w fun e w' => ∃ m, e = .returned (.slice (some ⟨g, 0, none⟩) m cap) ∧ EO w' base (.slice (some ⟨g, 0, none⟩) m cap) (ddp l) ∧ w.grownBy w' (some g) := by
  have hcap : n ≤ cap ∧ cap ≤ 9223372036854775807 := by
    obtain ⟨A, c, hv, h1, h2⟩ := h.shape
    injection hv with _ _ hv
    subst hv
    rw [hn] at h1
    exact ⟨h1, h2⟩
  have HH := Lib.hid h
  have HN := Lib.hid hn
  have HD := Lib.hid (compact_ddp l n (by omega))
  have hb2 : (2 : Int) ≤ (n : Int) := by omega
  obtain ⟨hcap1, hcap2⟩ := hcap
  clear h hn
  go_enter Tryz.func77, Tryz.ntmps77
  go_upto_region 4 with (fail)
  go_loopg [3] n (fun gg s3 wr => ∃ k q : Nat, 1 ≤ k ∧ k ≤ n ∧ n - k ≤ gg ∧ s3 = .int .i64 (k : Int) ∧ wr = w.drewN q ∧ Hid (∀ j, j < k → Lib.keeps l.toArray j = true))
  case atStart => exact ⟨1, 0, Nat.le_refl _, by omega, by omega, rfl, rfl, Lib.hid (Lib.keeps_lt_one _)⟩
  case round =>
    obtain ⟨k, q, hk1, hk, hg, rfl, rfl, HA⟩ := hrel
    by_cases hlt : k < n
    · obtain ⟨⟨c0, c1⟩, -⟩ := HH.out.at k (by rw [HN.out]; exact hlt)
      obtain ⟨⟨d0, d1⟩, -⟩ := HH.out.at (k - 1) (by rw [HN.out]; omega)
      obtain ⟨⟨x, x'⟩, hx⟩ : ∃ x, l.getD k (0, 0) = x := ⟨_, rfl⟩
      obtain ⟨⟨y, y'⟩, hy⟩ : ∃ y, l.getD (k - 1) (0, 0) = y := ⟨_, rfl⟩
      rw [hx] at c0 c1
      rw [hy] at d0 d1
      simp only at c0 c1 d0 d1
      have HX : Hid (l.toArray[k]! = (x, x') ∧ l.toArray[k - 1]! = (y, y')) := Lib.hid ⟨by rw [arr_get l k (by rw [HN.out]; exact hlt), hx], by rw [arr_get l (k - 1) (by rw [HN.out]; omega), hy]⟩
      have hgd := fun (op : BinOp) (p q : Operand) (w : World) => guard_run op p q (x, x') (y, y') w
      simp only at hgd
      have i0 : (0 : Int) ≤ (k : Int) := by omega
      have i1 : (k : Int) < (n : Int) := by omega
      have i2 : (1 : Int) ≤ (k : Int) := by omega
      have i3 : (k : Int) - 1 < (n : Int) := by omega
      have i4 : IntKind.i64.wrap ((k : Int) - 1) = (k : Int) - 1 := IntWalk.i64_in _ (by omega)
      have i5 : ((k : Int) - 1).toNat = k - 1 := by omega
      have i6 : (0 : Int) ≤ (k : Int) - 1 := by omega
      clear hx hy
      by_cases hdup : (x, x') = (y, y')
      · have heq : ∀ w, (binOp .eql 68 (.agg #[.int .i64 x, .int .i64 x']) (.agg #[.int .i64 y, .int .i64 y'])).run Tryz.prog w = .ok (.bool true) w := fun w => by
          have := eql_run (x, x') (y, y') w
          rwa [decide_eq_true hdup] at this
        have HDUP := Lib.hid hdup
        clear hdup
        go_upto_region 6 with (fail)
        go_quiet (fail)
        clear i4 i5 hgd heq c0 c1 d0 d1
        go_wp2
        have HC0 : Hid (Lib.CompInv l.toArray (k + 1) k l.toArray) := Lib.hid (Lib.CompInv.start HA.out (Lib.keeps_neg (by omega) (by rw [HX.out.1, HX.out.2]; exact HDUP.out)))
        have HN0 : Hid (l.length = n) := HN
        go_loopg [3, 5] n (fun gg s3 s5 wr => ∃ (kk k2 : Nat) (dl : List E2), s3 = .int .i64 (kk : Int) ∧ s5 = .int .i64 (k2 : Int) ∧ 1 ≤ k2 ∧ k + k2 ≤ n ∧ n - (k + k2) ≤ gg ∧ Hid (dl.length = n) ∧ Hid (EO wr base (.slice (some ⟨g, 0, none⟩) dl.length cap) dl) ∧ Hid (w.grownBy wr (some g)) ∧ Hid (Lib.CompInv l.toArray (k + k2) kk dl.toArray))
        case atStart => exact ⟨k, 1, l, rfl, rfl, Nat.le_refl _, by omega, by omega, HN0, Lib.hid (HH.out.drewN _), Lib.hid (grown_below (drewN_below _ _ _) _), HC0⟩
        case round =>
          obtain ⟨kk, k2, dl, rfl, rfl, h1, hle, hg2, HDL, HE, HG, HC⟩ := hrel
          have hkk := HC.out.lt
          by_cases hlt2 : k + k2 < n
          · obtain ⟨⟨c0, c1⟩, -⟩ := HE.out.at (k + k2) (by rw [HDL.out]; exact hlt2)
            obtain ⟨⟨d0, d1⟩, -⟩ := HE.out.at (k + k2 - 1) (by rw [HDL.out]; omega)
            obtain ⟨⟨b0, b1⟩, ⟨f0, f1⟩⟩ := HE.out.at kk (by rw [HDL.out]; omega)
            have e1 := HC.out.high (k + k2) (by omega)
            have e2 := HC.out.high (k + k2 - 1) (by omega)
            rw [arr_get dl _ (by rw [HDL.out]; omega)] at e1 e2
            obtain ⟨⟨u, u'⟩, hu⟩ : ∃ x, dl.getD (k + k2) (0, 0) = x := ⟨_, rfl⟩
            obtain ⟨⟨v, v'⟩, hv⟩ : ∃ x, dl.getD (k + k2 - 1) (0, 0) = x := ⟨_, rfl⟩
            rw [hu] at c0 c1 e1
            rw [hv] at d0 d1 e2
            generalize dl.getD kk (0, 0) = old at b0 b1
            obtain ⟨z, z'⟩ := old
            simp only at c0 c1 d0 d1 b0 b1
            rw [show (k + k2) * 2 = k * 2 + k2 * 2 by omega] at c0 c1
            rw [show (k + k2 - 1) * 2 = k * 2 + (k2 - 1) * 2 by omega] at d0 d1
            have HU := Lib.hid (And.intro e1 e2)
            have hgd := fun (op : BinOp) (p q : Operand) (w : World) => guard_run op p q (u, u') (v, v') w
            simp only at hgd
            have j0 : (0 : Int) ≤ (k2 : Int) := by omega
            have j1 : (k2 : Int) < ((n - k : Nat) : Int) := by omega
            have j2 : (1 : Int) ≤ (k2 : Int) := by omega
            have j3 : (k2 : Int) - 1 < ((n - k : Nat) : Int) := by omega
            have j4 : IntKind.i64.wrap ((k2 : Int) - 1) = (k2 : Int) - 1 := IntWalk.i64_in _ (by omega)
            have j5 : ((k2 : Int) - 1).toNat = k2 - 1 := by omega
            have j6 : (0 : Int) ≤ (k2 : Int) - 1 := by omega
            clear hu hv e1 e2
            by_cases huv : (u, u') = (v, v')
            · have heq : ∀ w, (binOp .neq 68 (.agg #[.int .i64 u, .int .i64 u']) (.agg #[.int .i64 v, .int .i64 v'])).run Tryz.prog w = .ok (.bool false) w := fun w => by
                have := neq_run (u, u') (v, v') w
                rwa [decide_eq_true huv] at this
              have HUV := Lib.hid huv
              clear huv
              go_upto_region 11 with (fail)
              go_quiet (fail)
              clear j4 j5
              go_wp2
              go_roundg (n - (k + (k2 + 1)))
              case measure => omega
              case rel => exact ⟨kk, k2 + 1, dl, rfl, by go_num, by omega, by omega, by omega, HDL, Lib.hid (HE.out.drewN _), Lib.hid (HG.out.trans (grown_below (drewN_below _ _ _) _)), Lib.hid (HC.out.skip (Lib.keeps_neg (by omega) (by rw [← HU.out.1, ← HU.out.2]; exact HUV.out)))⟩
            · have heq : ∀ w, (binOp .neq 68 (.agg #[.int .i64 u, .int .i64 u']) (.agg #[.int .i64 v, .int .i64 v'])).run Tryz.prog w = .ok (.bool true) w := fun w => by
                have := neq_run (u, u') (v, v') w
                rwa [decide_eq_false huv] at this
              have HUV := Lib.hid huv
              clear huv
              go_upto_region 11 with (fail)
              go_quiet (fail)
              clear j4 j5
              have j7 : (kk : Int) < (n : Int) := by omega
              go_wp2
              go_roundg (n - (k + (k2 + 1)))
              case measure => omega
              case rel =>
                obtain ⟨s1, s2⟩ := (HE.out.drewN nq).set kk (u, u')
                have hk := HC.out.keep (by rw [List.size_toArray, HN.out]; exact hlt2) (Lib.keeps_pos (by rw [← HU.out.1, ← HU.out.2]; exact HUV.out))
                refine ⟨kk + 1, k2 + 1, dl.set kk (u, u'), by go_num, by go_num, by omega, by omega, by omega, Lib.hid (by rw [List.length_set]; exact HDL.out), Lib.hid (by rw [List.length_set]; exact s1), Lib.hid ((HG.out.trans (grown_below (drewN_below _ _ nq) _)).trans s2), Lib.hid ?_⟩
                show Lib.CompInv l.toArray (k + k2 + 1) (kk + 1) (dl.set kk (u, u')).toArray
                rw [← HU.out.1] at hk
                simpa using hk
          · have hend : k + k2 = n := by omega
            obtain ⟨vs, hcl⟩ := clear_run wr 0 g (kk * 2) (n - kk) (cap - kk) (by omega) (fun j hj => by
              obtain ⟨i, hi⟩ : ∃ i, j = i * 2 ∨ j = i * 2 + 1 := ⟨j / 2, by omega⟩
              obtain ⟨⟨a1, a2⟩, -⟩ := HE.out.at (kk + i) (by rw [HDL.out]; omega)
              rcases hi with rfl | rfl
              · rw [show kk * 2 + i * 2 = (kk + i) * 2 by omega, a1]; rfl
              · rw [show kk * 2 + (i * 2 + 1) = (kk + i) * 2 + 1 by omega, a2]; rfl) (fun j hj => World.ownsRow.frozenAt HE.out _)
            obtain ⟨s1, s2⟩ := HE.out.wipe kk (by rw [HDL.out]; omega) vs
            have HS := Lib.hid (And.intro s1 s2)
            have HEND := Lib.hid hend
            have k2n : ¬ (k2 : Int) < ((n - k : Nat) : Int) := by omega
            clear s1 s2 hend
            have j7 : (kk : Int) ≤ (n : Int) := by omega
            go_wp2
            go_ret
            refine ⟨kk, rfl, ?_, HG.out.trans HS.out.2⟩
            have e1 : dl.take kk = ddp l := by
              have h1 := HD.out
              rw [List.take_of_length_le (by rw [HN.out]; omega), ← HEND.out] at h1
              rw [← h1]
              apply List.ext_getElem?
              intro j
              by_cases hj : j < kk
              · have h5 := HC.out.low j hj
                rw [h5, List.getElem?_take, if_pos hj, arr_get dl j (by rw [HDL.out]; omega), List.getElem?_eq_getElem (by rw [HDL.out]; omega)]
                simp [List.getD_eq_getElem?_getD, show j < dl.length by rw [HDL.out]; omega]
              · rw [List.getElem?_take, if_neg hj, List.getElem?_eq_none (by rw [HC.out.len]; omega)]
            rw [← e1]
            exact HS.out.1
      · have heq : ∀ w, (binOp .eql 68 (.agg #[.int .i64 x, .int .i64 x']) (.agg #[.int .i64 y, .int .i64 y'])).run Tryz.prog w = .ok (.bool false) w := fun w => by
          have := eql_run (x, x') (y, y') w
          rwa [decide_eq_false hdup] at this
        have HDUP := Lib.hid hdup
        clear hdup
        go_upto_region 6 with (fail)
        go_quiet (fail)
        clear i4 i5
        go_wp2
        go_roundg (n - (k + 1))
        case measure => omega
        case rel =>
          refine ⟨k + 1, q + nq, by omega, by omega, Nat.le_refl _, by go_num, rfl, Lib.hid (fun j hj => ?_)⟩
          by_cases e : j = k
          · subst e
            exact Lib.keeps_pos (by rw [HX.out.1, HX.out.2]; exact HDUP.out)
          · exact HA.out j (by omega)
    · obtain rfl : n = k := by omega
      go_wp2
      go_ret
      have e1 : ddp l = l := by
        have h1 := HD.out
        rw [Lib.compactUpTo_all _ _ HA.out, List.take_of_length_le (by rw [HN.out]; omega)] at h1
        rw [← h1, ← HN.out]
        have := Lib.range_map_get l.toArray
        simpa using this
      rw [e1, ← HN.out]
      exact ⟨_, rfl, HH.out, grown_below (drewN_below _ _ _) _⟩
end Go.Proofs.YtjokfllldcjheaaGreatDoor.Ed
