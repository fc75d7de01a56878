/- shard: numbers of nodes that may not be; the reference's Rows. -/
import Derived.Test.YtjokfllldcjheaaGreatDoorRk
namespace Go.Proofs.YtjokfllldcjheaaGreatDoor.Oc
open Go.RowKit Go.Proofs.YtjokfllldcjheaaGreatDoor.Sha Go.Proofs.YtjokfllldcjheaaGreatDoor.Ro Go.Proofs.YtjokfllldcjheaaGreatDoor.Cs Go.Proofs.YtjokfllldcjheaaGreatDoor.Ed
set_option linter.unusedVariables false
set_option linter.unusedSimpArgs false
set_option maxHeartbeats 1000000 in
theorem heads_arg (s : ByteArray) (n : Int) (h : n < 0 ∨ n > 4096) (w : World) :
    Calls Tryz.prog 52 #[.string s, .int .i64 n] w fun e w' => e = .returned (.tuple #[.agg #[.int .i64 0, .int .i64 0, .int .i64 0], noV 1]) ∧ Hid (Below w.heap.size w w') := by
  have HA : Hid (Below w.heap.size w (w.alloc (.cells #[.int .i64 0, .int .i64 0, .int .i64 0] 111))) := Lib.hid ((Below.refl _ _).alloc (Nat.le_refl _) _)
  have h2 : n < 0 ∨ (¬ n < 0 ∧ n > 4096) := by omega
  clear h
  rcases h2 with h1 | ⟨h1, h2⟩
  all_goals
    go_enter Tryz.func52, Tryz.ntmps52
    go_wp2
    exact bodyPost_ret (cell2_result (heap_alloc_new w _) rfl _ rfl Tryz.underlying111 (by kernel_rfl) rfl) rfl ⟨rfl, HA⟩
set_option maxHeartbeats 2000000 in
theorem get_arg (s : ByteArray) (n : Int) (h : n < 0 ∨ n > 4096) (w : World) :
    Calls Tryz.prog 20 #[.string s, .int .i64 n] w fun e w' => e = .returned (.tuple #[.agg #[.int .i64 0, .slice none 0 0], noV 1]) ∧ Hid (Below w.heap.size w w') := by
  have HH := Lib.hid (fun W => heads_arg s n h W)
  have HB0 : Hid (Below w.heap.size w (w.alloc (.cells #[.int .i64 0, .slice none 0 0] 50))) := Lib.hid ((Below.refl _ _).alloc (Nat.le_refl _) _)
  have HR0 : Hid ((w.alloc (.cells #[.int .i64 0, .slice none 0 0] 50)).heap[w.heap.size]? = some (.cells #[.int .i64 0, .slice none 0 0] 50 (0, 0))) := Lib.hid (heap_alloc_new w _)
  clear h
  go_enter Tryz.func20, Tryz.ntmps20
  go_upto_region 3 with (go_at_call 52; refine (HH.out _).mono ?_; rintro e w1 ⟨rfl, HB1⟩)
  obtain ⟨hBW, hrW⟩ := box_later HB0.out HR0.out (HB1.out.alloc HB1.out.size (.cells #[.int .i64 0, .int .i64 0, .int .i64 0] 111))
  generalize w1.alloc (.cells #[.int .i64 0, .int .i64 0, .int .i64 0] 111) = W at *
  have HBW := Lib.hid hBW
  have HRW := Lib.hid hrW
  clear hBW hrW
  obtain ⟨f0, f1, f2, f3, f4⟩ := box2 HRW.out (.int .i64 0) (.slice none 0 0)
  have HF4 := Lib.hid f4
  clear f4
  go_wp2
  exact bodyPost_ret (cell2_result HF4.out rfl _ rfl Tryz.underlying50 (by kernel_rfl) rfl) rfl ⟨rfl, Lib.hid ((HBW.out.setCell (Nat.le_refl _) _).setCell (Nat.le_refl _) _)⟩
set_option maxHeartbeats 2000000 in
theorem sought_arg (s : ByteArray) (n v : Int) (h : n < 0 ∨ n > 4096) (w : World) :
    Calls Tryz.prog 56 #[.string s, .int .i64 n, .int .i64 v] w fun e w' => e = .returned (.tuple #[.int .i64 0, noV 1]) ∧ Hid (Below w.heap.size w w') := by
  have HH := Lib.hid (fun W => heads_arg s n h W)
  clear h
  go_enter Tryz.func56, Tryz.ntmps56
  go_wp2_with (go_at_call 52; refine (HH.out _).mono ?_; rintro e w1 ⟨rfl, HB1⟩)
  go_ret2
  exact ⟨rfl, Lib.hid (HB1.out.alloc HB1.out.size _)⟩
set_option maxHeartbeats 2000000 in
theorem find_arg (s : ByteArray) (n v : Int) (h : n < 0 ∨ n > 4096) (w : World) :
    Calls Tryz.prog 21 #[.string s, .int .i64 n, .int .i64 v] w fun e w' => e = .returned (.tuple #[.slice none 0 0, noV 1]) ∧ Hid (Below w.heap.size w w') := by
  have HH := Lib.hid (fun W => sought_arg s n v h W)
  clear h
  go_enter Tryz.func21, Tryz.ntmps21
  go_wp2_with (go_at_call 56; refine (HH.out _).mono ?_; rintro e w1 ⟨rfl, HB1⟩)
  go_ret2
  exact ⟨rfl, HB1⟩
set_option maxHeartbeats 2000000 in
theorem sdegree_arg (s : ByteArray) (n v : Int) (h : n < 0 ∨ n > 4096) (w : World) :
    Calls Tryz.prog 22 #[.string s, .int .i64 n, .int .i64 v] w fun e w' => e = .returned (.tuple #[.int .i64 0, noV 1]) ∧ Hid (Below w.heap.size w w') := by
  have HH := Lib.hid (fun W => sought_arg s n v h W)
  clear h
  go_enter Tryz.func22, Tryz.ntmps22
  go_wp2_with (go_at_call 56; refine (HH.out _).mono ?_; rintro e w1 ⟨rfl, HB1⟩)
  go_ret2
  exact ⟨rfl, HB1⟩
set_option maxHeartbeats 4000000 in
set_option maxRecDepth 100000 in
theorem rrows_calls (K1 K2 : Nat → Prop) (u v : Value) (LL : List (List Int)) (w : World) (hu : RR w K1 u LL) (hv : RR w K2 v LL) (hl : LL.length ≤ 1000000) :
    Calls Tryz.prog 26 #[u, v] w fun e w' => e = .returned (.bool true) ∧ Hid (Below w.heap.size w w') := by
  have HU := Lib.hid hu
  have HV := Lib.hid hv
  obtain ⟨uA, uc, hu1, -⟩ := hu.shape
  obtain ⟨vA, vc, hv1, -⟩ := hv.shape
  obtain ⟨n, hn⟩ : ∃ n, LL.length = n := ⟨_, rfl⟩
  rw [hn] at hu1 hv1 hl
  have HN := Lib.hid hn
  subst hu1 hv1
  clear hu hv hn
  go_enter Tryz.func26, Tryz.ntmps26
  go_upto_region 4 with (fail)
  go_loopw [5] (fun x wz => ∃ i : Nat, x = .int .i64 (i : Int) ∧ i ≤ n ∧ Hid (Below w.heap.size w wz)) (fun x _ => n - (intOf x).toNat)
  case atStart => exact ⟨0, rfl, Nat.zero_le _, Lib.hid (Below.refl _ _)⟩
  case round =>
    obtain ⟨i, rfl, hi, HB⟩ := hrel
    generalize wr = wi at *
    by_cases hlt : i < n
    · have i1 : (i : Int) < (n : Int) := by omega
      obtain ⟨gu, ou, tu, g1, hA1, -, -, c1, j1, -⟩ := rr_row (HU.out.later HB.out) (k := i) (by rw [HN.out]; exact hlt)
      obtain ⟨gv, ov, tv, g2, hA2, -, -, c2, j2, -⟩ := rr_row (HV.out.later HB.out) (k := i) (by rw [HN.out]; exact hlt)
      subst hA1 hA2
      obtain ⟨T, hT⟩ : ∃ T, LL.getD i [] = T := ⟨_, rfl⟩
      rw [hT] at j1 j2
      obtain ⟨A1, k1, ht1, -⟩ := id j1.form
      obtain ⟨A2, k2, ht2, -⟩ := id j2.form
      obtain ⟨tn, htn⟩ : ∃ tn, T.length = tn := ⟨_, rfl⟩
      rw [htn] at ht1 ht2
      subst ht1 ht2
      have HIN : Hid (∀ X, Below wi.heap.size wi X → Calls Tryz.prog 24 #[.slice A1 tn k1, .slice A2 tn k2] X fun e w' => e = .returned (.bool true) ∧ Hid (Below X.heap.size X w')) := Lib.hid (fun X h => (ints_b g1 g2 _ _ T T X (j1.later h) (j2.later h)).mono fun e w' h => ⟨h.1.trans (by simp), h.2⟩)
      have HCQ : Hid (∀ X, Below wi.heap.size wi X → X.cell? ⟨gu, ou + i, none⟩ = some (.slice A1 tn k1) ∧ X.cell? ⟨gv, ov + i, none⟩ = some (.slice A2 tn k2)) := Lib.hid (fun X h => ⟨(h.cell (p := ⟨gu, ou + i, none⟩) (World.block_lt_of_cell? _ _ c1)).trans c1, (h.cell (p := ⟨gv, ov + i, none⟩) (World.block_lt_of_cell? _ _ c2)).trans c2⟩)
      have HBB : Hid (Below wi.heap.size wi wi.drew) := Lib.hid (Below.refl _ _).drew
      have i0 : (0 : Int) ≤ (i : Int) := by omega
      clear j1 j2 hT htn
      go_upto_region 6 with (fail)
      go_region_held3 (fun X => X.cell? ⟨gu, ou + i, none⟩ = some (.slice A1 tn k1) ∧ X.cell? ⟨gv, ov + i, none⟩ = some (.slice A2 tn k2))
        (first | (go_keep; done) | exact HCQ.out _ HBB.out)
        (first
          | (go_at_call 24; refine (HIN.out _ HBB.out).mono ?_; rintro e w2 ⟨rfl, HB2⟩; have HBB := Lib.hid (HBB.out.trans (HB2.out.mono HBB.out.size))))
      go_wp2
      go_roundw
      case rel => exact ⟨i + 1, by go_num, by omega, Lib.hid (HB.out.trans (HBB.out.mono HB.out.size))⟩
      case measure => simp [intOf]; omega
    · obtain rfl : n = i := by omega
      have i1 : ¬ (n : Int) < (n : Int) := by omega
      go_wp2
      go_ret
      exact ⟨rfl, HB⟩
end Go.Proofs.YtjokfllldcjheaaGreatDoor.Oc
