/- reference 10: Total, Wrong of a manifest that may be. -/
import Derived.Test.YtjokfllldcjheaaGreatDoorMa
namespace Go.Proofs.YtjokfllldcjheaaGreatDoor.Mn
open Go.RowKit Go.Proofs.YtjokfllldcjheaaGreatDoor.Oc Go.Proofs.YtjokfllldcjheaaGreatDoor.Ed Go.Proofs.YtjokfllldcjheaaGreatDoor.Tb Go.Proofs.YtjokfllldcjheaaGreatDoor.Sha Go.Proofs.YtjokfllldcjheaaGreatDoor.Cs Go.Proofs.YtjokfllldcjheaaGreatDoor.Mk
set_option linter.unusedVariables false
set_option linter.unusedSimpArgs false
set_option maxHeartbeats 4000000 in
set_option maxRecDepth 100000 in
theorem rtotal10_calls (m : Man) (g : Nat) (tv : Value) (w : World) (hr : TBR w g tv m.sh) (hl : m.sh.length ≤ 100) (hb : ∀ k, k ≤ m.sh.length → 0 ≤ tot (m.sh.take k) ∧ tot (m.sh.take k) ≤ 1048576 * k) :
    Calls Tryz.prog 68 #[manV m tv] w fun e w' => e = .returned (.int .i64 (tot m.sh)) ∧ Hid (Below w.heap.size w w') := by
  obtain ⟨i0, i1, i2, l, i4, rt⟩ := m
  simp only at hr hl hb ⊢
  have HR := Lib.hid hr
  obtain ⟨o, A, c, rfl, h1, h2, -⟩ := id hr
  obtain ⟨len, hlen⟩ : ∃ len, l.length = len := ⟨_, rfl⟩
  rw [hlen] at h1 hl ⊢
  have HL := Lib.hid hlen
  have HB0 := Lib.hid hb
  obtain ⟨W1, hW1⟩ : ∃ W1, w.alloc (.cells #[.int .i64 i0, .int .i64 i1, .int .i64 i2, .slice A len c, .int .i64 i4, .string rt] 73) = W1 := ⟨_, rfl⟩
  have HX0 : Hid (W1.heap[w.heap.size]? = some (.cells #[.int .i64 i0, .int .i64 i1, .int .i64 i2, .slice A len c, .int .i64 i4, .string rt] 73 (0, 0))) := Lib.hid (by rw [← hW1]; exact heap_alloc_new w _)
  have HBX : Hid (Below w.heap.size w W1) := Lib.hid (by rw [← hW1]; exact (Below.refl _ _).alloc (Nat.le_refl _) _)
  have HC3 : Hid (∀ X, Below W1.heap.size W1 X → X.cell? ⟨w.heap.size, 3, none⟩ = some (.slice A len c)) := Lib.hid (fun X h => (man_cells (m := ⟨i0, i1, i2, l, i4, rt⟩) ((h.block _ (Array.getElem?_eq_some_iff.1 HX0.out).1).trans HX0.out)).2.2.2.1)
  clear hr hlen hb HX0
  go_enter Tryz.func68, Tryz.ntmps68
  go_upto_region 3 with (fail)
  clear hW1
  go_loopw [3, 4] (fun u x wz => ∃ k : Nat, x = .int .i64 (k : Int) ∧ k ≤ len ∧ u = .int .i64 (tot (l.take k)) ∧ Hid (Below W1.heap.size W1 wz)) (fun _ x _ => len - (intOf x).toNat)
  case atStart => exact ⟨0, rfl, by omega, rfl, Lib.hid (Below.refl _ _)⟩
  case round =>
    obtain ⟨k, rfl, hk, rfl, HK⟩ := hrel
    have z3 := HC3.out _ HK.out
    have hb := HB0.out k (by rw [HL.out]; exact hk)
    obtain ⟨q, hq⟩ : ∃ q, tot (l.take k) = q := ⟨_, rfl⟩
    rw [hq] at hb ⊢
    by_cases hlt : k < len
    · obtain ⟨o', A', c', hv', -, -, hread⟩ := HR.out.later (HBX.out.trans (HK.out.mono HBX.out.size))
      rw [HL.out] at hread hv'
      obtain ⟨rfl, -, hcell⟩ := hread (by omega)
      injection hv' with hv' _ hcc
      subst hcc hv'
      obtain ⟨-, q1⟩ := hcell k hlt
      have hst := tot_take l k (by rw [HL.out]; exact hlt)
      have hb' := HB0.out (k + 1) (by rw [HL.out]; omega)
      obtain ⟨y, hy⟩ : ∃ y, (l.getD k (0, 0)).2 = y := ⟨_, rfl⟩
      rw [hy] at q1 hst
      rw [hq] at hst
      rw [hst] at hb'
      have hqy : IntKind.i64.wrap (q + y) = q + y := IntWalk.i64_in _ (by omega)
      have HS := Lib.hid hst
      have hk0 : (0 : Int) ≤ (k : Int) := by omega
      have hk1 : (k : Int) < (len : Int) := by omega
      clear hcell hread hst hy hb' hq hb
      go_wp2
      go_roundw
      case rel => exact ⟨k + 1, by go_num, by omega, by rw [HS.out], HK⟩
      case measure => simp [intOf]; omega
    · obtain rfl : k = len := by omega
      have HQ : Hid (tot l = q) := Lib.hid (by rw [← hq, ← HL.out, List.take_length])
      clear hq hb
      go_wp2
      go_ret
      exact ⟨by rw [HQ.out]; rfl, Lib.hid (HBX.out.trans (HK.out.mono HBX.out.size))⟩
set_option maxHeartbeats 8000000 in
set_option maxRecDepth 100000 in
theorem wrong10_nil (i0 i2 : Int) (rt : ByteArray) (A : Option Addr) (c g : Nat) (w : World) (hr : TBR w g (.slice A 0 c) []) (hv : 1 ≤ i0 ∧ i0 ≤ 1099511627776) (he : 0 ≤ i2 ∧ i2 ≤ 20000) (hrt : rt.size = 32) :
    Calls Tryz.prog 36 #[manV ⟨i0, 0, i2, [], 0, rt⟩ (.slice A 0 c)] w fun e w' => e = .returned (.int .i64 (-1)) ∧ Hid (Below w.heap.size w w') := by
  have HT : Hid (∀ W, Below w.heap.size w W → Calls Tryz.prog 68 #[manV ⟨i0, 0, i2, [], 0, rt⟩ (.slice A 0 c)] W fun e w' => e = .returned (.int .i64 0) ∧ Hid (Below W.heap.size W w')) := Lib.hid (fun W h => rtotal10_calls ⟨i0, 0, i2, [], 0, rt⟩ g _ W (hr.later h) (by simp) (fun k hk => by simp at hk; subst hk; simp [tot]))
  have g0 : ¬ i0 < 1 := by omega
  have g1 : ¬ 1099511627776 < i0 := by omega
  have g4 : ¬ i2 < 0 := by omega
  have g5 : ¬ 20000 < i2 := by omega
  have hr3 : (((rt.size : Nat) : Int) != 32) = false := by rw [bne_eq_false_iff_eq]; omega
  obtain ⟨W1, hW1⟩ : ∃ W1, w.alloc (.cells #[.int .i64 i0, .int .i64 0, .int .i64 i2, .slice A 0 c, .int .i64 0, .string rt] 73) = W1 := ⟨_, rfl⟩
  have HX0 : Hid (W1.heap[w.heap.size]? = some (.cells #[.int .i64 i0, .int .i64 0, .int .i64 i2, .slice A 0 c, .int .i64 0, .string rt] 73 (0, 0))) := Lib.hid (by rw [← hW1]; exact heap_alloc_new w _)
  have HBX : Hid (Below w.heap.size w W1) := Lib.hid (by rw [← hW1]; exact (Below.refl _ _).alloc (Nat.le_refl _) _)
  obtain ⟨xb, hxb⟩ : ∃ xb, w.heap.size = xb := ⟨_, rfl⟩
  have HXB := Lib.hid hxb
  rw [hxb] at HX0
  have HSS : Hid (∀ X, Below W1.heap.size W1 X → X.cell? ⟨xb, 0, none⟩ = some (.int .i64 i0) ∧ X.cell? ⟨xb, 1, none⟩ = some (.int .i64 0) ∧ X.cell? ⟨xb, 2, none⟩ = some (.int .i64 i2) ∧ X.cell? ⟨xb, 3, none⟩ = some (.slice A 0 c) ∧ X.cell? ⟨xb, 4, none⟩ = some (.int .i64 0) ∧ X.cell? ⟨xb, 5, none⟩ = some (.string rt)) := Lib.hid (fun X h => man_cells (m := ⟨i0, 0, i2, [], 0, rt⟩) ((h.block xb (Array.getElem?_eq_some_iff.1 HX0.out).1).trans HX0.out))
  have HUF : Hid (∀ X, Below W1.heap.size W1 X → Below w.heap.size w X) := Lib.hid (fun X h => HBX.out.trans (h.mono HBX.out.size))
  have HU : Hid (Below W1.heap.size W1 W1) := Lib.hid (Below.refl _ _)
  obtain ⟨s0, s1, s2, s3, s4, s5⟩ := HSS.out _ HU.out
  clear hr HX0 hv he hrt
  go_enter Tryz.func36, Tryz.ntmps36
  go_upto_region 10 with (fail)
  clear hW1 hxb s0 s1 s2 s3 s4 s5 g0 g1 g4 g5
  go_loopw [3] (fun x wz => x = .int .i64 0 ∧ Hid (Below W1.heap.size W1 wz)) (fun x _ => 0)
  case atStart => exact ⟨rfl, HU⟩
  case round =>
    obtain ⟨rfl, HK⟩ := hrel
    obtain ⟨s0, s1, s2, s3, s4, s5⟩ := HSS.out _ HK.out
    go_wp2_with (go_at_call 68; refine (HT.out _ (HUF.out _ HK.out)).mono ?_; rintro e w2 ⟨rfl, HB2⟩; obtain ⟨z0, z1, z2, z3, z4, z5⟩ := HSS.out _ (HK.out.trans (HB2.out.mono HK.out.size)))
    go_ret
    exact ⟨rfl, Lib.hid (HUF.out _ (HK.out.trans (HB2.out.mono HK.out.size)))⟩
set_option maxHeartbeats 8000000 in
set_option maxRecDepth 100000 in
theorem wrong10_some (m : Man) (g : Nat) (tv : Value) (w : World) (hr : TBR w g tv m.sh) (hm : May m) (hne : 0 < m.sh.length) :
    Calls Tryz.prog 36 #[manV m tv] w fun e w' => e = .returned (.int .i64 (-1)) ∧ Hid (Below w.heap.size w w') := by
  have HT : Hid (∀ W, Below w.heap.size w W → Calls Tryz.prog 68 #[manV m tv] W fun e w' => e = .returned (.int .i64 (tot m.sh)) ∧ Hid (Below W.heap.size W w')) := Lib.hid (fun W h => rtotal10_calls m g tv W (hr.later h) (Nat.le_trans hm.1.2.2.2.1 (by decide)) (tot_all hm.2.1))
  have htt := tot_all hm.2.1 m.sh.length (Nat.le_refl _)
  rw [List.take_length] at htt
  obtain ⟨T, hT⟩ : ∃ T, tot m.sh = T := ⟨_, rfl⟩
  have hbl := hm.2.2.1
  rw [hT] at HT htt hbl
  have HFB : Hid (∀ i, i < m.sh.length → 0 ≤ fst m.sh i ∧ fst m.sh i ≤ 4096) := Lib.hid (fun i hi => by
    have a := rows_fst hm.2.1 i hi
    have b := (May.each hm) _ (List.getElem_mem (show i < m.sh.length from hi))
    have e : fst m.sh i = (m.sh[i]).1 := by simp [fst, List.getD, List.getElem?_eq_getElem hi]
    rw [e] at a ⊢
    omega)
  have HRW := Lib.hid hm.2.1
  obtain ⟨i0, i1, i2, l, i4, rt⟩ := m
  obtain ⟨⟨hv, hn, he, hl64, hz⟩, -, -, h2048, hrt⟩ := hm
  simp only at HT htt hbl HFB HRW hv hn he hl64 hz h2048 hrt hr hT hne ⊢
  have HR := Lib.hid hr
  obtain ⟨o, A, c, rfl, h1, h2, -⟩ := id hr
  obtain ⟨len, hlen⟩ : ∃ len, l.length = len := ⟨_, rfl⟩
  rw [hlen] at h1 hl64 hz htt HFB HRW hne ⊢
  rw [hlen] at HT
  have HL := Lib.hid hlen
  obtain ⟨N, rfl⟩ := Int.eq_ofNat_of_zero_le hn.1
  obtain ⟨t, rfl⟩ := Int.eq_ofNat_of_zero_le htt.1
  obtain ⟨b, hbn⟩ : ∃ b : Nat, i4 = (b : Int) := Int.eq_ofNat_of_zero_le (by rw [hbl]; exact cnt_pos (by omega))
  subst hbn
  obtain ⟨u, hu⟩ : ∃ u, t + 63 = u := ⟨_, rfl⟩
  have hub : u / 64 = b := by have h := hbl; unfold cnt at h; split at h <;> omega
  have hB : (u : Int) / 64 = (b : Int) := by omega
  have hB2 : (u : Int).tdiv 64 = (b : Int) := by rw [Int.tdiv_eq_ediv_of_nonneg (by omega)]; exact hB
  have ht63 : IntKind.i64.wrap ((t : Int) + 63) = (u : Int) := by rw [IntWalk.i64_in _ (by omega)]; omega
  have hbb : ((b : Int) != (b : Int)) = false := by simp
  have hb2 : ¬ 2048 < (b : Int) := by omega
  have hr3 : (((rt.size : Nat) : Int) != 32) = false := by rw [bne_eq_false_iff_eq]; omega
  have g0 : ¬ i0 < 1 := by omega
  have g1 : ¬ 1099511627776 < i0 := by omega
  have g2 : ¬ (N : Int) < 0 := by omega
  have g3 : ¬ 4096 < (N : Int) := by omega
  have g4 : ¬ i2 < 0 := by omega
  have g5 : ¬ 20000 < i2 := by omega
  have g6 : ¬ 64 < (len : Int) := by omega
  obtain ⟨W1, hW1⟩ : ∃ W1, w.alloc (.cells #[.int .i64 i0, .int .i64 (N : Int), .int .i64 i2, .slice A len c, .int .i64 (b : Int), .string rt] 73) = W1 := ⟨_, rfl⟩
  have HX0 : Hid (W1.heap[w.heap.size]? = some (.cells #[.int .i64 i0, .int .i64 (N : Int), .int .i64 i2, .slice A len c, .int .i64 (b : Int), .string rt] 73 (0, 0))) := Lib.hid (by rw [← hW1]; exact heap_alloc_new w _)
  have HBX : Hid (Below w.heap.size w W1) := Lib.hid (by rw [← hW1]; exact (Below.refl _ _).alloc (Nat.le_refl _) _)
  obtain ⟨xb, hxb⟩ : ∃ xb, w.heap.size = xb := ⟨_, rfl⟩
  have HXB := Lib.hid hxb
  rw [hxb] at HX0
  have HSS : Hid (∀ X, Below W1.heap.size W1 X → X.cell? ⟨xb, 0, none⟩ = some (.int .i64 i0) ∧ X.cell? ⟨xb, 1, none⟩ = some (.int .i64 (N : Int)) ∧ X.cell? ⟨xb, 2, none⟩ = some (.int .i64 i2) ∧ X.cell? ⟨xb, 3, none⟩ = some (.slice A len c) ∧ X.cell? ⟨xb, 4, none⟩ = some (.int .i64 (b : Int)) ∧ X.cell? ⟨xb, 5, none⟩ = some (.string rt)) := Lib.hid (fun X h => man_cells (m := ⟨i0, N, i2, l, b, rt⟩) ((h.block xb (Array.getElem?_eq_some_iff.1 HX0.out).1).trans HX0.out))
  have HUF : Hid (∀ X, Below W1.heap.size W1 X → Below w.heap.size w X) := Lib.hid (fun X h => HBX.out.trans (h.mono HBX.out.size))
  have HU : Hid (Below W1.heap.size W1 W1) := Lib.hid (Below.refl _ _)
  obtain ⟨s0, s1, s2, s3, s4, s5⟩ := HSS.out _ HU.out
  have hN4 : N ≤ 4096 := by omega
  have e8 : ¬ N = 0 := fun h => by have := hz.2 (by omega); omega
  have e7 : 0 < len := hne
  clear hr hlen HX0 hv hn he hbl htt hT h2048 hrt hz hne hu
  skip
  all_goals
    go_enter Tryz.func36, Tryz.ntmps36
    go_upto_region 10 with (fail)
    clear hW1 hxb s0 s1 s2 s3 s4 s5 e7 e8 g0 g1 g2 g3 g4 g5
    go_loopw [3] (fun x wz => ∃ k : Nat, x = .int .i64 (k : Int) ∧ k ≤ len ∧ Hid (Below W1.heap.size W1 wz)) (fun x _ => len - (intOf x).toNat)
    case atStart => exact ⟨0, rfl, by omega, HU⟩
    case round =>
      obtain ⟨k, rfl, hk, HK⟩ := hrel
      obtain ⟨s0, s1, s2, s3, s4, s5⟩ := HSS.out _ HK.out
      by_cases hlt : k < len
      · obtain ⟨o', A', c', hv', -, -, hread⟩ := HR.out.later (HUF.out _ HK.out)
        rw [HL.out] at hread hv'
        obtain ⟨hA, -, hcell⟩ := hread (by omega)
        subst hA
        injection hv' with hv' _ hcc
        subst hcc hv'
        obtain ⟨q0, q1⟩ := hcell k hlt
        have hrow := HRW.out k hlt
        have hfx : fst l k = (l.getD k (0, 0)).1 := rfl
        have hfy : snd l k = (l.getD k (0, 0)).2 := rfl
        rw [hfx, hfy] at hrow
        obtain ⟨⟨x, y⟩, hxy⟩ : ∃ x, l.getD k (0, 0) = x := ⟨_, rfl⟩
        rw [hxy] at q0 q1 hrow
        simp only at q0 q1 hrow
        obtain ⟨hr1, hy1, hy2⟩ := hrow
        have y1 : ¬ y < 3 := by omega
        have y2 : ¬ 1048576 < y := by omega
        have hki : (k : Int) < (len : Int) := by omega
        have hk0 : (0 : Int) ≤ (k : Int) := by omega
        clear hfx hfy hxy hread
        by_cases hk00 : k = 0
        · subst hk00
          rw [if_pos rfl] at hr1
          subst hr1
          rw [Nat.zero_mul, Nat.add_zero] at q0 q1
          clear hcell hki hk0 hy1 hy2
          go_wp2
          go_roundw
          case rel => exact ⟨0 + 1, by go_num, by omega, HK⟩
          case measure => simp [intOf]; omega
        · obtain ⟨j, hj⟩ : ∃ j, j + 1 = k := ⟨k - 1, by omega⟩
          rw [if_neg hk00] at hr1
          obtain ⟨p0, -⟩ := hcell j (by omega)
          have hfz : fst l (k - 1) = (l.getD j (0, 0)).1 := by rw [← hj, Nat.add_sub_cancel]; rfl
          rw [hfz] at hr1
          obtain ⟨z, hz⟩ : ∃ z, (l.getD j (0, 0)).1 = z := ⟨_, rfl⟩
          rw [hz] at p0 hr1
          have hwj : IntKind.i64.wrap ((k : Int) - 1) = (j : Int) := by rw [IntWalk.i64_in _ (by omega)]; omega
          have bk : ((k : Int) == 0) = false := beq_eq_false_iff_ne.2 (by omega)
          have dk : 0 < k := by omega
          have dx : decide (x ≤ z) = false := decide_eq_false (by omega)
          have dn : decide ((N : Int) ≤ x) = false := decide_eq_false (by omega)
          have hj0 : (0 : Int) ≤ (j : Int) := by omega
          have hj1 : (j : Int) < (len : Int) := by omega
          clear hcell hfz hz hr1 hj hk00 hy1 hy2
          go_wp2
          go_roundw
          case rel => exact ⟨k + 1, by go_num, by omega, HK⟩
          case measure => simp [intOf]; omega
      · obtain rfl : k = len := by omega
        go_wp2_with (go_at_call 68; refine (HT.out _ (HUF.out _ HK.out)).mono ?_; rintro e w2 ⟨rfl, HB2⟩; obtain ⟨z0, z1, z2, z3, z4, z5⟩ := HSS.out _ (HK.out.trans (HB2.out.mono HK.out.size)))
        go_ret
        exact ⟨rfl, Lib.hid (HUF.out _ (HK.out.trans (HB2.out.mono HK.out.size)))⟩
theorem wrong10_ok (m : Man) (g : Nat) (tv : Value) (w : World) (hr : TBR w g tv m.sh) (hm : May m) :
    Calls Tryz.prog 36 #[manV m tv] w fun e w' => e = .returned (.int .i64 (-1)) ∧ Hid (Below w.heap.size w w') := by
  by_cases h : 0 < m.sh.length
  · exact wrong10_some m g tv w hr hm h
  · obtain ⟨i0, i1, i2, l, i4, rt⟩ := m
    obtain ⟨⟨a1, a2, a3, a4, a5⟩, -, a6, a7, a8⟩ := hm
    simp only at h a1 a2 a3 a4 a5 a6 a7 a8 hr
    obtain rfl : l = [] := List.eq_nil_of_length_eq_zero (by omega)
    have e1 : i1 = 0 := a5.1 rfl
    have e2 : i4 = 0 := by rw [a6]; rfl
    subst e1 e2
    obtain ⟨o, A, c, rfl, -⟩ := id hr
    exact wrong10_nil i0 i2 rt A c g w hr a1 a3 a8
end Go.Proofs.YtjokfllldcjheaaGreatDoor.Mn
