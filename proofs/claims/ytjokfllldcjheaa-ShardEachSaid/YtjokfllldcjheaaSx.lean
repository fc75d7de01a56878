/- ShardEach, walked. -/
import Derived.Test.YtjokfllldcjheaaSz
namespace Go.Proofs.Ytjokfllldcjheaa.Oc
open Go.RowKit Go.Proofs.Ytjokfllldcjheaa.Sha Go.Proofs.Ytjokfllldcjheaa.Ro Go.Proofs.Ytjokfllldcjheaa.Cs Go.Proofs.Ytjokfllldcjheaa.Ed
set_option linter.unusedVariables false
set_option linter.unusedSimpArgs false
theorem width_pos (s : ByteArray) (pos : Nat) (h : pos < s.size) : 1 ≤ (Utf8.decode s pos).2 := by
  by_cases ha : (s[pos]'h).toNat < 128
  · rw [decode_ascii s pos h ha]
    exact Nat.le_refl _
  · exact (decode_high s pos h (by omega)).2
theorem iterPos_at {w : World} {k pos : Nat} {s : ByteArray} (h : w.heap[k]? = some (.stringIter s pos)) : w.iterPos k = pos := by
  unfold World.iterPos; rw [h]
theorem cut_list (s : ByteArray) (j : Nat) : (s.extract 0 j).data.toList = s.data.toList.take j := by
  rw [ByteArray.data_extract, Array.toList_extract]; simp
set_option maxHeartbeats 8000000 in
set_option maxRecDepth 100000 in
theorem sheach_walk (n : Int) (g : Nat) (A : Option Addr) (len c : Nat) (l0 : List E2) (x y : Nat) (hx : x ≤ 255) (hy : y ≤ 255) (w : World) (hr : ER w g (.slice A len c) l0) (hlen : l0.length = len) :
    Calls Try.prog 3 #[.int .i64 n, .slice A len c, .agg #[.int .u8 (x : Int), .int .u8 (y : Int)]] w fun e w' => e = .returned (.bool true) ∧ Hid (Below w.heap.size w w') := by
  have HR := Lib.hid hr
  have HL := Lib.hid hlen
  have hc : len ≤ c ∧ c ≤ 9223372036854775807 := by
    obtain ⟨A', c', hv, h1, h2⟩ := er_form hr
    injection hv with _ _ hv
    subst hv
    rw [hlen] at h1
    exact ⟨h1, h2⟩
  obtain ⟨hc1, hc2⟩ := hc
  have HBX : Hid (Below w.heap.size w (w.alloc (.cells #[.int .u8 (x : Int), .int .u8 (y : Int)] 23))) := Lib.hid ((Below.refl _ _).alloc (Nat.le_refl _) _)
  clear hr hlen
  by_cases hbig : 200 < len
  · have hb : (200 : Int) < (len : Int) := by omega
    go_enter Try.func3, Try.ntmps3
    go_wp2_with (go_at_call 4; refine (sawake_calls _).mono ?_; rintro e w1 ⟨rfl, HB⟩)
    go_ret
    exact ⟨rfl, Lib.hid (HBX.out.trans (HB.out.mono HBX.out.size))⟩
  · have hb : ¬ (200 : Int) < (len : Int) := by omega
    by_cases hn : 200 < n
    · go_enter Try.func3, Try.ntmps3
      go_wp2_with (go_at_call 4; refine (sawake_calls _).mono ?_; rintro e w1 ⟨rfl, HB⟩)
      go_ret
      exact ⟨rfl, Lib.hid (HBX.out.trans (HB.out.mono HBX.out.size))⟩
    · by_cases hw : wrg n l0 = -2
      · obtain ⟨n0, n1, -, -⟩ := wrg_ok.1 hw
        obtain ⟨N, rfl⟩ := Int.eq_ofNat_of_zero_le n0
        have HW := Lib.hid hw
        have nn : N ≤ 200 := by omega
        have HX0 : Hid ((w.alloc (.cells #[.int .u8 (x : Int), .int .u8 (y : Int)] 23)).heap[w.heap.size]? = some (.cells #[.int .u8 (x : Int), .int .u8 (y : Int)] 23 (0, 0))) := Lib.hid (heap_alloc_new w _)
        clear hw n0 n1
        go_enter Try.func3, Try.ntmps3
        go_upto_region 8 with (first
          | (go_at_call 4; refine (sawake_calls _).mono ?_; rintro e w1 ⟨rfl, HB⟩)
          | (go_at_call 5; refine (build_ok N _ _ l0 _ (HR.out.later (HBX.out.trans (HB.out.mono HBX.out.size))) (by rw [HL.out]; omega) HW.out).mono ?_; rintro e w2 ⟨p, bb, tv, rfl, HC, HB2⟩))
        have hbw := HBX.out.trans ((HB.out.trans (HB2.out.mono HB.out.size)).mono HBX.out.size)
        have hxw := ((HB.out.trans (HB2.out.mono HB.out.size)).block w.heap.size (Array.getElem?_eq_some_iff.1 HX0.out).1).trans HX0.out
        have HBW := Lib.hid hbw
        have HXW := Lib.hid hxw
        have hnl := nrm_len l0
        obtain ⟨l, hl⟩ : ∃ l, nrm l0 = l := ⟨_, rfl⟩
        rw [hl] at HC hnl
        generalize w1.heap.size = B0 at HC
        have d0 : w2.cell? ⟨w.heap.size, 0, none⟩ = some (.int .u8 (x : Int)) := cell_of_row w2 _ 0 _ _ _ HXW.out
        obtain ⟨X, hX⟩ : ∃ X : Nat, 4 + x = X := ⟨_, rfl⟩
        obtain ⟨Y, hY⟩ : ∃ Y : Nat, 4 + y = Y := ⟨_, rfl⟩
        have eX : (4 : Int) + (x : Int) = (X : Int) := by omega
        have eY : (4 : Int) + (y : Int) = (Y : Int) := by omega
        have HSP : Hid (∀ (W : World), Below w2.heap.size w2 W → ∀ e : Nat, 4 ≤ e → e ≤ 259 → Calls Try.prog 6 #[pV p, .int .i64 (e : Int)] W fun r w' => ∃ v, r = .returned (.tuple #[v, .nilIface]) ∧ Hid (OT w' W.heap.size v (partsB (tgt l) N e ((N + e - 1) / e))) ∧ Hid (Below W.heap.size W w')) := Lib.hid (fun W h e h1 h2 => split_calls (HC.out.later h) e (by omega) (by omega) (by
          have : (N + e - 1) / e ≤ (N + e - 1) / 4 := Nat.div_le_div_left h1 (by omega)
          have h4 : N + e - 1 < 65 * e := by omega
          have := (Nat.div_lt_iff_lt_mul (show 0 < e by omega)).2 h4
          omega))
        clear hbw hxw hl HB HB2 HBX HX0
        go_upto_region 9 with (go_at_call 6; refine (HSP.out _ (Below.refl _ _) X (by omega) (by omega)).mono ?_; rintro e w3 ⟨v1, rfl, HO1, HB3⟩)
        have hxw3 := (HB3.out.block w.heap.size (Array.getElem?_eq_some_iff.1 HXW.out).1).trans HXW.out
        have d1 : w3.cell? ⟨w.heap.size, 1, none⟩ = some (.int .u8 (y : Int)) := cell_of_row w3 _ 1 _ _ _ hxw3
        clear d0 hxw3
        go_upto_region 12 with (go_at_call 6; refine (HSP.out _ HB3.out Y (by omega) (by omega)).mono ?_; rintro e w4 ⟨v2, rfl, HO2, HB4⟩)
        have HBQ := Lib.hid (HB3.out.trans (HB4.out.mono HB3.out.size))
        have HBT := Lib.hid (HBW.out.trans (HBQ.out.mono HBW.out.size))
        obtain ⟨g1, hg1⟩ := (HO1.out.later HB4.out).reads
        obtain ⟨g2, hg2⟩ := HO2.out.reads
        obtain ⟨A1, c1, hv1, hc3⟩ := OT_shape HO1.out
        obtain ⟨A2, c2, hv2, -⟩ := OT_shape HO2.out
        obtain ⟨m1, hm1⟩ : ∃ m, (N + X - 1) / X = m := ⟨_, rfl⟩
        obtain ⟨m2, hm2⟩ : ∃ m, (N + Y - 1) / Y = m := ⟨_, rfl⟩
        rw [partsB_len, hm1] at hv1 hc3
        rw [partsB_len, hm2] at hv2
        subst hv1 hv2
        have HJ1 : Hid (∀ W, Below w4.heap.size w4 W → Calls Try.prog 7 #[.int .i64 (N : Int), .slice A1 m1 c1] W fun r w' => ∃ p2 bb2 tv2, r = .returned (.tuple #[pV p2, .nilIface]) ∧ Hid (CS w' W.heap.size p2 bb2 tv2 N l) ∧ Hid (Below W.heap.size W w')) := Lib.hid (fun W hW => join_parts HC.out X (by omega) g1 _ W (hg1.later hW))
        have HJ2 : Hid (∀ W, Below w4.heap.size w4 W → Calls Try.prog 7 #[.int .i64 (N : Int), .slice A2 m2 c2] W fun r w' => ∃ p2 bb2 tv2, r = .returned (.tuple #[pV p2, .nilIface]) ∧ Hid (CS w' W.heap.size p2 bb2 tv2 N l) ∧ Hid (Below W.heap.size W w')) := Lib.hid (fun W hW => join_parts HC.out Y (by omega) g2 _ W (hg2.later hW))
        have HC4 := Lib.hid (HC.out.later HBQ.out)
        have HS1 := Lib.hid hg1
        have hm64 : m1 ≤ 200 := by
          rw [← hm1]
          have : (N + X - 1) / X ≤ (N + X - 1) / 4 := Nat.div_le_div_left (by omega) (by omega)
          have h4 : N + X - 1 < 65 * X := by omega
          have := (Nat.div_lt_iff_lt_mul (show 0 < X by omega)).2 h4
          omega
        have HM1 := Lib.hid hm1
        have hX1 : 1 ≤ X := by omega
        clear hg1 hg2 hm1 hm2 HSP HO1 HO2 HB3 HB4 HBW HXW d1 hnl
        go_upto_region 13 with (go_at_call 7; refine (HJ1.out _ (Below.refl _ _)).mono ?_; rintro e w5 ⟨p2, bb2, tv2, rfl, HC5, HB5⟩)
        go_upto_region 14 with (go_at_call 7; refine (HJ2.out _ HB5.out).mono ?_; rintro e w6 ⟨p3, bb3, tv3, rfl, HC6, HB6⟩)
        have HB56 := Lib.hid (HB5.out.trans (HB6.out.mono HB5.out.size))
        have HC4 := Lib.hid (HC4.out.later HB56.out)
        have HC5 := Lib.hid (HC5.out.later HB6.out)
        have HSA : Hid (∀ W, Below w6.heap.size w6 W → Calls Try.prog 8 #[pV p2, pV p] W fun e w' => e = .returned (.bool true) ∧ Hid (Below W.heap.size W w')) := Lib.hid (fun W hW => (csame_calls (HC5.out.later hW) (HC4.out.later hW)).mono fun e w' h => ⟨h.1.trans (by simp), h.2⟩)
        have HSB : Hid (∀ W, Below w6.heap.size w6 W → Calls Try.prog 8 #[pV p3, pV p] W fun e w' => e = .returned (.bool true) ∧ Hid (Below W.heap.size W w')) := Lib.hid (fun W hW => (csame_calls (HC6.out.later hW) (HC4.out.later hW)).mono fun e w' h => ⟨h.1.trans (by simp), h.2⟩)
        go_upto_region 17 with (first
          | (go_at_call 8; (with_reducible show Calls Try.prog 8 #[pV p2, pV p] _ _); refine (HSA.out _ (Below.refl _ _)).mono ?_; rintro e w7 ⟨rfl, HB7⟩)
          | (go_at_call 8; refine (HSB.out _ HB7.out).mono ?_; rintro e w8 ⟨rfl, HB8⟩))
        have HB78 := Lib.hid (HB56.out.trans ((HB7.out.trans (HB8.out.mono HB7.out.size)).mono HB56.out.size))
        have HS8 := Lib.hid (HS1.out.later HB78.out)
        have HBY := Lib.hid (HBT.out.trans (HB78.out.mono HBT.out.size))
        have HPC : Hid (∀ k, k < m1 → ∀ (W : World) (s : ByteArray), partB (tgt l) N X k = s → ∀ j, j < s.size → ∀ s' : ByteArray, s'.data.toList = s.data.toList.take j → Calls Try.prog 9 #[.string s', .int .i64 (N : Int)] W fun r w' => ∃ a b : Int, r = .returned (.tuple #[.agg #[.int .i64 0, .slice none 0 0], faultV a b]) ∧ Hid (Below W.heap.size W w')) := Lib.hid (fun k hk W s hs j hj s' hs' => part_cut HC.out X hX1 k (by rw [HM1.out]; exact hk) W s hs j hj s' hs')
        have HPZ : Hid (∀ k, k < m1 → (partB (tgt l) N X k).size ≤ 40000000) := Lib.hid (fun k hk => part_size HC.out X hX1 k (by rw [HM1.out]; exact hk))
        clear HSA HSB HC4 HC5 HC6 HJ1 HJ2 HS1 HB56 HB78 HB7 HB8 HBT
        go_loopw [95] (fun x wz => ∃ k : Nat, x = .int .i64 (k : Int) ∧ k ≤ m1 ∧ Hid (Below w8.heap.size w8 wz)) (fun x _ => m1 - (intOf x).toNat)
        case atStart => exact ⟨0, rfl, Nat.zero_le _, Lib.hid (Below.refl _ _)⟩
        case round =>
          obtain ⟨k, rfl, hk, HK⟩ := hrel
          generalize wr = w9 at *
          by_cases hlt : k < m1
          · have i1 : (k : Int) < (m1 : Int) := by omega
            obtain ⟨s, hs⟩ : ∃ s, partB (tgt l) N X k = s := ⟨_, rfl⟩
            obtain ⟨o, cc, hv, -, -, hcell⟩ := (HS8.out.later HK.out).form (by rw [partsB_len, HM1.out]; omega)
            injection hv with hv hn hcc
            subst hv hcc
            have q := hcell k s (by rw [HM1.out]; unfold partsB; rw [List.getElem?_map, List.getElem?_range hlt]; exact congrArg some hs)
            have hsz := HPZ.out k hlt
            rw [hs] at hsz
            have HG : Hid (∀ (W : World) (j : Nat), j < s.size → Calls Try.prog 9 #[.string (s.extract 0 j), .int .i64 (N : Int)] W fun r w' => ∃ a b : Int, r = .returned (.tuple #[.agg #[.int .i64 0, .slice none 0 0], faultV a b]) ∧ Hid (Below W.heap.size W w')) := Lib.hid (fun W j hj => HPC.out k hlt W s hs j hj _ (cut_list s j))
            clear hcell hn hs
            go_upto_region 20 with (fail)
            have HI0 : Hid ((w9.iter s 0).heap[w9.heap.size]? = some (.stringIter s 0)) := Lib.hid (World.iter_heap w9 s 0)
            have HB9 : Hid (Below w9.heap.size w9 (w9.iter s 0)) := Lib.hid ((Below.refl _ _).alloc (Nat.le_refl _) _)
            go_loopw [19] (fun u wz => ∃ pos : Nat, Hid (wz.heap[w9.heap.size]? = some (.stringIter s pos)) ∧ Hid (Below w9.heap.size w9 wz)) (fun _ wz => s.size - wz.iterPos w9.heap.size)
            case atStart => exact ⟨0, HI0, HB9⟩
            case round =>
              clear HI0 HB9
              obtain ⟨pos, HI, HB9⟩ := hrel
              have HMP := Lib.hid (iterPos_at HI.out)
              by_cases hp : pos < s.size
              · have hw1 := width_pos s pos hp
                obtain ⟨np, hnp⟩ : ∃ np, pos + (Utf8.decode s pos).2 = np := ⟨_, rfl⟩
                have hnx : ∀ ty, (Instr.next (.pointer (some ⟨w9.heap.size, 0, none⟩)) true ty).run Try.prog wr = _ := fun ty => Go.Lib.run_next_any_at wr _ s pos ty HI.out hp
                rw [hnp] at hnx
                have hnp2 : pos < np := by omega
                have HI1 : Hid ((wr.iterAt w9.heap.size s np).heap[w9.heap.size]? = some (.stringIter s np)) := Lib.hid (Go.Lib.iterAt_heap wr _ s pos np HI.out)
                have HB1 : Hid (Below w9.heap.size w9 (wr.iterAt w9.heap.size s np)) := Lib.hid (Go.Lib.below_iterAt HB9.out (Nat.le_refl _) s np)
                generalize wr.iterAt w9.heap.size s np = W1 at *
                generalize (Utf8.decode s pos).1 = ch at *
                have HLT := Lib.hid (Array.getElem?_eq_some_iff.1 HI1.out).1
                have i2 : (pos : Int) ≤ (s.size : Int) := by omega
                have i3 : (0 : Int) ≤ (pos : Int) := by omega
                clear hw1 hnp
                go_wp2_with (go_at_call 9; refine (HG.out _ pos hp).mono ?_; rintro e w2 ⟨a, b, rfl, HB2⟩)
                have HBA := Lib.hid (HB2.out.alloc HB2.out.size (.cells #[.int .i64 0, .slice none 0 0] 37))
                have HI2 := Lib.hid ((HBA.out.block _ HLT.out).trans HI1.out)
                go_roundw
                case rel => exact ⟨np, HI2, Lib.hid (HB1.out.trans (HBA.out.mono HB1.out.size))⟩
                case measure => rw [iterPos_at HI2.out, HMP.out]; omega
              · have hnx : ∀ ty, (Instr.next (.pointer (some ⟨w9.heap.size, 0, none⟩)) true ty).run Try.prog wr = _ := fun ty => Go.Lib.run_next_end_at wr _ s pos ty HI.out hp
                go_wp2
                go_roundw
                case rel => exact ⟨k + 1, by go_num, by omega, Lib.hid (HK.out.trans (HB9.out.mono HK.out.size))⟩
                case measure => simp [intOf]; omega
          · obtain rfl : m1 = k := by omega
            have i1 : ¬ (m1 : Int) < (m1 : Int) := by omega
            go_wp2
            go_ret
            exact ⟨rfl, Lib.hid (HBY.out.trans (HK.out.mono HBY.out.size))⟩
      · have HW := Lib.hid hw
        obtain ⟨a, ha⟩ : ∃ a, wrg n l0 = a := ⟨_, rfl⟩
        have HA := Lib.hid ha
        clear ha hw
        go_enter Try.func3, Try.ntmps3
        go_wp2_with (first
          | (go_at_call 4; refine (sawake_calls _).mono ?_; rintro e w1 ⟨rfl, HB⟩)
          | (go_at_call 5; refine (build_bad n _ _ l0 _ (HR.out.later (HBX.out.trans (HB.out.mono HBX.out.size))) (by rw [HL.out]; omega) HW.out).mono ?_; rw [HA.out]; unfold errV; rintro e w2 ⟨rfl, HB2⟩))
        go_ret
        exact ⟨rfl, Lib.hid (HBX.out.trans ((HB.out.trans (HB2.out.mono HB.out.size)).mono HBX.out.size))⟩
theorem sheach_row (n : Int) (g : Nat) (v : Value) (l : List E2) (x y : Int) (w : World) (hn : (Lit.int .i64 n).wf = true) (hr : ER w g v l) (hb : ∀ e ∈ l, (-9223372036854775808 ≤ e.1 ∧ e.1 < 9223372036854775808) ∧ (-9223372036854775808 ≤ e.2 ∧ e.2 < 9223372036854775808))
    (h0 : (Lit.int .u8 x).wf = true) (h1 : (Lit.int .u8 y).wf = true) :
    Calls Try.prog 3 #[.int .i64 n, v, .agg #[.int .u8 x, .int .u8 y]] w fun e w' => e = .returned (.bool true) ∧ Below w.heap.size w w' := by
  obtain ⟨A, c, rfl, -⟩ := er_form hr
  have q : ∀ a : Int, (Lit.int .u8 a).wf = true → 0 ≤ a ∧ a < 256 := fun a h => by
    simp [Lit.wf, IntKind.min, IntKind.max, IntKind.signed, IntKind.bits] at h; omega
  have q0 := q x h0
  have q1 := q y h1
  obtain ⟨a, rfl⟩ := Int.eq_ofNat_of_zero_le q0.1
  obtain ⟨b, rfl⟩ := Int.eq_ofNat_of_zero_le q1.1
  exact (sheach_walk n g A l.length c l a b (by omega) (by omega) w hr rfl).mono fun _ _ h => ⟨h.1, h.2.out⟩
end Go.Proofs.Ytjokfllldcjheaa.Oc
