/- The example of layer 17; WantLate. -/
import Derived.Test.YthnpaiobjmneaaaWa
namespace Go.Proofs.Ythnpaiobjmneaaa.Wa
open Go.RowKit Go.Maps
set_option linter.unusedVariables false
set_option linter.unusedSimpArgs false

theorem aw_add : addF [] [3, 1, 2] = [1, 2, 3] := by decide
theorem aw_n1 : nextF 2 5 [1, 2, 3] [] (fun _ => 0) 0 = ([1], upd (fun _ => 0) 1 5, 1, true) := rfl
theorem aw_n2 : nextF 2 5 [1, 2, 3] [1] (upd (fun _ => 0) 1 5) 0 = ([1, 2], upd (upd (fun _ => 0) 1 5) 2 5, 2, true) := rfl
theorem aw_n3 (T : Int → Int) : nextF 2 5 [1, 2, 3] [1, 2] T 0 = ([1, 2], T, 0, false) := rfl
theorem aw_o : lateF (upd (upd (fun _ => 0) 1 5) 2 5) 5 [1, 2] = [1, 2] := by decide
set_option maxHeartbeats 2000000 in
set_option maxRecDepth 100000 in
theorem awake_calls (w : World) : Calls Try.prog 12 #[] w fun e w' => e = .returned (.bool true) ∧ Hid (Below w.heap.size w w') := by
  have HJ : Hid (JR (w.alloc (.cells #[.int .i64 3, .int .i64 1, .int .i64 2] 3)) w.heap.size (.slice (some ⟨w.heap.size, 0, none⟩) 3 3) [3, 1, 2]) := Lib.hid (JR.lit w [3, 1, 2] _ rfl 3 rfl (by simp))
  have HW : Hid (∀ i ∈ ([3, 1, 2] : List Int), wfI i) := Lib.hid (by intro i hi; simp at hi; unfold wfI; omega)
  have HI : Hid (∀ W : World, JR (W.alloc (.cells #[.int .i64 1, .int .i64 2] 3)) W.heap.size (.slice (some ⟨W.heap.size, 0, none⟩) 2 2) [1, 2]) := Lib.hid (fun W => JR.lit W [1, 2] _ rfl 2 rfl (by simp))
  go_enter Try.func12, Try.ntmps12
  go_upto_region 4 with (go_at_call 13; refine (st_new 2 5 _ _ _ w _ ((Below.refl _ w).alloc (Nat.le_refl _) _) HJ.out (by omega) (by omega) (by simp) HW.out).mono ?_; rintro e W1 ⟨p, mb, ab, rfl, HS⟩; rw [aw_add] at HS)
  go_upto_region 5 with (go_at_call 15; refine (st_next HS.out 0 (by simp) (by simp) (by omega) (by omega)).mono ?_; rw [aw_n1]; rintro e W2 ⟨rfl, HS⟩)
  go_upto_region 6 with (go_at_call 15; refine (st_next HS.out 0 (by simp) (by simp) (by omega) (by omega)).mono ?_; rw [aw_n2]; rintro e W3 ⟨rfl, HS⟩)
  go_upto_region 7 with (go_at_call 15; refine (st_next HS.out 0 (by simp) (by simp) (by omega) (by omega)).mono ?_; rw [aw_n3]; rintro e W4 ⟨rfl, HS⟩)
  go_wp2_with (first
    | (go_at_call 16; refine (st_over HS.out 5 (by simp)).mono ?_; rw [aw_o]; rintro e W5 ⟨a, c, rfl, HS, HR⟩)
    | (go_at_call 28; refine (ints_calls HR.out.choose W5.heap.size _ _ [1, 2] [1, 2] _ (HR.out.choose_spec.later ((Below.refl _ _).alloc (Nat.le_refl _) _)) (HI.out _)).mono ?_; rintro e W6 ⟨rfl, q, rfl⟩))
  go_ret
  exact ⟨rfl, Lib.hid (((HS.out.alloc _).drewN q).below)⟩
/-- all numbers below i are asked for till c -/
def tills (c : Int) (i : Nat) : Int → Int := fun j => if 0 ≤ j ∧ j < (i : Int) then c else 0
theorem tills_zero (c : Int) : tills c 0 = fun _ => 0 := by funext j; unfold tills; rw [if_neg (by omega)]
theorem tills_upd (c : Int) (i : Nat) : upd (tills c i) (i : Int) c = tills c (i + 1) := by
  funext j
  unfold upd tills
  by_cases h : j = (i : Int)
  · rw [if_pos h, if_pos (by omega)]
  · rw [if_neg h]
    by_cases h2 : 0 ≤ j ∧ j < (i : Int)
    · rw [if_pos h2, if_pos (by omega)]
    · rw [if_neg h2, if_neg (by omega)]
theorem held_in {n : Int} (h0 : 0 ≤ n) (h1 : n ≤ 100000) : heldI n = n := by unfold heldI; omega
theorem late_next (k t now : Int) (n i : Nat) (h0 : 0 ≤ now) (h1 : now ≤ 100000) (hi : i < n) (hk : (i : Int) < k) :
    nextF k t (upto n) (upto i) (tills (now + t) i) now = (upto (i + 1), tills (now + t) (i + 1), (i : Int), true) := by
  unfold nextF
  rw [if_neg (by rw [upto_len]; omega), nxt_upto n i hi, held_in h0 h1]
  simp only
  rw [ins_upto, tills_upd]
theorem late_none (now : Int) (m : Nat) (t : Int) (ht : 1 ≤ t) (h0 : 0 ≤ now) (h1 : now + t ≤ 100000) : lateF (tills (now + t) m) (now + t - 1) (upto m) = [] := by
  unfold lateF
  rw [held_in (by omega) (by omega)]
  refine List.filter_eq_nil_iff.2 fun x hx => ?_
  have := mem_upto.1 hx
  unfold tills
  rw [if_pos this]
  simp
  omega
theorem late_rest (now : Int) (m : Nat) (t : Int) (ht : 1 ≤ t) (h0 : 0 ≤ now) (h1 : now + t ≤ 100000) : restF (tills (now + t) m) (now + t - 1) (upto m) = upto m := by
  unfold restF
  rw [held_in (by omega) (by omega)]
  refine List.filter_eq_self.2 fun x hx => ?_
  have := mem_upto.1 hx
  unfold tills
  rw [if_pos this]
  simp
  omega
theorem late_all (now : Int) (m : Nat) (t : Int) (ht : 1 ≤ t) (h0 : 0 ≤ now) (h1 : now + t ≤ 100000) : lateF (tills (now + t) m) (now + t) (upto m) = upto m := by
  unfold lateF
  rw [held_in (by omega) (by omega)]
  refine List.filter_eq_self.2 fun x hx => ?_
  have := mem_upto.1 hx
  unfold tills
  rw [if_pos this]
  simp
theorem late_gone (now : Int) (m : Nat) (t : Int) (ht : 1 ≤ t) (h0 : 0 ≤ now) (h1 : now + t ≤ 100000) : restF (tills (now + t) m) (now + t) (upto m) = [] := by
  unfold restF
  rw [held_in (by omega) (by omega)]
  refine List.filter_eq_nil_iff.2 fun x hx => ?_
  have := mem_upto.1 hx
  unfold tills
  rw [if_pos this]
  simp
theorem late_last (k t now : Int) (n : Nat) (T : Int → Int) (hk : 1 ≤ k) : (nextF k t (upto n) [] T now).2.2.1 = 0 ∧ (nextF k t (upto n) [] T now).2.2.2 = decide (0 < n) := by
  unfold nextF
  rw [if_neg (by simp; omega)]
  cases n with
  | zero => exact ⟨rfl, rfl⟩
  | succ n =>
    have : nxt (upto (n + 1)) [] = some 0 := nxt_upto (n + 1) 0 (by omega)
    rw [this]
    exact ⟨rfl, by simp⟩

set_option maxHeartbeats 4000000 in
set_option maxRecDepth 100000 in
theorem late_walk (many window tm nw : Nat) (w : World) (hm : many < 256) (hw : window < 256) (ht : tm < 65536) (hn : nw < 65536) :
    Calls Try.prog 3 #[.int .u8 (many : Int), .int .u8 (window : Int), .agg #[.int .u16 (tm : Int), .int .u16 (nw : Int)]] w fun e w' => e = .returned (.bool true) ∧ Hid (Below w.heap.size w w') := by
  obtain ⟨n, hn1⟩ : ∃ n, n = many % 60 := ⟨_, rfl⟩
  obtain ⟨k, hk1⟩ : ∃ k, k = 1 + window % 64 := ⟨_, rfl⟩
  obtain ⟨t, ht1⟩ : ∃ t, t = 1 + tm % 1000 := ⟨_, rfl⟩
  have q1 : (many : Int) % 60 = (n : Int) := by omega
  have q2 : 1 + (window : Int) % 64 = (k : Int) := by omega
  have q3 : 1 + (tm : Int) % 1000 = (t : Int) := by omega
  have n60 : n < 60 := by omega
  have k64 : k ≤ 64 := by omega
  have k1 : 1 ≤ k := by omega
  have t1 : 1 ≤ t := by omega
  have t1000 : t ≤ 1000 := by omega
  clear hn1 hk1 ht1
  go_enter Try.func3, Try.ntmps3
  go_upto_region 3 with (go_at_call 12; refine (awake_calls _).mono ?_; rintro e w1 ⟨rfl, HB⟩)
  have c0 : w1.cell? ⟨w.heap.size, 0, none⟩ = some (.int .u16 (tm : Int)) := by
    rw [HB.out.cell (by simp), cell_of_row _ _ 0 _ _ _ (heap_alloc_new w _)]; rfl
  have c1 : w1.cell? ⟨w.heap.size, 1, none⟩ = some (.int .u16 (nw : Int)) := by
    rw [HB.out.cell (by simp), cell_of_row _ _ 1 _ _ _ (heap_alloc_new w _)]; rfl
  have HBW : Hid (Below w.heap.size w w1) := Lib.hid (((Below.refl _ w).alloc (Nat.le_refl _) _).trans (HB.out.mono (by simp)))
  clear HB
  go_quiet (fail)
  have HJ : Hid (∀ W, JR W 0 (.slice none 0 0) []) := Lib.hid (fun W => ⟨none, 0, 0, rfl, Nat.le_refl _, by omega, fun h => by simp at h⟩)
  go_upto_region 10 with (go_at_call 13; refine (st_new (k : Int) (t : Int) 0 _ [] w _ (HBW.out.trans (drewN_below _ _ _)) (HJ.out _) (by omega) (by omega) (by simp) (by simp)).mono ?_; rintro e W1 ⟨p, mb, ab, rfl, HS⟩)
  have HS : Hid (St w W1 p mb ab k t (upto 0) [] (fun _ => 0)) := HS
  go_loopw [14] (fun x wz => ∃ i : Nat, x = .int .i64 (i : Int) ∧ i ≤ n ∧ Hid (St w wz p mb ab k t (upto i) [] (fun _ => 0))) (fun x _ => n - (intOf x).toNat)
  case atStart => exact ⟨0, rfl, by omega, HS⟩
  case round =>
    obtain ⟨i, rfl, hi, HS⟩ := hrel
    by_cases hlt : i < n
    · go_wp2_with (go_at_call 14; refine (st_add1 HS.out (i : Int) (by omega) (by omega) (by rw [upto_len]; omega)).mono ?_; rw [ins_upto]; rintro e W2 ⟨rfl, HS⟩)
      go_roundw
      case rel => exact ⟨i + 1, by go_num, by omega, HS⟩
      case measure => simp [intOf]; omega
    · obtain rfl : n = i := by omega
      clear hlt hi
      go_upto_region 14 with (fail)
      obtain ⟨m, hm⟩ : ∃ m, m = min n k := ⟨_, rfl⟩
      have hmin : min (n : Int) (k : Int) = (m : Int) := by omega
      have mn : m ≤ n := by omega
      have mk : m ≤ k := by omega
      have hc : (nw : Int) + (t : Int) ≤ 100000 := by omega
      have HS : Hid (St w wr p mb ab k t (upto n) (upto 0) (tills ((nw : Int) + t) 0)) := by rw [tills_zero]; exact HS
      have HM := Lib.hid hm
      clear hm
      rename World => wo
      go_loopw [15] (fun x wz => ∃ i : Nat, x = .int .i64 (i : Int) ∧ i ≤ m ∧ Hid (St w wz p mb ab k t (upto n) (upto i) (tills ((nw : Int) + t) i))) (fun x _ => m - (intOf x).toNat)
      case atStart => exact ⟨0, rfl, by omega, HS⟩
      case round =>
        obtain ⟨i, rfl, hi, HS⟩ := hrel
        by_cases hlt : i < m
        · go_wp2_with (go_at_call 15; refine (st_next HS.out (nw : Int) (by rw [upto_len]; omega) (by rw [upto_len]; omega) (by omega) (by omega)).mono ?_; rw [late_next k t nw n i (by omega) (by omega) (by omega) (by omega)]; rintro e W2 ⟨rfl, HS⟩)
          go_roundw
          case rel => exact ⟨i + 1, by go_num, by omega, HS⟩
          case measure => simp [intOf]; omega
        · obtain rfl : m = i := by omega
          clear hlt hi
          have l1 := late_none (nw : Int) m t (by omega) (by omega) hc
          have l2 := late_rest (nw : Int) m t (by omega) (by omega) hc
          have l3 := late_all (nw : Int) m t (by omega) (by omega) hc
          have l4 := late_gone (nw : Int) m t (by omega) (by omega) hc
          have l5 := late_last k t ((nw : Int) + t) n (tills ((nw : Int) + t) m) (by omega)
          have L1 := Lib.hid (And.intro l1 l2)
          have L2 := Lib.hid (And.intro l3 l4)
          have L3 := Lib.hid l5
          have U := Lib.hid upto_len
          clear l1 l2 l3 l4 l5
          go_upto_region 21 with (first
            | (go_at_call 16; refine (st_over HS.out ((nw : Int) + t - 1) (by rw [upto_len]; omega)).mono ?_; rw [L1.out.1, L1.out.2]; rintro e W5 ⟨a1, c1, rfl, HS, -⟩)
            | (go_at_call 17; refine (st_asked HS.out (by rw [upto_len]; omega)).mono ?_; rw [upto_len]; rintro e W6 ⟨a2, c2, rfl, HS, -⟩))
          go_upto_region 24 with (first
            | (go_at_call 16; refine (st_over HS.out ((nw : Int) + t) (by rw [upto_len]; omega)).mono ?_; rw [L2.out.1, L2.out.2, upto_len]; rintro e W7 ⟨a3, c3, rfl, HS, -⟩)
            | (go_at_call 17; refine (st_asked HS.out (by simp)).mono ?_; rintro e W8 ⟨a4, c4, rfl, HS, -⟩)
            | (go_at_call 18; refine (st_missing HS.out (by rw [upto_len]; omega)).mono ?_; rw [upto_len]; rintro e W9 ⟨a5, c5, rfl, HS, -⟩))
          by_cases hn0 : 0 < n
          · have hd : decide (0 < n) = true := decide_eq_true hn0
            have hn1 : (0 : Int) < (n : Int) := by omega
            go_wp2_with (go_at_call 15; refine (st_next HS.out ((nw : Int) + t) (by rw [upto_len]; omega) (by simp) (by omega) (by omega)).mono ?_; rw [L3.out.1, L3.out.2, hd]; rintro e W10 ⟨rfl, HS⟩)
            go_ret
            exact ⟨rfl, Lib.hid HS.out.below⟩
          · have hd : decide (0 < n) = false := decide_eq_false hn0
            obtain rfl : n = 0 := by omega
            go_wp2_with (go_at_call 15; refine (st_next HS.out ((nw : Int) + t) (by rw [upto_len]; omega) (by simp) (by omega) (by omega)).mono ?_; rw [L3.out.1, L3.out.2, hd]; rintro e W10 ⟨rfl, HS⟩)
            go_ret
            exact ⟨rfl, Lib.hid HS.out.below⟩
end Go.Proofs.Ythnpaiobjmneaaa.Wa
namespace Go.Proofs.Ythnpaiobjmneaaa.Wa
open Go.RowKit
theorem u8_wf {a : Int} (h : (Lit.int .u8 a).wf = true) : 0 ≤ a ∧ a < 256 := by
  simp [Lit.wf, IntKind.min, IntKind.max, IntKind.signed, IntKind.bits] at h; omega
theorem u16_wf {a : Int} (h : (Lit.int .u16 a).wf = true) : 0 ≤ a ∧ a < 65536 := by
  simp [Lit.wf, IntKind.min, IntKind.max, IntKind.signed, IntKind.bits] at h; omega
theorem late_row (a b c d : Int) (w : World) (ha : (Lit.int .u8 a).wf = true) (hb : (Lit.int .u8 b).wf = true) (hc : (Lit.int .u16 c).wf = true) (hd : (Lit.int .u16 d).wf = true) :
    Calls Try.prog 3 #[.int .u8 a, .int .u8 b, .agg #[.int .u16 c, .int .u16 d]] w fun e w' => e = .returned (.bool true) ∧ Below w.heap.size w w' := by
  have ha := u8_wf ha
  have hb := u8_wf hb
  have hc := u16_wf hc
  have hd := u16_wf hd
  obtain ⟨a', rfl⟩ := Int.eq_ofNat_of_zero_le ha.1
  obtain ⟨b', rfl⟩ := Int.eq_ofNat_of_zero_le hb.1
  obtain ⟨c', rfl⟩ := Int.eq_ofNat_of_zero_le hc.1
  obtain ⟨d', rfl⟩ := Int.eq_ofNat_of_zero_le hd.1
  exact (late_walk a' b' c' d' w (by omega) (by omega) (by omega) (by omega)).mono fun _ _ h => ⟨h.1, h.2.out⟩
end Go.Proofs.Ythnpaiobjmneaaa.Wa
