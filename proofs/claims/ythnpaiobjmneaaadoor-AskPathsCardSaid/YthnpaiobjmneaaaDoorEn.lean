/- EdgesNorm, walked. -/
import Derived.Test.YthnpaiobjmneaaaDoorEj
import Derived.Test.YthnpaiobjmneaaaDoorRn
import Derived.Test.YthnpaiobjmneaaaDoorErrP
import Derived.Laws.OwnMore
namespace Go.Proofs.YthnpaiobjmneaaaDoor.Ed
open Go.RowKit
set_option linter.unusedVariables false
set_option linter.unusedSimpArgs false
set_option maxRecDepth 100000
/-- make([]api.Edge, n) -/
theorem makeE_run (w : World) (n : Nat) (hn : n ≤ 1000000) : ∃ C, (Instr.makeSlice 22 (.int .i64 (n : Int)) (.int .i64 (n : Int))).run Tryd.prog w = .ok (.slice (some ⟨w.heap.size, 0, none⟩) n n) (w.alloc (.cells C 67)) ∧ ER (w.alloc (.cells C 67)) w.heap.size (.slice (some ⟨w.heap.size, 0, none⟩) n n) (List.replicate n (0, 0)) := by
  obtain ⟨i0, hi, hzz⟩ := Option.map_eq_some_iff.1 infoE
  simp only [Prod.mk.injEq] at hzz
  obtain ⟨hz0, hz1, hz2⟩ := hzz
  have hmk := run_make (P := Tryd.prog) w 22 67 i0 (.agg #[.int .i64 0, .int .i64 0]) Tryd.underlying22 hi hz0 .i64 .i64 (n : Int) (n : Int) (by omega) (Int.le_refl _) (by rw [hz2]; omega) (by omega)
  rw [hz1, Int.toNat_natCast] at hmk
  have hC : ∀ k, k < n * 2 → (madeCells (Value.cells (.agg #[.int .i64 0, .int .i64 0])) (n * 2))[k]? = some (.int .i64 0) := by
    intro k hk
    have h2 : k % 2 = 0 ∨ k % 2 = 1 := by omega
    rcases h2 with h2 | h2 <;> simp [madeCells, Value.cells, hk, h2]
  refine ⟨_, hmk, 0, some ⟨w.heap.size, 0, none⟩, n, by rw [List.length_replicate], by rw [List.length_replicate]; exact Nat.le_refl _, by omega, fun hp => ⟨rfl, by simp, fun i h => ?_⟩⟩
  rw [List.length_replicate] at h
  have hg : (List.replicate n ((0 : Int), (0 : Int))).getD i (0, 0) = (0, 0) := by simp [List.getD_eq_getElem?_getD, h]
  rw [hg]
  constructor
  · rw [cell_of_row _ w.heap.size _ _ _ _ (heap_alloc_new w _), Nat.zero_add]; exact hC _ (by omega)
  · rw [cell_of_row _ w.heap.size _ _ _ _ (heap_alloc_new w _), Nat.zero_add]; exact hC _ (by omega)
theorem g0_later {w W : World} (h : Er.G0 w) (hb : Below w.heap.size w W) : Er.G0 W := (hb.cell (World.block_lt_of_cell? _ _ h)).trans h
theorem long_wrg : wrg 1 (List.replicate 20001 (0, 0)) = 20000 := by
  unfold wrg; rw [if_neg (by omega), if_pos (by rw [List.length_replicate]; omega)]
theorem nrm_wrg {n : Int} {l : List E2} (h : wrg n l = -2) : wrg n (nrm l) = -2 := by
  obtain ⟨h1, h2, h3, h4⟩ := wrg_ok.1 h
  exact wrg_ok.2 ⟨h1, h2, Nat.le_trans (nrm_len l) h3, fun e he => h4 e (mem_nrm.1 he)⟩
set_option maxHeartbeats 2000000 in
theorem norm_walk (n : Int) (g : Nat) (A : Option Addr) (len c : Nat) (l : List E2) (b : Bool) (w : World) (hG : Er.G0 w) (hr : ER w g (.slice A len c) l) (hlen : l.length = len) :
    Calls Tryd.prog 3 #[.int .i64 n, .slice A len c, .bool b] w fun e w' => e = .returned (.bool true) ∧ Hid (Below w.heap.size w w') := by
  have HR := Lib.hid hr
  have HL := Lib.hid hlen
  have HG := Lib.hid hG
  have HCO : Hid (∀ (a : Int) (W : World), Below w.heap.size w W → Calls Tryd.prog 11 #[.iface 80 (.agg #[.int .i64 a, .iface 76 (.int .i64 10)])] W fun r w' => r = .returned (.int .i64 10) ∧ Hid (Below W.heap.size W w')) := Lib.hid (fun a W h => Er.code_calls (.at a (.no 10)) W (g0_later hG h))
  have HPL : Hid (∀ (a : Int) (W : World), Below w.heap.size w W → Calls Tryd.prog 12 #[.iface 80 (.agg #[.int .i64 a, .iface 76 (.int .i64 10)])] W fun r w' => r = .returned (.int .i64 a) ∧ Hid (Below W.heap.size W w')) := Lib.hid (fun a W h => Er.place_calls (.at a (.no 10)) W (g0_later hG h))
  clear hr hlen hG
  by_cases hbig : 200 < len
  · have hb : (200 : Int) < (len : Int) := by omega
    go_enter Tryd.func3, Tryd.ntmps3
    go_wp2_with (go_at_call 9; refine (awake_calls _).mono ?_; rintro e w1 ⟨rfl, HB⟩)
    go_ret
    exact ⟨rfl, HB⟩
  have hb : ¬ (200 : Int) < (len : Int) := by omega
  cases b
  case true =>
    have HMK : Hid (∀ W : World, ∃ C, (Instr.makeSlice 22 (.int .i64 20001) (.int .i64 20001)).run Tryd.prog W = .ok (.slice (some ⟨W.heap.size, 0, none⟩) 20001 20001) (W.alloc (.cells C 67)) ∧ Hid (ER (W.alloc (.cells C 67)) W.heap.size (.slice (some ⟨W.heap.size, 0, none⟩) 20001 20001) (List.replicate 20001 (0, 0)))) := Lib.hid (fun W => by
      obtain ⟨C, h1, h2⟩ := makeE_run W 20001 (by omega)
      exact ⟨C, h1, Lib.hid h2⟩)
    have HNB : Hid (∀ (W : World) (g : Nat) (v : Value), ER W g v (List.replicate 20001 (0, 0)) → Calls Tryd.prog 10 #[.int .i64 1, v] W fun e w' => e = .returned (.tuple #[.slice none 0 0, .iface 80 (.agg #[.int .i64 20000, .iface 76 (.int .i64 10)])]) ∧ Hid (Below W.heap.size W w')) := Lib.hid (fun W g v h => by
      have := norm_bad 1 g v _ W h (by rw [List.length_replicate]; omega) (by rw [long_wrg]; omega)
      rw [long_wrg] at this
      exact this)
    go_enter Tryd.func3, Tryd.ntmps3
    go_upto_region 6 with (go_at_call 9; refine (awake_calls _).mono ?_; rintro e w1 ⟨rfl, HB⟩)
    obtain ⟨C, hmk, HE⟩ := HMK.out w1
    have HT1 : Hid (Below w.heap.size w (w1.alloc (.cells C 67))) := Lib.hid (HB.out.alloc HB.out.size _)
    go_wp2_with (first
      | (go_at_call 10; refine (HNB.out _ _ _ HE.out).mono ?_; rintro e w2 ⟨rfl, HB2⟩; have HT2 := Lib.hid (HT1.out.trans (HB2.out.mono HT1.out.size)))
      | (go_at_call 11; refine (HCO.out _ _ HT2.out).mono ?_; rintro e w3 ⟨rfl, HB3⟩; have HT3 := Lib.hid (HT2.out.trans (HB3.out.mono HT2.out.size)))
      | (go_at_call 12; refine (HPL.out _ _ HT3.out).mono ?_; rintro e w4 ⟨rfl, HB4⟩; have HT4 := Lib.hid (HT3.out.trans (HB4.out.mono HT3.out.size))))
    go_ret
    exact ⟨rfl, HT4⟩
  case false =>
    have HLN : Hid (l.length ≤ 1000000) := Lib.hid (by rw [HL.out]; omega)
    by_cases hw : wrg n l = -2
    · have HW := Lib.hid hw
      have HW2 := Lib.hid (nrm_wrg hw)
      have HNL : Hid ((nrm l).length ≤ 1000000) := Lib.hid (Nat.le_trans (nrm_len l) (by rw [HL.out]; omega))
      have HN1 : Hid (∀ W : World, Below w.heap.size w W → Calls Tryd.prog 10 #[.int .i64 n, .slice A len c] W fun e w' => ∃ v', e = .returned (.tuple #[v', .nilIface]) ∧ Hid (EO w' W.heap.size v' (nrm l)) ∧ Hid (Below W.heap.size W w')) := Lib.hid (fun W h => norm_ok n g _ l W (HR.out.later h) HLN.out hw)
      have HN2 : Hid (∀ (W : World) (g : Nat) (v : Value), ER W g v (nrm l) → Calls Tryd.prog 10 #[.int .i64 n, v] W fun e w' => ∃ v', e = .returned (.tuple #[v', .nilIface]) ∧ Hid (EO w' W.heap.size v' (nrm l)) ∧ Hid (Below W.heap.size W w')) := Lib.hid (fun W g v h => by
        have := norm_ok n g v (nrm l) W h HNL.out HW2.out
        rw [nrm_nrm] at this
        exact this)
      have HCK : Hid (∀ W : World, Below w.heap.size w W → Calls Tryd.prog 13 #[.int .i64 n, .slice A len c] W fun e w' => e = .returned .nilIface ∧ Hid (Below W.heap.size W w')) := Lib.hid (fun W h => by
        have := check_calls n g _ l W (HR.out.later h) HLN.out
        unfold chkV at this; rw [if_pos hw] at this; exact this)
      have HWR : Hid (∀ W : World, Below w.heap.size w W → Calls Tryd.prog 14 #[.int .i64 n, .slice A len c] W fun e w' => e = .returned (.int .i64 (-2)) ∧ W = w') := Lib.hid (fun W h => by
        have := rwrong_calls n g _ l W (HR.out.later h) HLN.out
        rw [hw] at this; exact this)
      have HRN : Hid (∀ W : World, Below w.heap.size w W → Calls Tryd.prog 16 #[.slice A len c] W fun e w' => ∃ v', e = .returned v' ∧ Hid (EO w' W.heap.size v' (nrm l)) ∧ Hid (Below W.heap.size W w')) := Lib.hid (fun W h => rnorm_calls g _ l W (HR.out.later h) (by rw [HL.out]; omega))
      have HSM : Hid (∀ (W : World) (g1 g2 : Nat) (v1 v2 : Value), ER W g1 v1 (nrm l) → ER W g2 v2 (nrm l) → Calls Tryd.prog 15 #[v1, v2] W fun e w' => e = .returned (.bool true) ∧ Hid (Below W.heap.size W w')) := Lib.hid (fun W g1 g2 v1 v2 h1 h2 => by
        have := rsame_b g1 g2 v1 v2 _ _ W h1 h2
        rw [decide_eq_true (p := nrm l = nrm l) rfl] at this; exact this)
      have HSE : Hid (∀ (W : World) (g1 g2 : Nat) (v1 v2 : Value), ER W g1 v1 (nrm l) → ER W g2 v2 (nrm l) → Calls Tryd.prog 17 #[v1, v2] W fun e w' => e = .returned (.bool true) ∧ Hid (Below W.heap.size W w')) := Lib.hid (fun W g1 g2 v1 v2 h1 h2 => by
        have := same_b g1 g2 v1 v2 _ _ W h1 h2
        rw [decide_eq_true (p := nrm l = nrm l) rfl] at this; exact this)
      generalize nrm l = m at HN1 HN2 HRN HSM HSE HNL HW2
      clear hw
      go_enter Tryd.func3, Tryd.ntmps3
      go_wp2_with (first
        | (go_at_call 9; refine (awake_calls _).mono ?_; rintro e w1 ⟨rfl, HB⟩)
        | (go_at_call 10; (with_reducible show Calls Tryd.prog 10 #[.int .i64 n, .slice A len c] w1 _); refine (HN1.out _ HB.out).mono ?_; rintro e w2 ⟨v2, rfl, HO2, HB2⟩; have HT2 := Lib.hid (HB.out.trans (HB2.out.mono HB.out.size)); obtain ⟨g2, hg2, -⟩ := HO2.out.reads; have HE2 := Lib.hid hg2; clear hg2; obtain ⟨A2, c2, rfl, -, -⟩ := id HO2.out.shape; obtain ⟨n2, hn2⟩ : ∃ k, m.length = k := ⟨_, rfl⟩; rw [hn2] at HE2 HO2 ⊢; clear hn2)
        | (go_at_call 13; refine (HCK.out _ HT2.out).mono ?_; rintro e w3 ⟨rfl, HB3⟩; have HT3 := Lib.hid (HT2.out.trans (HB3.out.mono HT2.out.size)))
        | (go_at_call 14; refine (HWR.out _ HT3.out).mono ?_; rintro e w3' ⟨rfl, rfl⟩)
        | (go_at_call 10; refine (HN2.out _ g2 _ (HE2.out.later HB3.out)).mono ?_; rintro e w4 ⟨v4, rfl, HO4, HB4⟩; have HT4 := Lib.hid (HT3.out.trans (HB4.out.mono HT3.out.size)))
        | (go_at_call 16; refine (HRN.out _ HT4.out).mono ?_; rintro e w5 ⟨v5, rfl, HO5, HB5⟩; have HT5 := Lib.hid (HT4.out.trans (HB5.out.mono HT4.out.size)); obtain ⟨g5, hg5, -⟩ := HO5.out.reads; have HE5 := Lib.hid hg5; clear hg5)
        | (go_at_call 15; refine (HSM.out _ g2 g5 _ _ (((HE2.out.later HB3.out).later HB4.out).later HB5.out) HE5.out).mono ?_; rintro e w6 ⟨rfl, HB6⟩; have HT6 := Lib.hid (HT5.out.trans (HB6.out.mono HT5.out.size)); obtain ⟨g4, hg4, -⟩ := HO4.out.reads; have HE4 := Lib.hid hg4; clear hg4)
        | (go_at_call 17; refine (HSE.out _ g2 g4 _ _ ((((HE2.out.later HB3.out).later HB4.out).later HB5.out).later HB6.out) ((HE4.out.later HB5.out).later HB6.out)).mono ?_; rintro e w7 ⟨rfl, HB7⟩; have HT7 := Lib.hid (HT6.out.trans (HB7.out.mono HT6.out.size))))
      go_ret
      exact ⟨rfl, HT7⟩
    · obtain ⟨a, ha⟩ : ∃ a, wrg n l = a := ⟨_, rfl⟩
      have hane : a ≠ -2 := by rw [← ha]; exact hw
      have hab : (a != -2) = true := by simpa using hane
      have HN1 : Hid (∀ W : World, Below w.heap.size w W → Calls Tryd.prog 10 #[.int .i64 n, .slice A len c] W fun e w' => e = .returned (.tuple #[.slice none 0 0, .iface 80 (.agg #[.int .i64 a, .iface 76 (.int .i64 10)])]) ∧ Hid (Below W.heap.size W w')) := Lib.hid (fun W h => by
        have := norm_bad n g _ l W (HR.out.later h) HLN.out hw
        rw [ha] at this; exact this)
      have HCK : Hid (∀ W : World, Below w.heap.size w W → Calls Tryd.prog 13 #[.int .i64 n, .slice A len c] W fun e w' => e = .returned (.iface 80 (.agg #[.int .i64 a, .iface 76 (.int .i64 10)])) ∧ Hid (Below W.heap.size W w')) := Lib.hid (fun W h => by
        have := check_calls n g _ l W (HR.out.later h) HLN.out
        rw [chkV_at ha hane] at this; exact this)
      have HWR : Hid (∀ W : World, Below w.heap.size w W → Calls Tryd.prog 14 #[.int .i64 n, .slice A len c] W fun e w' => e = .returned (.int .i64 a) ∧ W = w') := Lib.hid (fun W h => by
        have := rwrong_calls n g _ l W (HR.out.later h) HLN.out
        rw [ha] at this; exact this)
      clear hw ha
      go_enter Tryd.func3, Tryd.ntmps3
      go_wp2_with (first
        | (go_at_call 9; refine (awake_calls _).mono ?_; rintro e w1 ⟨rfl, HB⟩)
        | (go_at_call 10; refine (HN1.out _ HB.out).mono ?_; rintro e w2 ⟨rfl, HB2⟩; have HZ := Lib.hid (HB.out.trans (HB2.out.mono HB.out.size)))
        | (go_at_call 13; refine (HCK.out _ HZ.out).mono ?_; rintro e w3 ⟨rfl, HB3⟩; have HZ := Lib.hid (HZ.out.trans (HB3.out.mono HZ.out.size)))
        | (go_at_call 14; refine (HWR.out _ HZ.out).mono ?_; rintro e w3' ⟨rfl, rfl⟩)
        | (go_at_call 11; refine (HCO.out _ _ HZ.out).mono ?_; rintro e w3 ⟨rfl, HB3⟩; have HZ := Lib.hid (HZ.out.trans (HB3.out.mono HZ.out.size)))
        | (go_at_call 12; refine (HPL.out _ _ HZ.out).mono ?_; rintro e w4 ⟨rfl, HB4⟩; have HZ := Lib.hid (HZ.out.trans (HB4.out.mono HZ.out.size))))
      go_ret
      exact ⟨rfl, HZ⟩
theorem norm_row (n : Int) (g : Nat) (v : Value) (l : List E2) (b : Bool) (w : World) (hG : Er.G0 w) (hn : (Lit.int .i64 n).wf = true) (hr : ER w g v l) (hb : ∀ e ∈ l, (-9223372036854775808 ≤ e.1 ∧ e.1 < 9223372036854775808) ∧ (-9223372036854775808 ≤ e.2 ∧ e.2 < 9223372036854775808)) :
    Calls Tryd.prog 3 #[.int .i64 n, v, .bool b] w fun e w' => e = .returned (.bool true) ∧ Below w.heap.size w w' := by
  obtain ⟨A, c, rfl, -⟩ := (show ∃ A c, v = .slice A l.length c ∧ True from by obtain ⟨o, A, c, h, -⟩ := hr; exact ⟨A, c, h, trivial⟩)
  exact (norm_walk n g A l.length c l b w hG hr rfl).mono fun _ _ h => ⟨h.1, h.2.out⟩
end Go.Proofs.YthnpaiobjmneaaaDoor.Ed
