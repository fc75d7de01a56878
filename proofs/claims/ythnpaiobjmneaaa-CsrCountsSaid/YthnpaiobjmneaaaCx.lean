/- CsrCounts, walked. -/
import Derived.Test.YthnpaiobjmneaaaCw
namespace Go.Proofs.Ythnpaiobjmneaaa.Cs
open Go.RowKit Go.Proofs.Ythnpaiobjmneaaa.Ed Go.Proofs.Ythnpaiobjmneaaa.Ro
set_option linter.unusedVariables false
set_option linter.unusedSimpArgs false

set_option maxHeartbeats 4000000 in
set_option maxRecDepth 100000 in
theorem counts_walk (n : Int) (g : Nat) (A : Option Addr) (len c : Nat) (l0 : List E2) (w : World) (hr : ER w g (.slice A len c) l0) (hlen : l0.length = len) :
    Calls Try.prog 10 #[.int .i64 n, .slice A len c] w fun e w' => e = .returned (.bool true) ∧ Hid (Below w.heap.size w w') := by
  have HR := Lib.hid hr
  have HL := Lib.hid hlen
  have hc : len ≤ c ∧ c ≤ 9223372036854775807 := by
    obtain ⟨A', c', hv, h1, h2⟩ := er_form hr
    injection hv with _ _ hv
    subst hv
    rw [hlen] at h1
    exact ⟨h1, h2⟩
  obtain ⟨hc1, hc2⟩ := hc
  clear hr hlen
  by_cases hbig : 200 < len
  · have hb : (200 : Int) < (len : Int) := by omega
    go_enter Try.func10, Try.ntmps10
    go_wp2_with (go_at_call 33; refine (awake_calls _).mono ?_; rintro e w1 ⟨rfl, HB⟩)
    go_ret
    exact ⟨rfl, HB⟩
  · have hb : ¬ (200 : Int) < (len : Int) := by omega
    by_cases hw : wrg n l0 = -2
    · obtain ⟨n0, n1, -, -⟩ := wrg_ok.1 hw
      obtain ⟨N, rfl⟩ := Int.eq_ofNat_of_zero_le n0
      have HW := Lib.hid hw
      have nn : N ≤ 4096 := by omega
      clear hw n0 n1
      go_enter Try.func10, Try.ntmps10
      go_upto_region 10 with (first
        | (go_at_call 33; refine (awake_calls _).mono ?_; rintro e w1 ⟨rfl, HB⟩)
        | (go_at_call 34; refine (build_ok N _ _ l0 _ (HR.out.later HB.out) (by rw [HL.out]; omega) HW.out).mono ?_; rintro e w2 ⟨p, bb, tv, rfl, HC, HB2⟩; have HBW := Lib.hid (HB.out.trans (HB2.out.mono HB.out.size)); clear HB HB2))
      have hnl := nrm_len l0
      obtain ⟨l, hl⟩ : ∃ l, nrm l0 = l := ⟨_, rfl⟩
      rw [hl] at HC hnl
      have hl200 : l.length ≤ 200 := by rw [HL.out] at hnl; omega
      have HB0 : Hid (bel l 0 = 0) := Lib.hid (bel_zero l fun e he => (HC.out.ok e he).1)
      have HZ : Hid (Below w2.heap.size w2 w2) := Lib.hid (Below.refl _ _)
      clear hnl hl
      go_loopw [7, 8] (fun y x wz => ∃ (v s : Nat), x = .int .i64 (v : Int) ∧ y = .int .i64 (s : Int) ∧ v ≤ N ∧ s ≤ 200 ∧ Hid (bel l v = s) ∧ Hid (Below w2.heap.size w2 wz)) (fun _ x _ => N - (intOf x).toNat)
      case atStart => exact ⟨0, 0, rfl, rfl, by omega, by omega, HB0, HZ⟩
      case round =>
        obtain ⟨v, s, rfl, rfl, hv, hs, HS, HZ⟩ := hrel
        by_cases hlt : v < N
        · have hbs := bel_step l v
          have hbd := bel_deg l v
          have HTA := Lib.hid (tgt_asc HC.out.up v)
          have HTL := Lib.hid (tgt_len l v)
          obtain ⟨d, hd⟩ : ∃ d, deg l v = d := ⟨_, rfl⟩
          rw [hd] at hbs hbd HTL
          rw [HS.out] at hbs hbd
          have HD := Lib.hid hd
          have HS2 : Hid (bel l (v + 1 : Nat) = s + d) := Lib.hid hbs
          have hsd : s + d ≤ 200 := by omega
          have e1 : ((d : Int) != (d : Int)) = false := by simp
          have e2 : ((s : Int) != (s : Int)) = false := by simp
          clear hbs hbd hd
          go_upto_region 18 with (first
            | (go_at_call 36; refine (targets_calls (HC.out.later HZ.out) v hlt).mono ?_; rintro e w3 ⟨v3, rfl, HO, HB3⟩; have HZ := Lib.hid (HZ.out.trans (HB3.out.mono HZ.out.size)); obtain ⟨g3, hg3, -⟩ := HO.out.reads; have HJ := Lib.hid hg3; obtain ⟨A3, c3, rfl, -⟩ := id HO.out.shape; rw [HTL.out] at HJ ⊢; clear HO HB3 hg3)
            | (go_at_call 37; refine (cdegree_calls (HC.out.later HZ.out) v hlt).mono ?_; rw [HD.out]; rintro e w4 ⟨rfl, HB4⟩; have HZ := Lib.hid (HZ.out.trans (HB4.out.mono HZ.out.size)); have HJ := Lib.hid (HJ.out.later HB4.out); clear HB4)
            | (go_at_call 38; refine (begin_calls (HC.out.later HZ.out) v (by omega)).mono ?_; rw [HS.out]; rintro e w5 ⟨rfl, rfl⟩))
          rename World => wo
          have HY : Hid (Below wo.heap.size wo wo) := Lib.hid (Below.refl _ _)
          go_loopw [69] (fun x wz => ∃ j : Nat, x = .int .i64 (j : Int) ∧ j ≤ d ∧ Hid (Below wo.heap.size wo wz)) (fun x _ => d - (intOf x).toNat)
          case atStart => exact ⟨0, rfl, by omega, HY⟩
          case round =>
            obtain ⟨j, rfl, hj, HY⟩ := hrel
            have HZY := Lib.hid (HZ.out.trans (HY.out.mono HZ.out.size))
            by_cases hlt2 : j < d
            · obtain ⟨A', c', o', hv', -, -, hread⟩ := HJ.out.later HY.out
              rw [HTL.out] at hread hv'
              obtain ⟨rfl, -, hcell⟩ := hread (by omega)
              injection hv' with hv' _ hcc
              subst hcc hv'
              have q := hcell j hlt2
              have hmem : (tgt l v).getD j 0 ∈ tgt l v := by rw [List.getD_eq_getElem?_getD, List.getElem?_eq_getElem (by rw [HTL.out]; exact hlt2)]; exact List.getElem_mem _
              have hin := mem_tgt.1 hmem
              have hprev : 0 < j → (tgt l v).getD (j - 1) 0 < (tgt l v).getD j 0 := fun h => getD_lt HTA.out (by omega) (by rw [HTL.out]; exact hlt2)
              obtain ⟨x, hx⟩ : ∃ x, (tgt l v).getD j 0 = x := ⟨_, rfl⟩
              rw [hx] at q hin hprev
              have HH := Lib.hid (has_calls (HC.out.later HZY.out) v hlt x)
              rw [decide_eq_true hin] at HH
              have i0 : (0 : Int) ≤ (j : Int) := by omega
              have i1 : (j : Int) < (d : Int) := by omega
              clear hmem hin hx
              by_cases h0 : j = 0
              · have h00 : ¬ (0 : Int) < (j : Int) := by omega
                clear hprev hcell hread h0
                go_wp2_with (go_at_call 39; refine HH.out.mono ?_; rintro e w6 ⟨rfl, HB6⟩)
                go_roundw
                case rel => exact ⟨j + 1, by go_num, by omega, Lib.hid (HY.out.trans (HB6.out.mono HY.out.size))⟩
                case measure => simp [intOf]; omega
              · have h00 : (0 : Int) < (j : Int) := by omega
                have q2 := hcell (j - 1) (by omega)
                have hlt3 := hprev (by omega)
                obtain ⟨y, hy⟩ : ∃ y, (tgt l v).getD (j - 1) 0 = y := ⟨_, rfl⟩
                rw [hy] at q2 hlt3
                have Q2 := Lib.hid (fun W (hW : Below wr.heap.size wr W) => (hW.cell (p := ⟨g3, o' + (j - 1), none⟩) (World.block_lt_of_cell? _ _ q2)).trans q2)
                have h01 : ¬ x ≤ y := by omega
                have i2 : (0 : Int) ≤ (j : Int) - 1 := by omega
                have i3 : (j : Int) - 1 < (d : Int) := by omega
                have i4 : ((j : Int) - 1).toNat = j - 1 := by omega
                clear hprev hcell hread hy q2
                go_wp2_with (go_at_call 39; refine HH.out.mono ?_; rintro e w6 ⟨rfl, HB6⟩; have q3 := Q2.out _ HB6.out)
                go_roundw
                case rel => exact ⟨j + 1, by go_num, by omega, Lib.hid (HY.out.trans (HB6.out.mono HY.out.size))⟩
                case measure => simp [intOf]; omega
            · obtain rfl : d = j := by omega
              go_wp2
              go_roundw
              case rel => exact ⟨v + 1, s + d, by go_num, by go_num, by omega, by omega, HS2, HZY⟩
              case measure => simp [intOf]; omega
        · obtain rfl : N = v := by omega
          have e1 : bel l N = l.length := bel_all l _ fun e he => (HC.out.ok e he).2.2.1
          obtain rfl : s = l.length := by rw [← HS.out]; exact e1
          have e2 : ((l.length : Int) == (l.length : Int)) = true := by simp
          clear e1
          obtain ⟨m, hm⟩ : ∃ m, l.length = m := ⟨_, rfl⟩
          have HM := Lib.hid hm
          rw [hm] at e2 HS ⊢
          clear hm
          go_wp2_with (first
            | (go_at_call 40; refine (edges_calls (HC.out.later HZ.out)).mono ?_; rw [HM.out]; rintro e w4 ⟨rfl, rfl⟩)
            | (go_at_call 38; refine (begin_calls (HC.out.later HZ.out) N (by omega)).mono ?_; rw [HS.out]; rintro e w5 ⟨rfl, rfl⟩))
          go_ret
          exact ⟨rfl, Lib.hid (HBW.out.trans (HZ.out.mono HBW.out.size))⟩
    · have HW := Lib.hid hw
      obtain ⟨a, ha⟩ : ∃ a, wrg n l0 = a := ⟨_, rfl⟩
      have HA := Lib.hid ha
      clear ha hw
      go_enter Try.func10, Try.ntmps10
      go_wp2_with (first
        | (go_at_call 33; refine (awake_calls _).mono ?_; rintro e w1 ⟨rfl, HB⟩)
        | (go_at_call 34; refine (build_bad n _ _ l0 _ (HR.out.later HB.out) (by rw [HL.out]; omega) HW.out).mono ?_; rw [HA.out]; unfold errV; rintro e w2 ⟨rfl, HB2⟩))
      go_ret
      exact ⟨rfl, Lib.hid (HB.out.trans (HB2.out.mono HB.out.size))⟩
theorem counts_row (n : Int) (g : Nat) (v : Value) (l : List E2) (w : World) (hn : (Lit.int .i64 n).wf = true) (hr : ER w g v l) (hb : ∀ e ∈ l, (-9223372036854775808 ≤ e.1 ∧ e.1 < 9223372036854775808) ∧ (-9223372036854775808 ≤ e.2 ∧ e.2 < 9223372036854775808)) :
    Calls Try.prog 10 #[.int .i64 n, v] w fun e w' => e = .returned (.bool true) ∧ Below w.heap.size w w' := by
  obtain ⟨A, c, rfl, -⟩ := er_form hr
  exact (counts_walk n g A l.length c l w hr rfl).mono fun _ _ h => ⟨h.1, h.2.out⟩
end Go.Proofs.Ythnpaiobjmneaaa.Cs
