/- The law MerkleProves, walked: to the root. -/
import Derived.Test.YtmhjocbnoppbbaaDoorProvesW
import Derived.BigQuiet
import Derived.Deep.RegionHeld3
namespace Go.Proofs.YtmhjocbnoppbbaaDoor.Mk
open Go.RowKit Go.Proofs.YtmhjocbnoppbbaaDoor.Sha Go.Proofs.YtmhjocbnoppbbaaDoor.Ref
set_option linter.unusedVariables false
set_option linter.unusedSimpArgs false

/-- what the law's box and its arguments tell in every world behind W1 -/
structure PvC (w W1 : World) (I : Int) (S : ByteArray) (A2 : Option Addr) (n2 c2 g1 g2 : Nat) (v1 : Value) (ss ps : List ByteArray) (w' : World) : Prop where
  d0 : w'.cell? ⟨w.heap.size, 0, none⟩ = some (.int .i64 I)
  d1 : w'.cell? ⟨w.heap.size, 1, none⟩ = some (.string S)
  d2 : w'.cell? ⟨w.heap.size, 2, none⟩ = some (.slice A2 n2 c2)
  s1 : SR w' g1 v1 ss
  s2 : SR w' g2 (.slice A2 n2 c2) ps
  g0 : Er.G0 w'
  below : Below w.heap.size w w'

set_option maxHeartbeats 8000000 in
set_option maxRecDepth 100000 in
theorem proves_walk (A1 : Option Addr) (n1 c1 g1 : Nat) (ss : List ByteArray) (I : Int) (S : ByteArray) (A2 : Option Addr) (n2 c2 g2 : Nat) (ps : List ByteArray) (w : World) (h0 : Er.G0 w) (hI0 : -9223372036854775808 ≤ I) (hI1 : I ≤ 9223372036854775807) (hs1 : SR w g1 (.slice A1 n1 c1) ss) (hs2 : SR w g2 (.slice A2 n2 c2) ps) :
    Calls Tryd.prog 6 #[.slice A1 n1 c1, .agg #[.int .i64 I, .string S, .slice A2 n2 c2]] w fun e w' => e = .returned (.bool true) ∧ Below w.heap.size w w' := by
  have hn1 : ss.length = n1 := by obtain ⟨A', c', hv, -⟩ := hs1; injection hv with _ h _; exact h.symm
  have hn2 : ps.length = n2 := by obtain ⟨A', c', hv, -⟩ := hs2; injection hv with _ h _; exact h.symm
  have HN1 := Lib.hid hn1
  have HN2 := Lib.hid hn2
  have hG0 : 0 < w.heap.size := World.block_lt_of_cell? _ _ h0
  obtain ⟨W1, hW1⟩ : ∃ W1, w.alloc (.cells #[.int .i64 I, .string S, .slice A2 n2 c2] 44) = W1 := ⟨_, rfl⟩
  have hsz1 : W1.heap.size = w.heap.size + 1 := by rw [← hW1]; simp
  have hb1 : Below w.heap.size w W1 := by rw [← hW1]; exact (Below.refl _ _).alloc (Nat.le_refl _) _
  have HC : Hid (∀ w', Below W1.heap.size W1 w' → PvC w W1 I S A2 n2 c2 g1 g2 (.slice A1 n1 c1) ss ps w') := Lib.hid (fun w' hb => by
    have hbw := hb1.trans (hb.mono (by omega))
    have hlt : w.heap.size < W1.heap.size := by omega
    exact ⟨by rw [hb.cell (show w.heap.size < _ from hlt), ← hW1]; simp, by rw [hb.cell (show w.heap.size < _ from hlt), ← hW1]; simp, by rw [hb.cell (show w.heap.size < _ from hlt), ← hW1]; simp, hs1.later hbw, hs2.later hbw, g0_later h0 hG0 hbw, hbw⟩)
  have HAWK := Lib.hid (awake_calls W1)
  have HGR := Lib.hid (fun W (h : SR W g1 (.slice A1 n1 c1) ss) => great_calls g1 (.slice A1 n1 c1) ss W h)
  clear hs1 hs2 h0 hn1 hn2 hb1 hsz1
  go_enter Tryd.func6, Tryd.ntmps6
  go_upto_region 1 with fail
  clear hW1
  go_upto_region 3 with (go_at_call 17; refine HAWK.out.mono ?_; rintro e wa ⟨rfl, HB⟩; have q2 := (HC.out wa HB.out).d2; have q1 := (HC.out wa HB.out).d1)
  by_cases hgr : greatB ss = true
  · have HG := Lib.hid hgr
    clear hgr
    go_wp2_with (go_at_call 18; refine (HGR.out _ (HC.out _ HB.out).s1).mono ?_; rw [HG.out]; rintro e wb ⟨rfl, HB2⟩; have HB := Lib.hid (HB.out.trans (HB2.out.mono HB.out.size)); have q2 := (HC.out wb HB.out).d2; have q1 := (HC.out wb HB.out).d1)
    go_ret
    exact ⟨rfl, (HC.out _ HB.out).below⟩
  · have hgr' : greatB ss = false := by simpa using hgr
    have HG := Lib.hid hgr'
    obtain ⟨l20, l100⟩ := greatB_no hgr'
    have HL100 := Lib.hid l100
    rw [HN1.out] at l20
    clear hgr hgr' l100
    by_cases h20 : n2 ≤ 20
    case neg =>
      have k20 : (20 : Int) < (n2 : Int) := by omega
      go_wp2_with (go_at_call 18; refine (HGR.out _ (HC.out _ HB.out).s1).mono ?_; rw [HG.out]; rintro e wb ⟨rfl, HB2⟩; have HB := Lib.hid (HB.out.trans (HB2.out.mono HB.out.size)); have q2 := (HC.out wb HB.out).d2; have q1 := (HC.out wb HB.out).d1)
      go_ret
      exact ⟨rfl, (HC.out _ HB.out).below⟩
    case pos =>
      have k20 : ¬ (20 : Int) < (n2 : Int) := by omega
      by_cases h300 : S.size ≤ 300
      case neg =>
        have k300 : (300 : Int) < (S.size : Int) := by omega
        go_wp2_with (go_at_call 18; refine (HGR.out _ (HC.out _ HB.out).s1).mono ?_; rw [HG.out]; rintro e wb ⟨rfl, HB2⟩; have HB := Lib.hid (HB.out.trans (HB2.out.mono HB.out.size)); have q2 := (HC.out wb HB.out).d2; have q1 := (HC.out wb HB.out).d1)
        go_ret
        exact ⟨rfl, (HC.out _ HB.out).below⟩
      case pos =>
        have k300 : ¬ (300 : Int) < (S.size : Int) := by omega
        go_wp2_with (go_at_call 18; refine (HGR.out _ (HC.out _ HB.out).s1).mono ?_; rw [HG.out]; rintro e wb ⟨rfl, HB2⟩; have HB := Lib.hid (HB.out.trans (HB2.out.mono HB.out.size)); have q2 := (HC.out wb HB.out).d2; have q1 := (HC.out wb HB.out).d1)
        rename World => wb
        clear HAWK HGR
        go_loopw [36] (fun x wz => ∃ j : Nat, x = .int .i64 (j : Int) ∧ j ≤ n2 ∧ Hid (∀ k, k < j → (ps.getD k ByteArray.empty).size ≤ 100) ∧ wz = wb) (fun x _ => n2 - (intOf x).toNat)
        case atStart => exact ⟨0, rfl, by omega, Lib.hid (fun k hk => by omega), rfl⟩
        case round =>
          obtain ⟨j, rfl, hj, HP, hwz⟩ := hrel
          subst hwz
          by_cases hlt : j < n2
          · obtain ⟨A', c', hv', -, -, hread⟩ := (HC.out _ HB.out).s2
            obtain ⟨ad, hA', -, hcell⟩ := hread (by rw [HN2.out]; omega)
            rw [HN2.out] at hcell hv'
            injection hv' with hv' _ hcc
            subst hcc
            rw [hA'] at hv'
            subst hv'
            have hc := hcell j hlt
            obtain ⟨p, hp⟩ : ∃ p, ps.getD j ByteArray.empty = p := ⟨_, rfl⟩
            rw [hp] at hc
            have HPP := Lib.hid hp
            clear hcell hread hA' hp
            by_cases h100 : p.size ≤ 100
            · have k100 : ¬ (100 : Int) < (p.size : Int) := by omega
              have HP2 : Hid (∀ k, k < j + 1 → (ps.getD k ByteArray.empty).size ≤ 100) := Lib.hid (fun k hk => by
                by_cases e : k = j
                · subst e; rw [HPP.out]; exact h100
                · exact HP.out k (by omega))
              go_wp2_with fail
              go_roundw
              case rel => exact ⟨j + 1, by go_num, by omega, HP2, trivial⟩
              case measure => simp [intOf]; omega
            · have k100 : (100 : Int) < (p.size : Int) := by omega
              go_wp2_with fail
              go_ret
              exact ⟨rfl, (HC.out _ HB.out).below⟩
          · obtain rfl : j = n2 := by omega
            have HPS : Hid (∀ p ∈ ps, p.size ≤ 100) := Lib.hid (fun p hp => by
              obtain ⟨k, hk, rfl⟩ := List.mem_iff_getElem.1 hp
              have := HP.out k (by rw [← HN2.out]; exact hk)
              rwa [show ps.getD k ByteArray.empty = ps[k] by simp [List.getD_eq_getElem?_getD, hk]] at this)
            clear HP hlt hj
            have HKIT := Lib.hid (kit_calls wr)
            go_upto_region 12 with (go_at_call 19; refine HKIT.out.mono ?_; rintro e wk ⟨kv, hv, rfl, HK2, HBK⟩; obtain ⟨gk1, gk2, hk1, hk2⟩ := HK2.out; obtain ⟨B1, e1, hv1, -⟩ := hk1; obtain ⟨B2, e2, hv2, -⟩ := hk2; subst hv1; subst hv2)
            obtain ⟨kv, hkv⟩ : ∃ kv, Value.slice B1 K64.length e1 = kv := ⟨_, rfl⟩
            obtain ⟨hv, hhv⟩ : ∃ hv, Value.slice B2 H8.length e2 = hv := ⟨_, rfl⟩
            rw [hkv, hhv]
            rw [hkv, hhv] at HK2
            have h0 := heap_alloc_new wk (.cells #[kv, hv] 47)
            have hk3 := HK2.out.later ((Below.refl _ _).alloc (Nat.le_refl _) (.cells #[kv, hv] 47))
            have hbk := (HB.out.trans (HBK.out.mono HB.out.size)).alloc (HB.out.trans (HBK.out.mono HB.out.size)).size (.cells #[kv, hv] 47)
            obtain ⟨kb, hkb⟩ : ∃ kb, wk.heap.size = kb := ⟨_, rfl⟩
            obtain ⟨W0, hW0⟩ : ∃ W0, wk.alloc (.cells #[kv, hv] 47) = W0 := ⟨_, rfl⟩
            rw [hW0, hkb] at h0
            rw [hW0] at hk3 hbk
            rw [hW0, hkb]
            have HD : Hid (∀ W, Below W0.heap.size W0 W → (W.cell? ⟨kb, 0, none⟩ = some kv ∧ W.cell? ⟨kb, 1, none⟩ = some hv) ∧ KitS W kv hv ∧ PvC w W1 I S A2 j c2 g1 g2 (.slice A1 n1 c1) ss ps W) := Lib.hid (fun W h => by
              have h1 := (h.block kb (Array.getElem?_eq_some_iff.1 h0).1).trans h0
              exact ⟨⟨by rw [cell_of_row W kb 0 _ _ _ h1]; rfl, by rw [cell_of_row W kb 1 _ _ _ h1]; rfl⟩, hk3.later h, HC.out W (hbk.trans (h.mono hbk.size))⟩)
            have HRT := Lib.hid (fun W hW hK => kroot_calls kv hv n1 g1 (.slice A1 n1 c1) ss W HN1.out (by omega) (fun s hs => by have := HL100.out s hs; omega) hW hK)
            have HBA : Hid (Below W0.heap.size W0 W0) := Lib.hid (Below.refl _ _)
            obtain ⟨kc0, kc1⟩ := (HD.out _ HBA.out).1
            have q0 := (HD.out _ HBA.out).2.2.d0
            have q1 := (HD.out _ HBA.out).2.2.d1
            have q2 := (HD.out _ HBA.out).2.2.d2
            have hS300 : S.size ≤ 900000 := by omega
            clear h0 hk3 hbk hkb hW0 hkv hhv HK2 HKIT HBK HC HB HB2
            by_cases hrg : 0 ≤ I ∧ I < (n1 : Int)
            case neg =>
              have hcv := checkV_out (root := rootD ss) (s := S) (ps := ps) (i := I) (n := (n1 : Int)) (fun h => hrg ⟨h.1, h.2.1⟩)
              have HCK := Lib.hid (fun W hW => check_calls (rootD ss) I (n1 : Int) S g2 (.slice A2 j c2) ps W hW (by rw [HN2.out]; omega) hS300)
              rw [hcv] at HCK
              have HCD : Hid (∀ W, Er.G0 W → Calls Tryd.prog 11 #[.iface 39 (.int .i64 2)] W fun r w' => r = .returned (.int .i64 2) ∧ Hid (Below W.heap.size W w')) := Lib.hid (fun W hW => Er.code_calls (.no 2) W hW)
              clear hcv
              generalize rootD ss = D at HRT HCK
              by_cases hneg : I < 0
              · clear hrg
                go_wp2_with (first
                  | (go_at_call 20; refine (HRT.out _ (HD.out _ HBA.out).2.2.s1 (HD.out _ HBA.out).2.1).mono ?_; rintro e wr1 ⟨pv1, rfl, HQ1, HBx⟩; have HQ1 := Lib.hid (HQ1.out.mono (b' := w.heap.size) (HD.out _ HBA.out).2.2.below.size); have HSW := Lib.hid HBA.out; have HBA := Lib.hid (HBA.out.trans (HBx.out.mono HBA.out.size)); clear HBx; have q0 := (HD.out _ HBA.out).2.2.d0; have q1 := (HD.out _ HBA.out).2.2.d1; have q2 := (HD.out _ HBA.out).2.2.d2; have kc0 := (HD.out _ HBA.out).1.1; have kc1 := (HD.out _ HBA.out).1.2)
                  | (go_at_call 21; refine (HCK.out _ (HD.out _ HBA.out).2.2.s2).mono ?_; rintro e wr2 ⟨rfl, HBx⟩; have HBA := Lib.hid (HBA.out.trans (HBx.out.mono HBA.out.size)); clear HBx; have q0 := (HD.out _ HBA.out).2.2.d0; have q1 := (HD.out _ HBA.out).2.2.d1; have q2 := (HD.out _ HBA.out).2.2.d2; have kc0 := (HD.out _ HBA.out).1.1; have kc1 := (HD.out _ HBA.out).1.2)
                  | (go_at_call 11; refine (HCD.out _ (HD.out _ HBA.out).2.2.g0).mono ?_; rintro e wr3 ⟨rfl, HBx⟩; have HBA := Lib.hid (HBA.out.trans (HBx.out.mono HBA.out.size)); clear HBx; have q0 := (HD.out _ HBA.out).2.2.d0; have q1 := (HD.out _ HBA.out).2.2.d1; have q2 := (HD.out _ HBA.out).2.2.d2; have kc0 := (HD.out _ HBA.out).1.1; have kc1 := (HD.out _ HBA.out).1.2))
                go_ret
                exact ⟨rfl, (HD.out _ HBA.out).2.2.below⟩
              · have hge : (n1 : Int) ≤ I := by omega
                have hpos : 0 ≤ I := by omega
                clear hrg hneg
                go_wp2_with (first
                  | (go_at_call 20; refine (HRT.out _ (HD.out _ HBA.out).2.2.s1 (HD.out _ HBA.out).2.1).mono ?_; rintro e wr1 ⟨pv1, rfl, HQ1, HBx⟩; have HQ1 := Lib.hid (HQ1.out.mono (b' := w.heap.size) (HD.out _ HBA.out).2.2.below.size); have HSW := Lib.hid HBA.out; have HBA := Lib.hid (HBA.out.trans (HBx.out.mono HBA.out.size)); clear HBx; have q0 := (HD.out _ HBA.out).2.2.d0; have q1 := (HD.out _ HBA.out).2.2.d1; have q2 := (HD.out _ HBA.out).2.2.d2; have kc0 := (HD.out _ HBA.out).1.1; have kc1 := (HD.out _ HBA.out).1.2)
                  | (go_at_call 21; refine (HCK.out _ (HD.out _ HBA.out).2.2.s2).mono ?_; rintro e wr2 ⟨rfl, HBx⟩; have HBA := Lib.hid (HBA.out.trans (HBx.out.mono HBA.out.size)); clear HBx; have q0 := (HD.out _ HBA.out).2.2.d0; have q1 := (HD.out _ HBA.out).2.2.d1; have q2 := (HD.out _ HBA.out).2.2.d2; have kc0 := (HD.out _ HBA.out).1.1; have kc1 := (HD.out _ HBA.out).1.2)
                  | (go_at_call 11; refine (HCD.out _ (HD.out _ HBA.out).2.2.g0).mono ?_; rintro e wr3 ⟨rfl, HBx⟩; have HBA := Lib.hid (HBA.out.trans (HBx.out.mono HBA.out.size)); clear HBx; have q0 := (HD.out _ HBA.out).2.2.d0; have q1 := (HD.out _ HBA.out).2.2.d1; have q2 := (HD.out _ HBA.out).2.2.d2; have kc0 := (HD.out _ HBA.out).1.1; have kc1 := (HD.out _ HBA.out).1.2))
                go_ret
                exact ⟨rfl, (HD.out _ HBA.out).2.2.below⟩
            case pos =>
              obtain ⟨i', rfl⟩ := Int.eq_ofNat_of_zero_le hrg.1
              have hin : i' < n1 := by omega
              have hrg2 : ¬ (i' : Int) < 0 := by omega
              have hrg3 : (i' : Int) < (n1 : Int) := by omega
              have hrg4 : ¬ (n1 : Int) ≤ (i' : Int) := by omega
              clear hrg hI0 hI1
              obtain ⟨o, c0, hA1, ho1, ho2, hcell⟩ := (HD.out _ HBA.out).2.2.s1.form (by rw [HN1.out]; omega)
              injection hA1 with hA1 hnx hcc
              clear hnx
              subst hA1 hcc
              obtain ⟨q, hq⟩ : ∃ q, ss.getD i' ByteArray.empty = q := ⟨_, rfl⟩
              have hcq := hcell i' q (by rw [← hq]; simp [List.getD_eq_getElem?_getD, List.getElem?_eq_getElem (show i' < ss.length by rw [HN1.out]; exact hin)])
              have HLI : Hid (∀ W, Below W0.heap.size W0 W → W.cell? ⟨g1, o + i', none⟩ = some (.string q)) := Lib.hid (fun W h => (h.cell (World.block_lt_of_cell? _ _ hcq)).trans hcq)
              have ql := hcq
              rw [HN1.out] at ho1
              have HPF := Lib.hid (fun W hW hK => kproof_calls kv hv n1 i' g1 (.slice (some ⟨g1, o, none⟩) n1 c1) ss W HN1.out (by omega) hin (fun s hs => by have := HL100.out s hs; omega) hW hK)
              have hpl0 := (prf_fits n1 ss i' HN1.out).1
              obtain ⟨lp, hlp⟩ : ∃ lp, (prf ss i').length = lp := ⟨_, rfl⟩
              have HPL := Lib.hid hlp
              have hci := checkV_in (root := rootD ss) (s := S) (ps := ps) hin (by omega)
              have hcr := checkV_right (ss := ss) (i := i') (by rw [HN1.out]; exact hin) (by rw [HN1.out]; omega)
              rw [HN1.out, hq] at hcr
              have hck := fun W hW => check_calls (rootD ss) (i' : Int) (n1 : Int) S g2 (.slice A2 j c2) ps W hW (by rw [HN2.out]; omega) hS300
              have HQE := Lib.hid hq
              clear hcell hcq hq
              by_cases hright : S = q ∧ ps = prf ss i'
              · obtain ⟨e1, e2⟩ := hright
                subst e1
                have HSM : Hid (decide (ps = prf ss i') = true) := Lib.hid (decide_eq_true e2)
                rw [e2] at hck
                rw [hcr] at hck
                rw [← e2] at hck
                have HCK := Lib.hid hck
                have hteq := toList_eq2 S
                clear hck hcr hci e2 hlp hpl0
                generalize rootD ss = D at HRT HCK
                go_upto_region 17 with (first
                  | (go_at_call 20; refine (HRT.out _ (HD.out _ HBA.out).2.2.s1 (HD.out _ HBA.out).2.1).mono ?_; rintro e wr1 ⟨pv1, rfl, HQ1, HBx⟩; have HQ1 := Lib.hid (HQ1.out.mono (b' := w.heap.size) (HD.out _ HBA.out).2.2.below.size); have HSW := Lib.hid HBA.out; have HBQ : Hid (Below wr1.heap.size wr1 wr1) := Lib.hid (Below.refl _ _); have HBA := Lib.hid (HBA.out.trans (HBx.out.mono HBA.out.size)); clear HBx; have q0 := (HD.out _ HBA.out).2.2.d0; have q1 := (HD.out _ HBA.out).2.2.d1; have q2 := (HD.out _ HBA.out).2.2.d2; have kc0 := (HD.out _ HBA.out).1.1; have kc1 := (HD.out _ HBA.out).1.2; have ql := HLI.out _ HBA.out)
                  | (go_at_call 21; refine (HCK.out _ (HD.out _ HBA.out).2.2.s2).mono ?_; rintro e wr2 ⟨rfl, HBx⟩; have HBQ := Lib.hid (HBQ.out.trans (HBx.out.mono HBQ.out.size)); have HBA := Lib.hid (HBA.out.trans (HBx.out.mono HBA.out.size)); clear HBx; have q0 := (HD.out _ HBA.out).2.2.d0; have q1 := (HD.out _ HBA.out).2.2.d1; have q2 := (HD.out _ HBA.out).2.2.d2; have kc0 := (HD.out _ HBA.out).1.1; have kc1 := (HD.out _ HBA.out).1.2; have ql := HLI.out _ HBA.out)
                  | (go_at_call 22; refine (HPF.out _ (HD.out _ HBA.out).2.2.s1 (HD.out _ HBA.out).2.1).mono ?_; rintro e wp ⟨pvp, rfl, HOP, HBx⟩; obtain ⟨gw, hsw⟩ := HOP.out.reads; have HWS : Hid (∀ W, Below wp.heap.size wp W → SR W gw pvp (prf ss i')) := Lib.hid (fun W h => hsw.later h); obtain ⟨Aw, cw, hvw, -⟩ := hsw; rw [HPL.out] at hvw; subst hvw; have HBP : Hid (Below wp.heap.size wp wp) := Lib.hid (Below.refl _ _); have HBQ := Lib.hid (HBQ.out.trans (HBx.out.mono HBQ.out.size)); have HBA := Lib.hid (HBA.out.trans (HBx.out.mono HBA.out.size)); clear HBx; have q0 := (HD.out _ HBA.out).2.2.d0; have q1 := (HD.out _ HBA.out).2.2.d1; have q2 := (HD.out _ HBA.out).2.2.d2; have kc0 := (HD.out _ HBA.out).1.1; have kc1 := (HD.out _ HBA.out).1.2; have ql := HLI.out _ HBA.out))
                have HBA0 := Lib.hid HBA.out
                have HBQ0 := Lib.hid HBQ.out
                have HBQ := Lib.hid HBQ.out.drew
                have HBA := Lib.hid HBA.out.drew
                have HBP := Lib.hid HBP.out.drew
                have q0 := (HD.out _ HBA.out).2.2.d0
                have q1 := (HD.out _ HBA.out).2.2.d1
                have q2 := (HD.out _ HBA.out).2.2.d2
                have kc0 := (HD.out _ HBA.out).1.1
                have kc1 := (HD.out _ HBA.out).1.2
                have ql := HLI.out _ HBA.out
                go_region_held3 (fun W => W.cell? ⟨w.heap.size, 0, none⟩ = some (.int .i64 (i' : Int)) ∧ W.cell? ⟨w.heap.size, 1, none⟩ = some (.string S) ∧ W.cell? ⟨w.heap.size, 2, none⟩ = some (.slice A2 j c2) ∧ W.cell? ⟨g1, o + i', none⟩ = some (.string S))
                  (first | (go_keep; done) | exact ⟨q0, q1, q2, ql⟩)
                  ((go_at_call 23; refine (same_calls g2 gw _ _ ps (prf ss i') _ (HD.out _ HBA.out).2.2.s2 (HWS.out _ HBP.out)).mono ?_; rw [HSM.out]; rintro e ws ⟨rfl, HBx⟩; have HBP := Lib.hid (HBP.out.trans (HBx.out.mono HBP.out.size)); have HBQ := Lib.hid (HBQ.out.trans (HBx.out.mono HBQ.out.size)); have HBA := Lib.hid (HBA.out.trans (HBx.out.mono HBA.out.size)); clear HBx; have q0 := (HD.out _ HBA.out).2.2.d0; have q1 := (HD.out _ HBA.out).2.2.d1; have q2 := (HD.out _ HBA.out).2.2.d2; have kc0 := (HD.out _ HBA.out).1.1; have kc1 := (HD.out _ HBA.out).1.2; have ql := HLI.out _ HBA.out))
                go_wp2
                go_ret
                exact ⟨rfl, (HD.out _ HBA.out).2.2.below⟩
              · have hrt : (S = q ∧ ps ≠ prf ss i') ∨ S ≠ q := by
                  by_cases e : S = q
                  · exact .inl ⟨e, fun e2 => hright ⟨e, e2⟩⟩
                  · exact .inr e
                rcases hci with ⟨hnil, hl1, hl2, hl3⟩ | ⟨er, hcv, hcode, t, v, hev⟩
                · rw [hnil] at hck
                  have HCK := Lib.hid hck
                  have hjl : j = lp := by rw [← hlp, hpl0, ← hl1]; exact HN2.out.symm
                  have hclash : Clash (pairsT ss ++ upPairs (sidesB i' n1) (leafIn S) ps) := by
                    rcases leads_right n1 ss ps i' S HN1.out hin hl1 hl2 (by rw [dig_leafIn]; exact hl3) with ⟨e1, e2⟩ | h
                    · exact absurd ⟨e1.trans HQE.out, e2⟩ hright
                    · exact clash_of h
                  have HCL := Lib.hid hclash
                  have hadd : ∀ w, (Op.stringOp .add ⟨#[0]⟩ S).run Tryd.prog w = .ok (.string (leafIn S)) w := fun w => run_string_add_sum w _ _ (by show 1 + S.size ≤ _; omega)
                  have HUP := Lib.hid (fun W hW hK => kup_calls kv hv (leafIn S) (by unfold leafIn; rw [append_sz]; show 1 + S.size ≤ _; omega) n1 i' g2 (.slice A2 j c2) ps W hW hin (by omega) hl1 hl2 hK)
                  have HALL := Lib.hid hl2
                  have hsl := sidesB_length n1 i'
                  have HPQ : Hid ((pairsT ss).length ≤ 1000) := Lib.hid (by have := pairsT_length ss; rw [HN1.out] at this; omega)
                  clear hck hcr hnil hl1 hl2 hl3 hright hpl0 hclash hlp
                  subst hjl
                  generalize rootD ss = D at HRT HCK
                  rcases hrt with ⟨e1, e2⟩ | e1
                  · subst e1
                    have HSM : Hid (decide (ps = prf ss i') = false) := Lib.hid (decide_eq_false e2)
                    have hteq := toList_eq2 S
                    clear e2
                    go_upto_region 17 with (first
                      | (go_at_call 20; refine (HRT.out _ (HD.out _ HBA.out).2.2.s1 (HD.out _ HBA.out).2.1).mono ?_; rintro e wr1 ⟨pv1, rfl, HQ1, HBx⟩; have HQ1 := Lib.hid (HQ1.out.mono (b' := w.heap.size) (HD.out _ HBA.out).2.2.below.size); have HSW := Lib.hid HBA.out; have HBQ : Hid (Below wr1.heap.size wr1 wr1) := Lib.hid (Below.refl _ _); have HBA := Lib.hid (HBA.out.trans (HBx.out.mono HBA.out.size)); clear HBx; have q0 := (HD.out _ HBA.out).2.2.d0; have q1 := (HD.out _ HBA.out).2.2.d1; have q2 := (HD.out _ HBA.out).2.2.d2; have kc0 := (HD.out _ HBA.out).1.1; have kc1 := (HD.out _ HBA.out).1.2; have ql := HLI.out _ HBA.out)
                      | (go_at_call 21; refine (HCK.out _ (HD.out _ HBA.out).2.2.s2).mono ?_; rintro e wr2 ⟨rfl, HBx⟩; have HBQ := Lib.hid (HBQ.out.trans (HBx.out.mono HBQ.out.size)); have HBA := Lib.hid (HBA.out.trans (HBx.out.mono HBA.out.size)); clear HBx; have q0 := (HD.out _ HBA.out).2.2.d0; have q1 := (HD.out _ HBA.out).2.2.d1; have q2 := (HD.out _ HBA.out).2.2.d2; have kc0 := (HD.out _ HBA.out).1.1; have kc1 := (HD.out _ HBA.out).1.2; have ql := HLI.out _ HBA.out)
                      | (go_at_call 22; refine (HPF.out _ (HD.out _ HBA.out).2.2.s1 (HD.out _ HBA.out).2.1).mono ?_; rintro e wp ⟨pvp, rfl, HOP, HBx⟩; obtain ⟨gw, hsw⟩ := HOP.out.reads; have HWS : Hid (∀ W, Below wp.heap.size wp W → SR W gw pvp (prf ss i')) := Lib.hid (fun W h => hsw.later h); obtain ⟨Aw, cw, hvw, -⟩ := hsw; rw [HPL.out] at hvw; subst hvw; have HBP : Hid (Below wp.heap.size wp wp) := Lib.hid (Below.refl _ _); have HBQ := Lib.hid (HBQ.out.trans (HBx.out.mono HBQ.out.size)); have HBA := Lib.hid (HBA.out.trans (HBx.out.mono HBA.out.size)); clear HBx; have q0 := (HD.out _ HBA.out).2.2.d0; have q1 := (HD.out _ HBA.out).2.2.d1; have q2 := (HD.out _ HBA.out).2.2.d2; have kc0 := (HD.out _ HBA.out).1.1; have kc1 := (HD.out _ HBA.out).1.2; have ql := HLI.out _ HBA.out))
                    have HBA0 := Lib.hid HBA.out
                    have HBQ0 := Lib.hid HBQ.out
                    have HBQ := Lib.hid HBQ.out.drew
                    have HBA := Lib.hid HBA.out.drew
                    have HBP := Lib.hid HBP.out.drew
                    have q0 := (HD.out _ HBA.out).2.2.d0
                    have q1 := (HD.out _ HBA.out).2.2.d1
                    have q2 := (HD.out _ HBA.out).2.2.d2
                    have kc0 := (HD.out _ HBA.out).1.1
                    have kc1 := (HD.out _ HBA.out).1.2
                    have ql := HLI.out _ HBA.out
                    go_region_held3 (fun W => W.cell? ⟨w.heap.size, 0, none⟩ = some (.int .i64 (i' : Int)) ∧ W.cell? ⟨w.heap.size, 1, none⟩ = some (.string S) ∧ W.cell? ⟨w.heap.size, 2, none⟩ = some (.slice A2 j c2) ∧ W.cell? ⟨g1, o + i', none⟩ = some (.string S))
                      (first | (go_keep; done) | exact ⟨q0, q1, q2, ql⟩)
                      ((go_at_call 23; refine (same_calls g2 gw _ _ ps (prf ss i') _ (HD.out _ HBA.out).2.2.s2 (HWS.out _ HBP.out)).mono ?_; rw [HSM.out]; rintro e ws ⟨rfl, HBx⟩; have HBP := Lib.hid (HBP.out.trans (HBx.out.mono HBP.out.size)); have HBQ := Lib.hid (HBQ.out.trans (HBx.out.mono HBQ.out.size)); have HBA := Lib.hid (HBA.out.trans (HBx.out.mono HBA.out.size)); clear HBx; have q0 := (HD.out _ HBA.out).2.2.d0; have q1 := (HD.out _ HBA.out).2.2.d1; have q2 := (HD.out _ HBA.out).2.2.d2; have kc0 := (HD.out _ HBA.out).1.1; have kc1 := (HD.out _ HBA.out).1.2; have ql := HLI.out _ HBA.out))
                    go_wp2_with fail
                    rename World => wl
                    go_loopw [108] (fun x wz => ∃ k : Nat, x = .int .i64 (k : Int) ∧ k ≤ j ∧ wz = wl) (fun x _ => j - (intOf x).toNat)
                    case atStart => exact ⟨0, rfl, by omega, rfl⟩
                    case round =>
                      obtain ⟨k, rfl, hk, hwz⟩ := hrel
                      subst hwz
                      by_cases hlt : k < j
                      · obtain ⟨A', c', hv', -, -, hread⟩ := (HD.out _ HBA.out).2.2.s2
                        obtain ⟨ad, hA', -, hcell⟩ := hread (by rw [HN2.out]; omega)
                        rw [HN2.out] at hcell hv'
                        injection hv' with hv' _ hcc
                        subst hcc
                        rw [hA'] at hv'
                        subst hv'
                        have hc := hcell k hlt
                        have hmem : ps.getD k ByteArray.empty ∈ ps := by rw [List.getD_eq_getElem?_getD, List.getElem?_eq_getElem (show k < ps.length by rw [HN2.out]; exact hlt)]; exact List.getElem_mem _
                        obtain ⟨p, hp⟩ : ∃ p, ps.getD k ByteArray.empty = p := ⟨_, rfl⟩
                        rw [hp] at hc hmem
                        have h32 : ((p.size : Int) != 32) = false := by rw [HALL.out p hmem]; rfl
                        clear hcell hread hA' hp hmem
                        go_wp2_with fail
                        go_roundw
                        case rel => exact ⟨k + 1, by go_num, by omega, trivial⟩
                        case measure => simp [intOf]; omega
                      · obtain rfl : k = j := by omega
                        go_wp2_with (first
                          | (go_at_call 24; refine (HUP.out _ (HD.out _ HBA.out).2.2.s2 (HD.out _ HBA.out).2.1).mono ?_; rintro e wu ⟨pvu, rfl, HQU, HBx⟩; skip; obtain ⟨gu, hru⟩ := HQU.out.reads; have HRU := Lib.hid hru; clear hru; have HBQ := Lib.hid (HBQ.out.trans (HBx.out.mono HBQ.out.size)); have HBA := Lib.hid (HBA.out.trans (HBx.out.mono HBA.out.size)); clear HBx; have q0 := (HD.out _ HBA.out).2.2.d0; have q1 := (HD.out _ HBA.out).2.2.d1; have q2 := (HD.out _ HBA.out).2.2.d2; have kc0 := (HD.out _ HBA.out).1.1; have kc1 := (HD.out _ HBA.out).1.2; have ql := HLI.out _ HBA.out; have HQ3 := Lib.hid (HQ1.out.later HBQ.out))
                          | (refine PO.appendW_on HQ3.out HRU.out (by rw [upPairs_length]; omega) (by rfl) _ _ rfl rfl rfl (HD.out _ HBA.out).2.2.below.size (by rw [upPairs_length]; have := HPQ.out; omega) ?_; intro va wx ha hga; have HA := Lib.hid ha; have HBZ : Hid (Below w.heap.size w wx) := Lib.hid ((HD.out _ HBA.out).2.2.below.grown hga (HD.out _ HBA.out).2.2.below.size (fun k hk => HQ3.out.base k hk)); clear ha hga)
                          | (go_at_call 25; obtain ⟨gr, hrd⟩ := PO.reads HA.out; refine (clash_calls gr va _ _ hrd HCL.out (by rw [List.length_append, upPairs_length]; have := HPQ.out; omega)).mono ?_; rintro e wc ⟨rfl, HBc⟩))
                        go_ret
                        exact ⟨rfl, HBZ.out.trans (HBc.out.mono HBZ.out.size)⟩
                  · have HSM : Hid (True) := Lib.hid trivial
                    have hteq := toList_ne2 e1
                    clear e1
                    go_upto_region 17 with (first
                      | (go_at_call 20; refine (HRT.out _ (HD.out _ HBA.out).2.2.s1 (HD.out _ HBA.out).2.1).mono ?_; rintro e wr1 ⟨pv1, rfl, HQ1, HBx⟩; have HQ1 := Lib.hid (HQ1.out.mono (b' := w.heap.size) (HD.out _ HBA.out).2.2.below.size); have HSW := Lib.hid HBA.out; have HBQ : Hid (Below wr1.heap.size wr1 wr1) := Lib.hid (Below.refl _ _); have HBA := Lib.hid (HBA.out.trans (HBx.out.mono HBA.out.size)); clear HBx; have q0 := (HD.out _ HBA.out).2.2.d0; have q1 := (HD.out _ HBA.out).2.2.d1; have q2 := (HD.out _ HBA.out).2.2.d2; have kc0 := (HD.out _ HBA.out).1.1; have kc1 := (HD.out _ HBA.out).1.2; have ql := HLI.out _ HBA.out)
                      | (go_at_call 21; refine (HCK.out _ (HD.out _ HBA.out).2.2.s2).mono ?_; rintro e wr2 ⟨rfl, HBx⟩; have HBQ := Lib.hid (HBQ.out.trans (HBx.out.mono HBQ.out.size)); have HBA := Lib.hid (HBA.out.trans (HBx.out.mono HBA.out.size)); clear HBx; have q0 := (HD.out _ HBA.out).2.2.d0; have q1 := (HD.out _ HBA.out).2.2.d1; have q2 := (HD.out _ HBA.out).2.2.d2; have kc0 := (HD.out _ HBA.out).1.1; have kc1 := (HD.out _ HBA.out).1.2; have ql := HLI.out _ HBA.out)
                      | (go_at_call 22; refine (HPF.out _ (HD.out _ HBA.out).2.2.s1 (HD.out _ HBA.out).2.1).mono ?_; rintro e wp ⟨pvp, rfl, HOP, HBx⟩; obtain ⟨gw, hsw⟩ := HOP.out.reads; have HWS : Hid (∀ W, Below wp.heap.size wp W → SR W gw pvp (prf ss i')) := Lib.hid (fun W h => hsw.later h); obtain ⟨Aw, cw, hvw, -⟩ := hsw; rw [HPL.out] at hvw; subst hvw; have HBP : Hid (Below wp.heap.size wp wp) := Lib.hid (Below.refl _ _); have HBQ := Lib.hid (HBQ.out.trans (HBx.out.mono HBQ.out.size)); have HBA := Lib.hid (HBA.out.trans (HBx.out.mono HBA.out.size)); clear HBx; have q0 := (HD.out _ HBA.out).2.2.d0; have q1 := (HD.out _ HBA.out).2.2.d1; have q2 := (HD.out _ HBA.out).2.2.d2; have kc0 := (HD.out _ HBA.out).1.1; have kc1 := (HD.out _ HBA.out).1.2; have ql := HLI.out _ HBA.out))
                    have HBA0 := Lib.hid HBA.out
                    have HBQ0 := Lib.hid HBQ.out
                    have HBQ := Lib.hid HBQ.out.drew
                    have HBA := Lib.hid HBA.out.drew
                    have HBP := Lib.hid HBP.out.drew
                    have q0 := (HD.out _ HBA.out).2.2.d0
                    have q1 := (HD.out _ HBA.out).2.2.d1
                    have q2 := (HD.out _ HBA.out).2.2.d2
                    have kc0 := (HD.out _ HBA.out).1.1
                    have kc1 := (HD.out _ HBA.out).1.2
                    have ql := HLI.out _ HBA.out
                    go_quiet (fail)
                    have HBA := Lib.hid (below_drewN HBA0.out nq)
                    have HBQ := Lib.hid (below_drewN HBQ0.out nq)
                    have q0 := (HD.out _ HBA.out).2.2.d0
                    have q1 := (HD.out _ HBA.out).2.2.d1
                    have q2 := (HD.out _ HBA.out).2.2.d2
                    have kc0 := (HD.out _ HBA.out).1.1
                    have kc1 := (HD.out _ HBA.out).1.2
                    go_wp2_with fail
                    generalize wp.drewN nq = wl at *
                    go_loopw [108] (fun x wz => ∃ k : Nat, x = .int .i64 (k : Int) ∧ k ≤ j ∧ wz = wl) (fun x _ => j - (intOf x).toNat)
                    case atStart => exact ⟨0, rfl, by omega, rfl⟩
                    case round =>
                      obtain ⟨k, rfl, hk, hwz⟩ := hrel
                      subst hwz
                      by_cases hlt : k < j
                      · obtain ⟨A', c', hv', -, -, hread⟩ := (HD.out _ HBA.out).2.2.s2
                        obtain ⟨ad, hA', -, hcell⟩ := hread (by rw [HN2.out]; omega)
                        rw [HN2.out] at hcell hv'
                        injection hv' with hv' _ hcc
                        subst hcc
                        rw [hA'] at hv'
                        subst hv'
                        have hc := hcell k hlt
                        have hmem : ps.getD k ByteArray.empty ∈ ps := by rw [List.getD_eq_getElem?_getD, List.getElem?_eq_getElem (show k < ps.length by rw [HN2.out]; exact hlt)]; exact List.getElem_mem _
                        obtain ⟨p, hp⟩ : ∃ p, ps.getD k ByteArray.empty = p := ⟨_, rfl⟩
                        rw [hp] at hc hmem
                        have h32 : ((p.size : Int) != 32) = false := by rw [HALL.out p hmem]; rfl
                        clear hcell hread hA' hp hmem
                        go_wp2_with fail
                        go_roundw
                        case rel => exact ⟨k + 1, by go_num, by omega, trivial⟩
                        case measure => simp [intOf]; omega
                      · obtain rfl : k = j := by omega
                        go_wp2_with (first
                          | (go_at_call 24; refine (HUP.out _ (HD.out _ HBA.out).2.2.s2 (HD.out _ HBA.out).2.1).mono ?_; rintro e wu ⟨pvu, rfl, HQU, HBx⟩; skip; obtain ⟨gu, hru⟩ := HQU.out.reads; have HRU := Lib.hid hru; clear hru; have HBQ := Lib.hid (HBQ.out.trans (HBx.out.mono HBQ.out.size)); have HBA := Lib.hid (HBA.out.trans (HBx.out.mono HBA.out.size)); clear HBx; have q0 := (HD.out _ HBA.out).2.2.d0; have q1 := (HD.out _ HBA.out).2.2.d1; have q2 := (HD.out _ HBA.out).2.2.d2; have kc0 := (HD.out _ HBA.out).1.1; have kc1 := (HD.out _ HBA.out).1.2; have ql := HLI.out _ HBA.out; have HQ3 := Lib.hid (HQ1.out.later HBQ.out))
                          | (refine PO.appendW_on HQ3.out HRU.out (by rw [upPairs_length]; omega) (by rfl) _ _ rfl rfl rfl (HD.out _ HBA.out).2.2.below.size (by rw [upPairs_length]; have := HPQ.out; omega) ?_; intro va wx ha hga; have HA := Lib.hid ha; have HBZ : Hid (Below w.heap.size w wx) := Lib.hid ((HD.out _ HBA.out).2.2.below.grown hga (HD.out _ HBA.out).2.2.below.size (fun k hk => HQ3.out.base k hk)); clear ha hga)
                          | (go_at_call 25; obtain ⟨gr, hrd⟩ := PO.reads HA.out; refine (clash_calls gr va _ _ hrd HCL.out (by rw [List.length_append, upPairs_length]; have := HPQ.out; omega)).mono ?_; rintro e wc ⟨rfl, HBc⟩))
                        go_ret
                        exact ⟨rfl, HBZ.out.trans (HBc.out.mono HBZ.out.size)⟩
                · rw [hcv, hev] at hck
                  have HCK := Lib.hid hck
                  have HCD : Hid (∀ W, Er.G0 W → Calls Tryd.prog 11 #[.iface t v] W fun r w' => r = .returned (.int .i64 11) ∧ Hid (Below W.heap.size W w')) := Lib.hid (fun W hW => by
                    have h := Er.code_calls er W hW
                    rw [hev, hcode] at h
                    exact h)
                  clear hck hcr hcv hev hcode hright hlp hpl0
                  generalize rootD ss = D at HRT HCK
                  rcases hrt with ⟨e1, e2⟩ | e1
                  · subst e1
                    have HSM : Hid (decide (ps = prf ss i') = false) := Lib.hid (decide_eq_false e2)
                    have hteq := toList_eq2 S
                    clear e2
                    go_upto_region 17 with (first
                      | (go_at_call 20; refine (HRT.out _ (HD.out _ HBA.out).2.2.s1 (HD.out _ HBA.out).2.1).mono ?_; rintro e wr1 ⟨pv1, rfl, HQ1, HBx⟩; have HQ1 := Lib.hid (HQ1.out.mono (b' := w.heap.size) (HD.out _ HBA.out).2.2.below.size); have HSW := Lib.hid HBA.out; have HBQ : Hid (Below wr1.heap.size wr1 wr1) := Lib.hid (Below.refl _ _); have HBA := Lib.hid (HBA.out.trans (HBx.out.mono HBA.out.size)); clear HBx; have q0 := (HD.out _ HBA.out).2.2.d0; have q1 := (HD.out _ HBA.out).2.2.d1; have q2 := (HD.out _ HBA.out).2.2.d2; have kc0 := (HD.out _ HBA.out).1.1; have kc1 := (HD.out _ HBA.out).1.2; have ql := HLI.out _ HBA.out)
                      | (go_at_call 21; refine (HCK.out _ (HD.out _ HBA.out).2.2.s2).mono ?_; rintro e wr2 ⟨rfl, HBx⟩; have HBQ := Lib.hid (HBQ.out.trans (HBx.out.mono HBQ.out.size)); have HBA := Lib.hid (HBA.out.trans (HBx.out.mono HBA.out.size)); clear HBx; have q0 := (HD.out _ HBA.out).2.2.d0; have q1 := (HD.out _ HBA.out).2.2.d1; have q2 := (HD.out _ HBA.out).2.2.d2; have kc0 := (HD.out _ HBA.out).1.1; have kc1 := (HD.out _ HBA.out).1.2; have ql := HLI.out _ HBA.out)
                      | (go_at_call 22; refine (HPF.out _ (HD.out _ HBA.out).2.2.s1 (HD.out _ HBA.out).2.1).mono ?_; rintro e wp ⟨pvp, rfl, HOP, HBx⟩; obtain ⟨gw, hsw⟩ := HOP.out.reads; have HWS : Hid (∀ W, Below wp.heap.size wp W → SR W gw pvp (prf ss i')) := Lib.hid (fun W h => hsw.later h); obtain ⟨Aw, cw, hvw, -⟩ := hsw; rw [HPL.out] at hvw; subst hvw; have HBP : Hid (Below wp.heap.size wp wp) := Lib.hid (Below.refl _ _); have HBQ := Lib.hid (HBQ.out.trans (HBx.out.mono HBQ.out.size)); have HBA := Lib.hid (HBA.out.trans (HBx.out.mono HBA.out.size)); clear HBx; have q0 := (HD.out _ HBA.out).2.2.d0; have q1 := (HD.out _ HBA.out).2.2.d1; have q2 := (HD.out _ HBA.out).2.2.d2; have kc0 := (HD.out _ HBA.out).1.1; have kc1 := (HD.out _ HBA.out).1.2; have ql := HLI.out _ HBA.out))
                    have HBA0 := Lib.hid HBA.out
                    have HBQ0 := Lib.hid HBQ.out
                    have HBQ := Lib.hid HBQ.out.drew
                    have HBA := Lib.hid HBA.out.drew
                    have HBP := Lib.hid HBP.out.drew
                    have q0 := (HD.out _ HBA.out).2.2.d0
                    have q1 := (HD.out _ HBA.out).2.2.d1
                    have q2 := (HD.out _ HBA.out).2.2.d2
                    have kc0 := (HD.out _ HBA.out).1.1
                    have kc1 := (HD.out _ HBA.out).1.2
                    have ql := HLI.out _ HBA.out
                    go_region_held3 (fun W => W.cell? ⟨w.heap.size, 0, none⟩ = some (.int .i64 (i' : Int)) ∧ W.cell? ⟨w.heap.size, 1, none⟩ = some (.string S) ∧ W.cell? ⟨w.heap.size, 2, none⟩ = some (.slice A2 j c2) ∧ W.cell? ⟨g1, o + i', none⟩ = some (.string S))
                      (first | (go_keep; done) | exact ⟨q0, q1, q2, ql⟩)
                      ((go_at_call 23; refine (same_calls g2 gw _ _ ps (prf ss i') _ (HD.out _ HBA.out).2.2.s2 (HWS.out _ HBP.out)).mono ?_; rw [HSM.out]; rintro e ws ⟨rfl, HBx⟩; have HBP := Lib.hid (HBP.out.trans (HBx.out.mono HBP.out.size)); have HBQ := Lib.hid (HBQ.out.trans (HBx.out.mono HBQ.out.size)); have HBA := Lib.hid (HBA.out.trans (HBx.out.mono HBA.out.size)); clear HBx; have q0 := (HD.out _ HBA.out).2.2.d0; have q1 := (HD.out _ HBA.out).2.2.d1; have q2 := (HD.out _ HBA.out).2.2.d2; have kc0 := (HD.out _ HBA.out).1.1; have kc1 := (HD.out _ HBA.out).1.2; have ql := HLI.out _ HBA.out))
                    go_wp2_with (go_at_call 11; refine (HCD.out _ (HD.out _ HBA.out).2.2.g0).mono ?_; rintro e wr3 ⟨rfl, HBx⟩; have HBQ := Lib.hid (HBQ.out.trans (HBx.out.mono HBQ.out.size)); have HBA := Lib.hid (HBA.out.trans (HBx.out.mono HBA.out.size)); clear HBx; have q0 := (HD.out _ HBA.out).2.2.d0; have q1 := (HD.out _ HBA.out).2.2.d1; have q2 := (HD.out _ HBA.out).2.2.d2; have kc0 := (HD.out _ HBA.out).1.1; have kc1 := (HD.out _ HBA.out).1.2; have ql := HLI.out _ HBA.out)
                    go_ret
                    exact ⟨rfl, (HD.out _ HBA.out).2.2.below⟩
                  · have HSM : Hid (True) := Lib.hid trivial
                    have hteq := toList_ne2 e1
                    clear e1
                    go_upto_region 17 with (first
                      | (go_at_call 20; refine (HRT.out _ (HD.out _ HBA.out).2.2.s1 (HD.out _ HBA.out).2.1).mono ?_; rintro e wr1 ⟨pv1, rfl, HQ1, HBx⟩; have HQ1 := Lib.hid (HQ1.out.mono (b' := w.heap.size) (HD.out _ HBA.out).2.2.below.size); have HSW := Lib.hid HBA.out; have HBQ : Hid (Below wr1.heap.size wr1 wr1) := Lib.hid (Below.refl _ _); have HBA := Lib.hid (HBA.out.trans (HBx.out.mono HBA.out.size)); clear HBx; have q0 := (HD.out _ HBA.out).2.2.d0; have q1 := (HD.out _ HBA.out).2.2.d1; have q2 := (HD.out _ HBA.out).2.2.d2; have kc0 := (HD.out _ HBA.out).1.1; have kc1 := (HD.out _ HBA.out).1.2; have ql := HLI.out _ HBA.out)
                      | (go_at_call 21; refine (HCK.out _ (HD.out _ HBA.out).2.2.s2).mono ?_; rintro e wr2 ⟨rfl, HBx⟩; have HBQ := Lib.hid (HBQ.out.trans (HBx.out.mono HBQ.out.size)); have HBA := Lib.hid (HBA.out.trans (HBx.out.mono HBA.out.size)); clear HBx; have q0 := (HD.out _ HBA.out).2.2.d0; have q1 := (HD.out _ HBA.out).2.2.d1; have q2 := (HD.out _ HBA.out).2.2.d2; have kc0 := (HD.out _ HBA.out).1.1; have kc1 := (HD.out _ HBA.out).1.2; have ql := HLI.out _ HBA.out)
                      | (go_at_call 22; refine (HPF.out _ (HD.out _ HBA.out).2.2.s1 (HD.out _ HBA.out).2.1).mono ?_; rintro e wp ⟨pvp, rfl, HOP, HBx⟩; obtain ⟨gw, hsw⟩ := HOP.out.reads; have HWS : Hid (∀ W, Below wp.heap.size wp W → SR W gw pvp (prf ss i')) := Lib.hid (fun W h => hsw.later h); obtain ⟨Aw, cw, hvw, -⟩ := hsw; rw [HPL.out] at hvw; subst hvw; have HBP : Hid (Below wp.heap.size wp wp) := Lib.hid (Below.refl _ _); have HBQ := Lib.hid (HBQ.out.trans (HBx.out.mono HBQ.out.size)); have HBA := Lib.hid (HBA.out.trans (HBx.out.mono HBA.out.size)); clear HBx; have q0 := (HD.out _ HBA.out).2.2.d0; have q1 := (HD.out _ HBA.out).2.2.d1; have q2 := (HD.out _ HBA.out).2.2.d2; have kc0 := (HD.out _ HBA.out).1.1; have kc1 := (HD.out _ HBA.out).1.2; have ql := HLI.out _ HBA.out))
                    have HBA0 := Lib.hid HBA.out
                    have HBQ0 := Lib.hid HBQ.out
                    have HBQ := Lib.hid HBQ.out.drew
                    have HBA := Lib.hid HBA.out.drew
                    have HBP := Lib.hid HBP.out.drew
                    have q0 := (HD.out _ HBA.out).2.2.d0
                    have q1 := (HD.out _ HBA.out).2.2.d1
                    have q2 := (HD.out _ HBA.out).2.2.d2
                    have kc0 := (HD.out _ HBA.out).1.1
                    have kc1 := (HD.out _ HBA.out).1.2
                    have ql := HLI.out _ HBA.out
                    go_quiet (fail)
                    have HBA := Lib.hid (below_drewN HBA0.out nq)
                    have HBQ := Lib.hid (below_drewN HBQ0.out nq)
                    have q0 := (HD.out _ HBA.out).2.2.d0
                    have q1 := (HD.out _ HBA.out).2.2.d1
                    have q2 := (HD.out _ HBA.out).2.2.d2
                    have kc0 := (HD.out _ HBA.out).1.1
                    have kc1 := (HD.out _ HBA.out).1.2
                    go_wp2_with (go_at_call 11; refine (HCD.out _ (HD.out _ HBA.out).2.2.g0).mono ?_; rintro e wr3 ⟨rfl, HBx⟩; have HBQ := Lib.hid (HBQ.out.trans (HBx.out.mono HBQ.out.size)); have HBA := Lib.hid (HBA.out.trans (HBx.out.mono HBA.out.size)); clear HBx; have q0 := (HD.out _ HBA.out).2.2.d0; have q1 := (HD.out _ HBA.out).2.2.d1; have q2 := (HD.out _ HBA.out).2.2.d2; have kc0 := (HD.out _ HBA.out).1.1; have kc1 := (HD.out _ HBA.out).1.2; have ql := HLI.out _ HBA.out)
                    go_ret
                    exact ⟨rfl, (HD.out _ HBA.out).2.2.below⟩

theorem proves_row (g1 : Nat) (v1 : Value) (ss : List ByteArray) (I : Int) (S : ByteArray) (A2 : Option Addr) (n2 c2 g2 : Nat) (ps : List ByteArray) (w : World) (h0 : Er.G0 w) (hs1 : SR w g1 v1 ss) (hss : ∀ s ∈ ss, s.size ≤ 140737488351232) (hI : (Lit.int .i64 I).wf = true) (hs2 : SR w g2 (.slice A2 n2 c2) ps) :
    Calls Tryd.prog 6 #[v1, .agg #[.int .i64 I, .string S, .slice A2 n2 c2]] w fun e w' => e = .returned (.bool true) ∧ Below w.heap.size w w' := by
  have hs1' := hs1
  obtain ⟨A, c, rfl, -, -, -⟩ := hs1'
  exact proves_walk A ss.length c g1 ss I S A2 n2 c2 g2 ps w h0 (bounds_i64 hI).1 (bounds_i64 hI).2 hs1 hs2
end Go.Proofs.YtmhjocbnoppbbaaDoor.Mk
