/- The law MerkleTrees, walked. -/
import Derived.Test.YtmhjocbnoppbbaaDoorProvesW
import Derived.BigQuiet
namespace Go.Proofs.YtmhjocbnoppbbaaDoor.Mk
open Go.RowKit Go.Proofs.YtmhjocbnoppbbaaDoor.Sha Go.Proofs.YtmhjocbnoppbbaaDoor.Ref
set_option linter.unusedVariables false
set_option linter.unusedSimpArgs false

set_option maxRecDepth 100000 in
theorem tlen_calls (tb mb g : Nat) (v : Value) (ss : List ByteArray) (w : World) (hT : TreeS w tb mb g v (leaves ss) (mapOf ss)) :
    Calls Tryd.prog 33 #[.pointer (some ⟨tb, 0, none⟩)] w fun e w' => e = .returned (.int .i64 ((ss.length : Nat) : Int)) ∧ w = w' := by
  have c0 := hT.cell0
  obtain ⟨A, c, hv, hc1, hc2, -⟩ := hT.2.1
  rw [leaves_length] at hv
  subst hv
  generalize ss.length = n at c0 ⊢
  clear hT hc1
  go_enter Tryd.func33, Tryd.ntmps33
  go_wp2
  go_ret
  exact ⟨rfl, rfl⟩
theorem tlen_nil (w : World) : Calls Tryd.prog 33 #[.pointer none] w fun e w' => e = .returned (.int .i64 0) ∧ w = w' := by
  go_enter Tryd.func33, Tryd.ntmps33
  go_wp2
  go_ret
  exact ⟨rfl, rfl⟩
theorem troot_nil (w : World) : Calls Tryd.prog 31 #[.pointer none] w fun e w' => e = .returned (.string ⟨#[]⟩) ∧ w = w' := by
  go_enter Tryd.func31, Tryd.ntmps31
  go_wp2
  go_ret
  exact ⟨rfl, rfl⟩
set_option maxRecDepth 100000 in
theorem proof_nil (i : Int) (w : World) : Calls Tryd.prog 34 #[.pointer none, .int .i64 i] w fun e w' => e = .returned (.tuple #[.slice none 0 0, .iface 39 (.int .i64 1)]) ∧ w = w' := by
  go_enter Tryd.func34, Tryd.ntmps34
  go_wp2
  go_ret2
  exact ⟨rfl, rfl⟩
set_option maxRecDepth 100000 in
theorem proof_out (tb mb g : Nat) (v : Value) (ss : List ByteArray) (i : Int) (w : World) (hT : TreeS w tb mb g v (leaves ss) (mapOf ss)) (hi : i < 0 ∨ (ss.length : Int) ≤ i) :
    Calls Tryd.prog 34 #[.pointer (some ⟨tb, 0, none⟩), .int .i64 i] w fun e w' => e = .returned (.tuple #[.slice none 0 0, .iface 39 (.int .i64 2)]) ∧ w = w' := by
  have c0 := hT.cell0
  obtain ⟨A, c, hv, hc1, hc2, -⟩ := hT.2.1
  rw [leaves_length] at hv
  subst hv
  generalize ss.length = n at c0 hi
  clear hT hc1
  by_cases hneg : i < 0
  · clear hi
    go_enter Tryd.func34, Tryd.ntmps34
    go_wp2
    go_ret2
    exact ⟨rfl, rfl⟩
  · have hge : (n : Int) ≤ i := by omega
    have hpos : 0 ≤ i := by omega
    clear hi hneg
    go_enter Tryd.func34, Tryd.ntmps34
    go_wp2
    go_ret2
    exact ⟨rfl, rfl⟩

/-- what the kit's box and the law's list tell in every world behind the kit's -/
structure TrC (w : World) (kb : Nat) (kv hv : Value) (g1 : Nat) (v1 : Value) (ss : List ByteArray) (w' : World) : Prop where
  kc0 : w'.cell? ⟨kb, 0, none⟩ = some kv
  kc1 : w'.cell? ⟨kb, 1, none⟩ = some hv
  ks : KitS w' kv hv
  sr : SR w' g1 v1 ss
  g0 : Er.G0 w'
  below : Below w.heap.size w w'

set_option maxHeartbeats 8000000 in
set_option maxRecDepth 100000 in
theorem trees_walk (A1 : Option Addr) (n1 c1 g1 : Nat) (ss : List ByteArray) (i : Int) (w : World) (h0 : Er.G0 w) (hi0 : -9223372036854775808 ≤ i) (hi1 : i ≤ 9223372036854775807) (hs1 : SR w g1 (.slice A1 n1 c1) ss) :
    Calls Tryd.prog 8 #[.slice A1 n1 c1, .int .i64 i] w fun e w' => e = .returned (.bool true) ∧ Below w.heap.size w w' := by
  have hn1 : ss.length = n1 := by obtain ⟨A', c', hv, -⟩ := hs1; injection hv with _ h _; exact h.symm
  have HN1 := Lib.hid hn1
  have hG0 : 0 < w.heap.size := World.block_lt_of_cell? _ _ h0
  have HS1 := Lib.hid hs1
  have HG0 := Lib.hid h0
  have HAWK := Lib.hid (awake_calls w)
  have HGR := Lib.hid (fun W (h : SR W g1 (.slice A1 n1 c1) ss) => great_calls g1 (.slice A1 n1 c1) ss W h)
  clear hs1 h0 hn1
  by_cases hgr : greatB ss = true
  · have HG := Lib.hid hgr
    clear hgr
    go_enter Tryd.func8, Tryd.ntmps8
    go_wp2_with (first
      | (go_at_call 17; refine HAWK.out.mono ?_; rintro e wa ⟨rfl, HB⟩)
      | (go_at_call 18; refine (HGR.out _ (HS1.out.later HB.out)).mono ?_; rw [HG.out]; rintro e wb ⟨rfl, HB2⟩))
    go_ret
    exact ⟨rfl, HB.out.trans (HB2.out.mono HB.out.size)⟩
  · have hgr' : greatB ss = false := by simpa using hgr
    have HG := Lib.hid hgr'
    obtain ⟨l20, l100⟩ := greatB_no hgr'
    have HL100 := Lib.hid l100
    rw [HN1.out] at l20
    clear hgr hgr' l100
    go_enter Tryd.func8, Tryd.ntmps8
    go_upto_region 6 with (first
      | (go_at_call 17; refine HAWK.out.mono ?_; rintro e wa ⟨rfl, HB⟩)
      | (go_at_call 18; refine (HGR.out _ (HS1.out.later HB.out)).mono ?_; rw [HG.out]; rintro e wb ⟨rfl, HB2⟩)
      | (go_at_call 19; refine (kit_calls _).mono ?_; rintro e wk ⟨kv, hv, rfl, HK2, HBK⟩; obtain ⟨gk1, gk2, hk1, hk2⟩ := HK2.out; obtain ⟨B1, e1, hv1, -⟩ := hk1; obtain ⟨B2, e2, hv2, -⟩ := hk2; subst hv1; subst hv2))
    have hb3 := (HB.out.trans (HB2.out.mono HB.out.size)).trans (HBK.out.mono (HB.out.trans (HB2.out.mono HB.out.size)).size)
    obtain ⟨kv, hkv⟩ : ∃ kv, Value.slice B1 K64.length e1 = kv := ⟨_, rfl⟩
    obtain ⟨hv, hhv⟩ : ∃ hv, Value.slice B2 H8.length e2 = hv := ⟨_, rfl⟩
    rw [hkv, hhv]
    rw [hkv, hhv] at HK2
    have hk0 := heap_alloc_new wk (.cells #[kv, hv] 47)
    have hk3 := HK2.out.later ((Below.refl _ _).alloc (Nat.le_refl _) (.cells #[kv, hv] 47))
    have hbk := hb3.alloc hb3.size (.cells #[kv, hv] 47)
    obtain ⟨kb, hkb⟩ : ∃ kb, wk.heap.size = kb := ⟨_, rfl⟩
    obtain ⟨W0, hW0⟩ : ∃ W0, wk.alloc (.cells #[kv, hv] 47) = W0 := ⟨_, rfl⟩
    rw [hW0, hkb] at hk0
    rw [hW0] at hk3 hbk
    rw [hW0, hkb]
    have HD : Hid (∀ W, Below W0.heap.size W0 W → TrC w kb kv hv g1 (.slice A1 n1 c1) ss W) := Lib.hid (fun W h => by
      have h1 := (h.block kb (Array.getElem?_eq_some_iff.1 hk0).1).trans hk0
      have h2 := hbk.trans (h.mono hbk.size)
      exact ⟨by rw [cell_of_row W kb 0 _ _ _ h1]; rfl, by rw [cell_of_row W kb 1 _ _ _ h1]; rfl, hk3.later h, HS1.out.later h2, g0_later HG0.out hG0 h2, h2⟩)
    have HRT := Lib.hid (fun W hW hK => kroot_calls kv hv n1 g1 (.slice A1 n1 c1) ss W HN1.out (by omega) (fun s hs => by have := HL100.out s hs; omega) hW hK)
    have HNW := Lib.hid (fun W hW => new_calls g1 (.slice A1 n1 c1) ss W hW (by rw [HN1.out]; omega) (fun s hs => by have := HL100.out s hs; omega))
    have HMR := Lib.hid (fun W hW => root_calls g1 (.slice A1 n1 c1) ss W hW (by rw [HN1.out]; omega) (fun s hs => by have := HL100.out s hs; omega))
    have HBA : Hid (Below W0.heap.size W0 W0) := Lib.hid (Below.refl _ _)
    have kc0 := (HD.out _ HBA.out).kc0
    have kc1 := (HD.out _ HBA.out).kc1
    clear hk0 hk3 hbk hb3 hkb hW0 hkv hhv HK2 HBK HB HB2 HAWK HGR
    go_upto_region 7 with (go_at_call 30; refine (HNW.out _ (HD.out _ HBA.out).sr).mono ?_; rintro e wt ⟨tb, mb, gt, tv, rfl, HT, HBx⟩; have HBT : Hid (Below wt.heap.size wt wt) := Lib.hid (Below.refl _ _); have HBA := Lib.hid (HBA.out.trans (HBx.out.mono HBA.out.size)); clear HBx; have kc0 := (HD.out _ HBA.out).kc0; have kc1 := (HD.out _ HBA.out).kc1)
    have HTR := Lib.hid (fun W hW => troot_calls tb mb gt tv ss W hW)
    have HCR := Lib.hid (fun (k : Nat) (hk : k < n1) W (gp : Nat) (pv : Value) (hW : SR W gp pv (prf ss k)) => check_calls (rootD ss) (k : Int) (n1 : Int) (ss.getD k ByteArray.empty) gp pv (prf ss k) W hW (by rw [(prf_fits n1 ss k HN1.out).1]; have := sidesB_length n1 k; omega) (by have := HL100.out (ss.getD k ByteArray.empty) (by rw [List.getD_eq_getElem?_getD, List.getElem?_eq_getElem (show k < ss.length by rw [HN1.out]; exact hk)]; exact List.getElem_mem _); omega))
    have hcv : ∀ (k : Nat), k < n1 → checkV (rootD ss) (k : Int) (n1 : Int) (ss.getD k ByteArray.empty) (prf ss k) = .nilIface := fun k hk => by
      have h := checkV_right (ss := ss) (i := k) (by rw [HN1.out]; exact hk) (by rw [HN1.out]; omega)
      rwa [HN1.out] at h
    have HCV := Lib.hid hcv
    clear hcv
    have HCK : Hid (∀ (k : Nat), k < n1 → ∀ W (gp : Nat) (pv : Value), SR W gp pv (prf ss k) → Calls Tryd.prog 21 #[.string (rootD ss), .int .i64 (k : Int), .int .i64 (n1 : Int), .string (ss.getD k ByteArray.empty), pv] W fun e w' => e = .returned .nilIface ∧ Hid (Below W.heap.size W w')) := Lib.hid (fun k hk W gp pv hW => by
      have h := HCR.out k hk W gp pv hW
      rw [HCV.out k hk] at h
      exact h)
    clear HCR HCV
    generalize rootD ss = D at HRT HMR HTR HCK
    have hteq := toList_eq2 D
    go_wp2_with (first
      | (go_at_call 20; refine (HRT.out _ (HD.out _ HBA.out).sr (HD.out _ HBA.out).ks).mono ?_; rintro e wx ⟨pv1, rfl, -, HBx⟩; have HBT := Lib.hid (HBT.out.trans (HBx.out.mono HBT.out.size)); have HBA := Lib.hid (HBA.out.trans (HBx.out.mono HBA.out.size)); clear HBx; have kc0 := (HD.out _ HBA.out).kc0; have kc1 := (HD.out _ HBA.out).kc1)
      | (go_at_call 31; refine (HTR.out _ (HT.out.later HBT.out)).mono ?_; rintro e wx ⟨rfl, HBx⟩; have HBT := Lib.hid (HBT.out.trans (HBx.out.mono HBT.out.size)); have HBA := Lib.hid (HBA.out.trans (HBx.out.mono HBA.out.size)); clear HBx; have kc0 := (HD.out _ HBA.out).kc0; have kc1 := (HD.out _ HBA.out).kc1)
      | (go_at_call 32; refine (HMR.out _ (HD.out _ HBA.out).sr).mono ?_; rintro e wx ⟨rfl, HBx⟩; have HBT := Lib.hid (HBT.out.trans (HBx.out.mono HBT.out.size)); have HBA := Lib.hid (HBA.out.trans (HBx.out.mono HBA.out.size)); clear HBx; have kc0 := (HD.out _ HBA.out).kc0; have kc1 := (HD.out _ HBA.out).kc1)
      | (go_at_call 33; refine (tlen_calls tb mb gt tv ss _ (HT.out.later HBT.out)).mono ?_; rw [HN1.out]; rintro e w' ⟨rfl, rfl⟩))
    rename World => wl
    go_loopw [50] (fun x wz => ∃ k : Nat, x = .int .i64 (k : Int) ∧ k ≤ n1 ∧ Hid (Below W0.heap.size W0 wz) ∧ Hid (Below wt.heap.size wt wz)) (fun x _ => n1 - (intOf x).toNat)
    case atStart => exact ⟨0, rfl, by omega, HBA, HBT⟩
    case round =>
      obtain ⟨k, rfl, hk, HBA, HBT⟩ := hrel
      have kc0 := (HD.out _ HBA.out).kc0
      have kc1 := (HD.out _ HBA.out).kc1
      by_cases hlt : k < n1
      · obtain ⟨A', c', hv', -, -, hread⟩ := (HD.out _ HBA.out).sr
        obtain ⟨ad, hA', -, hcell⟩ := hread (by rw [HN1.out]; omega)
        rw [HN1.out] at hcell hv'
        injection hv' with hv' _ hcc
        subst hcc
        rw [hA'] at hv'
        subst hv'
        have hc := hcell k hlt
        have hckk := HCK.out k hlt
        obtain ⟨q, hq⟩ : ∃ q, ss.getD k ByteArray.empty = q := ⟨_, rfl⟩
        rw [hq] at hc hckk
        have HCKk := Lib.hid hckk
        obtain ⟨lp, hlp⟩ : ∃ lp, (prf ss k).length = lp := ⟨_, rfl⟩
        have HPL := Lib.hid hlp
        have HST : Hid (stepsN (k : Int) (n1 : Int) = lp) := Lib.hid (by rw [stepsN_in hlt (by omega), ← (prf_fits n1 ss k HN1.out).1]; exact hlp)
        clear hcell hread hA' hckk hq hlp
        go_wp2_with (first
          | (go_at_call 34; refine (proof_calls tb mb gt tv ss k _ (HT.out.later HBT.out) (by rw [HN1.out]; exact hlt) (by rw [HN1.out]; omega)).mono ?_; rintro e wp ⟨gp, pv, rfl, HSP0, HBx⟩; have HSP : Hid (SR wp gp pv (prf ss k)) := HSP0; clear HSP0; have HBP : Hid (Below wp.heap.size wp wp) := Lib.hid (Below.refl _ _); obtain ⟨Ap, cp, hvp, -⟩ := id HSP.out; rw [HPL.out] at hvp; subst hvp; have HBT := Lib.hid (HBT.out.trans (HBx.out.mono HBT.out.size)); have HBA := Lib.hid (HBA.out.trans (HBx.out.mono HBA.out.size)); clear HBx; have kc0 := (HD.out _ HBA.out).kc0; have kc1 := (HD.out _ HBA.out).kc1)
          | (go_at_call 22; refine (kproof_calls kv hv n1 k g1 _ ss _ HN1.out (by omega) hlt (fun s hs => by have := HL100.out s hs; omega) (HD.out _ HBA.out).sr (HD.out _ HBA.out).ks).mono ?_; rintro e wq ⟨pq, rfl, HOP, HBx⟩; obtain ⟨gq, hsq⟩ := HOP.out.reads; have HSQ := Lib.hid hsq; clear hsq; obtain ⟨Aq, cq, hvq, -⟩ := id HSQ.out; rw [HPL.out] at hvq; subst hvq; have HBP := Lib.hid (HBP.out.trans (HBx.out.mono HBP.out.size)); have HBT := Lib.hid (HBT.out.trans (HBx.out.mono HBT.out.size)); have HBA := Lib.hid (HBA.out.trans (HBx.out.mono HBA.out.size)); clear HBx; have kc0 := (HD.out _ HBA.out).kc0; have kc1 := (HD.out _ HBA.out).kc1)
          | (go_at_call 23; refine (same_calls gp gq _ _ (prf ss k) (prf ss k) _ (HSP.out.later HBP.out) HSQ.out).mono ?_; rw [decide_eq_true (p := prf ss k = prf ss k) rfl]; rintro e wx ⟨rfl, HBx⟩; have HBP := Lib.hid (HBP.out.trans (HBx.out.mono HBP.out.size)); have HBT := Lib.hid (HBT.out.trans (HBx.out.mono HBT.out.size)); have HBA := Lib.hid (HBA.out.trans (HBx.out.mono HBA.out.size)); clear HBx; have kc0 := (HD.out _ HBA.out).kc0; have kc1 := (HD.out _ HBA.out).kc1)
          | (go_at_call 27; refine (steps_calls (k : Int) (n1 : Int) _).mono ?_; rw [HST.out]; rintro e wx ⟨rfl, HBx⟩; have HBP := Lib.hid (HBP.out.trans (HBx.out.mono HBP.out.size)); have HBT := Lib.hid (HBT.out.trans (HBx.out.mono HBT.out.size)); have HBA := Lib.hid (HBA.out.trans (HBx.out.mono HBA.out.size)); clear HBx; have kc0 := (HD.out _ HBA.out).kc0; have kc1 := (HD.out _ HBA.out).kc1)
          | (go_at_call 21; refine (HCKk.out _ gp _ (HSP.out.later HBP.out)).mono ?_; rintro e wx ⟨rfl, HBx⟩; have HBP := Lib.hid (HBP.out.trans (HBx.out.mono HBP.out.size)); have HBT := Lib.hid (HBT.out.trans (HBx.out.mono HBT.out.size)); have HBA := Lib.hid (HBA.out.trans (HBx.out.mono HBA.out.size)); clear HBx; have kc0 := (HD.out _ HBA.out).kc0; have kc1 := (HD.out _ HBA.out).kc1))
        go_roundw
        case rel => exact ⟨k + 1, by go_num, by omega, HBA, HBT⟩
        case measure => simp [intOf]; omega
      · obtain rfl : k = n1 := by omega
        have HCD1 : Hid (∀ W, Er.G0 W → Calls Tryd.prog 11 #[.iface 39 (.int .i64 1)] W fun r w' => r = .returned (.int .i64 1) ∧ Hid (Below W.heap.size W w')) := Lib.hid (fun W hW => Er.code_calls (.no 1) W hW)
        have HCD2 : Hid (∀ W, Er.G0 W → Calls Tryd.prog 11 #[.iface 39 (.int .i64 2)] W fun r w' => r = .returned (.int .i64 2) ∧ Hid (Below W.heap.size W w')) := Lib.hid (fun W hW => Er.code_calls (.no 2) W hW)
        clear hlt hk HCK hteq
        by_cases hin0 : 0 ≤ i ∧ i < (k : Int)
        · obtain ⟨i', rfl⟩ := Int.eq_ofNat_of_zero_le hin0.1
          have hin : i' < k := by omega
          have b1 : (i' : Int) < (k : Int) := by omega
          have b2 : (0 : Int) ≤ (i' : Int) := by omega
          clear hin0
          go_wp2_with (first
            | (go_at_call 34; with_reducible (show Calls Tryd.prog _ #[.pointer none, _] _ _); refine (proof_nil _ _).mono ?_; rintro e w' ⟨rfl, rfl⟩)
            | (go_at_call 31; refine (troot_nil _).mono ?_; rintro e w' ⟨rfl, rfl⟩)
            | (go_at_call 33; refine (tlen_nil _).mono ?_; rintro e w' ⟨rfl, rfl⟩)
            | (go_at_call 11; with_reducible (show Calls Tryd.prog _ #[.iface _ (.int _ 1)] _ _); refine (HCD1.out _ (HD.out _ HBA.out).g0).mono ?_; rintro e wx ⟨rfl, HBx⟩; have HBT := Lib.hid (HBT.out.trans (HBx.out.mono HBT.out.size)); have HBA := Lib.hid (HBA.out.trans (HBx.out.mono HBA.out.size)); clear HBx; have kc0 := (HD.out _ HBA.out).kc0; have kc1 := (HD.out _ HBA.out).kc1)
            | (go_at_call 34; refine (proof_calls tb mb gt tv ss i' _ (HT.out.later HBT.out) (by rw [HN1.out]; exact hin) (by rw [HN1.out]; omega)).mono ?_; rintro e wx ⟨gp, pv, rfl, -, HBx⟩; have HBT := Lib.hid (HBT.out.trans (HBx.out.mono HBT.out.size)); have HBA := Lib.hid (HBA.out.trans (HBx.out.mono HBA.out.size)); clear HBx; have kc0 := (HD.out _ HBA.out).kc0; have kc1 := (HD.out _ HBA.out).kc1))
          go_ret
          exact ⟨rfl, (HD.out _ HBA.out).below⟩
        · by_cases hneg : i < 0
          · clear hin0
            go_wp2_with (first
              | (go_at_call 34; with_reducible (show Calls Tryd.prog _ #[.pointer none, _] _ _); refine (proof_nil _ _).mono ?_; rintro e w' ⟨rfl, rfl⟩)
              | (go_at_call 31; refine (troot_nil _).mono ?_; rintro e w' ⟨rfl, rfl⟩)
              | (go_at_call 33; refine (tlen_nil _).mono ?_; rintro e w' ⟨rfl, rfl⟩)
              | (go_at_call 11; with_reducible (show Calls Tryd.prog _ #[.iface _ (.int _ 1)] _ _); refine (HCD1.out _ (HD.out _ HBA.out).g0).mono ?_; rintro e wx ⟨rfl, HBx⟩; have HBT := Lib.hid (HBT.out.trans (HBx.out.mono HBT.out.size)); have HBA := Lib.hid (HBA.out.trans (HBx.out.mono HBA.out.size)); clear HBx; have kc0 := (HD.out _ HBA.out).kc0; have kc1 := (HD.out _ HBA.out).kc1)
              | (go_at_call 34; refine (proof_out tb mb gt tv ss i _ (HT.out.later HBT.out) (by rw [HN1.out]; omega)).mono ?_; rintro e w' ⟨rfl, rfl⟩)
              | (go_at_call 11; refine (HCD2.out _ (HD.out _ HBA.out).g0).mono ?_; rintro e wx ⟨rfl, HBx⟩; have HBT := Lib.hid (HBT.out.trans (HBx.out.mono HBT.out.size)); have HBA := Lib.hid (HBA.out.trans (HBx.out.mono HBA.out.size)); clear HBx; have kc0 := (HD.out _ HBA.out).kc0; have kc1 := (HD.out _ HBA.out).kc1))
            go_ret
            exact ⟨rfl, (HD.out _ HBA.out).below⟩
          · have hge : (k : Int) ≤ i := by omega
            have hpos : 0 ≤ i := by omega
            clear hin0 hneg
            go_wp2_with (first
              | (go_at_call 34; with_reducible (show Calls Tryd.prog _ #[.pointer none, _] _ _); refine (proof_nil _ _).mono ?_; rintro e w' ⟨rfl, rfl⟩)
              | (go_at_call 31; refine (troot_nil _).mono ?_; rintro e w' ⟨rfl, rfl⟩)
              | (go_at_call 33; refine (tlen_nil _).mono ?_; rintro e w' ⟨rfl, rfl⟩)
              | (go_at_call 11; with_reducible (show Calls Tryd.prog _ #[.iface _ (.int _ 1)] _ _); refine (HCD1.out _ (HD.out _ HBA.out).g0).mono ?_; rintro e wx ⟨rfl, HBx⟩; have HBT := Lib.hid (HBT.out.trans (HBx.out.mono HBT.out.size)); have HBA := Lib.hid (HBA.out.trans (HBx.out.mono HBA.out.size)); clear HBx; have kc0 := (HD.out _ HBA.out).kc0; have kc1 := (HD.out _ HBA.out).kc1)
              | (go_at_call 34; refine (proof_out tb mb gt tv ss i _ (HT.out.later HBT.out) (by rw [HN1.out]; omega)).mono ?_; rintro e w' ⟨rfl, rfl⟩)
              | (go_at_call 11; refine (HCD2.out _ (HD.out _ HBA.out).g0).mono ?_; rintro e wx ⟨rfl, HBx⟩; have HBT := Lib.hid (HBT.out.trans (HBx.out.mono HBT.out.size)); have HBA := Lib.hid (HBA.out.trans (HBx.out.mono HBA.out.size)); clear HBx; have kc0 := (HD.out _ HBA.out).kc0; have kc1 := (HD.out _ HBA.out).kc1))
            go_ret
            exact ⟨rfl, (HD.out _ HBA.out).below⟩

theorem trees_row (g1 : Nat) (v1 : Value) (ss : List ByteArray) (i : Int) (w : World) (h0 : Er.G0 w) (hs1 : SR w g1 v1 ss) (hss : ∀ s ∈ ss, s.size ≤ 140737488351232) (hi : (Lit.int .i64 i).wf = true) :
    Calls Tryd.prog 8 #[v1, .int .i64 i] w fun e w' => e = .returned (.bool true) ∧ Below w.heap.size w w' := by
  have hs1' := hs1
  obtain ⟨A, c, rfl, -, -, -⟩ := hs1'
  exact trees_walk A ss.length c g1 ss i w h0 (bounds_i64 hi).1 (bounds_i64 hi).2 hs1
end Go.Proofs.YtmhjocbnoppbbaaDoor.Mk
