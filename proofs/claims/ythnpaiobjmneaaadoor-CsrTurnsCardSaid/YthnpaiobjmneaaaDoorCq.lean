/- CsrTurns, walked. -/
import Derived.Test.YthnpaiobjmneaaaDoorCo
import Derived.Test.YthnpaiobjmneaaaDoorEn
import Derived.BigQuiet
namespace Go.Proofs.YthnpaiobjmneaaaDoor.Cs
open Go.RowKit Go.Proofs.YthnpaiobjmneaaaDoor.Ed Go.Proofs.YthnpaiobjmneaaaDoor.Ro
set_option linter.unusedVariables false
set_option linter.unusedSimpArgs false
theorem build_weak (n : Int) (g : Nat) (v : Value) (l : List E2) (w : World) (h : ER w g v l) (hl : l.length ≤ 1000000) :
    Calls Tryd.prog 24 #[.int .i64 n, v] w fun e w' => ∃ x y, e = .returned (.tuple #[.pointer x, y]) ∧ Hid (Below w.heap.size w w') := by
  by_cases hw : wrg n l = -2
  · obtain ⟨n0, -⟩ := wrg_ok.1 hw
    obtain ⟨N, rfl⟩ := Int.eq_ofNat_of_zero_le n0
    refine (build_ok N g v l w h hl hw).mono ?_
    rintro e w' ⟨p, bb, tv, rfl, -, hb⟩
    exact ⟨_, _, rfl, hb⟩
  · refine (build_bad n g v l w h hl hw).mono ?_
    rintro e w' ⟨rfl, hb⟩
    exact ⟨_, _, rfl, hb⟩
set_option maxHeartbeats 8000000 in
set_option maxRecDepth 100000 in
theorem turns_walk (n0 n1 : Int) (g1 g2 : Nat) (A1 A2 : Option Addr) (len1 c1 len2 c2 : Nat) (l m : List E2) (w : World) (hG : Er.G0 w) (hr1 : ER w g1 (.slice A1 len1 c1) l) (hr2 : ER w g2 (.slice A2 len2 c2) m) (hlen1 : l.length = len1) (hlen2 : m.length = len2) :
    Calls Tryd.prog 6 #[.agg #[.int .i64 n0, .int .i64 n1], .slice A1 len1 c1, .slice A2 len2 c2] w fun e w' => e = .returned (.bool true) ∧ Hid (Below w.heap.size w w') := by
  have HR1 := Lib.hid hr1
  have HR2 := Lib.hid hr2
  have HL1 := Lib.hid hlen1
  have HL2 := Lib.hid hlen2
  have HC1 : Hid (∀ (W : World), Below w.heap.size w W → Calls Tryd.prog 11 #[noV 1] W fun r w' => r = .returned (.int .i64 1) ∧ Hid (Below W.heap.size W w')) := Lib.hid (fun W h => Er.code_calls (.no 1) W (g0_later hG h))
  have HA0 : Hid (Below w.heap.size w (w.alloc (.cells #[.int .i64 n0, .int .i64 n1] 49))) := Lib.hid ((Below.refl _ _).alloc (Nat.le_refl _) _)
  have HA1 : Hid ((w.alloc (.cells #[.int .i64 n0, .int .i64 n1] 49)).heap[w.heap.size]? = some (.cells #[.int .i64 n0, .int .i64 n1] 49 (0, 0))) := Lib.hid (heap_alloc_new w _)
  have HAS : Hid ((w.alloc (.cells #[.int .i64 n0, .int .i64 n1] 49)).heap.size = w.heap.size + 1) := Lib.hid (by simp)
  clear hr1 hr2 hlen1 hlen2 hG
  go_enter Tryd.func6, Tryd.ntmps6
  go_upto_region 3 with (go_at_call 23; refine (awake_calls _).mono ?_; rintro e w1 ⟨rfl, HB⟩)
  have HBX : Hid (∀ W, Below w1.heap.size w1 W → W.heap[w.heap.size]? = some (.cells #[.int .i64 n0, .int .i64 n1] 49 (0, 0))) := Lib.hid (fun W h => by
    have h0 : w1.heap[w.heap.size]? = some (.cells #[.int .i64 n0, .int .i64 n1] 49 (0, 0)) := by
      rw [HB.out.block _ (by rw [HAS.out]; omega)]; exact HA1.out
    rw [h.block _ (Array.getElem?_eq_some_iff.1 h0).1]; exact h0)
  have HZ := Lib.hid (HA0.out.trans (HB.out.mono HA0.out.size))
  clear HA0 HA1 HAS HB
  obtain ⟨b0, hb0⟩ : ∃ b0, w.heap.size = b0 := ⟨_, rfl⟩
  have HCE : Hid (∀ W, Below w1.heap.size w1 W → W.cell? ⟨b0, 0, none⟩ = some (.int .i64 n0) ∧ W.cell? ⟨b0, 1, none⟩ = some (.int .i64 n1)) := Lib.hid (fun W h => by
    have := HBX.out W h
    rw [hb0] at this
    exact ⟨cell_of_row W _ 0 _ _ _ this, cell_of_row W _ 1 _ _ _ this⟩)
  have HT : Hid (Below w1.heap.size w1 w1) := Lib.hid (Below.refl _ _)
  have HB0 := Lib.hid hb0
  have HE1 : Hid (∀ W, Below w1.heap.size w1 W → ER W g1 (.slice A1 len1 c1) l) := Lib.hid (fun W h => HR1.out.later (HZ.out.trans (h.mono HZ.out.size)))
  have HE2 : Hid (∀ W, Below w1.heap.size w1 W → ER W g2 (.slice A2 len2 c2) m) := Lib.hid (fun W h => HR2.out.later (HZ.out.trans (h.mono HZ.out.size)))
  have HCO : Hid (∀ (W : World), Below w1.heap.size w1 W → Calls Tryd.prog 11 #[noV 1] W fun r w' => r = .returned (.int .i64 1) ∧ Hid (Below W.heap.size W w')) := Lib.hid (fun W h => HC1.out W (HZ.out.trans (h.mono HZ.out.size)))
  have HFIN : Hid (∀ W, Below w1.heap.size w1 W → Below w.heap.size w W) := Lib.hid (fun W h => HZ.out.trans (h.mono HZ.out.size))
  rw [hb0]
  clear hb0 HBX HZ HR1 HR2 HC1
  by_cases hbig : 200 < len1
  · have hb : (200 : Int) < (len1 : Int) := by omega
    go_wp2
    go_ret
    exact ⟨rfl, Lib.hid (HFIN.out _ HT.out)⟩
  by_cases hbig2 : 200 < len2
  · have hb : ¬ (200 : Int) < (len1 : Int) := by omega
    have hb2 : (200 : Int) < (len2 : Int) := by omega
    go_wp2
    go_ret
    exact ⟨rfl, Lib.hid (HFIN.out _ HT.out)⟩
  have hb : ¬ (200 : Int) < (len1 : Int) := by omega
  have hb2 : ¬ (200 : Int) < (len2 : Int) := by omega
  have HLN1 : Hid (l.length ≤ 1000000) := Lib.hid (by rw [HL1.out]; omega)
  have HLN2 : Hid (m.length ≤ 1000000) := Lib.hid (by rw [HL2.out]; omega)
  clear hbig hbig2
  obtain ⟨x0, x1⟩ := HCE.out _ HT.out
  by_cases hw : wrg n0 l = -2
  case neg =>
    obtain ⟨a, ha⟩ : ∃ a, wrg n0 l = a := ⟨_, rfl⟩
    have HBA : Hid (∀ W, Below w1.heap.size w1 W → Calls Tryd.prog 24 #[.int .i64 n0, .slice A1 len1 c1] W fun e w' => e = .returned (.tuple #[.pointer none, .iface 80 (.agg #[.int .i64 a, .iface 76 (.int .i64 10)])]) ∧ Hid (Below W.heap.size W w')) := Lib.hid (fun W h => by
      have := build_bad n0 g1 _ l W (HE1.out W h) HLN1.out hw
      rw [ha] at this; exact this)
    have HBW : Hid (∀ W, Below w1.heap.size w1 W → Calls Tryd.prog 24 #[.int .i64 n1, .slice A2 len2 c2] W fun e w' => ∃ x y, e = .returned (.tuple #[.pointer x, y]) ∧ Hid (Below W.heap.size W w')) := Lib.hid (fun W h => build_weak n1 g2 _ m W (HE2.out W h) HLN2.out)
    clear hw ha
    go_upto_region 6 with (go_at_call 24; refine (HBA.out _ HT.out).mono ?_; rintro e w3 ⟨rfl, HBx⟩; have HT := Lib.hid (HT.out.trans (HBx.out.mono HT.out.size)); clear HBx)
    clear x0 x1
    obtain ⟨x0, x1⟩ := HCE.out _ HT.out
    go_wp2_with (first
      | (go_at_call 24; refine (HBW.out _ HT.out).mono ?_; rintro e w4 ⟨px, py, rfl, HBx⟩; have HT := Lib.hid (HT.out.trans (HBx.out.mono HT.out.size)); clear HBx)
      | (go_at_call 28; refine (targets_nil _ _).mono ?_; rintro e w5 ⟨rfl, rfl⟩)
      | (go_at_call 29; refine (cdegree_nil _ _).mono ?_; rintro e w5 ⟨rfl, rfl⟩)
      | (go_at_call 25; refine (nodes_nil _).mono ?_; rintro e w5 ⟨rfl, rfl⟩)
      | (go_at_call 26; refine (edges_nil _).mono ?_; rintro e w5 ⟨rfl, rfl⟩)
      | (go_at_call 27; refine (list_nil _).mono ?_; rintro e w5 ⟨rfl, rfl⟩)
      | (go_at_call 30; refine (has_nil _ _ _).mono ?_; rintro e w5 ⟨rfl, rfl⟩)
      | (go_at_call 34; refine (begin_nil _ _).mono ?_; rintro e w5 ⟨rfl, rfl⟩)
      | (go_at_call 36; refine (turned_nil _).mono ?_; rintro e w5 ⟨rfl, rfl⟩)
      | (go_at_call 37; refine (csame_nil _).mono ?_; rintro e w5 ⟨rfl, rfl⟩)
      | (go_at_call 11; refine (HCO.out _ HT.out).mono ?_; rintro e w5 ⟨rfl, HBx⟩; have HT := Lib.hid (HT.out.trans (HBx.out.mono HT.out.size)); clear HBx))
    go_ret
    exact ⟨rfl, Lib.hid (HFIN.out _ HT.out)⟩
  case pos =>
    obtain ⟨k0, k1, k2, k3⟩ := wrg_ok.1 hw
    obtain ⟨N, rfl⟩ := Int.eq_ofNat_of_zero_le k0
    have HBA : Hid (∀ W : World, Below w1.heap.size w1 W → Calls Tryd.prog 24 #[.int .i64 (N : Int), .slice A1 len1 c1] W fun e w' => ∃ p bb tv, e = .returned (.tuple #[pV p, .nilIface]) ∧ Hid (CS w' W.heap.size p bb tv N (nrm l)) ∧ Hid (Below W.heap.size W w')) := Lib.hid (fun W h => build_ok N g1 _ l W (HE1.out W h) HLN1.out hw)
    clear hw k0 k1 k2 k3
    go_upto_region 6 with (go_at_call 24; refine (HBA.out _ HT.out).mono ?_; rintro e w3 ⟨p, bb, tv, rfl, HC3, HBx⟩; have HT := Lib.hid (HT.out.trans (HBx.out.mono HT.out.size)); clear HBx)
    have HU : Hid (Below w3.heap.size w3 w3) := Lib.hid (Below.refl _ _)
    have HT3 := HT
    clear x0 x1 HBA HT
    obtain ⟨x0, x1⟩ := HCE.out _ HT3.out
    have HUP : Hid (∀ W, Below w3.heap.size w3 W → Below w1.heap.size w1 W) := Lib.hid (fun W h => HT3.out.trans (h.mono HT3.out.size))
    by_cases hw : wrg n1 m = -2
    case neg =>
      obtain ⟨a, ha⟩ : ∃ a, wrg n1 m = a := ⟨_, rfl⟩
      have HBB : Hid (∀ W, Below w1.heap.size w1 W → Calls Tryd.prog 24 #[.int .i64 n1, .slice A2 len2 c2] W fun e w' => e = .returned (.tuple #[.pointer none, .iface 80 (.agg #[.int .i64 a, .iface 76 (.int .i64 10)])]) ∧ Hid (Below W.heap.size W w')) := Lib.hid (fun W h => by
        have := build_bad n1 g2 _ m W (HE2.out W h) HLN2.out hw
        rw [ha] at this; exact this)
      clear hw ha
      go_wp2_with (first
        | (go_at_call 24; refine (HBB.out _ (HUP.out _ HU.out)).mono ?_; rintro e w4 ⟨rfl, HBx⟩; have HU := Lib.hid (HU.out.trans (HBx.out.mono HU.out.size)); clear HBx)
        | (go_at_call 28; refine (targets_nil _ _).mono ?_; rintro e w5 ⟨rfl, rfl⟩)
        | (go_at_call 29; refine (cdegree_nil _ _).mono ?_; rintro e w5 ⟨rfl, rfl⟩)
        | (go_at_call 25; refine (nodes_nil _).mono ?_; rintro e w5 ⟨rfl, rfl⟩)
        | (go_at_call 26; refine (edges_nil _).mono ?_; rintro e w5 ⟨rfl, rfl⟩)
        | (go_at_call 27; refine (list_nil _).mono ?_; rintro e w5 ⟨rfl, rfl⟩)
        | (go_at_call 30; refine (has_nil _ _ _).mono ?_; rintro e w5 ⟨rfl, rfl⟩)
        | (go_at_call 34; refine (begin_nil _ _).mono ?_; rintro e w5 ⟨rfl, rfl⟩)
        | (go_at_call 36; refine (turned_nil _).mono ?_; rintro e w5 ⟨rfl, rfl⟩)
        | (go_at_call 37; (with_reducible show Calls Tryd.prog 37 #[.pointer none, .pointer none] _ _); refine (csame_nil _).mono ?_; rintro e w5 ⟨rfl, rfl⟩)
        | (go_at_call 37; refine (csame_nilp p _).mono ?_; rintro e w5 ⟨rfl, rfl⟩)
        | (go_at_call 11; refine (HCO.out _ (HUP.out _ HU.out)).mono ?_; rintro e w5 ⟨rfl, HBx⟩; have HU := Lib.hid (HU.out.trans (HBx.out.mono HU.out.size)); clear HBx))
      go_ret
      exact ⟨rfl, Lib.hid (HFIN.out _ (HUP.out _ HU.out))⟩
    case pos =>
      obtain ⟨k0, k1, k2, k3⟩ := wrg_ok.1 hw
      obtain ⟨M, rfl⟩ := Int.eq_ofNat_of_zero_le k0
      have HBB : Hid (∀ W : World, Below w1.heap.size w1 W → Calls Tryd.prog 24 #[.int .i64 (M : Int), .slice A2 len2 c2] W fun e w' => ∃ p bb tv, e = .returned (.tuple #[pV p, .nilIface]) ∧ Hid (CS w' W.heap.size p bb tv M (nrm m)) ∧ Hid (Below W.heap.size W w')) := Lib.hid (fun W h => build_ok M g2 _ m W (HE2.out W h) HLN2.out hw)
      clear hw k0 k1 k2 k3
      go_upto_region 12 with (first
        | (go_at_call 24; refine (HBB.out _ (HUP.out _ HU.out)).mono ?_; rintro e w4 ⟨q, bq, tq, rfl, HC4, HBx⟩; have HU := Lib.hid (HU.out.trans (HBx.out.mono HU.out.size)); have HX : Hid (Below w4.heap.size w4 w4) := Lib.hid (Below.refl _ _); clear HBx)
        | (go_at_call 28; refine (targets_nil _ _).mono ?_; rintro e w5 ⟨rfl, rfl⟩)
        | (go_at_call 29; refine (cdegree_nil _ _).mono ?_; rintro e w5 ⟨rfl, rfl⟩)
        | (go_at_call 25; refine (nodes_nil _).mono ?_; rintro e w5 ⟨rfl, rfl⟩)
        | (go_at_call 26; refine (edges_nil _).mono ?_; rintro e w5 ⟨rfl, rfl⟩)
        | (go_at_call 27; refine (list_nil _).mono ?_; rintro e w5 ⟨rfl, rfl⟩)
        | (go_at_call 30; refine (has_nil _ _ _).mono ?_; rintro e w5 ⟨rfl, rfl⟩)
        | (go_at_call 34; refine (begin_nil _ _).mono ?_; rintro e w5 ⟨rfl, rfl⟩)
        | (go_at_call 36; refine (turned_nil _).mono ?_; rintro e w5 ⟨rfl, rfl⟩)
        | (go_at_call 37; (with_reducible show Calls Tryd.prog 37 #[.pointer none, .pointer none] _ _); refine (csame_nil _).mono ?_; rintro e w5 ⟨rfl, rfl⟩)
        | (go_at_call 37; refine (csame_nilp p _).mono ?_; rintro e w5 ⟨rfl, rfl⟩)
        | (go_at_call 11; refine (HCO.out _ (HUP.out _ HU.out)).mono ?_; rintro e w6 ⟨rfl, HBx⟩; have HU := Lib.hid (HU.out.trans (HBx.out.mono HU.out.size)); have HX := Lib.hid (HX.out.trans (HBx.out.mono HX.out.size)); clear HBx))
      rename World => w6
      have HCA := Lib.hid (HC3.out.later HU.out)
      have HCB := Lib.hid (HC4.out.later HX.out)
      have HT6 := Lib.hid (HUP.out _ HU.out)
      have HUP6 : Hid (∀ W, Below w6.heap.size w6 W → Below w1.heap.size w1 W) := Lib.hid (fun W h => HT6.out.trans (h.mono HT6.out.size))
      have HV : Hid (Below w6.heap.size w6 w6) := Lib.hid (Below.refl _ _)
      have HRN1 : Hid (∀ W : World, Below w6.heap.size w6 W → Calls Tryd.prog 16 #[.slice A1 len1 c1] W fun e w' => ∃ v', e = .returned v' ∧ Hid (EO w' W.heap.size v' (nrm l)) ∧ Hid (Below W.heap.size W w')) := Lib.hid (fun W h => rnorm_calls g1 _ l W (HE1.out _ (HUP6.out _ h)) (by rw [HL1.out]; omega))
      have HRN2 : Hid (∀ W : World, Below w6.heap.size w6 W → Calls Tryd.prog 16 #[.slice A2 len2 c2] W fun e w' => ∃ v', e = .returned v' ∧ Hid (EO w' W.heap.size v' (nrm m)) ∧ Hid (Below W.heap.size W w')) := Lib.hid (fun W h => rnorm_calls g2 _ m W (HE2.out _ (HUP6.out _ h)) (by rw [HL2.out]; omega))
      have HFIN6 : Hid (∀ W, Below w6.heap.size w6 W → Below w.heap.size w W) := Lib.hid (fun W h => HFIN.out _ (HUP6.out _ h))
      have HCE6 : Hid (∀ W, Below w6.heap.size w6 W → W.cell? ⟨b0, 0, none⟩ = some (.int .i64 (N : Int)) ∧ W.cell? ⟨b0, 1, none⟩ = some (.int .i64 (M : Int))) := Lib.hid (fun W h => HCE.out _ (HUP6.out _ h))
      clear HC3 HC4 HU HX HT3 HT6 HUP HUP6 HCE HFIN HE1 HE2 HCO HBB x0 x1
      generalize nrm l = a at HCA HRN1
      generalize nrm m = b at HCB HRN2
      obtain ⟨k, hk⟩ : ∃ k, a.length = k := ⟨_, rfl⟩
      have HK := Lib.hid hk
      have hk2 : k ≤ 20000 := by rw [← hk]; exact HCA.out.few
      have hN : N ≤ 4096 := HCA.out.nodes
      have hnn : ((N : Int) != (N : Int)) = false := by simp
      have hkk : ((k : Int) != (k : Int)) = false := by simp
      have HTW := Lib.hid (trn_twice HCA.out.up)
      have HTK : Hid ((nrm (trn a)).length = k) := Lib.hid (by rw [trn_nrm_len HCA.out.up, HK.out])
      have HTM : Hid (∀ x, x ∈ a → (x.2, x.1) ∈ nrm (trn a)) := Lib.hid (fun x hx => by rw [mem_nrm, mem_trn]; exact hx)
      have HOK := Lib.hid HCA.out.ok
      clear hk
      have HTC : Hid (∀ W : World, Below w6.heap.size w6 W → Calls Tryd.prog 36 #[pV p] W fun e w' => ∃ p2 bb2 tv2, e = .returned (pV p2) ∧ Hid (CS w' W.heap.size p2 bb2 tv2 N (nrm (trn a))) ∧ Hid (Below W.heap.size W w')) := Lib.hid (fun W h => cturned_calls (HCA.out.later h))
      have HEC : Hid (∀ W : World, Below w6.heap.size w6 W → Calls Tryd.prog 26 #[pV p] W fun e w' => e = .returned (.int .i64 (k : Int)) ∧ W = w') := Lib.hid (fun W h => by have := edges_calls (HCA.out.later h); rw [HK.out] at this; exact this)
      generalize nrm (trn a) = t at HTW HTK HTM HTC
      have HSM : Hid (∀ W : World, Below w6.heap.size w6 W → Calls Tryd.prog 37 #[pV p, pV q] W fun e w' => e = .returned (.bool (decide (N = M ∧ a = b))) ∧ Hid (Below W.heap.size W w')) := Lib.hid (fun W h => csame_calls (HCA.out.later h) (HCB.out.later h))
      go_upto_region 15 with (go_at_call 36; refine (HTC.out _ HV.out).mono ?_; rintro e w7 ⟨p7, bb7, tv7, rfl, HC7, HBx⟩; have HV := Lib.hid (HV.out.trans (HBx.out.mono HV.out.size)); clear HBx)
      have HY : Hid (Below w7.heap.size w7 w7) := Lib.hid (Below.refl _ _)
      have HV7 := HV
      clear HV
      have HUP7 : Hid (∀ W, Below w7.heap.size w7 W → Below w6.heap.size w6 W) := Lib.hid (fun W h => HV7.out.trans (h.mono HV7.out.size))
      go_upto_region 18 with (first
        | (go_at_call 36; refine (cturned_calls (HC7.out.later HY.out)).mono ?_; rw [HTW.out]; rintro e w8 ⟨p8, bb8, tv8, rfl, HC8, HBx⟩; have HY := Lib.hid (HY.out.trans (HBx.out.mono HY.out.size)); clear HBx)
        | (go_at_call 37; refine (csame_calls HC8.out (HCA.out.later (HUP7.out _ HY.out))).mono ?_; rw [decide_eq_true (p := N = N ∧ a = a) ⟨rfl, rfl⟩]; rintro e w9 ⟨rfl, HBx⟩; have HY := Lib.hid (HY.out.trans (HBx.out.mono HY.out.size)); clear HBx)
        | (go_at_call 25; (with_reducible show Calls Tryd.prog 25 #[pV p7] _ _); refine (nodes_calls (HC7.out.later HY.out)).mono ?_; rintro e w10 ⟨rfl, rfl⟩)
        | (go_at_call 25; refine (nodes_calls (HCA.out.later (HUP7.out _ HY.out))).mono ?_; rintro e w10 ⟨rfl, rfl⟩)
        | (go_at_call 26; (with_reducible show Calls Tryd.prog 26 #[pV p7] _ _); refine (edges_calls (HC7.out.later HY.out)).mono ?_; rw [HTK.out]; rintro e w10 ⟨rfl, rfl⟩)
        | (go_at_call 26; refine (HEC.out _ (HUP7.out _ HY.out)).mono ?_; rintro e w10 ⟨rfl, rfl⟩)
        | (go_at_call 16; refine (HRN1.out _ (HUP7.out _ HY.out)).mono ?_; rintro e w11 ⟨v11, rfl, HO11, HBx⟩; have HY := Lib.hid (HY.out.trans (HBx.out.mono HY.out.size)); clear HBx; obtain ⟨g11, hg11, -⟩ := HO11.out.reads; have HE11 := Lib.hid hg11; clear hg11; obtain ⟨A11, c11, rfl, -, -⟩ := id HO11.out.shape; rw [HK.out] at HE11 HO11 ⊢))
      have HC11 := Lib.hid (HC7.out.later HY.out)
      have HV11 := Lib.hid (HUP7.out _ HY.out)
      have HUP11 : Hid (∀ W, Below w11.heap.size w11 W → Below w6.heap.size w6 W) := Lib.hid (fun W h => HV11.out.trans (h.mono HV11.out.size))
      have HY0 : Hid (Below w11.heap.size w11 w11) := Lib.hid (Below.refl _ _)
      clear HC8 HY HC7 HUP7 HV7 HO11 HTC HEC hnn hkk HTW HTK HV11
      go_loopw [131] (fun x wz => ∃ i : Nat, x = .int .i64 (i : Int) ∧ i ≤ k ∧ Hid (Below w11.heap.size w11 wz)) (fun x _ => k - (intOf x).toNat)
      case atStart => exact ⟨0, rfl, Nat.zero_le _, HY0⟩
      case round =>
        clear HY0
        obtain ⟨i, rfl, hi, HY⟩ := hrel
        by_cases hlt : i < k
        · obtain ⟨o', A', c', hv', -, -, hread⟩ := HE11.out.later HY.out
          rw [HK.out] at hread hv'
          obtain ⟨rfl, -, hcell⟩ := hread (by omega)
          injection hv' with hv' _ hcc
          subst hcc hv'
          obtain ⟨q0, q1⟩ := hcell i hlt
          have hmem : a.getD i (0, 0) ∈ a := by rw [List.getD_eq_getElem?_getD, List.getElem?_eq_getElem (by rw [HK.out]; exact hlt)]; exact List.getElem_mem _
          have hok := HOK.out _ hmem
          have htm := HTM.out _ hmem
          obtain ⟨⟨x, y⟩, hxy⟩ : ∃ x, a.getD i (0, 0) = x := ⟨_, rfl⟩
          rw [hxy] at q0 q1 hok htm
          unfold okE at hok
          simp only at q0 q1 hok htm
          obtain ⟨hx0, hy0, hxN, hyN⟩ := hok
          obtain ⟨y, rfl⟩ := Int.eq_ofNat_of_zero_le hy0
          have HHA : Hid (∀ W : World, Below w11.heap.size w11 W → Calls Tryd.prog 30 #[pV p7, .int .i64 (y : Int), .int .i64 x] W fun e w' => e = .returned (.bool true) ∧ Hid (Below W.heap.size W w')) := Lib.hid (fun W h => by
            have := has_calls (HC11.out.later h) y (by omega) x
            rw [decide_eq_true htm] at this; exact this)
          have i0 : (0 : Int) ≤ (i : Int) := by omega
          have i1 : (i : Int) < (k : Int) := by omega
          have hbz := HY.out.size
          have HYA := Lib.hid (fun ob => HY.out.alloc hbz ob)
          clear hcell hread hxy hmem htm hx0 hy0 hxN hyN
          go_wp2_with (go_at_call 30; refine (HHA.out _ (HYA.out _)).mono ?_; rintro e w12 ⟨rfl, HBx⟩; have HY2 := Lib.hid ((HYA.out _).trans (HBx.out.mono (HYA.out _).size)); clear HBx)
          go_roundw
          case rel => exact ⟨i + 1, by go_num, by omega, HY2⟩
          case measure => simp [intOf]; omega
        · obtain rfl : k = i := by omega
          have HV := Lib.hid (HUP11.out _ HY.out)
          clear HY hlt
          rename World => W0
          have HNW : Hid (∀ W, Below W0.heap.size W0 W → Below w6.heap.size w6 W) := Lib.hid (fun W h => HV.out.trans (h.mono HV.out.size))
          have HS : Hid (∀ W, Below W0.heap.size W0 W → W.cell? ⟨b0, 0, none⟩ = some (.int .i64 (N : Int)) ∧ W.cell? ⟨b0, 1, none⟩ = some (.int .i64 (M : Int))) := Lib.hid (fun W h => HCE6.out _ (HNW.out _ h))
          have HBW : Hid (Below W0.heap.size W0 W0.drew) := Lib.hid (Below.refl _ _).drew
          have HSR : Hid (∀ (W : World) (g1 g2 : Nat) (v1 v2 : Value), ER W g1 v1 a → ER W g2 v2 b → Calls Tryd.prog 15 #[v1, v2] W fun e w' => e = .returned (.bool (decide (a = b))) ∧ Hid (Below W.heap.size W w')) := Lib.hid (fun W g1 g2 v1 v2 h1 h2 => rsame_b g1 g2 v1 v2 _ _ W h1 h2)
          by_cases hNM : N = M
          · subst hNM
            have hd : decide (N = N ∧ a = b) = decide (a = b) := by simp
            rw [hd] at HSM
            obtain ⟨r, hr⟩ : ∃ r, decide (a = b) = r := ⟨_, rfl⟩
            rw [hr] at HSM HSR
            clear hd hr
            have hnn : ((N : Int) == (N : Int)) = true := by simp
            go_wp2_with fail
            cases r
            all_goals
              go_region_held3 (fun w' => w'.cell? ⟨b0, 0, none⟩ = some (.int .i64 (N : Int)) ∧ w'.cell? ⟨b0, 1, none⟩ = some (.int .i64 (N : Int)))
                (first | (go_keep; done) | exact HS.out _ HBW.out)
                (first
                  | (go_at_call 37; refine (HSM.out _ (HNW.out _ HBW.out)).mono ?_; rintro e w5 ⟨rfl, HBx⟩; (try have HE1 := Lib.hid (HE1.out.later HBx.out)); (try have HE2 := Lib.hid (HE2.out.later HBx.out)); have HBW := Lib.hid (HBW.out.trans (HBx.out.mono HBW.out.size)); clear HBx)
                  | (go_at_call 16; (with_reducible show Calls Tryd.prog 16 #[.slice A1 len1 c1] _ _); refine (HRN1.out _ (HNW.out _ HBW.out)).mono ?_; rintro e w5 ⟨v5, rfl, HO5, HBx⟩; obtain ⟨ge1, hg5, -⟩ := HO5.out.reads; have HE1 := Lib.hid hg5; clear hg5 HO5; (try have HE2 := Lib.hid (HE2.out.later HBx.out)); have HBW := Lib.hid (HBW.out.trans (HBx.out.mono HBW.out.size)); clear HBx)
                  | (go_at_call 16; refine (HRN2.out _ (HNW.out _ HBW.out)).mono ?_; rintro e w5 ⟨v6, rfl, HO5, HBx⟩; obtain ⟨ge2, hg5, -⟩ := HO5.out.reads; have HE2 := Lib.hid hg5; clear hg5 HO5; (try have HE1 := Lib.hid (HE1.out.later HBx.out)); have HBW := Lib.hid (HBW.out.trans (HBx.out.mono HBW.out.size)); clear HBx)
                  | (go_at_call 15; refine (HSR.out _ ge1 ge2 _ _ HE1.out HE2.out).mono ?_; rintro e w5 ⟨rfl, HBx⟩; have HBW := Lib.hid (HBW.out.trans (HBx.out.mono HBW.out.size)); clear HBx HE1 HE2))
              all_goals
                go_wp2_with fail
                go_ret
                exact ⟨rfl, Lib.hid (HFIN6.out _ (HNW.out _ HBW.out))⟩
          · have HQ : Hid (∀ n, Calls Tryd.prog 37 #[pV p, pV q] (W0.drewN n) fun e w' => e = .returned (.bool false) ∧ ∃ q, w' = W0.drewN q) := Lib.hid (fun n => csame_quiet (HCA.out.later HV.out) (HCB.out.later HV.out) false (decide_eq_false (fun h => hNM h.1)) n)
            have hnn : ((N : Int) == (M : Int)) = false := by rw [beq_eq_false_iff_ne]; omega
            obtain ⟨z0, z1⟩ := HS.out _ (Below.refl _ _)
            go_wp2_with fail
            go_big_quiet (first | (go_at_call 37; exact HQ.out _))
            go_wp2_with fail
            go_ret
            exact ⟨rfl, Lib.hid (HFIN6.out _ (HNW.out _ (Ed.drewN_below _ _ _)))⟩
theorem turns_row (n0 n1 : Int) (g1 : Nat) (v1 : Value) (l : List E2) (g2 : Nat) (v2 : Value) (m : List E2) (w : World) (hG : Er.G0 w) (h0 : (Lit.int .i64 n0).wf = true) (h1 : (Lit.int .i64 n1).wf = true) (hr1 : ER w g1 v1 l) (hb1 : ∀ e ∈ l, (-9223372036854775808 ≤ e.1 ∧ e.1 < 9223372036854775808) ∧ (-9223372036854775808 ≤ e.2 ∧ e.2 < 9223372036854775808))
    (hr2 : ER w g2 v2 m) (hb2 : ∀ e ∈ m, (-9223372036854775808 ≤ e.1 ∧ e.1 < 9223372036854775808) ∧ (-9223372036854775808 ≤ e.2 ∧ e.2 < 9223372036854775808)) :
    Calls Tryd.prog 6 #[.agg #[.int .i64 n0, .int .i64 n1], v1, v2] w fun e w' => e = .returned (.bool true) ∧ Below w.heap.size w w' := by
  obtain ⟨A1, c1, rfl, -⟩ := er_form hr1
  obtain ⟨A2, c2, rfl, -⟩ := er_form hr2
  exact (turns_walk n0 n1 g1 g2 A1 A2 l.length c1 m.length c2 l m w hG hr1 hr2 rfl rfl).mono fun _ _ h => ⟨h.1, h.2.out⟩
end Go.Proofs.YthnpaiobjmneaaaDoor.Cs
