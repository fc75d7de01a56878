/- ShardPuts, walked. -/
import Derived.Test.YtjokfllldcjheaaGreatDoorPe
import Derived.Test.YtjokfllldcjheaaGreatDoorSz
import Derived.Test.YtjokfllldcjheaaGreatDoorRn
namespace Go.Proofs.YtjokfllldcjheaaGreatDoor.Oc
open Go.RowKit Go.Proofs.YtjokfllldcjheaaGreatDoor.Sha Go.Proofs.YtjokfllldcjheaaGreatDoor.Ro Go.Proofs.YtjokfllldcjheaaGreatDoor.Cs Go.Proofs.YtjokfllldcjheaaGreatDoor.Ed
set_option linter.unusedVariables false
set_option linter.unusedSimpArgs false
set_option maxHeartbeats 8000000 in
set_option maxRecDepth 100000 in
theorem puts_walk (n : Int) (g : Nat) (A : Option Addr) (len c : Nat) (l0 : List E2) (a b : Int) (w : World) (hG : Er.G0 w) (hr : ER w g (.slice A len c) l0) (hlen : l0.length = len)
    (ha : -9223372036854775808 ≤ a ∧ a < 9223372036854775808) (hb : -9223372036854775808 ≤ b ∧ b < 9223372036854775808) :
    Calls Tryz.prog 4 #[.int .i64 n, .slice A len c, .agg #[.int .i64 a, .int .i64 b]] w fun e w' => e = .returned (.bool true) ∧ Hid (Below w.heap.size w w') := by
  have HR := Lib.hid hr
  have HL := Lib.hid hlen
  have hc : len ≤ c ∧ c ≤ 9223372036854775807 := by
    obtain ⟨A', c', hv, h1, h2⟩ := er_form hr
    injection hv with _ _ hv
    subst hv
    rw [hlen] at h1
    exact ⟨h1, h2⟩
  obtain ⟨hc1, hc2⟩ := hc
  obtain ⟨ha1, ha2⟩ := ha
  obtain ⟨hb1, hb2⟩ := hb
  have HC1 : Hid (∀ (W : World), Below w.heap.size w W → Calls Tryz.prog 12 #[noV 1] W fun r w' => r = .returned (.int .i64 1) ∧ Hid (Below W.heap.size W w')) := Lib.hid (fun W h => Er.code_calls (.no 1) W (g0_on hG h))
  have HC2 : Hid (∀ (W : World), Below w.heap.size w W → Calls Tryz.prog 12 #[noV 2] W fun r w' => r = .returned (.int .i64 2) ∧ Hid (Below W.heap.size W w')) := Lib.hid (fun W h => Er.code_calls (.no 2) W (g0_on hG h))
  have HBX : Hid (Below w.heap.size w (w.alloc (.cells #[.int .i64 a, .int .i64 b] 45))) := Lib.hid ((Below.refl _ _).alloc (Nat.le_refl _) _)
  clear hr hlen hG
  by_cases hbig : 200 < len
  · have hb : (200 : Int) < (len : Int) := by omega
    go_enter Tryz.func4, Tryz.ntmps4
    go_wp2_with (go_at_call 9; refine (sawake_calls _).mono ?_; rintro e w1 ⟨rfl, HB⟩)
    go_ret
    exact ⟨rfl, Lib.hid (HBX.out.trans (HB.out.mono HBX.out.size))⟩
  have hb : ¬ (200 : Int) < (len : Int) := by omega
  by_cases hn : 100 < n
  · go_enter Tryz.func4, Tryz.ntmps4
    go_wp2_with (go_at_call 9; refine (sawake_calls _).mono ?_; rintro e w1 ⟨rfl, HB⟩)
    go_ret
    exact ⟨rfl, Lib.hid (HBX.out.trans (HB.out.mono HBX.out.size))⟩
  by_cases hw : wrg n l0 = -2
  case neg =>
    have HW := Lib.hid hw
    obtain ⟨z, hz⟩ : ∃ z, wrg n l0 = z := ⟨_, rfl⟩
    have HA := Lib.hid hz
    clear hz hw
    go_enter Tryz.func4, Tryz.ntmps4
    go_wp2_with (first
      | (go_at_call 9; refine (sawake_calls _).mono ?_; rintro e w1 ⟨rfl, HB⟩)
      | (go_at_call 10; refine (build_bad n _ _ l0 _ (HR.out.later (HBX.out.trans (HB.out.mono HBX.out.size))) (by rw [HL.out]; omega) HW.out).mono ?_; rw [HA.out]; unfold errV; rintro e w2 ⟨rfl, HB2⟩))
    go_ret
    exact ⟨rfl, Lib.hid (HBX.out.trans ((HB.out.trans (HB2.out.mono HB.out.size)).mono HBX.out.size))⟩
  case pos =>
    obtain ⟨n0, n1, -, -⟩ := wrg_ok.1 hw
    obtain ⟨N, rfl⟩ := Int.eq_ofNat_of_zero_le n0
    have HW := Lib.hid hw
    have nn : N ≤ 100 := by omega
    have HX0 : Hid ((w.alloc (.cells #[.int .i64 a, .int .i64 b] 45)).heap[w.heap.size]? = some (.cells #[.int .i64 a, .int .i64 b] 45 (0, 0))) := Lib.hid (heap_alloc_new w _)
    clear hw n0 n1
    go_enter Tryz.func4, Tryz.ntmps4
    go_upto_region 8 with (first
      | (go_at_call 9; refine (sawake_calls _).mono ?_; rintro e w1 ⟨rfl, HB⟩)
      | (go_at_call 10; refine (build_ok N _ _ l0 _ (HR.out.later (HBX.out.trans (HB.out.mono HBX.out.size))) (by rw [HL.out]; omega) HW.out).mono ?_; rintro e w2 ⟨p, bb, tv, rfl, HC, HB2⟩))
    have hbw := HBX.out.trans ((HB.out.trans (HB2.out.mono HB.out.size)).mono HBX.out.size)
    have hxw := ((HB.out.trans (HB2.out.mono HB.out.size)).block w.heap.size (Array.getElem?_eq_some_iff.1 HX0.out).1).trans HX0.out
    have c0 : w2.cell? ⟨w.heap.size, 0, none⟩ = some (.int .i64 a) := cell_of_row w2 _ 0 _ _ _ hxw
    have c1 : w2.cell? ⟨w.heap.size, 1, none⟩ = some (.int .i64 b) := cell_of_row w2 _ 1 _ _ _ hxw
    have HBW := Lib.hid hbw
    generalize w1.heap.size = B0 at HC
    clear hbw hxw HB HB2 HBX HX0
    go_quiet (fail)
    have HBQ : Hid (Below w2.heap.size w2 (w2.drewN nq)) := Lib.hid (Ed.drewN_below _ _ _)
    have HBW := Lib.hid (HBW.out.trans (HBQ.out.mono HBW.out.size))
    have HC := Lib.hid (HC.out.later HBQ.out)
    clear c0 c1 HBQ
    generalize w2.drewN nq = w3 at *
    have HRN := Lib.hid (rnorm_calls g _ l0 w3 (HR.out.later HBW.out) (by rw [HL.out]; omega))
    have hnl := nrm_len l0
    obtain ⟨l, hl⟩ : ∃ l, nrm l0 = l := ⟨_, rfl⟩
    rw [hl] at HC hnl HRN
    rw [HL.out] at hnl
    have HLL : Hid (l.length ≤ 1000000) := Lib.hid (by omega)
    clear hl hnl
    have HNP : Hid (∀ W, Calls Tryz.prog 19 #[.pointer none, .int .i64 0, .int .i64 1] W fun e w' => e = .returned (.tuple #[.string ByteArray.empty, noV 1]) ∧ W = w') := Lib.hid (fun W => put_nil W)
    go_upto_region 10 with (go_at_call 13; refine HRN.out.mono ?_; rintro e w4 ⟨v4, rfl, HO4, HB4⟩)
    have HBW := Lib.hid (HBW.out.trans (HB4.out.mono HBW.out.size))
    have HC := Lib.hid (HC.out.later HB4.out)
    obtain ⟨g4, hg4, -⟩ := HO4.out.reads
    obtain ⟨A4, c4, rfl, -, -⟩ := id HO4.out.shape
    obtain ⟨n4, hn4⟩ : ∃ k, l.length = k := ⟨_, rfl⟩
    rw [hn4] at hg4 ⊢
    have HE4 := Lib.hid hg4
    clear hg4 hn4 HO4 HB4 HRN
    by_cases hbad : badPut a b N
    · have HPB := Lib.hid (put_range HC.out a b hbad)
      have hcd : ¬ a < 0 → ¬ b < 1 → ¬ a > (N : Int) → b > (N : Int) - a := by unfold badPut at hbad; omega
      have HCD := Lib.hid hcd
      clear hbad hcd
      by_cases k1 : a < 0
      · go_wp2_with (first
          | (go_at_call 19; refine HPB.out.mono ?_; rintro e w5 ⟨rfl, rfl⟩)
          | (go_at_call 12; refine (HC2.out _ HBW.out).mono ?_; rintro e w6 ⟨rfl, HB6⟩))
        go_ret
        exact ⟨rfl, Lib.hid (HBW.out.trans (HB6.out.mono HBW.out.size))⟩
      by_cases k2 : b < 1
      · go_wp2_with (first
          | (go_at_call 19; refine HPB.out.mono ?_; rintro e w5 ⟨rfl, rfl⟩)
          | (go_at_call 12; refine (HC2.out _ HBW.out).mono ?_; rintro e w6 ⟨rfl, HB6⟩))
        go_ret
        exact ⟨rfl, Lib.hid (HBW.out.trans (HB6.out.mono HBW.out.size))⟩
      by_cases k3 : a > (N : Int)
      · go_wp2_with (first
          | (go_at_call 19; refine HPB.out.mono ?_; rintro e w5 ⟨rfl, rfl⟩)
          | (go_at_call 12; refine (HC2.out _ HBW.out).mono ?_; rintro e w6 ⟨rfl, HB6⟩))
        go_ret
        exact ⟨rfl, Lib.hid (HBW.out.trans (HB6.out.mono HBW.out.size))⟩
      · have k4 := HCD.out k1 k2 k3
        go_wp2_with (first
          | (go_at_call 19; refine HPB.out.mono ?_; rintro e w5 ⟨rfl, rfl⟩)
          | (go_at_call 12; refine (HC2.out _ HBW.out).mono ?_; rintro e w6 ⟨rfl, HB6⟩))
        go_ret
        exact ⟨rfl, Lib.hid (HBW.out.trans (HB6.out.mono HBW.out.size))⟩
    · obtain ⟨k1, k2, k3, k4⟩ : ¬ a < 0 ∧ ¬ b < 1 ∧ ¬ a > (N : Int) ∧ ¬ b > (N : Int) - a := by unfold badPut at hbad; omega
      obtain ⟨f, rfl⟩ := Int.eq_ofNat_of_zero_le (show 0 ≤ a by omega)
      obtain ⟨m, rfl⟩ := Int.eq_ofNat_of_zero_le (show 0 ≤ b by omega)
      have hm1 : 1 ≤ m := by omega
      have hfm : f + m ≤ N := by omega
      have HPU := Lib.hid (sput_calls HC.out f m hm1 hfm)
      have HRP : Hid (∀ W, Below w4.heap.size w4 W → Calls Tryz.prog 17 #[.slice A4 n4 c4, .int .i64 (f : Int), .int .i64 (m : Int)] W fun e w' => e = .returned (.string ⟨(shardB (tgt l) f m).toArray⟩) ∧ Hid (Below W.heap.size W w')) := Lib.hid (fun W hW => rput_calls N (by omega) g4 _ l W (HE4.out.later hW) HLL.out (rows_ok HC.out) f m hfm)
      have HRS := Lib.hid (rdShard_put (tgt l) N (by omega) (rows_ok HC.out) f m hm1 hfm)
      have hgz : (shardB (tgt l) f m).length ≤ 40000000 := shard_len HC.out f m hfm
      obtain ⟨G, hG⟩ : ∃ G : ByteArray, (⟨(shardB (tgt l) f m).toArray⟩ : ByteArray) = G := ⟨_, rfl⟩
      have HGL : Hid (G.data.toList = shardB (tgt l) f m) := Lib.hid (by rw [← hG])
      rw [← HGL.out] at HRS
      have hgs : G.size ≤ 40000000 := by rw [← HGL.out, list_sz] at hgz; exact hgz
      rw [hG] at HPU HRP
      obtain ⟨LL, hLL⟩ : ∃ LL : List (List Int), (List.range m).map (fun i => tgt l ((f : Int) + (i : Nat))) = LL := ⟨_, rfl⟩
      rw [hLL] at HRS
      have hln : LL.length = m := by rw [← hLL]; simp
      have hll : ∀ i, i < m → LL.getD i [] = tgt l ((f : Int) + (i : Nat)) := fun i hi => by rw [← hLL]; simp [List.getD_eq_getElem?_getD, hi]
      have HLN := Lib.hid hln
      have HLI := Lib.hid hll
      have HGE : Hid (∀ W, Calls Tryz.prog 20 #[.string G, .int .i64 (N : Int)] W fun e w' => ∃ rv, e = .returned (.tuple #[.agg #[.int .i64 (f : Int), rv], .nilIface]) ∧ Hid (RR w' (fun g => W.heap.size ≤ g) rv LL) ∧ Hid (Below W.heap.size W w')) := Lib.hid (fun W => (get_calls G N (by omega) (by omega) W).mono fun e w' h => by
        have h1 := h.1.out
        rw [HRS.out] at h1
        obtain ⟨rv, q1, q2⟩ := h1
        exact ⟨rv, q1, Lib.hid q2, h.2⟩)
      have HFO : Hid (∀ (W : World) (v : Int), v < (f : Int) ∨ v ≥ (f : Int) + (m : Int) → Calls Tryz.prog 21 #[.string G, .int .i64 (N : Int), .int .i64 v] W fun e w' => e = .returned (.tuple #[.slice none 0 0, noV 2]) ∧ Hid (Below W.heap.size W w')) := Lib.hid (fun W v hv => (find_calls G N v (by omega) (by omega) W).mono fun e w' h => by
        have h1 := h.1.out
        unfold FG at h1
        rw [sought_none HRS.out v (by rw [HLN.out]; exact hv)] at h1
        exact ⟨h1, h.2⟩)
      have HDO : Hid (∀ (W : World) (v : Int), v < (f : Int) ∨ v ≥ (f : Int) + (m : Int) → Calls Tryz.prog 22 #[.string G, .int .i64 (N : Int), .int .i64 v] W fun e w' => e = .returned (.tuple #[.int .i64 0, noV 2]) ∧ Hid (Below W.heap.size W w')) := Lib.hid (fun W v hv => (sdegree_calls G N v (by omega) (by omega) W).mono fun e w' h => by
        have h1 := h.1
        unfold DG at h1
        rw [sought_none HRS.out v (by rw [HLN.out]; exact hv)] at h1
        exact ⟨h1, h.2⟩)
      have HFI : Hid (∀ (W : World) (i : Nat), i < m → Calls Tryz.prog 21 #[.string G, .int .i64 (N : Int), .int .i64 ((f : Int) + (i : Nat))] W fun e w' => ∃ u, e = .returned (.tuple #[u, .nilIface]) ∧ Hid (OJ w' W.heap.size u (tgt l ((f : Int) + (i : Nat)))) ∧ Hid (Below W.heap.size W w')) := Lib.hid (fun W i hi => (find_calls G N _ (by omega) (by omega) W).mono fun e w' h => by
        have h1 := h.1.out
        obtain ⟨at_, nx, q0, q1, q2⟩ := sought_ok HRS.out i (by rw [HLN.out]; exact hi)
        unfold FG at h1
        rw [q1] at h1
        simp only at h1
        rw [q2, HLI.out i hi] at h1
        obtain ⟨u, q3, q4⟩ := h1
        exact ⟨u, q3, Lib.hid q4, h.2⟩)
      have HDI : Hid (∀ (W : World) (i : Nat), i < m → Calls Tryz.prog 22 #[.string G, .int .i64 (N : Int), .int .i64 ((f : Int) + (i : Nat))] W fun e w' => e = .returned (.tuple #[.int .i64 ((tgt l ((f : Int) + (i : Nat))).length : Int), .nilIface]) ∧ Hid (Below W.heap.size W w')) := Lib.hid (fun W i hi => (sdegree_calls G N _ (by omega) (by omega) W).mono fun e w' h => by
        have h1 := h.1
        obtain ⟨at_, nx, q0, q1, q2⟩ := sought_ok HRS.out i (by rw [HLN.out]; exact hi)
        obtain ⟨nx2, q5⟩ := row_cnt q0 q2
        unfold DG at h1
        rw [q1] at h1
        simp only at h1
        rw [q5, HLI.out i hi] at h1
        exact ⟨h1, h.2⟩)
      have HTA : Hid (∀ W, Below w4.heap.size w4 W → ∀ z : Int, Calls Tryz.prog 23 #[.slice A4 n4 c4, .int .i64 z] W fun e w' => ∃ v', e = .returned v' ∧ Hid (OJ w' W.heap.size v' (tgt l z)) ∧ Hid (Below W.heap.size W w')) := Lib.hid (fun W hW z => rtargets_calls g4 _ l z W (HE4.out.later hW) HLL.out)
      have HTB : Hid (∀ z : Int, (tgt l z).length ≤ 1000000) := Lib.hid (fun z => by rw [tgt_len]; exact Nat.le_trans (deg_le l z) HLL.out)
      clear hbad hG hgz hLL hln hll
      have HB44 : Hid (Below w4.heap.size w4 w4) := Lib.hid (Below.refl _ _)
      go_upto_region 11 with (go_at_call 19; refine HPU.out.mono ?_; rintro e w5 ⟨rfl, HBx⟩; have HB44 := HBx; clear HBx)
      clear ha1 ha2 hb1 hb2
      go_upto_region 13 with (fail)
      go_upto_region 15 with (first
        | (go_at_call 17; refine (HRP.out _ HB44.out).mono ?_; rintro e w6 ⟨rfl, HBx⟩; have HB44 := Lib.hid (HB44.out.trans (HBx.out.mono HB44.out.size)); clear HBx))
      go_upto_region 16 with (go_at_call 20; refine (HGE.out _).mono ?_; rintro e w7 ⟨rv, rfl, HRR, HBx⟩; have HB7 := HBx; have HB44 := Lib.hid (HB44.out.trans (HBx.out.mono HB44.out.size)); clear HBx; obtain ⟨rA, rc, hrv, -⟩ := HRR.out.shape; rw [HLN.out] at hrv; subst hrv)
      have hW0 := heap_alloc_new w7 (.cells #[.int .i64 (f : Int), .slice rA m rc] 50)
      have hbw : Below w4.heap.size w4 (w7.alloc (.cells #[.int .i64 (f : Int), .slice rA m rc] 50)) := HB44.out.alloc HB44.out.size _
      have hrr := HRR.out.later ((Below.refl w7.heap.size w7).alloc (Nat.le_refl _) (.cells #[.int .i64 (f : Int), .slice rA m rc] 50))
      generalize w7.alloc (.cells #[.int .i64 (f : Int), .slice rA m rc] 50) = W at *
      generalize w7.heap.size = xb at *
      have HX := Lib.hid hW0
      have HB4W := Lib.hid hbw
      have HRW := Lib.hid hrr
      have HBWW := Lib.hid (HBW.out.trans (HB4W.out.mono HBW.out.size))
      have d2 : W.cell? ⟨xb, 0, none⟩ = some (.int .i64 (f : Int)) := cell_of_row W xb 0 _ _ _ hW0
      have d3 : W.cell? ⟨xb, 1, none⟩ = some (.slice rA m rc) := cell_of_row W xb 1 _ _ _ hW0
      have HXQ : Hid (∀ X, Below W.heap.size W X → X.cell? ⟨xb, 1, none⟩ = some (.slice rA m rc)) := Lib.hid (fun X h => (h.cell (p := ⟨xb, 1, none⟩) (World.block_lt_of_cell? _ _ d3)).trans d3)
      have HBF : Hid (∀ X, Below W.heap.size W X → Below w.heap.size w X) := Lib.hid (fun X h => HBWW.out.trans (h.mono HBWW.out.size))
      have HB4F : Hid (∀ X, Below W.heap.size W X → Below w4.heap.size w4 X) := Lib.hid (fun X h => HB4W.out.trans (h.mono HB4W.out.size))
      clear hW0 hbw hrr HRR HB7 HB44 HPU HRP HGE
      go_upto_region 19 with (fail)
      clear d2 d3
      go_loopw [16] (fun x wz => ∃ v : Nat, x = .int .i64 (v : Int) ∧ v ≤ N ∧ Hid (Below W.heap.size W wz)) (fun x _ => N - (intOf x).toNat)
      case atStart => exact ⟨0, rfl, Nat.zero_le _, Lib.hid (Below.refl _ _)⟩
      case round =>
        obtain ⟨v, rfl, hv, HK⟩ := hrel
        by_cases hlt : v < N
        · have i1 : (v : Int) < (N : Int) := by omega
          by_cases hlo : v < f
          · have i2 : (v : Int) < (f : Int) := by omega
            go_wp2_with (first
              | (go_at_call 21; refine (HFO.out _ _ (by omega)).mono ?_; rintro e w8 ⟨rfl, HBx⟩; have HK := Lib.hid (HK.out.trans (HBx.out.mono HK.out.size)); clear HBx)
              | (go_at_call 22; refine (HDO.out _ _ (by omega)).mono ?_; rintro e w8 ⟨rfl, HBx⟩; have HK := Lib.hid (HK.out.trans (HBx.out.mono HK.out.size)); clear HBx)
              | (go_at_call 12; refine (HC2.out _ (HBF.out _ HK.out)).mono ?_; rintro e w9 ⟨rfl, HBx⟩; have HK := Lib.hid (HK.out.trans (HBx.out.mono HK.out.size)); clear HBx))
            go_roundw
            case rel => exact ⟨v + 1, by go_num, by omega, HK⟩
            case measure => simp [intOf]; omega
          · have i2 : ¬ (v : Int) < (f : Int) := by omega
            by_cases hhi : v ≥ f + m
            · have i3 : (v : Int) ≥ (f : Int) + (m : Int) := by omega
              go_wp2_with (first
                | (go_at_call 21; refine (HFO.out _ _ (by omega)).mono ?_; rintro e w8 ⟨rfl, HBx⟩; have HK := Lib.hid (HK.out.trans (HBx.out.mono HK.out.size)); clear HBx)
                | (go_at_call 22; refine (HDO.out _ _ (by omega)).mono ?_; rintro e w8 ⟨rfl, HBx⟩; have HK := Lib.hid (HK.out.trans (HBx.out.mono HK.out.size)); clear HBx)
                | (go_at_call 12; refine (HC2.out _ (HBF.out _ HK.out)).mono ?_; rintro e w9 ⟨rfl, HBx⟩; have HK := Lib.hid (HK.out.trans (HBx.out.mono HK.out.size)); clear HBx))
              go_roundw
              case rel => exact ⟨v + 1, by go_num, by omega, HK⟩
              case measure => simp [intOf]; omega
            · have i3 : ¬ (v : Int) ≥ (f : Int) + (m : Int) := by omega
              obtain ⟨i, hi⟩ : ∃ i, v - f = i := ⟨_, rfl⟩
              have him : i < m := by omega
              have hvi : (v : Int) = (f : Int) + (i : Nat) := by omega
              have HF1 := Lib.hid (fun X => HFI.out X i him)
              have HD1 := Lib.hid (fun X => HDI.out X i him)
              have HT1 := Lib.hid (fun X h => HTA.out X h (v : Int))
              have htb := HTB.out (v : Int)
              obtain ⟨gv, ov, t, gt, hA, -, -, hct, hj, -⟩ := rr_row HRW.out (k := i) (by rw [HLN.out]; exact him)
              subst hA
              rw [HLI.out i him] at hj
              rw [← hvi] at hj HF1 HD1
              obtain ⟨T, hT⟩ : ∃ T, tgt l (v : Int) = T := ⟨_, rfl⟩
              rw [hT] at hj HF1 HD1 HT1 htb
              obtain ⟨tA, tc, ht, -⟩ := id hj.form
              obtain ⟨tn, htn⟩ : ∃ tn, T.length = tn := ⟨_, rfl⟩
              rw [htn] at ht HD1 htb
              subst ht
              have HTN := Lib.hid htn
              have HJT := Lib.hid hj
              have HIN : Hid (∀ (X : World) (g1 g2 : Nat) (v1 v2 : Value), JR X g1 v1 T → JR X g2 v2 T → Calls Tryz.prog 24 #[v1, v2] X fun e w' => e = .returned (.bool true) ∧ Hid (Below X.heap.size X w')) := Lib.hid (fun X g1 g2 v1 v2 h1 h2 => (ints_b g1 g2 v1 v2 T T X h1 h2).mono fun e w' h => ⟨h.1.trans (by simp), h.2⟩)
              have HCQ : Hid (∀ X, Below W.heap.size W X → X.cell? ⟨xb, 1, none⟩ = some (.slice (some ⟨gv, ov, none⟩) m rc) ∧ X.cell? ⟨gv, ov + i, none⟩ = some (.slice tA tn tc)) := Lib.hid (fun X h => ⟨HXQ.out X h, (h.cell (p := ⟨gv, ov + i, none⟩) (World.block_lt_of_cell? _ _ hct)).trans hct⟩)
              have ev : (v : Int) - (f : Int) = (i : Int) := by omega
              have j1 : (i : Int) < (m : Int) := by omega
              clear hct hj hT htn hi hvi
              go_upto_region 27 with (first
                | (go_at_call 21; refine (HF1.out _).mono ?_; rintro e w8 ⟨u8, rfl, HO8, HBx⟩; have HK := Lib.hid (HK.out.trans (HBx.out.mono HK.out.size)); clear HBx; have HU8 : Hid (Below w8.heap.size w8 w8) := Lib.hid (Below.refl _ _))
                | (go_at_call 22; refine (HD1.out _).mono ?_; rintro e w9 ⟨rfl, HBx⟩; have HK := Lib.hid (HK.out.trans (HBx.out.mono HK.out.size)); have HU8 := Lib.hid (HU8.out.trans (HBx.out.mono HU8.out.size)); clear HBx)
                | (go_at_call 23; refine (HT1.out _ (HB4F.out _ HK.out)).mono ?_; rintro e w10 ⟨u10, rfl, HO10, HBx⟩; have HK := Lib.hid (HK.out.trans (HBx.out.mono HK.out.size)); have HU8 := Lib.hid (HU8.out.trans (HBx.out.mono HU8.out.size)); clear HBx))
              obtain ⟨g8, hg8, -⟩ := (HO8.out.later HU8.out).reads
              obtain ⟨g10, hg10, -⟩ := HO10.out.reads
              obtain ⟨A8, c8, hu8, -⟩ := id HO8.out.shape
              obtain ⟨A10, c10, hu10, -⟩ := id HO10.out.shape
              rw [HTN.out] at hu8 hu10
              subst hu8 hu10
              have HJ8 := Lib.hid hg8
              have HJ10 := Lib.hid hg10
              have HK10 : Hid (Below w10.heap.size w10 w10) := Lib.hid (Below.refl _ _)
              have HCQ2 : Hid (∀ X, Below w10.heap.size w10 X → Below W.heap.size W X) := Lib.hid (fun X h => HK.out.trans (h.mono HK.out.size))
              clear hg8 hg10 HO8 HO10 HU8
              go_wp2_with (first
                | (go_at_call 24; (with_reducible show Calls Tryz.prog 24 #[.slice A8 tn c8, .slice A10 tn c10] _ _); refine (HIN.out _ g8 g10 _ _ HJ8.out HJ10.out).mono ?_; rintro e w11 ⟨rfl, HB11⟩; obtain ⟨z1, z2⟩ := HCQ.out _ (HCQ2.out _ HB11.out))
                | (go_at_call 24; refine (HIN.out _ gt g10 _ _ (HJT.out.later (HCQ2.out _ HB11.out)) (HJ10.out.later HB11.out)).mono ?_; rintro e w12 ⟨rfl, HB12⟩))
              go_roundw
              case rel => exact ⟨v + 1, by go_num, by omega, Lib.hid (HCQ2.out _ (HB11.out.trans (HB12.out.mono HB11.out.size)))⟩
              case measure => simp [intOf]; omega
        · obtain rfl : N = v := by omega
          have i1 : ¬ (N : Int) < (N : Int) := by omega
          go_wp2_with (first
            | (go_at_call 19; refine (HNP.out _).mono ?_; rintro e w8 ⟨rfl, rfl⟩)
            | (go_at_call 12; refine (HC1.out _ (HBF.out _ HK.out)).mono ?_; rintro e w9 ⟨rfl, HBx⟩))
          go_ret
          exact ⟨rfl, Lib.hid (HBF.out _ (HK.out.trans (HBx.out.mono HK.out.size)))⟩
theorem puts_row (n : Int) (g : Nat) (v : Value) (l : List E2) (a b : Int) (w : World) (hG : Er.G0 w) (hn : (Lit.int .i64 n).wf = true) (hr : ER w g v l) (hb : ∀ e ∈ l, (-9223372036854775808 ≤ e.1 ∧ e.1 < 9223372036854775808) ∧ (-9223372036854775808 ≤ e.2 ∧ e.2 < 9223372036854775808))
    (h0 : (Lit.int .i64 a).wf = true) (h1 : (Lit.int .i64 b).wf = true) :
    Calls Tryz.prog 4 #[.int .i64 n, v, .agg #[.int .i64 a, .int .i64 b]] w fun e w' => e = .returned (.bool true) ∧ Below w.heap.size w w' := by
  obtain ⟨A, c, rfl, -⟩ := er_form hr
  have q : ∀ a : Int, (Lit.int .i64 a).wf = true → -9223372036854775808 ≤ a ∧ a < 9223372036854775808 := fun a h => by
    simp [Lit.wf, IntKind.min, IntKind.max, IntKind.signed, IntKind.bits] at h; omega
  exact (puts_walk n g A l.length c l a b w hG hr rfl (q a h0) (q b h1)).mono fun _ _ h => ⟨h.1, h.2.out⟩
end Go.Proofs.YtjokfllldcjheaaGreatDoor.Oc
