/- CsrRows, walked. -/
import Derived.Test.YthnpaiobjmneaaaDoorRt
import Derived.Test.YthnpaiobjmneaaaDoorEn
import Derived.BigQuiet
namespace Go.Proofs.YthnpaiobjmneaaaDoor.Cs
open Go.RowKit Go.Proofs.YthnpaiobjmneaaaDoor.Ed Go.Proofs.YthnpaiobjmneaaaDoor.Ro
set_option linter.unusedVariables false
set_option linter.unusedSimpArgs false
set_option maxHeartbeats 4000000 in
set_option maxRecDepth 100000 in
theorem rows_walk (n : Int) (g : Nat) (A : Option Addr) (len c : Nat) (l : List E2) (v x : Int) (w : World) (hG : Er.G0 w) (hr : ER w g (.slice A len c) l) (hlen : l.length = len) :
    Calls Tryd.prog 5 #[.int .i64 n, .slice A len c, .agg #[.int .i64 v, .int .i64 x]] w fun e w' => e = .returned (.bool true) ∧ Hid (Below w.heap.size w w') := by
  have HR := Lib.hid hr
  have HL := Lib.hid hlen
  have HCO : Hid (∀ (a : Int) (W : World), Below w.heap.size w W → Calls Tryd.prog 11 #[.iface 80 (.agg #[.int .i64 a, .iface 76 (.int .i64 10)])] W fun r w' => r = .returned (.int .i64 10) ∧ Hid (Below W.heap.size W w')) := Lib.hid (fun a W h => Er.code_calls (.at a (.no 10)) W (g0_later hG h))
  have HPL : Hid (∀ (a : Int) (W : World), Below w.heap.size w W → Calls Tryd.prog 12 #[.iface 80 (.agg #[.int .i64 a, .iface 76 (.int .i64 10)])] W fun r w' => r = .returned (.int .i64 a) ∧ Hid (Below W.heap.size W w')) := Lib.hid (fun a W h => Er.place_calls (.at a (.no 10)) W (g0_later hG h))
  have HC2 : Hid (∀ (W : World), Below w.heap.size w W → Calls Tryd.prog 11 #[noV 2] W fun r w' => r = .returned (.int .i64 2) ∧ Hid (Below W.heap.size W w')) := Lib.hid (fun W h => Er.code_calls (.no 2) W (g0_later hG h))
  have HA0 : Hid (Below w.heap.size w (w.alloc (.cells #[.int .i64 v, .int .i64 x] 49))) := Lib.hid ((Below.refl _ _).alloc (Nat.le_refl _) _)
  have HA1 : Hid ((w.alloc (.cells #[.int .i64 v, .int .i64 x] 49)).heap[w.heap.size]? = some (.cells #[.int .i64 v, .int .i64 x] 49 (0, 0))) := Lib.hid (heap_alloc_new w _)
  have HAS : Hid ((w.alloc (.cells #[.int .i64 v, .int .i64 x] 49)).heap.size = w.heap.size + 1) := Lib.hid (by simp)
  clear hr hlen hG
  go_enter Tryd.func5, Tryd.ntmps5
  go_upto_region 3 with (go_at_call 23; refine (awake_calls _).mono ?_; rintro e w1 ⟨rfl, HB⟩)
  have hblk : w1.heap[w.heap.size]? = some (.cells #[.int .i64 v, .int .i64 x] 49 (0, 0)) := by
    rw [HB.out.block _ (by rw [HAS.out]; omega)]; exact HA1.out
  have c0 : w1.cell? ⟨w.heap.size, 0, none⟩ = some (.int .i64 v) := cell_of_row w1 _ 0 _ _ _ hblk
  have c1 : w1.cell? ⟨w.heap.size, 1, none⟩ = some (.int .i64 x) := cell_of_row w1 _ 1 _ _ _ hblk
  have HZ1 := Lib.hid (HA0.out.trans (HB.out.mono HA0.out.size))
  clear hblk HA0 HA1 HAS HB
  go_quiet (fail)
  have HZ : Hid (Below w.heap.size w (w1.drewN nq)) := Lib.hid (HZ1.out.trans (Ed.drewN_below _ _ _))
  clear c0 c1 HZ1
  generalize w1.drewN nq = w2 at HZ ⊢
  by_cases hbig : 200 < len
  · have hb : (200 : Int) < (len : Int) := by omega
    go_wp2
    go_ret
    exact ⟨rfl, HZ⟩
  have hb : ¬ (200 : Int) < (len : Int) := by omega
  have HLN : Hid (l.length ≤ 1000000) := Lib.hid (by rw [HL.out]; omega)
  by_cases hw : wrg n l = -2
  case neg =>
    obtain ⟨a, ha⟩ : ∃ a, wrg n l = a := ⟨_, rfl⟩
    have hane : a ≠ -2 := by rw [← ha]; exact hw
    have hab : (a != -2) = true := by simpa using hane
    have HBD : Hid (∀ W : World, Below w.heap.size w W → Calls Tryd.prog 24 #[.int .i64 n, .slice A len c] W fun e w' => e = .returned (.tuple #[.pointer none, .iface 80 (.agg #[.int .i64 a, .iface 76 (.int .i64 10)])]) ∧ Hid (Below W.heap.size W w')) := Lib.hid (fun W h => by
      have := build_bad n g _ l W (HR.out.later h) HLN.out hw
      rw [ha] at this; exact this)
    have HWR : Hid (∀ W : World, Below w.heap.size w W → Calls Tryd.prog 14 #[.int .i64 n, .slice A len c] W fun e w' => e = .returned (.int .i64 a) ∧ W = w') := Lib.hid (fun W h => by
      have := rwrong_calls n g _ l W (HR.out.later h) HLN.out
      rw [ha] at this; exact this)
    clear hw ha
    go_wp2_with (first
      | (go_at_call 24; refine (HBD.out _ HZ.out).mono ?_; rintro e w3 ⟨rfl, HBx⟩; have HZ := Lib.hid (HZ.out.trans (HBx.out.mono HZ.out.size)); clear HBx)
      | (go_at_call 14; refine (HWR.out _ HZ.out).mono ?_; rintro e w3' ⟨rfl, rfl⟩)
      | (go_at_call 11; refine (HCO.out _ _ HZ.out).mono ?_; rintro e w4 ⟨rfl, HBx⟩; have HZ := Lib.hid (HZ.out.trans (HBx.out.mono HZ.out.size)); clear HBx)
      | (go_at_call 12; refine (HPL.out _ _ HZ.out).mono ?_; rintro e w5 ⟨rfl, HBx⟩; have HZ := Lib.hid (HZ.out.trans (HBx.out.mono HZ.out.size)); clear HBx))
    go_ret
    exact ⟨rfl, HZ⟩
  case pos =>
    obtain ⟨n0, n1, -, -⟩ := wrg_ok.1 hw
    obtain ⟨N, rfl⟩ := Int.eq_ofNat_of_zero_le n0
    have HBD : Hid (∀ W : World, Below w.heap.size w W → Calls Tryd.prog 24 #[.int .i64 (N : Int), .slice A len c] W fun e w' => ∃ p bb tv, e = .returned (.tuple #[pV p, .nilIface]) ∧ Hid (CS w' W.heap.size p bb tv N (nrm l)) ∧ Hid (Below W.heap.size W w')) := Lib.hid (fun W h => build_ok N g _ l W (HR.out.later h) HLN.out hw)
    have HWR : Hid (∀ W : World, Below w.heap.size w W → Calls Tryd.prog 14 #[.int .i64 (N : Int), .slice A len c] W fun e w' => e = .returned (.int .i64 (-2)) ∧ W = w') := Lib.hid (fun W h => by
      have := rwrong_calls (N : Int) g _ l W (HR.out.later h) HLN.out
      rw [hw] at this; exact this)
    have HRN : Hid (∀ W : World, Below w.heap.size w W → Calls Tryd.prog 16 #[.slice A len c] W fun e w' => ∃ v', e = .returned v' ∧ Hid (EO w' W.heap.size v' (nrm l)) ∧ Hid (Below W.heap.size W w')) := Lib.hid (fun W h => rnorm_calls g _ l W (HR.out.later h) (by rw [HL.out]; omega))
    have HML : Hid ((nrm l).length ≤ 1000000) := Lib.hid (Nat.le_trans (nrm_len l) HLN.out)
    have nn : (N : Int) ≤ 4096 := n1
    clear hw n0 n1
    generalize nrm l = m at HBD HRN HML
    have HSM : Hid (∀ (W : World) (g1 g2 : Nat) (v1 v2 : Value), ER W g1 v1 m → ER W g2 v2 m → Calls Tryd.prog 15 #[v1, v2] W fun e w' => e = .returned (.bool true) ∧ Hid (Below W.heap.size W w')) := Lib.hid (fun W g1 g2 v1 v2 h1 h2 => by
      have := rsame_b g1 g2 v1 v2 _ _ W h1 h2
      rw [decide_eq_true (p := m = m) rfl] at this; exact this)
    go_upto_region 13 with (first
      | (go_at_call 24; refine (HBD.out _ HZ.out).mono ?_; rintro e w3 ⟨p, bb, tv, rfl, HC, HB3⟩; have HZ3 := Lib.hid (HZ.out.trans (HB3.out.mono HZ.out.size)); have HT : Hid (Below w3.heap.size w3 w3) := Lib.hid (Below.refl _ _); clear HB3)
      | (go_at_call 14; refine (HWR.out _ HZ3.out).mono ?_; rintro e w3' ⟨rfl, rfl⟩)
      | (go_at_call 16; refine (HRN.out _ HZ3.out).mono ?_; rintro e w4 ⟨v4, rfl, HO4, HBx⟩; have HT := Lib.hid (HT.out.trans (HBx.out.mono HT.out.size)); clear HBx; obtain ⟨g4, hg4, -⟩ := HO4.out.reads; have HE4 := Lib.hid hg4; clear hg4; obtain ⟨A4, c4, rfl, -, -⟩ := id HO4.out.shape; obtain ⟨n4, hn4⟩ : ∃ k, m.length = k := ⟨_, rfl⟩; rw [hn4] at HE4 HO4 ⊢; have HN4 := Lib.hid hn4; clear hn4)
      | (go_at_call 25; refine (nodes_calls (HC.out.later HT.out)).mono ?_; rintro e w4' ⟨rfl, rfl⟩)
      | (go_at_call 26; refine (edges_calls (HC.out.later HT.out)).mono ?_; rw [HN4.out]; rintro e w4' ⟨rfl, rfl⟩)
      | (go_at_call 27; refine (list_calls (HC.out.later HT.out)).mono ?_; rintro e w5 ⟨v5, rfl, HO5, HBx⟩; have HB5 := HBx; have HT := Lib.hid (HT.out.trans (HBx.out.mono HT.out.size)); clear HBx; obtain ⟨g5, hg5, -⟩ := HO5.out.reads; have HE5 := Lib.hid hg5; clear hg5)
      | (go_at_call 15; refine (HSM.out _ g5 g4 _ _ HE5.out (HE4.out.later HB5.out)).mono ?_; rintro e w6 ⟨rfl, HBx⟩; have HB6 := HBx; have HT := Lib.hid (HT.out.trans (HBx.out.mono HT.out.size)); clear HBx))
    have HC6 := Lib.hid (HC.out.later HT.out)
    have HE6 := Lib.hid ((HE4.out.later HB5.out).later HB6.out)
    have HZ6 := Lib.hid (HZ3.out.trans (HT.out.mono HZ3.out.size))
    have HU : Hid (Below w6.heap.size w6 w6) := Lib.hid (Below.refl _ _)
    clear HO4 HO5 HE4 HE5 HB5 HB6
    by_cases hin : 0 ≤ v ∧ v < (N : Int)
    case neg =>
      have hvo : v < 0 ∨ (N : Int) ≤ v := by omega
      clear hin
      by_cases hv0 : v < 0
      · have hvb : v < 0 ∨ (N : Int) < v := by omega
        go_wp2_with (first
        | (go_at_call 28; refine (targets_out (HC6.out.later HU.out) v hvo).mono ?_; rintro e w7 ⟨rfl, HBx⟩; have HU := Lib.hid (HU.out.trans (HBx.out.mono HU.out.size)); clear HBx)
        | (go_at_call 29; refine (cdegree_out (HC6.out.later HU.out) v hvo).mono ?_; rintro e w8 ⟨rfl, rfl⟩)
        | (go_at_call 11; refine (HC2.out _ (HZ6.out.trans (HU.out.mono HZ6.out.size))).mono ?_; rintro e w9 ⟨rfl, HBx⟩; have HU := Lib.hid (HU.out.trans (HBx.out.mono HU.out.size)); clear HBx)
        | (go_at_call 30; refine (has_out (HC6.out.later HU.out) v hvo x).mono ?_; rintro e w10 ⟨rfl, HBx⟩; have HU := Lib.hid (HU.out.trans (HBx.out.mono HU.out.size)); clear HBx)
        | (go_at_call 34; refine (begin_out (HC6.out.later HU.out) v hvb).mono ?_; rintro e w11 ⟨rfl, rfl⟩)
        | (go_at_call 35; refine (rbegin_calls g4 _ m _ _ (HE6.out.later HU.out) HML.out).mono ?_; rintro e w12 ⟨rfl, rfl⟩))
        go_ret
        exact ⟨rfl, Lib.hid ((HZ3.out.trans (HT.out.mono HZ3.out.size)).trans (HU.out.mono (HZ3.out.trans (HT.out.mono HZ3.out.size)).size))⟩
      have hv1 : v ≥ (N : Int) := by omega
      by_cases hv2 : v > (N : Int)
      · have hvb : v < 0 ∨ (N : Int) < v := by omega
        go_wp2_with (first
        | (go_at_call 28; refine (targets_out (HC6.out.later HU.out) v hvo).mono ?_; rintro e w7 ⟨rfl, HBx⟩; have HU := Lib.hid (HU.out.trans (HBx.out.mono HU.out.size)); clear HBx)
        | (go_at_call 29; refine (cdegree_out (HC6.out.later HU.out) v hvo).mono ?_; rintro e w8 ⟨rfl, rfl⟩)
        | (go_at_call 11; refine (HC2.out _ (HZ6.out.trans (HU.out.mono HZ6.out.size))).mono ?_; rintro e w9 ⟨rfl, HBx⟩; have HU := Lib.hid (HU.out.trans (HBx.out.mono HU.out.size)); clear HBx)
        | (go_at_call 30; refine (has_out (HC6.out.later HU.out) v hvo x).mono ?_; rintro e w10 ⟨rfl, HBx⟩; have HU := Lib.hid (HU.out.trans (HBx.out.mono HU.out.size)); clear HBx)
        | (go_at_call 34; refine (begin_out (HC6.out.later HU.out) v hvb).mono ?_; rintro e w11 ⟨rfl, rfl⟩)
        | (go_at_call 35; refine (rbegin_calls g4 _ m _ _ (HE6.out.later HU.out) HML.out).mono ?_; rintro e w12 ⟨rfl, rfl⟩))
        go_ret
        exact ⟨rfl, Lib.hid ((HZ3.out.trans (HT.out.mono HZ3.out.size)).trans (HU.out.mono (HZ3.out.trans (HT.out.mono HZ3.out.size)).size))⟩
      obtain rfl : v = (N : Int) := by omega
      go_wp2_with (first
        | (go_at_call 28; refine (targets_out (HC6.out.later HU.out) (N : Int) hvo).mono ?_; rintro e w7 ⟨rfl, HBx⟩; have HU := Lib.hid (HU.out.trans (HBx.out.mono HU.out.size)); clear HBx)
        | (go_at_call 29; refine (cdegree_out (HC6.out.later HU.out) (N : Int) hvo).mono ?_; rintro e w8 ⟨rfl, rfl⟩)
        | (go_at_call 11; refine (HC2.out _ (HZ6.out.trans (HU.out.mono HZ6.out.size))).mono ?_; rintro e w9 ⟨rfl, HBx⟩; have HU := Lib.hid (HU.out.trans (HBx.out.mono HU.out.size)); clear HBx)
        | (go_at_call 30; refine (has_out (HC6.out.later HU.out) (N : Int) hvo x).mono ?_; rintro e w10 ⟨rfl, HBx⟩; have HU := Lib.hid (HU.out.trans (HBx.out.mono HU.out.size)); clear HBx)
        | (go_at_call 34; refine (begin_calls (HC6.out.later HU.out) N (Nat.le_refl _)).mono ?_; rintro e w11 ⟨rfl, rfl⟩)
        | (go_at_call 35; refine (rbegin_calls g4 _ m _ _ (HE6.out.later HU.out) HML.out).mono ?_; rintro e w12 ⟨rfl, rfl⟩))
      go_ret
      exact ⟨rfl, Lib.hid ((HZ3.out.trans (HT.out.mono HZ3.out.size)).trans (HU.out.mono (HZ3.out.trans (HT.out.mono HZ3.out.size)).size))⟩
    case pos =>
      obtain ⟨vn, rfl⟩ := Int.eq_ofNat_of_zero_le hin.1
      have hlt : vn < N := by omega
      have b1 : ¬ (vn : Int) < 0 := by omega
      have b2 : ¬ (vn : Int) ≥ (N : Int) := by omega
      have b3 : ¬ (vn : Int) > (N : Int) := by omega
      have HTA : Hid (∀ W : World, Below w6.heap.size w6 W → Calls Tryd.prog 28 #[pV p, .int .i64 (vn : Int)] W fun e w' => ∃ v', e = .returned (.tuple #[v', .nilIface]) ∧ Hid (OJ w' W.heap.size v' (tgt m vn)) ∧ Hid (Below W.heap.size W w')) := Lib.hid (fun W h => targets_calls (HC6.out.later h) vn hlt)
      have HRT : Hid (∀ W : World, Below w6.heap.size w6 W → Calls Tryd.prog 31 #[.slice A4 n4 c4, .int .i64 (vn : Int)] W fun e w' => ∃ v', e = .returned v' ∧ Hid (OJ w' W.heap.size v' (tgt m vn)) ∧ Hid (Below W.heap.size W w')) := Lib.hid (fun W h => rtargets_calls g4 _ m _ W (HE6.out.later h) HML.out)
      have HDG : Hid (∀ W : World, Below w6.heap.size w6 W → Calls Tryd.prog 29 #[pV p, .int .i64 (vn : Int)] W fun e w' => e = .returned (.tuple #[.int .i64 ((tgt m vn).length : Int), .nilIface]) ∧ Hid (Below W.heap.size W w')) := Lib.hid (fun W h => by rw [tgt_len]; exact cdegree_calls (HC6.out.later h) vn hlt)
      have hmem : decide (((vn : Int), x) ∈ m) = decide (x ∈ tgt m vn) := by rw [Bool.eq_iff_iff]; simp [mem_tgt]
      have HHA : Hid (∀ W : World, Below w6.heap.size w6 W → Calls Tryd.prog 30 #[pV p, .int .i64 (vn : Int), .int .i64 x] W fun e w' => e = .returned (.bool (decide (x ∈ tgt m vn))) ∧ Hid (Below W.heap.size W w')) := Lib.hid (fun W h => by rw [← hmem]; exact has_calls (HC6.out.later h) vn hlt x)
      clear hmem hin
      generalize tgt m vn = t at HTA HRT HDG HHA
      have HIN : Hid (∀ (W : World) (g1 g2 : Nat) (v1 v2 : Value), JR W g1 v1 t → JR W g2 v2 t → Calls Tryd.prog 32 #[v1, v2] W fun e w' => e = .returned (.bool true) ∧ Hid (Below W.heap.size W w')) := Lib.hid (fun W g1 g2 v1 v2 h1 h2 => by
        have := ints_b g1 g2 v1 v2 _ _ W h1 h2
        rw [decide_eq_true (p := t = t) rfl] at this; exact this)
      have HRH : Hid (∀ (W : World) (g1 : Nat) (v1 : Value), JR W g1 v1 t → Calls Tryd.prog 33 #[v1, .int .i64 x] W fun e w' => e = .returned (.bool (decide (x ∈ t))) ∧ W = w') := Lib.hid (fun W g1 v1 h1 => rhas_calls g1 v1 t x W h1)
      obtain ⟨r, hr⟩ : ∃ r, decide (x ∈ t) = r := ⟨_, rfl⟩
      rw [hr] at HHA HRH
      obtain ⟨d, hd⟩ : ∃ d, t.length = d := ⟨_, rfl⟩
      rw [hd] at HDG
      have HD := Lib.hid hd
      clear hr hd
      have HUW : Hid (∀ W, Below w6.heap.size w6 W → True) := Lib.hid (fun _ _ => trivial)
      cases r
      all_goals
        go_wp2_with (first
          | (go_at_call 28; refine (HTA.out _ HU.out).mono ?_; rintro e w7 ⟨v7, rfl, HO7, HBx⟩; have HU := Lib.hid (HU.out.trans (HBx.out.mono HU.out.size)); clear HBx; obtain ⟨g7, hg7, -⟩ := HO7.out.reads; have HJ7 := Lib.hid hg7; clear hg7; have HT7 : Hid (Below w7.heap.size w7 w7) := Lib.hid (Below.refl _ _); obtain ⟨A7, c7, rfl, -⟩ := id HO7.out.shape; rw [HD.out] at HJ7 HO7 ⊢)
          | (go_at_call 29; refine (HDG.out _ HU.out).mono ?_; rintro e w8 ⟨rfl, HBx⟩; have HT7 := Lib.hid (HT7.out.trans (HBx.out.mono HT7.out.size)); have HU := Lib.hid (HU.out.trans (HBx.out.mono HU.out.size)); clear HBx)
          | (go_at_call 31; refine (HRT.out _ HU.out).mono ?_; rintro e w9 ⟨v9, rfl, HO9, HBx⟩; have HT7 := Lib.hid (HT7.out.trans (HBx.out.mono HT7.out.size)); have HU := Lib.hid (HU.out.trans (HBx.out.mono HU.out.size)); clear HBx; obtain ⟨g9, hg9, -⟩ := HO9.out.reads; have HJ9 := Lib.hid hg9; clear hg9; have HT9 : Hid (Below w9.heap.size w9 w9) := Lib.hid (Below.refl _ _); obtain ⟨A9, c9, rfl, -⟩ := id HO9.out.shape; rw [HD.out] at HJ9 HO9 ⊢)
          | (go_at_call 32; refine (HIN.out _ g7 g9 _ _ (HJ7.out.later HT7.out) (HJ9.out.later HT9.out)).mono ?_; rintro e w10 ⟨rfl, HBx⟩; have HT9 := Lib.hid (HT9.out.trans (HBx.out.mono HT9.out.size)); have HU := Lib.hid (HU.out.trans (HBx.out.mono HU.out.size)); clear HBx)
          | (go_at_call 30; refine (HHA.out _ HU.out).mono ?_; rintro e w11 ⟨rfl, HBx⟩; have HT9 := Lib.hid (HT9.out.trans (HBx.out.mono HT9.out.size)); have HU := Lib.hid (HU.out.trans (HBx.out.mono HU.out.size)); clear HBx)
          | (go_at_call 33; refine (HRH.out _ g9 _ (HJ9.out.later HT9.out)).mono ?_; rintro e w12 ⟨rfl, rfl⟩)
          | (go_at_call 34; refine (begin_calls (HC6.out.later HU.out) vn (by omega)).mono ?_; rintro e w13 ⟨rfl, rfl⟩)
          | (go_at_call 35; refine (rbegin_calls g4 _ m _ _ (HE6.out.later HU.out) HML.out).mono ?_; rintro e w14 ⟨rfl, rfl⟩))
        go_ret
        exact ⟨rfl, Lib.hid (HZ6.out.trans (HU.out.mono HZ6.out.size))⟩
theorem rows_row (n : Int) (g : Nat) (u : Value) (l : List E2) (v x : Int) (w : World) (hG : Er.G0 w) (hn : (Lit.int .i64 n).wf = true) (hr : ER w g u l) (hb : ∀ e ∈ l, (-9223372036854775808 ≤ e.1 ∧ e.1 < 9223372036854775808) ∧ (-9223372036854775808 ≤ e.2 ∧ e.2 < 9223372036854775808))
    (hv : (Lit.int .i64 v).wf = true) (hx : (Lit.int .i64 x).wf = true) :
    Calls Tryd.prog 5 #[.int .i64 n, u, .agg #[.int .i64 v, .int .i64 x]] w fun e w' => e = .returned (.bool true) ∧ Below w.heap.size w w' := by
  obtain ⟨A, c, rfl, -⟩ := er_form hr
  exact (rows_walk n g A l.length c l v x w hG hr rfl).mono fun _ _ h => ⟨h.1, h.2.out⟩
end Go.Proofs.YthnpaiobjmneaaaDoor.Cs
