/- WantAll, walked. -/
import Derived.Test.YthnpaiobjmneaaaWx
namespace Go.Proofs.Ythnpaiobjmneaaa.Wa
open Go.RowKit Go.Maps
set_option linter.unusedVariables false
set_option linter.unusedSimpArgs false

theorem next_or (k : Nat) (t now : Int) (M A : List Int) (T : Int → Int) : (∃ i, nextF k t M A T now = (ins i A, upd T i (heldI now + t), i, true) ∧ A.length < k ∧ nxt M A = some i) ∨ (nextF k t M A T now = (A, T, 0, false) ∧ (k ≤ A.length ∨ nxt M A = none)) := by
  unfold nextF
  by_cases h1 : (k : Int) ≤ A.length
  · exact .inr ⟨by rw [if_pos h1], .inl (by omega)⟩
  · rw [if_neg h1]
    cases hn : nxt M A with
    | none => exact .inr ⟨rfl, .inr rfl⟩
    | some i => exact .inl ⟨i, rfl, by omega, rfl⟩
set_option maxHeartbeats 4000000 in
set_option maxRecDepth 100000 in
theorem all_walk (many window : Nat) (A2 : Option Addr) (lc c2 : Nat) (cs : List Bool) (w : World) (hm : many < 256) (hw : window < 256) (ht : Sha.TR w (.slice A2 lc c2) cs) :
    Calls Try.prog 4 #[.int .u8 (many : Int), .int .u8 (window : Int), .slice A2 lc c2] w fun e w' => e = .returned (.bool true) ∧ Hid (Below w.heap.size w w') := by
  obtain ⟨n, hn1⟩ : ∃ n, n = many % 60 := ⟨_, rfl⟩
  obtain ⟨k, hk1⟩ : ∃ k, k = 1 + window % 64 := ⟨_, rfl⟩
  have q1 : (many : Int) % 60 = (n : Int) := by omega
  have q2 : 1 + (window : Int) % 64 = (k : Int) := by omega
  have n60 : n < 60 := by omega
  have k64 : k ≤ 64 := by omega
  have k1 : 1 ≤ k := by omega
  have hlc : lc = cs.length ∧ lc ≤ c2 ∧ c2 ≤ 9223372036854775807 := by
    obtain ⟨A, c, hv, h1, h2, _⟩ := ht
    injection hv with _ h3 h4
    subst h3 h4
    exact ⟨rfl, h1, h2⟩
  have HT := Lib.hid ht
  have HLC := Lib.hid hlc.1
  have hlc2 : lc ≤ 9223372036854775807 := by omega
  clear hn1 hk1 ht hlc
  by_cases hbig : 300 < lc
  · have hb : (300 : Int) < (lc : Int) := by omega
    go_enter Try.func4, Try.ntmps4
    go_wp2_with (go_at_call 12; refine (awake_calls _).mono ?_; rintro e w1 ⟨rfl, HB⟩)
    go_ret
    exact ⟨rfl, HB⟩
  · have hb : ¬ (300 : Int) < (lc : Int) := by omega
    have hb2 : (lc : Int) ≤ 300 := by omega
    have HJ : Hid (∀ W, JR W 0 (.slice none 0 0) []) := Lib.hid (fun W => ⟨none, 0, 0, rfl, Nat.le_refl _, by omega, fun h => by simp at h⟩)
    go_enter Try.func4, Try.ntmps4
    go_upto_region 10 with (first
      | (go_at_call 12; refine (awake_calls _).mono ?_; rintro e w1 ⟨rfl, HBW⟩)
      | (go_at_call 13; refine (st_new (k : Int) 3 0 _ [] w _ HBW.out (HJ.out _) (by omega) (by omega) (by simp) (by simp)).mono ?_; rintro e W1 ⟨p, mb, ab, rfl, HS⟩))
    have HS : Hid (St w W1 p mb ab k 3 (upto 0) [] (fun _ => 0)) := HS
    clear HBW
    go_loopw [10] (fun x wz => ∃ i : Nat, x = .int .i64 (i : Int) ∧ i ≤ n ∧ Hid (St w wz p mb ab k 3 (upto i) [] (fun _ => 0))) (fun x _ => n - (intOf x).toNat)
    case atStart => exact ⟨0, rfl, by omega, HS⟩
    case round =>
      obtain ⟨i, rfl, hi, HS⟩ := hrel
      by_cases hlt : i < n
      · go_wp2_with (go_at_call 14; refine (st_add1 HS.out (i : Int) (by omega) (by omega) (by rw [upto_len]; omega)).mono ?_; rw [ins_upto]; rintro e W2 ⟨rfl, HS⟩)
        go_roundw
        case rel => exact ⟨i + 1, by go_num, by omega, HS⟩
        case measure => simp [intOf]; omega
      · obtain rfl : n = i := by omega
        clear hlt hi
        go_upto_region 15 with (fail)
        rename World => wo
        have HI : Hid (All k 0 0 (upto n) []) := Lib.hid ⟨by simp, by simp, by rw [upto_len]; omega, by omega, by rw [upto_len]; omega, by omega⟩
        go_loopw [11, 12] (fun y x wz => ∃ (now at' : Nat) (M A : List Int) (T : Int → Int), x = .int .i64 (now : Int) ∧ y = .int .i64 (at' : Int) ∧ now ≤ 360 ∧ at' ≤ 360 * 64 ∧ Hid (St w wz p mb ab k 3 M A T) ∧ Hid (All k now at' M A)) (fun _ x _ => 400 - (intOf x).toNat)
        case atStart => exact ⟨0, 0, _, _, _, rfl, rfl, by omega, by omega, HS, HI⟩
        case round =>
          obtain ⟨now, at', M, A, T, rfl, rfl, hnow, hat, HS, HI⟩ := hrel
          have hml := HI.out.few
          have hal := HI.out.full
          by_cases hM : M = []
          · subst hM
            obtain rfl := HI.out.done
            clear hml hal HI
            go_wp2_with (first
              | (go_at_call 18; refine (st_missing HS.out (by simp)).mono ?_; rintro e W8 ⟨a4, c4, rfl, HS, -⟩)
              | (go_at_call 17; refine (st_asked HS.out (by simp)).mono ?_; rintro e W8 ⟨a4, c4, rfl, HS, -⟩))
            go_ret
            exact ⟨rfl, Lib.hid HS.out.below⟩
          · obtain ⟨ml, hmlen⟩ : ∃ ml, M.length = ml := ⟨_, rfl⟩
            have hml1 : 0 < ml := by rw [← hmlen]; exact List.length_pos_iff.2 hM
            have hml2 : (0 : Int) < (ml : Int) := by omega
            have HML := Lib.hid hmlen
            have HM := Lib.hid hM
            clear hmlen hM
            go_upto_region 18 with (first
              | (go_at_call 18; refine (st_missing HS.out (by omega)).mono ?_; rw [HML.out]; rintro e W8 ⟨a4, c4, rfl, HS, -⟩)
              | (go_at_call 16; refine (st_over HS.out (now : Int) (by omega)).mono ?_; rintro e W5 ⟨a1, c1, rfl, HS, -⟩))
            have HF : Hid (Fil k M (restF T now A)) := Lib.hid ⟨fun i hi => HI.out.sub i (rest_sub _ _ _ i hi), Nat.le_trans (rest_len _ _ _) HI.out.full⟩
            generalize restF T (now : Int) A = A1 at HS HF
            rename World => wo2
            go_loopg [13] 100 (fun gg s wz => ∃ (A : List Int) (T : Int → Int), Hid (St w wz p mb ab k 3 M A T) ∧ Hid (Fil k M A) ∧ k + 1 - A.length ≤ gg)
            case atStart => exact ⟨A1, T, HS, HF, by omega⟩
            case round =>
              obtain ⟨A3, T3, HS, HF, hg3⟩ := hrel
              have ha3 := HF.out.full
              rcases next_or k 3 now M A3 T3 with ⟨i, h1, h2, h3⟩ | ⟨h1, h2⟩
              · have HN := Lib.hid h1
                have HN2 := Lib.hid (And.intro h2 h3)
                clear h1 h2 h3
                go_wp2_with (go_at_call 15; refine (st_next HS.out (now : Int) (by omega) (by omega) (by omega) (by omega)).mono ?_; rw [HN.out]; rintro e W6 ⟨rfl, HS⟩)
                go_roundg (k - A3.length)
                case measure => have := HN2.out.1; omega
                case rel =>
                  have h2 := nxt_len HN2.out.2
                  exact ⟨_, _, HS, Lib.hid (HF.out.next HN2.out.1 HN2.out.2), by rw [h2]; omega⟩
              · have HN := Lib.hid h1
                have HN2 := Lib.hid h2
                clear h1 h2
                go_upto_region 20 with (go_at_call 15; refine (st_next HS.out (now : Int) (by omega) (by omega) (by omega) (by omega)).mono ?_; rw [HN.out]; rintro e W6 ⟨rfl, HS⟩)
                have hne : 0 < A3.length := by
                  rcases HN2.out with h | h
                  · omega
                  · refine List.length_pos_iff.2 fun e => ?_
                    obtain ⟨x, hx⟩ := List.exists_mem_of_ne_nil _ HM.out
                    have := nxt_none h x hx
                    rw [e] at this
                    simp at this
                have HA : Hid (All k now at' M A3) := Lib.hid { HI.out with sub := HF.out.sub, full := HF.out.full }
                clear HI HF HN HN2 hg3
                obtain ⟨al, halen⟩ : ∃ al, A3.length = al := ⟨_, rfl⟩
                rw [halen] at hne ha3
                have HAL := Lib.hid halen
                clear halen
                go_upto_region 23 with (go_at_call 17; refine (st_asked HS.out (by rw [HAL.out]; omega)).mono ?_; rw [HAL.out]; rintro e W7 ⟨a5, c5, rfl, HS, HG⟩)
                obtain ⟨g, hjr, hg2⟩ := HG.out
                obtain ⟨gm, ga⟩ := hg2 (by intro e; have := HAL.out; rw [e] at this; simp at this; omega)
                have HJR := Lib.hid hjr
                have HASC := Lib.hid HS.out.ws.im.asc
                clear HG hjr hg2
                have HC : Hid (Com M A3 0 at' M A3) := Lib.hid (Com.start HA.out.sub at')
                rename World => wo3
                go_loopg [11, 76] 100 (fun gg y x wz => ∃ (j at2 : Nat) (M4 A4 : List Int), x = .int .i64 (j : Int) ∧ y = .int .i64 (at2 : Int) ∧ at2 = at' + j ∧ j ≤ al ∧ Hid (St w wz p mb ab k 3 M4 A4 T3) ∧ Hid (Com M A3 j at' M4 A4) ∧ Hid (JR wz g (.slice a5 al c5) A3) ∧ al - j ≤ gg)
                case atStart => exact ⟨0, at', M, A3, rfl, rfl, rfl, by omega, HS, HC, HJR, by omega⟩
                case round =>
                  obtain ⟨j, at2, M4, A4, rfl, rfl, hat2, hj, HS, HC, HJR, hgg⟩ := hrel
                  by_cases hlt : j < al
                  · obtain ⟨A', c', o', hv', -, -, hread⟩ := HJR.out
                    rw [HAL.out] at hread hv'
                    obtain ⟨rfl, hgl, hcell⟩ := hread (by omega)
                    injection hv' with hv' _ hcc
                    subst hcc hv'
                    have q5 := hcell j hlt
                    obtain ⟨i, hi⟩ : ∃ i, A3.getD j 0 = i := ⟨_, rfl⟩
                    have hin : i ∈ M4 := by rw [← hi]; exact HC.out.there j (Nat.le_refl _) (by rw [HAL.out]; exact hlt)
                    rw [hi] at q5
                    have HIN := Lib.hid hin
                    have HI := Lib.hid hi
                    have HAT := Lib.hid hat2
                    have hat3 : at2 ≤ 100000 := by omega
                    have z0 : (0 : Int) ≤ (at2 : Int) := by omega
                    clear hcell hread hi hin hat2
                    have HGOT := Lib.hid (fun W hW hJ => st_nil (v := .slice (some ⟨g, o', none⟩) al c5) (l := A3) (w := W) (w0 := w) (p := p) (mb := mb) (ab := ab) (k := k) (t := 3) (M := M4) (A := A4) (T := T3) hW i HIN.out (g := g) hJ gm ga)
                    have HC1 : Hid (Com M A3 (j + 1) at' (del i M4) (del i A4)) := Lib.hid (by rw [← HI.out]; exact HC.out.come (by rw [HAL.out]; exact hlt) HS.out.ws.bm.asc HASC.out)
                    by_cases hge : lc ≤ at2
                    · have hge' : (lc : Int) ≤ (at2 : Int) := by omega
                      go_wp2_with (go_at_call 19; refine (HGOT.out _ HS.out HJR).mono ?_; rintro e W9 ⟨rfl, HS, HJR⟩)
                      go_roundg (al - (j + 1))
                      case measure => omega
                      case rel => exact ⟨j + 1, at2 + 1, _, _, by go_num, by go_num, by rw [HAT.out]; omega, by omega, HS, HC1, HJR, by omega⟩
                    · have hge' : ¬ (lc : Int) ≤ (at2 : Int) := by omega
                      have hge2 : (at2 : Int) < (lc : Int) := by omega
                      obtain ⟨A', c', hv', -, -, hread⟩ := HT.out.later HS.out.below
                      rw [← HLC.out] at hread hv'
                      obtain ⟨ad, rfl, hcell⟩ := hread (by omega)
                      injection hv' with hv' _ hcc
                      subst hcc hv'
                      have q6 := hcell at2 (by omega)
                      clear hcell hread
                      cases hbb : cs.getD at2 false with
                      | true =>
                        rw [hbb] at q6
                        clear hbb
                        go_wp2_with (go_at_call 19; refine (HGOT.out _ HS.out HJR).mono ?_; rintro e W9 ⟨rfl, HS, HJR⟩)
                        go_roundg (al - (j + 1))
                        case measure => omega
                        case rel => exact ⟨j + 1, at2 + 1, _, _, by go_num, by go_num, by rw [HAT.out]; omega, by omega, HS, HC1, HJR, by omega⟩
                      | false =>
                        rw [hbb] at q6
                        clear hbb HGOT
                        go_wp2
                        go_roundg (al - (j + 1))
                        case measure => omega
                        case rel => exact ⟨j + 1, at2 + 1, _, _, by go_num, by go_num, by rw [HAT.out]; omega, by omega, HS, Lib.hid (HC.out.skip (by have := HAT.out; omega)), HJR, by omega⟩
                  · obtain rfl : al = j := by omega
                    have HF : Hid (All k (now + 1) at2 M4 A4) := Lib.hid (by
                      have e := HC.out
                      rw [← HAL.out] at e
                      have := e.all HA.out (by rw [HAL.out]; exact hne) (by rw [HAL.out]; omega)
                      rw [HAL.out, ← hat2] at this
                      exact this)
                    have h360 : now + 1 ≤ 360 ∧ at2 ≤ 360 * 64 := by
                      have h1 := HF.out.left
                      have h2 := HF.out.many
                      omega
                    clear hlt hj HC hgg
                    go_wp2
                    go_roundw
                    case rel => exact ⟨now + 1, at2, M4, A4, T3, by go_num, rfl, h360.1, h360.2, HS, HF⟩
                    case measure => simp [intOf]; omega
theorem all_row (a b : Int) (v : Value) (cs : List Bool) (w : World) (ha : (Lit.int .u8 a).wf = true) (hb : (Lit.int .u8 b).wf = true) (ht : Sha.TR w v cs) :
    Calls Try.prog 4 #[.int .u8 a, .int .u8 b, v] w fun e w' => e = .returned (.bool true) ∧ Below w.heap.size w w' := by
  have ha := u8_wf ha
  have hb := u8_wf hb
  obtain ⟨a', rfl⟩ := Int.eq_ofNat_of_zero_le ha.1
  obtain ⟨b', rfl⟩ := Int.eq_ofNat_of_zero_le hb.1
  have ht' := ht
  obtain ⟨A, c, rfl, _⟩ := ht'
  exact (all_walk a' b' A cs.length c cs w (by omega) (by omega) ht).mono fun _ _ h => ⟨h.1, h.2.out⟩
end Go.Proofs.Ythnpaiobjmneaaa.Wa
