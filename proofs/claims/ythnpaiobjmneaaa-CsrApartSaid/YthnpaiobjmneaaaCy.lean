/- CsrApart, walked. -/
import Derived.Test.YthnpaiobjmneaaaCw
namespace Go.Proofs.Ythnpaiobjmneaaa.Cs
open Go.RowKit Go.Proofs.Ythnpaiobjmneaaa.Ed Go.Proofs.Ythnpaiobjmneaaa.Ro
set_option linter.unusedVariables false
set_option linter.unusedSimpArgs false

set_option maxHeartbeats 4000000 in
set_option maxRecDepth 100000 in
theorem apart_walk (n : Int) (g : Nat) (A : Option Addr) (len c : Nat) (l0 : List E2) (w : World) (hr : ER w g (.slice A len c) l0) (hlen : l0.length = len) :
    Calls Try.prog 9 #[.int .i64 n, .slice A len c] w fun e w' => e = .returned (.bool true) ∧ Hid (Below w.heap.size w w') := by
  have HR := Lib.hid hr
  have HL := Lib.hid hlen
  have hc : len ≤ c ∧ c ≤ 9223372036854775807 := by
    obtain ⟨A', c', hv, h1, h2⟩ := er_form hr
    injection hv with _ _ hv
    subst hv
    rw [hlen] at h1
    exact ⟨h1, h2⟩
  obtain ⟨hc1, hc2⟩ := hc
  clear hr hlen
  by_cases hbig : 200 < len
  · have hb : (200 : Int) < (len : Int) := by omega
    go_enter Try.func9, Try.ntmps9
    go_wp2_with (go_at_call 33; refine (awake_calls _).mono ?_; rintro e w1 ⟨rfl, HB⟩)
    go_ret
    exact ⟨rfl, HB⟩
  · have hb : ¬ (200 : Int) < (len : Int) := by omega
    by_cases hw : wrg n l0 = -2
    · obtain ⟨n0, n1, -, -⟩ := wrg_ok.1 hw
      obtain ⟨N, rfl⟩ := Int.eq_ofNat_of_zero_le n0
      have HW := Lib.hid hw
      have nn : N ≤ 4096 := by omega
      clear hw n0 n1
      go_enter Try.func9, Try.ntmps9
      go_upto_region 11 with (first
        | (go_at_call 33; refine (awake_calls _).mono ?_; rintro e w1 ⟨rfl, HB⟩)
        | (at_builtin; refine EO.append_on (base := w1.heap.size) (EO.fresh w1 w1.heap.size (Nat.le_refl _)) ((HR.out.later HB.out).alloc _) rfl _ _ rfl rfl rfl (by simp) (by rw [HL.out]; simp; omega) ?_; intro v2 w2 k1 k2 k3; rw [List.nil_append] at k1; have HO := Lib.hid k1; have HB2 : Hid (Below w1.heap.size w1 w2) := Lib.hid (((Below.refl _ w1).alloc (Nat.le_refl _) _).grown k2 (by simp) (fun k hk => by simp [Value.ownBlock] at hk; omega)); obtain ⟨A2, c2, rfl, -, -⟩ := id k1.shape; obtain ⟨g2, hg2, -⟩ := k1.reads; have HE2 := Lib.hid hg2; rw [HL.out] at HO HE2 ⊢; clear k1 k2 k3 hg2)
        | (go_at_call 34; refine (build_ok N _ _ l0 _ HE2.out (by rw [HL.out]; omega) HW.out).mono ?_; rintro e w3 ⟨p, bb, tv, rfl, HC, HB3⟩)
        | (go_at_call 35; refine (list_calls HC.out).mono ?_; rintro e w4 ⟨v4, rfl, HO4, HB4⟩; obtain ⟨A4, c4, rfl, -, -⟩ := id HO4.out.shape))
      have hnl := nrm_len l0
      obtain ⟨l, hl⟩ : ∃ l, nrm l0 = l := ⟨_, rfl⟩
      rw [hl] at HC HO4 hnl
      rw [hl]
      have hl200 : l.length ≤ 200 := by rw [HL.out] at hnl; omega
      have hz12 := HB2.out.size
      have hz23 := HB3.out.size
      have hz34 := HB4.out.size
      have HC4 := Lib.hid (HC.out.later HB4.out)
      have HO5 := Lib.hid ((HO.out.later HB3.out).later HB4.out)
      have HB14 := Lib.hid ((HB2.out.trans (HB3.out.mono hz12)).trans (HB4.out.mono (Nat.le_trans hz12 hz23)))
      have hown : ∀ k, (Value.slice A2 len c2).ownBlock = some k → k < w2.heap.size := fun k hk => HO.out.lt k hk
      have HOW := Lib.hid hown
      have HO4b := Lib.hid HO4.out.base
      clear hnl hl HC HO HB2 HB3 HB4 hown HE2
      go_loopw [39] (fun x wz => ∃ (k : Nat) (lo : List E2), x = .int .i64 (k : Int) ∧ k ≤ len ∧ Hid (lo.length = len) ∧ Hid (EO wz w1.heap.size (.slice A2 len c2) lo) ∧ Hid (CS wz w2.heap.size p bb tv N l) ∧ Hid (EO wz w3.heap.size (.slice A4 l.length c4) l) ∧ Hid (Below w1.heap.size w1 wz)) (fun x _ => len - (intOf x).toNat)
      case atStart => exact ⟨0, l0, rfl, by omega, HL, HO5, HC4, HO4, HB14⟩
      case round =>
        obtain ⟨k, lo, rfl, hk, HLO, HO, HC, HO4, HB1⟩ := hrel
        by_cases hlt : k < len
        · have ho := HO.out
          have hlo := HLO.out
          rcases ho.2 with ⟨hv, hn⟩ | ⟨g2', cap, cur, hv, hbb, hgg, -⟩
          · exfalso; rw [hlo] at hn; omega
          · rw [hlo] at hv
            injection hv with hv1 _ hv2
            subst hv1 hv2
            rw [← hlo] at ho
            obtain ⟨⟨q0, q1⟩, f0, f1⟩ := ho.at k (by rw [hlo]; exact hlt)
            obtain ⟨s1, s2⟩ := ho.set k (0, 0)
            have g2l : g2' < w2.heap.size := HOW.out g2' rfl
            have HS := Lib.hid (And.intro s1 s2)
            have i0 : (0 : Int) ≤ (k : Int) := by omega
            have i1 : (k : Int) < (len : Int) := by omega
            clear s1 s2 ho hbb hgg
            go_wp2
            go_roundw
            case rel =>
              refine ⟨k + 1, lo.set k (0, 0), by go_num, by omega, Lib.hid (by rw [List.length_set]; exact hlo), Lib.hid (by have := HS.out.1; rw [hlo] at this; exact this), Lib.hid (HC.out.kept HS.out.2 (fun b hb => by injection hb with hb; omega)), Lib.hid (HO4.out.kept HS.out.2 ?_), Lib.hid (HB1.out.grown HS.out.2 HB1.out.size (fun b hb => by injection hb with hb; subst hb; exact HO.out.base _ rfl))⟩
              cases hv : (Value.slice A4 l.length c4).ownBlock with
              | none => exact .inl rfl
              | some b => exact .inr (fun e => by have := HO4.out.base b hv; injection e with e; omega)
            case measure => simp [intOf]; omega
        · obtain rfl : len = k := by omega
          rename World => w5
          have HBW := Lib.hid (HB.out.trans (HB1.out.mono HB.out.size))
          have HZ : Hid (Below w5.heap.size w5 w5) := Lib.hid (Below.refl _ _)
          clear hlt hk HO HLO HB1
          go_upto_region 16 with (fail)
          go_loopw [10] (fun x wz => ∃ (v : Nat), x = .int .i64 (v : Int) ∧ v ≤ N ∧ Hid (Below w5.heap.size w5 wz)) (fun x _ => N - (intOf x).toNat)
          case atStart => exact ⟨0, rfl, by omega, HZ⟩
          case round =>
            clear HZ
            obtain ⟨v, rfl, hv, HZ⟩ := hrel
            rename World => w5'
            by_cases hlt : v < N
            · have i1 : (v : Int) < (N : Int) := by omega
              have HTL : Hid ((tgt l v).length ≤ 200) := Lib.hid (by rw [tgt_len]; have := deg_le l v; omega)
              have HT := Lib.hid (targets_calls (HC.out.later HZ.out) v hlt)
              generalize tgt l v = t at HTL HT
              go_upto_region 20 with (first
                | (go_at_call 36; refine HT.out.mono ?_; rintro e w6 ⟨v6, rfl, HJ, HB6⟩; obtain ⟨A6, c6, rfl, -⟩ := id HJ.out.shape; obtain ⟨d, hd⟩ : ∃ d, t.length = d := ⟨_, rfl⟩; rw [hd] at HJ HTL ⊢; have HD := Lib.hid hd; clear hd))
              have hd200 := HTL.out
              go_loopw [60] (fun x wz => ∃ (k : Nat) (tz : List Int), x = .int .i64 (k : Int) ∧ k ≤ d ∧ Hid (tz.length = d) ∧ Hid (OJ wz w5'.heap.size (.slice A6 d c6) tz) ∧ Hid (Below w5'.heap.size w5' wz)) (fun x _ => d - (intOf x).toNat)
              case atStart => exact ⟨0, t, rfl, by omega, HD, HJ, HB6⟩
              case round =>
                clear HJ HB6
                obtain ⟨k, tz, rfl, hk, HLT, HO, HB6⟩ := hrel
                by_cases hlk : k < d
                · have ho := HO.out
                  have hlo := HLT.out
                  rcases ho.2 with ⟨hv', hn⟩ | ⟨g6, cap, cur, hv', hbb, hgg, -⟩
                  · exfalso; rw [hlo] at hn; omega
                  · rw [hlo] at hv'
                    injection hv' with hv1 _ hv2
                    subst hv1 hv2
                    obtain ⟨f0, f1⟩ := ho.at hlo k hlk
                    obtain ⟨s1, s2⟩ := ho.set hlo k (-1)
                    have HS := Lib.hid (And.intro s1 s2)
                    have HGB := Lib.hid hbb
                    have i2 : (0 : Int) ≤ (k : Int) := by omega
                    have i3 : (k : Int) < (d : Int) := by omega
                    generalize tz.getD k 0 = z at f0
                    clear s1 s2 ho hgg hbb
                    go_wp2
                    go_roundw
                    case rel =>
                      exact ⟨k + 1, tz.set k (-1), by go_num, by omega, Lib.hid (by rw [List.length_set]; exact hlo), Lib.hid HS.out.1, Lib.hid (HB6.out.grown HS.out.2 HB6.out.size (fun b hb => by injection hb with hb; subst hb; exact HGB.out))⟩
                    case measure => simp [intOf]; omega
                · obtain rfl : d = k := by omega
                  rename World => w7
                  have HZ7 := Lib.hid (HZ.out.trans (HB6.out.mono HZ.out.size))
                  clear HO HB6 HZ hlk hk
                  go_wp2
                  go_roundw
                  case rel => exact ⟨v + 1, by go_num, by omega, HZ7⟩
                  case measure => simp [intOf]; omega
            · obtain rfl : v = N := by omega
              have HCx := Lib.hid (HC.out.later HZ.out)
              have HOx := Lib.hid (HO4.out.later HZ.out)
              have HBx := Lib.hid (HBW.out.trans (HZ.out.mono HBW.out.size))
              clear HC HO4 HBW HZ hlt hv
              go_upto_region 26 with (go_at_call 35; refine (list_calls HCx.out).mono ?_; rintro e w6 ⟨v6, rfl, HO6, HB6⟩; obtain ⟨A6, c6, rfl, -, -⟩ := id HO6.out.shape; have HC6 := Lib.hid (HCx.out.later HB6.out); have HP6 := Lib.hid (HOx.out.later HB6.out))
              obtain ⟨m, hm⟩ : ∃ m, l.length = m := ⟨_, rfl⟩
              have hm200 : m ≤ 200 := by omega
              rw [hm] at HO6 HP6 ⊢
              have HM := Lib.hid hm
              clear hm hl200
              go_loopw [71] (fun x wz => ∃ (k : Nat) (lo : List E2), x = .int .i64 (k : Int) ∧ k ≤ m ∧ Hid (lo.length = m) ∧ Hid (EO wz w5'.heap.size (.slice A6 m c6) lo) ∧ Hid (Below w5'.heap.size w5' wz)) (fun x _ => m - (intOf x).toNat)
              case atStart => exact ⟨0, l, rfl, by omega, HM, HO6, HB6⟩
              case round =>
                clear HO6 HB6 HC6 HP6
                obtain ⟨k, lo, rfl, hk, HLO, HO, HB6⟩ := hrel
                by_cases hlt : k < m
                · have ho := HO.out
                  have hlo := HLO.out
                  rcases ho.2 with ⟨hv', hn⟩ | ⟨g6, cap, cur, hv', hbb, hgg, -⟩
                  · exfalso; rw [hlo] at hn; omega
                  · rw [hlo] at hv'
                    injection hv' with hv1 _ hv2
                    subst hv1 hv2
                    rw [← hlo] at ho
                    obtain ⟨⟨q0, q1⟩, f0, f1⟩ := ho.at k (by rw [hlo]; exact hlt)
                    obtain ⟨s1, s2⟩ := ho.set k (0, 0)
                    have HS := Lib.hid (And.intro s1 s2)
                    have HGB := Lib.hid hbb
                    have i2 : (0 : Int) ≤ (k : Int) := by omega
                    have i3 : (k : Int) < (m : Int) := by omega
                    clear s1 s2 ho hbb hgg
                    go_wp2
                    go_roundw
                    case rel =>
                      refine ⟨k + 1, lo.set k (0, 0), by go_num, by omega, Lib.hid (by rw [List.length_set]; exact hlo), Lib.hid (by have := HS.out.1; rw [hlo] at this; exact this), Lib.hid (HB6.out.grown HS.out.2 HB6.out.size (fun b hb => by injection hb with hb; subst hb; exact HGB.out))⟩
                    case measure => simp [intOf]; omega
                · obtain rfl : m = k := by omega
                  rename World => w7
                  have HC7 := Lib.hid (HCx.out.later HB6.out)
                  have HO7 := Lib.hid (HOx.out.later HB6.out)
                  have HB7 := Lib.hid (HBx.out.trans (HB6.out.mono HBx.out.size))
                  clear HO HB6 HLO HCx HOx HBx hlt hk
                  go_wp2_with (first
                    | (go_at_call 35; refine (list_calls HC7.out).mono ?_; rintro e w8 ⟨v8, rfl, HO8, HB8⟩)
                    | (go_at_call 26; obtain ⟨g8, hg8, -⟩ := HO8.out.reads; obtain ⟨g9, hg9, -⟩ := HO7.out.reads; rw [HM.out] at hg9; refine (rsame_b _ _ _ _ l l _ hg8 (hg9.later HB8.out)).mono ?_; rw [decide_eq_true (p := l = l) rfl]; rintro e w9 ⟨rfl, HB9⟩))
                  go_ret
                  have h1 := HB7.out.trans (HB8.out.mono HB7.out.size)
                  exact ⟨rfl, Lib.hid (h1.trans (HB9.out.mono h1.size))⟩
    · have HW := Lib.hid hw
      obtain ⟨a, ha⟩ : ∃ a, wrg n l0 = a := ⟨_, rfl⟩
      have HA := Lib.hid ha
      clear ha hw
      go_enter Try.func9, Try.ntmps9
      go_wp2_with (first
        | (go_at_call 33; refine (awake_calls _).mono ?_; rintro e w1 ⟨rfl, HB⟩)
        | (at_builtin; refine EO.append_on (base := w1.heap.size) (EO.fresh w1 w1.heap.size (Nat.le_refl _)) ((HR.out.later HB.out).alloc _) rfl _ _ rfl rfl rfl (by simp) (by rw [HL.out]; simp; omega) ?_; intro v2 w2 k1 k2 k3; rw [List.nil_append] at k1; have HB2 : Hid (Below w1.heap.size w1 w2) := Lib.hid (((Below.refl _ w1).alloc (Nat.le_refl _) _).grown k2 (by simp) (fun k hk => by simp [Value.ownBlock] at hk; omega)); obtain ⟨A2, c2, rfl, -, -⟩ := id k1.shape; obtain ⟨g2, hg2, -⟩ := k1.reads; have HE2 := Lib.hid hg2; rw [HL.out] at HE2 ⊢; clear k1 k2 k3 hg2)
        | (go_at_call 34; refine (build_bad n _ _ l0 _ HE2.out (by rw [HL.out]; omega) HW.out).mono ?_; rw [HA.out]; unfold errV; rintro e w3 ⟨rfl, HB3⟩)
        | (go_at_call 26; refine (rsame_b _ _ _ _ l0 l0 _ (HE2.out.later HB3.out) (((HR.out.later HB.out).later HB2.out).later HB3.out)).mono ?_; rw [decide_eq_true (p := l0 = l0) rfl]; rintro e w4 ⟨rfl, HB4⟩))
      go_ret
      have h1 := HB.out.trans (HB2.out.mono HB.out.size)
      have h2 := h1.trans (HB3.out.mono h1.size)
      exact ⟨rfl, Lib.hid (h2.trans (HB4.out.mono h2.size))⟩
theorem apart_row (n : Int) (g : Nat) (v : Value) (l : List E2) (w : World) (hn : (Lit.int .i64 n).wf = true) (hr : ER w g v l) (hb : ∀ e ∈ l, (-9223372036854775808 ≤ e.1 ∧ e.1 < 9223372036854775808) ∧ (-9223372036854775808 ≤ e.2 ∧ e.2 < 9223372036854775808)) :
    Calls Try.prog 9 #[.int .i64 n, v] w fun e w' => e = .returned (.bool true) ∧ Below w.heap.size w w' := by
  obtain ⟨A, c, rfl, -⟩ := er_form hr
  exact (apart_walk n g A l.length c l w hr rfl).mono fun _ _ h => ⟨h.1, h.2.out⟩
end Go.Proofs.Ythnpaiobjmneaaa.Cs
