/- The law MerkleUps, walked. -/
import Derived.Test.YtmhjocbnoppbbaaDoorUps
import Derived.Test.YtmhjocbnoppbbaaDoorAwk
import Derived.Test.YtmhjocbnoppbbaaDoorErrP
import Derived.Test.YtmhjocbnoppbbaaDoorClaim
namespace Go.Proofs.YtmhjocbnoppbbaaDoor.Mk
open Go.RowKit Go.Proofs.YtmhjocbnoppbbaaDoor.Sha
set_option linter.unusedVariables false
set_option linter.unusedSimpArgs false

theorem g0_later {w w' : World} (h : Er.G0 w) {B : Nat} (hB : 0 < B) (hb : Below B w w') : Er.G0 w' := (hb.cell hB).trans h
/-- the first j texts are digests -/
def fineT (ps : List ByteArray) (j : Nat) : Bool := (ps.take j).all fun p => decide (p.size = 32)
theorem fineT_succ (ps : List ByteArray) (j : Nat) (h : j < ps.length) : fineT ps (j + 1) = (fineT ps j && decide ((ps.getD j ByteArray.empty).size = 32)) := by
  unfold fineT
  rw [List.take_add_one, List.all_append]
  simp [List.getElem?_eq_getElem h, List.getD_eq_getElem?_getD]
theorem fineT_all (ps : List ByteArray) : fineT ps ps.length = decide (∀ p ∈ ps, p.size = 32) := by
  unfold fineT
  rw [List.take_length]
  by_cases h : ∀ p ∈ ps, p.size = 32
  · rw [decide_eq_true h]; simpa using h
  · rw [decide_eq_false h]
    simpa using h
theorem stepsN_in {i n : Nat} (h : i < n) (hn : n ≤ 1048576) : stepsN (i : Int) (n : Int) = (sidesB i n).length := by
  unfold stepsN; rw [if_pos (by omega)]; rfl
theorem stepsN_out {i n : Int} (h : ¬ (0 ≤ i ∧ i < n ∧ n ≤ 1048576)) : stepsN i n = 0 := by
  unfold stepsN; rw [if_neg h]
theorem upR_out {i n : Int} {leaf : ByteArray} {ps : List ByteArray} (h : ¬ (0 ≤ i ∧ i < n ∧ n ≤ 1048576)) : upR i n leaf ps = .inr 2 := by
  unfold upR; rw [if_neg h]
theorem upR_in {i n : Nat} {leaf : ByteArray} {ps : List ByteArray} (h : i < n) (hn : n ≤ 1048576) :
    upR (i : Int) (n : Int) leaf ps = if ps.length = (sidesB i n).length ∧ leaf.size = 32 ∧ (∀ p ∈ ps, p.size = 32) then .inl (upN (sidesB i n) leaf ps ps.length) else .inr 11 := by
  unfold upR; rw [if_pos (by omega)]; rfl

set_option maxHeartbeats 8000000 in
set_option maxRecDepth 100000 in
theorem ups_walk (i n ci : Int) (s : ByteArray) (g : Nat) (A : Option Addr) (len cp : Nat) (ps : List ByteArray) (w : World) (h0 : Er.G0 w) (hi0 : -9223372036854775808 ≤ i) (hi1 : i ≤ 9223372036854775807) (hn0 : -9223372036854775808 ≤ n) (hn1 : n ≤ 9223372036854775807) (hsr : SR w g (.slice A len cp) ps) :
    Calls Tryd.prog 7 #[.int .i64 i, .int .i64 n, .agg #[.int .i64 ci, .string s, .slice A len cp]] w fun e w' => e = .returned (.bool true) ∧ Below w.heap.size w w' := by
  have hlen : ps.length = len := by obtain ⟨A', c', hv, -⟩ := hsr; injection hv with _ h _; exact h.symm
  have HLEN := Lib.hid hlen
  have HSR := Lib.hid hsr
  have HG := Lib.hid h0
  have hG0 : 0 < w.heap.size := World.block_lt_of_cell? _ _ h0
  obtain ⟨W1, hW1⟩ : ∃ W1, w.alloc (.cells #[.int .i64 ci, .string s, .slice A len cp] 44) = W1 := ⟨_, rfl⟩
  have hs1 : W1.heap.size = w.heap.size + 1 := by rw [← hW1]; simp
  have hc1 : W1.cell? ⟨w.heap.size, 1, none⟩ = some (.string s) := by rw [← hW1]; simp
  have hc2 : W1.cell? ⟨w.heap.size, 2, none⟩ = some (.slice A len cp) := by rw [← hW1]; simp
  have HW1 : Hid (Below w.heap.size w W1) := Lib.hid (by rw [← hW1]; exact (Below.refl _ _).alloc (Nat.le_refl _) _)
  have HC : Hid (∀ w', Below W1.heap.size W1 w' → w'.cell? ⟨w.heap.size, 1, none⟩ = some (.string s) ∧ w'.cell? ⟨w.heap.size, 2, none⟩ = some (.slice A len cp) ∧ SR w' g (.slice A len cp) ps ∧ Er.G0 w' ∧ Below w.heap.size w w') := Lib.hid (fun w' hb => by
    have hbw := HW1.out.trans (hb.mono (by omega))
    exact ⟨(hb.cell (by show w.heap.size < _; omega)).trans hc1, (hb.cell (by show w.heap.size < _; omega)).trans hc2, hsr.later hbw, g0_later h0 hG0 hbw, hbw⟩)
  have HAWK := Lib.hid (awake_calls W1)
  clear hlen hsr h0 hc1 hc2 hs1
  by_cases h24 : len ≤ 24
  case neg =>
    have k24 : (24 : Int) < (len : Int) := by omega
    clear h24
    go_enter Tryd.func7, Tryd.ntmps7
    go_upto_region 1 with fail
    clear hW1
    go_wp2_with (go_at_call 17; refine HAWK.out.mono ?_; rintro e w1 ⟨rfl, HB1⟩; have HBW := HB1; obtain ⟨q1, q2, -, -, -⟩ := HC.out w1 HBW.out)
    go_ret
    exact ⟨rfl, (HC.out _ HBW.out).2.2.2.2⟩
  case pos =>
    have k24 : ¬ (24 : Int) < (len : Int) := by omega
    by_cases hr : 0 ≤ i ∧ i < n ∧ n ≤ 1048576
    case neg =>
      have hru := upR_out (leaf := s) (ps := ps) hr
      have hrs := stepsN_out hr
      have hpart : i < 0 ∨ (0 ≤ i ∧ n ≤ i) ∨ (0 ≤ i ∧ i < n ∧ 1048576 < n) := by omega
      have HU : Hid (∀ W, SR W g (.slice A len cp) ps → Calls Tryd.prog 26 #[.int .i64 i, .int .i64 n, .string s, .slice A len cp] W fun e w' => e = .returned (.tuple #[.string ⟨#[]⟩, .iface 39 (.int .i64 2)]) ∧ Hid (Below W.heap.size W w')) := Lib.hid (fun W hW => by
        have h := up_calls i n s g (.slice A len cp) ps W hW (by rw [HLEN.out]; omega)
        rw [hru] at h
        exact h)
      have HST : Hid (∀ W, Calls Tryd.prog 27 #[.int .i64 i, .int .i64 n] W fun e w' => e = .returned (.int .i64 0) ∧ Hid (Below W.heap.size W w')) := Lib.hid (fun W => by
        have h := steps_calls i n W
        rw [hrs] at h
        exact h)
      have HCD : Hid (∀ W, Er.G0 W → Calls Tryd.prog 11 #[.iface 39 (.int .i64 2)] W fun r w' => r = .returned (.int .i64 2) ∧ Hid (Below W.heap.size W w')) := Lib.hid (fun W hW => Er.code_calls (.no 2) W hW)
      clear hru hrs hr
      rcases hpart with c1 | ⟨c1, c2⟩ | ⟨c1, c2, c3⟩
      all_goals
        go_enter Tryd.func7, Tryd.ntmps7
        go_upto_region 1 with fail
        clear hW1
        go_wp2_with (first
          | (go_at_call 17; refine HAWK.out.mono ?_; rintro e w1 ⟨rfl, HB1⟩; have HBW := HB1; obtain ⟨q1, q2, -, -, -⟩ := HC.out w1 HBW.out)
          | (go_at_call 26; refine (HU.out _ (HC.out _ HBW.out).2.2.1).mono ?_; rintro e w2 ⟨rfl, HB2⟩; have HBW := Lib.hid (HBW.out.trans (HB2.out.mono HBW.out.size)); clear q1 q2; obtain ⟨q1, q2, -, -, -⟩ := HC.out w2 HBW.out)
          | (go_at_call 11; refine (HCD.out _ (HC.out _ HBW.out).2.2.2.1).mono ?_; rintro e w3 ⟨rfl, HB3⟩; have HBW := Lib.hid (HBW.out.trans (HB3.out.mono HBW.out.size)); clear q1 q2; obtain ⟨q1, q2, -, -, -⟩ := HC.out w3 HBW.out)
          | (go_at_call 27; refine (HST.out _).mono ?_; rintro e w4 ⟨rfl, HB4⟩; have HBW := Lib.hid (HBW.out.trans (HB4.out.mono HBW.out.size)); clear q1 q2; obtain ⟨q1, q2, -, -, -⟩ := HC.out w4 HBW.out))
        go_ret
        exact ⟨rfl, (HC.out _ HBW.out).2.2.2.2⟩
    case pos =>
      obtain ⟨i', rfl⟩ := Int.eq_ofNat_of_zero_le hr.1
      obtain ⟨n', rfl⟩ := Int.eq_ofNat_of_zero_le (show 0 ≤ n by omega)
      have hin : i' < n' := by omega
      have hnn : n' ≤ 1048576 := by omega
      have hru := upR_in (leaf := s) (ps := ps) hin hnn
      have hrs := stepsN_in hin hnn
      have hlu := fun W g v h1 => lawup_calls s h1 n' i' g v ps W
      have hsl := sidesB_length n' i'
      have HRS := Lib.hid (fun W => rsteps_calls n' i' W hin hnn)
      have HST : Hid (∀ W, Calls Tryd.prog 27 #[.int .i64 (i' : Int), .int .i64 (n' : Int)] W fun e w' => e = .returned (.int .i64 (((sidesB i' n').length : Nat) : Int)) ∧ Hid (Below W.heap.size W w')) := Lib.hid (fun W => by
        have h := steps_calls (i' : Int) (n' : Int) W
        rw [hrs] at h
        exact h)
      have hup := fun W hW => up_calls (i' : Int) (n' : Int) s g (.slice A len cp) ps W hW (by rw [HLEN.out]; omega)
      rw [hru] at hup
      rw [HLEN.out] at hup
      have hlu2 := fun W h1 hsr h2 h3 => hlu W g (.slice A len cp) h1 hsr hin hnn h2 h3
      rw [HLEN.out] at hlu2
      generalize upN (sidesB i' n') s ps len = D at hup hlu2
      generalize (sidesB i' n').length = L at *
      have g1 : ¬ (i' : Int) < 0 := by omega
      have g2 : (i' : Int) < (n' : Int) := by omega
      have g3 : ¬ (1048576 : Int) < (n' : Int) := by omega
      clear hr hru hrs hlu hin hnn
      by_cases hgood : len = L ∧ s.size = 32 ∧ ∀ p ∈ ps, p.size = 32
      · rw [if_pos hgood] at hup
        obtain ⟨e1, e2, e3⟩ := hgood
        have HALL := Lib.hid e3
        have HU : Hid (∀ W, SR W g (.slice A len cp) ps → Calls Tryd.prog 26 #[.int .i64 (i' : Int), .int .i64 (n' : Int), .string s, .slice A len cp] W fun e w' => e = .returned (.tuple #[.string D, .nilIface]) ∧ Hid (Below W.heap.size W w')) := Lib.hid hup
        have HLU := Lib.hid (fun W hsr => hlu2 W e2 hsr e1 e3)
        have e4 : ((s.size : Int) == 32) = true := by rw [e2]; rfl
        have e5 : ((len : Int) == (L : Int)) = true := by rw [e1]; simp
        clear hup hlu2 e3 e2
        subst e1
        go_enter Tryd.func7, Tryd.ntmps7
        go_upto_region 1 with fail
        clear hW1
        go_wp2_with (first
          | (go_at_call 17; refine HAWK.out.mono ?_; rintro e w1 ⟨rfl, HB1⟩; have HBW := HB1; obtain ⟨q1, q2, -, -, -⟩ := HC.out w1 HBW.out)
          | (go_at_call 26; refine (HU.out _ (HC.out _ HBW.out).2.2.1).mono ?_; rintro e w2 ⟨rfl, HB2⟩; have HBW := Lib.hid (HBW.out.trans (HB2.out.mono HBW.out.size)); clear q1 q2; obtain ⟨q1, q2, -, -, -⟩ := HC.out w2 HBW.out)
          | (go_at_call 28; refine (HRS.out _).mono ?_; rintro e w5 ⟨rfl, HB5⟩; have HBW := Lib.hid (HBW.out.trans (HB5.out.mono HBW.out.size)); clear q1 q2; obtain ⟨q1, q2, -, -, -⟩ := HC.out w5 HBW.out))
        generalize ((w5 : World)) = wf at *
        go_loopw [10, 70] (fun u x wz => ∃ j : Nat, u = .bool true ∧ x = .int .i64 (j : Int) ∧ j ≤ len ∧ wz = wf) (fun _ x _ => len - (intOf x).toNat)
        case atStart => exact ⟨0, rfl, rfl, by omega, rfl⟩
        case round =>
          obtain ⟨j, rfl, rfl, hj, hwz⟩ := hrel
          subst hwz
          by_cases hlt : j < len
          · obtain ⟨A', c', hv', -, -, hread⟩ := (HC.out _ HBW.out).2.2.1
            rw [HLEN.out] at hread hv'
            obtain ⟨ad, hA', -, hcell⟩ := hread (by omega)
            injection hv' with hv' _ hcc
            subst hcc
            rw [hA'] at hv'
            subst hv'
            have hc := hcell j hlt
            have hmem : ps.getD j ByteArray.empty ∈ ps := by rw [List.getD_eq_getElem?_getD, List.getElem?_eq_getElem (show j < ps.length by rw [HLEN.out]; exact hlt)]; exact List.getElem_mem _
            have hfs := fineT_succ ps j (by rw [HLEN.out]; exact hlt)
            obtain ⟨p, hp⟩ : ∃ p, ps.getD j ByteArray.empty = p := ⟨_, rfl⟩
            rw [hp] at hc hmem hfs
            have hq : ((p.size : Int) == 32) = true := by rw [HALL.out p hmem]; rfl
            clear hcell hread hA' hmem hfs hp
            go_wp2_with fail
            go_roundw
            case rel => exact ⟨j + 1, rfl, by go_num, by omega, trivial⟩
            case measure => simp [intOf]; omega
          · obtain rfl : j = len := by omega
            go_wp2_with (first
              | (go_at_call 27; refine (HST.out _).mono ?_; rintro e w4 ⟨rfl, HB4⟩; have HBW := Lib.hid (HBW.out.trans (HB4.out.mono HBW.out.size)); clear q1 q2; obtain ⟨q1, q2, -, -, -⟩ := HC.out w4 HBW.out)
              | (go_at_call 29; refine (HLU.out _ (HC.out _ HBW.out).2.2.1).mono ?_; rintro e w6 ⟨rfl, HB6⟩; have HBW := Lib.hid (HBW.out.trans (HB6.out.mono HBW.out.size))))
            go_ret
            exact ⟨rfl, (HC.out _ HBW.out).2.2.2.2⟩
      · have hup2 : ∀ W, SR W g (.slice A len cp) ps → Calls Tryd.prog 26 #[.int .i64 (i' : Int), .int .i64 (n' : Int), .string s, .slice A len cp] W fun e w' => e = .returned (.tuple #[.string ⟨#[]⟩, .iface 39 (.int .i64 11)]) ∧ Hid (Below W.heap.size W w') := by
          rw [if_neg hgood] at hup; exact hup
        have HU := Lib.hid hup2
        have HCD : Hid (∀ W, Er.G0 W → Calls Tryd.prog 11 #[.iface 39 (.int .i64 11)] W fun r w' => r = .returned (.int .i64 11) ∧ Hid (Below W.heap.size W w')) := Lib.hid (fun W hW => Er.code_calls (.no 11) W hW)
        have hallB := fineT_all ps
        rw [HLEN.out] at hallB
        clear hup hup2 hlu2
        have hpart : ∃ b0 : Bool, (b0 && fineT ps len) = false ∧ (((len : Int) == (L : Int)) = false ∧ b0 = false ∨ ((len : Int) == (L : Int)) = true ∧ ((s.size : Int) == 32) = false ∧ b0 = false ∨ ((len : Int) == (L : Int)) = true ∧ ((s.size : Int) == 32) = true ∧ b0 = true) := by
          by_cases e1 : len = L
          · by_cases e2 : s.size = 32
            · refine ⟨true, ?_, .inr (.inr ⟨by rw [e1]; simp, by rw [e2]; rfl, rfl⟩)⟩
              rw [hallB, decide_eq_false (fun e3 => hgood ⟨e1, e2, e3⟩)]; rfl
            · exact ⟨false, rfl, .inr (.inl ⟨by rw [e1]; simp, by rw [beq_eq_false_iff_ne]; omega, rfl⟩)⟩
          · exact ⟨false, rfl, .inl ⟨by rw [beq_eq_false_iff_ne]; omega, rfl⟩⟩
        obtain ⟨b0, hbf, hcase⟩ := hpart
        have HBF := Lib.hid hbf
        clear hgood hallB hbf
        rcases hcase with ⟨e4, e5⟩ | ⟨e4, e6, e5⟩ | ⟨e4, e6, e5⟩
        all_goals
          have HE5 := Lib.hid e5
          clear e5
          go_enter Tryd.func7, Tryd.ntmps7
          go_upto_region 1 with fail
          clear hW1
          go_wp2_with (first
            | (go_at_call 17; refine HAWK.out.mono ?_; rintro e w1 ⟨rfl, HB1⟩; have HBW := HB1; obtain ⟨q1, q2, -, -, -⟩ := HC.out w1 HBW.out)
            | (go_at_call 26; refine (HU.out _ (HC.out _ HBW.out).2.2.1).mono ?_; rintro e w2 ⟨rfl, HB2⟩; have HBW := Lib.hid (HBW.out.trans (HB2.out.mono HBW.out.size)); clear q1 q2; obtain ⟨q1, q2, -, -, -⟩ := HC.out w2 HBW.out)
            | (go_at_call 28; refine (HRS.out _).mono ?_; rintro e w5 ⟨rfl, HB5⟩; have HBW := Lib.hid (HBW.out.trans (HB5.out.mono HBW.out.size)); clear q1 q2; obtain ⟨q1, q2, -, -, -⟩ := HC.out w5 HBW.out))
          generalize ((w5 : World)) = wf at *
          go_loopw [10, 70] (fun u x wz => ∃ j : Nat, u = .bool (b0 && fineT ps j) ∧ x = .int .i64 (j : Int) ∧ j ≤ len ∧ wz = wf) (fun _ x _ => len - (intOf x).toNat)
          case atStart => exact ⟨0, by rw [HE5.out]; rfl, rfl, by omega, rfl⟩
          case round =>
            obtain ⟨j, rfl, rfl, hj, hwz⟩ := hrel
            subst hwz
            by_cases hlt : j < len
            · obtain ⟨A', c', hv', -, -, hread⟩ := (HC.out _ HBW.out).2.2.1
              rw [HLEN.out] at hread hv'
              obtain ⟨ad, hA', -, hcell⟩ := hread (by omega)
              injection hv' with hv' _ hcc
              subst hcc
              rw [hA'] at hv'
              subst hv'
              have hc := hcell j hlt
              have hmem : ps.getD j ByteArray.empty ∈ ps := by rw [List.getD_eq_getElem?_getD, List.getElem?_eq_getElem (show j < ps.length by rw [HLEN.out]; exact hlt)]; exact List.getElem_mem _
              have hfs := fineT_succ ps j (by rw [HLEN.out]; exact hlt)
              obtain ⟨p, hp⟩ : ∃ p, ps.getD j ByteArray.empty = p := ⟨_, rfl⟩
              rw [hp] at hc hmem hfs
              have hq : ((p.size : Int) == 32) = decide (p.size = 32) := by by_cases e : p.size = 32 <;> simp [e]; omega
              have hf2 : (b0 && fineT ps (j + 1)) = ((b0 && fineT ps j) && decide (p.size = 32)) := by rw [hfs, Bool.and_assoc]
              have HF2 := Lib.hid hf2
              generalize (b0 && fineT ps j) = fb at *
              generalize decide (p.size = 32) = db at *
              clear hcell hread hA' hmem hfs hp hf2
              cases fb
              · go_wp2_with fail
                go_roundw
                case rel => exact ⟨j + 1, by rw [HF2.out]; rfl, by go_num, by omega, trivial⟩
                case measure => simp [intOf]; omega
              · go_wp2_with fail
                go_roundw
                case rel => exact ⟨j + 1, by rw [HF2.out]; rfl, by go_num, by omega, trivial⟩
                case measure => simp [intOf]; omega
            · obtain rfl : j = len := by omega
              rw [HBF.out]
              go_wp2_with (first
                | (go_at_call 27; refine (HST.out _).mono ?_; rintro e w4 ⟨rfl, HB4⟩; have HBW := Lib.hid (HBW.out.trans (HB4.out.mono HBW.out.size)); clear q1 q2; obtain ⟨q1, q2, -, -, -⟩ := HC.out w4 HBW.out)
                | (go_at_call 11; refine (HCD.out _ (HC.out _ HBW.out).2.2.2.1).mono ?_; rintro e w3 ⟨rfl, HB3⟩; have HBW := Lib.hid (HBW.out.trans (HB3.out.mono HBW.out.size)); clear q1 q2; obtain ⟨q1, q2, -, -, -⟩ := HC.out w3 HBW.out))
              go_ret
              exact ⟨rfl, (HC.out _ HBW.out).2.2.2.2⟩
theorem ups_row (i n ci : Int) (s : ByteArray) (A : Option Addr) (len cp g : Nat) (ps : List ByteArray) (w : World) (h0 : Er.G0 w) (hi : (Lit.int .i64 i).wf = true) (hn : (Lit.int .i64 n).wf = true) (hc : (Lit.int .i64 ci).wf = true) (hsr : SR w g (.slice A len cp) ps) :
    Calls Tryd.prog 7 #[.int .i64 i, .int .i64 n, .agg #[.int .i64 ci, .string s, .slice A len cp]] w fun e w' => e = .returned (.bool true) ∧ Below w.heap.size w w' :=
  ups_walk i n ci s g A len cp ps w h0 (bounds_i64 hi).1 (bounds_i64 hi).2 (bounds_i64 hn).1 (bounds_i64 hn).2 hsr
end Go.Proofs.YtmhjocbnoppbbaaDoor.Mk
