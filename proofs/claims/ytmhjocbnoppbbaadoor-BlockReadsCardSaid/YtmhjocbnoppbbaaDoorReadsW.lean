/- The law BlockReads, walked. -/
import Derived.Test.YtmhjocbnoppbbaaDoorReadsL
namespace Go.Proofs.YtmhjocbnoppbbaaDoor.Sha
open Go.RowKit
set_option linter.unusedVariables false
set_option linter.unusedSimpArgs false

set_option maxHeartbeats 8000000 in
set_option maxRecDepth 100000 in
theorem reads_walk (s : ByteArray) (f m : Int) (w : World) (h0 : Er.G0 w) (hs : s.size ≤ 140737488351232) (hf0 : -9223372036854775808 ≤ f) (hf1 : f ≤ 9223372036854775807) (hm0 : -9223372036854775808 ≤ m) (hm1 : m ≤ 9223372036854775807) :
    Calls Tryd.prog 5 #[.string s, .int .i64 f, .int .i64 m] w fun e w' => e = .returned (.bool true) ∧ Below w.heap.size w w' := by
  by_cases h2 : s.size ≤ 2000
  case neg =>
    have k2 : (2000 : Int) < (s.size : Int) := by omega
    clear h2
    go_enter Tryd.func5, Tryd.ntmps5
    go_wp2_with (go_at_call 9; refine (Blk.blk_awake_calls w).mono ?_; rintro e w1 ⟨rfl, rfl⟩)
    go_ret
    exact ⟨rfl, Below.refl _ _⟩
  case pos =>
    have k2 : ¬ (2000 : Int) < (s.size : Int) := by omega
    have HG := Lib.hid h0
    have hG0 : 0 < w.heap.size := World.block_lt_of_cell? _ _ h0
    have HCUT := Lib.hid (cut_callsT w.heap.size _ [s] s _ (SR.lit w [s] _ rfl 1 rfl (by simp)) (by simp) (cat_one s) (by omega))
    clear h0 hs
    go_enter Tryd.func5, Tryd.ntmps5
    go_upto_region 8 with (first
      | (go_at_call 9; refine (Blk.blk_awake_calls w).mono ?_; rintro e w1 ⟨rfl, rfl⟩)
      | (go_at_call 14; refine HCUT.out.mono ?_; rintro e w1 ⟨v, gb, rfl, HSR, HTG, HB1⟩; obtain ⟨A1, c1, hv1, -, -, -⟩ := id HSR.out; subst hv1))
    have hss : (blks s (bcnt s)).length ≤ 1000000 := by rw [blks_length]; unfold bcnt; omega
    have hzz : (w.alloc (.cells (List.map Value.string [s]).toArray 9)).heap.size = w.heap.size + 1 := by simp
    rw [hzz] at HTG HB1
    have hgb : blks s (bcnt s) ≠ [] → gb < w1.heap.size := fun he => by
      obtain ⟨cur, fz, hc⟩ := HTG.out.2 he
      exact (Array.getElem?_eq_some_iff.1 hc).1
    have hb1 : Below w.heap.size w w1 := ((Below.refl w.heap.size w).alloc (Nat.le_refl _) _).trans (HB1.out.mono (by omega))
    obtain ⟨v1, hv1⟩ : ∃ v1, Value.slice A1 (blks s (bcnt s)).length c1 = v1 := ⟨_, rfl⟩
    have HSR' := HSR.out
    rw [hv1] at HSR' ⊢
    obtain ⟨W8, hW8⟩ : ∃ W8, (w1.alloc (.cells #[v1] 22)).alloc (.cells #[.slice none 0 0] 38) = W8 := ⟨_, rfl⟩
    have hz8 : (w1.alloc (.cells #[v1] 22)).heap.size = w1.heap.size + 1 := by simp
    have hbb : W8.heap[w1.heap.size]? = some (.cells #[v1] 22 (0, 0)) := by
      rw [← hW8, Below.heap_alloc _ _ _ (by omega)]; exact heap_alloc_new w1 _
    have hab : W8.heap[w1.heap.size + 1]? = some (.cells #[.slice none 0 0] 38 (0, 0)) := by
      rw [← hW8, ← hz8]; exact heap_alloc_new _ _
    have hb8 : Below w1.heap.size w1 W8 := by
      rw [← hW8]; exact ((Below.refl w1.heap.size w1).alloc (Nat.le_refl _) _).alloc (by omega) _
    have hex : ∃ O : Nat → Prop, RdS (w1.heap.size + 1) w1.heap.size gb (blks s (bcnt s)) O [] W8 ∧ ∀ k, O k → w.heap.size ≤ k := by
      refine ⟨fun k => k = w1.heap.size + 1 ∨ k = w1.heap.size ∨ (Value.slice none 0 0).ownBlock = some k ∨ k = gb ∧ blks s (bcnt s) ≠ [],
        ⟨_, hab, OJ.nil _ _, ⟨v1, hbb, HSR'.later hb8, HTG.out.2.kept (fun o ho => (hb8.block gb (Array.getElem?_eq_some_iff.1 ho).1).trans ho)⟩, fun k => Iff.rfl⟩, ?_⟩
      intro k hk
      have := hb1.size
      rcases hk with h | h | h | ⟨h, -⟩
      · omega
      · omega
      · simp [Value.ownBlock] at h
      · have := HTG.out.1; omega
    obtain ⟨O, hrd, how⟩ := hex
    have HOW := Lib.hid how
    clear how
    have HRD := Lib.hid hrd
    have HBW := Lib.hid (hb1.trans (hb8.mono hb1.size))
    have HG8 : Hid (Er.G0 W8) := Lib.hid (G0.later HG.out hG0 HBW.out)
    have hca := cell_of_one hab
    have hl8 : w1.heap.size + 1 < W8.heap.size := (Array.getElem?_eq_some_iff.1 hab).1
    have HS := Lib.hid (rd_source (w1.heap.size + 1) w1.heap.size gb (blks s (bcnt s)) hss)
    rw [hW8]
    clear hW8 hbb hab hb8 hrd HSR' hb1 hgb hzz hz8 HB1 HTG HSR HCUT
    obtain ⟨n, hn⟩ : ∃ n : Int, (s.size : Int) = n := ⟨_, rfl⟩
    have hn0 : 0 ≤ n := by omega
    have hn1 : n ≤ 2000 := by omega
    generalize w1.heap.size + 1 = ab at *
    generalize w1.heap.size = bb at *
    clear k2
    by_cases hr : f < 0 ∨ m < 0 ∨ n < f ∨ n - f < m
    · have HRR := Lib.hid (read_range 15 #[.pointer (some ⟨ab, 0, none⟩), .pointer (some ⟨bb, 0, none⟩)] n f m W8 hn0 (by omega) hf0 hf1 hm0 hm1 hr)
      have HNR := Lib.hid (needs_range n f m W8 hn0 (by omega) hf0 hf1 hm0 hm1 hr)
      have hcd := Lib.hid (Er.code_calls (.no 2) W8 HG8.out)
      rw [show (Er.Er.no 2).code = 2 from rfl] at hcd
      simp only [Er.Er.val] at hcd
      have hpart : f < 0 ∨ (0 ≤ f ∧ m < 0) ∨ (0 ≤ f ∧ 0 ≤ m ∧ n < f) ∨ (0 ≤ f ∧ 0 ≤ m ∧ f ≤ n ∧ n - f < m) := by omega
      clear hr
      have HCA := Lib.hid hca
      clear hca
      have HLT := Lib.hid hl8
      clear hl8
      rcases hpart with q1 | ⟨q1, q2⟩ | ⟨q1, q2, q3⟩ | ⟨q1, q2, q3, q4⟩
      all_goals
        go_wp2_with (first
          | (go_at_call 12; (try rw [hn]); refine HRR.out.mono ?_; rintro e w' ⟨rfl, rfl⟩)
          | (go_at_call 16; (try rw [hn]); refine HNR.out.mono ?_; rintro e w' ⟨rfl, rfl⟩)
          | (go_at_call 11; refine hcd.out.mono ?_; rintro e w4 ⟨rfl, HB4⟩; have HBW := Lib.hid (HBW.out.trans (HB4.out.mono HBW.out.size)); have HCA := Lib.hid ((HB4.out.cell (p := ⟨ab, 0, none⟩) (by have := HLT.out; show ab < _; omega)).trans HCA.out); have hca := HCA.out; have HLT := Lib.hid (Nat.lt_of_lt_of_le HLT.out HB4.out.size); have hcd := Lib.hid (Er.code_calls (.no 2) w4 (G0.later HG.out hG0 HBW.out)); rw [show (Er.Er.no 2).code = 2 from rfl] at hcd; simp only [Er.Er.val] at hcd; clear HB4))
        go_ret
        exact ⟨rfl, HBW.out⟩
    · obtain ⟨f', rfl⟩ := Int.eq_ofNat_of_zero_le (show 0 ≤ f by omega)
      obtain ⟨m', rfl⟩ := Int.eq_ofNat_of_zero_le (show 0 ≤ m by omega)
      have hfm : f' + m' ≤ s.size := by omega
      have q1 : (f' : Int) ≤ n := by omega
      have q2 : (m' : Int) ≤ n - (f' : Int) := by omega
      have HCA := Lib.hid hca
      have HLT := Lib.hid hl8
      have hsl : ∀ w, (Instr.slice 9 (.string s) (some (.int .i64 (f' : Int))) (some (.int .i64 ((f' : Int) + (m' : Int)))) none).run Tryd.prog w = .ok (.string (s.extract f' (f' + m'))) w := fun w => by
        have e := run_slice_string (P := Tryd.prog) w 9 s .i64 .i64 (f' : Int) ((f' : Int) + (m' : Int)) Tryd.underlying9 (by omega) (by omega) (by omega)
        rw [e]
        congr 3
      clear hr hca hl8 hf0 hf1 hm0 hm1
      have q3 : (0 : Int) ≤ (f' : Int) := by omega
      by_cases hm : m' = 0
      · subst hm
        have hemp : s.extract f' (f' + 0) = ⟨#[]⟩ := by
          have h : (s.extract f' (f' + 0)).size = 0 := by rw [ByteArray.size_extract]; omega
          have h' : (s.extract f' (f' + 0)).data.size = 0 := h
          exact ByteArray.ext (Array.eq_empty_of_size_eq_zero h')
        rw [hemp] at hsl
        have hsl2 : ∀ w, (Instr.slice 9 (.string s) (some (.int .i64 (f' : Int))) (some (.int .i64 (f' : Int))) none).run Tryd.prog w = .ok (.string ⟨#[]⟩) w := fun w => by simpa using hsl w
        have HR0 := Lib.hid (read0_calls HS.out O [] n (f' : Int) W8 HRD.out (by omega) q3 q1)
        have HN0 : Hid (∀ w, Calls Tryd.prog 16 #[.int .i64 n, .int .i64 (f' : Int), .int .i64 0] w fun e w' => e = .returned (.tuple #[.int .i64 0, .int .i64 (-1), .nilIface]) ∧ w = w') :=
          Lib.hid (fun w => Blk.needs_calls n (f' : Int) 0 w (by omega) q3 q1 (by omega) (by omega))
        clear hsl hemp hfm q2
        simp only [Int.natCast_zero] at *
        go_wp2_with (first
          | (go_at_call 12; (try rw [hn]); refine HR0.out.mono ?_; rintro e w3 ⟨rfl, hi3, hk3⟩; obtain ⟨va, hva, hoj, -⟩ := hi3; obtain ⟨A3, c3, hv3, -⟩ := hoj.shape; subst hv3; have hca := cell_of_one hva; have HBW := Lib.hid (HBW.out.trans (hk3.below HBW.out.size HOW.out)); clear hva hoj hk3)
          | (go_at_call 16; (try rw [hn]); refine (HN0.out _).mono ?_; rintro e w' ⟨rfl, rfl⟩))
        go_ret
        exact ⟨rfl, HBW.out⟩
      · obtain ⟨a, ha⟩ : ∃ a, f' / 64 = a := ⟨_, rfl⟩
        obtain ⟨b, hb⟩ : ∃ b, (f' + m' - 1) / 64 = b := ⟨_, rfl⟩
        have hfa : (f' : Int) / 64 = (a : Int) := by omega
        have hfb : ((f' : Int) + (m' : Int) - 1) / 64 = (b : Int) := by omega
        have hmz : ((m' : Int) == 0) = false := by rw [beq_eq_false_iff_ne]; omega
        obtain ⟨K, hK⟩ : ∃ K, b + 1 - a = K := ⟨_, rfl⟩
        have hKK : ((K : Int) != (b : Int) - (a : Int) + 1) = false := by rw [show (b : Int) - (a : Int) + 1 = (K : Int) by omega]; simp
        have hvv := read_blksV s f' m' a b (by omega) hfm ha hb
        have hll : (rdl n (fun _ i => (ofT (blks s (bcnt s)) i, ofE (blks s (bcnt s)) i)) ((b : Int) + 1 - (a : Int)).toNat [] (a : Int) []).1 = upto (a : Int) K := by
          rw [← hn, read_blks s f' m' a b (by omega) hfm ha hb, hK]
        rw [hn] at hvv
        obtain ⟨T, hT⟩ : ∃ T, s.extract f' (f' + m') = T := ⟨_, rfl⟩
        rw [hT] at hvv hsl
        have HRn := Lib.hid (readn_calls HS.out O [] n (f' : Int) (m' : Int) (a : Int) (b : Int) W8 HRD.out (by omega) q3 (by omega) q2 hfa hfb (fun l' i h1 h2 h3 => by simp at h1; omega) (T, .nil) hvv)
        rw [hll] at HRn
        have HNn : Hid (∀ w, Calls Tryd.prog 16 #[.int .i64 n, .int .i64 (f' : Int), .int .i64 (m' : Int)] w fun e w' => e = .returned (.tuple #[.int .i64 (a : Int), .int .i64 (b : Int), .nilIface]) ∧ w = w') :=
          Lib.hid (fun w => by
            have h := Blk.needs_calls n (f' : Int) (m' : Int) w (by omega) q3 q1 (by omega) q2
            rw [show Blk.needs n (f' : Int) (m' : Int) = ((a : Int), (b : Int)) by unfold Blk.needs; rw [if_neg (by omega), hfa, hfb]] at h
            exact h)
        have hk9 : K ≤ 1000000 := by omega
        have ha9 : (a : Int) ≤ 1000000 := by omega
        have hm3 : (0 : Int) < (m' : Int) := by omega
        simp only [Er.Er.val] at HRn
        clear hvv hll hT hfm ha hb hm hK
        go_wp2_with (first
          | (go_at_call 12; (try rw [hn]); refine HRn.out.mono ?_; rintro e w3 ⟨rfl, O3, hi3, hO3, hk3⟩; obtain ⟨va, hva, hoj, -⟩ := hi3; obtain ⟨A3, c3, hv3, -⟩ := hoj.shape; rw [upto_length] at hv3; subst hv3; have hca := cell_of_one hva; have HOJ := Lib.hid hoj; have HBW := Lib.hid (HBW.out.trans (hk3.below HBW.out.size HOW.out)); clear hva hoj hk3 hO3)
          | (go_at_call 16; (try rw [hn]); refine (HNn.out _).mono ?_; rintro e w' ⟨rfl, rfl⟩))
        go_loopw [144] (fun x wz => ∃ j : Nat, x = .int .i64 (j : Int) ∧ j ≤ K ∧ wz = w3) (fun x _ => K - (intOf x).toNat)
        case atStart => exact ⟨0, rfl, by omega, rfl⟩
        case round =>
          obtain ⟨j, rfl, hj, hwz⟩ := hrel
          subst hwz
          by_cases hlt : j < K
          · obtain ⟨g3, hA3, hcell⟩ := HOJ.out.cell (by rw [upto_length]; omega)
            rw [upto_length] at hcell
            have hc := hcell j hlt
            rw [upto_getD _ _ _ hlt] at hc
            subst hA3
            clear hcell
            go_wp2_with fail
            go_roundw
            case rel => exact ⟨j + 1, by go_num, by omega, trivial⟩
            case measure => simp [intOf]; omega
          · obtain rfl : j = K := by omega
            have hcd := Lib.hid (Er.code_calls (.no 1) _ (G0.later HG.out hG0 HBW.out))
            rw [show (Er.Er.no 1).code = 1 from rfl] at hcd
            simp only [Er.Er.val] at hcd
            go_wp2_with (first
              | (go_at_call 12; (try rw [hn]); refine (read_nil n _ _ _).mono ?_; rintro e w' ⟨rfl, rfl⟩)
              | (go_at_call 11; refine hcd.out.mono ?_; rintro e w4 ⟨rfl, HB4⟩))
            go_ret
            exact ⟨rfl, HBW.out.trans (HB4.out.mono HBW.out.size)⟩
theorem reads_row (s : ByteArray) (f m : Int) (w : World) (h0 : Er.G0 w) (hs : s.size ≤ 140737488351232) (hf : (Lit.int .i64 f).wf = true) (hm : (Lit.int .i64 m).wf = true) :
    Calls Tryd.prog 5 #[.string s, .int .i64 f, .int .i64 m] w fun e w' => e = .returned (.bool true) ∧ Below w.heap.size w w' :=
  reads_walk s f m w h0 hs (bounds_i64 hf).1 (bounds_i64 hf).2 (bounds_i64 hm).1 (bounds_i64 hm).2
end Go.Proofs.YtmhjocbnoppbbaaDoor.Sha
