/- The law MerkleUnlike, walked. -/
import Derived.Test.YtmhjocbnoppbbaaRootN
import Derived.Test.YtmhjocbnoppbbaaClash
import Derived.Test.YtmhjocbnoppbbaaAwk
namespace Go.Proofs.Ytmhjocbnoppbbaa.Mk
open Go.RowKit Go.Proofs.Ytmhjocbnoppbbaa.Sha
set_option linter.unusedVariables false
set_option linter.unusedSimpArgs false

theorem greatB_false {ss : List ByteArray} (h : greatB ss = false) : ss.length ≤ 20 ∧ ∀ s ∈ ss, s.size ≤ 100 := by
  unfold greatB at h
  rw [Bool.or_eq_false_iff, decide_eq_false_iff_not, List.any_eq_false] at h
  exact ⟨by omega, fun s hs => by have := h.2 s hs; simp at this; omega⟩
set_option maxHeartbeats 4000000 in
set_option maxRecDepth 100000 in
theorem unlike_walk (lb : Nat) (lv : Value) (ss : List ByteArray) (mb : Nat) (mv : Value) (tt : List ByteArray) (w : World) (hl : SR w lb lv ss) (hm : SR w mb mv tt) :
    Calls Try.prog 10 #[lv, mv] w fun e w' => e = .returned (.bool true) ∧ Below w.heap.size w w' := by
  have hl' := hl
  have hm' := hm
  obtain ⟨A1, c1, rfl, -, -, -⟩ := hl'
  obtain ⟨A2, c2, rfl, -, -, -⟩ := hm'
  have HL := Lib.hid hl
  have HM := Lib.hid hm
  clear hl hm
  obtain ⟨n, hn⟩ : ∃ n, ss.length = n := ⟨_, rfl⟩
  obtain ⟨m, hmm⟩ : ∃ m, tt.length = m := ⟨_, rfl⟩
  rw [hn] at HL ⊢
  rw [hmm] at HM ⊢
  have haw := Lib.hid (awake_calls w)
  have hg1 := Lib.hid (fun W (h : SR W lb (.slice A1 n c1) ss) => great_calls lb (.slice A1 n c1) ss W h)
  have hg2 := Lib.hid (fun W (h : SR W mb (.slice A2 m c2) tt) => great_calls mb (.slice A2 m c2) tt W h)
  go_enter Try.func10, Try.ntmps10
  by_cases h1 : greatB ss = true
  · have HG := Lib.hid h1
    clear h1
    go_wp2_with (first
      | (go_at_call 27; refine haw.out.mono ?_; rintro e w1 ⟨rfl, HB1⟩)
      | (go_at_call 33; refine (hg1.out _ (HL.out.later HB1.out)).mono ?_; rw [HG.out]; rintro e w2 ⟨rfl, HB2⟩))
    go_ret
    exact ⟨rfl, HB1.out.trans (HB2.out.mono HB1.out.size)⟩
  · have HG : Hid (greatB ss = false) := Lib.hid (by simpa using h1)
    clear h1
    by_cases h2 : greatB tt = true
    · have HG2 := Lib.hid h2
      clear h2
      go_wp2_with (first
        | (go_at_call 27; refine haw.out.mono ?_; rintro e w1 ⟨rfl, HB1⟩)
        | (go_at_call 33; with_reducible (show Calls Try.prog _ #[.slice A1 _ c1] _ _); refine (hg1.out _ (HL.out.later HB1.out)).mono ?_; rw [HG.out]; rintro e w2 ⟨rfl, HB2⟩)
        | (go_at_call 33; with_reducible (show Calls Try.prog _ #[.slice A2 _ c2] _ _); refine (hg2.out _ (HM.out.later (HB1.out.trans (HB2.out.mono HB1.out.size)))).mono ?_; rw [HG2.out]; rintro e w3 ⟨rfl, HB3⟩; have HBW : Hid (Below w.heap.size w w3) := Lib.hid ((HB1.out.trans (HB2.out.mono HB1.out.size)).trans (HB3.out.mono (Nat.le_trans HB1.out.size HB2.out.size)))))
      go_ret
      exact ⟨rfl, HBW.out⟩
    · have HG2 : Hid (greatB tt = false) := Lib.hid (by simpa using h2)
      clear h2
      by_cases hnm : n = m
      case neg =>
        have hb : ((n : Int) != (m : Int)) = true := by rw [bne_iff_ne]; omega
        go_wp2_with (first
        | (go_at_call 27; refine haw.out.mono ?_; rintro e w1 ⟨rfl, HB1⟩)
        | (go_at_call 33; with_reducible (show Calls Try.prog _ #[.slice A1 _ c1] _ _); refine (hg1.out _ (HL.out.later HB1.out)).mono ?_; rw [HG.out]; rintro e w2 ⟨rfl, HB2⟩)
        | (go_at_call 33; with_reducible (show Calls Try.prog _ #[.slice A2 _ c2] _ _); refine (hg2.out _ (HM.out.later (HB1.out.trans (HB2.out.mono HB1.out.size)))).mono ?_; rw [HG2.out]; rintro e w3 ⟨rfl, HB3⟩; have HBW : Hid (Below w.heap.size w w3) := Lib.hid ((HB1.out.trans (HB2.out.mono HB1.out.size)).trans (HB3.out.mono (Nat.le_trans HB1.out.size HB2.out.size)))))
        go_ret
        exact ⟨rfl, HBW.out⟩
      case pos =>
        have hb : ((n : Int) != (m : Int)) = false := by rw [hnm]; simp
        obtain ⟨hn20, hs100⟩ := greatB_false HG.out
        obtain ⟨hm20, ht100⟩ := greatB_false HG2.out
        have hr1 := Lib.hid (fun W (h : SR W lb (.slice A1 n c1) ss) => root_calls lb (.slice A1 n c1) ss W h (by omega) (fun s hs => Nat.le_trans (hs100 s hs) (by omega)))
        have hr2 := Lib.hid (fun W (h : SR W mb (.slice A2 m c2) tt) => root_calls mb (.slice A2 m c2) tt W h (by omega) (fun s hs => Nat.le_trans (ht100 s hs) (by omega)))
        have hkr1 := Lib.hid (fun W kv hv (h : SR W lb (.slice A1 n c1) ss) (hk : KitS W kv hv) => kroot_calls kv hv n lb (.slice A1 n c1) ss W hn (by omega) (fun s hs => Nat.le_trans (hs100 s hs) (by omega)) h hk)
        have hkr2 := Lib.hid (fun W kv hv (h : SR W mb (.slice A2 m c2) tt) (hk : KitS W kv hv) => kroot_calls kv hv m mb (.slice A2 m c2) tt W hmm (by omega) (fun s hs => Nat.le_trans (ht100 s hs) (by omega)) h hk)
        have hsm := Lib.hid (fun W (h1 : SR W lb (.slice A1 n c1) ss) (h2 : SR W mb (.slice A2 m c2) tt) => same_calls lb mb (.slice A1 n c1) (.slice A2 m c2) ss tt W h1 h2)
        have hcl : Hid (ss ≠ tt → rootD ss = rootD tt → Clash (pairsT ss ++ pairsT tt) ∧ 0 < (pairsT tt).length ∧ (pairsT ss).length ≤ 41 ∧ (pairsT tt).length ≤ 41) := Lib.hid fun h1 h2 => by
          have p1 := pairsT_length ss
          have p2 := pairsT_length tt
          exact ⟨clash_of (unlike n ss tt hn (by omega) h2 h1), pairsT_pos tt, by omega, by omega⟩
        generalize pairsT ss = P1 at hkr1 hcl
        generalize pairsT tt = P2 at hkr2 hcl
        clear hs100 ht100 hnm
        by_cases hst : ss = tt
        · have hd : rootD tt = rootD ss := by rw [hst]
          rw [hd] at hr2
          have hsd : decide (ss = tt) = true := by simpa using hst
          rw [hsd] at hsm
          clear hkr1 hkr2 hcl hd hsd
          generalize rootD ss = D1 at hr1 hr2
          have heq := toList_eq2 D1
          go_wp2_with (first
        | (go_at_call 27; refine haw.out.mono ?_; rintro e w1 ⟨rfl, HB1⟩)
        | (go_at_call 33; with_reducible (show Calls Try.prog _ #[.slice A1 _ c1] _ _); refine (hg1.out _ (HL.out.later HB1.out)).mono ?_; rw [HG.out]; rintro e w2 ⟨rfl, HB2⟩)
        | (go_at_call 33; with_reducible (show Calls Try.prog _ #[.slice A2 _ c2] _ _); refine (hg2.out _ (HM.out.later (HB1.out.trans (HB2.out.mono HB1.out.size)))).mono ?_; rw [HG2.out]; rintro e w3 ⟨rfl, HB3⟩; have HBW : Hid (Below w.heap.size w w3) := Lib.hid ((HB1.out.trans (HB2.out.mono HB1.out.size)).trans (HB3.out.mono (Nat.le_trans HB1.out.size HB2.out.size))))
        | (go_at_call 32; with_reducible (show Calls Try.prog _ #[.slice A1 _ c1] _ _); refine (hr1.out _ (HL.out.later HBW.out)).mono ?_; rintro e we ⟨rfl, HBx⟩; have HBW : Hid (Below w.heap.size w we) := Lib.hid (HBW.out.trans (HBx.out.mono HBW.out.size)); clear HBx)
        | (go_at_call 32; with_reducible (show Calls Try.prog _ #[.slice A2 _ c2] _ _); refine (hr2.out _ (HM.out.later HBW.out)).mono ?_; rintro e we ⟨rfl, HBx⟩; have HBW : Hid (Below w.heap.size w we) := Lib.hid (HBW.out.trans (HBx.out.mono HBW.out.size)); clear HBx)
        | (go_at_call 34; refine (hsm.out _ (HL.out.later HBW.out) (HM.out.later HBW.out)).mono ?_; rintro e we ⟨rfl, HBx⟩; have HBW : Hid (Below w.heap.size w we) := Lib.hid (HBW.out.trans (HBx.out.mono HBW.out.size)); clear HBx)
        | (go_at_call 28; refine (kit_calls _).mono ?_; rintro e we ⟨kv, hv, rfl, HK2, HBx⟩; obtain ⟨g1, g2, hk1, hk2⟩ := HK2.out; obtain ⟨B1, e1, hv1, -⟩ := hk1; obtain ⟨B2, e2, hv2, -⟩ := hk2; subst hv1; subst hv2; have HBW : Hid (Below w.heap.size w we) := Lib.hid (HBW.out.trans (HBx.out.mono HBW.out.size)); clear HBx))
          go_ret
          exact ⟨rfl, HBW.out⟩
        · have hsd : decide (ss = tt) = false := by simpa using hst
          rw [hsd] at hsm
          by_cases hdd : rootD ss = rootD tt
          · obtain ⟨hC, hp2, hl1, hl2⟩ := hcl.out hst hdd
            have HC := Lib.hid hC
            clear hC hcl hst hsd
            rw [← hdd] at hr2 hkr2
            clear hdd
            generalize rootD ss = D1 at hr1 hr2 hkr1 hkr2
            go_upto_region 10 with (first
        | (go_at_call 27; refine haw.out.mono ?_; rintro e w1 ⟨rfl, HB1⟩)
        | (go_at_call 33; with_reducible (show Calls Try.prog _ #[.slice A1 _ c1] _ _); refine (hg1.out _ (HL.out.later HB1.out)).mono ?_; rw [HG.out]; rintro e w2 ⟨rfl, HB2⟩)
        | (go_at_call 33; with_reducible (show Calls Try.prog _ #[.slice A2 _ c2] _ _); refine (hg2.out _ (HM.out.later (HB1.out.trans (HB2.out.mono HB1.out.size)))).mono ?_; rw [HG2.out]; rintro e w3 ⟨rfl, HB3⟩; have HBW : Hid (Below w.heap.size w w3) := Lib.hid ((HB1.out.trans (HB2.out.mono HB1.out.size)).trans (HB3.out.mono (Nat.le_trans HB1.out.size HB2.out.size))))
        | (go_at_call 32; with_reducible (show Calls Try.prog _ #[.slice A1 _ c1] _ _); refine (hr1.out _ (HL.out.later HBW.out)).mono ?_; rintro e we ⟨rfl, HBx⟩; have HBW : Hid (Below w.heap.size w we) := Lib.hid (HBW.out.trans (HBx.out.mono HBW.out.size)); clear HBx)
        | (go_at_call 32; with_reducible (show Calls Try.prog _ #[.slice A2 _ c2] _ _); refine (hr2.out _ (HM.out.later HBW.out)).mono ?_; rintro e we ⟨rfl, HBx⟩; have HBW : Hid (Below w.heap.size w we) := Lib.hid (HBW.out.trans (HBx.out.mono HBW.out.size)); clear HBx)
        | (go_at_call 34; refine (hsm.out _ (HL.out.later HBW.out) (HM.out.later HBW.out)).mono ?_; rintro e we ⟨rfl, HBx⟩; have HBW : Hid (Below w.heap.size w we) := Lib.hid (HBW.out.trans (HBx.out.mono HBW.out.size)); clear HBx)
        | (go_at_call 28; refine (kit_calls _).mono ?_; rintro e we ⟨kv, hv, rfl, HK2, HBx⟩; obtain ⟨g1, g2, hk1, hk2⟩ := HK2.out; obtain ⟨B1, e1, hv1, -⟩ := hk1; obtain ⟨B2, e2, hv2, -⟩ := hk2; subst hv1; subst hv2; have HBW : Hid (Below w.heap.size w we) := Lib.hid (HBW.out.trans (HBx.out.mono HBW.out.size)); clear HBx))
            obtain ⟨kv, hkv⟩ : ∃ kv, Value.slice B1 K64.length e1 = kv := ⟨_, rfl⟩
            obtain ⟨hv, hhv⟩ : ∃ hv, Value.slice B2 H8.length e2 = hv := ⟨_, rfl⟩
            rw [hkv, hhv]
            rw [hkv, hhv] at HK2
            have h0 := heap_alloc_new we (.cells #[kv, hv] 47)
            have HK3 := Lib.hid (HK2.out.later ((Below.refl _ _).alloc (Nat.le_refl _) (.cells #[kv, hv] 47)))
            have HB3 := Lib.hid (HBW.out.alloc HBW.out.size (.cells #[kv, hv] 47))
            obtain ⟨kb, hkb⟩ : ∃ kb, we.heap.size = kb := ⟨_, rfl⟩
            obtain ⟨W0, hW0⟩ : ∃ W0, we.alloc (.cells #[kv, hv] 47) = W0 := ⟨_, rfl⟩
            rw [hW0, hkb] at h0
            rw [hW0] at HK3 HB3
            rw [hW0, hkb]
            have HS : Hid (∀ W, Below W0.heap.size W0 W → W.cell? ⟨kb, 0, none⟩ = some kv ∧ W.cell? ⟨kb, 1, none⟩ = some hv) := Lib.hid (fun W h => by
              have h1 := (h.block kb (Array.getElem?_eq_some_iff.1 h0).1).trans h0
              exact ⟨by rw [cell_of_row W kb 0 _ _ _ h1]; rfl, by rw [cell_of_row W kb 1 _ _ _ h1]; rfl⟩)
            have HTW : Hid (∀ W, Below W0.heap.size W0 W → Below w.heap.size w W) := Lib.hid (fun W h => HB3.out.trans (h.mono HB3.out.size))
            have HBA : Hid (Below W0.heap.size W0 W0) := Lib.hid (Below.refl _ _)
            obtain ⟨kc0, kc1⟩ := HS.out _ HBA.out
            clear h0 hW0 hkb hkv hhv HBW hr1 hr2 hsm hg1 hg2 HK2
            go_wp2_with (first
              | (go_at_call 35; with_reducible (show Calls Try.prog _ #[_, .slice A1 _ c1] _ _); refine (hkr1.out _ _ _ (HL.out.later (HTW.out _ HBA.out)) HK3.out).mono ?_; rintro e w2 ⟨pv1, rfl, HQ1, HBx⟩; have HBB := Lib.hid (HBA.out.trans (HBx.out.mono HBA.out.size)); obtain ⟨kc0, kc1⟩ := HS.out _ HBB.out)
              | (go_at_call 35; with_reducible (show Calls Try.prog _ #[_, .slice A2 _ c2] _ _); refine (hkr2.out _ _ _ (HM.out.later (HTW.out _ HBB.out)) (HK3.out.later HBB.out)).mono ?_; rintro e w3 ⟨pv2, rfl, HQ2, HBy⟩; have HBC := Lib.hid (HBB.out.trans (HBy.out.mono HBB.out.size)); have HQ1b := Lib.hid ((HQ1.out.later HBy.out).mono (b' := w.heap.size) (HTW.out _ HBA.out).size); have HTC := Lib.hid (HTW.out _ HBC.out); obtain ⟨gq, hq2⟩ := HQ2.out.reads; have HQ2b := Lib.hid hq2; clear hq2)
              | (refine PO.append_on HQ1b.out HQ2b.out hp2 rfl _ _ rfl rfl rfl HTC.out.size (by omega) ?_; intro v1 w4 HO HG4 HG5)
              | (go_at_call 36; obtain ⟨gr, hrd⟩ := PO.reads HO; refine (clash_calls gr v1 (P1 ++ P2) _ hrd HC.out (by rw [List.length_append]; omega)).mono ?_; rintro e w5 ⟨rfl, HB5⟩))
            go_ret
            have hb4 := HTC.out.grown HG4 HTC.out.size (fun k hk => HQ1b.out.base k hk)
            exact ⟨rfl, hb4.trans (HB5.out.mono hb4.size)⟩
          · have hne := toList_ne2 hdd
            clear hkr1 hkr2 hcl hsd hst hdd
            generalize rootD ss = D1 at hr1 hr2 hne
            generalize rootD tt = D2 at hr1 hr2 hne
            go_wp2_with (first
        | (go_at_call 27; refine haw.out.mono ?_; rintro e w1 ⟨rfl, HB1⟩)
        | (go_at_call 33; with_reducible (show Calls Try.prog _ #[.slice A1 _ c1] _ _); refine (hg1.out _ (HL.out.later HB1.out)).mono ?_; rw [HG.out]; rintro e w2 ⟨rfl, HB2⟩)
        | (go_at_call 33; with_reducible (show Calls Try.prog _ #[.slice A2 _ c2] _ _); refine (hg2.out _ (HM.out.later (HB1.out.trans (HB2.out.mono HB1.out.size)))).mono ?_; rw [HG2.out]; rintro e w3 ⟨rfl, HB3⟩; have HBW : Hid (Below w.heap.size w w3) := Lib.hid ((HB1.out.trans (HB2.out.mono HB1.out.size)).trans (HB3.out.mono (Nat.le_trans HB1.out.size HB2.out.size))))
        | (go_at_call 32; with_reducible (show Calls Try.prog _ #[.slice A1 _ c1] _ _); refine (hr1.out _ (HL.out.later HBW.out)).mono ?_; rintro e we ⟨rfl, HBx⟩; have HBW : Hid (Below w.heap.size w we) := Lib.hid (HBW.out.trans (HBx.out.mono HBW.out.size)); clear HBx)
        | (go_at_call 32; with_reducible (show Calls Try.prog _ #[.slice A2 _ c2] _ _); refine (hr2.out _ (HM.out.later HBW.out)).mono ?_; rintro e we ⟨rfl, HBx⟩; have HBW : Hid (Below w.heap.size w we) := Lib.hid (HBW.out.trans (HBx.out.mono HBW.out.size)); clear HBx)
        | (go_at_call 34; refine (hsm.out _ (HL.out.later HBW.out) (HM.out.later HBW.out)).mono ?_; rintro e we ⟨rfl, HBx⟩; have HBW : Hid (Below w.heap.size w we) := Lib.hid (HBW.out.trans (HBx.out.mono HBW.out.size)); clear HBx)
        | (go_at_call 28; refine (kit_calls _).mono ?_; rintro e we ⟨kv, hv, rfl, HK2, HBx⟩; obtain ⟨g1, g2, hk1, hk2⟩ := HK2.out; obtain ⟨B1, e1, hv1, -⟩ := hk1; obtain ⟨B2, e2, hv2, -⟩ := hk2; subst hv1; subst hv2; have HBW : Hid (Below w.heap.size w we) := Lib.hid (HBW.out.trans (HBx.out.mono HBW.out.size)); clear HBx))
            go_ret
            exact ⟨rfl, HBW.out⟩
end Go.Proofs.Ytmhjocbnoppbbaa.Mk
