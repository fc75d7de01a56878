/- The reference's root of any blocks. -/
import Derived.Test.YtmhjocbnoppbbaaDoorRoot9
namespace Go.Proofs.YtmhjocbnoppbbaaDoor.Mk
open Go.RowKit Go.Proofs.YtmhjocbnoppbbaaDoor.Sha
set_option linter.unusedVariables false
set_option linter.unusedSimpArgs false

theorem pairsT_pos (ss : List ByteArray) : 0 < (pairsT ss).length := by
  by_cases h0 : ss.length = 0
  · rw [List.eq_nil_of_length_eq_zero h0, pairsT_nil]; simp
  · by_cases h1 : ss.length = 1
    · match ss, h1 with
      | [s], _ => rw [pairsT_one]; simp
    · rw [pairsT_more (by omega), List.length_append, List.length_singleton]; omega
set_option maxHeartbeats 4000000 in
set_option maxRecDepth 100000 in
theorem kroot_calls (kv hv : Value) (n : Nat) : ∀ (g : Nat) (v : Value) (ss : List ByteArray) (w : World), ss.length = n → n ≤ 1000 → (∀ s ∈ ss, s.size ≤ 100000) → SR w g v ss → KitS w kv hv →
    Calls Tryd.prog 20 #[.agg #[kv, hv], v] w fun e w' => ∃ pv, e = .returned (.tuple #[.string (rootD ss), pv]) ∧ Hid (PO w' w.heap.size pv (pairsT ss)) ∧ Hid (Below w.heap.size w w') := by
  induction n using Nat.strongRecOn with
  | _ n ih =>
    intro g v ss w hlen hn hss hsr hk
    by_cases h0 : n = 0
    · have hnil : ss = [] := List.eq_nil_of_length_eq_zero (by omega)
      subst hnil
      obtain ⟨A, c, rfl, -, -, -⟩ := hsr
      have e : rootD [] = emptyD := by unfold rootD; rw [if_pos rfl]
      rw [e, pairsT_nil]
      exact kroot0_calls kv hv A c w hk
    · by_cases h1 : n = 1
      · obtain ⟨s, rfl⟩ : ∃ s, ss = [s] := by
          match ss, hlen with
          | [s], _ => exact ⟨s, rfl⟩
          | [], h => simp at h; omega
          | _ :: _ :: _, h => simp at h; omega
        obtain ⟨o, c, rfl, hc1, hc2, hcell⟩ := hsr.form (by simp)
        rw [rootD_single, pairsT_one]
        exact kroot1_calls kv hv g o c s w hk (by simpa using hcell 0 s rfl) (hss s (by simp)) hc1 hc2
      · have h2 : 2 ≤ n := by omega
        obtain ⟨o, c, hv0, hc1, hc2, hcell⟩ := hsr.form (by omega)
        rw [hlen] at hv0 hc1
        subst hv0
        have hl := hb_lt h2
        have hp := hb_pos n
        have hkc := SR_take (k := hb n) hcell hlen hc1 hc2 (by omega)
        have hkd := SR_drop (k := hb n) hcell hlen hc1 hc2 (by omega)
        have i1 := fun W (b : Below w.heap.size w W) => ih (hb n) hl g (.slice (some ⟨g, o, none⟩) (hb n) c) (ss.take (hb n)) W (by rw [List.length_take]; omega) (by omega) (fun s hs => hss s (List.mem_of_mem_take hs)) (hkc.later b) (hk.later b)
        have i2 := fun W (b : Below w.heap.size w W) => ih (n - hb n) (by omega) g (.slice (some ⟨g, o + hb n, none⟩) (n - hb n) (c - hb n)) (ss.drop (hb n)) W (by rw [List.length_drop, hlen]) (by omega) (fun s hs => hss s (List.mem_of_mem_drop hs)) (hkd.later b) (hk.later b)
        have hR := rootD_more (ss := ss) (by omega)
        have hP := pairsT_more (ss := ss) (by omega)
        have p1 := pairsT_pos (ss.take (hb n))
        have p2 := pairsT_pos (ss.drop (hb n))
        have p3 := pairsT_length (ss.take (hb n))
        have p4 := pairsT_length (ss.drop (hb n))
        rw [List.length_take] at p3
        rw [List.length_drop] at p4
        have z1 := rootD_size (ss.take (hb n))
        have z2 := rootD_size (ss.drop (hb n))
        rw [hlen] at hR hP
        have hdg := dig_nodeIn (rootD (ss.take (hb n))) (rootD (ss.drop (hb n)))
        rw [← hR] at hdg
        have hhf := fun W => half_calls n W h2 (by omega)
        rw [hP]
        clear hP hR ih hss hsr hcell hkc hkd
        generalize rootD (ss.take (hb n)) = RA at i1 hdg z1 ⊢
        generalize rootD (ss.drop (hb n)) = RB at i2 hdg z2 ⊢
        generalize pairsT (ss.take (hb n)) = PA at i1 p1 p3 ⊢
        generalize pairsT (ss.drop (hb n)) = PB at i2 p2 p4 ⊢
        generalize rootD ss = D at hdg ⊢
        generalize hb n = k at i1 i2 hl hp hhf p3 p4
        have ha1 : ∀ w, (Op.stringOp .add ⟨#[1]⟩ RA).run Tryd.prog w = .ok (.string (⟨#[1]⟩ ++ RA)) w := fun w => run_string_add_sum w _ _ (by show 1 + RA.size ≤ _; omega)
        have zz1 : (⟨#[1]⟩ ++ RA : ByteArray).size = 33 := by rw [append_sz, z1]; rfl
        have ha2 : ∀ w, (Op.stringOp .add (⟨#[1]⟩ ++ RA) RB).run Tryd.prog w = .ok (.string (nodeIn RA RB)) w := fun w => run_string_add_sum w _ _ (by omega)
        have hxs : (nodeIn RA RB).size ≤ 1000000 := by unfold nodeIn; rw [append_sz, zz1]; omega
        generalize nodeIn RA RB = X at hdg ha2 hxs ⊢
        generalize (⟨#[1]⟩ ++ RA : ByteArray) = X1 at ha1 ha2
        have HXS := Lib.hid hxs
        have HDG := Lib.hid hdg
        have I1 := Lib.hid i1
        have I2 := Lib.hid i2
        have HHF := Lib.hid hhf
        have HK := Lib.hid hk
        have HPc := Lib.hid p3
        have HPd := Lib.hid p4
        have HPa := Lib.hid p1
        have HPb := Lib.hid p2
        clear i1 i2 hhf hk hdg hxs zz1 z1 z2 p1 p2 p3 p4 h1
        have b1 : (k : Int) < (n : Int) := by omega
        have b2 : (n : Int) ≤ (c : Int) := by omega
        have b3 : (c : Int) ≤ 9223372036854775807 := by omega
        have b4 : (1 : Int) < (n : Int) := by omega
        have b5 : (k : Int) ≤ (c : Int) := by omega
        have b6 : (k : Int) ≤ (n : Int) := by omega
        have b7 : (0 : Int) ≤ (k : Int) := by omega
        have b8 : k ≤ c := by omega
        have b9 : k ≤ n := by omega
        have b10 : ¬ c = k := by omega
        go_enter Tryd.func20, Tryd.ntmps20
        have hc0 := heap_alloc_new w (.cells #[kv, hv] 47)
        have HB0 : Hid (Below w.heap.size w (w.alloc (.cells #[kv, hv] 47))) := Lib.hid ((Below.refl _ _).alloc (Nat.le_refl _) _)
        have hkl : w.heap.size < (w.alloc (.cells #[kv, hv] 47)).heap.size := by simp
        go_upto_region 9 with ((go_at_call 46; refine (HHF.out _).mono ?_; rintro e w1 ⟨rfl, HB1⟩))
        obtain ⟨W0, hW0⟩ : ∃ W0, w.alloc (.cells #[kv, hv] 47) = W0 := ⟨_, rfl⟩
        rw [hW0] at hc0 HB0 hkl HB1
        have HS : Hid (∀ W, Below W0.heap.size W0 W → W.cell? ⟨w.heap.size, 0, none⟩ = some kv ∧ W.cell? ⟨w.heap.size, 1, none⟩ = some hv) := Lib.hid (fun W h => by
          have h1 := (h.block w.heap.size hkl).trans hc0
          exact ⟨by rw [cell_of_row W w.heap.size 0 _ _ _ h1]; rfl, by rw [cell_of_row W w.heap.size 1 _ _ _ h1]; rfl⟩)
        have HTW : Hid (∀ W, Below W0.heap.size W0 W → Below w.heap.size w W) := Lib.hid (fun W h => HB0.out.trans (h.mono HB0.out.size))
        have HBA := Lib.hid HB1.out.drew
        clear hc0 hW0 hkl
        go_region_held3 (fun W => W.cell? ⟨w.heap.size, 0, none⟩ = some kv ∧ W.cell? ⟨w.heap.size, 1, none⟩ = some hv)
          (first | (go_keep; done) | exact HS.out _ HBA.out | exact HS.out _ HBB.out)
          ((go_at_call 20; refine (I1.out _ (HTW.out _ HBA.out)).mono ?_; rintro e w2 ⟨pv1, rfl, HQ1, HBx⟩; have HBB := Lib.hid (HBA.out.trans (HBx.out.mono HBA.out.size))))
        go_upto_region 10 with (fail)
        have HBB2 := Lib.hid HBB.out.drew
        clear HBA
        go_region_held3 (fun W => W.cell? ⟨w.heap.size, 0, none⟩ = some kv ∧ W.cell? ⟨w.heap.size, 1, none⟩ = some hv)
          (first | (go_keep; done) | exact HS.out _ HBB2.out | exact HS.out _ HBC.out)
          ((go_at_call 20; (try rw [if_neg b10]); refine (I2.out _ (HTW.out _ HBB2.out)).mono ?_; rintro e w3 ⟨pv2, rfl, HQ2, HBy⟩; have HBC := Lib.hid (HBB2.out.trans (HBy.out.mono HBB2.out.size))))
        have hkc := HS.out _ HBC.out
        obtain ⟨kc0, kc1⟩ := hkc
        have HK3 := Lib.hid (HK.out.later (HTW.out _ HBC.out))
        have HQ1b := Lib.hid ((HQ1.out.later (of_drew HBy.out)).mono (b' := w.heap.size) (by have := (HTW.out _ HBB.out).size; have := HBx.out.size; have := HB1.out.size; have := HB0.out.size; simp at *; omega))
        have HQ2b := Lib.hid (HQ2.out.mono (b' := w.heap.size) (HTW.out _ HBB2.out).size)
        have HTC := Lib.hid (HTW.out _ HBC.out)
        go_upto_region 13 with ((go_at_call 45; refine (kitSum_calls kv hv X _ HK3.out HXS.out).mono ?_; rw [HDG.out]; rintro e w4 ⟨rfl, HB4⟩))
        have h0 := heap_alloc_new w4 (.cells #[.string X, .string D] 85)
        have hbw := ((HTC.out.trans (HB4.out.mono HTC.out.size)).alloc (Nat.le_trans HTC.out.size HB4.out.size) (.cells #[.string X, .string D] 85)).drew
        have hb34 : Below w3.heap.size w3 (w4.alloc (.cells #[.string X, .string D] 85)).drew := (HB4.out.alloc HB4.out.size _).drew
        obtain ⟨pb, hpb⟩ : ∃ pb, w4.heap.size = pb := ⟨_, rfl⟩
        obtain ⟨W5, hW5⟩ : ∃ W, w4.alloc (.cells #[.string X, .string D] 85) = W := ⟨_, rfl⟩
        rw [hW5] at hbw h0 hb34
        rw [hpb] at h0
        rw [hW5, hpb]
        have q0 : W5.drew.cell? ⟨pb, 0, none⟩ = some (.string X) := by rw [cell_of_row W5.drew pb 0 _ _ _ h0]; rfl
        have q1 : W5.drew.cell? ⟨pb, 1, none⟩ = some (.string D) := by rw [cell_of_row W5.drew pb 1 _ _ _ h0]; rfl
        have hpl : pb < W5.drew.heap.size := (Array.getElem?_eq_some_iff.1 h0).1
        obtain ⟨g1, hr1⟩ := HQ1b.out.reads
        obtain ⟨g2, hr2⟩ := HQ2b.out.reads
        have hr1' := hr1.later hb34
        have hr2' := hr2.later hb34
        obtain ⟨V0, hV0⟩ : ∃ V, W5.drew = V := ⟨_, rfl⟩
        rw [hV0] at hbw q0 q1 hpl hr1' hr2'
        have HWd := Lib.hid hbw
        have HR1 : Hid (∀ W, Below V0.heap.size V0 W → PRd W g1 pv1 PA) := Lib.hid (fun W h => hr1'.later h)
        have HR2 : Hid (∀ W, Below V0.heap.size V0 W → PRd W g2 pv2 PB) := Lib.hid (fun W h => hr2'.later h)
        have HB0 := Below.refl V0.heap.size V0
        have c00 := q0
        have c10 := q1
        clear h0 hbw hb34 hW5 hpb hr1 hr2 hr1' hr2'
        refine wp_region_noPanic ?_
        refine wp_region_held_drew (S := fun W => W.cell? ⟨pb, 0, none⟩ = some (.string X) ∧ W.cell? ⟨pb, 1, none⟩ = some (.string D)) (by kernel_rfl) (by rw [hV0]; exact ⟨q0, q1⟩) (fun hHeld => ?_)
        rw [hV0] at hHeld ⊢
        clear hV0
        refine wpAnyH_take (i := 0) (oi := _) (v := ?_) rfl (by kernel_rfl) (by kernel_rfl) (by kernel_rfl) (fun _ _ _ h => h) (Or.inl ⟨by rfl, ?_⟩) (by assumption) ?_
        rotate_left
        · (intro w hSw; (try dsimp only at hSw); go_simp; (try with_reducible rfl))
        try simp only [Act.put, List.setIfInBounds_toArray, List.set_cons_zero, List.set_cons_succ]
        refine wpAnyH_take (i := 1) (oi := _) (v := ?_) rfl (by kernel_rfl) (by kernel_rfl) (by kernel_rfl) (fun _ _ _ h => h) (Or.inl ⟨by rfl, ?_⟩) (by assumption) ?_
        rotate_left
        · (intro w hSw; (try dsimp only at hSw); go_simp; (try with_reducible rfl))
        try simp only [Act.put, List.setIfInBounds_toArray, List.set_cons_zero, List.set_cons_succ]
        refine wpAnyH_take (i := 3) (oi := _) (v := ?_) rfl (by kernel_rfl) (by kernel_rfl) (by kernel_rfl) (fun _ _ _ h => h) (Or.inl ⟨by rfl, ?_⟩) (by assumption) ?_
        rotate_left
        · (intro w hSw; (try dsimp only at hSw); go_simp; (try with_reducible rfl))
        try simp only [Act.put, List.setIfInBounds_toArray, List.set_cons_zero, List.set_cons_succ]
        refine wpAnyH_take (i := 5) (oi := _) (v := ?_) rfl (by kernel_rfl) (by kernel_rfl) (by kernel_rfl) (fun _ _ _ h => h) (Or.inl ⟨by rfl, ?_⟩) (by assumption) ?_
        rotate_left
        · (intro w hSw; (try dsimp only at hSw); go_simp; (try with_reducible rfl))
        try simp only [Act.put, List.setIfInBounds_toArray, List.set_cons_zero, List.set_cons_succ]
        refine wpAnyH_take (i := 7) (oi := _) (v := ?_) rfl (by kernel_rfl) (by kernel_rfl) (by kernel_rfl) (fun _ _ _ h => h) (Or.inl ⟨by rfl, ?_⟩) (by assumption) ?_
        rotate_left
        · (intro w hSw; (try dsimp only at hSw); go_simp; (try with_reducible rfl))
        try simp only [Act.put, List.setIfInBounds_toArray, List.set_cons_zero, List.set_cons_succ]
        refine wpAnyH_ready (rs := [2, 8]) (by kernel_rfl) (by simp) ?_
        refine AllReadyH.cons (o := _) rfl (fun K hK => ?_) (AllReadyH.cons (o := _) rfl (fun K hK => ?_) (AllReadyH.nil))
        · go_simp
          refine hK.out _ _ ⟨?_, ?_⟩ (fun hHeld => ?_)
          · exact keepc c00 (Nat.lt_of_lt_of_le hpl HB0.size) _
          · exact keepc c10 (Nat.lt_of_lt_of_le hpl HB0.size) _
          clear hK K
          try simp only [Act.put, List.setIfInBounds_toArray, List.set_cons_zero, List.set_cons_succ]
          have HB1 := HB0.alloc HB0.size (.cells #[] 85)
          have c01 := keepc c00 (Nat.lt_of_lt_of_le hpl HB0.size) (.cells #[] 85)
          have c11 := keepc c10 (Nat.lt_of_lt_of_le hpl HB0.size) (.cells #[] 85)
          have HP1 := PO.fresh V0 w.heap.size (Nat.le_trans HWd.out.size HB0.size)
          have hq1 : ∀ k, (Value.slice (some ⟨V0.heap.size, 0, none⟩) 0 0).ownBlock = some k → k ≠ pb := fun k hk e => by have := HB0.size; simp [Value.ownBlock] at hk; omega
          have hs1 : ∀ k, (Value.slice (some ⟨V0.heap.size, 0, none⟩) 0 0).ownBlock = some k → V0.heap.size ≤ k := fun k hk => by have := HB0.size; simp [Value.ownBlock] at hk; omega
          obtain ⟨v1, hv1⟩ : ∃ v, Value.slice (some ⟨V0.heap.size, 0, none⟩) 0 0 = v := ⟨_, rfl⟩
          rw [hv1] at HP1 hq1 hs1
          try rw [hv1]
          obtain ⟨V1, hW1⟩ : ∃ W, V0.alloc (.cells #[] 85) = W := ⟨_, rfl⟩
          rw [hW1] at HB1 c01 c11 HP1
          rw [hW1]
          refine wpAnyH_ready (rs := [4, 8]) (by kernel_rfl) (by simp) ?_
          refine AllReadyH.cons (o := _) rfl (fun K hK => ?_) (AllReadyH.cons (o := _) rfl (fun K hK => ?_) (AllReadyH.nil))
          · refine PO.append_wp (ops := _) (base := w.heap.size) HP1 (HR1.out _ HB1) HPa.out rfl _ _ (by rfl) (by rfl) (by rfl) (Nat.le_trans HWd.out.size HB1.size) (by have := HPc.out; have := HPd.out; simp only [List.length_append, List.length_nil, List.length_singleton, List.nil_append]; omega) ?_
            intro v2 V2 HP2 hg2 hk2
            refine hK.out _ _ ⟨?_, ?_⟩ (fun hHeld => ?_)
            · exact hg2.cell c01 (fun e => hq1 pb e.symm rfl)
            · exact hg2.cell c11 (fun e => hq1 pb e.symm rfl)
            clear hK K
            try simp only [Act.put, List.setIfInBounds_toArray, List.set_cons_zero, List.set_cons_succ]
            have HB2 := HB1.grown hg2 HB1.size (fun k hk => by have := World.ownsRow.lt HP1 k hk; have := hs1 k hk; omega)
            have c02 := hg2.cell c01 (fun e => hq1 pb e.symm rfl)
            have c12 := hg2.cell c11 (fun e => hq1 pb e.symm rfl)
            have hq2 : ∀ k, v2.ownBlock = some k → k ≠ pb := fun k hk e => by rcases hk2 with h | h <;> first | exact (hq1 k (by rw [← h]; exact hk) e) | (rw [h] at hk; injection hk with hk; have := HB1.size; omega)
            have hs2 : ∀ k, v2.ownBlock = some k → V0.heap.size ≤ k := fun k hk => by rcases hk2 with h | h <;> first | exact (hs1 k (by rw [← h]; exact hk)) | (rw [h] at hk; injection hk with hk; have := HB1.size; omega)
            refine wpAnyH_ready (rs := [6, 8]) (by kernel_rfl) (by simp) ?_
            refine AllReadyH.cons (o := _) rfl (fun K hK => ?_) (AllReadyH.cons (o := _) rfl (fun K hK => ?_) (AllReadyH.nil))
            · refine PO.append_wp (ops := _) (base := w.heap.size) HP2 (HR2.out _ HB2) HPb.out rfl _ _ (by rfl) (by rfl) (by rfl) (Nat.le_trans HWd.out.size HB2.size) (by have := HPc.out; have := HPd.out; simp only [List.length_append, List.length_nil, List.length_singleton, List.nil_append]; omega) ?_
              intro v3 V3 HP3 hg3 hk3
              refine hK.out _ _ ⟨?_, ?_⟩ (fun hHeld => ?_)
              · exact hg3.cell c02 (fun e => hq2 pb e.symm rfl)
              · exact hg3.cell c12 (fun e => hq2 pb e.symm rfl)
              clear hK K
              try simp only [Act.put, List.setIfInBounds_toArray, List.set_cons_zero, List.set_cons_succ]
              have HB3 := HB2.grown hg3 HB2.size (fun k hk => by have := World.ownsRow.lt HP2 k hk; have := hs2 k hk; omega)
              have c03 := hg3.cell c02 (fun e => hq2 pb e.symm rfl)
              have c13 := hg3.cell c12 (fun e => hq2 pb e.symm rfl)
              have hq3 : ∀ k, v3.ownBlock = some k → k ≠ pb := fun k hk e => by rcases hk3 with h | h <;> first | exact (hq2 k (by rw [← h]; exact hk) e) | (rw [h] at hk; injection hk with hk; have := HB2.size; omega)
              have hs3 : ∀ k, v3.ownBlock = some k → V0.heap.size ≤ k := fun k hk => by rcases hk3 with h | h <;> first | exact (hs2 k (by rw [← h]; exact hk)) | (rw [h] at hk; injection hk with hk; have := HB2.size; omega)
              refine wpAnyH_ready (rs := [8]) (by kernel_rfl) (by simp) ?_
              refine AllReadyH.cons (o := _) rfl (fun K hK => ?_) (AllReadyH.nil)
              go_simp
              refine hK.out _ _ ⟨?_, ?_⟩ (fun hHeld => ?_)
              · exact keepc c03 (Nat.lt_of_lt_of_le hpl HB3.size) _
              · exact keepc c13 (Nat.lt_of_lt_of_le hpl HB3.size) _
              clear hK K
              try simp only [Act.put, List.setIfInBounds_toArray, List.set_cons_zero, List.set_cons_succ]
              have HB4 := HB3.alloc HB3.size (.cells #[.string X, .string D] 85)
              have c04 := keepc c03 (Nat.lt_of_lt_of_le hpl HB3.size) (.cells #[.string X, .string D] 85)
              have c14 := keepc c13 (Nat.lt_of_lt_of_le hpl HB3.size) (.cells #[.string X, .string D] 85)
              have HL4 := PRd.lit V3 X D
              obtain ⟨gl, hgl⟩ : ∃ gl, V3.heap.size = gl := ⟨_, rfl⟩
              have HP4 := HP3.alloc (.cells #[.string X, .string D] 85)
              have hq4 := hq3
              have hs4 := hs3
              have hn4 : ∀ k, v3.ownBlock = some k → k ≠ gl := fun k hk e => by have := (World.ownsRow.lt HP3 k hk).2; omega
              obtain ⟨vl, hvl⟩ : ∃ v, Value.slice (some ⟨V3.heap.size, 0, none⟩) 1 1 = v := ⟨_, rfl⟩
              rw [hvl, hgl] at HL4
              try rw [hvl]
              obtain ⟨V4, hW4⟩ : ∃ W, V3.alloc (.cells #[.string X, .string D] 85) = W := ⟨_, rfl⟩
              rw [hW4] at HB4 c04 c14 HP4 HL4
              rw [hW4]
              refine wpAnyH_ready (rs := [9]) (by kernel_rfl) (by simp) ?_
              refine AllReadyH.cons (o := _) rfl (fun K hK => ?_) (AllReadyH.nil)
              refine PO.append_wp (ops := _) (base := w.heap.size) HP4 HL4 (by simp) rfl _ _ (by rfl) (by rfl) (by rfl) (Nat.le_trans HWd.out.size HB4.size) (by have := HPc.out; have := HPd.out; simp only [List.length_append, List.length_nil, List.length_singleton, List.nil_append]; omega) ?_
              intro v5 V5 HP5 hg5 hk5
              refine hK.out _ _ ⟨?_, ?_⟩ (fun hHeld => ?_)
              · exact hg5.cell c04 (fun e => hq4 pb e.symm rfl)
              · exact hg5.cell c14 (fun e => hq4 pb e.symm rfl)
              clear hK K
              try simp only [Act.put, List.setIfInBounds_toArray, List.set_cons_zero, List.set_cons_succ]
              have HB5 := HB4.grown hg5 HB4.size (fun k hk => by have := World.ownsRow.lt HP4 k hk; have := hs4 k hk; omega)
              have c05 := hg5.cell c04 (fun e => hq4 pb e.symm rfl)
              have c15 := hg5.cell c14 (fun e => hq4 pb e.symm rfl)
              have hq5 : ∀ k, v5.ownBlock = some k → k ≠ pb := fun k hk e => by rcases hk5 with h | h <;> first | exact (hq4 k (by rw [← h]; exact hk) e) | (rw [h] at hk; injection hk with hk; have := HB4.size; omega)
              have hs5 : ∀ k, v5.ownBlock = some k → V0.heap.size ≤ k := fun k hk => by rcases hk5 with h | h <;> first | exact (hs4 k (by rw [← h]; exact hk)) | (rw [h] at hk; injection hk with hk; have := HB4.size; omega)
              refine wpAnyH_take (i := 10) (oi := _) (v := ?_) rfl (by kernel_rfl) (by kernel_rfl) (by kernel_rfl) (fun _ _ _ h => h) (Or.inl ⟨by rfl, ?_⟩) (by assumption) ?_
              rotate_left
              · (intro w hSw; (try dsimp only at hSw); go_simp; (try with_reducible rfl))
              try simp only [Act.put, List.setIfInBounds_toArray, List.set_cons_zero, List.set_cons_succ]
              refine wpAnyH_take (i := 11) (oi := _) (v := ?_) rfl (by kernel_rfl) (by kernel_rfl) (by kernel_rfl) (fun _ _ _ h => h) (Or.inl ⟨by rfl, ?_⟩) (by assumption) ?_
              rotate_left
              · (intro w hSw; (try dsimp only at hSw); go_simp; (try with_reducible rfl))
              try simp only [Act.put, List.setIfInBounds_toArray, List.set_cons_zero, List.set_cons_succ]
              refine wpAnyH_done (by kernel_rfl) ?_ _
              refine NoPanic.normal ?_
              simp only [List.getElem_toArray, List.getElem_cons_succ, List.getElem_cons_zero, List.setIfInBounds_toArray, List.set_cons_zero, List.set_cons_succ]
              go_wp2
              go_ret2
              exact ⟨v5, rfl, Lib.hid (by have := HP5; rw [List.nil_append] at this; first | exact this | (rw [List.append_assoc] at this; exact this)), Lib.hid (HWd.out.trans (HB5.mono HWd.out.size))⟩
            · go_simp
              refine hK.out _ _ ⟨?_, ?_⟩ (fun hHeld => ?_)
              · exact keepc c02 (Nat.lt_of_lt_of_le hpl HB2.size) _
              · exact keepc c12 (Nat.lt_of_lt_of_le hpl HB2.size) _
              clear hK K
              try simp only [Act.put, List.setIfInBounds_toArray, List.set_cons_zero, List.set_cons_succ]
              have HB3 := HB2.alloc HB2.size (.cells #[.string X, .string D] 85)
              have c03 := keepc c02 (Nat.lt_of_lt_of_le hpl HB2.size) (.cells #[.string X, .string D] 85)
              have c13 := keepc c12 (Nat.lt_of_lt_of_le hpl HB2.size) (.cells #[.string X, .string D] 85)
              have HL3 := PRd.lit V2 X D
              obtain ⟨gl, hgl⟩ : ∃ gl, V2.heap.size = gl := ⟨_, rfl⟩
              have HP3 := HP2.alloc (.cells #[.string X, .string D] 85)
              have hq3 := hq2
              have hs3 := hs2
              have hn3 : ∀ k, v2.ownBlock = some k → k ≠ gl := fun k hk e => by have := (World.ownsRow.lt HP2 k hk).2; omega
              obtain ⟨vl, hvl⟩ : ∃ v, Value.slice (some ⟨V2.heap.size, 0, none⟩) 1 1 = v := ⟨_, rfl⟩
              rw [hvl, hgl] at HL3
              try rw [hvl]
              obtain ⟨V3, hW3⟩ : ∃ W, V2.alloc (.cells #[.string X, .string D] 85) = W := ⟨_, rfl⟩
              rw [hW3] at HB3 c03 c13 HP3 HL3
              rw [hW3]
              refine wpAnyH_ready (rs := [6]) (by kernel_rfl) (by simp) ?_
              refine AllReadyH.cons (o := _) rfl (fun K hK => ?_) (AllReadyH.nil)
              refine PO.append_wp (ops := _) (base := w.heap.size) HP3 (HR2.out _ HB3) HPb.out rfl _ _ (by rfl) (by rfl) (by rfl) (Nat.le_trans HWd.out.size HB3.size) (by have := HPc.out; have := HPd.out; simp only [List.length_append, List.length_nil, List.length_singleton, List.nil_append]; omega) ?_
              intro v4 V4 HP4 hg4 hk4
              refine hK.out _ _ ⟨?_, ?_⟩ (fun hHeld => ?_)
              · exact hg4.cell c03 (fun e => hq3 pb e.symm rfl)
              · exact hg4.cell c13 (fun e => hq3 pb e.symm rfl)
              clear hK K
              try simp only [Act.put, List.setIfInBounds_toArray, List.set_cons_zero, List.set_cons_succ]
              have HB4 := HB3.grown hg4 HB3.size (fun k hk => by have := World.ownsRow.lt HP3 k hk; have := hs3 k hk; omega)
              have c04 := hg4.cell c03 (fun e => hq3 pb e.symm rfl)
              have c14 := hg4.cell c13 (fun e => hq3 pb e.symm rfl)
              have hq4 : ∀ k, v4.ownBlock = some k → k ≠ pb := fun k hk e => by rcases hk4 with h | h <;> first | exact (hq3 k (by rw [← h]; exact hk) e) | (rw [h] at hk; injection hk with hk; have := HB3.size; omega)
              have hs4 : ∀ k, v4.ownBlock = some k → V0.heap.size ≤ k := fun k hk => by rcases hk4 with h | h <;> first | exact (hs3 k (by rw [← h]; exact hk)) | (rw [h] at hk; injection hk with hk; have := HB3.size; omega)
              have HL4 := HL3.kept hg4 (fun e => hn3 gl e.symm rfl)
              have hn4 : ∀ k, v4.ownBlock = some k → k ≠ gl := fun k hk e => by rcases hk4 with h | h <;> first | exact (hn3 k (by rw [← h]; exact hk) e) | (rw [h] at hk; injection hk with hk; have := HL3.lt (by simp); omega)
              refine wpAnyH_ready (rs := [9]) (by kernel_rfl) (by simp) ?_
              refine AllReadyH.cons (o := _) rfl (fun K hK => ?_) (AllReadyH.nil)
              refine PO.append_wp (ops := _) (base := w.heap.size) HP4 HL4 (by simp) rfl _ _ (by rfl) (by rfl) (by rfl) (Nat.le_trans HWd.out.size HB4.size) (by have := HPc.out; have := HPd.out; simp only [List.length_append, List.length_nil, List.length_singleton, List.nil_append]; omega) ?_
              intro v5 V5 HP5 hg5 hk5
              refine hK.out _ _ ⟨?_, ?_⟩ (fun hHeld => ?_)
              · exact hg5.cell c04 (fun e => hq4 pb e.symm rfl)
              · exact hg5.cell c14 (fun e => hq4 pb e.symm rfl)
              clear hK K
              try simp only [Act.put, List.setIfInBounds_toArray, List.set_cons_zero, List.set_cons_succ]
              have HB5 := HB4.grown hg5 HB4.size (fun k hk => by have := World.ownsRow.lt HP4 k hk; have := hs4 k hk; omega)
              have c05 := hg5.cell c04 (fun e => hq4 pb e.symm rfl)
              have c15 := hg5.cell c14 (fun e => hq4 pb e.symm rfl)
              have hq5 : ∀ k, v5.ownBlock = some k → k ≠ pb := fun k hk e => by rcases hk5 with h | h <;> first | exact (hq4 k (by rw [← h]; exact hk) e) | (rw [h] at hk; injection hk with hk; have := HB4.size; omega)
              have hs5 : ∀ k, v5.ownBlock = some k → V0.heap.size ≤ k := fun k hk => by rcases hk5 with h | h <;> first | exact (hs4 k (by rw [← h]; exact hk)) | (rw [h] at hk; injection hk with hk; have := HB4.size; omega)
              refine wpAnyH_take (i := 10) (oi := _) (v := ?_) rfl (by kernel_rfl) (by kernel_rfl) (by kernel_rfl) (fun _ _ _ h => h) (Or.inl ⟨by rfl, ?_⟩) (by assumption) ?_
              rotate_left
              · (intro w hSw; (try dsimp only at hSw); go_simp; (try with_reducible rfl))
              try simp only [Act.put, List.setIfInBounds_toArray, List.set_cons_zero, List.set_cons_succ]
              refine wpAnyH_take (i := 11) (oi := _) (v := ?_) rfl (by kernel_rfl) (by kernel_rfl) (by kernel_rfl) (fun _ _ _ h => h) (Or.inl ⟨by rfl, ?_⟩) (by assumption) ?_
              rotate_left
              · (intro w hSw; (try dsimp only at hSw); go_simp; (try with_reducible rfl))
              try simp only [Act.put, List.setIfInBounds_toArray, List.set_cons_zero, List.set_cons_succ]
              refine wpAnyH_done (by kernel_rfl) ?_ _
              refine NoPanic.normal ?_
              simp only [List.getElem_toArray, List.getElem_cons_succ, List.getElem_cons_zero, List.setIfInBounds_toArray, List.set_cons_zero, List.set_cons_succ]
              go_wp2
              go_ret2
              exact ⟨v5, rfl, Lib.hid (by have := HP5; rw [List.nil_append] at this; first | exact this | (rw [List.append_assoc] at this; exact this)), Lib.hid (HWd.out.trans (HB5.mono HWd.out.size))⟩
          · go_simp
            refine hK.out _ _ ⟨?_, ?_⟩ (fun hHeld => ?_)
            · exact keepc c01 (Nat.lt_of_lt_of_le hpl HB1.size) _
            · exact keepc c11 (Nat.lt_of_lt_of_le hpl HB1.size) _
            clear hK K
            try simp only [Act.put, List.setIfInBounds_toArray, List.set_cons_zero, List.set_cons_succ]
            have HB2 := HB1.alloc HB1.size (.cells #[.string X, .string D] 85)
            have c02 := keepc c01 (Nat.lt_of_lt_of_le hpl HB1.size) (.cells #[.string X, .string D] 85)
            have c12 := keepc c11 (Nat.lt_of_lt_of_le hpl HB1.size) (.cells #[.string X, .string D] 85)
            have HL2 := PRd.lit V1 X D
            obtain ⟨gl, hgl⟩ : ∃ gl, V1.heap.size = gl := ⟨_, rfl⟩
            have HP2 := HP1.alloc (.cells #[.string X, .string D] 85)
            have hq2 := hq1
            have hs2 := hs1
            have hn2 : ∀ k, v1.ownBlock = some k → k ≠ gl := fun k hk e => by have := (World.ownsRow.lt HP1 k hk).2; omega
            obtain ⟨vl, hvl⟩ : ∃ v, Value.slice (some ⟨V1.heap.size, 0, none⟩) 1 1 = v := ⟨_, rfl⟩
            rw [hvl, hgl] at HL2
            try rw [hvl]
            obtain ⟨V2, hW2⟩ : ∃ W, V1.alloc (.cells #[.string X, .string D] 85) = W := ⟨_, rfl⟩
            rw [hW2] at HB2 c02 c12 HP2 HL2
            rw [hW2]
            refine wpAnyH_ready (rs := [4]) (by kernel_rfl) (by simp) ?_
            refine AllReadyH.cons (o := _) rfl (fun K hK => ?_) (AllReadyH.nil)
            refine PO.append_wp (ops := _) (base := w.heap.size) HP2 (HR1.out _ HB2) HPa.out rfl _ _ (by rfl) (by rfl) (by rfl) (Nat.le_trans HWd.out.size HB2.size) (by have := HPc.out; have := HPd.out; simp only [List.length_append, List.length_nil, List.length_singleton, List.nil_append]; omega) ?_
            intro v3 V3 HP3 hg3 hk3
            refine hK.out _ _ ⟨?_, ?_⟩ (fun hHeld => ?_)
            · exact hg3.cell c02 (fun e => hq2 pb e.symm rfl)
            · exact hg3.cell c12 (fun e => hq2 pb e.symm rfl)
            clear hK K
            try simp only [Act.put, List.setIfInBounds_toArray, List.set_cons_zero, List.set_cons_succ]
            have HB3 := HB2.grown hg3 HB2.size (fun k hk => by have := World.ownsRow.lt HP2 k hk; have := hs2 k hk; omega)
            have c03 := hg3.cell c02 (fun e => hq2 pb e.symm rfl)
            have c13 := hg3.cell c12 (fun e => hq2 pb e.symm rfl)
            have hq3 : ∀ k, v3.ownBlock = some k → k ≠ pb := fun k hk e => by rcases hk3 with h | h <;> first | exact (hq2 k (by rw [← h]; exact hk) e) | (rw [h] at hk; injection hk with hk; have := HB2.size; omega)
            have hs3 : ∀ k, v3.ownBlock = some k → V0.heap.size ≤ k := fun k hk => by rcases hk3 with h | h <;> first | exact (hs2 k (by rw [← h]; exact hk)) | (rw [h] at hk; injection hk with hk; have := HB2.size; omega)
            have HL3 := HL2.kept hg3 (fun e => hn2 gl e.symm rfl)
            have hn3 : ∀ k, v3.ownBlock = some k → k ≠ gl := fun k hk e => by rcases hk3 with h | h <;> first | exact (hn2 k (by rw [← h]; exact hk) e) | (rw [h] at hk; injection hk with hk; have := HL2.lt (by simp); omega)
            refine wpAnyH_ready (rs := [6]) (by kernel_rfl) (by simp) ?_
            refine AllReadyH.cons (o := _) rfl (fun K hK => ?_) (AllReadyH.nil)
            refine PO.append_wp (ops := _) (base := w.heap.size) HP3 (HR2.out _ HB3) HPb.out rfl _ _ (by rfl) (by rfl) (by rfl) (Nat.le_trans HWd.out.size HB3.size) (by have := HPc.out; have := HPd.out; simp only [List.length_append, List.length_nil, List.length_singleton, List.nil_append]; omega) ?_
            intro v4 V4 HP4 hg4 hk4
            refine hK.out _ _ ⟨?_, ?_⟩ (fun hHeld => ?_)
            · exact hg4.cell c03 (fun e => hq3 pb e.symm rfl)
            · exact hg4.cell c13 (fun e => hq3 pb e.symm rfl)
            clear hK K
            try simp only [Act.put, List.setIfInBounds_toArray, List.set_cons_zero, List.set_cons_succ]
            have HB4 := HB3.grown hg4 HB3.size (fun k hk => by have := World.ownsRow.lt HP3 k hk; have := hs3 k hk; omega)
            have c04 := hg4.cell c03 (fun e => hq3 pb e.symm rfl)
            have c14 := hg4.cell c13 (fun e => hq3 pb e.symm rfl)
            have hq4 : ∀ k, v4.ownBlock = some k → k ≠ pb := fun k hk e => by rcases hk4 with h | h <;> first | exact (hq3 k (by rw [← h]; exact hk) e) | (rw [h] at hk; injection hk with hk; have := HB3.size; omega)
            have hs4 : ∀ k, v4.ownBlock = some k → V0.heap.size ≤ k := fun k hk => by rcases hk4 with h | h <;> first | exact (hs3 k (by rw [← h]; exact hk)) | (rw [h] at hk; injection hk with hk; have := HB3.size; omega)
            have HL4 := HL3.kept hg4 (fun e => hn3 gl e.symm rfl)
            have hn4 : ∀ k, v4.ownBlock = some k → k ≠ gl := fun k hk e => by rcases hk4 with h | h <;> first | exact (hn3 k (by rw [← h]; exact hk) e) | (rw [h] at hk; injection hk with hk; have := HL3.lt (by simp); omega)
            refine wpAnyH_ready (rs := [9]) (by kernel_rfl) (by simp) ?_
            refine AllReadyH.cons (o := _) rfl (fun K hK => ?_) (AllReadyH.nil)
            refine PO.append_wp (ops := _) (base := w.heap.size) HP4 HL4 (by simp) rfl _ _ (by rfl) (by rfl) (by rfl) (Nat.le_trans HWd.out.size HB4.size) (by have := HPc.out; have := HPd.out; simp only [List.length_append, List.length_nil, List.length_singleton, List.nil_append]; omega) ?_
            intro v5 V5 HP5 hg5 hk5
            refine hK.out _ _ ⟨?_, ?_⟩ (fun hHeld => ?_)
            · exact hg5.cell c04 (fun e => hq4 pb e.symm rfl)
            · exact hg5.cell c14 (fun e => hq4 pb e.symm rfl)
            clear hK K
            try simp only [Act.put, List.setIfInBounds_toArray, List.set_cons_zero, List.set_cons_succ]
            have HB5 := HB4.grown hg5 HB4.size (fun k hk => by have := World.ownsRow.lt HP4 k hk; have := hs4 k hk; omega)
            have c05 := hg5.cell c04 (fun e => hq4 pb e.symm rfl)
            have c15 := hg5.cell c14 (fun e => hq4 pb e.symm rfl)
            have hq5 : ∀ k, v5.ownBlock = some k → k ≠ pb := fun k hk e => by rcases hk5 with h | h <;> first | exact (hq4 k (by rw [← h]; exact hk) e) | (rw [h] at hk; injection hk with hk; have := HB4.size; omega)
            have hs5 : ∀ k, v5.ownBlock = some k → V0.heap.size ≤ k := fun k hk => by rcases hk5 with h | h <;> first | exact (hs4 k (by rw [← h]; exact hk)) | (rw [h] at hk; injection hk with hk; have := HB4.size; omega)
            refine wpAnyH_take (i := 10) (oi := _) (v := ?_) rfl (by kernel_rfl) (by kernel_rfl) (by kernel_rfl) (fun _ _ _ h => h) (Or.inl ⟨by rfl, ?_⟩) (by assumption) ?_
            rotate_left
            · (intro w hSw; (try dsimp only at hSw); go_simp; (try with_reducible rfl))
            try simp only [Act.put, List.setIfInBounds_toArray, List.set_cons_zero, List.set_cons_succ]
            refine wpAnyH_take (i := 11) (oi := _) (v := ?_) rfl (by kernel_rfl) (by kernel_rfl) (by kernel_rfl) (fun _ _ _ h => h) (Or.inl ⟨by rfl, ?_⟩) (by assumption) ?_
            rotate_left
            · (intro w hSw; (try dsimp only at hSw); go_simp; (try with_reducible rfl))
            try simp only [Act.put, List.setIfInBounds_toArray, List.set_cons_zero, List.set_cons_succ]
            refine wpAnyH_done (by kernel_rfl) ?_ _
            refine NoPanic.normal ?_
            simp only [List.getElem_toArray, List.getElem_cons_succ, List.getElem_cons_zero, List.setIfInBounds_toArray, List.set_cons_zero, List.set_cons_succ]
            go_wp2
            go_ret2
            exact ⟨v5, rfl, Lib.hid (by have := HP5; rw [List.nil_append] at this; first | exact this | (rw [List.append_assoc] at this; exact this)), Lib.hid (HWd.out.trans (HB5.mono HWd.out.size))⟩
        · go_simp
          refine hK.out _ _ ⟨?_, ?_⟩ (fun hHeld => ?_)
          · exact keepc c00 (Nat.lt_of_lt_of_le hpl HB0.size) _
          · exact keepc c10 (Nat.lt_of_lt_of_le hpl HB0.size) _
          clear hK K
          try simp only [Act.put, List.setIfInBounds_toArray, List.set_cons_zero, List.set_cons_succ]
          have HB1 := HB0.alloc HB0.size (.cells #[.string X, .string D] 85)
          have c01 := keepc c00 (Nat.lt_of_lt_of_le hpl HB0.size) (.cells #[.string X, .string D] 85)
          have c11 := keepc c10 (Nat.lt_of_lt_of_le hpl HB0.size) (.cells #[.string X, .string D] 85)
          have HL1 := PRd.lit V0 X D
          obtain ⟨gl, hgl⟩ : ∃ gl, V0.heap.size = gl := ⟨_, rfl⟩
          obtain ⟨vl, hvl⟩ : ∃ v, Value.slice (some ⟨V0.heap.size, 0, none⟩) 1 1 = v := ⟨_, rfl⟩
          rw [hvl, hgl] at HL1
          try rw [hvl]
          obtain ⟨V1, hW1⟩ : ∃ W, V0.alloc (.cells #[.string X, .string D] 85) = W := ⟨_, rfl⟩
          rw [hW1] at HB1 c01 c11 HL1
          rw [hW1]
          refine wpAnyH_ready (rs := [2]) (by kernel_rfl) (by simp) ?_
          refine AllReadyH.cons (o := _) rfl (fun K hK => ?_) (AllReadyH.nil)
          go_simp
          refine hK.out _ _ ⟨?_, ?_⟩ (fun hHeld => ?_)
          · exact keepc c01 (Nat.lt_of_lt_of_le hpl HB1.size) _
          · exact keepc c11 (Nat.lt_of_lt_of_le hpl HB1.size) _
          clear hK K
          try simp only [Act.put, List.setIfInBounds_toArray, List.set_cons_zero, List.set_cons_succ]
          have HB2 := HB1.alloc HB1.size (.cells #[] 85)
          have c02 := keepc c01 (Nat.lt_of_lt_of_le hpl HB1.size) (.cells #[] 85)
          have c12 := keepc c11 (Nat.lt_of_lt_of_le hpl HB1.size) (.cells #[] 85)
          have HP2 := PO.fresh V1 w.heap.size (Nat.le_trans HWd.out.size HB1.size)
          have hq2 : ∀ k, (Value.slice (some ⟨V1.heap.size, 0, none⟩) 0 0).ownBlock = some k → k ≠ pb := fun k hk e => by have := HB1.size; simp [Value.ownBlock] at hk; omega
          have hs2 : ∀ k, (Value.slice (some ⟨V1.heap.size, 0, none⟩) 0 0).ownBlock = some k → V0.heap.size ≤ k := fun k hk => by have := HB1.size; simp [Value.ownBlock] at hk; omega
          have HL2 := HL1.later ((Below.refl _ _).alloc (Nat.le_refl _) (.cells #[] 85))
          have hn2 : ∀ k, (Value.slice (some ⟨V1.heap.size, 0, none⟩) 0 0).ownBlock = some k → k ≠ gl := fun k hk e => by have := HL1.lt (by simp); simp [Value.ownBlock] at hk; omega
          obtain ⟨v2, hv2⟩ : ∃ v, Value.slice (some ⟨V1.heap.size, 0, none⟩) 0 0 = v := ⟨_, rfl⟩
          rw [hv2] at HP2 hq2 hs2 hn2
          try rw [hv2]
          obtain ⟨V2, hW2⟩ : ∃ W, V1.alloc (.cells #[] 85) = W := ⟨_, rfl⟩
          rw [hW2] at HB2 c02 c12 HP2 HL2
          rw [hW2]
          refine wpAnyH_ready (rs := [4]) (by kernel_rfl) (by simp) ?_
          refine AllReadyH.cons (o := _) rfl (fun K hK => ?_) (AllReadyH.nil)
          refine PO.append_wp (ops := _) (base := w.heap.size) HP2 (HR1.out _ HB2) HPa.out rfl _ _ (by rfl) (by rfl) (by rfl) (Nat.le_trans HWd.out.size HB2.size) (by have := HPc.out; have := HPd.out; simp only [List.length_append, List.length_nil, List.length_singleton, List.nil_append]; omega) ?_
          intro v3 V3 HP3 hg3 hk3
          refine hK.out _ _ ⟨?_, ?_⟩ (fun hHeld => ?_)
          · exact hg3.cell c02 (fun e => hq2 pb e.symm rfl)
          · exact hg3.cell c12 (fun e => hq2 pb e.symm rfl)
          clear hK K
          try simp only [Act.put, List.setIfInBounds_toArray, List.set_cons_zero, List.set_cons_succ]
          have HB3 := HB2.grown hg3 HB2.size (fun k hk => by have := World.ownsRow.lt HP2 k hk; have := hs2 k hk; omega)
          have c03 := hg3.cell c02 (fun e => hq2 pb e.symm rfl)
          have c13 := hg3.cell c12 (fun e => hq2 pb e.symm rfl)
          have hq3 : ∀ k, v3.ownBlock = some k → k ≠ pb := fun k hk e => by rcases hk3 with h | h <;> first | exact (hq2 k (by rw [← h]; exact hk) e) | (rw [h] at hk; injection hk with hk; have := HB2.size; omega)
          have hs3 : ∀ k, v3.ownBlock = some k → V0.heap.size ≤ k := fun k hk => by rcases hk3 with h | h <;> first | exact (hs2 k (by rw [← h]; exact hk)) | (rw [h] at hk; injection hk with hk; have := HB2.size; omega)
          have HL3 := HL2.kept hg3 (fun e => hn2 gl e.symm rfl)
          have hn3 : ∀ k, v3.ownBlock = some k → k ≠ gl := fun k hk e => by rcases hk3 with h | h <;> first | exact (hn2 k (by rw [← h]; exact hk) e) | (rw [h] at hk; injection hk with hk; have := HL2.lt (by simp); omega)
          refine wpAnyH_ready (rs := [6]) (by kernel_rfl) (by simp) ?_
          refine AllReadyH.cons (o := _) rfl (fun K hK => ?_) (AllReadyH.nil)
          refine PO.append_wp (ops := _) (base := w.heap.size) HP3 (HR2.out _ HB3) HPb.out rfl _ _ (by rfl) (by rfl) (by rfl) (Nat.le_trans HWd.out.size HB3.size) (by have := HPc.out; have := HPd.out; simp only [List.length_append, List.length_nil, List.length_singleton, List.nil_append]; omega) ?_
          intro v4 V4 HP4 hg4 hk4
          refine hK.out _ _ ⟨?_, ?_⟩ (fun hHeld => ?_)
          · exact hg4.cell c03 (fun e => hq3 pb e.symm rfl)
          · exact hg4.cell c13 (fun e => hq3 pb e.symm rfl)
          clear hK K
          try simp only [Act.put, List.setIfInBounds_toArray, List.set_cons_zero, List.set_cons_succ]
          have HB4 := HB3.grown hg4 HB3.size (fun k hk => by have := World.ownsRow.lt HP3 k hk; have := hs3 k hk; omega)
          have c04 := hg4.cell c03 (fun e => hq3 pb e.symm rfl)
          have c14 := hg4.cell c13 (fun e => hq3 pb e.symm rfl)
          have hq4 : ∀ k, v4.ownBlock = some k → k ≠ pb := fun k hk e => by rcases hk4 with h | h <;> first | exact (hq3 k (by rw [← h]; exact hk) e) | (rw [h] at hk; injection hk with hk; have := HB3.size; omega)
          have hs4 : ∀ k, v4.ownBlock = some k → V0.heap.size ≤ k := fun k hk => by rcases hk4 with h | h <;> first | exact (hs3 k (by rw [← h]; exact hk)) | (rw [h] at hk; injection hk with hk; have := HB3.size; omega)
          have HL4 := HL3.kept hg4 (fun e => hn3 gl e.symm rfl)
          have hn4 : ∀ k, v4.ownBlock = some k → k ≠ gl := fun k hk e => by rcases hk4 with h | h <;> first | exact (hn3 k (by rw [← h]; exact hk) e) | (rw [h] at hk; injection hk with hk; have := HL3.lt (by simp); omega)
          refine wpAnyH_ready (rs := [9]) (by kernel_rfl) (by simp) ?_
          refine AllReadyH.cons (o := _) rfl (fun K hK => ?_) (AllReadyH.nil)
          refine PO.append_wp (ops := _) (base := w.heap.size) HP4 HL4 (by simp) rfl _ _ (by rfl) (by rfl) (by rfl) (Nat.le_trans HWd.out.size HB4.size) (by have := HPc.out; have := HPd.out; simp only [List.length_append, List.length_nil, List.length_singleton, List.nil_append]; omega) ?_
          intro v5 V5 HP5 hg5 hk5
          refine hK.out _ _ ⟨?_, ?_⟩ (fun hHeld => ?_)
          · exact hg5.cell c04 (fun e => hq4 pb e.symm rfl)
          · exact hg5.cell c14 (fun e => hq4 pb e.symm rfl)
          clear hK K
          try simp only [Act.put, List.setIfInBounds_toArray, List.set_cons_zero, List.set_cons_succ]
          have HB5 := HB4.grown hg5 HB4.size (fun k hk => by have := World.ownsRow.lt HP4 k hk; have := hs4 k hk; omega)
          have c05 := hg5.cell c04 (fun e => hq4 pb e.symm rfl)
          have c15 := hg5.cell c14 (fun e => hq4 pb e.symm rfl)
          have hq5 : ∀ k, v5.ownBlock = some k → k ≠ pb := fun k hk e => by rcases hk5 with h | h <;> first | exact (hq4 k (by rw [← h]; exact hk) e) | (rw [h] at hk; injection hk with hk; have := HB4.size; omega)
          have hs5 : ∀ k, v5.ownBlock = some k → V0.heap.size ≤ k := fun k hk => by rcases hk5 with h | h <;> first | exact (hs4 k (by rw [← h]; exact hk)) | (rw [h] at hk; injection hk with hk; have := HB4.size; omega)
          refine wpAnyH_take (i := 10) (oi := _) (v := ?_) rfl (by kernel_rfl) (by kernel_rfl) (by kernel_rfl) (fun _ _ _ h => h) (Or.inl ⟨by rfl, ?_⟩) (by assumption) ?_
          rotate_left
          · (intro w hSw; (try dsimp only at hSw); go_simp; (try with_reducible rfl))
          try simp only [Act.put, List.setIfInBounds_toArray, List.set_cons_zero, List.set_cons_succ]
          refine wpAnyH_take (i := 11) (oi := _) (v := ?_) rfl (by kernel_rfl) (by kernel_rfl) (by kernel_rfl) (fun _ _ _ h => h) (Or.inl ⟨by rfl, ?_⟩) (by assumption) ?_
          rotate_left
          · (intro w hSw; (try dsimp only at hSw); go_simp; (try with_reducible rfl))
          try simp only [Act.put, List.setIfInBounds_toArray, List.set_cons_zero, List.set_cons_succ]
          refine wpAnyH_done (by kernel_rfl) ?_ _
          refine NoPanic.normal ?_
          simp only [List.getElem_toArray, List.getElem_cons_succ, List.getElem_cons_zero, List.setIfInBounds_toArray, List.set_cons_zero, List.set_cons_succ]
          go_wp2
          go_ret2
          exact ⟨v5, rfl, Lib.hid (by have := HP5; rw [List.nil_append] at this; first | exact this | (rw [List.append_assoc] at this; exact this)), Lib.hid (HWd.out.trans (HB5.mono HWd.out.size))⟩
end Go.Proofs.YtmhjocbnoppbbaaDoor.Mk
