/- The reference's Proof of layer 9. -/
import Derived.Test.YtmhjocbnoppbbaaDoorRootN
import Derived.Test.YtmhjocbnoppbbaaDoorPureP
import Derived.Test.YtmhjocbnoppbbaaDoorProve
namespace Go.Proofs.YtmhjocbnoppbbaaDoor.Mk
open Go.RowKit Go.Proofs.YtmhjocbnoppbbaaDoor.Sha Go.Proofs.YtmhjocbnoppbbaaDoor.Ref
set_option linter.unusedVariables false
set_option linter.unusedSimpArgs false

set_option maxHeartbeats 8000000 in
set_option maxRecDepth 100000 in
theorem kproof_calls (kv hv : Value) (n : Nat) : ∀ (i g : Nat) (v : Value) (ss : List ByteArray) (w : World), ss.length = n → n ≤ 1000 → i < n → (∀ s ∈ ss, s.size ≤ 100000) → SR w g v ss → KitS w kv hv →
    Calls Tryd.prog 22 #[.agg #[kv, hv], .int .i64 (i : Int), v] w fun e w' => ∃ pv, e = .returned pv ∧ Hid (OT w' w.heap.size pv (prf ss i)) ∧ Hid (Below w.heap.size w w') := by
  induction n using Nat.strongRecOn with
  | _ n ih =>
    intro i g v ss w hlen hn hi hss hsr hk
    by_cases h1 : n ≤ 1
    · rw [prf_one (by omega)]
      obtain ⟨A, c, rfl, -, -, -⟩ := hsr
      rw [hlen]
      have k2 : (n : Int) < 2 := by omega
      have HO := Lib.hid (OT.nil (w.alloc (.cells #[kv, hv] 47)) w.heap.size)
      clear ih hk hss hlen
      go_enter Tryd.func22, Tryd.ntmps22
      go_wp2
      go_ret
      exact ⟨_, rfl, HO, Lib.hid ((Below.refl _ _).alloc (Nat.le_refl _) _)⟩
    · have h2 : 2 ≤ n := by omega
      obtain ⟨o, c, hv0, hc1, hc2, hcell⟩ := hsr.form (by omega)
      rw [hlen] at hv0 hc1
      subst hv0
      have hl := hb_lt h2
      have hp := hb_pos n
      have hkc := SR_take (k := hb n) hcell hlen hc1 hc2 (by omega)
      have hkd := SR_drop (k := hb n) hcell hlen hc1 hc2 (by omega)
      have r1 := fun W (b : Below w.heap.size w W) => kroot_calls kv hv (hb n) g (.slice (some ⟨g, o, none⟩) (hb n) c) (ss.take (hb n)) W (by rw [List.length_take]; omega) (by omega) (fun s hs => hss s (List.mem_of_mem_take hs)) (hkc.later b) (hk.later b)
      have r2 := fun W (b : Below w.heap.size w W) => kroot_calls kv hv (n - hb n) g (.slice (some ⟨g, o + hb n, none⟩) (n - hb n) (c - hb n)) (ss.drop (hb n)) W (by rw [List.length_drop, hlen]) (by omega) (fun s hs => hss s (List.mem_of_mem_drop hs)) (hkd.later b) (hk.later b)
      have hhf := fun W => half_calls n W h2 (by omega)
      by_cases hc : i < hb n
      · have p1 := fun W (b : Below w.heap.size w W) => ih (hb n) hl i g (.slice (some ⟨g, o, none⟩) (hb n) c) (ss.take (hb n)) W (by rw [List.length_take]; omega) (by omega) hc (fun s hs => hss s (List.mem_of_mem_take hs)) (hkc.later b) (hk.later b)
        rw [prf_left (by omega) (by rw [hlen]; exact hc), hlen]
        have hpl : (prf (ss.take (hb n)) i).length ≤ 1000 := by rw [(prf_fits (hb n) (ss.take (hb n)) i (by rw [List.length_take]; omega)).1]; have := sidesB_length (hb n) i; omega
        clear r1 ih hss hsr hcell hkc hkd
        generalize prf (ss.take (hb n)) i = P at p1 hpl ⊢
        generalize rootD (ss.drop (hb n)) = D at r2 ⊢
        generalize pairsT (ss.drop (hb n)) = PB at r2
        generalize hb n = k at *
        have I1 := Lib.hid r2
        have I2 := Lib.hid p1
        have HHF := Lib.hid hhf
        have HPL := Lib.hid hpl
        clear r2 p1 hhf hpl hk h1
        have b1 : (k : Int) < (n : Int) := by omega
        have b2 : (n : Int) ≤ (c : Int) := by omega
        have b3 : (c : Int) ≤ 9223372036854775807 := by omega
        have b4 : ¬ (n : Int) < 2 := by omega
        have b5 : (k : Int) ≤ (c : Int) := by omega
        have b6 : (k : Int) ≤ (n : Int) := by omega
        have b7 : (0 : Int) ≤ (k : Int) := by omega
        have b8 : k ≤ c := by omega
        have b9 : k ≤ n := by omega
        have b10 : ¬ c = k := by omega
        have b11 : (i : Int) < (k : Int) := by omega
        go_enter Tryd.func22, Tryd.ntmps22
        have hc0 := heap_alloc_new w (.cells #[kv, hv] 47)
        have HB0 : Hid (Below w.heap.size w (w.alloc (.cells #[kv, hv] 47))) := Lib.hid ((Below.refl _ _).alloc (Nat.le_refl _) _)
        have hkl : w.heap.size < (w.alloc (.cells #[kv, hv] 47)).heap.size := by simp
        go_upto_region 5 with ((go_at_call 46; refine (HHF.out _).mono ?_; rintro e w1 ⟨rfl, HB1⟩))
        obtain ⟨W0, hW0⟩ : ∃ W0, w.alloc (.cells #[kv, hv] 47) = W0 := ⟨_, rfl⟩
        rw [hW0] at hc0 HB0 hkl HB1
        have HS : Hid (∀ W, Below W0.heap.size W0 W → W.cell? ⟨w.heap.size, 0, none⟩ = some kv ∧ W.cell? ⟨w.heap.size, 1, none⟩ = some hv) := Lib.hid (fun W h => by
          have h1 := (h.block w.heap.size hkl).trans hc0
          exact ⟨by rw [cell_of_row W w.heap.size 0 _ _ _ h1]; rfl, by rw [cell_of_row W w.heap.size 1 _ _ _ h1]; rfl⟩)
        have HTW : Hid (∀ W, Below W0.heap.size W0 W → Below w.heap.size w W) := Lib.hid (fun W h => HB0.out.trans (h.mono HB0.out.size))
        have HBA := Lib.hid HB1.out.drew
        clear hc0 hW0 hkl
        go_region_held3 (fun W => W.cell? ⟨w.heap.size, 0, none⟩ = some kv ∧ W.cell? ⟨w.heap.size, 1, none⟩ = some hv)
          (first | (go_keep; done) | exact HS.out _ HBA.out | exact HS.out _ HBB.out)
          ((go_at_call 20; (try rw [if_neg b10]); refine (I1.out _ (HTW.out _ HBA.out)).mono ?_; rintro e w2 ⟨pv1, rfl, HQ1, HBx⟩; have HBB := Lib.hid (HBA.out.trans (HBx.out.mono HBA.out.size))))
        go_upto_region 6 with (fail)
        have HBW := Lib.hid HBB.out.drew
        clear HBA HQ1
        go_region_held3 (fun W => W.cell? ⟨w.heap.size, 0, none⟩ = some kv ∧ W.cell? ⟨w.heap.size, 1, none⟩ = some hv)
          (first | (go_keep; done) | exact HS.out _ HBW.out | exact HS.out _ (HBW.out.alloc HBW.out.size _) | exact HS.out _ HBZ.out)
          (first
            | (go_at_call 22; refine (I2.out _ (HTW.out _ HBW.out)).mono ?_; rintro e w4 ⟨pv2, rfl, HO2, HBy⟩; have HCS := Lib.hid HBW.out.size; have HBW := Lib.hid (HBW.out.trans (HBy.out.mono HBW.out.size)))
            | (go_at_call 22; refine (I2.out _ (HTW.out _ (HBW.out.alloc HBW.out.size (.cells #[.string D] 9)))).mono ?_; rintro e w4 ⟨pv2, rfl, HO2, HBy⟩; have HCS := Lib.hid (HBW.out.alloc HBW.out.size (.cells #[.string D] 9)).size; have HBW := Lib.hid ((HBW.out.alloc HBW.out.size (.cells #[.string D] 9)).trans (HBy.out.mono (HBW.out.alloc HBW.out.size (.cells #[.string D] 9)).size)))
            | (refine OT_append_wp (ops := _) (OT.alloc HO2.out _) (SR.lit _ [D] _ rfl 1 rfl (by simp)) rfl _ _ (by rfl) (by rfl) (by rfl) (Nat.le_trans HBy.out.size (by simp)) (by have := HPL.out; simp; omega) ?_; intro v5 w5 h5 hg5; have H5 := Lib.hid (OT_mono h5 (Nat.le_trans HB0.out.size HCS.out)); have HBZ : Hid (Below W0.heap.size W0 w5) := Lib.hid ((HBW.out.alloc HBW.out.size _).grown hg5 (HBW.out.alloc HBW.out.size _).size (fun k hk => Nat.le_trans HCS.out (HO2.out.base k hk))); clear h5 hg5)
            | (refine OT_append_wp (ops := _) HO2.out (SR.later (SR.lit _ [D] _ rfl 1 rfl (by simp)) HBy.out) rfl _ _ (by rfl) (by rfl) (by rfl) HBy.out.size (by have := HPL.out; simp; omega) ?_; intro v5 w5 h5 hg5; have H5 := Lib.hid (OT_mono h5 (Nat.le_trans HB0.out.size HCS.out)); have HBZ : Hid (Below W0.heap.size W0 w5) := Lib.hid (HBW.out.grown hg5 HBW.out.size (fun k hk => Nat.le_trans HCS.out (HO2.out.base k hk))); clear h5 hg5))
        all_goals
          go_wp2
          go_ret
          exact ⟨_, rfl, H5, Lib.hid (HTW.out _ HBZ.out)⟩
      · have p1 := fun W (b : Below w.heap.size w W) => ih (n - hb n) (by omega) (i - hb n) g (.slice (some ⟨g, o + hb n, none⟩) (n - hb n) (c - hb n)) (ss.drop (hb n)) W (by rw [List.length_drop, hlen]) (by omega) (by omega) (fun s hs => hss s (List.mem_of_mem_drop hs)) (hkd.later b) (hk.later b)
        rw [prf_right (by omega) (by rw [hlen]; exact hc), hlen]
        have hpl : (prf (ss.drop (hb n)) (i - hb n)).length ≤ 1000 := by rw [(prf_fits (n - hb n) (ss.drop (hb n)) (i - hb n) (by rw [List.length_drop, hlen])).1]; have := sidesB_length (n - hb n) (i - hb n); omega
        rw [show ((i - hb n : Nat) : Int) = (i : Int) - ((hb n : Nat) : Int) by omega] at p1
        have z1 : IntKind.i64.wrap ((i : Int) - ((hb n : Nat) : Int)) = (i : Int) - ((hb n : Nat) : Int) := IntWalk.i64_in _ (by omega)
        clear r2 ih hss hsr hcell hkc hkd
        generalize prf (ss.drop (hb n)) (i - hb n) = P at p1 hpl ⊢
        generalize rootD (ss.take (hb n)) = D at r1 ⊢
        generalize pairsT (ss.take (hb n)) = PB at r1
        generalize hb n = k at *
        have I1 := Lib.hid r1
        have I2 := Lib.hid p1
        have HHF := Lib.hid hhf
        have HPL := Lib.hid hpl
        clear r1 p1 hhf hpl hk h1
        have b1 : (k : Int) < (n : Int) := by omega
        have b2 : (n : Int) ≤ (c : Int) := by omega
        have b3 : (c : Int) ≤ 9223372036854775807 := by omega
        have b4 : ¬ (n : Int) < 2 := by omega
        have b5 : (k : Int) ≤ (c : Int) := by omega
        have b6 : (k : Int) ≤ (n : Int) := by omega
        have b7 : (0 : Int) ≤ (k : Int) := by omega
        have b8 : k ≤ c := by omega
        have b9 : k ≤ n := by omega
        have b10 : ¬ c = k := by omega
        have b11 : ¬ (i : Int) < (k : Int) := by omega
        go_enter Tryd.func22, Tryd.ntmps22
        have hc0 := heap_alloc_new w (.cells #[kv, hv] 47)
        have HB0 : Hid (Below w.heap.size w (w.alloc (.cells #[kv, hv] 47))) := Lib.hid ((Below.refl _ _).alloc (Nat.le_refl _) _)
        have hkl : w.heap.size < (w.alloc (.cells #[kv, hv] 47)).heap.size := by simp
        go_upto_region 7 with ((go_at_call 46; refine (HHF.out _).mono ?_; rintro e w1 ⟨rfl, HB1⟩))
        obtain ⟨W0, hW0⟩ : ∃ W0, w.alloc (.cells #[kv, hv] 47) = W0 := ⟨_, rfl⟩
        rw [hW0] at hc0 HB0 hkl HB1
        have HS : Hid (∀ W, Below W0.heap.size W0 W → W.cell? ⟨w.heap.size, 0, none⟩ = some kv ∧ W.cell? ⟨w.heap.size, 1, none⟩ = some hv) := Lib.hid (fun W h => by
          have h1 := (h.block w.heap.size hkl).trans hc0
          exact ⟨by rw [cell_of_row W w.heap.size 0 _ _ _ h1]; rfl, by rw [cell_of_row W w.heap.size 1 _ _ _ h1]; rfl⟩)
        have HTW : Hid (∀ W, Below W0.heap.size W0 W → Below w.heap.size w W) := Lib.hid (fun W h => HB0.out.trans (h.mono HB0.out.size))
        have HBA := Lib.hid HB1.out.drew
        clear hc0 hW0 hkl
        go_region_held3 (fun W => W.cell? ⟨w.heap.size, 0, none⟩ = some kv ∧ W.cell? ⟨w.heap.size, 1, none⟩ = some hv)
          (first | (go_keep; done) | exact HS.out _ HBA.out | exact HS.out _ HBB.out)
          ((go_at_call 20; (try rw [if_neg b10]); refine (I1.out _ (HTW.out _ HBA.out)).mono ?_; rintro e w2 ⟨pv1, rfl, HQ1, HBx⟩; have HBB := Lib.hid (HBA.out.trans (HBx.out.mono HBA.out.size))))
        go_upto_region 8 with (fail)
        have HBW := Lib.hid HBB.out.drew
        clear HBA HQ1
        go_region_held3 (fun W => W.cell? ⟨w.heap.size, 0, none⟩ = some kv ∧ W.cell? ⟨w.heap.size, 1, none⟩ = some hv)
          (first | (go_keep; done) | exact HS.out _ HBW.out | exact HS.out _ (HBW.out.alloc HBW.out.size _) | exact HS.out _ HBZ.out)
          (first
            | (go_at_call 22; (try rw [if_neg b10]); refine (I2.out _ (HTW.out _ HBW.out)).mono ?_; rintro e w4 ⟨pv2, rfl, HO2, HBy⟩; have HCS := Lib.hid HBW.out.size; have HBW := Lib.hid (HBW.out.trans (HBy.out.mono HBW.out.size)))
            | (go_at_call 22; (try rw [if_neg b10]); refine (I2.out _ (HTW.out _ (HBW.out.alloc HBW.out.size (.cells #[.string D] 9)))).mono ?_; rintro e w4 ⟨pv2, rfl, HO2, HBy⟩; have HCS := Lib.hid (HBW.out.alloc HBW.out.size (.cells #[.string D] 9)).size; have HBW := Lib.hid ((HBW.out.alloc HBW.out.size (.cells #[.string D] 9)).trans (HBy.out.mono (HBW.out.alloc HBW.out.size (.cells #[.string D] 9)).size)))
            | (refine OT_append_wp (ops := _) (OT.alloc HO2.out _) (SR.lit _ [D] _ rfl 1 rfl (by simp)) rfl _ _ (by rfl) (by rfl) (by rfl) (Nat.le_trans HBy.out.size (by simp)) (by have := HPL.out; simp; omega) ?_; intro v5 w5 h5 hg5; have H5 := Lib.hid (OT_mono h5 (Nat.le_trans HB0.out.size HCS.out)); have HBZ : Hid (Below W0.heap.size W0 w5) := Lib.hid ((HBW.out.alloc HBW.out.size _).grown hg5 (HBW.out.alloc HBW.out.size _).size (fun k hk => Nat.le_trans HCS.out (HO2.out.base k hk))); clear h5 hg5)
            | (refine OT_append_wp (ops := _) HO2.out (SR.later (SR.lit _ [D] _ rfl 1 rfl (by simp)) HBy.out) rfl _ _ (by rfl) (by rfl) (by rfl) HBy.out.size (by have := HPL.out; simp; omega) ?_; intro v5 w5 h5 hg5; have H5 := Lib.hid (OT_mono h5 (Nat.le_trans HB0.out.size HCS.out)); have HBZ : Hid (Below W0.heap.size W0 w5) := Lib.hid (HBW.out.grown hg5 HBW.out.size (fun k hk => Nat.le_trans HCS.out (HO2.out.base k hk))); clear h5 hg5))
        all_goals
          go_wp2
          go_ret
          exact ⟨_, rfl, H5, Lib.hid (HTW.out _ HBZ.out)⟩
end Go.Proofs.YtmhjocbnoppbbaaDoor.Mk
