/- The reference's Up of layer 9. -/
import Derived.Test.YtmhjocbnoppbbaaDoorRootN
import Derived.Test.YtmhjocbnoppbbaaDoorPureP
namespace Go.Proofs.YtmhjocbnoppbbaaDoor.Mk
open Go.RowKit Go.Proofs.YtmhjocbnoppbbaaDoor.Sha Go.Proofs.YtmhjocbnoppbbaaDoor.Ref
set_option linter.unusedVariables false
set_option linter.unusedSimpArgs false

theorem upPairs_length (bs : List Bool) (inp : ByteArray) (ps : List ByteArray) : (upPairs bs inp ps).length = bs.length + 1 := by
  induction bs with
  | nil => rfl
  | cons b bs ih => rw [upPairs, List.length_append, ih]; simp

set_option maxHeartbeats 8000000 in
set_option maxRecDepth 100000 in
theorem kup_calls (kv hv : Value) (inp : ByteArray) (hinp : inp.size ≤ 100000) (n : Nat) : ∀ (i g : Nat) (v : Value) (ps : List ByteArray) (w : World), SR w g v ps → i < n → n ≤ 1000 → ps.length = (sidesB i n).length → (∀ p ∈ ps, p.size = 32) → KitS w kv hv →
    Calls Tryd.prog 24 #[.agg #[kv, hv], .int .i64 (i : Int), .int .i64 (n : Int), .string inp, v] w fun e w' => ∃ pv, e = .returned (.tuple #[.string (upN (sidesB i n) (dig inp.data.toList) ps (sidesB i n).length), pv]) ∧ Hid (PO w' w.heap.size pv (upPairs (sidesB i n) inp ps)) ∧ Hid (Below w.heap.size w w') := by
  induction n using Nat.strongRecOn with
  | _ n ih =>
    intro i g v ps w hsr hi hn hps h32 hk
    by_cases h1 : n ≤ 1
    · rw [sidesB_one _ _ h1]
      show Calls _ _ _ _ fun e w' => ∃ pv, e = .returned (.tuple #[.string (dig inp.data.toList), pv]) ∧ Hid (PO w' w.heap.size pv [(inp, dig inp.data.toList)]) ∧ _
      have HK := Lib.hid hk
      obtain ⟨D, hD⟩ : ∃ D, dig inp.data.toList = D := ⟨_, rfl⟩
      rw [hD]
      have HDG := Lib.hid hD
      have HSZ : Hid (inp.size ≤ 1000000) := Lib.hid (by omega)
      have k2 : (n : Int) < 2 := by omega
      clear ih hps h32 hk hsr hD
      go_enter Tryd.func24, Tryd.ntmps24
      go_upto_region 3 with ((go_at_call 45; refine (kitSum_calls kv hv inp _ (HK.out.later ((Below.refl _ _).alloc (Nat.le_refl _) _)) HSZ.out).mono ?_; rw [HDG.out]; rintro e w1 ⟨rfl, HB1⟩))
      have hbw : Below w.heap.size w (w1.alloc (.cells #[.string inp, .string D] 85)) := (Below.trans ((Below.refl _ _).alloc (Nat.le_refl _) _) (HB1.out.mono (by simp))).alloc (by have := HB1.out.size; simp at this; omega) _
      have h0 := heap_alloc_new w1 (.cells #[.string inp, .string D] 85)
      obtain ⟨pb, hpb⟩ : ∃ pb, w1.heap.size = pb := ⟨_, rfl⟩
      obtain ⟨W2, hW2⟩ : ∃ W2, w1.alloc (.cells #[.string inp, .string D] 85) = W2 := ⟨_, rfl⟩
      rw [hW2] at hbw h0
      rw [hpb] at h0
      rw [hW2, hpb]
      have q0 : W2.cell? ⟨pb, 0, none⟩ = some (.string inp) := by rw [cell_of_row W2 pb 0 _ _ _ h0]; rfl
      have q1 : W2.cell? ⟨pb, 1, none⟩ = some (.string D) := by rw [cell_of_row W2 pb 1 _ _ _ h0]; rfl
      have hpl : pb < W2.heap.size := (Array.getElem?_eq_some_iff.1 h0).1
      have HBW := Lib.hid hbw
      clear hbw h0 hW2 hpb
      go_region_held3 (fun w' => w'.cell? ⟨pb, 0, none⟩ = some (.string inp) ∧ w'.cell? ⟨pb, 1, none⟩ = some (.string D)) (first | (go_keep; done) | exact ⟨q0, q1⟩ | exact ⟨keepc q0 hpl _, keepc q1 hpl _⟩) (fail)
      go_wp2
      go_ret2
      exact ⟨_, rfl, Lib.hid (PO.lit W2 w.heap.size HBW.out.size inp D), Lib.hid (HBW.out.alloc HBW.out.size _).drew⟩
    · have h2 : 2 ≤ n := by omega
      have hl := hb_lt h2
      have hp := hb_pos n
      have hchild : ∃ (b : Bool) (bs : List Bool) (i' n' : Nat), sidesB i n = b :: bs ∧ n' < n ∧ i' < n' ∧ bs = sidesB i' n' ∧ (b = true ∧ i < hb n ∧ i' = i ∧ n' = hb n ∨ b = false ∧ ¬ i < hb n ∧ (i' : Int) = (i : Int) - ((hb n : Nat) : Int) ∧ (n' : Int) = (n : Int) - ((hb n : Nat) : Int)) := by
        by_cases hc : i < hb n
        · exact ⟨true, _, i, hb n, sidesB_left _ _ (by omega) hc, hl, hc, rfl, .inl ⟨rfl, hc, rfl, rfl⟩⟩
        · exact ⟨false, _, i - hb n, n - hb n, sidesB_right _ _ (by omega) hc, by omega, by omega, rfl, .inr ⟨rfl, hc, by omega, by omega⟩⟩
      obtain ⟨b, bs, i', n', hsd, hn', hi', hbs, hcase⟩ := hchild
      rw [hsd] at hps ⊢
      rw [List.length_cons] at hps ⊢
      have hb2 := sidesB_length n' i'
      rw [← hbs] at hb2
      obtain ⟨o, c, hv, hc1, hc2, hcell⟩ := hsr.form (by omega)
      subst hv
      have hkc := SR_take (k := bs.length) hcell rfl hc1 hc2 (by omega)
      have hr := fun W (bw : Below w.heap.size w W) => ih n' hn' i' g (.slice (some ⟨g, o, none⟩) bs.length c) (ps.take bs.length) W (hkc.later bw) hi' (by omega) (by rw [List.length_take, hps, hbs]; omega) (fun p hp => h32 p (List.mem_of_mem_take hp)) (hk.later bw)
      rw [← hbs, upN_take _ _ _ _ _ (Nat.le_refl _), upPairs_take _ _ _ _ (Nat.le_refl _)] at hr
      have hds := upN_size bs (dig inp.data.toList) ps (dig_size _) bs.length
      have hcl := hcell bs.length (ps.getD bs.length ByteArray.empty) (by simp [List.getD_eq_getElem?_getD, List.getElem?_eq_getElem (show bs.length < ps.length by omega)])
      have hps2 : (ps.getD bs.length ByteArray.empty).size = 32 := h32 _ (by rw [List.getD_eq_getElem?_getD, List.getElem?_eq_getElem (show bs.length < ps.length by omega)]; exact List.getElem_mem _)
      have hupl := upPairs_length bs inp ps
      rw [upPairs, upN_top]
      rw [hps] at hc1 ⊢
      obtain ⟨D1, hD1⟩ : ∃ D1, upN bs (dig inp.data.toList) ps bs.length = D1 := ⟨_, rfl⟩
      obtain ⟨p, hp1⟩ : ∃ p, ps.getD bs.length ByteArray.empty = p := ⟨_, rfl⟩
      rw [hD1] at hr hds ⊢
      rw [hp1] at hcl hps2 ⊢
      generalize upPairs bs inp ps = QP at hr hupl ⊢
      generalize bs.length = L at *
      have HR := Lib.hid hr
      have HHF := Lib.hid (fun W => half_calls n W h2 (by omega))
      have HK := Lib.hid hk
      have HQL : Hid (QP.length ≤ 100000) := Lib.hid (by omega)
      have HTW0 : Hid (∀ W, Below (w.alloc (.cells #[kv, hv] 47)).heap.size (w.alloc (.cells #[kv, hv] 47)) W → W.cell? ⟨g, o + L, none⟩ = some (.string p)) := Lib.hid (fun W h => by
        have hlt : g < w.heap.size := World.block_lt_of_cell? _ _ hcl
        rw [h.cell (show g < _ by simp; omega), World.cell?_alloc_lt _ _ _ hlt]; exact hcl)
      have c4 : (i : Int) ≤ 1000 := by omega
      have c5 : (n : Int) ≤ 1000 := by omega
      have c6 : (L : Int) ≤ 1000 := by omega
      have c7 : ¬ (n : Int) < 2 := by omega
      have c8 : (0 : Int) ≤ (L : Int) := by omega
      have c9 : L ≤ c := by omega
      have c10 : L + 1 ≤ c := by omega
      have c11 : (L : Int) ≤ (c : Int) := by omega
      have c12 : (c : Int) ≤ 9223372036854775807 := by omega
      obtain ⟨M, hM⟩ : ∃ M, L + 1 = M := ⟨_, rfl⟩
      rw [hM] at hc1 c10 ⊢
      have c13 : IntKind.i64.wrap ((M : Int) - 1) = (L : Int) := by rw [IntWalk.i64_in _ (by omega)]; omega
      have c14 : (M : Int) ≤ (c : Int) := by omega
      have c15 : (L : Int) ≤ (M : Int) := by omega
      have c16 : (L : Int) < (M : Int) := by omega
      have c17 : L < M := by omega
      clear hM
      rcases hcase with ⟨rfl, c1, rfl, rfl⟩ | ⟨rfl, c1, c2, c3⟩
      · rw [if_pos rfl, if_pos rfl]
        have c1' : (i' : Int) < ((hb n : Nat) : Int) := by omega
        have zz1 : (⟨#[1]⟩ ++ D1 : ByteArray).size = 33 := by rw [append_sz, hds]; rfl
        have ha1 : ∀ w, (Op.stringOp .add ⟨#[1]⟩ D1).run Tryd.prog w = .ok (.string (⟨#[1]⟩ ++ D1)) w := fun w => run_string_add_sum w _ _ (by show 1 + D1.size ≤ _; omega)
        have ha2 : ∀ w, (Op.stringOp .add (⟨#[1]⟩ ++ D1) p).run Tryd.prog w = .ok (.string (nodeIn D1 p)) w := fun w => run_string_add_sum w _ _ (by omega)
        have hdg := dig_nodeIn D1 p
        have hxs : (nodeIn D1 p).size ≤ 1000000 := by unfold nodeIn; rw [append_sz, zz1]; omega
        generalize nodeD D1 p = DD at hdg ⊢
        generalize nodeIn D1 p = X at hdg ha2 hxs ⊢
        generalize (⟨#[1]⟩ ++ D1 : ByteArray) = X1 at ha1 ha2
        have HXS := Lib.hid hxs
        have HDG := Lib.hid hdg
        clear ih hsr hps h32 hk hsd hbs hb2 hcell hkc hr hds hps2 hupl hD1 hp1 hxs hdg zz1 h1 h2 hn hcl
        generalize hb n = k at *
        go_enter Tryd.func24, Tryd.ntmps24
        have hc0 := heap_alloc_new w (.cells #[kv, hv] 47)
        have HB0 : Hid (Below w.heap.size w (w.alloc (.cells #[kv, hv] 47))) := Lib.hid ((Below.refl _ _).alloc (Nat.le_refl _) _)
        have hkl : w.heap.size < (w.alloc (.cells #[kv, hv] 47)).heap.size := by simp
        go_upto_region 9 with ((go_at_call 46; refine (HHF.out _).mono ?_; rintro e w1 ⟨rfl, HB1⟩; have hcl1 := (HTW0.out _ HB1.out)))
        obtain ⟨W0, hW0⟩ : ∃ W0, w.alloc (.cells #[kv, hv] 47) = W0 := ⟨_, rfl⟩
        rw [hW0] at hc0 HB0 hkl HB1
        have HS : Hid (∀ W, Below W0.heap.size W0 W → W.cell? ⟨w.heap.size, 0, none⟩ = some kv ∧ W.cell? ⟨w.heap.size, 1, none⟩ = some hv) := Lib.hid (fun W h => by
          have h1 := (h.block w.heap.size hkl).trans hc0
          exact ⟨by rw [cell_of_row W w.heap.size 0 _ _ _ h1]; rfl, by rw [cell_of_row W w.heap.size 1 _ _ _ h1]; rfl⟩)
        have HTW : Hid (∀ W, Below W0.heap.size W0 W → Below w.heap.size w W) := Lib.hid (fun W h => HB0.out.trans (h.mono HB0.out.size))
        have HBA := Lib.hid (HB1.out.alloc HB1.out.size (.cells #[] 85)).drew
        clear hc0 hW0 hkl hcl1 HTW0
        go_region_held3 (fun W => W.cell? ⟨w.heap.size, 0, none⟩ = some kv ∧ W.cell? ⟨w.heap.size, 1, none⟩ = some hv)
          (first | (go_keep; done) | exact HS.out _ HBA.out | exact HS.out _ HBB.out)
          ((go_at_call 24; refine (HR.out _ (HTW.out _ HBA.out)).mono ?_; rintro e w3 ⟨pv2, rfl, HQ, HBx⟩; have HBB := Lib.hid (HBA.out.trans (HBx.out.mono HBA.out.size))))
        have hkc := HS.out _ HBB.out
        obtain ⟨kc0, kc1⟩ := hkc
        have HK3 := Lib.hid (HK.out.later (HTW.out _ HBB.out))
        have HQb := Lib.hid (HQ.out.mono (b' := w.heap.size) (HTW.out _ HBA.out).size)
        have HTC := Lib.hid (HTW.out _ HBB.out)
        go_upto_region 14 with ((go_at_call 45; refine (kitSum_calls kv hv X _ HK3.out HXS.out).mono ?_; rw [HDG.out]; rintro e w4 ⟨rfl, HB4⟩))
        have h0 := heap_alloc_new w4 (.cells #[.string X, .string DD] 85)
        have hbw := ((HTC.out.trans (HB4.out.mono HTC.out.size)).alloc (Nat.le_trans HTC.out.size HB4.out.size) (.cells #[.string X, .string DD] 85)).drew
        have hb34 : Below w3.heap.size w3 (w4.alloc (.cells #[.string X, .string DD] 85)).drew := (HB4.out.alloc HB4.out.size _).drew
        have hpb3 := HB4.out.size
        obtain ⟨pb, hpb⟩ : ∃ pb, w4.heap.size = pb := ⟨_, rfl⟩
        obtain ⟨W5, hW5⟩ : ∃ W, w4.alloc (.cells #[.string X, .string DD] 85) = W := ⟨_, rfl⟩
        rw [hW5] at hbw h0 hb34
        rw [hpb] at h0 hpb3
        rw [hW5, hpb]
        have q0 : W5.drew.cell? ⟨pb, 0, none⟩ = some (.string X) := by rw [cell_of_row W5.drew pb 0 _ _ _ h0]; rfl
        have q1 : W5.drew.cell? ⟨pb, 1, none⟩ = some (.string DD) := by rw [cell_of_row W5.drew pb 1 _ _ _ h0]; rfl
        have hpl : pb < W5.drew.heap.size := (Array.getElem?_eq_some_iff.1 h0).1
        have HOW : Hid (∀ k, pv2.ownBlock = some k → w.heap.size ≤ k ∧ k ≠ pb) := Lib.hid (fun k hk => by have h1 := World.ownsRow.lt HQb.out k hk; exact ⟨h1.1, by have := h1.2; omega⟩)
        have HQ5 := Lib.hid (HQb.out.later hb34)
        have HBW := Lib.hid hbw
        clear hbw h0 hW5 hpb hb34 hpb3 kc0 kc1
        go_region_held3 (fun w' => w'.cell? ⟨pb, 0, none⟩ = some (.string X) ∧ w'.cell? ⟨pb, 1, none⟩ = some (.string DD))
          (first | (go_keep; done) | exact ⟨q0, q1⟩ | exact ⟨keepc q0 hpl _, keepc q1 hpl _⟩ | exact ⟨q06, q16⟩)
          ((refine PO.append_wp (ops := _) (PO.alloc HQ5.out _) (PRd.lit _ X DD) (by simp) rfl _ _ (by rfl) (by rfl) (by rfl) (HBW.out.alloc HBW.out.size _).size (by have := HQL.out; simp; omega) ?_; intro v6 w6 h6 hg6 ho6; have H6 := Lib.hid h6; have q06 := hg6.cell (keepc q0 hpl _) (fun e => (HOW.out pb e.symm).2 rfl); have q16 := hg6.cell (keepc q1 hpl _) (fun e => (HOW.out pb e.symm).2 rfl); have HBZ : Hid (Below w.heap.size w w6) := Lib.hid ((HBW.out.alloc HBW.out.size _).grown hg6 (HBW.out.alloc HBW.out.size _).size (fun k hk => (HOW.out k hk).1)); clear h6 hg6 ho6))
        go_wp2
        go_ret2
        exact ⟨_, rfl, H6, HBZ⟩
      · rw [if_neg (by simp), if_neg (by simp)]
        have c1' : ¬ (i : Int) < ((hb n : Nat) : Int) := by omega
        have zz1 : (⟨#[1]⟩ ++ p : ByteArray).size = 33 := by rw [append_sz, hps2]; rfl
        have ha1 : ∀ w, (Op.stringOp .add ⟨#[1]⟩ p).run Tryd.prog w = .ok (.string (⟨#[1]⟩ ++ p)) w := fun w => run_string_add_sum w _ _ (by show 1 + p.size ≤ _; omega)
        have ha2 : ∀ w, (Op.stringOp .add (⟨#[1]⟩ ++ p) D1).run Tryd.prog w = .ok (.string (nodeIn p D1)) w := fun w => run_string_add_sum w _ _ (by omega)
        have hdg := dig_nodeIn p D1
        have hxs : (nodeIn p D1).size ≤ 1000000 := by unfold nodeIn; rw [append_sz, zz1]; omega
        rw [c2, c3] at HR
        generalize nodeD p D1 = DD at hdg ⊢
        generalize nodeIn p D1 = X at hdg ha2 hxs ⊢
        generalize (⟨#[1]⟩ ++ p : ByteArray) = X1 at ha1 ha2
        have HXS := Lib.hid hxs
        have HDG := Lib.hid hdg
        clear ih hsr hps h32 hk hsd hbs hb2 hcell hkc hr hds hps2 hupl hD1 hp1 hxs hdg zz1 h1 h2 hn hcl c2 c3
        have z1 : IntKind.i64.wrap ((i : Int) - ((hb n : Nat) : Int)) = (i : Int) - ((hb n : Nat) : Int) := IntWalk.i64_in _ (by omega)
        have z2 : IntKind.i64.wrap ((n : Int) - ((hb n : Nat) : Int)) = (n : Int) - ((hb n : Nat) : Int) := IntWalk.i64_in _ (by omega)
        generalize hb n = k at *
        go_enter Tryd.func24, Tryd.ntmps24
        have hc0 := heap_alloc_new w (.cells #[kv, hv] 47)
        have HB0 : Hid (Below w.heap.size w (w.alloc (.cells #[kv, hv] 47))) := Lib.hid ((Below.refl _ _).alloc (Nat.le_refl _) _)
        have hkl : w.heap.size < (w.alloc (.cells #[kv, hv] 47)).heap.size := by simp
        go_upto_region 11 with ((go_at_call 46; refine (HHF.out _).mono ?_; rintro e w1 ⟨rfl, HB1⟩; have hcl1 := (HTW0.out _ HB1.out)))
        obtain ⟨W0, hW0⟩ : ∃ W0, w.alloc (.cells #[kv, hv] 47) = W0 := ⟨_, rfl⟩
        rw [hW0] at hc0 HB0 hkl HB1
        have HS : Hid (∀ W, Below W0.heap.size W0 W → W.cell? ⟨w.heap.size, 0, none⟩ = some kv ∧ W.cell? ⟨w.heap.size, 1, none⟩ = some hv) := Lib.hid (fun W h => by
          have h1 := (h.block w.heap.size hkl).trans hc0
          exact ⟨by rw [cell_of_row W w.heap.size 0 _ _ _ h1]; rfl, by rw [cell_of_row W w.heap.size 1 _ _ _ h1]; rfl⟩)
        have HTW : Hid (∀ W, Below W0.heap.size W0 W → Below w.heap.size w W) := Lib.hid (fun W h => HB0.out.trans (h.mono HB0.out.size))
        have HBA := Lib.hid (HB1.out.alloc HB1.out.size (.cells #[] 85)).drew
        clear hc0 hW0 hkl hcl1 HTW0
        go_region_held3 (fun W => W.cell? ⟨w.heap.size, 0, none⟩ = some kv ∧ W.cell? ⟨w.heap.size, 1, none⟩ = some hv)
          (first | (go_keep; done) | exact HS.out _ HBA.out | exact HS.out _ HBB.out)
          ((go_at_call 24; refine (HR.out _ (HTW.out _ HBA.out)).mono ?_; rintro e w3 ⟨pv2, rfl, HQ, HBx⟩; have HBB := Lib.hid (HBA.out.trans (HBx.out.mono HBA.out.size))))
        have hkc := HS.out _ HBB.out
        obtain ⟨kc0, kc1⟩ := hkc
        have HK3 := Lib.hid (HK.out.later (HTW.out _ HBB.out))
        have HQb := Lib.hid (HQ.out.mono (b' := w.heap.size) (HTW.out _ HBA.out).size)
        have HTC := Lib.hid (HTW.out _ HBB.out)
        go_upto_region 14 with ((go_at_call 45; refine (kitSum_calls kv hv X _ HK3.out HXS.out).mono ?_; rw [HDG.out]; rintro e w4 ⟨rfl, HB4⟩))
        have h0 := heap_alloc_new w4 (.cells #[.string X, .string DD] 85)
        have hbw := ((HTC.out.trans (HB4.out.mono HTC.out.size)).alloc (Nat.le_trans HTC.out.size HB4.out.size) (.cells #[.string X, .string DD] 85)).drew
        have hb34 : Below w3.heap.size w3 (w4.alloc (.cells #[.string X, .string DD] 85)).drew := (HB4.out.alloc HB4.out.size _).drew
        have hpb3 := HB4.out.size
        obtain ⟨pb, hpb⟩ : ∃ pb, w4.heap.size = pb := ⟨_, rfl⟩
        obtain ⟨W5, hW5⟩ : ∃ W, w4.alloc (.cells #[.string X, .string DD] 85) = W := ⟨_, rfl⟩
        rw [hW5] at hbw h0 hb34
        rw [hpb] at h0 hpb3
        rw [hW5, hpb]
        have q0 : W5.drew.cell? ⟨pb, 0, none⟩ = some (.string X) := by rw [cell_of_row W5.drew pb 0 _ _ _ h0]; rfl
        have q1 : W5.drew.cell? ⟨pb, 1, none⟩ = some (.string DD) := by rw [cell_of_row W5.drew pb 1 _ _ _ h0]; rfl
        have hpl : pb < W5.drew.heap.size := (Array.getElem?_eq_some_iff.1 h0).1
        have HOW : Hid (∀ k, pv2.ownBlock = some k → w.heap.size ≤ k ∧ k ≠ pb) := Lib.hid (fun k hk => by have h1 := World.ownsRow.lt HQb.out k hk; exact ⟨h1.1, by have := h1.2; omega⟩)
        have HQ5 := Lib.hid (HQb.out.later hb34)
        have HBW := Lib.hid hbw
        clear hbw h0 hW5 hpb hb34 hpb3 kc0 kc1
        go_region_held3 (fun w' => w'.cell? ⟨pb, 0, none⟩ = some (.string X) ∧ w'.cell? ⟨pb, 1, none⟩ = some (.string DD))
          (first | (go_keep; done) | exact ⟨q0, q1⟩ | exact ⟨keepc q0 hpl _, keepc q1 hpl _⟩ | exact ⟨q06, q16⟩)
          ((refine PO.append_wp (ops := _) (PO.alloc HQ5.out _) (PRd.lit _ X DD) (by simp) rfl _ _ (by rfl) (by rfl) (by rfl) (HBW.out.alloc HBW.out.size _).size (by have := HQL.out; simp; omega) ?_; intro v6 w6 h6 hg6 ho6; have H6 := Lib.hid h6; have q06 := hg6.cell (keepc q0 hpl _) (fun e => (HOW.out pb e.symm).2 rfl); have q16 := hg6.cell (keepc q1 hpl _) (fun e => (HOW.out pb e.symm).2 rfl); have HBZ : Hid (Below w.heap.size w w6) := Lib.hid ((HBW.out.alloc HBW.out.size _).grown hg6 (HBW.out.alloc HBW.out.size _).size (fun k hk => (HOW.out k hk).1)); clear h6 hg6 ho6))
        go_wp2
        go_ret2
        exact ⟨_, rfl, H6, HBZ⟩
end Go.Proofs.YtmhjocbnoppbbaaDoor.Mk
