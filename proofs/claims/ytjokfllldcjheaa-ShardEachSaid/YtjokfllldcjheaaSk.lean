/- shard, walked: Join. -/
import Derived.Test.YtjokfllldcjheaaSj
namespace Go.Proofs.Ytjokfllldcjheaa.Oc
open Go.RowKit Go.Proofs.Ytjokfllldcjheaa.Sha Go.Proofs.Ytjokfllldcjheaa.Ro Go.Proofs.Ytjokfllldcjheaa.Cs Go.Proofs.Ytjokfllldcjheaa.Ed
set_option linter.unusedVariables false
set_option linter.unusedSimpArgs false
theorem ecells_lit (x y : Int) : (ecells [(x, y)]) = [.int .i64 x, .int .i64 y] := rfl
set_option maxHeartbeats 8000000 in
set_option maxRecDepth 100000 in
theorem join_calls (N g0 : Nat) (lv : Value) (ps : List ByteArray) (rs : List (Nat × List (List Int))) (w : World) (hN : N ≤ 4096) (hL : SR w g0 lv ps) (hlen : rs.length = ps.length) (hps : ps.length ≤ 1000000)
    (hsz : ∀ s ∈ ps, s.size ≤ 140737488355328) (hrd : ∀ i, i < ps.length → rdShard (ps.getD i ByteArray.empty).data.toList N = .ok (rs.getD i (0, []))) (htot : totN rs ≤ 20000)
    (hw : ∀ q, joinR rs 0 0 [] = .ok q → q.1 = N → wrg (N : Int) q.2 = -2) :
    Calls Try.prog 7 #[.int .i64 (N : Int), lv] w fun e w' => Hid (JQ (joinR rs 0 0 []) N ps.length w w' e) ∧ Hid (Below w.heap.size w w') := by
  obtain ⟨R, hR⟩ : ∃ R, joinR rs 0 0 [] = R := ⟨_, rfl⟩
  rw [hR]
  obtain ⟨n, hn⟩ : ∃ n, ps.length = n := ⟨_, rfl⟩
  obtain ⟨A, lc, hv, hlc1, hlc2, -⟩ := id hL
  rw [hn] at hv hlc1 hlen hrd hps ⊢
  subst hv
  have HL := Lib.hid hL
  have HRD := Lib.hid hrd
  have HSZ := Lib.hid hsz
  have HW : Hid (∀ q, R = .ok q → q.1 = N → wrg (N : Int) q.2 = -2) := Lib.hid (by rw [← hR]; exact hw)
  have HRL := Lib.hid hlen
  have HPL := Lib.hid hn
  have HJ0 : Hid (joinR (rs.drop 0) 0 0 [] = R) := Lib.hid hR
  have HT0 : Hid (([] : List E2).length + totN (rs.drop 0) ≤ 20000) := Lib.hid (by simpa using htot)
  clear hL hrd hsz hw hlen hn hR htot
  go_enter Try.func7, Try.ntmps7
  go_upto_region 4 with (fail)
  go_loopw [6, 7, 18] (fun u p x wz => ∃ (i next : Nat) (all : List E2), p = .int .i64 (next : Int) ∧ x = .int .i64 (i : Int) ∧ i ≤ n ∧ next ≤ N ∧ Hid (joinR (rs.drop i) i next all = R) ∧ Hid (all.length + totN (rs.drop i) ≤ 20000) ∧ Hid (EO wz w.heap.size u all) ∧ Hid (Below w.heap.size w wz)) (fun _ _ x _ => n - (intOf x).toNat)
  case atStart => exact ⟨0, 0, [], rfl, rfl, Nat.zero_le _, Nat.zero_le _, HJ0, HT0, Lib.hid (EO.nil _ _), Lib.hid (Below.refl _ _)⟩
  case round =>
    clear HJ0 HT0
    obtain ⟨i, next, all, rfl, rfl, hi, hnx, HJ, HT, HE, HB⟩ := hrel
    generalize u6 = v0 at *
    generalize wr = w1 at *
    by_cases hlt : i < n
    · have i1 : (i : Int) < (n : Int) := by omega
      have HL2 := Lib.hid (HL.out.later (HB.out))
      obtain ⟨o, c, hA, -, -, hcell⟩ := HL2.out.form (by rw [HPL.out]; omega)
      injection hA with hA hA2 hA3
      clear hA2
      subst hA hA3
      obtain ⟨s, hs⟩ : ∃ s, ps.getD i ByteArray.empty = s := ⟨_, rfl⟩
      have hg : ps[i]? = some s := by
        have h := HPL.out
        rw [← hs, List.getD_eq_getElem?_getD, List.getElem?_eq_getElem (by omega)]; rfl
      have d1 := hcell i s hg
      have hss := HSZ.out s (List.mem_of_getElem? hg)
      obtain ⟨f, LL, hx⟩ : ∃ f LL, rs.getD i (0, []) = (f, LL) := ⟨_, _, rfl⟩
      have hr := HRD.out i hlt
      rw [hs, hx] at hr
      have hfl := rdShard_len hr
      have hdr : rs.drop i = (f, LL) :: rs.drop (i + 1) := by
        have h := HRL.out
        rw [List.drop_eq_getElem_cons (by omega), ← hx, List.getD_eq_getElem?_getD, List.getElem?_eq_getElem (by omega)]; rfl
      have hJ := HJ.out
      have hT := HT.out
      rw [hdr, joinR] at hJ
      rw [hdr, totN_cons] at hT
      simp only at hJ hT
      have HG : Hid (Calls Try.prog 9 #[.string s, .int .i64 (N : Int)] w1 fun e w' => ∃ rv, e = .returned (.tuple #[.agg #[.int .i64 (f : Int), rv], .nilIface]) ∧ Hid (RR w' (fun g => w1.heap.size ≤ g) rv LL) ∧ Hid (Below w1.heap.size w1 w')) := Lib.hid ((get_calls s N hss hN w1).mono fun e w' h => by
        have h1 := h.1.out
        rw [hr] at h1
        obtain ⟨rv, a1, a2⟩ := h1
        exact ⟨rv, a1, Lib.hid a2, h.2⟩)
      clear hcell HL2 hs hg hss hx hr hdr HJ HT
      go_upto_region 7 with (go_at_call 9; refine HG.out.mono ?_; rintro e w2 ⟨rv, rfl, HRR, HB2⟩; obtain ⟨rA, rc, hrv, -⟩ := HRR.out.shape; obtain ⟨rn, hrn⟩ : ∃ rn, LL.length = rn := ⟨_, rfl⟩; rw [hrn] at hrv; subst hrv)
      have hW0 := heap_alloc_new w2 (.cells #[.int .i64 (f : Int), .slice rA rn rc] 37)
      have hxb := HB2.out.size
      have hbw : Below w.heap.size w (w2.alloc (.cells #[.int .i64 (f : Int), .slice rA rn rc] 37)) := (HB.out.trans (HB2.out.mono HB.out.size)).alloc (Nat.le_trans HB.out.size hxb) _
      have hrr : RR (w2.alloc (.cells #[.int .i64 (f : Int), .slice rA rn rc] 37)) (fun g => w1.heap.size ≤ g) (.slice rA rn rc) LL := HRR.out.later ((Below.refl _ _).alloc (Nat.le_refl _) _)
      have heo : EO (w2.alloc (.cells #[.int .i64 (f : Int), .slice rA rn rc] 37)) w.heap.size v0 all := (HE.out.later HB2.out).alloc _
      have HOW : Hid (∀ g, w1.heap.size ≤ g → some g ≠ v0.ownBlock) := Lib.hid (fun g hg e => by have := HE.out.lt g e.symm; omega)
      generalize w2.alloc (.cells #[.int .i64 (f : Int), .slice rA rn rc] 37) = W at *
      generalize w2.heap.size = xb at *
      have HX := Lib.hid hW0
      have HXB := Lib.hid hxb
      have HBW := Lib.hid hbw
      have HRW := Lib.hid hrr
      have HEW := Lib.hid heo
      have HRN := Lib.hid hrn
      have d2 : W.cell? ⟨xb, 0, none⟩ = some (.int .i64 (f : Int)) := cell_of_row W xb 0 _ _ _ hW0
      have d3 : W.cell? ⟨xb, 1, none⟩ = some (.slice rA rn rc) := cell_of_row W xb 1 _ _ _ hW0
      clear hW0 hxb hbw hrr heo hrn HRR HB2 HE d1
      by_cases hfn : f = next
      · rw [if_pos hfn] at hJ
        have HJ := Lib.hid hJ
        have HT := Lib.hid hT
        have b9 : ((f : Int) != (next : Int)) = false := by rw [hfn]; simp
        have hnn : next + rn ≤ N := by rw [← hfn, ← HRN.out]; exact hfl
        clear hJ hT hfn hfl
        go_upto_region 12 with (fail)
        go_loopw [6, 46] (fun u x wz => ∃ k : Nat, x = .int .i64 (k : Int) ∧ k ≤ rn ∧ Hid (JL W wz w.heap.size v0 u (all ++ edK next LL k))) (fun _ x _ => rn - (intOf x).toNat)
        case atStart => exact ⟨0, rfl, Nat.zero_le _, Lib.hid (by rw [edK, List.append_nil]; exact JL.start HEW.out)⟩
        case round =>
          obtain ⟨k, rfl, hk, HJL⟩ := hrel
          generalize u6 = vk at *
          generalize wr = wk at *
          have d3' : wk.cell? ⟨xb, 1, none⟩ = some (.slice rA rn rc) := HJL.out.gr.cell d3 (HOW.out xb HXB.out)
          by_cases hkl : k < rn
          · have i2 : (k : Int) < (rn : Int) := by omega
            obtain ⟨gv, ov, t, g, hA, hgl, hgK, hct, hj, hjK⟩ := rr_row HRW.out (k := k) (by rw [HRN.out]; exact hkl)
            subst hA
            have d4 := HJL.out.gr.cell hct (HOW.out gv hgK)
            obtain ⟨tA, tc, ht, -⟩ := id hj.form
            obtain ⟨T, hT2⟩ : ∃ T, LL.getD k [] = T := ⟨_, rfl⟩
            have HTT := Lib.hid hT2
            rw [hT2] at ht hj hjK
            obtain ⟨tn, htn⟩ : ∃ tn, T.length = tn := ⟨_, rfl⟩
            rw [htn] at ht
            subst ht
            have HJT := Lib.hid hj
            have HTN := Lib.hid htn
            have HJK := Lib.hid hjK
            have htn20 : tn ≤ 20000 := by
              have h := edK_row next LL k
              rw [HTT.out, htn] at h
              have h2 := HT.out
              omega
            clear hct hj hjK hT2 htn
            go_upto_region 15 with (fail)
            go_loopw [6, 53] (fun u x wz => ∃ j : Nat, x = .int .i64 (j : Int) ∧ j ≤ tn ∧ Hid (JL W wz w.heap.size v0 u (all ++ edK next LL k ++ (T.take j).map fun z => ((next : Int) + (k : Int), z)))) (fun _ x _ => tn - (intOf x).toNat)
            case atStart => exact ⟨0, rfl, Nat.zero_le _, Lib.hid (by simpa using HJL.out)⟩
            case round =>
              clear HJL d3' d4
              obtain ⟨j, rfl, hj, HJL⟩ := hrel
              by_cases hjl : j < tn
              · have i3 : (j : Int) < (tn : Int) := by omega
                obtain ⟨ot, ct, hA, -, -⟩ := jr_form HJT.out (by rw [HTN.out]; omega)
                injection hA with hA hA2 hA3
                clear hA2
                subst hA hA3
                have hne : T ≠ [] := by intro e; have := HTN.out; rw [e] at this; simp at this; omega
                have hgw := HJK.out hne
                have d5 := HJL.out.gr.cell (jr_cell HJT.out j (by rw [HTN.out]; exact hjl)) (HOW.out g hgw)
                obtain ⟨z, hz⟩ : ∃ z, T.getD j 0 = z := ⟨_, rfl⟩
                rw [hz] at d5
                have HTK : Hid ((T.take j).map (fun z => ((next : Int) + (k : Int), z)) ++ [((next : Int) + (k : Int), z)] = (T.take (j + 1)).map fun z => ((next : Int) + (k : Int), z)) := Lib.hid (by
                  have h := HTN.out
                  rw [List.take_succ_eq_append_getElem (by omega), List.map_append, ← hz, List.getD_eq_getElem?_getD, List.getElem?_eq_getElem (by omega)]; rfl)
                have HLEN : Hid ((all ++ edK next LL k ++ (T.take j).map fun z => ((next : Int) + (k : Int), z)).length ≤ 20000) := Lib.hid (by
                  have h := edK_row next LL k
                  rw [HTT.out, HTN.out] at h
                  have h2 := HT.out
                  rw [List.length_append, List.length_append, List.length_map, List.length_take]
                  omega)
                have HWS := Lib.hid (Nat.le_trans HBW.out.size HJL.out.gr.size)
                clear hz hne
                go_wp2_with (at_builtin; refine EO.append_on (base := w.heap.size) (HJL.out.one.alloc _) (ER.lit _ [((next : Int) + (k : Int), z)] _ rfl 1 rfl (by simp)) rfl _ _ rfl rfl rfl (by have := HWS.out; simp; omega) (by have := HLEN.out; simp only [List.length_cons, List.length_nil]; omega) ?_; intro v3 w3 k1 k2 k3; have HP3 := Lib.hid (HJL.out.push _ k1 k2 k3); clear k1 k2 k3)
                go_roundw
                case rel => exact ⟨j + 1, by go_num, by omega, Lib.hid (by rw [← HTK.out, ← List.append_assoc]; exact HP3.out)⟩
                case measure => simp [intOf]; omega
              · obtain rfl : tn = j := by omega
                have i3 : ¬ (tn : Int) < (tn : Int) := by omega
                have HNX : Hid (JL W wr w.heap.size v0 u6 (all ++ edK next LL (k + 1))) := Lib.hid (by
                  have h := HJL.out
                  rw [← HTN.out, List.take_length, List.append_assoc] at h
                  rw [edK, HTT.out]
                  exact h)
                go_wp2
                go_roundw
                case rel => exact ⟨k + 1, by go_num, by omega, HNX⟩
                case measure => simp [intOf]; omega
          · obtain rfl : rn = k := by omega
            have i2 : ¬ (rn : Int) < (rn : Int) := by omega
            go_wp2
            go_roundw
            case rel => exact ⟨i + 1, next + rn, all ++ edK next LL rn, by go_num, by go_num, by omega, hnn, Lib.hid (by rw [← HRN.out]; exact HJ.out), Lib.hid (by rw [List.length_append, ← HRN.out, edK_all]; have := HT.out; omega), Lib.hid HJL.out.one, Lib.hid (HBW.out.grown HJL.out.gr HBW.out.size HEW.out.base)⟩
            case measure => simp [intOf]; omega
      · rw [if_neg hfn] at hJ
        have HRE := Lib.hid hJ
        have b9 : ((f : Int) != (next : Int)) = true := by rw [bne_iff_ne]; omega
        clear hJ hT hfn hfl
        go_wp2_with (go_at_call 15; refine (swrong_calls _ _ _).mono ?_; rintro e w8 ⟨rfl, rfl⟩)
        go_ret2
        exact ⟨Lib.hid (by rw [← HRE.out]; rfl), HBW⟩
    · obtain rfl : n = i := by omega
      have i1 : ¬ (n : Int) < (n : Int) := by omega
      have HRE : Hid (R = .ok (next, all)) := Lib.hid (by
        have h := HJ.out
        rw [List.drop_eq_nil_of_le (Nat.le_of_eq HRL.out), joinR] at h
        exact h.symm)
      by_cases hnN : next = N
      · have HBD : Hid (∃ g, ER w1 g v0 all) := Lib.hid (by obtain ⟨g, h, -⟩ := HE.out.reads; exact ⟨g, h⟩)
        obtain ⟨g, hg⟩ := HBD.out
        have HT2 := Lib.hid (HW.out _ HRE.out hnN)
        have hal : all.length ≤ 1000000 := by have := HT.out; omega
        have HBC := Lib.hid (build_ok N g v0 all w1 hg hal HT2.out)
        have b9 : ((next : Int) != (N : Int)) = false := by rw [hnN]; simp
        have HNE := Lib.hid hnN
        clear hg hnN HJ HT
        go_wp2_with (go_at_call 5; refine HBC.out.mono ?_; rintro e w8 ⟨p, bb, tv, rfl, HCS, HB8⟩)
        go_ret2
        refine ⟨Lib.hid ?_, Lib.hid (HB.out.trans (HB8.out.mono HB.out.size))⟩
        rw [HRE.out]
        unfold JQ
        simp only
        rw [if_pos HNE.out]
        have hc := HCS.out
        have hz := HB.out.size
        exact ⟨p, bb, tv, rfl, hc.blk, hc.beg.mono hz, hc.row.mono hz, Nat.le_trans hz hc.base, hc.up, hc.ok, hc.few, hc.nodes⟩
      · have b9 : ((next : Int) != (N : Int)) = true := by rw [bne_iff_ne]; omega
        have HNE := Lib.hid hnN
        clear hnN HJ HT
        go_wp2_with (go_at_call 15; refine (swrong_calls _ _ _).mono ?_; rintro e w8 ⟨rfl, rfl⟩)
        go_ret2
        refine ⟨Lib.hid ?_, HB⟩
        rw [HRE.out]
        unfold JQ
        simp only
        rw [if_neg HNE.out]
        rfl
end Go.Proofs.Ytjokfllldcjheaa.Oc
