/- ask: the reference's Search. -/
import Derived.Test.YthnpaiobjmneaaaDoorAd
import Derived.Test.YthnpaiobjmneaaaDoorRt
namespace Go.Proofs.YthnpaiobjmneaaaDoor.Ak
open Go.RowKit Go.Proofs.YthnpaiobjmneaaaDoor.Ed Go.Proofs.YthnpaiobjmneaaaDoor.Ro Go.Proofs.YthnpaiobjmneaaaDoor.Cs
set_option linter.unusedVariables false
set_option linter.unusedSimpArgs false
def fars (L : List T3) : List Int := L.map (·.2.1)
theorem fars_get (L : List T3) (i : Nat) : (fars L).getD i 0 = tf L i := by
  unfold fars tf
  rw [List.getD_eq_getElem?_getD, List.getD_eq_getElem?_getD, List.getElem?_map]
  cases L[i]? <;> rfl
theorem nds_get (L : List T3) (i : Nat) : (nds L).getD i 0 = nd L i := by
  unfold nds nd
  rw [List.getD_eq_getElem?_getD, List.getD_eq_getElem?_getD, List.getElem?_map]
  cases L[i]? <;> rfl
theorem nds_len (L : List T3) : (nds L).length = L.length := List.length_map _
theorem fars_len (L : List T3) : (fars L).length = L.length := List.length_map _
theorem oj_form {w : World} {B : Nat} {v : Value} {zs : List Int} (h : OJ w B v zs) (hp : 0 < zs.length) : ∃ g c, v = .slice (some ⟨g, 0, none⟩) zs.length c ∧ zs.length ≤ c ∧ ∀ i, i < zs.length → w.cell? ⟨g, i, none⟩ = some (.int .i64 (zs.getD i 0)) := by
  rcases id h.2 with ⟨hv, hn⟩ | ⟨g, cap, cur, hv, hb, hh, hnc, hcm, hcs, htk⟩
  · omega
  · subst hv
    exact ⟨g, cap, rfl, hnc, fun i hi => (OJ.at h rfl i hi).1⟩
/-- three rows of one's own, apart -/
structure RT (w wz : World) (B : Nat) (vm vf vt : Value) (A F t : List Int) : Prop where
  met : OJ wz B vm A
  far : OJ wz B vf F
  tg : OJ wz B vt t
  mf : ∀ k, vm.ownBlock = some k → vf.ownBlock ≠ some k
  mt : ∀ k, vm.ownBlock = some k → vt.ownBlock ≠ some k
  ft : ∀ k, vf.ownBlock = some k → vt.ownBlock ≠ some k
  bel : Below B w wz
theorem RT.later {w wz wy : World} {B : Nat} {vm vf vt : Value} {A F t : List Int} (h : RT w wz B vm vf vt A F t) (hB : B ≤ wz.heap.size) (hb : Below wz.heap.size wz wy) : RT w wy B vm vf vt A F t :=
  ⟨h.met.later hb, h.far.later hb, h.tg.later hb, h.mf, h.mt, h.ft, h.bel.trans (hb.mono hB)⟩
theorem RT.none {w wz : World} {B : Nat} {vm vf vt : Value} {A F t : List Int} (h : RT w wz B vm vf vt A F t) : RT w wz B vm vf (.slice none 0 0) A F [] :=
  ⟨h.met, h.far, OJ.nil _ _, h.mf, fun _ _ => by simp [Value.ownBlock], fun _ _ => by simp [Value.ownBlock], h.bel⟩
theorem own_ne {v v' : Value} (h : ∀ k, v.ownBlock = some k → v'.ownBlock ≠ some k) : v'.ownBlock = none ∨ v'.ownBlock ≠ v.ownBlock := by
  cases e : v'.ownBlock with
  | none => exact .inl rfl
  | some j => exact .inr fun e2 => h j e2.symm e
theorem RT.pushm {w wz w3 : World} {B : Nat} {vm vf vt v1 : Value} {A F t A' : List Int} (h : RT w wz B vm vf vt A F t) (hB : B ≤ wz.heap.size) (ob : Obj) (k1 : OJ w3 B v1 A') (k2 : (wz.alloc ob).grownBy w3 vm.ownBlock) (k3 : v1.ownBlock = vm.ownBlock ∨ v1.ownBlock = some (wz.alloc ob).heap.size) : RT w w3 B v1 vf vt A' F t := by
  have hs : (wz.alloc ob).heap.size = wz.heap.size + 1 := by simp
  refine ⟨k1, (h.far.alloc ob).kept k2 (own_ne h.mf), (h.tg.alloc ob).kept k2 (own_ne h.mt), fun k e e2 => ?_, fun k e e2 => ?_, h.ft, (h.bel.alloc hB ob).grown k2 (by rw [hs]; omega) (OJ.base h.met)⟩
  · rcases k3 with k3 | k3
    · exact h.mf k (k3 ▸ e) e2
    · have := OJ.lt h.far k e2
      rw [k3, hs] at e
      injection e with e
      omega
  · rcases k3 with k3 | k3
    · exact h.mt k (k3 ▸ e) e2
    · have := OJ.lt h.tg k e2
      rw [k3, hs] at e
      injection e with e
      omega
theorem RT.swap {w wz : World} {B : Nat} {vm vf vt : Value} {A F t : List Int} (h : RT w wz B vm vf vt A F t) : RT w wz B vf vm vt F A t :=
  ⟨h.far, h.met, h.tg, fun k e e2 => h.mf k e2 e, h.ft, h.mt, h.bel⟩
theorem run_stays {N : Nat} {t : Int → List Int} {d m : Int} {f i : Nat} {L : List T3} (hQ : Q N d m i L) (hi : i < L.length) (h : tf L i ≥ d) : run t d m f (i + 1) L = L := by
  by_cases h2 : i + 1 < L.length
  · have := (hQ.step i h2).1
    exact run_far (by omega) h2
  · exact run_end (by omega)
set_option maxHeartbeats 8000000 in
set_option maxRecDepth 100000 in
theorem rsearch_calls (g : Nat) (v : Value) (l : List E2) (N : Nat) (fr d m : Int) (w : World) (h : ER w g v l) (hl : l.length ≤ 20000) (hok : ∀ e ∈ l, okE N e) (hN : N ≤ 4096) (hfr : 0 ≤ fr ∧ fr < (N : Int)) (hd : 0 ≤ d) (hm : 1 ≤ m) :
    Calls Tryd.prog 22 #[v, .int .i64 fr, .int .i64 d, .int .i64 m] w fun e w' => ∃ v1 v2, e = .returned (.tuple #[v1, v2]) ∧ Hid (RT w w' w.heap.size v1 v2 (.slice none 0 0) (nds (bfs N (tgt l) d m fr)) (fars (bfs N (tgt l) d m fr)) []) := by
  have HE := Lib.hid h
  have HLL := Lib.hid hl
  have HOK := Lib.hid hok
  have HQ0 := Lib.hid (Q.start fr hfr hd hm)
  obtain ⟨R, hR⟩ : ∃ R, bfs N (tgt l) d m fr = R := ⟨_, rfl⟩
  rw [hR]
  have HR : Hid (run (tgt l) d m (N - 0) 0 [(fr, 0, fr)] = R) := Lib.hid hR
  obtain ⟨A, c, rfl, -⟩ := er_form h
  obtain ⟨ln, hln⟩ : ∃ ln, l.length = ln := ⟨_, rfl⟩
  rw [hln]
  have HE : Hid (ER w g (.slice A ln c) l) := Lib.hid (by rw [← hln]; exact HE.out)
  clear hln
  have HB0 : Hid (RT w ((w.alloc (.cells #[.int .i64 fr] 3)).alloc (.cells #[.int .i64 0] 3)) w.heap.size (.slice (some ⟨w.heap.size, 0, none⟩) 1 1) (.slice (some ⟨w.heap.size + 1, 0, none⟩) 1 1) (.slice none 0 0) (nds [(fr, 0, fr)]) (fars [(fr, 0, fr)]) []) := Lib.hid (by
    have o1 : OJ (w.alloc (.cells #[.int .i64 fr] 3)) w.heap.size (.slice (some ⟨w.heap.size, 0, none⟩) 1 1) [fr] := World.ownsRow_lit w #[.int .i64 fr] 1 (Nat.le_refl _) (by simp only [maxLen]; omega) rfl
    have o2 : OJ ((w.alloc (.cells #[.int .i64 fr] 3)).alloc (.cells #[.int .i64 0] 3)) w.heap.size (.slice (some ⟨(w.alloc (.cells #[.int .i64 fr] 3)).heap.size, 0, none⟩) 1 1) [0] := World.ownsRow_lit (w.alloc (.cells #[.int .i64 fr] 3)) #[.int .i64 0] 1 (by simp) (by simp only [maxLen]; omega) rfl
    have e2 : (w.alloc (.cells #[.int .i64 fr] 3)).heap.size = w.heap.size + 1 := by simp
    rw [e2] at o2
    refine ⟨o1.alloc _, o2, OJ.nil _ _, fun k e => ?_, fun _ _ => by simp [Value.ownBlock], fun _ _ => by simp [Value.ownBlock], ((Below.refl _ w).alloc (Nat.le_refl _) _).alloc (by simp) _⟩
    simp [Value.ownBlock] at e ⊢
    omega)
  clear h hR hok hl hfr hd hm
  go_enter Tryd.func22, Tryd.ntmps22
  go_upto_region 3 with (fail)
  go_loopw [10, 11, 12] (fun um uf x wz => ∃ (i : Nat) (L : List T3), x = .int .i64 (i : Int) ∧ i ≤ N ∧ Hid (Q N d m i L) ∧ Hid (run (tgt l) d m (N - i) i L = R) ∧ Hid (RT w wz w.heap.size um uf (.slice none 0 0) (nds L) (fars L) [])) (fun _ _ x _ => N - (intOf x).toNat)
  case atStart => exact ⟨0, _, rfl, Nat.zero_le _, HQ0, HR, HB0⟩
  case round =>
    clear HQ0 HR HB0
    obtain ⟨i, L, rfl, hi, HQ, HR, HT⟩ := hrel
    have hpos := HQ.out.pos
    have hq := HQ.out.len
    obtain ⟨gm, cm, rfl, hcm, hm0⟩ := oj_form HT.out.met (by rw [nds_len]; exact hpos)
    obtain ⟨gf, cf, rfl, hcf, hf0⟩ := oj_form HT.out.far (by rw [fars_len]; exact hpos)
    rw [nds_len] at hcm hm0 HT ⊢
    rw [fars_len] at hcf hf0 HT ⊢
    obtain ⟨n, hn⟩ : ∃ n, L.length = n := ⟨_, rfl⟩
    rw [hn] at hcm hm0 hcf hf0 HT hq ⊢
    have HLN := Lib.hid hn
    have hBz := HT.out.bel.size
    clear hn hpos
    by_cases hlt : i < n
    · have q0 := hf0 i hlt
      have q1 := hm0 i hlt
      rw [fars_get] at q0
      rw [nds_get] at q1
      have hcap := HQ.out.cap i (by rw [HLN.out]; exact hlt)
      have hil : i < L.length := by rw [HLN.out]; exact hlt
      have hx : L[i]? = some (L[i]'hil) := List.getElem?_eq_getElem hil
      have hnd : (0 : Int) ≤ nd L i ∧ nd L i < (N : Int) := by
        have := (HQ.out.inn (L[i]'hil) (List.getElem_mem hil)).1
        unfold nd
        rw [List.getD_eq_getElem?_getD, hx]
        exact this
      have HXX : Hid (L[i]? = some (nd L i, tf L i, (L.getD i (0, 0, 0)).2.2)) := Lib.hid (by
        unfold nd tf
        rw [List.getD_eq_getElem?_getD, hx]; rfl)
      obtain ⟨f, hf⟩ : ∃ f, tf L i = f := ⟨_, rfl⟩
      rw [hf] at q0 hcap HXX
      have HTF := Lib.hid hf
      obtain ⟨z, hz⟩ : ∃ z, nd L i = z := ⟨_, rfl⟩
      rw [hz] at q1 hnd HXX
      have HZ := Lib.hid hz
      obtain ⟨hf0', -, hfi⟩ := hcap
      have i0 : (0 : Int) ≤ (i : Int) := by omega
      have i1 : (i : Int) < (n : Int) := by omega
      clear hf0 hm0 hx hf hz hil
      by_cases hfd : f ≥ d
      · have HE2 : Hid (run (tgt l) d m (N - (i + 1)) (i + 1) L = R) := Lib.hid (by
          rw [run_stays HQ.out (by rw [HLN.out]; exact hlt) (by rw [HTF.out]; exact hfd), ← HR.out]
          exact (run_far (by rw [HTF.out]; exact hfd) (by rw [HLN.out]; exact hlt)).symm)
        go_wp2
        go_roundw
        case rel => exact ⟨i + 1, L, by go_num, by omega, Lib.hid HQ.out.next, HE2, HT⟩
        case measure => simp [intOf]; omega
      · have hfd2 : f < d := by omega
        have HTL : Hid ((tgt l z).length ≤ 20000) := Lib.hid (by rw [tgt_len]; have := deg_le l z; have := HLL.out; omega)
        have HTB : Hid (∀ x ∈ tgt l z, 0 ≤ x ∧ x < (N : Int)) := Lib.hid (fun x hx => by have := HOK.out _ (mem_tgt.1 hx); unfold okE at this; exact ⟨this.2.1, this.2.2.2⟩)
        have HTC : Hid (Calls Tryd.prog 31 #[.slice A ln c, .int .i64 z] wr fun e w' => ∃ v', e = .returned v' ∧ Hid (OJ w' wr.heap.size v' (tgt l z)) ∧ Hid (Below wr.heap.size wr w')) := Lib.hid (rtargets_calls g _ l z wr (HE.out.later HT.out.bel) (by have := HLL.out; omega))
        have HNX : Hid (run (tgt l) d m (N - (i + 1)) (i + 1) (meets m L (tgt l z) (f + 1) z) = R) := Lib.hid (by
          rw [← HR.out, show N - i = (N - (i + 1)) + 1 by omega]; exact (run_go HXX.out hfd).symm)
        generalize tgt l z = t at HTL HTB HTC HNX
        go_upto_region 8 with (go_at_call 31; refine HTC.out.mono ?_; rintro e W6 ⟨v6, rfl, HJ, HB6⟩; obtain ⟨A6, c6, rfl, hle6⟩ := id HJ.out.shape; obtain ⟨dt, hdt⟩ : ∃ dt, t.length = dt := ⟨_, rfl⟩; rw [hdt] at HJ hle6 ⊢; have HDT := Lib.hid hdt; clear hdt)
        have HT6 : Hid (RT w W6 w.heap.size (.slice (some ⟨gm, 0, none⟩) n cm) (.slice (some ⟨gf, 0, none⟩) n cf) (.slice A6 dt c6) (nds L) (fars L) t) := Lib.hid (by
          have h6 := HT.out.later hBz HB6.out
          refine ⟨h6.met, h6.far, HJ.out.mono hBz, h6.mf, fun k e e2 => ?_, fun k e e2 => ?_, h6.bel⟩
          · have a1 := OJ.lt HT.out.met k e
            have a2 := OJ.base HJ.out k e2
            omega
          · have a1 := OJ.lt HT.out.far k e
            have a2 := OJ.base HJ.out k e2
            omega)
        obtain ⟨lf, hlf⟩ : ∃ lf, meets m L t (f + 1) z = lf := ⟨_, rfl⟩
        have HLF : Hid (meets m L (t.drop 0) (f + 1) z = lf) := Lib.hid hlf
        rw [hlf] at HNX
        have hdt2 : dt ≤ 20000 := by rw [← HDT.out]; exact HTL.out
        have HND := Lib.hid hnd
        have HQ1 : Hid (Q N d m i L ∧ tf L i = f) := Lib.hid ⟨HQ.out, HTF.out⟩
        have HL0 : Hid (i < L.length) := Lib.hid (by rw [HLN.out]; exact hlt)
        clear hlf HTC HR HXX HTL hnd HJ HT HB6 q0 q1 HQ HTF HZ
        go_loopw [10, 11, 14] (fun um uf x wz => ∃ (k : Nat) (L' : List T3), x = .int .i64 (k : Int) ∧ k ≤ dt ∧ Hid (i < L'.length) ∧ Hid (Q N d m i L' ∧ tf L' i = f) ∧ Hid (meets m L' (t.drop k) (f + 1) z = lf) ∧ Hid (RT w wz w.heap.size um uf (.slice A6 dt c6) (nds L') (fars L') t)) (fun _ _ x _ => dt - (intOf x).toNat)
        case atStart => exact ⟨0, L, rfl, Nat.zero_le _, HL0, HQ1, HLF, HT6⟩
        case round =>
          clear HQ1 HLF HT6 HL0 HLN
          obtain ⟨k, L', rfl, hk, HIL, HQ, HLF, HT⟩ := hrel
          rename World => wz
          have hpos := HQ.out.1.pos
          have hq' := HQ.out.1.len
          obtain ⟨gm', cm', rfl, hcm', hm0'⟩ := oj_form HT.out.met (by rw [nds_len]; exact hpos)
          obtain ⟨gf', cf', rfl, hcf', hf0''⟩ := oj_form HT.out.far (by rw [fars_len]; exact hpos)
          have hBz' := HT.out.bel.size
          obtain ⟨n', hn'⟩ : ∃ n, L'.length = n := ⟨_, rfl⟩
          rw [nds_len] at hcm' HT ⊢
          rw [fars_len] at hcf' hf0'' HT ⊢
          rw [hn'] at hcm' hcf' hf0'' HT hq' ⊢
          have HLN := Lib.hid hn'
          have hin : i < n' := by rw [← hn']; exact HIL.out
          have q0 := hf0'' i hin
          rw [fars_get, HQ.out.2] at q0
          have i1' : (i : Int) < (n' : Int) := by omega
          clear hn' hpos hm0' hf0''
          by_cases hlk : k < dt
          · obtain ⟨g6, c6', hv6, -, hc6⟩ := oj_form HT.out.tg (by rw [HDT.out]; omega)
            rw [HDT.out] at hv6 hc6
            injection hv6 with hv6 _ hc6'
            subst hv6 hc6'
            have q3 := hc6 k hlk
            have hxb := HTB.out (t.getD k 0) (by rw [List.getD_eq_getElem?_getD, List.getElem?_eq_getElem (by rw [HDT.out]; exact hlk)]; exact List.getElem_mem _)
            have HMC : Hid (meets m L' (t.drop k) (f + 1) z = meets m (meet m L' (t.getD k 0) (f + 1) z) (t.drop (k + 1)) (f + 1) z) := Lib.hid (by
              rw [List.drop_eq_getElem_cons (by rw [HDT.out]; exact hlk), List.getD_eq_getElem?_getD, List.getElem?_eq_getElem (by rw [HDT.out]; exact hlk)]; rfl)
            obtain ⟨x, hx⟩ : ∃ x, t.getD k 0 = x := ⟨_, rfl⟩
            rw [hx] at q3 hxb HMC
            have HXB := Lib.hid hxb
            have j0 : (0 : Int) ≤ (k : Int) := by omega
            have j1 : (k : Int) < (dt : Int) := by omega
            obtain ⟨r, hr⟩ : ∃ r, decide (x ∈ nds L') = r := ⟨_, rfl⟩
            obtain ⟨gj, hgj, -⟩ := HT.out.met.reads
            have HHA : Hid (Calls Tryd.prog 33 #[.slice (some ⟨gm', 0, none⟩) n' cm', .int .i64 x] wz fun e w' => e = .returned (.bool r) ∧ wz = w') := Lib.hid (by
              have := rhas_calls gj _ (nds L') x wz hgj
              rw [hr] at this; exact this)
            have HRR := Lib.hid hr
            have hq9 := HQ.out.1.meet HXB.out (th := z) HND.out HIL.out (by rw [HQ.out.2]; exact hfd2)
            rw [HQ.out.2] at hq9
            have HQ9 := Lib.hid hq9
            clear hc6 hx hr hgj hq9 hxb
            by_cases hnm : (n' : Int) < m
            · cases r
              · have HMM : Hid (meet m L' x (f + 1) z = L' ++ [(x, f + 1, z)]) := Lib.hid (by unfold meet; rw [if_pos ⟨of_decide_eq_false HRR.out, by rw [HLN.out]; exact hnm⟩])
                have HNN : Hid ((nds L').length ≤ 4096) := Lib.hid (by rw [nds_len, HLN.out]; omega)
                have HFF : Hid ((fars L').length ≤ 4096) := Lib.hid (by rw [fars_len, HLN.out]; omega)
                go_upto_region 12 with (first
                  | (go_at_call 33; refine HHA.out.mono ?_; rintro e w9 ⟨rfl, rfl⟩)
                  | (at_builtin; refine OJ.app_on (base := w.heap.size) (HT.out.met.alloc _) (JR.lit _ [x] _ rfl 1 rfl (by simp)) rfl _ _ rfl rfl rfl (by simp; omega) (by have := HNN.out; simp only [List.length_cons, List.length_nil]; omega) ?_; intro v1 w3 k1 k2 k3; have HT3 := Lib.hid (HT.out.pushm hBz' _ k1 k2 k3); have hBz3 := HT3.out.bel.size; clear k1 k2 k3))
                obtain ⟨u3, cap3, hv3, -⟩ := id HT3.out.met.shape
                have q03 : w3.cell? ⟨gf', i, none⟩ = some (.int .i64 f) := by
                  have := (OJ.at HT3.out.far (n := n') (by rw [fars_len, HLN.out]) i hin).1
                  rw [fars_get, HQ.out.2] at this
                  exact this
                have HV3 := Lib.hid hv3
                clear q0 q3 hv3 HT
                go_wp2_with (at_builtin; refine OJ.app_on (base := w.heap.size) (HT3.out.far.alloc _) (JR.lit _ [f + 1] _ rfl 1 rfl (by simp)) rfl _ _ rfl rfl rfl (by simp; omega) (by have := HFF.out; simp only [List.length_cons, List.length_nil]; omega) ?_; intro v2 w4 k1 k2 k3; have HT4 := Lib.hid ((HT3.out.swap.pushm hBz3 _ k1 k2 k3).swap); clear k1 k2 k3)
                go_roundw
                case rel => exact ⟨k + 1, L' ++ [(x, f + 1, z)], by go_num, by omega, Lib.hid (by have := HIL.out; simp; omega), Lib.hid (by rw [← HMM.out]; exact HQ9.out), Lib.hid (by rw [← HMM.out, ← HMC.out]; exact HLF.out), Lib.hid (by
                  have := HT4.out
                  rw [show nds (L' ++ [(x, f + 1, z)]) = nds L' ++ [x] by simp [nds], show fars (L' ++ [(x, f + 1, z)]) = fars L' ++ [f + 1] by simp [fars]]
                  exact this)⟩
                case measure => simp [intOf]; omega
              · have HMM : Hid (meet m L' x (f + 1) z = L') := Lib.hid (by unfold meet; rw [if_neg (fun h => h.1 (of_decide_eq_true HRR.out))])
                go_wp2_with (go_at_call 33; refine HHA.out.mono ?_; rintro e w9 ⟨rfl, rfl⟩)
                go_roundw
                case rel => exact ⟨k + 1, L', by go_num, by omega, HIL, HQ, Lib.hid (by have := HMC.out; rw [HMM.out] at this; rw [← this]; exact HLF.out), HT⟩
                case measure => simp [intOf]; omega
            · have HMM : Hid (meet m L' x (f + 1) z = L') := Lib.hid (by unfold meet; rw [if_neg (fun h => by have := h.2; rw [HLN.out] at this; exact hnm this)])
              go_wp2
              go_roundw
              case rel => exact ⟨k + 1, L', by go_num, by omega, HIL, HQ, Lib.hid (by have := HMC.out; rw [HMM.out] at this; rw [← this]; exact HLF.out), HT⟩
              case measure => simp [intOf]; omega
          · obtain rfl : dt = k := by omega
            have HE9 : Hid (L' = lf) := Lib.hid (by
              have := HLF.out
              rw [show t.drop dt = [] by rw [← HDT.out]; exact List.drop_length] at this
              exact this)
            have HT9 := Lib.hid HT.out.none
            clear q0
            go_wp2
            go_roundw
            case rel => exact ⟨i + 1, L', by go_num, by omega, Lib.hid HQ.out.1.next, Lib.hid (by rw [HE9.out]; exact HNX.out), HT9⟩
            case measure => simp [intOf]; omega
    · have HE9 : Hid (L = R) := Lib.hid (by rw [← HR.out]; exact (run_end (by rw [HLN.out]; omega)).symm)
      clear hf0 hm0
      go_wp2
      go_ret2
      exact ⟨_, _, rfl, Lib.hid (by rw [← HE9.out]; exact HT.out)⟩
end Go.Proofs.YthnpaiobjmneaaaDoor.Ak
