/- ask: run. -/
import Derived.Test.YthnpaiobjmneaaaDoorAm
namespace Go.Proofs.YthnpaiobjmneaaaDoor.Ak
open Go.RowKit Go.Proofs.YthnpaiobjmneaaaDoor.Ed Go.Proofs.YthnpaiobjmneaaaDoor.Ro Go.Proofs.YthnpaiobjmneaaaDoor.Cs
set_option linter.unusedVariables false
set_option linter.unusedSimpArgs false

/-- from a first world a search has been made -/
def SB (w w' : World) (B s mb : Nat) (pv : Value) (m : Int) (L : List T3) : Prop := ∃ v', SS w' B s mb pv m L v' ∧ Below B w w'
def RX (w w' : World) (B s : Nat) (pv : Value) (m : Int) (L : List T3) : Prop := ∃ mb, SB w w' B s mb pv m L
theorem above {W wz : World} {s mb b0 : Nat} {v v' : Value} (h : Fr W wz s mb v v') (hs : s < b0) (hm : mb < b0) (hv : ∀ k, v.ownBlock = some k → k < b0) : ∀ j, b0 ≤ j → j < W.heap.size → wz.heap[j]? = W.heap[j]? :=
  fun j h1 h2 => h.block j h2 (by omega) (by omega) (fun e => by have := hv j e; omega)
theorem meets_cons (m : Int) (L : List T3) (t : List Int) (k : Nat) (hk : k < t.length) (far th : Int) : meets m L (t.drop k) far th = meets m (meet m L (t.getD k 0) far th) (t.drop (k + 1)) far th := by
  rw [List.drop_eq_getElem_cons hk, List.getD_eq_getElem?_getD, List.getElem?_eq_getElem hk]; rfl
theorem SS.start (w : World) (pv : Value) (m : Int) : SS ((w.alloc (.map #[] 0)).alloc (.cells #[pv, .slice none 0 0, .map (some w.heap.size), .int .i64 m] 88)) w.heap.size (w.heap.size + 1) w.heap.size pv m [] (.slice none 0 0) := by
  refine ⟨?_, MO.nil _ _, ?_, by omega, Nat.le_refl _, by omega, fun b hb => by simp [Value.ownBlock] at hb⟩
  · have := heap_alloc_new (w.alloc (.map #[] 0)) (.cells #[pv, .slice none 0 0, .map (some w.heap.size), .int .i64 m] 88)
    simpa using this
  · exact ⟨[], fun _ => 0, (Wa.IM.made w _).alloc _, rfl, by simp [nds], by simp⟩
theorem meet_start {m : Int} (hm : 1 ≤ m) (fr : Int) : meet m [] fr 0 fr = [(fr, 0, fr)] := by
  unfold meet; rw [if_pos ⟨by simp [nds], by simp; omega⟩]; rfl
set_option maxHeartbeats 4000000 in
set_option maxRecDepth 100000 in
theorem run_calls {w : World} {B0 p bb N : Nat} {tv : Value} {l : List E2} (hc : CS w B0 p bb tv N l) (fr d m : Int) (hfr : 0 ≤ fr ∧ fr < (N : Int)) (hd : 0 ≤ d) (hm : 1 ≤ m) :
    Calls Tryd.prog 52 #[pV p, .int .i64 fr, .int .i64 d, .int .i64 m] w fun e w' => ∃ s, e = .returned (.pointer (some ⟨s, 0, none⟩)) ∧ Hid (RX w w' w.heap.size s (pV p) m (bfs N (tgt l) d m fr)) := by
  have HC := Lib.hid hc
  have HQ0 := Lib.hid (Q.start fr hfr hd hm)
  have HST := Lib.hid (meet_start hm fr)
  obtain ⟨R, hR⟩ : ∃ R, bfs N (tgt l) d m fr = R := ⟨_, rfl⟩
  rw [hR]
  have HR : Hid (run (tgt l) d m (N - 0) 0 [(fr, 0, fr)] = R) := Lib.hid hR
  have HN : Hid (N ≤ 4096) := Lib.hid hc.nodes
  have wf0 : Wa.wfI fr := by unfold Wa.wfI; have := hc.nodes; omega
  have HWF := Lib.hid wf0
  clear hR hc hfr wf0 hm
  have hmk := @run_makeMap Tryd.prog
  go_enter Tryd.func52, Tryd.ntmps52
  go_upto_region 4 with (go_at_call 72; refine (meet_calls (SS.start w (pV p) m) fr 0 fr HWF.out HWF.out (by simp)).mono ?_; rw [HST.out]; rintro e w1 ⟨rfl, HX⟩)
  obtain ⟨s, hs⟩ : ∃ s, w.heap.size + 1 = s := ⟨_, rfl⟩
  rw [hs] at HX ⊢
  have HS0 : Hid (SB w w1 w.heap.size s w.heap.size (pV p) m [(fr, 0, fr)]) := Lib.hid (by
    obtain ⟨v', h1, h2, -⟩ := HX.out
    exact ⟨v', h1, ((((Below.refl _ w).alloc (Nat.le_refl _) _).alloc (by simp) _).trans h2)⟩)
  obtain ⟨mb, hmb⟩ : ∃ mb, w.heap.size = mb := ⟨_, rfl⟩
  have HS0 : Hid (SB w w1 w.heap.size s mb (pV p) m [(fr, 0, fr)]) := Lib.hid (by rw [← hmb]; exact HS0.out)
  clear hs HX hmb HST HWF hmk
  go_loopw [10] (fun x wz => ∃ (i : Nat) (L : List T3), x = .int .i64 (i : Int) ∧ i ≤ N ∧ Hid (Q N d m i L) ∧ Hid (run (tgt l) d m (N - i) i L = R) ∧ Hid (SB w wz w.heap.size s mb (pV p) m L)) (fun x _ => N - (intOf x).toNat)
  case atStart => exact ⟨0, _, rfl, Nat.zero_le _, HQ0, HR, HS0⟩
  case round =>
    clear HQ0 HR HS0
    obtain ⟨i, L, rfl, hi, HQ, HR, HS⟩ := hrel
    obtain ⟨v, hs, hb⟩ := HS.out
    obtain ⟨A, c, hv, hle, -⟩ := id hs.row.shape
    have hml : (mts L).length = L.length := by simp [mts]
    rw [hml] at hv hle
    subst hv
    have hblk := hs.blk
    obtain ⟨g, ⟨o, A', c', hv', -, -, hrd⟩, -⟩ := hs.row.reads
    have c1 : wr.cell? ⟨s, 1, none⟩ = some (.slice A L.length c) := by simp only [World.cell?, hblk]; rfl
    have HSS := Lib.hid hs
    have HB := Lib.hid hb
    have hnn := HN.out
    rw [hml] at hrd hv'
    have hq := HQ.out.len
    obtain ⟨n, hn⟩ : ∃ n, L.length = n := ⟨_, rfl⟩
    rw [hn] at c1 hrd hq HSS hv'
    injection hv' with hv1 _ hv2
    subst hv1 hv2
    have HLN := Lib.hid hn
    clear hs hb hblk hml hle HS
    by_cases hlt : i < n
    · obtain ⟨⟨nd, f, th⟩, hx⟩ : ∃ x, L[i]? = some x := ⟨_, List.getElem?_eq_getElem (by rw [hn]; exact hlt)⟩
      obtain ⟨rfl, -, hcell⟩ := hrd (by omega)
      obtain ⟨q0, q1⟩ := hcell i hlt
      have hxm : (mts L).getD i (0, 0) = (nd, f) := by simp [mts, List.getD_eq_getElem?_getD, hx]
      rw [hxm] at q0 q1
      have HXX := Lib.hid hx
      have htf := tf_get hx
      have hcap := HQ.out.cap i (by rw [hn]; exact hlt)
      rw [htf] at hcap
      have hnd := (HQ.out.inn _ (List.mem_of_getElem? hx)).1
      obtain ⟨hf0, -, hfi⟩ := hcap
      have HTF : Hid (tf L i = f) := Lib.hid htf
      have i0 : (0 : Int) ≤ (i : Int) := by omega
      have i1 : (i : Int) < (n : Int) := by omega
      clear hcell hrd hx hxm htf hn
      by_cases hfd : f ≥ d
      · have HE : Hid (R = L) := Lib.hid (by rw [← HR.out]; exact run_far (by rw [HTF.out]; exact hfd) (by rw [HLN.out]; exact hlt))
        go_wp2
        go_ret
        exact ⟨_, rfl, Lib.hid (by rw [HE.out]; exact ⟨mb, _, HSS.out.later ((Below.refl _ _).alloc (Nat.le_refl _) _), HB.out.alloc HB.out.size _⟩)⟩
      · have hfd' : ¬ f ≥ d := hfd
        have hfd2 : f < d := by omega
        obtain ⟨ndn, rfl⟩ := Int.eq_ofNat_of_zero_le hnd.1
        have HTL : Hid ((tgt l ndn).length ≤ 20000) := Lib.hid (by rw [tgt_len]; have := deg_le l ndn; have := HC.out.few; omega)
        have HTB : Hid (∀ x ∈ tgt l ndn, 0 ≤ x ∧ x < (N : Int)) := Lib.hid (fun x hx => by have := HC.out.ok _ (mem_tgt.1 hx); unfold okE at this; exact ⟨this.2.1, this.2.2.2⟩)
        have HTC := Lib.hid (targets_calls (HC.out.later (HB.out.alloc HB.out.size (.cells #[.int .i64 (ndn : Int), .int .i64 f] 47))) ndn (by omega))
        have HNX : Hid (run (tgt l) d m (N - (i + 1)) (i + 1) (meets m L (tgt l ndn) (f + 1) ndn) = R) := Lib.hid (by
          rw [← HR.out, show N - i = (N - (i + 1)) + 1 by omega]; exact (run_go HXX.out hfd).symm)
        generalize tgt l ndn = t at HTL HTB HTC HNX
        go_upto_region 10 with (go_at_call 28; refine HTC.out.mono ?_; rintro e W6 ⟨v6, rfl, HJ, HB6⟩; obtain ⟨g6, ⟨A6, c6, o6, hv6, hle6, hm6, hrd6⟩, hg6⟩ := HJ.out.reads; obtain ⟨dt, hdt⟩ : ∃ dt, t.length = dt := ⟨_, rfl⟩; rw [hdt] at hv6 hle6 hrd6; subst hv6; have HDT := Lib.hid hdt; have HG6 := Lib.hid hg6; have HRD := Lib.hid hrd6; clear HJ hdt hrd6 hg6)
        have hb6 : wr.heap.size + 1 ≤ W6.heap.size := by have := HB6.out.size; simpa using this
        have HSL := HSS.out.lt
        have HML := HSS.out.via.lt
        have HOL := Lib.hid HSS.out.row.lt
        have HA : Hid (Below wr.heap.size wr (wr.alloc (.cells #[.int .i64 (ndn : Int), .int .i64 f] 47))) := Lib.hid ((Below.refl _ _).alloc (Nat.le_refl _) _)
        have HB7 := Lib.hid (HB.out.trans ((HA.out.trans (HB6.out.mono HA.out.size)).mono HB.out.size))
        have HS6 := Lib.hid (HSS.out.later (HA.out.trans (HB6.out.mono HA.out.size)))
        have HBK : Hid (W6.heap[wr.heap.size]? = some (.cells #[.int .i64 (ndn : Int), .int .i64 f] 47 (0, 0))) := Lib.hid (by
          rw [HB6.out.block _ (by simp)]; exact heap_alloc_new wr _)
        have HFW : Hid (Wa.wfI (ndn : Int)) := Lib.hid (by unfold Wa.wfI; omega)
        obtain ⟨lf, hlf⟩ : ∃ lf, meets m L t (f + 1) ndn = lf := ⟨_, rfl⟩
        have HLF : Hid (meets m L (t.drop 0) (f + 1) ndn = lf) := Lib.hid hlf
        rw [hlf] at HNX
        have hdt2 : dt ≤ 20000 := by rw [← HDT.out]; exact HTL.out
        have HND := Lib.hid hnd
        clear hlf HTC HSS HB HR HXX HTL hnd
        go_loopw [54] (fun x wz => ∃ (k : Nat) (L' : List T3), x = .int .i64 (k : Int) ∧ k ≤ dt ∧ Hid (n ≤ L'.length) ∧ Hid (Q N d m i L' ∧ tf L' i = f) ∧ Hid (meets m L' (t.drop k) (f + 1) ndn = lf) ∧ Hid (SX W6 wz w.heap.size s mb (pV p) m (.slice (some ⟨g, o, none⟩) n c) L')) (fun x _ => dt - (intOf x).toNat)
        case atStart => exact ⟨0, L, rfl, Nat.zero_le _, Lib.hid (by rw [HLN.out]; exact Nat.le_refl _), Lib.hid ⟨HQ.out, HTF.out⟩, HLF, Lib.hid ⟨_, HS6.out, Below.refl _ _, Fr.below (Below.refl _ _) _ _ _⟩⟩
        case round =>
          clear HLF HQ HTF
          obtain ⟨k, L', rfl, hk, HNL, HQ, HLF, HX⟩ := hrel
          rename World => wz
          obtain ⟨v', hs', hb', hf'⟩ := id HX.out
          have hab := above hf' HSL HML HOL.out
          have hzb := (hab wr.heap.size (Nat.le_refl _) (by omega)).trans HBK.out
          have cx0 : wz.cell? ⟨wr.heap.size, 0, none⟩ = some (.int .i64 (ndn : Int)) := by simp only [World.cell?, hzb]; rfl
          have cx1 : wz.cell? ⟨wr.heap.size, 1, none⟩ = some (.int .i64 f) := by simp only [World.cell?, hzb]; rfl
          have HS' := Lib.hid hs'
          have HB' := Lib.hid hb'
          have HF' := Lib.hid hf'
          by_cases hlk : k < dt
          · obtain ⟨rfl, hg6, hc6⟩ := HRD.out (by omega)
            have hgb : wr.heap.size ≤ g6 := by
              have := HG6.out (fun e => by have h2 := HDT.out; rw [e] at h2; simp at h2; omega)
              simp at this; omega
            have q2 := hc6 k hlk
            have hgg := hab g6 hgb hg6
            have q3 : wz.cell? ⟨g6, o6 + k, none⟩ = some (.int .i64 (t.getD k 0)) := by rw [← q2]; simp only [World.cell?, hgg]
            have hxb := HTB.out (t.getD k 0) (by rw [List.getD_eq_getElem?_getD, List.getElem?_eq_getElem (by rw [HDT.out]; exact hlk)]; exact List.getElem_mem _)
            have HMC := Lib.hid (meets_cons m L' t k (by rw [HDT.out]; exact hlk) (f + 1) ndn)
            obtain ⟨x, hx⟩ : ∃ x, t.getD k 0 = x := ⟨_, rfl⟩
            rw [hx] at q3 hxb HMC
            have HXB := Lib.hid hxb
            have HXW : Hid (Wa.wfI x) := Lib.hid (by unfold Wa.wfI; omega)
            have HLL : Hid (L'.length < 1000000) := Lib.hid (by have := HQ.out.1.len; omega)
            have j0 : (0 : Int) ≤ (k : Int) := by omega
            have j1 : (k : Int) < (dt : Int) := by omega
            clear q2 hc6 hgg hab hzb hs' hb' hf' hx hxb HX
            go_wp2_with (go_at_call 72; refine (meet_calls HS'.out x (f + 1) ndn HXW.out HFW.out HLL.out).mono ?_; rintro e w9 ⟨rfl, HX9⟩)
            go_roundw
            case rel =>
              have hq9 := HQ.out.1.meet HXB.out (th := (ndn : Int)) HND.out (by have := HNL.out; omega) (by rw [HQ.out.2]; exact hfd2)
              rw [HQ.out.2] at hq9
              refine ⟨k + 1, meet m L' x (f + 1) ndn, by go_num, by omega, Lib.hid (Nat.le_trans HNL.out (meet_len _ _ _ _ _)), Lib.hid hq9, Lib.hid (by rw [← HMC.out]; exact HLF.out), Lib.hid ?_⟩
              obtain ⟨v9, h1, h2, h3⟩ := HX9.out
              exact ⟨v9, h1, HB'.out.trans h2, HF'.out.trans h3⟩
            case measure => simp [intOf]; omega
          · obtain rfl : dt = k := by omega
            have HE : Hid (L' = lf) := Lib.hid (by
              have := HLF.out
              rw [show t.drop dt = [] by rw [← HDT.out]; exact List.drop_length] at this
              exact this)
            clear hab hzb hs' hb' hf' HX
            go_wp2
            go_roundw
            case rel => exact ⟨i + 1, L', by go_num, by omega, Lib.hid HQ.out.1.next, Lib.hid (by rw [HE.out]; exact HNX.out), Lib.hid ⟨v', HS'.out, HB7.out.trans HB'.out⟩⟩
            case measure => simp [intOf]; omega
    · have HE : Hid (R = L) := Lib.hid (by rw [← HR.out]; exact run_end (by rw [HLN.out]; omega))
      go_wp2
      go_ret
      exact ⟨_, rfl, Lib.hid (by rw [HE.out]; exact ⟨mb, _, HSS.out, HB.out⟩)⟩
end Go.Proofs.YthnpaiobjmneaaaDoor.Ak
