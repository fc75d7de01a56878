/- shard, walked: Table; Split's other ways; Join of parts of which one lacks. -/
import Derived.Test.YtjokfllldcjheaaGreatDoorSq
import Derived.Test.YtjokfllldcjheaaGreatDoorTb
namespace Go.Proofs.YtjokfllldcjheaaGreatDoor.Oc
open Go.RowKit Go.Proofs.YtjokfllldcjheaaGreatDoor.Sha Go.Proofs.YtjokfllldcjheaaGreatDoor.Ro Go.Proofs.YtjokfllldcjheaaGreatDoor.Cs Go.Proofs.YtjokfllldcjheaaGreatDoor.Ed Go.Proofs.YtjokfllldcjheaaGreatDoor.Tb
set_option linter.unusedVariables false
set_option linter.unusedSimpArgs false
set_option maxHeartbeats 1000000 in
theorem swrong_fault (p : Int) (a k : Int) (w : World) :
    Calls Tryz.prog 46 #[.int .i64 p, faultV a k] w fun e w' => e = .returned (.iface 106 (.agg #[.int .i64 p, faultV a k])) ∧ w = w' := by
  go_enter Tryz.func46, Tryz.ntmps46
  go_wp2
  go_ret
  exact ⟨rfl, rfl⟩
/-- the first k rows of a table -/
def tabL (ps : List ByteArray) (fs : List Nat) (k : Nat) : List E2 := (List.range k).map fun i => (((fs.getD i 0 : Nat) : Int), ((ps.getD i ByteArray.empty).size : Int))
theorem tabL_len (ps : List ByteArray) (fs : List Nat) (k : Nat) : (tabL ps fs k).length = k := by simp [tabL]
theorem tabL_succ (ps : List ByteArray) (fs : List Nat) (k : Nat) : tabL ps fs (k + 1) = tabL ps fs k ++ [(((fs.getD k 0 : Nat) : Int), ((ps.getD k ByteArray.empty).size : Int))] := by
  unfold tabL; rw [List.range_succ, List.map_append]; rfl
/-- what Table answers -/
def TQ (b : Bad) (k0 n : Nat) (l : List E2) (w w' : World) (e : Ending) : Prop :=
  if k0 = n then ∃ v, e = .returned (.tuple #[v, .nilIface]) ∧ TBO w' w.heap.size v l else e = .returned (.tuple #[.slice none 0 0, .iface 106 (.agg #[.int .i64 (k0 : Int), faultV (b.2 : Int) (b.1 : Int)])])
set_option maxHeartbeats 8000000 in
set_option maxRecDepth 100000 in
theorem table_calls (N g0 : Nat) (lv : Value) (ps : List ByteArray) (fs : List Nat) (w : World) (hN : N ≤ 4096) (hL : SR w g0 lv ps) (hps : ps.length ≤ 1000)
    (hsz : ∀ s ∈ ps, s.size ≤ 140737488355328) (k0 : Nat) (hk0 : k0 ≤ ps.length) (b : Bad)
    (hrd : ∀ i, i < k0 → ∃ LL, rdShard (ps.getD i ByteArray.empty).data.toList N = .ok (fs.getD i 0, LL)) (hbad : k0 < ps.length → rdShard (ps.getD k0 ByteArray.empty).data.toList N = .error b) :
    Calls Tryz.prog 14 #[.int .i64 (N : Int), lv] w fun e w' => Hid (TQ b k0 ps.length (tabL ps fs k0) w w' e) ∧ Hid (Below w.heap.size w w') := by
  obtain ⟨n, hn⟩ : ∃ n, ps.length = n := ⟨_, rfl⟩
  obtain ⟨A, lc, hv, hlc1, hlc2, -⟩ := id hL
  rw [hn] at hv hlc1 hps hk0 hbad ⊢
  subst hv
  have HL := Lib.hid hL
  have HRD := Lib.hid hrd
  have HSZ := Lib.hid hsz
  have HBD := Lib.hid hbad
  have HPL := Lib.hid hn
  have HT0 : Hid (tabL ps fs 0 = []) := Lib.hid (by simp [tabL])
  clear hL hrd hsz hbad hn
  go_enter Tryz.func14, Tryz.ntmps14
  go_upto_region 3 with (fail)
  go_loopw [6, 13] (fun u x wz => ∃ i : Nat, x = .int .i64 (i : Int) ∧ i ≤ k0 ∧ Hid (TBO wz w.heap.size u (tabL ps fs i)) ∧ Hid (Below w.heap.size w wz)) (fun _ x _ => n - (intOf x).toNat)
  case atStart => exact ⟨0, rfl, Nat.zero_le _, Lib.hid (by rw [HT0.out]; exact TBO.nil _ _), Lib.hid (Below.refl _ _)⟩
  case round =>
    clear HT0
    obtain ⟨i, rfl, hi, HE, HB⟩ := hrel
    generalize wr = w1 at *
    by_cases hlt : i < n
    · have i1 : (i : Int) < (n : Int) := by omega
      have HL2 := Lib.hid (HL.out.later (HB.out))
      obtain ⟨o, c, hA, -, -, hcell⟩ := HL2.out.form (by rw [HPL.out]; omega)
      injection hA with hA hA2 hA3
      clear hA2
      subst hA hA3
      obtain ⟨s, hs⟩ : ∃ s, ps.getD i ByteArray.empty = s := ⟨_, rfl⟩
      have hg : ps[i]? = some s := by
        have h := HPL.out
        rw [← hs, List.getD_eq_getElem?_getD, List.getElem?_eq_getElem (by omega)]; rfl
      have d1 := hcell i s hg
      have hss := HSZ.out s (List.mem_of_getElem? hg)
      have HS := Lib.hid hs
      have HSN := Lib.hid (tabL_succ ps fs i)
      have HTL := Lib.hid (tabL_len ps fs i)
      clear hcell HL2 hg
      by_cases hik : i < k0
      · obtain ⟨LL, hr⟩ := HRD.out i hik
        rw [hs] at hr
        obtain ⟨f, hf⟩ : ∃ f, fs.getD i 0 = f := ⟨_, rfl⟩
        rw [hf] at hr HSN
        rw [hs] at HSN
        have hfl := rdShard_len hr
        have HG : Hid (Calls Tryz.prog 20 #[.string s, .int .i64 (N : Int)] w1 fun e w' => ∃ rv, e = .returned (.tuple #[.agg #[.int .i64 (f : Int), rv], .nilIface]) ∧ Hid (RR w' (fun g => w1.heap.size ≤ g) rv LL) ∧ Hid (Below w1.heap.size w1 w')) := Lib.hid ((get_calls s N hss hN w1).mono fun e w' h => by
          have h1 := h.1.out
          rw [hr] at h1
          obtain ⟨rv, a1, a2⟩ := h1
          exact ⟨rv, a1, Lib.hid a2, h.2⟩)
        clear hs hr hf
        go_upto_region 6 with (go_at_call 20; refine HG.out.mono ?_; rintro e w2 ⟨rv, rfl, HRR, HB2⟩; obtain ⟨rA, rc, hrv, -⟩ := HRR.out.shape; obtain ⟨rn, hrn⟩ : ∃ rn, LL.length = rn := ⟨_, rfl⟩; rw [hrn] at hrv; subst hrv)
        have hW0 := heap_alloc_new w2 (.cells #[.int .i64 (f : Int), .slice rA rn rc] 50)
        have hxb := HB2.out.size
        have hbw : Below w.heap.size w (w2.alloc (.cells #[.int .i64 (f : Int), .slice rA rn rc] 50)) := (HB.out.trans (HB2.out.mono HB.out.size)).alloc (Nat.le_trans HB.out.size hxb) _
        have heo : TBO (w2.alloc (.cells #[.int .i64 (f : Int), .slice rA rn rc] 50)) w.heap.size u6 (tabL ps fs i) := (HE.out.later HB2.out).alloc _
        generalize w2.alloc (.cells #[.int .i64 (f : Int), .slice rA rn rc] 50) = W at *
        generalize w2.heap.size = xb at *
        have HBW := Lib.hid hbw
        have HEW := Lib.hid heo
        have HWS := Lib.hid hbw.size
        have d2 : W.cell? ⟨xb, 0, none⟩ = some (.int .i64 (f : Int)) := cell_of_row W xb 0 _ _ _ hW0
        obtain ⟨uA, uc, hu, -⟩ := id HEW.out.shape
        rw [HTL.out] at hu
        subst hu
        clear hW0 hbw heo hrn HRR HB2 HE d1 hxb
        go_wp2_with (at_builtin; refine TBO.append_on (base := w.heap.size) (HEW.out.alloc _) (TBR.lit _ [((f : Int), (s.size : Int))] _ rfl 1 rfl (by simp)) rfl _ _ rfl rfl rfl (by have := HWS.out; simp; omega) (by rw [HTL.out]; simp only [List.length_cons, List.length_nil]; omega) ?_; intro v3 w3 k1 k2 k3; have K1 := Lib.hid k1; have K2 := Lib.hid k2; clear k1 k2 k3)
        go_roundw
        case rel => exact ⟨i + 1, by go_num, by omega, Lib.hid (by rw [HSN.out]; exact K1.out), Lib.hid ((HBW.out.alloc HWS.out _).grown K2.out (by have := HWS.out; simp; omega) HEW.out.base)⟩
        case measure => simp [intOf]; omega
      · obtain rfl : i = k0 := by omega
        have hr := HBD.out hlt
        rw [hs] at hr
        have HG : Hid (Calls Tryz.prog 20 #[.string s, .int .i64 (N : Int)] w1 fun e w' => e = .returned (.tuple #[.agg #[.int .i64 0, .slice none 0 0], faultV (b.2 : Int) (b.1 : Int)]) ∧ Hid (Below w1.heap.size w1 w')) := Lib.hid ((get_calls s N hss hN w1).mono fun e w' h => by
          have h1 := h.1.out
          rw [hr] at h1
          exact ⟨h1, h.2⟩)
        have hne : ¬ i = n := by omega
        clear hs hr
        go_wp2_with (first
          | (go_at_call 20; refine HG.out.mono ?_; rintro e w2 ⟨rfl, HB2⟩)
          | (go_at_call 46; refine (swrong_fault _ _ _ _).mono ?_; rintro e w3 ⟨rfl, rfl⟩))
        go_ret2
        exact ⟨Lib.hid (by unfold TQ; rw [if_neg hne]; rfl), Lib.hid ((HB.out.trans (HB2.out.mono HB.out.size)).alloc (Nat.le_trans HB.out.size HB2.out.size) _)⟩
    · obtain rfl : n = i := by omega
      have HKN : Hid (k0 = n) := Lib.hid (by omega)
      have i1 : ¬ (n : Int) < (n : Int) := by omega
      go_wp2
      go_ret2
      exact ⟨Lib.hid (by unfold TQ; rw [if_pos HKN.out, HKN.out]; exact ⟨_, rfl, HE.out⟩), HB⟩
set_option maxHeartbeats 1000000 in
theorem split_nil (w : World) : Calls Tryz.prog 11 #[.pointer none, .int .i64 1] w fun e w' => e = .returned (.tuple #[.slice none 0 0, noV 1]) ∧ w = w' := by
  go_enter Tryz.func11, Tryz.ntmps11
  go_wp2
  go_ret2
  exact ⟨rfl, rfl⟩
set_option maxHeartbeats 1000000 in
theorem split_less (p : Nat) (E : Int) (h : E < 1) (w : World) : Calls Tryz.prog 11 #[pV p, .int .i64 E] w fun e w' => e = .returned (.tuple #[.slice none 0 0, noV 1]) ∧ w = w' := by
  go_enter Tryz.func11, Tryz.ntmps11
  go_wp2
  go_ret2
  exact ⟨rfl, rfl⟩
set_option maxHeartbeats 1000000 in
theorem split_long {w : World} {B p bb N : Nat} {tv : Value} {l : List E2} (hc : CS w B p bb tv N l) (each : Nat) (h1 : 1 ≤ each) (h2 : each < 4096) (h3 : (N + each - 1) / each > 64) :
    Calls Tryz.prog 11 #[pV p, .int .i64 (each : Int)] w fun e w' => e = .returned (.tuple #[.slice none 0 0, noV 6]) ∧ w = w' := by
  have hN := hc.nodes
  have HNO : Hid (Calls Tryz.prog 43 #[pV p] w fun e w' => e = .returned (.int .i64 (N : Int)) ∧ w = w') := Lib.hid (nodes_calls hc)
  have b1 : (each : Int) < 4096 := by omega
  have b2 : ¬ (each : Int) < 1 := by omega
  have b3 : ((N : Int) + (each : Int) - 1) / (each : Int) > 64 := by
    rw [show (N : Int) + (each : Int) - 1 = ((N + each - 1 : Nat) : Int) by omega, ← Int.natCast_ediv]
    omega
  clear hc
  go_enter Tryz.func11, Tryz.ntmps11
  go_wp2_with (go_at_call 43; refine HNO.out.mono ?_; rintro e w1 ⟨rfl, rfl⟩)
  go_ret2
  exact ⟨rfl, rfl⟩
set_option maxHeartbeats 4000000 in
set_option maxRecDepth 100000 in
theorem split_big {w : World} {B p bb N : Nat} {tv : Value} {l : List E2} (hc : CS w B p bb tv N l) (E : Int) (h1 : 4096 ≤ E) :
    Calls Tryz.prog 11 #[pV p, .int .i64 E] w fun e w' => ∃ v, e = .returned (.tuple #[v, .nilIface]) ∧ Hid (OT w' w.heap.size v (partsB (tgt l) N 4096 ((N + 4096 - 1) / 4096))) ∧ Hid (Below w.heap.size w w') := by
  have hN := hc.nodes
  have HC := Lib.hid hc
  have HNO : Hid (∀ W, Below w.heap.size w W → Calls Tryz.prog 43 #[pV p] W fun e w' => e = .returned (.int .i64 (N : Int)) ∧ W = w') := Lib.hid (fun W h => nodes_calls (HC.out.later h))
  have b1 : ¬ E < 4096 := by omega
  have b2 : ¬ E < 1 := by omega
  have b4 : min E 4096 = 4096 := by omega
  clear hc
  go_enter Tryz.func11, Tryz.ntmps11
  go_upto_region 7 with (go_at_call 43; refine (HNO.out _ (Below.refl _ _)).mono ?_; rintro e w1 ⟨rfl, rfl⟩)
  go_loopw [6, 7] (fun u x wz => ∃ (k f : Nat), x = .int .i64 (f : Int) ∧ f ≤ N + 4096 ∧ Hid (f = k * 4096 ∧ k ≤ (N + 4096 - 1) / 4096) ∧ Hid (OT wz w.heap.size u (partsB (tgt l) N 4096 k)) ∧ Hid (Below w.heap.size w wz)) (fun _ x _ => N - (intOf x).toNat)
  case atStart => exact ⟨0, 0, rfl, Nat.zero_le _, Lib.hid ⟨by omega, Nat.zero_le _⟩, Lib.hid (OT.nil _ _), Lib.hid (Below.refl _ _)⟩
  case round =>
    obtain ⟨k, f, rfl, hf, HK, HO, HB⟩ := hrel
    have HLN : Hid ((partsB (tgt l) N 4096 k).length ≤ 64) := Lib.hid (by rw [partsB_len]; have := HK.out.2; omega)
    have HBS := Lib.hid HB.out.size
    by_cases hlt : f < N
    · have i1 : (f : Int) < (N : Int) := by omega
      obtain ⟨m, hm⟩ : ∃ m, min 4096 (N - f) = m := ⟨_, rfl⟩
      have hm1 : 1 ≤ m := by omega
      have hm2 : f + m ≤ N := by omega
      have hmi : min E ((N : Int) - (f : Int)) = (m : Int) := by omega
      have HP := Lib.hid (sput_calls (HC.out.later HB.out) f m hm1 hm2)
      obtain ⟨ps, hps⟩ : ∃ ps : ByteArray, (⟨(shardB (tgt l) f m).toArray⟩ : ByteArray) = ps := ⟨_, rfl⟩
      rw [hps] at HP
      have HPS : Hid (partB (tgt l) N 4096 k = ps) := Lib.hid (by rw [← hps, ← hm, HK.out.1]; rfl)
      clear hm hps
      go_upto_region 12 with (first
        | (go_at_call 43; refine (HNO.out _ HB.out).mono ?_; rintro e w1 ⟨rfl, rfl⟩)
        | (go_at_call 19; refine HP.out.mono ?_; rintro e w2 ⟨rfl, HB2⟩))
      obtain ⟨uA, uc, hu, -⟩ := OT_shape HO.out
      obtain ⟨un, hun⟩ : ∃ un, (partsB (tgt l) N 4096 k).length = un := ⟨_, rfl⟩
      rw [hun] at hu
      subst hu
      have HO2 := Lib.hid (HO.out.later HB2.out)
      clear hun hmi
      go_wp2_with (at_builtin; refine OT.append_on (base := w.heap.size) (HO2.out.alloc _) (SR.lit _ [ps] _ rfl 1 rfl (by simp)) (by simp) rfl _ _ rfl rfl rfl (by have := HBS.out; have := HB2.out.size; simp; omega) (by have := HLN.out; simp only [List.length_cons, List.length_nil]; omega) ?_; intro v3 w3 k1 k2; have K1 := Lib.hid k1; have K2 := Lib.hid k2; clear k1 k2)
      go_roundw
      case rel => exact ⟨k + 1, f + 4096, by go_num, by omega, Lib.hid ⟨by rw [HK.out.1, Nat.add_mul, Nat.one_mul], many_le (by omega) (by have := HK.out.1; omega)⟩, Lib.hid (by rw [partsB_succ, HPS.out]; exact K1.out), Lib.hid (((HB.out.trans (HB2.out.mono HBS.out)).alloc (by have := HBS.out; have := HB2.out.size; omega) _).grown K2.out (by have := HBS.out; have := HB2.out.size; simp; omega) HO.out.base)⟩
      case measure => simp [intOf]; omega
    · have i1 : ¬ (f : Int) < (N : Int) := by omega
      have HE : Hid (k = (N + 4096 - 1) / 4096) := Lib.hid (by
        have h := HK.out
        omega)
      go_wp2_with (go_at_call 43; refine (HNO.out _ HB.out).mono ?_; rintro e w1 ⟨rfl, rfl⟩)
      go_ret2
      exact ⟨_, rfl, Lib.hid (by rw [← HE.out]; exact HO.out), HB⟩
/-- where each has all nodes, it does not matter how many each may have -/
theorem parts_big (t : Int → List Int) (N a b : Nat) (ha : N ≤ a) (hb : N ≤ b) (ha1 : 1 ≤ a) (hb1 : 1 ≤ b) : partsB t N a ((N + a - 1) / a) = partsB t N b ((N + b - 1) / b) := by
  have q : ∀ c, N ≤ c → 1 ≤ c → (N + c - 1) / c = if N = 0 then 0 else 1 := fun c h h1 => by
    split
    · rename_i h0; subst h0; exact Nat.div_eq_of_lt (by omega)
    · rw [Nat.div_eq_of_lt_le] <;> omega
  rw [q a ha ha1, q b hb hb1]
  split
  · rfl
  · unfold partsB
    simp only [List.range_one, List.map_cons, List.map_nil, partB]
    rw [Nat.zero_mul, Nat.zero_mul, Nat.min_eq_right (by omega), Nat.min_eq_right (by omega)]
/-- the table of the first m parts -/
def tabP (t : Int → List Int) (N e m : Nat) : List E2 := (List.range m).map fun i => (((i * e : Nat) : Int), ((partB t N e i).size : Int))
theorem tabP_len (t : Int → List Int) (N e m : Nat) : (tabP t N e m).length = m := by simp [tabP]
theorem tabP_at (t : Int → List Int) (N e m k : Nat) (hk : k < m) : (tabP t N e m).getD k (0, 0) = (((k * e : Nat) : Int), ((partB t N e k).size : Int)) := by
  simp [tabP, List.getD_eq_getElem?_getD, hk]
theorem table_parts {w : World} {B p bb N : Nat} {tv : Value} {l : List E2} (hc : CS w B p bb tv N l) (e : Nat) (he : 1 ≤ e) (m : Nat) (hmm : (N + e - 1) / e = m) (hm : m ≤ 1000) (g0 : Nat) (lv : Value) (W : World) (hv : SR W g0 lv (partsB (tgt l) N e m)) :
    Calls Tryz.prog 14 #[.int .i64 (N : Int), lv] W fun r w' => ∃ v, r = .returned (.tuple #[v, .nilIface]) ∧ Hid (TBO w' W.heap.size v (tabP (tgt l) N e m)) ∧ Hid (Below W.heap.size W w') := by
  have h := table_calls N g0 lv (partsB (tgt l) N e m) ((List.range m).map (· * e)) W hc.nodes hv (by rw [partsB_len]; exact hm)
    (fun s hs => by
      unfold partsB at hs
      obtain ⟨k, hk, rfl⟩ := List.mem_map.1 hs
      exact Nat.le_trans (part_size hc e he k (by rw [hmm]; exact List.mem_range.1 hk)) (by decide))
    m (by rw [partsB_len]; exact Nat.le_refl _) (0, 0)
    (fun i hi => by
      rw [partsB_at _ _ _ _ _ hi, part_read hc e he i (by rw [hmm]; exact hi)]
      exact ⟨(readB (tgt l) N e i).2, by simp [List.getD_eq_getElem?_getD, hi, readB]⟩)
    (fun h => by rw [partsB_len] at h; omega)
  refine h.mono fun r w' ⟨h1, h2⟩ => ?_
  have h1 := h1.out
  unfold TQ at h1
  rw [partsB_len, if_pos rfl] at h1
  obtain ⟨v, q1, q2⟩ := h1
  refine ⟨v, q1, Lib.hid ?_, h2⟩
  have e1 : tabL (partsB (tgt l) N e m) ((List.range m).map (· * e)) m = tabP (tgt l) N e m := by
    unfold tabL tabP
    refine List.map_congr_left fun i hi => ?_
    rw [partsB_at _ _ _ _ _ (List.mem_range.1 hi)]
    simp [List.getD_eq_getElem?_getD, List.mem_range.1 hi]
  rw [e1] at q2
  exact q2
end Go.Proofs.YtjokfllldcjheaaGreatDoor.Oc
