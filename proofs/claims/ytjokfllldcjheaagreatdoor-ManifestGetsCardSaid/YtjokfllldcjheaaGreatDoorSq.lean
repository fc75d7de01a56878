/- shard, walked: Split. · shard: Join, plain facts and its states in memory. · shard, walked: Join. · shard: the parts of a graph are read again, and join to it. -/
import Derived.Test.YtjokfllldcjheaaGreatDoorTx
/- shard, walked: Split. -/
namespace Go.Proofs.YtjokfllldcjheaaGreatDoor.Oc
open Go.RowKit Go.Proofs.YtjokfllldcjheaaGreatDoor.Sha Go.Proofs.YtjokfllldcjheaaGreatDoor.Ro Go.Proofs.YtjokfllldcjheaaGreatDoor.Cs Go.Proofs.YtjokfllldcjheaaGreatDoor.Ed
set_option linter.unusedVariables false
set_option linter.unusedSimpArgs false
/-- the k-th of the shards that have e nodes each -/
def partB (t : Int → List Int) (N e k : Nat) : ByteArray := ⟨(shardB t (k * e) (min e (N - k * e))).toArray⟩
/-- the first k shards -/
def partsB (t : Int → List Int) (N e k : Nat) : List ByteArray := (List.range k).map (partB t N e)
theorem partsB_len (t : Int → List Int) (N e k : Nat) : (partsB t N e k).length = k := by simp [partsB]
theorem partsB_succ (t : Int → List Int) (N e k : Nat) : partsB t N e (k + 1) = partsB t N e k ++ [partB t N e k] := by
  unfold partsB; rw [List.range_succ, List.map_append]; rfl
theorem many_le {N e k : Nat} (he : 1 ≤ e) (h : k * e < N) : k < (N + e - 1) / e := by
  rw [Nat.lt_div_iff_mul_lt (by omega)] <;> omega
theorem OT_shape {w : World} {base : Nat} {v : Value} {zs : List ByteArray} (h : OT w base v zs) : ∃ A c, v = .slice A zs.length c ∧ zs.length ≤ c := by
  rcases h.2 with ⟨rfl, e⟩ | ⟨g, cap, cur, rfl, -, -, hn, -⟩
  · exact ⟨none, 0, by rw [e], by omega⟩
  · exact ⟨_, _, rfl, hn⟩
set_option maxHeartbeats 4000000 in
set_option maxRecDepth 100000 in
theorem split_calls {w : World} {B p bb N : Nat} {tv : Value} {l : List E2} (hc : CS w B p bb tv N l) (each : Nat) (h1 : 1 ≤ each) (h2 : each < 4096) (h3 : (N + each - 1) / each ≤ 64) :
    Calls Tryz.prog 11 #[pV p, .int .i64 (each : Int)] w fun e w' => ∃ v, e = .returned (.tuple #[v, .nilIface]) ∧ Hid (OT w' w.heap.size v (partsB (tgt l) N each ((N + each - 1) / each))) ∧ Hid (Below w.heap.size w w') := by
  have hN := hc.nodes
  have HC := Lib.hid hc
  have HNO : Hid (∀ W, Below w.heap.size w W → Calls Tryz.prog 43 #[pV p] W fun e w' => e = .returned (.int .i64 (N : Int)) ∧ W = w') := Lib.hid (fun W h => nodes_calls (HC.out.later h))
  have b1 : (each : Int) < 4096 := by omega
  have b2 : ¬ (each : Int) < 1 := by omega
  have b3 : ((N : Int) + (each : Int) - 1) / (each : Int) ≤ 64 := by
    rw [show (N : Int) + (each : Int) - 1 = ((N + each - 1 : Nat) : Int) by omega, ← Int.natCast_ediv]
    omega
  clear hc
  go_enter Tryz.func11, Tryz.ntmps11
  go_upto_region 7 with (go_at_call 43; refine (HNO.out _ (Below.refl _ _)).mono ?_; rintro e w1 ⟨rfl, rfl⟩)
  clear b3
  go_loopw [6, 7] (fun u x wz => ∃ (k f : Nat), x = .int .i64 (f : Int) ∧ f ≤ N + each ∧ Hid (f = k * each ∧ k ≤ (N + each - 1) / each) ∧ Hid (OT wz w.heap.size u (partsB (tgt l) N each k)) ∧ Hid (Below w.heap.size w wz)) (fun _ x _ => N - (intOf x).toNat)
  case atStart => exact ⟨0, 0, rfl, Nat.zero_le _, Lib.hid ⟨by omega, Nat.zero_le _⟩, Lib.hid (OT.nil _ _), Lib.hid (Below.refl _ _)⟩
  case round =>
    obtain ⟨k, f, rfl, hf, HK, HO, HB⟩ := hrel
    have HLN : Hid ((partsB (tgt l) N each k).length ≤ 64) := Lib.hid (by rw [partsB_len]; have := HK.out.2; omega)
    have HBS := Lib.hid HB.out.size
    by_cases hlt : f < N
    · have i1 : (f : Int) < (N : Int) := by omega
      obtain ⟨m, hm⟩ : ∃ m, min each (N - f) = m := ⟨_, rfl⟩
      have hm1 : 1 ≤ m := by omega
      have hm2 : f + m ≤ N := by omega
      have hmi : min (each : Int) ((N : Int) - (f : Int)) = (m : Int) := by omega
      have HP := Lib.hid (sput_calls (HC.out.later HB.out) f m hm1 hm2)
      obtain ⟨ps, hps⟩ : ∃ ps : ByteArray, (⟨(shardB (tgt l) f m).toArray⟩ : ByteArray) = ps := ⟨_, rfl⟩
      rw [hps] at HP
      have HPS : Hid (partB (tgt l) N each k = ps) := Lib.hid (by rw [← hps, ← hm, HK.out.1]; rfl)
      clear hm hps
      go_upto_region 12 with (first
        | (go_at_call 43; refine (HNO.out _ HB.out).mono ?_; rintro e w1 ⟨rfl, rfl⟩)
        | (go_at_call 19; refine HP.out.mono ?_; rintro e w2 ⟨rfl, HB2⟩))
      obtain ⟨uA, uc, hu, -⟩ := OT_shape HO.out
      obtain ⟨un, hun⟩ : ∃ un, (partsB (tgt l) N each k).length = un := ⟨_, rfl⟩
      rw [hun] at hu
      subst hu
      have HO2 := Lib.hid (HO.out.later HB2.out)
      have hmi2 : min (each : Int) 4096 = (each : Int) := by omega
      clear hun hmi
      go_wp2_with (at_builtin; refine OT.append_on (base := w.heap.size) (HO2.out.alloc _) (SR.lit _ [ps] _ rfl 1 rfl (by simp)) (by simp) rfl _ _ rfl rfl rfl (by have := HBS.out; have := HB2.out.size; simp; omega) (by have := HLN.out; simp only [List.length_cons, List.length_nil]; omega) ?_; intro v3 w3 k1 k2; have K1 := Lib.hid k1; have K2 := Lib.hid k2; clear k1 k2)
      go_roundw
      case rel => exact ⟨k + 1, f + each, by go_num, by omega, Lib.hid ⟨by rw [HK.out.1, Nat.add_mul, Nat.one_mul], many_le h1 (by have := HK.out.1; omega)⟩, Lib.hid (by rw [partsB_succ, HPS.out]; exact K1.out), Lib.hid (((HB.out.trans (HB2.out.mono HBS.out)).alloc (by have := HBS.out; have := HB2.out.size; omega) _).grown K2.out (by have := HBS.out; have := HB2.out.size; simp; omega) HO.out.base)⟩
      case measure => simp [intOf]; omega
    · have i1 : ¬ (f : Int) < (N : Int) := by omega
      have HE : Hid (k = (N + each - 1) / each) := Lib.hid (by
        have h := HK.out
        refine Nat.le_antisymm h.2 ?_
        rw [h.1] at hlt
        refine Nat.le_of_lt_succ ((Nat.div_lt_iff_lt_mul (by omega)).2 ?_)
        rw [Nat.succ_mul]; omega)
      go_wp2_with (go_at_call 43; refine (HNO.out _ HB.out).mono ?_; rintro e w1 ⟨rfl, rfl⟩)
      go_ret2
      exact ⟨_, rfl, Lib.hid (by rw [← HE.out]; exact HO.out), HB⟩
end Go.Proofs.YtjokfllldcjheaaGreatDoor.Oc
/- shard: Join, plain facts and its states in memory. -/
namespace Go.Proofs.YtjokfllldcjheaaGreatDoor.Oc
open Go.RowKit Go.Proofs.YtjokfllldcjheaaGreatDoor.Sha Go.Proofs.YtjokfllldcjheaaGreatDoor.Ro Go.Proofs.YtjokfllldcjheaaGreatDoor.Cs Go.Proofs.YtjokfllldcjheaaGreatDoor.Ed
set_option linter.unusedVariables false
set_option linter.unusedSimpArgs false
/-- how many numbers there are in all rows -/
def rowsN (LL : List (List Int)) : Nat := (LL.map List.length).sum
/-- the edges of the first k rows -/
def edK (next : Nat) (LL : List (List Int)) : Nat → List E2
  | 0 => []
  | k + 1 => edK next LL k ++ (LL.getD k []).map fun w => ((next : Int) + (k : Int), w)
/-- shards that were read, joined -/
def joinR : List (Nat × List (List Int)) → Nat → Nat → List E2 → Except Nat (Nat × List E2)
  | [], _, next, all => .ok (next, all)
  | x :: r, i, next, all => if x.1 = next then joinR r (i + 1) (next + x.2.length) (all ++ edK next x.2 x.2.length) else .error i
def totN (rs : List (Nat × List (List Int))) : Nat := (rs.map fun x => rowsN x.2).sum
theorem rowsN_app (a b : List (List Int)) : rowsN (a ++ b) = rowsN a + rowsN b := by unfold rowsN; rw [List.map_append, List.sum_append]
theorem edK_len (next : Nat) (LL : List (List Int)) : ∀ k, (edK next LL k).length = rowsN (LL.take k)
  | 0 => rfl
  | k + 1 => by
    rw [edK, List.length_append, edK_len next LL k, List.length_map]
    by_cases h : k < LL.length
    · rw [List.take_succ_eq_append_getElem h, rowsN_app, List.getD_eq_getElem?_getD, List.getElem?_eq_getElem h]
      simp [rowsN]
    · rw [List.take_of_length_le (by omega), List.take_of_length_le (by omega)]
      simp [List.getD_eq_getElem?_getD, List.getElem?_eq_none (by omega : LL.length ≤ k)]
theorem rowsN_take (LL : List (List Int)) (k : Nat) : rowsN (LL.take k) ≤ rowsN LL := by
  have h := rowsN_app (LL.take k) (LL.drop k)
  rw [List.take_append_drop] at h
  omega
theorem edK_row (next : Nat) (LL : List (List Int)) (k : Nat) : (edK next LL k).length + (LL.getD k []).length ≤ rowsN LL := by
  have h := edK_len next LL (k + 1)
  have h2 := rowsN_take LL (k + 1)
  rw [edK, List.length_append, List.length_map] at h
  omega
theorem edK_all (next : Nat) (LL : List (List Int)) : (edK next LL LL.length).length = rowsN LL := by
  rw [edK_len, List.take_length]
theorem totN_cons (x : Nat × List (List Int)) (r : List (Nat × List (List Int))) : totN (x :: r) = rowsN x.2 + totN r := by simp [totN]
theorem rdShard_len {bs : List UInt8} {N f : Nat} {LL : List (List Int)} (h : rdShard bs N = .ok (f, LL)) : f + LL.length ≤ N := by
  unfold rdShard at h
  cases e : rdCore bs N with
  | error b => rw [e] at h; simp at h
  | ok q =>
    rw [e] at h
    simp only at h
    split at h
    · simp at h
    · injection h with h
      obtain ⟨hd, x, r, h1, h2, h3, h4, rfl⟩ := rdCore_ok e
      obtain ⟨a, mid, b, nx, g1, g2, g3, rfl⟩ := rdHead_ok h1
      have a1 := (rdAt_len g2).2.1
      have a2 := rdIdx_len a1 h2
      have a3 := rdRows_len a2.2.1 h3
      injection h with h5 h6
      simp only at h5 h6 a3
      rw [← h5, ← h6]
      omega
/-- what the parts of a graph's own edges join to -/
theorem lists_edK (L : List E2) (a m : Nat) : ∀ k, k ≤ m → lists L (a + k) = lists L a ++ edK a ((List.range m).map fun (i : Nat) => tgt L ((a : Int) + (i : Nat))) k
  | 0, _ => by simp [edK]
  | k + 1, h => by
    rw [← Nat.add_assoc, lists, lists_edK L a m k (by omega), edK, List.append_assoc]
    congr 2
    have : ((List.range m).map fun (i : Nat) => tgt L ((a : Int) + (i : Nat))).getD k [] = tgt L ((a : Int) + (k : Nat)) := by
      simp [List.getD_eq_getElem?_getD, show k < m by omega]
    rw [this]
    simp
/-- the parts as they are read -/
def readB (t : Int → List Int) (N e : Nat) (k : Nat) : Nat × List (List Int) := (k * e, (List.range (min e (N - k * e))).map fun (i : Nat) => t (((k * e : Nat) : Int) + (i : Nat)))
theorem joinR_parts (L : List E2) (N e : Nat) (he : 1 ≤ e) : ∀ (j k : Nat), k + j = (N + e - 1) / e → joinR ((List.range' k j).map (readB (tgt L) N e)) k (min (k * e) N) (lists L (min (k * e) N)) = .ok (N, lists L N)
  | 0, k, h => by
    have hN : N ≤ k * e := by
      have := Nat.lt_div_mul_add (a := N + e - 1) (b := e) (by omega)
      rw [← h] at this
      rw [Nat.add_zero] at this
      omega
    simp [joinR, Nat.min_eq_right hN]
  | j + 1, k, h => by
    have hk : k * e < N := by
      have h1 : k + 1 ≤ (N + e - 1) / e := by omega
      have h2 := (Nat.le_div_iff_mul_le (by omega)).1 h1
      rw [Nat.succ_mul] at h2
      omega
    rw [List.range'_succ, List.map_cons, joinR, Nat.min_eq_left (Nat.le_of_lt hk)]
    have hl : (readB (tgt L) N e k).2.length = min e (N - k * e) := by simp [readB]
    rw [if_pos (show (readB (tgt L) N e k).1 = k * e from rfl), hl]
    have ih := joinR_parts L N e he j (k + 1) (by omega)
    have hm : min ((k + 1) * e) N = k * e + min e (N - k * e) := by rw [Nat.succ_mul]; omega
    rw [hm, lists_edK L (k * e) (min e (N - k * e)) _ (Nat.le_refl _)] at ih
    exact ih
theorem joinR_all (L : List E2) (N e : Nat) (he : 1 ≤ e) : joinR ((List.range ((N + e - 1) / e)).map (readB (tgt L) N e)) 0 0 [] = .ok (N, lists L N) := by
  have := joinR_parts L N e he ((N + e - 1) / e) 0 (by omega)
  rw [Nat.zero_mul, Nat.zero_min, lists] at this
  rwa [List.range_eq_range']
theorem rowsN_map (L : List E2) (a m : Nat) : (lists L a).length + rowsN ((List.range m).map fun (i : Nat) => tgt L ((a : Int) + (i : Nat))) = (lists L (a + m)).length := by
  have h := congrArg List.length (lists_edK L a m m (Nat.le_refl _))
  rw [List.length_append, edK_len, List.take_of_length_le (by simp)] at h
  exact h.symm
theorem totN_parts (L : List E2) (N e : Nat) (he : 1 ≤ e) : ∀ (j k : Nat), k + j = (N + e - 1) / e → (lists L (min (k * e) N)).length + totN ((List.range' k j).map (readB (tgt L) N e)) = (lists L N).length
  | 0, k, h => by
    have hN : N ≤ k * e := by
      have := Nat.lt_div_mul_add (a := N + e - 1) (b := e) (by omega)
      rw [← h] at this
      rw [Nat.add_zero] at this
      omega
    simp [totN, Nat.min_eq_right hN]
  | j + 1, k, h => by
    have hk : k * e < N := by
      have h1 : k + 1 ≤ (N + e - 1) / e := by omega
      have h2 := (Nat.le_div_iff_mul_le (by omega)).1 h1
      rw [Nat.succ_mul] at h2
      omega
    have ih := totN_parts L N e he j (k + 1) (by omega)
    have hm : min ((k + 1) * e) N = k * e + min e (N - k * e) := by rw [Nat.succ_mul]; omega
    rw [hm, ← rowsN_map] at ih
    rw [List.range'_succ, List.map_cons, totN_cons, Nat.min_eq_left (Nat.le_of_lt hk)]
    have : rowsN (readB (tgt L) N e k).2 = rowsN ((List.range (min e (N - k * e))).map fun (i : Nat) => tgt L (((k * e : Nat) : Int) + (i : Nat))) := rfl
    omega
theorem totN_all (L : List E2) (N e : Nat) (he : 1 ≤ e) : totN ((List.range ((N + e - 1) / e)).map (readB (tgt L) N e)) = (lists L N).length := by
  have := totN_parts L N e he ((N + e - 1) / e) 0 (by omega)
  rw [Nat.zero_mul, Nat.zero_min, lists] at this
  rw [List.range_eq_range']
  simpa using this
/-- what Join answers -/
def JQ (R : Except Nat (Nat × List E2)) (N n : Nat) (w w' : World) (e : Ending) : Prop := match R with
  | .error i => e = .returned (.tuple #[.pointer none, faultV (i : Int) 4])
  | .ok q => if q.1 = N then ∃ p bb tv, e = .returned (.tuple #[pV p, .nilIface]) ∧ CS w' w.heap.size p bb tv N (nrm q.2) else e = .returned (.tuple #[.pointer none, faultV (n : Int) 4])
/-- the edges while a shard's are taken -/
structure JL (W wz : World) (B : Nat) (v0 v : Value) (all : List E2) : Prop where
  one : EO wz B v all
  gr : W.grownBy wz v0.ownBlock
  own : ∀ k, v.ownBlock = some k → v0.ownBlock = some k ∨ W.heap.size ≤ k
theorem JL.start {W : World} {B : Nat} {v0 : Value} {all : List E2} (h : EO W B v0 all) : JL W W B v0 v0 all := ⟨h, World.grownBy.refl W _, fun k e => .inl e⟩
theorem JL.push {W wz w3 : World} {B : Nat} {v0 v v1 : Value} {all A2 : List E2} (h : JL W wz B v0 v all) (o : Obj) (k1 : EO w3 B v1 A2) (k2 : (wz.alloc o).grownBy w3 v.ownBlock) (k3 : v1.ownBlock = v.ownBlock ∨ v1.ownBlock = some (wz.alloc o).heap.size) : JL W w3 B v0 v1 A2 := by
  have hs : (wz.alloc o).heap.size = wz.heap.size + 1 := by simp
  have hz := h.gr.size
  refine ⟨k1, ⟨k2.os.trans h.gr.os, k2.tape.trans h.gr.tape, k2.output.trans h.gr.output, by have := k2.size; omega, fun k hk hne => ?_⟩, fun k e => ?_⟩
  · refine ((k2.block k (by omega) (fun e => ?_)).trans (Below.heap_alloc wz o k (by omega))).trans (h.gr.block k hk hne)
    rcases h.own k e.symm with h1 | h1
    · exact hne h1.symm
    · omega
  · rcases k3 with k3 | k3
    · exact h.own k (k3 ▸ e)
    · rw [k3, hs] at e
      injection e with e
      exact .inr (by omega)
/-- row k of a row of rows: its place, and how it reads -/
theorem rr_row {W : World} {K : Nat → Prop} {A : Option Addr} {n c : Nat} {LL : List (List Int)} (h : RR W K (.slice A n c) LL) {k : Nat} (hk : k < LL.length) : ∃ gv o t g, A = some ⟨gv, o, none⟩ ∧ gv < W.heap.size ∧ K gv ∧ W.cell? ⟨gv, o + k, none⟩ = some t ∧ JR W g t (LL.getD k []) ∧ (LL.getD k [] ≠ [] → K g) := by
  obtain ⟨gv, vs, h1, h2, h3⟩ := h
  have hv : 0 < vs.length := by rw [h3.1]; omega
  obtain ⟨A', c', o, e, -, -, h5⟩ := h1
  obtain ⟨ha, hlt, hc⟩ := h5 hv
  injection e with e1 e2 e3
  obtain ⟨g, j1, j2⟩ := h3.2 k hk
  exact ⟨gv, o, vs.getD k undef, g, by rw [e1, ha], hlt, h2 (by intro e; rw [e] at hv; simp at hv), hc k (by rw [h3.1]; exact hk), j1, j2⟩
end Go.Proofs.YtjokfllldcjheaaGreatDoor.Oc
/- shard, walked: Join. -/
namespace Go.Proofs.YtjokfllldcjheaaGreatDoor.Oc
open Go.RowKit Go.Proofs.YtjokfllldcjheaaGreatDoor.Sha Go.Proofs.YtjokfllldcjheaaGreatDoor.Ro Go.Proofs.YtjokfllldcjheaaGreatDoor.Cs Go.Proofs.YtjokfllldcjheaaGreatDoor.Ed
set_option linter.unusedVariables false
set_option linter.unusedSimpArgs false
theorem ecells_lit (x y : Int) : (ecells [(x, y)]) = [.int .i64 x, .int .i64 y] := rfl
set_option maxHeartbeats 8000000 in
set_option maxRecDepth 100000 in
theorem join_calls (N g0 : Nat) (lv : Value) (ps : List ByteArray) (rs : List (Nat × List (List Int))) (w : World) (hN : N ≤ 4096) (hL : SR w g0 lv ps) (hlen : rs.length = ps.length) (hps : ps.length ≤ 1000000)
    (hsz : ∀ s ∈ ps, s.size ≤ 140737488355328) (hrd : ∀ i, i < ps.length → rdShard (ps.getD i ByteArray.empty).data.toList N = .ok (rs.getD i (0, []))) (htot : totN rs ≤ 20000)
    (hw : ∀ q, joinR rs 0 0 [] = .ok q → q.1 = N → wrg (N : Int) q.2 = -2) :
    Calls Tryz.prog 15 #[.int .i64 (N : Int), lv] w fun e w' => Hid (JQ (joinR rs 0 0 []) N ps.length w w' e) ∧ Hid (Below w.heap.size w w') := by
  obtain ⟨R, hR⟩ : ∃ R, joinR rs 0 0 [] = R := ⟨_, rfl⟩
  rw [hR]
  obtain ⟨n, hn⟩ : ∃ n, ps.length = n := ⟨_, rfl⟩
  obtain ⟨A, lc, hv, hlc1, hlc2, -⟩ := id hL
  rw [hn] at hv hlc1 hlen hrd hps ⊢
  subst hv
  have HL := Lib.hid hL
  have HRD := Lib.hid hrd
  have HSZ := Lib.hid hsz
  have HW : Hid (∀ q, R = .ok q → q.1 = N → wrg (N : Int) q.2 = -2) := Lib.hid (by rw [← hR]; exact hw)
  have HRL := Lib.hid hlen
  have HPL := Lib.hid hn
  have HJ0 : Hid (joinR (rs.drop 0) 0 0 [] = R) := Lib.hid hR
  have HT0 : Hid (([] : List E2).length + totN (rs.drop 0) ≤ 20000) := Lib.hid (by simpa using htot)
  clear hL hrd hsz hw hlen hn hR htot
  go_enter Tryz.func15, Tryz.ntmps15
  go_upto_region 4 with (fail)
  go_loopw [6, 7, 18] (fun u p x wz => ∃ (i next : Nat) (all : List E2), p = .int .i64 (next : Int) ∧ x = .int .i64 (i : Int) ∧ i ≤ n ∧ next ≤ N ∧ Hid (joinR (rs.drop i) i next all = R) ∧ Hid (all.length + totN (rs.drop i) ≤ 20000) ∧ Hid (EO wz w.heap.size u all) ∧ Hid (Below w.heap.size w wz)) (fun _ _ x _ => n - (intOf x).toNat)
  case atStart => exact ⟨0, 0, [], rfl, rfl, Nat.zero_le _, Nat.zero_le _, HJ0, HT0, Lib.hid (EO.nil _ _), Lib.hid (Below.refl _ _)⟩
  case round =>
    clear HJ0 HT0
    obtain ⟨i, next, all, rfl, rfl, hi, hnx, HJ, HT, HE, HB⟩ := hrel
    generalize u6 = v0 at *
    generalize wr = w1 at *
    by_cases hlt : i < n
    · have i1 : (i : Int) < (n : Int) := by omega
      have HL2 := Lib.hid (HL.out.later (HB.out))
      obtain ⟨o, c, hA, -, -, hcell⟩ := HL2.out.form (by rw [HPL.out]; omega)
      injection hA with hA hA2 hA3
      clear hA2
      subst hA hA3
      obtain ⟨s, hs⟩ : ∃ s, ps.getD i ByteArray.empty = s := ⟨_, rfl⟩
      have hg : ps[i]? = some s := by
        have h := HPL.out
        rw [← hs, List.getD_eq_getElem?_getD, List.getElem?_eq_getElem (by omega)]; rfl
      have d1 := hcell i s hg
      have hss := HSZ.out s (List.mem_of_getElem? hg)
      obtain ⟨f, LL, hx⟩ : ∃ f LL, rs.getD i (0, []) = (f, LL) := ⟨_, _, rfl⟩
      have hr := HRD.out i hlt
      rw [hs, hx] at hr
      have hfl := rdShard_len hr
      have hdr : rs.drop i = (f, LL) :: rs.drop (i + 1) := by
        have h := HRL.out
        rw [List.drop_eq_getElem_cons (by omega), ← hx, List.getD_eq_getElem?_getD, List.getElem?_eq_getElem (by omega)]; rfl
      have hJ := HJ.out
      have hT := HT.out
      rw [hdr, joinR] at hJ
      rw [hdr, totN_cons] at hT
      simp only at hJ hT
      have HG : Hid (Calls Tryz.prog 20 #[.string s, .int .i64 (N : Int)] w1 fun e w' => ∃ rv, e = .returned (.tuple #[.agg #[.int .i64 (f : Int), rv], .nilIface]) ∧ Hid (RR w' (fun g => w1.heap.size ≤ g) rv LL) ∧ Hid (Below w1.heap.size w1 w')) := Lib.hid ((get_calls s N hss hN w1).mono fun e w' h => by
        have h1 := h.1.out
        rw [hr] at h1
        obtain ⟨rv, a1, a2⟩ := h1
        exact ⟨rv, a1, Lib.hid a2, h.2⟩)
      clear hcell HL2 hs hg hss hx hr hdr HJ HT
      go_upto_region 7 with (go_at_call 20; refine HG.out.mono ?_; rintro e w2 ⟨rv, rfl, HRR, HB2⟩; obtain ⟨rA, rc, hrv, -⟩ := HRR.out.shape; obtain ⟨rn, hrn⟩ : ∃ rn, LL.length = rn := ⟨_, rfl⟩; rw [hrn] at hrv; subst hrv)
      have hW0 := heap_alloc_new w2 (.cells #[.int .i64 (f : Int), .slice rA rn rc] 50)
      have hxb := HB2.out.size
      have hbw : Below w.heap.size w (w2.alloc (.cells #[.int .i64 (f : Int), .slice rA rn rc] 50)) := (HB.out.trans (HB2.out.mono HB.out.size)).alloc (Nat.le_trans HB.out.size hxb) _
      have hrr : RR (w2.alloc (.cells #[.int .i64 (f : Int), .slice rA rn rc] 50)) (fun g => w1.heap.size ≤ g) (.slice rA rn rc) LL := HRR.out.later ((Below.refl _ _).alloc (Nat.le_refl _) _)
      have heo : EO (w2.alloc (.cells #[.int .i64 (f : Int), .slice rA rn rc] 50)) w.heap.size v0 all := (HE.out.later HB2.out).alloc _
      have HOW : Hid (∀ g, w1.heap.size ≤ g → some g ≠ v0.ownBlock) := Lib.hid (fun g hg e => by have := HE.out.lt g e.symm; omega)
      generalize w2.alloc (.cells #[.int .i64 (f : Int), .slice rA rn rc] 50) = W at *
      generalize w2.heap.size = xb at *
      have HX := Lib.hid hW0
      have HXB := Lib.hid hxb
      have HBW := Lib.hid hbw
      have HRW := Lib.hid hrr
      have HEW := Lib.hid heo
      have HRN := Lib.hid hrn
      have d2 : W.cell? ⟨xb, 0, none⟩ = some (.int .i64 (f : Int)) := cell_of_row W xb 0 _ _ _ hW0
      have d3 : W.cell? ⟨xb, 1, none⟩ = some (.slice rA rn rc) := cell_of_row W xb 1 _ _ _ hW0
      clear hW0 hxb hbw hrr heo hrn HRR HB2 HE d1
      by_cases hfn : f = next
      · rw [if_pos hfn] at hJ
        have HJ := Lib.hid hJ
        have HT := Lib.hid hT
        have b9 : ((f : Int) != (next : Int)) = false := by rw [hfn]; simp
        have hnn : next + rn ≤ N := by rw [← hfn, ← HRN.out]; exact hfl
        clear hJ hT hfn hfl
        go_upto_region 12 with (fail)
        go_loopw [6, 46] (fun u x wz => ∃ k : Nat, x = .int .i64 (k : Int) ∧ k ≤ rn ∧ Hid (JL W wz w.heap.size v0 u (all ++ edK next LL k))) (fun _ x _ => rn - (intOf x).toNat)
        case atStart => exact ⟨0, rfl, Nat.zero_le _, Lib.hid (by rw [edK, List.append_nil]; exact JL.start HEW.out)⟩
        case round =>
          obtain ⟨k, rfl, hk, HJL⟩ := hrel
          generalize u6 = vk at *
          generalize wr = wk at *
          have d3' : wk.cell? ⟨xb, 1, none⟩ = some (.slice rA rn rc) := HJL.out.gr.cell d3 (HOW.out xb HXB.out)
          by_cases hkl : k < rn
          · have i2 : (k : Int) < (rn : Int) := by omega
            obtain ⟨gv, ov, t, g, hA, hgl, hgK, hct, hj, hjK⟩ := rr_row HRW.out (k := k) (by rw [HRN.out]; exact hkl)
            subst hA
            have d4 := HJL.out.gr.cell hct (HOW.out gv hgK)
            obtain ⟨tA, tc, ht, -⟩ := id hj.form
            obtain ⟨T, hT2⟩ : ∃ T, LL.getD k [] = T := ⟨_, rfl⟩
            have HTT := Lib.hid hT2
            rw [hT2] at ht hj hjK
            obtain ⟨tn, htn⟩ : ∃ tn, T.length = tn := ⟨_, rfl⟩
            rw [htn] at ht
            subst ht
            have HJT := Lib.hid hj
            have HTN := Lib.hid htn
            have HJK := Lib.hid hjK
            have htn20 : tn ≤ 20000 := by
              have h := edK_row next LL k
              rw [HTT.out, htn] at h
              have h2 := HT.out
              omega
            clear hct hj hjK hT2 htn
            go_upto_region 15 with (fail)
            go_loopw [6, 53] (fun u x wz => ∃ j : Nat, x = .int .i64 (j : Int) ∧ j ≤ tn ∧ Hid (JL W wz w.heap.size v0 u (all ++ edK next LL k ++ (T.take j).map fun z => ((next : Int) + (k : Int), z)))) (fun _ x _ => tn - (intOf x).toNat)
            case atStart => exact ⟨0, rfl, Nat.zero_le _, Lib.hid (by simpa using HJL.out)⟩
            case round =>
              clear HJL d3' d4
              obtain ⟨j, rfl, hj, HJL⟩ := hrel
              by_cases hjl : j < tn
              · have i3 : (j : Int) < (tn : Int) := by omega
                obtain ⟨ot, ct, hA, -, -⟩ := jr_form HJT.out (by rw [HTN.out]; omega)
                injection hA with hA hA2 hA3
                clear hA2
                subst hA hA3
                have hne : T ≠ [] := by intro e; have := HTN.out; rw [e] at this; simp at this; omega
                have hgw := HJK.out hne
                have d5 := HJL.out.gr.cell (jr_cell HJT.out j (by rw [HTN.out]; exact hjl)) (HOW.out g hgw)
                obtain ⟨z, hz⟩ : ∃ z, T.getD j 0 = z := ⟨_, rfl⟩
                rw [hz] at d5
                have HTK : Hid ((T.take j).map (fun z => ((next : Int) + (k : Int), z)) ++ [((next : Int) + (k : Int), z)] = (T.take (j + 1)).map fun z => ((next : Int) + (k : Int), z)) := Lib.hid (by
                  have h := HTN.out
                  rw [List.take_succ_eq_append_getElem (by omega), List.map_append, ← hz, List.getD_eq_getElem?_getD, List.getElem?_eq_getElem (by omega)]; rfl)
                have HLEN : Hid ((all ++ edK next LL k ++ (T.take j).map fun z => ((next : Int) + (k : Int), z)).length ≤ 20000) := Lib.hid (by
                  have h := edK_row next LL k
                  rw [HTT.out, HTN.out] at h
                  have h2 := HT.out
                  rw [List.length_append, List.length_append, List.length_map, List.length_take]
                  omega)
                have HWS := Lib.hid (Nat.le_trans HBW.out.size HJL.out.gr.size)
                clear hz hne
                go_wp2_with (at_builtin; refine EO.append_on (base := w.heap.size) (HJL.out.one.alloc _) (ER.lit _ [((next : Int) + (k : Int), z)] _ rfl 1 rfl (by simp)) rfl _ _ rfl rfl rfl (by have := HWS.out; simp; omega) (by have := HLEN.out; simp only [List.length_cons, List.length_nil]; omega) ?_; intro v3 w3 k1 k2 k3; have HP3 := Lib.hid (HJL.out.push _ k1 k2 k3); clear k1 k2 k3)
                go_roundw
                case rel => exact ⟨j + 1, by go_num, by omega, Lib.hid (by rw [← HTK.out, ← List.append_assoc]; exact HP3.out)⟩
                case measure => simp [intOf]; omega
              · obtain rfl : tn = j := by omega
                have i3 : ¬ (tn : Int) < (tn : Int) := by omega
                have HNX : Hid (JL W wr w.heap.size v0 u6 (all ++ edK next LL (k + 1))) := Lib.hid (by
                  have h := HJL.out
                  rw [← HTN.out, List.take_length, List.append_assoc] at h
                  rw [edK, HTT.out]
                  exact h)
                go_wp2
                go_roundw
                case rel => exact ⟨k + 1, by go_num, by omega, HNX⟩
                case measure => simp [intOf]; omega
          · obtain rfl : rn = k := by omega
            have i2 : ¬ (rn : Int) < (rn : Int) := by omega
            go_wp2
            go_roundw
            case rel => exact ⟨i + 1, next + rn, all ++ edK next LL rn, by go_num, by go_num, by omega, hnn, Lib.hid (by rw [← HRN.out]; exact HJ.out), Lib.hid (by rw [List.length_append, ← HRN.out, edK_all]; have := HT.out; omega), Lib.hid HJL.out.one, Lib.hid (HBW.out.grown HJL.out.gr HBW.out.size HEW.out.base)⟩
            case measure => simp [intOf]; omega
      · rw [if_neg hfn] at hJ
        have HRE := Lib.hid hJ
        have b9 : ((f : Int) != (next : Int)) = true := by rw [bne_iff_ne]; omega
        clear hJ hT hfn hfl
        go_wp2_with (go_at_call 46; refine (swrong_calls _ _ _).mono ?_; rintro e w8 ⟨rfl, rfl⟩)
        go_ret2
        exact ⟨Lib.hid (by rw [← HRE.out]; rfl), HBW⟩
    · obtain rfl : n = i := by omega
      have i1 : ¬ (n : Int) < (n : Int) := by omega
      have HRE : Hid (R = .ok (next, all)) := Lib.hid (by
        have h := HJ.out
        rw [List.drop_eq_nil_of_le (Nat.le_of_eq HRL.out), joinR] at h
        exact h.symm)
      by_cases hnN : next = N
      · have HBD : Hid (∃ g, ER w1 g v0 all) := Lib.hid (by obtain ⟨g, h, -⟩ := HE.out.reads; exact ⟨g, h⟩)
        obtain ⟨g, hg⟩ := HBD.out
        have HT2 := Lib.hid (HW.out _ HRE.out hnN)
        have hal : all.length ≤ 1000000 := by have := HT.out; omega
        have HBC := Lib.hid (build_ok N g v0 all w1 hg hal HT2.out)
        have b9 : ((next : Int) != (N : Int)) = false := by rw [hnN]; simp
        have HNE := Lib.hid hnN
        clear hg hnN HJ HT
        go_wp2_with (go_at_call 10; refine HBC.out.mono ?_; rintro e w8 ⟨p, bb, tv, rfl, HCS, HB8⟩)
        go_ret2
        refine ⟨Lib.hid ?_, Lib.hid (HB.out.trans (HB8.out.mono HB.out.size))⟩
        rw [HRE.out]
        unfold JQ
        simp only
        rw [if_pos HNE.out]
        have hc := HCS.out
        have hz := HB.out.size
        exact ⟨p, bb, tv, rfl, hc.blk, hc.beg.mono hz, hc.row.mono hz, Nat.le_trans hz hc.base, hc.up, hc.ok, hc.few, hc.nodes⟩
      · have b9 : ((next : Int) != (N : Int)) = true := by rw [bne_iff_ne]; omega
        have HNE := Lib.hid hnN
        clear hnN HJ HT
        go_wp2_with (go_at_call 46; refine (swrong_calls _ _ _).mono ?_; rintro e w8 ⟨rfl, rfl⟩)
        go_ret2
        refine ⟨Lib.hid ?_, HB⟩
        rw [HRE.out]
        unfold JQ
        simp only
        rw [if_neg HNE.out]
        rfl
end Go.Proofs.YtjokfllldcjheaaGreatDoor.Oc
/- shard: the parts of a graph are read again, and join to it. -/
namespace Go.Proofs.YtjokfllldcjheaaGreatDoor.Oc
open Go.RowKit Go.Proofs.YtjokfllldcjheaaGreatDoor.Sha Go.Proofs.YtjokfllldcjheaaGreatDoor.Ro Go.Proofs.YtjokfllldcjheaaGreatDoor.Cs Go.Proofs.YtjokfllldcjheaaGreatDoor.Ed
set_option linter.unusedVariables false
set_option linter.unusedSimpArgs false
theorem lt_parts {N e k : Nat} (he : 1 ≤ e) (hk : k < (N + e - 1) / e) : k * e < N := by
  have h2 := (Nat.le_div_iff_mul_le (by omega)).1 (show k + 1 ≤ (N + e - 1) / e by omega)
  rw [Nat.succ_mul] at h2
  omega
/-- each part is read as what it has -/
theorem part_read {w : World} {B p bb N : Nat} {tv : Value} {l : List E2} (hc : CS w B p bb tv N l) (e : Nat) (he : 1 ≤ e) (k : Nat) (hk : k < (N + e - 1) / e) : rdShard (partB (tgt l) N e k).data.toList N = .ok (readB (tgt l) N e k) := by
  have hlt := lt_parts he hk
  have h := rdShard_put (tgt l) N hc.nodes (rows_ok hc) (k * e) (min e (N - k * e)) (by omega) (by omega)
  exact h
theorem part_size {w : World} {B p bb N : Nat} {tv : Value} {l : List E2} (hc : CS w B p bb tv N l) (e : Nat) (he : 1 ≤ e) (k : Nat) (hk : k < (N + e - 1) / e) : (partB (tgt l) N e k).size ≤ 40000000 := by
  have hlt := lt_parts he hk
  have hN := hc.nodes
  have e1 : (partB (tgt l) N e k).size = (shardB (tgt l) (k * e) (min e (N - k * e))).length := rfl
  have a := rowsB_le (tgt l) N hN (rows_ok hc) (min e (N - k * e)) ((k * e : Nat) : Int) (by omega) (by omega)
  have hm : min e (N - k * e) ≤ 4096 := by omega
  have b : min e (N - k * e) * 8194 ≤ 4096 * 8194 := Nat.mul_le_mul_right _ hm
  have c := idxB_le (marksOf (tgt l) ((k * e : Nat) : Int) (min e (N - k * e))) (fun x hx => by
    unfold marksOf at hx
    obtain ⟨i, hi, rfl⟩ := List.mem_map.1 hx
    have hi := List.mem_range.1 hi
    have a := rowsB_le (tgt l) N hN (rows_ok hc) (8 * i) ((k * e : Nat) : Int) (by omega) (by omega)
    have b : 8 * i * 8194 ≤ 4096 * 8194 := Nat.mul_le_mul_right _ (by omega)
    exact Nat.lt_of_le_of_lt (Nat.le_trans a b) (by decide))
  rw [marksOf_len] at c
  have d := shB_le 7 (k * e) (by omega)
  have d2 := shB_le 7 (min e (N - k * e)) (by omega)
  rw [e1, shardB]
  simp only [List.length_append]
  omega
theorem partsB_at (t : Int → List Int) (N e n k : Nat) (hk : k < n) : (partsB t N e n).getD k ByteArray.empty = partB t N e k := by
  simp [partsB, List.getD_eq_getElem?_getD, hk]
/-- the parts join to the graph -/
theorem join_parts {w : World} {B p bb N : Nat} {tv : Value} {l : List E2} (hc : CS w B p bb tv N l) (e : Nat) (he : 1 ≤ e) (g0 : Nat) (lv : Value) (W : World) (hv : SR W g0 lv (partsB (tgt l) N e ((N + e - 1) / e))) :
    Calls Tryz.prog 15 #[.int .i64 (N : Int), lv] W fun r w' => ∃ p2 bb2 tv2, r = .returned (.tuple #[pV p2, .nilIface]) ∧ Hid (CS w' W.heap.size p2 bb2 tv2 N l) ∧ Hid (Below W.heap.size W w') := by
  have hN := hc.nodes
  have hm : (N + e - 1) / e ≤ N := by
    rcases Nat.eq_zero_or_pos N with h0 | h0
    · subst h0; rw [Nat.div_eq_of_lt (by omega)]; omega
    · exact Nat.div_le_of_le_mul (by have : N - 1 ≤ e * N - e := by (have := Nat.mul_le_mul_right (N - 1) he; rw [Nat.one_mul] at this; rw [Nat.mul_sub, Nat.mul_one] at this; exact this)
                                     have : e ≤ e * N := Nat.le_mul_of_pos_right e h0
                                     omega)
  have hl : lists l N = l := lists_all hc.up N hc.ok
  have hj := joinR_all l N e he
  have ht := totN_all l N e he
  rw [hl] at hj ht
  have hf := hc.few
  have h := join_calls N g0 lv (partsB (tgt l) N e ((N + e - 1) / e)) ((List.range ((N + e - 1) / e)).map (readB (tgt l) N e)) W hN hv (by rw [partsB_len]; simp) (by rw [partsB_len]; omega)
    (fun s hs => by
      unfold partsB at hs
      obtain ⟨k, hk, rfl⟩ := List.mem_map.1 hs
      exact Nat.le_trans (part_size hc e he k (List.mem_range.1 hk)) (by decide))
    (fun i hi => by
      rw [partsB_len] at hi
      rw [partsB_at _ _ _ _ _ hi, part_read hc e he i hi]
      simp [List.getD_eq_getElem?_getD, hi])
    (by rw [ht]; exact hf)
    (fun q hq _ => by
      rw [hj] at hq
      injection hq with hq
      rw [← hq]
      exact wrg_ok.2 ⟨by omega, by omega, hf, hc.ok⟩)
  refine h.mono fun r w' ⟨h1, h2⟩ => ?_
  have h1 := h1.out
  rw [hj] at h1
  unfold JQ at h1
  simp only at h1
  rw [if_pos trivial] at h1
  obtain ⟨p2, bb2, tv2, h3, h4⟩ := h1
  rw [show nrm l = l from (nrm_eq hc.up (fun x => Iff.rfl)).symm] at h4
  exact ⟨p2, bb2, tv2, h3, Lib.hid h4, h2⟩
/-- a part that is cut is none -/
theorem part_cut {w : World} {B p bb N : Nat} {tv : Value} {l : List E2} (hc : CS w B p bb tv N l) (e : Nat) (he : 1 ≤ e) (k : Nat) (hk : k < (N + e - 1) / e) (W : World) (s : ByteArray) (hs : partB (tgt l) N e k = s) (j : Nat) (hj : j < s.size) (s' : ByteArray) (hs' : s'.data.toList = s.data.toList.take j) :
    Calls Tryz.prog 20 #[.string s', .int .i64 (N : Int)] W fun r w' => ∃ a b : Int, r = .returned (.tuple #[.agg #[.int .i64 0, .slice none 0 0], faultV a b]) ∧ Hid (Below W.heap.size W w') := by
  subst hs
  have hr := part_read hc e he k hk
  have hz := part_size hc e he k hk
  have hsz : s'.size ≤ 140737488355328 := by
    have h := congrArg List.length hs'
    rw [List.length_take, Array.length_toList] at h
    have : s'.size = s'.data.size := rfl
    omega
  refine (get_calls s' N hsz hc.nodes W).mono fun r w' ⟨h1, h2⟩ => ?_
  have h1 := h1.out
  unfold SG at h1
  cases hx : rdShard s'.data.toList N with
  | error b => rw [hx] at h1; exact ⟨_, _, h1, h2⟩
  | ok q =>
    rw [hs'] at hx
    exact absurd hx (rdShard_cut hr j (by rw [Array.length_toList]; exact hj) q)
end Go.Proofs.YtjokfllldcjheaaGreatDoor.Oc
