/- shard, walked: Split. · shard: Join, plain facts and its states in memory. · shard, walked: Join. · shard: the parts of a graph are read again, and join to it. -/
import Derived.Test.YtjokfllldcjheaaGreatTx
/- shard, walked: Split. -/
namespace Go.Proofs.YtjokfllldcjheaaGreat.Oc
open Go.RowKit Go.Proofs.YtjokfllldcjheaaGreat.Sha Go.Proofs.YtjokfllldcjheaaGreat.Ro Go.Proofs.YtjokfllldcjheaaGreat.Cs Go.Proofs.YtjokfllldcjheaaGreat.Ed
set_option linter.unusedVariables false
set_option linter.unusedSimpArgs false
/-- the k-th of the shards that have e nodes each -/
def partB (t : Int → List Int) (N e k : Nat) : ByteArray := ⟨(shardB t (k * e) (min e (N - k * e))).toArray⟩
/-- the first k shards -/
def partsB (t : Int → List Int) (N e k : Nat) : List ByteArray := (List.range k).map (partB t N e)
theorem partsB_len (t : Int → List Int) (N e k : Nat) : (partsB t N e k).length = k := by simp [partsB]
theorem partsB_succ (t : Int → List Int) (N e k : Nat) : partsB t N e (k + 1) = partsB t N e k ++ [partB t N e k] := by
  unfold partsB; rw [List.range_succ, List.map_append]; rfl
theorem many_le {N e k : Nat} (he : 1 ≤ e) (h : k * e < N) : k < (N + e - 1) / e := by
  rw [Nat.lt_div_iff_mul_lt (by omega)] <;> omega
theorem OT_shape {w : World} {base : Nat} {v : Value} {zs : List ByteArray} (h : OT w base v zs) : ∃ A c, v = .slice A zs.length c ∧ zs.length ≤ c := by
  rcases h.2 with ⟨rfl, e⟩ | ⟨g, cap, cur, rfl, -, -, hn, -⟩
  · exact ⟨none, 0, by rw [e], by omega⟩
  · exact ⟨_, _, rfl, hn⟩
set_option maxHeartbeats 4000000 in
set_option maxRecDepth 100000 in
theorem split_calls {w : World} {B p bb N : Nat} {tv : Value} {l : List E2} (hc : CS w B p bb tv N l) (each : Nat) (h1 : 1 ≤ each) (h2 : each < 4096) (h3 : (N + each - 1) / each ≤ 64) :
    Calls Tryz.prog 19 #[pV p, .int .i64 (each : Int)] w fun e w' => ∃ v, e = .returned (.tuple #[v, .nilIface]) ∧ Hid (OT w' w.heap.size v (partsB (tgt l) N each ((N + each - 1) / each))) ∧ Hid (Below w.heap.size w w') := by
  have hN := hc.nodes
  have HC := Lib.hid hc
  have HNO : Hid (∀ W, Below w.heap.size w W → Calls Tryz.prog 32 #[pV p] W fun e w' => e = .returned (.int .i64 (N : Int)) ∧ W = w') := Lib.hid (fun W h => nodes_calls (HC.out.later h))
  have b1 : (each : Int) < 4096 := by omega
  have b2 : ¬ (each : Int) < 1 := by omega
  have b3 : ((N : Int) + (each : Int) - 1) / (each : Int) ≤ 64 := by
    rw [show (N : Int) + (each : Int) - 1 = ((N + each - 1 : Nat) : Int) by omega, ← Int.natCast_ediv]
    omega
  clear hc
  go_enter Tryz.func19, Tryz.ntmps19
  go_upto_region 7 with (go_at_call 32; refine (HNO.out _ (Below.refl _ _)).mono ?_; rintro e w1 ⟨rfl, rfl⟩)
  clear b3
  go_loopw [6, 7] (fun u x wz => ∃ (k f : Nat), x = .int .i64 (f : Int) ∧ f ≤ N + each ∧ Hid (f = k * each ∧ k ≤ (N + each - 1) / each) ∧ Hid (OT wz w.heap.size u (partsB (tgt l) N each k)) ∧ Hid (Below w.heap.size w wz)) (fun _ x _ => N - (intOf x).toNat)
  case atStart => exact ⟨0, 0, rfl, Nat.zero_le _, Lib.hid ⟨by omega, Nat.zero_le _⟩, Lib.hid (OT.nil _ _), Lib.hid (Below.refl _ _)⟩
  case round =>
    obtain ⟨k, f, rfl, hf, HK, HO, HB⟩ := hrel
    have HLN : Hid ((partsB (tgt l) N each k).length ≤ 64) := Lib.hid (by rw [partsB_len]; have := HK.out.2; omega)
    have HBS := Lib.hid HB.out.size
    by_cases hlt : f < N
    · have i1 : (f : Int) < (N : Int) := by omega
      obtain ⟨m, hm⟩ : ∃ m, min each (N - f) = m := ⟨_, rfl⟩
      have hm1 : 1 ≤ m := by omega
      have hm2 : f + m ≤ N := by omega
      have hmi : min (each : Int) ((N : Int) - (f : Int)) = (m : Int) := by omega
      have HP := Lib.hid (sput_calls (HC.out.later HB.out) f m hm1 hm2)
      obtain ⟨ps, hps⟩ : ∃ ps : ByteArray, (⟨(shardB (tgt l) f m).toArray⟩ : ByteArray) = ps := ⟨_, rfl⟩
      rw [hps] at HP
      have HPS : Hid (partB (tgt l) N each k = ps) := Lib.hid (by rw [← hps, ← hm, HK.out.1]; rfl)
      clear hm hps
      go_upto_region 12 with (first
        | (go_at_call 32; refine (HNO.out _ HB.out).mono ?_; rintro e w1 ⟨rfl, rfl⟩)
        | (go_at_call 33; refine HP.out.mono ?_; rintro e w2 ⟨rfl, HB2⟩))
      obtain ⟨uA, uc, hu, -⟩ := OT_shape HO.out
      obtain ⟨un, hun⟩ : ∃ un, (partsB (tgt l) N each k).length = un := ⟨_, rfl⟩
      rw [hun] at hu
      subst hu
      have HO2 := Lib.hid (HO.out.later HB2.out)
      have hmi2 : min (each : Int) 4096 = (each : Int) := by omega
      clear hun hmi
      go_wp2_with (at_builtin; refine OT.append_on (base := w.heap.size) (HO2.out.alloc _) (SR.lit _ [ps] _ rfl 1 rfl (by simp)) (by simp) rfl _ _ rfl rfl rfl (by have := HBS.out; have := HB2.out.size; simp; omega) (by have := HLN.out; simp only [List.length_cons, List.length_nil]; omega) ?_; intro v3 w3 k1 k2; have K1 := Lib.hid k1; have K2 := Lib.hid k2; clear k1 k2)
      go_roundw
      case rel => exact ⟨k + 1, f + each, by go_num, by omega, Lib.hid ⟨by rw [HK.out.1, Nat.add_mul, Nat.one_mul], many_le h1 (by have := HK.out.1; omega)⟩, Lib.hid (by rw [partsB_succ, HPS.out]; exact K1.out), Lib.hid (((HB.out.trans (HB2.out.mono HBS.out)).alloc (by have := HBS.out; have := HB2.out.size; omega) _).grown K2.out (by have := HBS.out; have := HB2.out.size; simp; omega) HO.out.base)⟩
      case measure => simp [intOf]; omega
    · have i1 : ¬ (f : Int) < (N : Int) := by omega
      have HE : Hid (k = (N + each - 1) / each) := Lib.hid (by
        have h := HK.out
        refine Nat.le_antisymm h.2 ?_
        rw [h.1] at hlt
        refine Nat.le_of_lt_succ ((Nat.div_lt_iff_lt_mul (by omega)).2 ?_)
        rw [Nat.succ_mul]; omega)
      go_wp2_with (go_at_call 32; refine (HNO.out _ HB.out).mono ?_; rintro e w1 ⟨rfl, rfl⟩)
      go_ret2
      exact ⟨_, rfl, Lib.hid (by rw [← HE.out]; exact HO.out), HB⟩
end Go.Proofs.YtjokfllldcjheaaGreat.Oc
/- shard: Join, plain facts and its states in memory. -/
namespace Go.Proofs.YtjokfllldcjheaaGreat.Oc
open Go.RowKit Go.Proofs.YtjokfllldcjheaaGreat.Sha Go.Proofs.YtjokfllldcjheaaGreat.Ro Go.Proofs.YtjokfllldcjheaaGreat.Cs Go.Proofs.YtjokfllldcjheaaGreat.Ed
set_option linter.unusedVariables false
set_option linter.unusedSimpArgs false
/-- how many numbers there are in all rows -/
def rowsN (LL : List (List Int)) : Nat := (LL.map List.length).sum
/-- the edges of the first k rows -/
def edK (next : Nat) (LL : List (List Int)) : Nat → List E2
  | 0 => []
  | k + 1 => edK next LL k ++ (LL.getD k []).map fun w => ((next : Int) + (k : Int), w)
/-- shards that were read, joined -/
def joinR : List (Nat × List (List Int)) → Nat → Nat → List E2 → Except Nat (Nat × List E2)
  | [], _, next, all => .ok (next, all)
  | x :: r, i, next, all => if x.1 = next then joinR r (i + 1) (next + x.2.length) (all ++ edK next x.2 x.2.length) else .error i
def totN (rs : List (Nat × List (List Int))) : Nat := (rs.map fun x => rowsN x.2).sum
theorem rowsN_app (a b : List (List Int)) : rowsN (a ++ b) = rowsN a + rowsN b := by unfold rowsN; rw [List.map_append, List.sum_append]
theorem edK_len (next : Nat) (LL : List (List Int)) : ∀ k, (edK next LL k).length = rowsN (LL.take k)
  | 0 => rfl
  | k + 1 => by
    rw [edK, List.length_append, edK_len next LL k, List.length_map]
    by_cases h : k < LL.length
    · rw [List.take_succ_eq_append_getElem h, rowsN_app, List.getD_eq_getElem?_getD, List.getElem?_eq_getElem h]
      simp [rowsN]
    · rw [List.take_of_length_le (by omega), List.take_of_length_le (by omega)]
      simp [List.getD_eq_getElem?_getD, List.getElem?_eq_none (by omega : LL.length ≤ k)]
theorem rowsN_take (LL : List (List Int)) (k : Nat) : rowsN (LL.take k) ≤ rowsN LL := by
  have h := rowsN_app (LL.take k) (LL.drop k)
  rw [List.take_append_drop] at h
  omega
theorem edK_row (next : Nat) (LL : List (List Int)) (k : Nat) : (edK next LL k).length + (LL.getD k []).length ≤ rowsN LL := by
  have h := edK_len next LL (k + 1)
  have h2 := rowsN_take LL (k + 1)
  rw [edK, List.length_append, List.length_map] at h
  omega
theorem edK_all (next : Nat) (LL : List (List Int)) : (edK next LL LL.length).length = rowsN LL := by
  rw [edK_len, List.take_length]
theorem totN_cons (x : Nat × List (List Int)) (r : List (Nat × List (List Int))) : totN (x :: r) = rowsN x.2 + totN r := by simp [totN]
theorem rdShard_len {bs : List UInt8} {N f : Nat} {LL : List (List Int)} (h : rdShard bs N = .ok (f, LL)) : f + LL.length ≤ N := by
  unfold rdShard at h
  cases e : rdCore bs N with
  | error b => rw [e] at h; simp at h
  | ok q =>
    rw [e] at h
    simp only at h
    split at h
    · simp at h
    · injection h with h
      obtain ⟨hd, x, r, h1, h2, h3, h4, rfl⟩ := rdCore_ok e
      obtain ⟨a, mid, b, nx, g1, g2, g3, rfl⟩ := rdHead_ok h1
      have a1 := (rdAt_len g2).2.1
      have a2 := rdIdx_len a1 h2
      have a3 := rdRows_len a2.2.1 h3
      injection h with h5 h6
      simp only at h5 h6 a3
      rw [← h5, ← h6]
      omega
/-- what the parts of a graph's own edges join to -/
theorem lists_edK (L : List E2) (a m : Nat) : ∀ k, k ≤ m → lists L (a + k) = lists L a ++ edK a ((List.range m).map fun (i : Nat) => tgt L ((a : Int) + (i : Nat))) k
  | 0, _ => by simp [edK]
  | k + 1, h => by
    rw [← Nat.add_assoc, lists, lists_edK L a m k (by omega), edK, List.append_assoc]
    congr 2
    have : ((List.range m).map fun (i : Nat) => tgt L ((a : Int) + (i : Nat))).getD k [] = tgt L ((a : Int) + (k : Nat)) := by
      simp [List.getD_eq_getElem?_getD, show k < m by omega]
    rw [this]
    simp
/-- the parts as they are read -/
def readB (t : Int → List Int) (N e : Nat) (k : Nat) : Nat × List (List Int) := (k * e, (List.range (min e (N - k * e))).map fun (i : Nat) => t (((k * e : Nat) : Int) + (i : Nat)))
theorem joinR_parts (L : List E2) (N e : Nat) (he : 1 ≤ e) : ∀ (j k : Nat), k + j = (N + e - 1) / e → joinR ((List.range' k j).map (readB (tgt L) N e)) k (min (k * e) N) (lists L (min (k * e) N)) = .ok (N, lists L N)
  | 0, k, h => by
    have hN : N ≤ k * e := by
      have := Nat.lt_div_mul_add (a := N + e - 1) (b := e) (by omega)
      rw [← h] at this
      rw [Nat.add_zero] at this
      omega
    simp [joinR, Nat.min_eq_right hN]
  | j + 1, k, h => by
    have hk : k * e < N := by
      have h1 : k + 1 ≤ (N + e - 1) / e := by omega
      have h2 := (Nat.le_div_iff_mul_le (by omega)).1 h1
      rw [Nat.succ_mul] at h2
      omega
    rw [List.range'_succ, List.map_cons, joinR, Nat.min_eq_left (Nat.le_of_lt hk)]
    have hl : (readB (tgt L) N e k).2.length = min e (N - k * e) := by simp [readB]
    rw [if_pos (show (readB (tgt L) N e k).1 = k * e from rfl), hl]
    have ih := joinR_parts L N e he j (k + 1) (by omega)
    have hm : min ((k + 1) * e) N = k * e + min e (N - k * e) := by rw [Nat.succ_mul]; omega
    rw [hm, lists_edK L (k * e) (min e (N - k * e)) _ (Nat.le_refl _)] at ih
    exact ih
theorem joinR_all (L : List E2) (N e : Nat) (he : 1 ≤ e) : joinR ((List.range ((N + e - 1) / e)).map (readB (tgt L) N e)) 0 0 [] = .ok (N, lists L N) := by
  have := joinR_parts L N e he ((N + e - 1) / e) 0 (by omega)
  rw [Nat.zero_mul, Nat.zero_min, lists] at this
  rwa [List.range_eq_range']
theorem rowsN_map (L : List E2) (a m : Nat) : (lists L a).length + rowsN ((List.range m).map fun (i : Nat) => tgt L ((a : Int) + (i : Nat))) = (lists L (a + m)).length := by
  have h := congrArg List.length (lists_edK L a m m (Nat.le_refl _))
  rw [List.length_append, edK_len, List.take_of_length_le (by simp)] at h
  exact h.symm
theorem totN_parts (L : List E2) (N e : Nat) (he : 1 ≤ e) : ∀ (j k : Nat), k + j = (N + e - 1) / e → (lists L (min (k * e) N)).length + totN ((List.range' k j).map (readB (tgt L) N e)) = (lists L N).length
  | 0, k, h => by
    have hN : N ≤ k * e := by
      have := Nat.lt_div_mul_add (a := N + e - 1) (b := e) (by omega)
      rw [← h] at this
      rw [Nat.add_zero] at this
      omega
    simp [totN, Nat.min_eq_right hN]
  | j + 1, k, h => by
    have hk : k * e < N := by
      have h1 : k + 1 ≤ (N + e - 1) / e := by omega
      have h2 := (Nat.le_div_iff_mul_le (by omega)).1 h1
      rw [Nat.succ_mul] at h2
      omega
    have ih := totN_parts L N e he j (k + 1) (by omega)
    have hm : min ((k + 1) * e) N = k * e + min e (N - k * e) := by rw [Nat.succ_mul]; omega
    rw [hm, ← rowsN_map] at ih
    rw [List.range'_succ, List.map_cons, totN_cons, Nat.min_eq_left (Nat.le_of_lt hk)]
    have : rowsN (readB (tgt L) N e k).2 = rowsN ((List.range (min e (N - k * e))).map fun (i : Nat) => tgt L (((k * e : Nat) : Int) + (i : Nat))) := rfl
    omega
theorem totN_all (L : List E2) (N e : Nat) (he : 1 ≤ e) : totN ((List.range ((N + e - 1) / e)).map (readB (tgt L) N e)) = (lists L N).length := by
  have := totN_parts L N e he ((N + e - 1) / e) 0 (by omega)
  rw [Nat.zero_mul, Nat.zero_min, lists] at this
  rw [List.range_eq_range']
  simpa using this
/-- what Join answers -/
def JQ (R : Except Nat (Nat × List E2)) (N n : Nat) (w w' : World) (e : Ending) : Prop := match R with
  | .error i => e = .returned (.tuple #[.pointer none, faultV (i : Int) 4])
  | .ok q => if q.1 = N then ∃ p bb tv, e = .returned (.tuple #[pV p, .nilIface]) ∧ CS w' w.heap.size p bb tv N (nrm q.2) else e = .returned (.tuple #[.pointer none, faultV (n : Int) 4])
/-- the edges while a shard's are taken -/
structure JL (W wz : World) (B : Nat) (v0 v : Value) (all : List E2) : Prop where
  one : EO wz B v all
  gr : W.grownBy wz v0.ownBlock
  own : ∀ k, v.ownBlock = some k → v0.ownBlock = some k ∨ W.heap.size ≤ k
theorem JL.start {W : World} {B : Nat} {v0 : Value} {all : List E2} (h : EO W B v0 all) : JL W W B v0 v0 all := ⟨h, World.grownBy.refl W _, fun k e => .inl e⟩
theorem JL.push {W wz w3 : World} {B : Nat} {v0 v v1 : Value} {all A2 : List E2} (h : JL W wz B v0 v all) (o : Obj) (k1 : EO w3 B v1 A2) (k2 : (wz.alloc o).grownBy w3 v.ownBlock) (k3 : v1.ownBlock = v.ownBlock ∨ v1.ownBlock = some (wz.alloc o).heap.size) : JL W w3 B v0 v1 A2 := by
  have hs : (wz.alloc o).heap.size = wz.heap.size + 1 := by simp
  have hz := h.gr.size
  refine ⟨k1, ⟨k2.os.trans h.gr.os, k2.tape.trans h.gr.tape, k2.output.trans h.gr.output, by have := k2.size; omega, fun k hk hne => ?_⟩, fun k e => ?_⟩
  · refine ((k2.block k (by omega) (fun e => ?_)).trans (Below.heap_alloc wz o k (by omega))).trans (h.gr.block k hk hne)
    rcases h.own k e.symm with h1 | h1
    · exact hne h1.symm
    · omega
  · rcases k3 with k3 | k3
    · exact h.own k (k3 ▸ e)
    · rw [k3, hs] at e
      injection e with e
      exact .inr (by omega)
/-- row k of a row of rows: its place, and how it reads -/
theorem rr_row {W : World} {K : Nat → Prop} {A : Option Addr} {n c : Nat} {LL : List (List Int)} (h : RR W K (.slice A n c) LL) {k : Nat} (hk : k < LL.length) : ∃ gv o t g, A = some ⟨gv, o, none⟩ ∧ gv < W.heap.size ∧ K gv ∧ W.cell? ⟨gv, o + k, none⟩ = some t ∧ JR W g t (LL.getD k []) ∧ (LL.getD k [] ≠ [] → K g) := by
  obtain ⟨gv, vs, h1, h2, h3⟩ := h
  have hv : 0 < vs.length := by rw [h3.1]; omega
  obtain ⟨A', c', o, e, -, -, h5⟩ := h1
  obtain ⟨ha, hlt, hc⟩ := h5 hv
  injection e with e1 e2 e3
  obtain ⟨g, j1, j2⟩ := h3.2 k hk
  exact ⟨gv, o, vs.getD k undef, g, by rw [e1, ha], hlt, h2 (by intro e; rw [e] at hv; simp at hv), hc k (by rw [h3.1]; exact hk), j1, j2⟩
end Go.Proofs.YtjokfllldcjheaaGreat.Oc
/- shard, walked: Join. -/
namespace Go.Proofs.YtjokfllldcjheaaGreat.Oc
open Go.RowKit Go.Proofs.YtjokfllldcjheaaGreat.Sha Go.Proofs.YtjokfllldcjheaaGreat.Ro Go.Proofs.YtjokfllldcjheaaGreat.Cs Go.Proofs.YtjokfllldcjheaaGreat.Ed
set_option linter.unusedVariables false
set_option linter.unusedSimpArgs false
theorem ecells_lit (x y : Int) : (ecells [(x, y)]) = [.int .i64 x, .int .i64 y] := rfl
end Go.Proofs.YtjokfllldcjheaaGreat.Oc
/- shard: the parts of a graph are read again, and join to it. -/
namespace Go.Proofs.YtjokfllldcjheaaGreat.Oc
open Go.RowKit Go.Proofs.YtjokfllldcjheaaGreat.Sha Go.Proofs.YtjokfllldcjheaaGreat.Ro Go.Proofs.YtjokfllldcjheaaGreat.Cs Go.Proofs.YtjokfllldcjheaaGreat.Ed
set_option linter.unusedVariables false
set_option linter.unusedSimpArgs false
theorem lt_parts {N e k : Nat} (he : 1 ≤ e) (hk : k < (N + e - 1) / e) : k * e < N := by
  have h2 := (Nat.le_div_iff_mul_le (by omega)).1 (show k + 1 ≤ (N + e - 1) / e by omega)
  rw [Nat.succ_mul] at h2
  omega
/-- each part is read as what it has -/
theorem part_read {w : World} {B p bb N : Nat} {tv : Value} {l : List E2} (hc : CS w B p bb tv N l) (e : Nat) (he : 1 ≤ e) (k : Nat) (hk : k < (N + e - 1) / e) : rdShard (partB (tgt l) N e k).data.toList N = .ok (readB (tgt l) N e k) := by
  have hlt := lt_parts he hk
  have h := rdShard_put (tgt l) N hc.nodes (rows_ok hc) (k * e) (min e (N - k * e)) (by omega) (by omega)
  exact h
theorem part_size {w : World} {B p bb N : Nat} {tv : Value} {l : List E2} (hc : CS w B p bb tv N l) (e : Nat) (he : 1 ≤ e) (k : Nat) (hk : k < (N + e - 1) / e) : (partB (tgt l) N e k).size ≤ 40000000 := by
  have hlt := lt_parts he hk
  have hN := hc.nodes
  have e1 : (partB (tgt l) N e k).size = (shardB (tgt l) (k * e) (min e (N - k * e))).length := rfl
  have a := rowsB_le (tgt l) N hN (rows_ok hc) (min e (N - k * e)) ((k * e : Nat) : Int) (by omega) (by omega)
  have hm : min e (N - k * e) ≤ 4096 := by omega
  have b : min e (N - k * e) * 8194 ≤ 4096 * 8194 := Nat.mul_le_mul_right _ hm
  have c := idxB_le (marksOf (tgt l) ((k * e : Nat) : Int) (min e (N - k * e))) (fun x hx => by
    unfold marksOf at hx
    obtain ⟨i, hi, rfl⟩ := List.mem_map.1 hx
    have hi := List.mem_range.1 hi
    have a := rowsB_le (tgt l) N hN (rows_ok hc) (8 * i) ((k * e : Nat) : Int) (by omega) (by omega)
    have b : 8 * i * 8194 ≤ 4096 * 8194 := Nat.mul_le_mul_right _ (by omega)
    exact Nat.lt_of_le_of_lt (Nat.le_trans a b) (by decide))
  rw [marksOf_len] at c
  have d := shB_le 7 (k * e) (by omega)
  have d2 := shB_le 7 (min e (N - k * e)) (by omega)
  rw [e1, shardB]
  simp only [List.length_append]
  omega
theorem partsB_at (t : Int → List Int) (N e n k : Nat) (hk : k < n) : (partsB t N e n).getD k ByteArray.empty = partB t N e k := by
  simp [partsB, List.getD_eq_getElem?_getD, hk]
/-- a part that is cut is none -/
theorem part_cut {w : World} {B p bb N : Nat} {tv : Value} {l : List E2} (hc : CS w B p bb tv N l) (e : Nat) (he : 1 ≤ e) (k : Nat) (hk : k < (N + e - 1) / e) (W : World) (s : ByteArray) (hs : partB (tgt l) N e k = s) (j : Nat) (hj : j < s.size) (s' : ByteArray) (hs' : s'.data.toList = s.data.toList.take j) :
    Calls Tryz.prog 36 #[.string s', .int .i64 (N : Int)] W fun r w' => ∃ a b : Int, r = .returned (.tuple #[.agg #[.int .i64 0, .slice none 0 0], faultV a b]) ∧ Hid (Below W.heap.size W w') := by
  subst hs
  have hr := part_read hc e he k hk
  have hz := part_size hc e he k hk
  have hsz : s'.size ≤ 140737488355328 := by
    have h := congrArg List.length hs'
    rw [List.length_take, Array.length_toList] at h
    have : s'.size = s'.data.size := rfl
    omega
  refine (get_calls s' N hsz hc.nodes W).mono fun r w' ⟨h1, h2⟩ => ?_
  have h1 := h1.out
  unfold SG at h1
  cases hx : rdShard s'.data.toList N with
  | error b => rw [hx] at h1; exact ⟨_, _, h1, h2⟩
  | ok q =>
    rw [hs'] at hx
    exact absurd hx (rdShard_cut hr j (by rw [Array.length_toList]; exact hj) q)
end Go.Proofs.YtjokfllldcjheaaGreat.Oc
