/- shard: Join, plain facts and its states in memory. -/
import Derived.Test.YtjokfllldcjheaaSl
namespace Go.Proofs.Ytjokfllldcjheaa.Oc
open Go.RowKit Go.Proofs.Ytjokfllldcjheaa.Sha Go.Proofs.Ytjokfllldcjheaa.Ro Go.Proofs.Ytjokfllldcjheaa.Cs Go.Proofs.Ytjokfllldcjheaa.Ed
set_option linter.unusedVariables false
set_option linter.unusedSimpArgs false
/-- how many numbers there are in all rows -/
def rowsN (LL : List (List Int)) : Nat := (LL.map List.length).sum
/-- the edges of the first k rows -/
def edK (next : Nat) (LL : List (List Int)) : Nat → List E2
  | 0 => []
  | k + 1 => edK next LL k ++ (LL.getD k []).map fun w => ((next : Int) + (k : Int), w)
/-- shards that were read, joined -/
def joinR : List (Nat × List (List Int)) → Nat → Nat → List E2 → Except Nat (Nat × List E2)
  | [], _, next, all => .ok (next, all)
  | x :: r, i, next, all => if x.1 = next then joinR r (i + 1) (next + x.2.length) (all ++ edK next x.2 x.2.length) else .error i
def totN (rs : List (Nat × List (List Int))) : Nat := (rs.map fun x => rowsN x.2).sum
theorem rowsN_app (a b : List (List Int)) : rowsN (a ++ b) = rowsN a + rowsN b := by unfold rowsN; rw [List.map_append, List.sum_append]
theorem edK_len (next : Nat) (LL : List (List Int)) : ∀ k, (edK next LL k).length = rowsN (LL.take k)
  | 0 => rfl
  | k + 1 => by
    rw [edK, List.length_append, edK_len next LL k, List.length_map]
    by_cases h : k < LL.length
    · rw [List.take_succ_eq_append_getElem h, rowsN_app, List.getD_eq_getElem?_getD, List.getElem?_eq_getElem h]
      simp [rowsN]
    · rw [List.take_of_length_le (by omega), List.take_of_length_le (by omega)]
      simp [List.getD_eq_getElem?_getD, List.getElem?_eq_none (by omega : LL.length ≤ k)]
theorem rowsN_take (LL : List (List Int)) (k : Nat) : rowsN (LL.take k) ≤ rowsN LL := by
  have h := rowsN_app (LL.take k) (LL.drop k)
  rw [List.take_append_drop] at h
  omega
theorem edK_row (next : Nat) (LL : List (List Int)) (k : Nat) : (edK next LL k).length + (LL.getD k []).length ≤ rowsN LL := by
  have h := edK_len next LL (k + 1)
  have h2 := rowsN_take LL (k + 1)
  rw [edK, List.length_append, List.length_map] at h
  omega
theorem edK_all (next : Nat) (LL : List (List Int)) : (edK next LL LL.length).length = rowsN LL := by
  rw [edK_len, List.take_length]
theorem totN_cons (x : Nat × List (List Int)) (r : List (Nat × List (List Int))) : totN (x :: r) = rowsN x.2 + totN r := by simp [totN]
theorem rdShard_len {bs : List UInt8} {N f : Nat} {LL : List (List Int)} (h : rdShard bs N = .ok (f, LL)) : f + LL.length ≤ N := by
  unfold rdShard at h
  cases e : rdCore bs N with
  | error b => rw [e] at h; simp at h
  | ok q =>
    rw [e] at h
    simp only at h
    split at h
    · simp at h
    · injection h with h
      obtain ⟨hd, x, r, h1, h2, h3, h4, rfl⟩ := rdCore_ok e
      obtain ⟨a, mid, b, nx, g1, g2, g3, rfl⟩ := rdHead_ok h1
      have a1 := (rdAt_len g2).2.1
      have a2 := rdIdx_len a1 h2
      have a3 := rdRows_len a2.2.1 h3
      injection h with h5 h6
      simp only at h5 h6 a3
      rw [← h5, ← h6]
      omega
/-- what the parts of a graph's own edges join to -/
theorem lists_edK (L : List E2) (a m : Nat) : ∀ k, k ≤ m → lists L (a + k) = lists L a ++ edK a ((List.range m).map fun (i : Nat) => tgt L ((a : Int) + (i : Nat))) k
  | 0, _ => by simp [edK]
  | k + 1, h => by
    rw [← Nat.add_assoc, lists, lists_edK L a m k (by omega), edK, List.append_assoc]
    congr 2
    have : ((List.range m).map fun (i : Nat) => tgt L ((a : Int) + (i : Nat))).getD k [] = tgt L ((a : Int) + (k : Nat)) := by
      simp [List.getD_eq_getElem?_getD, show k < m by omega]
    rw [this]
    simp
/-- the parts as they are read -/
def readB (t : Int → List Int) (N e : Nat) (k : Nat) : Nat × List (List Int) := (k * e, (List.range (min e (N - k * e))).map fun (i : Nat) => t (((k * e : Nat) : Int) + (i : Nat)))
theorem joinR_parts (L : List E2) (N e : Nat) (he : 1 ≤ e) : ∀ (j k : Nat), k + j = (N + e - 1) / e → joinR ((List.range' k j).map (readB (tgt L) N e)) k (min (k * e) N) (lists L (min (k * e) N)) = .ok (N, lists L N)
  | 0, k, h => by
    have hN : N ≤ k * e := by
      have := Nat.lt_div_mul_add (a := N + e - 1) (b := e) (by omega)
      rw [← h] at this
      rw [Nat.add_zero] at this
      omega
    simp [joinR, Nat.min_eq_right hN]
  | j + 1, k, h => by
    have hk : k * e < N := by
      have h1 : k + 1 ≤ (N + e - 1) / e := by omega
      have h2 := (Nat.le_div_iff_mul_le (by omega)).1 h1
      rw [Nat.succ_mul] at h2
      omega
    rw [List.range'_succ, List.map_cons, joinR, Nat.min_eq_left (Nat.le_of_lt hk)]
    have hl : (readB (tgt L) N e k).2.length = min e (N - k * e) := by simp [readB]
    rw [if_pos (show (readB (tgt L) N e k).1 = k * e from rfl), hl]
    have ih := joinR_parts L N e he j (k + 1) (by omega)
    have hm : min ((k + 1) * e) N = k * e + min e (N - k * e) := by rw [Nat.succ_mul]; omega
    rw [hm, lists_edK L (k * e) (min e (N - k * e)) _ (Nat.le_refl _)] at ih
    exact ih
theorem joinR_all (L : List E2) (N e : Nat) (he : 1 ≤ e) : joinR ((List.range ((N + e - 1) / e)).map (readB (tgt L) N e)) 0 0 [] = .ok (N, lists L N) := by
  have := joinR_parts L N e he ((N + e - 1) / e) 0 (by omega)
  rw [Nat.zero_mul, Nat.zero_min, lists] at this
  rwa [List.range_eq_range']
theorem rowsN_map (L : List E2) (a m : Nat) : (lists L a).length + rowsN ((List.range m).map fun (i : Nat) => tgt L ((a : Int) + (i : Nat))) = (lists L (a + m)).length := by
  have h := congrArg List.length (lists_edK L a m m (Nat.le_refl _))
  rw [List.length_append, edK_len, List.take_of_length_le (by simp)] at h
  exact h.symm
theorem totN_parts (L : List E2) (N e : Nat) (he : 1 ≤ e) : ∀ (j k : Nat), k + j = (N + e - 1) / e → (lists L (min (k * e) N)).length + totN ((List.range' k j).map (readB (tgt L) N e)) = (lists L N).length
  | 0, k, h => by
    have hN : N ≤ k * e := by
      have := Nat.lt_div_mul_add (a := N + e - 1) (b := e) (by omega)
      rw [← h] at this
      rw [Nat.add_zero] at this
      omega
    simp [totN, Nat.min_eq_right hN]
  | j + 1, k, h => by
    have hk : k * e < N := by
      have h1 : k + 1 ≤ (N + e - 1) / e := by omega
      have h2 := (Nat.le_div_iff_mul_le (by omega)).1 h1
      rw [Nat.succ_mul] at h2
      omega
    have ih := totN_parts L N e he j (k + 1) (by omega)
    have hm : min ((k + 1) * e) N = k * e + min e (N - k * e) := by rw [Nat.succ_mul]; omega
    rw [hm, ← rowsN_map] at ih
    rw [List.range'_succ, List.map_cons, totN_cons, Nat.min_eq_left (Nat.le_of_lt hk)]
    have : rowsN (readB (tgt L) N e k).2 = rowsN ((List.range (min e (N - k * e))).map fun (i : Nat) => tgt L (((k * e : Nat) : Int) + (i : Nat))) := rfl
    omega
theorem totN_all (L : List E2) (N e : Nat) (he : 1 ≤ e) : totN ((List.range ((N + e - 1) / e)).map (readB (tgt L) N e)) = (lists L N).length := by
  have := totN_parts L N e he ((N + e - 1) / e) 0 (by omega)
  rw [Nat.zero_mul, Nat.zero_min, lists] at this
  rw [List.range_eq_range']
  simpa using this
/-- what Join answers -/
def JQ (R : Except Nat (Nat × List E2)) (N n : Nat) (w w' : World) (e : Ending) : Prop := match R with
  | .error i => e = .returned (.tuple #[.pointer none, faultV (i : Int) 4])
  | .ok q => if q.1 = N then ∃ p bb tv, e = .returned (.tuple #[pV p, .nilIface]) ∧ CS w' w.heap.size p bb tv N (nrm q.2) else e = .returned (.tuple #[.pointer none, faultV (n : Int) 4])
/-- the edges while a shard's are taken -/
structure JL (W wz : World) (B : Nat) (v0 v : Value) (all : List E2) : Prop where
  one : EO wz B v all
  gr : W.grownBy wz v0.ownBlock
  own : ∀ k, v.ownBlock = some k → v0.ownBlock = some k ∨ W.heap.size ≤ k
theorem JL.start {W : World} {B : Nat} {v0 : Value} {all : List E2} (h : EO W B v0 all) : JL W W B v0 v0 all := ⟨h, World.grownBy.refl W _, fun k e => .inl e⟩
theorem JL.push {W wz w3 : World} {B : Nat} {v0 v v1 : Value} {all A2 : List E2} (h : JL W wz B v0 v all) (o : Obj) (k1 : EO w3 B v1 A2) (k2 : (wz.alloc o).grownBy w3 v.ownBlock) (k3 : v1.ownBlock = v.ownBlock ∨ v1.ownBlock = some (wz.alloc o).heap.size) : JL W w3 B v0 v1 A2 := by
  have hs : (wz.alloc o).heap.size = wz.heap.size + 1 := by simp
  have hz := h.gr.size
  refine ⟨k1, ⟨k2.os.trans h.gr.os, k2.tape.trans h.gr.tape, k2.output.trans h.gr.output, by have := k2.size; omega, fun k hk hne => ?_⟩, fun k e => ?_⟩
  · refine ((k2.block k (by omega) (fun e => ?_)).trans (Below.heap_alloc wz o k (by omega))).trans (h.gr.block k hk hne)
    rcases h.own k e.symm with h1 | h1
    · exact hne h1.symm
    · omega
  · rcases k3 with k3 | k3
    · exact h.own k (k3 ▸ e)
    · rw [k3, hs] at e
      injection e with e
      exact .inr (by omega)
/-- row k of a row of rows: its place, and how it reads -/
theorem rr_row {W : World} {K : Nat → Prop} {A : Option Addr} {n c : Nat} {LL : List (List Int)} (h : RR W K (.slice A n c) LL) {k : Nat} (hk : k < LL.length) : ∃ gv o t g, A = some ⟨gv, o, none⟩ ∧ gv < W.heap.size ∧ K gv ∧ W.cell? ⟨gv, o + k, none⟩ = some t ∧ JR W g t (LL.getD k []) ∧ (LL.getD k [] ≠ [] → K g) := by
  obtain ⟨gv, vs, h1, h2, h3⟩ := h
  have hv : 0 < vs.length := by rw [h3.1]; omega
  obtain ⟨A', c', o, e, -, -, h5⟩ := h1
  obtain ⟨ha, hlt, hc⟩ := h5 hv
  injection e with e1 e2 e3
  obtain ⟨g, j1, j2⟩ := h3.2 k hk
  exact ⟨gv, o, vs.getD k undef, g, by rw [e1, ha], hlt, h2 (by intro e; rw [e] at hv; simp at hv), hc k (by rw [h3.1]; exact hk), j1, j2⟩
end Go.Proofs.Ytjokfllldcjheaa.Oc
