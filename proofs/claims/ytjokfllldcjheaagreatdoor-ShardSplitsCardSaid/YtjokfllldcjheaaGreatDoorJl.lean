/- shard: Join of parts of which one lacks. -/
import Derived.Test.YtjokfllldcjheaaGreatDoorSt
namespace Go.Proofs.YtjokfllldcjheaaGreatDoor.Oc
open Go.RowKit Go.Proofs.YtjokfllldcjheaaGreatDoor.Sha Go.Proofs.YtjokfllldcjheaaGreatDoor.Ro Go.Proofs.YtjokfllldcjheaaGreatDoor.Cs Go.Proofs.YtjokfllldcjheaaGreatDoor.Ed
set_option linter.unusedVariables false
set_option linter.unusedSimpArgs false
theorem totN_app : ∀ (a b : List (Nat × List (List Int))), totN (a ++ b) = totN a + totN b
  | [], b => by simp [totN]
  | x :: a, b => by rw [List.cons_append, totN_cons, totN_cons, totN_app a b, Nat.add_assoc]
theorem joinR_app (L : List E2) (N e : Nat) (he : 1 ≤ e) (R : List (Nat × List (List Int))) : ∀ (j k : Nat), k + j ≤ (N + e - 1) / e → joinR ((List.range' k j).map (readB (tgt L) N e) ++ R) k (min (k * e) N) (lists L (min (k * e) N)) = joinR R (k + j) (min ((k + j) * e) N) (lists L (min ((k + j) * e) N))
  | 0, k, h => by simp
  | j + 1, k, h => by
    have hk : k * e < N := lt_parts he (show k < (N + e - 1) / e by omega)
    rw [List.range'_succ, List.map_cons, List.cons_append, joinR, Nat.min_eq_left (Nat.le_of_lt hk)]
    have hl : (readB (tgt L) N e k).2.length = min e (N - k * e) := by simp [readB]
    rw [if_pos (show (readB (tgt L) N e k).1 = k * e from rfl), hl]
    have ih := joinR_app L N e he R j (k + 1) (by omega)
    have hm : min ((k + 1) * e) N = k * e + min e (N - k * e) := by rw [Nat.succ_mul]; omega
    rw [hm, lists_edK L (k * e) (min e (N - k * e)) _ (Nat.le_refl _), show k + 1 + j = k + (j + 1) by omega] at ih
    exact ih
/-- all numbers below m but one -/
def idxs (m a : Nat) : List Nat := List.range' 0 a ++ List.range' (a + 1) (m - 1 - a)
theorem idxs_len {m a : Nat} (h : a < m) : (idxs m a).length = m - 1 := by simp [idxs]; omega
theorem idxs_lt {m a k : Nat} (h : a < m) (hk : k ∈ idxs m a) : k < m := by
  unfold idxs at hk
  rw [List.mem_append, List.mem_range'_1, List.mem_range'_1] at hk
  omega
theorem range_split {m a : Nat} (h : a < m) : List.range m = List.range' 0 a ++ a :: List.range' (a + 1) (m - 1 - a) := by
  rw [List.range_eq_range', ← List.range'_succ, show m - 1 - a + 1 = m - a by omega]
  have := @List.range'_append_1 0 a (m - a)
  rw [Nat.zero_add] at this
  rw [this, show a + (m - a) = m by omega]
theorem idxs_less {β : Type} (f : Nat → β) {m a : Nat} (h : a < m) : ((List.range m).map f).take a ++ ((List.range m).map f).drop (a + 1) = (idxs m a).map f := by
  have e : (List.range m).map f = (List.range' 0 a).map f ++ f a :: (List.range' (a + 1) (m - 1 - a)).map f := by rw [range_split h, List.map_append, List.map_cons]
  have hl : ((List.range' 0 a).map f).length = a := by simp
  rw [e]
  unfold idxs
  rw [List.map_append]
  congr 1
  · rw [List.take_append_of_le_length (by omega), List.take_of_length_le (by omega)]
  · rw [List.drop_append, hl, List.drop_eq_nil_of_le (by omega), List.nil_append, show a + 1 - a = 1 by omega]
    rfl
set_option maxHeartbeats 1000000 in
theorem join_less {w : World} {B p bb N : Nat} {tv : Value} {l : List E2} (hc : CS w B p bb tv N l) (e : Nat) (he : 1 ≤ e) (a : Nat) (ha : a < (N + e - 1) / e) (hm : (N + e - 1) / e ≤ 1000) (g0 : Nat) (lv : Value) (W : World) (hv : SR W g0 lv ((idxs ((N + e - 1) / e) a).map (partB (tgt l) N e))) :
    Calls Tryz.prog 15 #[.int .i64 (N : Int), lv] W fun r w' => r = .returned (.tuple #[.pointer none, faultV (a : Int) 4]) ∧ Hid (Below W.heap.size W w') := by
  have hN := hc.nodes
  obtain ⟨m, hmm⟩ : ∃ m, (N + e - 1) / e = m := ⟨_, rfl⟩
  have hae := lt_parts he ha
  have ht := totN_all l N e he
  have hf := hc.few
  rw [show lists l N = l from lists_all hc.up N hc.ok] at ht
  have happ := joinR_app l N e he ((List.range' (a + 1) (m - 1 - a)).map (readB (tgt l) N e)) a 0 (by omega)
  rw [hmm] at ha hm hv ht
  rw [Nat.zero_mul, Nat.zero_min, lists, Nat.zero_add, Nat.min_eq_left (Nat.le_of_lt hae), ← List.map_append] at happ
  have hgt : ∀ i, i < (idxs m a).length → ∃ k, k < m ∧ (idxs m a)[i]? = some k := fun i hi => ⟨(idxs m a)[i], idxs_lt ha (List.getElem_mem _), List.getElem?_eq_getElem hi⟩
  have hle : totN ((idxs m a).map (readB (tgt l) N e)) ≤ 20000 := by
    rw [range_split ha, List.map_append, List.map_cons, totN_app, totN_cons] at ht
    unfold idxs
    rw [List.map_append, totN_app]
    omega
  have h := join_calls N g0 lv ((idxs m a).map (partB (tgt l) N e)) ((idxs m a).map (readB (tgt l) N e)) W hN hv (by simp) (by rw [List.length_map, idxs_len ha]; omega)
    (fun s hs => by
      obtain ⟨k, hk, rfl⟩ := List.mem_map.1 hs
      exact Nat.le_trans (part_size hc e he k (by rw [hmm]; exact idxs_lt ha hk)) (by decide))
    (fun i hi => by
      rw [List.length_map] at hi
      obtain ⟨k, hk, hx⟩ := hgt i hi
      rw [List.getD_eq_getElem?_getD, List.getD_eq_getElem?_getD, List.getElem?_map, List.getElem?_map, hx]
      exact part_read hc e he k (by rw [hmm]; exact hk))
    hle
    (fun q hq hqN => by
      unfold idxs at hq
      rw [happ] at hq
      exfalso
      obtain ⟨r, hr⟩ : ∃ r, m - 1 - a = r := ⟨_, rfl⟩
      rw [hr] at hq
      cases r with
      | zero => simp [joinR] at hq; rw [← hq] at hqN; simp only at hqN; omega
      | succ r =>
        rw [List.range'_succ, List.map_cons, joinR, if_neg (by show ¬ (a + 1) * e = a * e; rw [Nat.succ_mul]; omega)] at hq
        simp at hq)
  refine h.mono fun r w' ⟨h1, h2⟩ => ⟨?_, h2⟩
  have h1 := h1.out
  rw [List.length_map, idxs_len ha] at h1
  unfold idxs at h1
  rw [happ] at h1
  obtain ⟨r, hr⟩ : ∃ r, m - 1 - a = r := ⟨_, rfl⟩
  rw [hr] at h1
  cases r with
  | zero =>
    rw [List.range'_zero, List.map_nil, joinR] at h1
    unfold JQ at h1
    simp only at h1
    rw [if_neg (by omega), show m - 1 = a by omega] at h1
    exact h1
  | succ r =>
    rw [List.range'_succ, List.map_cons, joinR, if_neg (by show ¬ (a + 1) * e = a * e; rw [Nat.succ_mul]; omega)] at h1
    exact h1
end Go.Proofs.YtjokfllldcjheaaGreatDoor.Oc
