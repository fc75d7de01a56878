/- shard: Table of a graph's parts; of parts of which one lacks. -/
import Derived.Test.YtjokfllldcjheaaGreatDoorCo9
namespace Go.Proofs.YtjokfllldcjheaaGreatDoor.Oc
open Go.RowKit Go.Proofs.YtjokfllldcjheaaGreatDoor.Sha Go.Proofs.YtjokfllldcjheaaGreatDoor.Ro Go.Proofs.YtjokfllldcjheaaGreatDoor.Cs Go.Proofs.YtjokfllldcjheaaGreatDoor.Ed Go.Proofs.YtjokfllldcjheaaGreatDoor.Tb
set_option linter.unusedVariables false
set_option linter.unusedSimpArgs false
/-- the table of the first m parts -/
def tabP (t : Int → List Int) (N e m : Nat) : List E2 := (List.range m).map fun i => (((i * e : Nat) : Int), ((partB t N e i).size : Int))
theorem tabP_len (t : Int → List Int) (N e m : Nat) : (tabP t N e m).length = m := by simp [tabP]
theorem tabP_at (t : Int → List Int) (N e m k : Nat) (hk : k < m) : (tabP t N e m).getD k (0, 0) = (((k * e : Nat) : Int), ((partB t N e k).size : Int)) := by
  simp [tabP, List.getD_eq_getElem?_getD, hk]
theorem table_parts {w : World} {B p bb N : Nat} {tv : Value} {l : List E2} (hc : CS w B p bb tv N l) (e : Nat) (he : 1 ≤ e) (m : Nat) (hmm : (N + e - 1) / e = m) (hm : m ≤ 1000) (g0 : Nat) (lv : Value) (W : World) (hv : SR W g0 lv (partsB (tgt l) N e m)) :
    Calls Tryz.prog 14 #[.int .i64 (N : Int), lv] W fun r w' => ∃ v, r = .returned (.tuple #[v, .nilIface]) ∧ Hid (TBO w' W.heap.size v (tabP (tgt l) N e m)) ∧ Hid (Below W.heap.size W w') := by
  have h := table_calls N g0 lv (partsB (tgt l) N e m) ((List.range m).map (· * e)) W hc.nodes hv (by rw [partsB_len]; exact hm)
    (fun s hs => by
      unfold partsB at hs
      obtain ⟨k, hk, rfl⟩ := List.mem_map.1 hs
      exact Nat.le_trans (part_size hc e he k (by rw [hmm]; exact List.mem_range.1 hk)) (by decide))
    m (by rw [partsB_len]; exact Nat.le_refl _) (0, 0)
    (fun i hi => by
      rw [partsB_at _ _ _ _ _ hi, part_read hc e he i (by rw [hmm]; exact hi)]
      exact ⟨(readB (tgt l) N e i).2, by simp [List.getD_eq_getElem?_getD, hi, readB]⟩)
    (fun h => by rw [partsB_len] at h; omega)
  refine h.mono fun r w' ⟨h1, h2⟩ => ?_
  have h1 := h1.out
  unfold TQ at h1
  rw [partsB_len, if_pos rfl] at h1
  obtain ⟨v, q1, q2⟩ := h1
  refine ⟨v, q1, Lib.hid ?_, h2⟩
  have e1 : tabL (partsB (tgt l) N e m) ((List.range m).map (· * e)) m = tabP (tgt l) N e m := by
    unfold tabL tabP
    refine List.map_congr_left fun i hi => ?_
    rw [partsB_at _ _ _ _ _ (List.mem_range.1 hi)]
    simp [List.getD_eq_getElem?_getD, List.mem_range.1 hi]
  rw [e1] at q2
  exact q2
theorem rd_none (N : Nat) : rdShard (ByteArray.empty).data.toList N = .error (3, 0) := rfl
theorem table_less {w : World} {B p bb N : Nat} {tv : Value} {l : List E2} (hc : CS w B p bb tv N l) (e : Nat) (he : 1 ≤ e) (m : Nat) (hmm : (N + e - 1) / e = m) (hm : m ≤ 900) (a : Nat) (ha : a < m) (g0 : Nat) (lv : Value) (W : World) (hv : SR W g0 lv ((idxs m a).map (partB (tgt l) N e) ++ [ByteArray.empty])) :
    Calls Tryz.prog 14 #[.int .i64 (N : Int), lv] W fun r w' => r = .returned (.tuple #[.slice none 0 0, .iface 106 (.agg #[.int .i64 ((m : Int) - 1), faultV 0 3])]) ∧ Hid (Below W.heap.size W w') := by
  have hl : ((idxs m a).map (partB (tgt l) N e) ++ [ByteArray.empty]).length = m := by rw [List.length_append, List.length_map, idxs_len ha]; simp; omega
  have hgt : ∀ i, i < m - 1 → ∃ k, k < m ∧ (idxs m a)[i]? = some k := fun i hi => by
    have hi2 : i < (idxs m a).length := by rw [idxs_len ha]; exact hi
    exact ⟨(idxs m a)[i], idxs_lt ha (List.getElem_mem _), List.getElem?_eq_getElem hi2⟩
  have hlm : ((idxs m a).map (partB (tgt l) N e)).length = m - 1 := by rw [List.length_map, idxs_len ha]
  have h := table_calls N g0 lv ((idxs m a).map (partB (tgt l) N e) ++ [ByteArray.empty]) ((idxs m a).map (· * e)) W hc.nodes hv (by rw [hl]; omega)
    (fun s hs => by
      rcases List.mem_append.1 hs with hs | hs
      · obtain ⟨k, hk, rfl⟩ := List.mem_map.1 hs
        exact Nat.le_trans (part_size hc e he k (by rw [hmm]; exact idxs_lt ha hk)) (by decide)
      · rw [List.mem_singleton.1 hs]; decide)
    (m - 1) (by rw [hl]; omega) (3, 0)
    (fun i hi => by
      obtain ⟨k, hk, hx⟩ := hgt i hi
      rw [List.getD_eq_getElem?_getD, List.getD_eq_getElem?_getD, List.getElem?_append_left (by rw [hlm]; exact hi), List.getElem?_map, List.getElem?_map, hx]
      exact ⟨(readB (tgt l) N e k).2, part_read hc e he k (by rw [hmm]; exact hk)⟩)
    (fun h => by
      have e1 : ((idxs m a).map (partB (tgt l) N e) ++ [ByteArray.empty]).getD (m - 1) ByteArray.empty = ByteArray.empty := by
        rw [List.getD_eq_getElem?_getD, List.getElem?_append_right (by rw [hlm]; exact Nat.le_refl _), hlm, Nat.sub_self]; rfl
      rw [e1]
      exact rd_none N)
  refine h.mono fun r w' ⟨h1, h2⟩ => ⟨?_, h2⟩
  have h1 := h1.out
  unfold TQ at h1
  rw [hl, if_neg (by omega), show ((m - 1 : Nat) : Int) = (m : Int) - 1 by omega] at h1
  exact h1
/-- a row of a table: its two cells -/
theorem tab_cell {w : World} {g : Nat} {A : Option Addr} {n c : Nat} {t : Int → List Int} {N e m : Nat} (h : TBR w g (.slice A n c) (tabP t N e m)) (k : Nat) (hk : k < m) : ∃ o, A = some ⟨g, o, none⟩ ∧ n = m ∧ w.cell? ⟨g, o + k * 2, none⟩ = some (.int .i64 ((k * e : Nat) : Int)) ∧ w.cell? ⟨g, o + k * 2 + 1, none⟩ = some (.int .i64 ((partB t N e k).size : Int)) := by
  obtain ⟨o, A', c', hv, h1, h2, h3⟩ := h
  injection hv with hv hn hc
  subst hv hn hc
  obtain ⟨hA, -, hcell⟩ := h3 (by rw [tabP_len]; omega)
  have := hcell k (by rw [tabP_len]; exact hk)
  rw [tabP_at _ _ _ _ _ hk] at this
  exact ⟨o, hA, by rw [tabP_len], this.1, this.2⟩
end Go.Proofs.YtjokfllldcjheaaGreatDoor.Oc
