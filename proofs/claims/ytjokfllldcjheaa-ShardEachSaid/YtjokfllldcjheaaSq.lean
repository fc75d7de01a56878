/- shard: the parts of a graph are read again, and join to it. -/
import Derived.Test.YtjokfllldcjheaaSk
namespace Go.Proofs.Ytjokfllldcjheaa.Oc
open Go.RowKit Go.Proofs.Ytjokfllldcjheaa.Sha Go.Proofs.Ytjokfllldcjheaa.Ro Go.Proofs.Ytjokfllldcjheaa.Cs Go.Proofs.Ytjokfllldcjheaa.Ed
set_option linter.unusedVariables false
set_option linter.unusedSimpArgs false
theorem lt_parts {N e k : Nat} (he : 1 ≤ e) (hk : k < (N + e - 1) / e) : k * e < N := by
  have h2 := (Nat.le_div_iff_mul_le (by omega)).1 (show k + 1 ≤ (N + e - 1) / e by omega)
  rw [Nat.succ_mul] at h2
  omega
/-- each part is read as what it has -/
theorem part_read {w : World} {B p bb N : Nat} {tv : Value} {l : List E2} (hc : CS w B p bb tv N l) (e : Nat) (he : 1 ≤ e) (k : Nat) (hk : k < (N + e - 1) / e) : rdShard (partB (tgt l) N e k).data.toList N = .ok (readB (tgt l) N e k) := by
  have hlt := lt_parts he hk
  have h := rdShard_put (tgt l) N hc.nodes (rows_ok hc) (k * e) (min e (N - k * e)) (by omega) (by omega)
  exact h
theorem part_size {w : World} {B p bb N : Nat} {tv : Value} {l : List E2} (hc : CS w B p bb tv N l) (e : Nat) (he : 1 ≤ e) (k : Nat) (hk : k < (N + e - 1) / e) : (partB (tgt l) N e k).size ≤ 40000000 := by
  have hlt := lt_parts he hk
  have hN := hc.nodes
  have e1 : (partB (tgt l) N e k).size = (shardB (tgt l) (k * e) (min e (N - k * e))).length := rfl
  have a := rowsB_le (tgt l) N hN (rows_ok hc) (min e (N - k * e)) ((k * e : Nat) : Int) (by omega) (by omega)
  have hm : min e (N - k * e) ≤ 4096 := by omega
  have b : min e (N - k * e) * 8194 ≤ 4096 * 8194 := Nat.mul_le_mul_right _ hm
  have c := idxB_le (marksOf (tgt l) ((k * e : Nat) : Int) (min e (N - k * e))) (fun x hx => by
    unfold marksOf at hx
    obtain ⟨i, hi, rfl⟩ := List.mem_map.1 hx
    have hi := List.mem_range.1 hi
    have a := rowsB_le (tgt l) N hN (rows_ok hc) (8 * i) ((k * e : Nat) : Int) (by omega) (by omega)
    have b : 8 * i * 8194 ≤ 4096 * 8194 := Nat.mul_le_mul_right _ (by omega)
    exact Nat.lt_of_le_of_lt (Nat.le_trans a b) (by decide))
  rw [marksOf_len] at c
  have d := shB_le 7 (k * e) (by omega)
  have d2 := shB_le 7 (min e (N - k * e)) (by omega)
  rw [e1, shardB]
  simp only [List.length_append]
  omega
theorem partsB_at (t : Int → List Int) (N e n k : Nat) (hk : k < n) : (partsB t N e n).getD k ByteArray.empty = partB t N e k := by
  simp [partsB, List.getD_eq_getElem?_getD, hk]
/-- the parts join to the graph -/
theorem join_parts {w : World} {B p bb N : Nat} {tv : Value} {l : List E2} (hc : CS w B p bb tv N l) (e : Nat) (he : 1 ≤ e) (g0 : Nat) (lv : Value) (W : World) (hv : SR W g0 lv (partsB (tgt l) N e ((N + e - 1) / e))) :
    Calls Try.prog 7 #[.int .i64 (N : Int), lv] W fun r w' => ∃ p2 bb2 tv2, r = .returned (.tuple #[pV p2, .nilIface]) ∧ Hid (CS w' W.heap.size p2 bb2 tv2 N l) ∧ Hid (Below W.heap.size W w') := by
  have hN := hc.nodes
  have hm : (N + e - 1) / e ≤ N := by
    rcases Nat.eq_zero_or_pos N with h0 | h0
    · subst h0; rw [Nat.div_eq_of_lt (by omega)]; omega
    · exact Nat.div_le_of_le_mul (by have : N - 1 ≤ e * N - e := by (have := Nat.mul_le_mul_right (N - 1) he; rw [Nat.one_mul] at this; rw [Nat.mul_sub, Nat.mul_one] at this; exact this)
                                     have : e ≤ e * N := Nat.le_mul_of_pos_right e h0
                                     omega)
  have hl : lists l N = l := lists_all hc.up N hc.ok
  have hj := joinR_all l N e he
  have ht := totN_all l N e he
  rw [hl] at hj ht
  have hf := hc.few
  have h := join_calls N g0 lv (partsB (tgt l) N e ((N + e - 1) / e)) ((List.range ((N + e - 1) / e)).map (readB (tgt l) N e)) W hN hv (by rw [partsB_len]; simp) (by rw [partsB_len]; omega)
    (fun s hs => by
      unfold partsB at hs
      obtain ⟨k, hk, rfl⟩ := List.mem_map.1 hs
      exact Nat.le_trans (part_size hc e he k (List.mem_range.1 hk)) (by decide))
    (fun i hi => by
      rw [partsB_len] at hi
      rw [partsB_at _ _ _ _ _ hi, part_read hc e he i hi]
      simp [List.getD_eq_getElem?_getD, hi])
    (by rw [ht]; exact hf)
    (fun q hq _ => by
      rw [hj] at hq
      injection hq with hq
      rw [← hq]
      exact wrg_ok.2 ⟨by omega, by omega, hf, hc.ok⟩)
  refine h.mono fun r w' ⟨h1, h2⟩ => ?_
  have h1 := h1.out
  rw [hj] at h1
  unfold JQ at h1
  simp only at h1
  rw [if_pos trivial] at h1
  obtain ⟨p2, bb2, tv2, h3, h4⟩ := h1
  rw [show nrm l = l from (nrm_eq hc.up (fun x => Iff.rfl)).symm] at h4
  exact ⟨p2, bb2, tv2, h3, Lib.hid h4, h2⟩
/-- a part that is cut is none -/
theorem part_cut {w : World} {B p bb N : Nat} {tv : Value} {l : List E2} (hc : CS w B p bb tv N l) (e : Nat) (he : 1 ≤ e) (k : Nat) (hk : k < (N + e - 1) / e) (W : World) (s : ByteArray) (hs : partB (tgt l) N e k = s) (j : Nat) (hj : j < s.size) (s' : ByteArray) (hs' : s'.data.toList = s.data.toList.take j) :
    Calls Try.prog 9 #[.string s', .int .i64 (N : Int)] W fun r w' => ∃ a b : Int, r = .returned (.tuple #[.agg #[.int .i64 0, .slice none 0 0], faultV a b]) ∧ Hid (Below W.heap.size W w') := by
  subst hs
  have hr := part_read hc e he k hk
  have hz := part_size hc e he k hk
  have hsz : s'.size ≤ 140737488355328 := by
    have h := congrArg List.length hs'
    rw [List.length_take, Array.length_toList] at h
    have : s'.size = s'.data.size := rfl
    omega
  refine (get_calls s' N hsz hc.nodes W).mono fun r w' ⟨h1, h2⟩ => ?_
  have h1 := h1.out
  unfold SG at h1
  cases hx : rdShard s'.data.toList N with
  | error b => rw [hx] at h1; exact ⟨_, _, h1, h2⟩
  | ok q =>
    rw [hs'] at hx
    exact absurd hx (rdShard_cut hr j (by rw [Array.length_toList]; exact hj) q)
end Go.Proofs.Ytjokfllldcjheaa.Oc
