/- csr: Build, Nodes, Edges, row, Begin, Degree. -/
import Derived.Test.YtjokfllldcjheaaGreatDoorCr
namespace Go.Proofs.YtjokfllldcjheaaGreatDoor.Cs
open Go.RowKit Go.Proofs.YtjokfllldcjheaaGreatDoor.Ed Go.Proofs.YtjokfllldcjheaaGreatDoor.Ro
set_option linter.unusedVariables false
set_option linter.unusedSimpArgs false

abbrev pV (p : Nat) : Value := .pointer (some ⟨p, 0, none⟩)
set_option maxHeartbeats 1000000 in
theorem build_ok (N g : Nat) (v : Value) (l : List E2) (w : World) (h : ER w g v l) (hl : l.length ≤ 1000000) (hw : wrg (N : Int) l = -2) :
    Calls Tryz.prog 10 #[.int .i64 (N : Int), v] w fun e w' => ∃ p bb tv, e = .returned (.tuple #[pV p, .nilIface]) ∧ Hid (CS w' w.heap.size p bb tv N (nrm l)) ∧ Hid (Below w.heap.size w w') := by
  have HN := Lib.hid (norm_ok (N : Int) g v l w h hl hw)
  obtain ⟨A, c, rfl, -⟩ := er_form h
  obtain ⟨a1, a2, a3, a4⟩ := wrg_ok.1 hw
  have HR := Lib.hid (fun g v W (hW : ER W g v (nrm l)) => rows_calls N g v (nrm l) W hW (up_nrm l) (fun e he => a4 e (mem_nrm.1 he)) (Nat.le_trans (nrm_len l) a3) (by omega))
  generalize l.length = n at *
  clear h hw a1 a2 a3 a4
  go_enter Tryz.func10, Tryz.ntmps10
  go_wp2_with (first
    | (go_at_call 41; refine HN.out.mono ?_; rintro e w1 ⟨v1, rfl, HO, HB⟩; obtain ⟨g1, hg1, -⟩ := HO.out.reads; have HE := Lib.hid hg1; obtain ⟨A1, c1, rfl, -⟩ := id HO.out.shape; clear hg1)
    | (go_at_call 42; refine (HR.out g1 _ _ HE.out).mono ?_; rintro e w2 ⟨p, bb, tv, rfl, HC, HB2⟩))
  go_ret2
  have hz := HB.out.size
  refine ⟨p, bb, tv, rfl, Lib.hid ?_, Lib.hid (HB.out.trans (HB2.out.mono hz))⟩
  have hc := HC.out
  exact ⟨hc.blk, hc.beg.mono hz, hc.row.mono hz, Nat.le_trans hz hc.base, hc.up, hc.ok, hc.few, hc.nodes⟩
set_option maxHeartbeats 1000000 in
theorem build_bad (n : Int) (g : Nat) (v : Value) (l : List E2) (w : World) (h : ER w g v l) (hl : l.length ≤ 1000000) (hw : wrg n l ≠ -2) :
    Calls Tryz.prog 10 #[.int .i64 n, v] w fun e w' => e = .returned (.tuple #[.pointer none, errV (wrg n l)]) ∧ Hid (Below w.heap.size w w') := by
  have HN := Lib.hid (norm_bad n g v l w h hl hw)
  obtain ⟨A, c, rfl, -⟩ := er_form h
  generalize wrg n l = a at *
  generalize l.length = m at *
  clear h hw
  go_enter Tryz.func10, Tryz.ntmps10
  go_wp2_with (go_at_call 41; refine HN.out.mono ?_; unfold errV; rintro e w1 ⟨rfl, HB⟩)
  go_ret2
  exact ⟨rfl, HB⟩
section
variable {w : World} {B p bb N : Nat} {tv : Value} {l : List E2}
set_option maxHeartbeats 1000000 in
theorem nodes_calls (h : CS w B p bb tv N l) : Calls Tryz.prog 43 #[pV p] w fun e w' => e = .returned (.int .i64 (N : Int)) ∧ w = w' := by
  obtain ⟨c0, c1⟩ := h.cells
  have hN := h.nodes
  clear h
  go_enter Tryz.func43, Tryz.ntmps43
  go_wp2
  go_ret
  exact ⟨by simp, rfl⟩
set_option maxHeartbeats 1000000 in
theorem edges_calls (h : CS w B p bb tv N l) : Calls Tryz.prog 31 #[pV p] w fun e w' => e = .returned (.int .i64 (l.length : Int)) ∧ w = w' := by
  obtain ⟨c0, c1⟩ := h.cells
  obtain ⟨A, c, rfl, -⟩ := h.row.shape
  rw [tos_len] at c1
  generalize l.length = n at *
  clear h
  go_enter Tryz.func31, Tryz.ntmps31
  go_wp2
  go_ret
  exact ⟨rfl, rfl⟩
/-- where a node's targets begin, in memory -/
theorem CS.begAt (h : CS w B p bb tv N l) (v : Nat) (hv : v ≤ N) : w.cell? ⟨bb, v, none⟩ = some (.int .i64 (bel l v : Nat)) := by
  have := (OJ.at h.beg (rowF_len _ _) v (by omega)).1
  rwa [rowF_get _ (by omega)] at this
/-- a node's piece of all targets -/
theorem CS.piece (h : CS w B p bb tv N l) (v : Nat) (hv : v < N) : (∃ A o c, tv = .slice (some ⟨A, o, none⟩) l.length c ∧ A < w.heap.size ∧  l.length ≤ c ∧ c ≤ 9223372036854775807 ∧ ∀ o' c', o' = o + bel l v → deg l v ≤ c' → c' ≤ 9223372036854775807 → JR w A (.slice (some ⟨A, o', none⟩) (deg l v) c') (tgt l v)) ∨ (tv = .slice none 0 0 ∧ l = []) := by
  rcases h.row.2 with ⟨rfl, hn⟩ | ⟨g, cap, cur, rfl, hb, hg, hnc, hcm, hcs, htk⟩
  · rw [tos_len] at hn
    exact .inr ⟨rfl, List.eq_nil_of_length_eq_zero hn⟩
  · rw [tos_len] at hnc
    refine .inl ⟨g, 0, cap, by rw [tos_len], (Array.getElem?_eq_some_iff.1 hg).1, hnc, by simp only [maxLen] at hcm; omega, fun o' c' ho hc hm => ?_⟩
    refine ⟨some ⟨g, o', none⟩, c', o', by rw [tgt_len], by rw [tgt_len]; exact hc, hm, fun _ => ⟨rfl, (Array.getElem?_eq_some_iff.1 hg).1, fun i hi => ?_⟩⟩
    rw [tgt_len] at hi
    have hbd := bel_deg l v
    have := (OJ.at h.row rfl (bel l v + i) (by rw [tos_len]; omega)).1
    rw [tgt_get l h.up v i hi, ho, Nat.zero_add]
    exact this
end
end Go.Proofs.YtjokfllldcjheaaGreatDoor.Cs
