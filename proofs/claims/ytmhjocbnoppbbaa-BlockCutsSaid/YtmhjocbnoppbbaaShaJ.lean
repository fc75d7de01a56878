/- SHA-256: sha.New as a state of nothing, sha.Sum. -/
import Derived.Test.YtmhjocbnoppbbaaShaI
namespace Go.Proofs.Ytmhjocbnoppbbaa.Sha
open Go.RowKit
set_option linter.unusedVariables false
set_option linter.unusedSimpArgs false

theorem cW_nil : cW [] = H8 := rfl
theorem restW_nil : restW [] = [] := rfl
theorem StT.lt {w : World} {sb kb : Nat} {txt : List UInt8} (h : StT w sb kb txt) : sb < w.heap.size := by
  obtain ⟨rb, v, h⟩ := h
  exact h.lt
theorem StT.later {w w' : World} {sb kb : Nat} {txt : List UInt8} (h : StT w sb kb txt) (hb : Below w.heap.size w w') : StT w' sb kb txt := by
  obtain ⟨rb, v, h⟩ := h
  exact ⟨rb, v, h.later hb⟩
theorem newT_calls (w : World) :
    Calls Try.prog 18 #[] w fun e w' => e = .returned (.pointer (some ⟨w.heap.size + 1, 0, none⟩)) ∧ Hid (StT w' (w.heap.size + 1) w.heap.size []) ∧ Hid (Below w.heap.size w w') :=
  (new_calls w).mono fun _ _ ⟨he, hs, hb⟩ => ⟨he, ⟨_, _, hs⟩, hb⟩
theorem SR.later {w w' : World} {g : Nat} {v : Value} {ss : List ByteArray} (h : SR w g v ss) (hb : Below w.heap.size w w') : SR w' g v ss := by
  obtain ⟨A, c, hv, h1, h2, h3⟩ := h
  refine ⟨A, c, hv, h1, h2, fun h => ?_⟩
  obtain ⟨ad, ha, hbk, hc⟩ := h3 h
  exact ⟨ad, ha, hbk, fun i hi => (hb.cell (World.block_lt_of_cell? _ _ (hc i hi))).trans (hc i hi)⟩
theorem SR.lt {w : World} {g : Nat} {v : Value} {ss : List ByteArray} (h : SR w g v ss) : ss = [] ∨ g < w.heap.size := by
  obtain ⟨A, c, hv, h1, h2, h3⟩ := h
  by_cases e : ss = []
  · exact .inl e
  · right
    obtain ⟨ad, ha, hbk, hc⟩ := h3 (List.length_pos_iff.2 e)
    rw [← hbk]
    have := hc 0 (List.length_pos_iff.2 e)
    have := World.block_lt_of_cell? _ _ this
    rwa [Addr.add_block] at this
/-- of what block a slice of no texts is told does not matter -/
theorem SR.move {w : World} {g : Nat} {v : Value} {ss : List ByteArray} (h : SR w g v ss) (g' : Nat) (he : ss = []) : SR w g' v ss := by
  obtain ⟨A, c, hv, h1, h2, h3⟩ := h
  exact ⟨A, c, hv, h1, h2, fun h => by subst he; simp at h⟩

set_option maxRecDepth 100000 in
theorem sum_calls (g : Nat) (lv : Value) (ss : List ByteArray) (w : World) (hl : SR w g lv ss) (hsz : (cat ss).length ≤ 1000000) :
    Calls Try.prog 20 #[lv] w fun e w' => e = .returned (.string (dig (cat ss))) ∧ Below w.heap.size w w' := by
  obtain ⟨g', hg', hne⟩ : ∃ g', SR w g' lv ss ∧ g' ≠ w.heap.size + 1 := by
    rcases hl.lt with e | h
    · exact ⟨0, hl.move 0 e, by omega⟩
    · exact ⟨g, hl, by omega⟩
  have HL := Lib.hid hg'
  clear hl hg'
  have HSZ := Lib.hid hsz
  clear hsz
  go_enter Try.func20, Try.ntmps20
  go_wp2_with (first
    | (go_at_call 18; refine (newT_calls w).mono ?_; rintro e w1 ⟨rfl, HS1, HB1⟩)
    | (go_at_call 19; refine (write_calls (w.heap.size + 1) w.heap.size g' [] lv ss w1 HS1.out (HL.out.later HB1.out) hne (by simpa using HSZ.out)).mono ?_; rintro e w2 ⟨rfl, hs2, hg2⟩; have HS2 := Lib.hid hs2; have HG2 := Lib.hid hg2; clear hs2 hg2)
    | (go_at_call 21; refine (summed_calls (w.heap.size + 1) w.heap.size _ w2 HS2.out (by simpa using HSZ.out)).mono ?_; rintro e w3 ⟨rfl, hb3⟩; have HB3 := Lib.hid hb3; clear hb3))
  go_ret
  refine ⟨by simp, ?_⟩
  have h1 := HB1.out
  have h2 : Below w.heap.size w w2 := h1.grown HG2.out h1.size (fun k hk => by injection hk with hk; omega)
  exact h2.trans (HB3.out.mono h2.size)
end Go.Proofs.Ytmhjocbnoppbbaa.Sha
