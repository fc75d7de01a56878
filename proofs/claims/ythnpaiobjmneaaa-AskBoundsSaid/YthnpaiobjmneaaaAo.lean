/- Arguments opened: an Ask, two of them. -/
import Derived.Test.YthnpaiobjmneaaaOpen
namespace Go.Proofs.Ythnpaiobjmneaaa.Sha
open Go.RowKit Go.ChangeShapes Go.WideShapes
set_option linter.unusedVariables false
set_option linter.unusedSimpArgs false
set_option maxRecDepth 100000
theorem ask_cells {H : Type} {enc : TypeId × Value → H} {W : World} {base : Nat} {spare : Nat → Bool} {held : Bool} {fuel : Nat} {cs : List Value} {x : DataW H × List MemPlace}
    (h : DataW.trod enc Try.prog W base spare held fuel 71 cs = some x) :
    ∃ a b c, cs = [.int .i64 a, .int .i64 b, .int .i64 c] ∧ (Lit.int .i64 a).wf = true ∧ (Lit.int .i64 b).wf = true ∧ (Lit.int .i64 c).wf = true := by
  have ht := Try.underlying71
  obtain ⟨xs, m, -, -, hl, hn, hx⟩ := DataW.trod_struct ht h
  have hn3 : xs.length = 3 := hn
  have x0 := hx 0 _ rfl
  have x1 := hx 1 _ rfl
  have x2 := hx 2 _ rfl
  rw [List.getElem?_eq_getElem (show 0 < xs.length by omega)] at x0
  rw [List.getElem?_eq_getElem (show 1 < xs.length by omega)] at x1
  rw [List.getElem?_eq_getElem (show 2 < xs.length by omega)] at x2
  obtain ⟨a, e0, -, w0⟩ := DataW.trod_int Try.underlying3 x0
  obtain ⟨b, e1, -, w1⟩ := DataW.trod_int Try.underlying3 x1
  obtain ⟨c, e2, -, w2⟩ := DataW.trod_int Try.underlying3 x2
  refine ⟨a, b, c, ?_, w0, w1, w2⟩
  rw [show Try.prog.cellsOf 71 = 3 by kernel_rfl] at hl
  have h1 : Try.prog.cellsOf 3 = 1 := by kernel_rfl
  have e0' : (cs.drop 0).take 1 = [.int .i64 a] := by rw [← h1]; exact e0
  have e1' : (cs.drop 1).take 1 = [.int .i64 b] := by rw [← h1]; exact e1
  have e2' : (cs.drop 2).take 1 = [.int .i64 c] := by rw [← h1]; exact e2
  match cs, hl, e0', e1', e2' with
  | [p, q, r], _, h0, h1, h2 =>
    simp at h0 h1 h2
    rw [h0, h1, h2]
theorem ask_open {H : Type} {enc : TypeId × Value → H} {W : World} {base : Nat} {spare : Nat → Bool} {held : Bool} {r : Reach} {b0 : Nat} {v : Value} {d : DataW H} {ps : List MemPlace}
    (hval : Value.okWide Try.prog W r b0 71 v) (hd : DataW.Trod enc Try.prog W base spare held 71 v d ps) :
    ∃ a b c, v = .agg #[.int .i64 a, .int .i64 b, .int .i64 c] ∧ (Lit.int .i64 a).wf = true ∧ (Lit.int .i64 b).wf = true ∧ (Lit.int .i64 c).wf = true := by
  have hv : ∃ cs, v = .agg cs := by
    unfold Value.okWide at hval
    rw [Try.underlying71] at hval
    obtain ⟨cs, rfl, _⟩ := hval
    exact ⟨cs, rfl⟩
  obtain ⟨⟨cs⟩, rfl⟩ := hv
  obtain ⟨fuel, hf⟩ := hd
  obtain ⟨a, b, c, e, w⟩ := ask_cells hf
  have e' : cs = [.int .i64 a, .int .i64 b, .int .i64 c] := e
  subst e'
  exact ⟨a, b, c, rfl, w⟩
theorem ask2_open {H : Type} {enc : TypeId × Value → H} {W : World} {base : Nat} {spare : Nat → Bool} {held : Bool} {r : Reach} {b0 : Nat} {v : Value} {d : DataW H} {ps : List MemPlace}
    (hval : Value.okWide Try.prog W r b0 72 v) (hd : DataW.Trod enc Try.prog W base spare held 72 v d ps) :
    ∃ a b c a' b' c', v = .agg #[.int .i64 a, .int .i64 b, .int .i64 c, .int .i64 a', .int .i64 b', .int .i64 c'] ∧ ((Lit.int .i64 a).wf = true ∧ (Lit.int .i64 b).wf = true ∧ (Lit.int .i64 c).wf = true) ∧ (Lit.int .i64 a').wf = true ∧ (Lit.int .i64 b').wf = true ∧ (Lit.int .i64 c').wf = true := by
  have ht := Try.underlying72
  have hv : ∃ cs, v = .agg cs := by
    unfold Value.okWide at hval
    rw [ht] at hval
    obtain ⟨cs, rfl, _⟩ := hval
    exact ⟨cs, rfl⟩
  obtain ⟨⟨cs⟩, rfl⟩ := hv
  obtain ⟨fuel, hf⟩ := hd
  obtain ⟨xs, m, -, -, hl, hn, hx⟩ := DataW.trod_array ht hf
  have x0 := hx 0 (by omega)
  have x1 := hx 1 (by omega)
  rw [show Try.prog.cellsOf 71 = 3 by kernel_rfl] at x0 x1
  rw [List.getElem?_eq_getElem (show 0 < xs.length by omega)] at x0
  rw [List.getElem?_eq_getElem (show 1 < xs.length by omega)] at x1
  obtain ⟨a, b, c, e0, w0⟩ := ask_cells x0
  obtain ⟨a', b', c', e1, w1⟩ := ask_cells x1
  rw [show Try.prog.cellsOf 72 = 6 by kernel_rfl] at hl
  have hl' : cs.length = 6 := hl
  have e0' : (cs.drop 0).take 3 = [.int .i64 a, .int .i64 b, .int .i64 c] := e0
  have e1' : (cs.drop 3).take 3 = [.int .i64 a', .int .i64 b', .int .i64 c'] := e1
  refine ⟨a, b, c, a', b', c', ?_, w0, w1⟩
  match cs, hl', e0', e1' with
  | [p, q, r, p', q', r'], _, h0, h1 =>
    simp at h0 h1
    rw [h0.1, h0.2.1, h0.2.2, h1.1, h1.2.1, h1.2.2]
end Go.Proofs.Ythnpaiobjmneaaa.Sha
