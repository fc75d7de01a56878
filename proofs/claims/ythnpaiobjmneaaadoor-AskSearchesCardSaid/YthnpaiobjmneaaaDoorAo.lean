/- Arguments opened: an Ask, two of them. -/
import Derived.Test.YthnpaiobjmneaaaDoorOpen
namespace Go.Proofs.YthnpaiobjmneaaaDoor.Sha
open Go.RowKit Go.ChangeShapes Go.WideShapes
set_option linter.unusedVariables false
set_option linter.unusedSimpArgs false
set_option maxRecDepth 100000
theorem ask_cells {H : Type} {enc : TypeId × Value → H} {W : World} {base : Nat} {spare : Nat → Bool} {held : Bool} {fuel : Nat} {cs : List Value} {x : DataW H × List MemPlace}
    (h : DataW.trod enc Tryd.prog W base spare held fuel 35 cs = some x) :
    ∃ a b c, cs = [.int .i64 a, .int .i64 b, .int .i64 c] ∧ (Lit.int .i64 a).wf = true ∧ (Lit.int .i64 b).wf = true ∧ (Lit.int .i64 c).wf = true := by
  have ht := Tryd.underlying35
  obtain ⟨xs, m, -, -, hl, hn, hx⟩ := DataW.trod_struct ht h
  have hn3 : xs.length = 3 := hn
  have x0 := hx 0 _ rfl
  have x1 := hx 1 _ rfl
  have x2 := hx 2 _ rfl
  rw [List.getElem?_eq_getElem (show 0 < xs.length by omega)] at x0
  rw [List.getElem?_eq_getElem (show 1 < xs.length by omega)] at x1
  rw [List.getElem?_eq_getElem (show 2 < xs.length by omega)] at x2
  obtain ⟨a, e0, -, w0⟩ := DataW.trod_int Tryd.underlying3 x0
  obtain ⟨b, e1, -, w1⟩ := DataW.trod_int Tryd.underlying3 x1
  obtain ⟨c, e2, -, w2⟩ := DataW.trod_int Tryd.underlying3 x2
  refine ⟨a, b, c, ?_, w0, w1, w2⟩
  rw [show Tryd.prog.cellsOf 35 = 3 by kernel_rfl] at hl
  have h1 : Tryd.prog.cellsOf 3 = 1 := by kernel_rfl
  have e0' : (cs.drop 0).take 1 = [.int .i64 a] := by rw [← h1]; exact e0
  have e1' : (cs.drop 1).take 1 = [.int .i64 b] := by rw [← h1]; exact e1
  have e2' : (cs.drop 2).take 1 = [.int .i64 c] := by rw [← h1]; exact e2
  match cs, hl, e0', e1', e2' with
  | [p, q, r], _, h0, h1, h2 =>
    simp at h0 h1 h2
    rw [h0, h1, h2]
theorem ask_open {H : Type} {enc : TypeId × Value → H} {W : World} {base : Nat} {spare : Nat → Bool} {held : Bool} {r : Reach} {b0 : Nat} {v : Value} {d : DataW H} {ps : List MemPlace}
    (hval : Value.okWide Tryd.prog W r b0 35 v) (hd : DataW.Trod enc Tryd.prog W base spare held 35 v d ps) :
    ∃ a b c, v = .agg #[.int .i64 a, .int .i64 b, .int .i64 c] ∧ (Lit.int .i64 a).wf = true ∧ (Lit.int .i64 b).wf = true ∧ (Lit.int .i64 c).wf = true := by
  have hv : ∃ cs, v = .agg cs := by
    unfold Value.okWide at hval
    rw [Tryd.underlying35] at hval
    obtain ⟨cs, rfl, _⟩ := hval
    exact ⟨cs, rfl⟩
  obtain ⟨⟨cs⟩, rfl⟩ := hv
  obtain ⟨fuel, hf⟩ := hd
  obtain ⟨a, b, c, e, w⟩ := ask_cells hf
  have e' : cs = [.int .i64 a, .int .i64 b, .int .i64 c] := e
  subst e'
  exact ⟨a, b, c, rfl, w⟩
end Go.Proofs.YthnpaiobjmneaaaDoor.Sha
