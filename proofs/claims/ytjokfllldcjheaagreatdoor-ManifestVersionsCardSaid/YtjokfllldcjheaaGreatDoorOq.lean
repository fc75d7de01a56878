/- Arguments opened: three small numbers in an array. -/
import Derived.Test.YtjokfllldcjheaaGreatDoorOpen
namespace Go.Proofs.YtjokfllldcjheaaGreatDoor.Sha
open Go.RowKit Go.ChangeShapes Go.WideShapes
set_option linter.unusedVariables false
set_option linter.unusedSimpArgs false
theorem arr3_open {H : Type} {enc : TypeId × Value → H} {P : Program} {w : World} {base : Nat} {spare : Nat → Bool} {held : Bool} {r : Reach} {b0 : Nat} {t e : TypeId} {k : IntKind} {v : Value} {d : DataW H} {ps : List MemPlace}
    (ht : P.underlying t = some (.array 3 e)) (he : P.underlying e = some (.int k)) (hce : P.cellsOf e = 1) (hct : P.cellsOf t = 3) (hval : Value.okWide P w r b0 t v) (hd : DataW.Trod enc P w base spare held t v d ps) :
    ∃ x y z, v = .agg #[.int k x, .int k y, .int k z] ∧ (Lit.int k x).wf = true ∧ (Lit.int k y).wf = true ∧ (Lit.int k z).wf = true := by
  have hv : ∃ cs, v = .agg cs := by
    unfold Value.okWide at hval
    rw [ht] at hval
    obtain ⟨cs, rfl, _⟩ := hval
    exact ⟨cs, rfl⟩
  obtain ⟨cs, rfl⟩ := hv
  obtain ⟨fuel, hf⟩ := hd
  obtain ⟨xs, m, -, -, hl, hn, hx⟩ := DataW.trod_array ht hf
  have x0 := hx 0 (by omega)
  have x1 := hx 1 (by omega)
  have x2 := hx 2 (by omega)
  rw [hce] at x0 x1 x2
  rw [List.getElem?_eq_getElem (show 0 < xs.length by omega)] at x0
  rw [List.getElem?_eq_getElem (show 1 < xs.length by omega)] at x1
  rw [List.getElem?_eq_getElem (show 2 < xs.length by omega)] at x2
  obtain ⟨n0, e0, -, w0⟩ := DataW.trod_int he x0
  obtain ⟨n1, e1, -, w1⟩ := DataW.trod_int he x1
  obtain ⟨n2, e2, -, w2⟩ := DataW.trod_int he x2
  refine ⟨n0, n1, n2, ?_, w0, w1, w2⟩
  rw [hct] at hl
  obtain ⟨l⟩ := cs
  have hl' : l.length = 3 := hl
  have e0' : (l.drop (0 * 1)).take 1 = [.int k n0] := e0
  have e1' : (l.drop (1 * 1)).take 1 = [.int k n1] := e1
  have e2' : (l.drop (2 * 1)).take 1 = [.int k n2] := e2
  match l, hl', e0', e1', e2' with
  | [a, b, c], _, h0, h1, h2 =>
    simp at h0 h1 h2
    rw [h0, h1, h2]
end Go.Proofs.YtjokfllldcjheaaGreatDoor.Sha
