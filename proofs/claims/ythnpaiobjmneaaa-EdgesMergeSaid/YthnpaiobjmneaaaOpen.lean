/- Arguments opened: slices of truth values and integers, small arrays, an Ask. -/
import Derived.Test.YthnpaiobjmneaaaProg
import Derived.WalkKit
import Derived.OpenShut
import Derived.Deep.SlicePairs
import Derived.Deep.Grids
import Derived.Below
import Derived.Lib.Hide
namespace Go.Proofs.Ythnpaiobjmneaaa.Sha
open Go.RowKit Go.ChangeShapes Go.WideShapes
set_option linter.unusedVariables false
set_option linter.unusedSimpArgs false

def TR (w : World) (v : Value) (bs : List Bool) : Prop :=
  ∃ A c, v = .slice A bs.length c ∧ bs.length ≤ c ∧ c ≤ 9223372036854775807 ∧ (0 < bs.length → ∃ ad : Addr, A = some ad ∧ ∀ i, i < bs.length → w.cell? (ad.add i) = some (.bool (bs.getD i false)))
theorem TR.later {w w' : World} {v : Value} {bs : List Bool} (h : TR w v bs) (hb : Below w.heap.size w w') : TR w' v bs := by
  obtain ⟨A, c, hv, h1, h2, h3⟩ := h
  refine ⟨A, c, hv, h1, h2, fun h => ?_⟩
  obtain ⟨ad, ha, hc⟩ := h3 h
  exact ⟨ad, ha, fun i hi => (hb.cell (World.block_lt_of_cell? _ _ (hc i hi))).trans (hc i hi)⟩
theorem bools_open {H : Type} {enc : TypeId × Value → H} {P : Program} {W : World} {base : Nat} {held : Bool}
    {t e : TypeId} {d : DataW H} (hu : P.underlying t = some (.slice e)) (he : P.underlying e = some .bool) (hc : P.cellsOf e = 1) {a : Option Addr} {len cap : Nat} {cs : List Value} (hcs0 : cs = [.slice a len cap]) {fuel : Nat} {p : List MemPlace} (h : DataW.trod enc P W base (fun _ => true) held fuel t cs = some (d, p)) :
    ∃ bs, TR W (.slice a len cap) bs := by
  rcases Go.Deep.open_bools hu he hc h with ⟨hcs, hx⟩ | ⟨x, l, c, B, hcs, _, hl, hm, hx, hcell⟩
  · rw [hcs0] at hcs
    injection hcs with hcs _
    injection hcs with h1 h2 h3
    subst h1 h2 h3
    exact ⟨[], ⟨none, 0, rfl, Nat.le_refl _, by omega, fun h => by simp at h⟩⟩
  · rw [hcs0] at hcs
    injection hcs with hcs _
    injection hcs with h1 h2 h3
    subst h1 h2 h3
    refine ⟨(List.range len).map B, ⟨some x, cap, by simp, by simpa using hl, by simpa [maxLen] using hm, fun h => ⟨x, rfl, fun i hi => ?_⟩⟩⟩
    rw [List.length_map, List.length_range] at hi
    rw [hcell i (by omega)]
    simp [List.getD_eq_getElem?_getD, hi]

theorem u16_wf {a : Int} (h : (Lit.int .u16 a).wf = true) : 0 ≤ a ∧ a < 65536 := by
  simp [Lit.wf, IntKind.min, IntKind.max, IntKind.signed, IntKind.bits] at h; omega
theorem arr2_open {H : Type} {enc : TypeId × Value → H} {P : Program} {w : World} {base : Nat} {spare : Nat → Bool} {held : Bool} {r : Reach} {b0 : Nat} {t e : TypeId} {k : IntKind} {v : Value} {d : DataW H} {ps : List MemPlace}
    (ht : P.underlying t = some (.array 2 e)) (he : P.underlying e = some (.int k)) (hce : P.cellsOf e = 1) (hct : P.cellsOf t = 2) (hval : Value.okWide P w r b0 t v) (hd : DataW.Trod enc P w base spare held t v d ps) :
    ∃ x y, v = .agg #[.int k x, .int k y] ∧ (Lit.int k x).wf = true ∧ (Lit.int k y).wf = true := by
  have hv : ∃ cs, v = .agg cs := by
    unfold Value.okWide at hval
    rw [ht] at hval
    obtain ⟨cs, rfl, _⟩ := hval
    exact ⟨cs, rfl⟩
  obtain ⟨cs, rfl⟩ := hv
  obtain ⟨fuel, hf⟩ := hd
  obtain ⟨xs, m, -, -, hl, hn, hx⟩ := DataW.trod_array ht hf
  have x0 := hx 0 (by omega)
  have x1 := hx 1 (by omega)
  rw [hce] at x0 x1
  rw [List.getElem?_eq_getElem (show 0 < xs.length by omega)] at x0
  rw [List.getElem?_eq_getElem (show 1 < xs.length by omega)] at x1
  obtain ⟨n0, e0, -, w0⟩ := DataW.trod_int he x0
  obtain ⟨n1, e1, -, w1⟩ := DataW.trod_int he x1
  refine ⟨n0, n1, ?_, w0, w1⟩
  rw [hct] at hl
  obtain ⟨l⟩ := cs
  have hl' : l.length = 2 := hl
  have e0' : (l.drop (0 * 1)).take 1 = [.int k n0] := e0
  have e1' : (l.drop (1 * 1)).take 1 = [.int k n1] := e1
  match l, hl', e0', e1' with
  | [a, b], _, h0, h1 =>
    simp at h0 h1
    rw [h0, h1]
end Go.Proofs.Ythnpaiobjmneaaa.Sha
