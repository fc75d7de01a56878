/- An argument of the type ladinglaw09.Claim, opened. -/
import Derived.Test.YtmhjocbnoppbbaaDoorShaM
import Derived.OpenShut
import Derived.SliceStrings
namespace Go.Proofs.YtmhjocbnoppbbaaDoor.Sha
open Go.RowKit Go.ChangeShapes Go.WideShapes
set_option linter.unusedVariables false
set_option linter.unusedSimpArgs false

theorem strs_read {H : Type} {enc : TypeId × Value → H} {P : Program} {W : World} {base : Nat} {spare : Nat → Bool} {held : Bool} {t e : TypeId} {d : DataW H} (hu : P.underlying t = some (.slice e)) (he : P.underlying e = some .string) (hc : P.cellsOf e = 1)
    {cs : List Value} {fuel : Nat} {p : List MemPlace} (h : DataW.trod enc P W base spare held fuel t cs = some (d, p)) :
    ∃ a len cap g ss, cs = [.slice a len cap] ∧ SR W g (.slice a len cap) ss := by
  rcases open_strings hu he hc h with ⟨hcs, hx⟩ | ⟨x, l, c, zs, hcs, _, hl, hm, hz, hx, hcell, hwz⟩
  · exact ⟨none, 0, 0, 0, [], hcs, none, 0, rfl, Nat.le_refl _, by omega, fun h => by simp at h⟩
  · have hlz : l ≤ zs.length := by rw [hz]; split <;> omega
    refine ⟨some x, l, c, x.block, zs.take l, hcs, some x, c, by rw [List.length_take, Nat.min_eq_left hlz], by rw [List.length_take]; omega, by simpa [maxLen] using hm, fun h => ⟨x, rfl, rfl, fun i hi => ?_⟩⟩
    rw [List.length_take] at hi
    rw [hcell i (by omega)]
    simp [List.getD_eq_getElem?_getD, List.getElem?_take_of_lt (show i < l by omega)]

set_option maxRecDepth 100000 in
theorem claim_open {H : Type} {enc : TypeId × Value → H} {W : World} {base : Nat} {spare : Nat → Bool} {held : Bool} {r : Reach} {b0 : Nat} {v : Value} {d : DataW H} {ps : List MemPlace}
    (hval : Value.okWide Tryd.prog W r b0 44 v) (hd : DataW.Trod enc Tryd.prog W base spare held 44 v d ps) :
    ∃ i s a len cap g ss, v = .agg #[.int .i64 i, .string s, .slice a len cap] ∧ (Lit.int .i64 i).wf = true ∧ SR W g (.slice a len cap) ss := by
  have ht := Tryd.underlying44
  have hv : ∃ cs, v = .agg cs := by
    unfold Value.okWide at hval
    rw [ht] at hval
    obtain ⟨cs, rfl, _⟩ := hval
    exact ⟨cs, rfl⟩
  obtain ⟨cs, rfl⟩ := hv
  obtain ⟨fuel, hf⟩ := hd
  obtain ⟨xs, m, -, -, hl, hn, hx⟩ := DataW.trod_struct ht hf
  have hn3 : xs.length = 3 := hn
  have x0 := hx 0 _ rfl
  have x1 := hx 1 _ rfl
  have x2 := hx 2 _ rfl
  rw [List.getElem?_eq_getElem (show 0 < xs.length by omega)] at x0
  rw [List.getElem?_eq_getElem (show 1 < xs.length by omega)] at x1
  rw [List.getElem?_eq_getElem (show 2 < xs.length by omega)] at x2
  obtain ⟨i, e0, -, w0⟩ := DataW.trod_int Tryd.underlying3 x0
  obtain ⟨s, e1, -, w1⟩ := DataW.trod_string Tryd.underlying9 x1
  obtain ⟨a, len, cap, g, ss, e2, hsr⟩ := strs_read Tryd.underlying22 Tryd.underlying9 (by kernel_rfl) x2
  refine ⟨i, s, a, len, cap, g, ss, ?_, w0, hsr⟩
  rw [show Tryd.prog.cellsOf 44 = 3 by kernel_rfl] at hl
  obtain ⟨l⟩ := cs
  have hl' : l.length = 3 := hl
  have e0' : (l.drop 0).take 1 = [.int .i64 i] := by
    have : Tryd.prog.cellsOf 3 = 1 := by kernel_rfl
    rw [← this]; exact e0
  have e1' : (l.drop 1).take 1 = [.string s] := by
    have : Tryd.prog.cellsOf 9 = 1 := by kernel_rfl
    rw [← this]; exact e1
  have e2' : (l.drop 2).take 1 = [.slice a len cap] := by
    have : Tryd.prog.cellsOf 22 = 1 := by kernel_rfl
    rw [← this]; exact e2
  match l, hl', e0', e1', e2' with
  | [a, b, c], _, h0, h1, h2 =>
    simp at h0 h1 h2
    rw [h0, h1, h2]
end Go.Proofs.YtmhjocbnoppbbaaDoor.Sha
