/- Arguments opened: slices of truth values and integers, small arrays, an Ask. -/
import Derived.Test.YtjokfllldcjheaaGreatDoorProg
import Derived.WalkKit
import Derived.OpenShut
import Derived.Deep.SlicePairs
import Derived.Deep.Grids
import Derived.Below
import Derived.Lib.Hide
namespace Go.Proofs.YtjokfllldcjheaaGreatDoor.Sha
open Go.RowKit Go.ChangeShapes Go.WideShapes
set_option linter.unusedVariables false
set_option linter.unusedSimpArgs false

def TR (w : World) (v : Value) (bs : List Bool) : Prop :=
  ∃ A c, v = .slice A bs.length c ∧ bs.length ≤ c ∧ c ≤ 9223372036854775807 ∧ (0 < bs.length → ∃ ad : Addr, A = some ad ∧ ∀ i, i < bs.length → w.cell? (ad.add i) = some (.bool (bs.getD i false)))
theorem TR.later {w w' : World} {v : Value} {bs : List Bool} (h : TR w v bs) (hb : Below w.heap.size w w') : TR w' v bs := by
  obtain ⟨A, c, hv, h1, h2, h3⟩ := h
  refine ⟨A, c, hv, h1, h2, fun h => ?_⟩
  obtain ⟨ad, ha, hc⟩ := h3 h
  exact ⟨ad, ha, fun i hi => (hb.cell (World.block_lt_of_cell? _ _ (hc i hi))).trans (hc i hi)⟩
theorem bools_open {H : Type} {enc : TypeId × Value → H} {P : Program} {W : World} {base : Nat} {held : Bool}
    {t e : TypeId} {d : DataW H} (hu : P.underlying t = some (.slice e)) (he : P.underlying e = some .bool) (hc : P.cellsOf e = 1) {a : Option Addr} {len cap : Nat} {cs : List Value} (hcs0 : cs = [.slice a len cap]) {fuel : Nat} {p : List MemPlace} (h : DataW.trod enc P W base (fun _ => true) held fuel t cs = some (d, p)) :
    ∃ bs, TR W (.slice a len cap) bs := by
  rcases Go.Deep.open_bools hu he hc h with ⟨hcs, hx⟩ | ⟨x, l, c, B, hcs, _, hl, hm, hx, hcell⟩
  · rw [hcs0] at hcs
    injection hcs with hcs _
    injection hcs with h1 h2 h3
    subst h1 h2 h3
    exact ⟨[], ⟨none, 0, rfl, Nat.le_refl _, by omega, fun h => by simp at h⟩⟩
  · rw [hcs0] at hcs
    injection hcs with hcs _
    injection hcs with h1 h2 h3
    subst h1 h2 h3
    refine ⟨(List.range len).map B, ⟨some x, cap, by simp, by simpa using hl, by simpa [maxLen] using hm, fun h => ⟨x, rfl, fun i hi => ?_⟩⟩⟩
    rw [List.length_map, List.length_range] at hi
    rw [hcell i (by omega)]
    simp [List.getD_eq_getElem?_getD, hi]

theorem u16_wf {a : Int} (h : (Lit.int .u16 a).wf = true) : 0 ≤ a ∧ a < 65536 := by
  simp [Lit.wf, IntKind.min, IntKind.max, IntKind.signed, IntKind.bits] at h; omega
/-- v is a slice, in block g, that reads as these numbers of a kind -/
def UR (w : World) (k : IntKind) (g : Nat) (v : Value) (zs : List Int) : Prop :=
  ∃ A c o, v = .slice A zs.length c ∧ zs.length ≤ c ∧ c ≤ 9223372036854775807 ∧ (0 < zs.length → A = some ⟨g, o, none⟩ ∧ g < w.heap.size ∧ ∀ i, i < zs.length → w.cell? ⟨g, o + i, none⟩ = some (.int k (zs.getD i 0)))
theorem UR.later {w w' : World} {k : IntKind} {g : Nat} {v : Value} {zs : List Int} (h : UR w k g v zs) (hb : Below w.heap.size w w') : UR w' k g v zs := by
  obtain ⟨A, c, o, hv, h1, h2, h3⟩ := h
  refine ⟨A, c, o, hv, h1, h2, fun h => ?_⟩
  obtain ⟨ha, hl, hc⟩ := h3 h
  exact ⟨ha, Nat.lt_of_lt_of_le hl hb.size, fun i hi => (hb.cell (p := ⟨g, o + i, none⟩) hl).trans (hc i hi)⟩
theorem ints_open {H : Type} {enc : TypeId × Value → H} {P : Program} {W : World} {base : Nat} {spare : Nat → Bool} {held : Bool} {t e : TypeId} {k : IntKind} {d : DataW H} (hu : P.underlying t = some (.slice e)) (he : P.underlying e = some (.int k)) (hc : P.cellsOf e = 1)
    {a : Option Addr} {len cap : Nat} {cs : List Value} (hcs0 : cs = [.slice a len cap]) {fuel : Nat} {p : List MemPlace} (h : DataW.trod enc P W base spare held fuel t cs = some (d, p)) :
    ∃ g zs, UR W k g (.slice a len cap) zs ∧ ∀ z ∈ zs, (Lit.int k z).wf = true := by
  rcases open_ints hu he hc h with ⟨hcs, hx⟩ | ⟨x, l, c, zs, hcs, _, hl, hm, hz, hx, hcell, hwz⟩
  · rw [hcs0] at hcs
    injection hcs with hcs _
    injection hcs with h1 h2 h3
    subst h1 h2 h3
    exact ⟨0, [], ⟨none, 0, 0, rfl, Nat.le_refl _, by omega, fun h => by simp at h⟩, by simp⟩
  · rw [hcs0] at hcs
    injection hcs with hcs _
    injection hcs with h1 h2 h3
    subst h1 h2 h3
    have hzl : len ≤ zs.length := by rw [hz]; split <;> omega
    have hlen : (zs.take len).length = len := by simp [hzl]
    clear hz hx
    obtain ⟨xb, xo, xs⟩ := x
    refine ⟨xb, zs.take len, ⟨some ⟨xb, xo, xs⟩, cap, xo, by rw [hlen], by rw [hlen]; exact hl, by simpa [maxLen] using hm, fun h => ?_⟩, fun z hz => hwz z (List.mem_of_mem_take hz)⟩
    rw [hlen] at h ⊢
    have c0 := hcell 0 (by omega)
    have hsp : xs = none := by
      cases xs with
      | none => rfl
      | some q =>
        exfalso
        simp only [Addr.add, World.cell?, if_pos] at c0
        split at c0 <;> simp at c0
    subst hsp
    refine ⟨rfl, ?_, fun i hi => ?_⟩
    · have := World.block_lt_of_cell? _ _ c0
      rw [show (⟨xb, xo, none⟩ : Addr).add 0 = ⟨xb, xo + 0, none⟩ by unfold Addr.add; split <;> simp_all] at this
      exact this
    · have ci := hcell i (by omega)
      rw [show (⟨xb, xo, none⟩ : Addr).add i = ⟨xb, xo + i, none⟩ by unfold Addr.add; split <;> simp_all] at ci
      rw [ci]
      simp [List.getD_eq_getElem?_getD, List.getElem?_take, hi]
theorem u16s_open {H : Type} {enc : TypeId × Value → H} {P : Program} {W : World} {base : Nat} {spare : Nat → Bool} {held : Bool} {t e : TypeId} {d : DataW H} (hu : P.underlying t = some (.slice e)) (he : P.underlying e = some (.int .u16)) (hc : P.cellsOf e = 1)
    {a : Option Addr} {len cap : Nat} {cs : List Value} (hcs0 : cs = [.slice a len cap]) {fuel : Nat} {p : List MemPlace} (h : DataW.trod enc P W base spare held fuel t cs = some (d, p)) :
    ∃ g zs, UR W .u16 g (.slice a len cap) zs ∧ ∀ z ∈ zs, 0 ≤ z ∧ z < 65536 := by
  obtain ⟨g, zs, h1, h2⟩ := ints_open hu he hc hcs0 h
  exact ⟨g, zs, h1, fun z hz => u16_wf (h2 z hz)⟩
theorem arr2_open {H : Type} {enc : TypeId × Value → H} {P : Program} {w : World} {base : Nat} {spare : Nat → Bool} {held : Bool} {r : Reach} {b0 : Nat} {t e : TypeId} {k : IntKind} {v : Value} {d : DataW H} {ps : List MemPlace}
    (ht : P.underlying t = some (.array 2 e)) (he : P.underlying e = some (.int k)) (hce : P.cellsOf e = 1) (hct : P.cellsOf t = 2) (hval : Value.okWide P w r b0 t v) (hd : DataW.Trod enc P w base spare held t v d ps) :
    ∃ x y, v = .agg #[.int k x, .int k y] ∧ (Lit.int k x).wf = true ∧ (Lit.int k y).wf = true := by
  have hv : ∃ cs, v = .agg cs := by
    unfold Value.okWide at hval
    rw [ht] at hval
    obtain ⟨cs, rfl, _⟩ := hval
    exact ⟨cs, rfl⟩
  obtain ⟨cs, rfl⟩ := hv
  obtain ⟨fuel, hf⟩ := hd
  obtain ⟨xs, m, -, -, hl, hn, hx⟩ := DataW.trod_array ht hf
  have x0 := hx 0 (by omega)
  have x1 := hx 1 (by omega)
  rw [hce] at x0 x1
  rw [List.getElem?_eq_getElem (show 0 < xs.length by omega)] at x0
  rw [List.getElem?_eq_getElem (show 1 < xs.length by omega)] at x1
  obtain ⟨n0, e0, -, w0⟩ := DataW.trod_int he x0
  obtain ⟨n1, e1, -, w1⟩ := DataW.trod_int he x1
  refine ⟨n0, n1, ?_, w0, w1⟩
  rw [hct] at hl
  obtain ⟨l⟩ := cs
  have hl' : l.length = 2 := hl
  have e0' : (l.drop (0 * 1)).take 1 = [.int k n0] := e0
  have e1' : (l.drop (1 * 1)).take 1 = [.int k n1] := e1
  match l, hl', e0', e1' with
  | [a, b], _, h0, h1 =>
    simp at h0 h1
    rw [h0, h1]
end Go.Proofs.YtjokfllldcjheaaGreatDoor.Sha
