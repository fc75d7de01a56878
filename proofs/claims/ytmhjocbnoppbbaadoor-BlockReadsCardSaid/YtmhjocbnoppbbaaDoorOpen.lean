/- Arguments opened: slices of bytes, arrays of two integers. -/
import Derived.Test.YtmhjocbnoppbbaaDoorShaM
import Derived.OpenShut
namespace Go.Proofs.YtmhjocbnoppbbaaDoor.Sha
open Go.RowKit Go.ChangeShapes Go.WideShapes
set_option linter.unusedVariables false
set_option linter.unusedSimpArgs false

theorem u8s_open {H : Type} {enc : TypeId × Value → H} {P : Program} {W : World} {base : Nat} {spare : Nat → Bool} {held : Bool} {t e : TypeId} {d : DataW H} (hu : P.underlying t = some (.slice e)) (he : P.underlying e = some (.int .u8)) (hc : P.cellsOf e = 1)
    {a : Option Addr} {len cap : Nat} {cs : List Value} (hcs0 : cs = [.slice a len cap]) {fuel : Nat} {p : List MemPlace} (h : DataW.trod enc P W base spare held fuel t cs = some (d, p)) :
    ∃ g bs, RB W g (.slice a len cap) bs := by
  rcases open_ints hu he hc h with ⟨hcs, hx⟩ | ⟨x, l, c, zs, hcs, _, hl, hm, hz, hx, hcell, hwz⟩
  · rw [hcs0] at hcs
    injection hcs with hcs _
    injection hcs with h1 h2 h3
    subst h1 h2 h3
    exact ⟨0, [], none, 0, 0, rfl, Nat.le_refl _, by omega, fun h => by simp at h⟩
  · rw [hcs0] at hcs
    injection hcs with hcs _
    injection hcs with h1 h2 h3
    subst h1 h2 h3
    have hzl : len ≤ zs.length := by rw [hz]; split <;> omega
    have hlen : ((zs.take len).map fun z => UInt8.ofNat z.toNat).length = len := by simp [hzl]
    clear hz hx
    obtain ⟨xb, xo, xs⟩ := x
    refine ⟨xb, (zs.take len).map fun z => UInt8.ofNat z.toNat, some ⟨xb, xo, xs⟩, cap, xo, by rw [hlen], by rw [hlen]; exact hl, by simpa [maxLen] using hm, fun h => ?_⟩
    rw [hlen] at h ⊢
    have c0 := hcell 0 (by omega)
    have hsp : xs = none := by
      cases xs with
      | none => rfl
      | some q =>
        exfalso
        simp only [Addr.add, World.cell?, if_pos] at c0
        split at c0 <;> simp at c0
    subst hsp
    refine ⟨rfl, ?_, fun i hi => ?_⟩
    · have := World.block_lt_of_cell? _ _ c0
      rw [Addr.add_block] at this
      exact this
    · have ci := hcell i (by omega)
      rw [show (⟨xb, xo, none⟩ : Addr).add i = ⟨xb, xo + i, none⟩ by unfold Addr.add; split <;> simp_all] at ci
      rw [ci]
      have hil : i < zs.length := by omega
      have hz : zs.getD i 0 = zs[i] := by simp [List.getD_eq_getElem?_getD, hil]
      have hw := hwz (zs[i]) (List.getElem_mem _)
      have hr : 0 ≤ zs[i] ∧ zs[i] < 256 := by simp [Lit.wf, IntKind.min, IntKind.max, IntKind.signed, IntKind.bits] at hw; omega
      have hb : byt ((zs.take len).map fun z => UInt8.ofNat z.toNat) i = (zs[i]).toNat := by
        unfold byt
        rw [List.getD_eq_getElem?_getD, List.getElem?_map, List.getElem?_take, if_pos hi, List.getElem?_eq_getElem hil]
        simp only [Option.map_some, Option.getD_some]
        rw [UInt8.toNat_ofNat']
        omega
      rw [hb, hz]
      congr 2
      omega

theorem u16_wf {a : Int} (h : (Lit.int .u16 a).wf = true) : 0 ≤ a ∧ a < 65536 := by
  simp [Lit.wf, IntKind.min, IntKind.max, IntKind.signed, IntKind.bits] at h; omega
theorem arr2_open {H : Type} {enc : TypeId × Value → H} {P : Program} {w : World} {base : Nat} {spare : Nat → Bool} {held : Bool} {r : Reach} {b0 : Nat} {t e : TypeId} {k : IntKind} {v : Value} {d : DataW H} {ps : List MemPlace}
    (ht : P.underlying t = some (.array 2 e)) (he : P.underlying e = some (.int k)) (hce : P.cellsOf e = 1) (hct : P.cellsOf t = 2) (hval : Value.okWide P w r b0 t v) (hd : DataW.Trod enc P w base spare held t v d ps) :
    ∃ x y, v = .agg #[.int k x, .int k y] ∧ (Lit.int k x).wf = true ∧ (Lit.int k y).wf = true := by
  have hv : ∃ cs, v = .agg cs := by
    unfold Value.okWide at hval
    rw [ht] at hval
    obtain ⟨cs, rfl, _⟩ := hval
    exact ⟨cs, rfl⟩
  obtain ⟨cs, rfl⟩ := hv
  obtain ⟨fuel, hf⟩ := hd
  obtain ⟨xs, m, -, -, hl, hn, hx⟩ := DataW.trod_array ht hf
  have x0 := hx 0 (by omega)
  have x1 := hx 1 (by omega)
  rw [hce] at x0 x1
  rw [List.getElem?_eq_getElem (show 0 < xs.length by omega)] at x0
  rw [List.getElem?_eq_getElem (show 1 < xs.length by omega)] at x1
  obtain ⟨n0, e0, -, w0⟩ := DataW.trod_int he x0
  obtain ⟨n1, e1, -, w1⟩ := DataW.trod_int he x1
  refine ⟨n0, n1, ?_, w0, w1⟩
  rw [hct] at hl
  obtain ⟨l⟩ := cs
  have hl' : l.length = 2 := hl
  have e0' : (l.drop (0 * 1)).take 1 = [.int k n0] := e0
  have e1' : (l.drop (1 * 1)).take 1 = [.int k n1] := e1
  match l, hl', e0', e1' with
  | [a, b], _, h0, h1 =>
    simp at h0 h1
    rw [h0, h1]
end Go.Proofs.YtmhjocbnoppbbaaDoor.Sha
