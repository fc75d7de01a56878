/- An argument of the type api.Manifest, opened. -/
import Derived.Test.YtjokfllldcjheaaGreatTb
import Derived.Test.YtjokfllldcjheaaGreatShaM
import Derived.OpenShut
import Derived.SliceStrings
namespace Go.Proofs.YtjokfllldcjheaaGreat.Mn
open Go.RowKit Go.Proofs.YtjokfllldcjheaaGreat.Ed Go.Proofs.YtjokfllldcjheaaGreat.Tb Go.Proofs.YtjokfllldcjheaaGreat.Sha
set_option linter.unusedVariables false
set_option linter.unusedSimpArgs false
set_option maxRecDepth 100000
open Go.ChangeShapes Go.WideShapes Go.Deep in
/-- a slice of shards -/
theorem tabs_open {H : Type} {enc : TypeId × Value → H} {W : World} {base : Nat} {spare : Nat → Bool} {held : Bool} {d : DataW H}
    {a : Option Addr} {len cap : Nat} {cs : List Value} (hcs0 : cs = [.slice a len cap]) {fuel : Nat} {p : List MemPlace} (h : DataW.trod enc Tryz.prog W base spare held fuel 22 cs = some (d, p)) :
    ∃ g l, TBR W g (.slice a len cap) l ∧ ∀ e ∈ l, (-9223372036854775808 ≤ e.1 ∧ e.1 < 9223372036854775808) ∧ (-9223372036854775808 ≤ e.2 ∧ e.2 < 9223372036854775808) := by
  rcases open_slice_pairs Tryz.underlying22 Tryz.underlying34 (by kernel_rfl) rfl rfl (by kernel_rfl) (by kernel_rfl) h with ⟨hcs, hx⟩ | ⟨x, l, c, m, n, V0, V1, D0, D1, P0, P1, hcs, _, hl, hm, hmm, hx, hcell⟩
  · rw [hcs0] at hcs
    injection hcs with hcs _
    injection hcs with h1 h2 h3
    subst h1 h2 h3
    exact ⟨0, [], TBR.nil W, by simp⟩
  · rw [hcs0] at hcs
    injection hcs with hcs _
    injection hcs with h1 h2 h3
    subst h1 h2 h3
    have hlm : len ≤ m := by rw [hmm]; split <;> omega
    have hv : ∀ i, i < len → ∃ q : Int × Int, V0 i = .int .i64 q.1 ∧ V1 i = .int .i64 q.2 ∧ (Lit.int .i64 q.1).wf = true ∧ (Lit.int .i64 q.2).wf = true := by
      intro i hi
      obtain ⟨_, _, t0, t1⟩ := hcell i (by omega)
      obtain ⟨z0, e0, _, w0⟩ := DataW.trod_int Tryz.underlying3 t0
      obtain ⟨z1, e1, _, w1⟩ := DataW.trod_int Tryz.underlying3 t1
      injection e0 with e0 _
      injection e1 with e1 _
      exact ⟨(z0, z1), e0, e1, w0, w1⟩
    obtain ⟨q, hq⟩ := choose_lt hv
    have hlen : ((List.range len).map q).length = len := by simp
    obtain ⟨xb, xo, xs⟩ := x
    have hget : ∀ i, i < len → ((List.range len).map q).getD i (0, 0) = q i := fun i hi => by simp [List.getD_eq_getElem?_getD, hi]
    refine ⟨xb, (List.range len).map q, ⟨xo, some ⟨xb, xo, xs⟩, cap, by rw [hlen], by rw [hlen]; exact hl, by simpa [maxLen] using hm, fun h => ?_⟩, fun e he => ?_⟩
    · rw [hlen] at h ⊢
      obtain ⟨c0, _⟩ := hcell 0 (by omega)
      have hsp : xs = none := by
        cases xs with
        | none => rfl
        | some q =>
          exfalso
          simp only [Addr.add, World.cell?, if_pos] at c0
          split at c0 <;> simp at c0
      subst hsp
      refine ⟨rfl, ?_, fun i hi => ?_⟩
      · have := World.block_lt_of_cell? _ _ c0
        rw [add_none] at this
        exact this
      · obtain ⟨c0, c1, _, _⟩ := hcell i (by omega)
        obtain ⟨q0, q1, _, _⟩ := hq i hi
        rw [add_none] at c0 c1
        rw [hget i hi, Nat.add_assoc, c0, c1, q0, q1]
        exact ⟨rfl, rfl⟩
    · obtain ⟨i, hi, rfl⟩ := List.mem_map.1 he
      obtain ⟨_, _, w0, w1⟩ := hq i (List.mem_range.1 hi)
      have b0 := bounds_i64 w0
      have b1 := bounds_i64 w1
      exact ⟨by omega, by omega⟩
def in64 (x : Int) : Prop := -9223372036854775808 ≤ x ∧ x ≤ 9223372036854775807
open Go.ChangeShapes Go.WideShapes Go.Deep in
theorem man_open {H : Type} {enc : TypeId × Value → H} {W : World} {base : Nat} {spare : Nat → Bool} {held : Bool} {r : Reach} {b0 : Nat} {v : Value} {d : DataW H} {ps : List MemPlace}
    (hval : Value.okWide Tryz.prog W r b0 24 v) (hd : DataW.Trod enc Tryz.prog W base spare held 24 v d ps) :
    ∃ i0 i1 i2 a len cap i4 s g l, v = .agg #[.int .i64 i0, .int .i64 i1, .int .i64 i2, .slice a len cap, .int .i64 i4, .string s] ∧ in64 i0 ∧ in64 i1 ∧ in64 i2 ∧ in64 i4 ∧ TBR W g (.slice a len cap) l ∧ ∀ e ∈ l, in64 e.1 ∧ in64 e.2 := by
  have ht := Tryz.underlying24
  have hv : ∃ cs, v = .agg cs := by
    unfold Value.okWide at hval
    rw [ht] at hval
    obtain ⟨cs, rfl, _⟩ := hval
    exact ⟨cs, rfl⟩
  obtain ⟨cs, rfl⟩ := hv
  obtain ⟨fuel, hf⟩ := hd
  obtain ⟨xs, m, -, -, hl, hn, hx⟩ := DataW.trod_struct ht hf
  have hn6 : xs.length = 6 := hn
  have x0 := hx 0 _ rfl
  have x1 := hx 1 _ rfl
  have x2 := hx 2 _ rfl
  have x3 := hx 3 _ rfl
  have x4 := hx 4 _ rfl
  have x5 := hx 5 _ rfl
  rw [List.getElem?_eq_getElem (show 0 < xs.length by omega)] at x0
  rw [List.getElem?_eq_getElem (show 1 < xs.length by omega)] at x1
  rw [List.getElem?_eq_getElem (show 2 < xs.length by omega)] at x2
  rw [List.getElem?_eq_getElem (show 3 < xs.length by omega)] at x3
  rw [List.getElem?_eq_getElem (show 4 < xs.length by omega)] at x4
  rw [List.getElem?_eq_getElem (show 5 < xs.length by omega)] at x5
  obtain ⟨i0, e0, -, w0⟩ := DataW.trod_int Tryz.underlying3 x0
  obtain ⟨i1, e1, -, w1⟩ := DataW.trod_int Tryz.underlying3 x1
  obtain ⟨i2, e2, -, w2⟩ := DataW.trod_int Tryz.underlying3 x2
  obtain ⟨i4, e4, -, w4⟩ := DataW.trod_int Tryz.underlying3 x4
  obtain ⟨s, e5, -, w5⟩ := DataW.trod_string Tryz.underlying9 x5
  rw [show Tryz.prog.cellsOf 24 = 6 by kernel_rfl] at hl
  obtain ⟨ls⟩ := cs
  have hl' : ls.length = 6 := hl
  have ci : Tryz.prog.cellsOf 3 = 1 := by kernel_rfl
  have cs' : Tryz.prog.cellsOf 9 = 1 := by kernel_rfl
  have ct : Tryz.prog.cellsOf 22 = 1 := by kernel_rfl
  have f0 : (ls.drop 0).take 1 = [.int .i64 i0] := by rw [← ci]; exact e0
  have f1 : (ls.drop 1).take 1 = [.int .i64 i1] := by rw [← ci]; exact e1
  have f2 : (ls.drop 2).take 1 = [.int .i64 i2] := by rw [← ci]; exact e2
  have f4 : (ls.drop 4).take 1 = [.int .i64 i4] := by rw [← ci]; exact e4
  have f5 : (ls.drop 5).take 1 = [.string s] := by rw [← cs']; exact e5
  have hu : ∃ a len cap, (ls.drop 3).take 1 = [.slice a len cap] := by
    have h := open_slice_pairs Tryz.underlying22 Tryz.underlying34 (by kernel_rfl) rfl rfl (by kernel_rfl) (by kernel_rfl) x3
    rw [← ct]
    rcases h with ⟨hcs, hx⟩ | ⟨x, l, c, m, n, V0, V1, D0, D1, P0, P1, hcs, -⟩
    · exact ⟨_, _, _, hcs⟩
    · exact ⟨_, _, _, hcs⟩
  obtain ⟨a, len, cap, f3⟩ := hu
  obtain ⟨g, l, hr, hb⟩ := tabs_open (by rw [← f3, ← ct]; rfl) x3
  refine ⟨i0, i1, i2, a, len, cap, i4, s, g, l, ?_, ?_, ?_, ?_, ?_, hr, fun e he => ?_⟩
  · match ls, hl', f0, f1, f2, f3, f4, f5 with
    | [a0, a1, a2, a3, a4, a5], _, h0, h1, h2, h3, h4, h5 =>
      simp at h0 h1 h2 h3 h4 h5
      rw [h0, h1, h2, h3, h4, h5]
  · have := bounds_i64 w0; unfold in64; omega
  · have := bounds_i64 w1; unfold in64; omega
  · have := bounds_i64 w2; unfold in64; omega
  · have := bounds_i64 w4; unfold in64; omega
  · have := hb e he; unfold in64; omega
end Go.Proofs.YtjokfllldcjheaaGreat.Mn
