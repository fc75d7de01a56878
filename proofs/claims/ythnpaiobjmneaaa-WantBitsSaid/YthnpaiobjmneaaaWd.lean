/- want: Bits; the calls on no state. -/
import Derived.Test.YthnpaiobjmneaaaWc
import Derived.OwnWalk
import Derived.BigRegion
namespace Go.Proofs.Ythnpaiobjmneaaa.Wa
open Go.RowKit Go.Maps
set_option linter.unusedVariables false
set_option linter.unusedSimpArgs false

/-- a row of bytes of the call's own, told by its cells -/
def u8V (b : UInt8) : Value := .int .u8 (b.toNat : Int)
def OY (w : World) (base : Nat) (v : Value) (bs : List UInt8) : Prop := w.ownsRow base 5 1 v bs.length (bs.map u8V)
theorem infoU8 : (Try.prog.info? 5).map (fun i => (i.zero, i.size, i.bytes)) = some (some (.int .u8 0), 1, 1) := by kernel_rfl
theorem madeU8 (n : Nat) : (madeCells (Value.cells (.int .u8 0)) (n * 1)).toList = (List.replicate n (0 : UInt8)).map u8V := by
  rw [Nat.mul_one, show Value.cells (.int .u8 0) = #[.int .u8 0] from rfl, toList_madeCells_one, List.map_replicate]
  rfl
theorem OY.at {w : World} {base g cap L : Nat} {bs : List UInt8} (h : OY w base (.slice (some ⟨g, 0, none⟩) L cap) bs) (hL : bs.length = L) (i : Nat) (hi : i < L) :
    w.cell? ⟨g, i, none⟩ = some (.int .u8 ((bs.getD i 0).toNat : Int)) ∧ w.frozen? ⟨g, i, none⟩ = false := by
  subst hL
  refine ⟨?_, World.ownsRow.frozenAt h _⟩
  rw [World.ownsRow.cellAt h i (by omega)]
  simp [u8V, List.getD_eq_getElem?_getD, hi]
theorem OY.set {w : World} {base g cap L : Nat} {bs : List UInt8} (h : OY w base (.slice (some ⟨g, 0, none⟩) L cap) bs) (hL : bs.length = L) (i : Nat) (b : UInt8) :
    OY (w.setCell ⟨g, i, none⟩ (.int .u8 (b.toNat : Int))) base (.slice (some ⟨g, 0, none⟩) L cap) (bs.set i b) ∧ w.grownBy (w.setCell ⟨g, i, none⟩ (.int .u8 (b.toNat : Int))) (some g) := by
  subst hL
  obtain ⟨h1, g1⟩ := World.ownsRow.stored h i (u8V b)
  refine ⟨?_, g1⟩
  unfold OY
  rw [List.length_set, List.map_set]
  exact h1
theorem pow_small : ∀ q : Nat, q < 8 → (2 : Int) ^ q % 256 = ((2 ^ q : Nat) : Int) := by decide
set_option maxHeartbeats 4000000 in
set_option maxRecDepth 100000 in
theorem bits_calls (p mb ab : Nat) (k t : Int) (M A : List Int) (T : Int → Int) (n : Int) (m : Nat) (w : World) (h : WS w p mb ab k t M A T) (hm : min (max n 0) 65536 = (m : Int)) :
    Calls Try.prog 27 #[.pointer (some ⟨p, 0, none⟩), .int .i64 n] w fun e w' => ∃ bs : List UInt8, e = .returned (.string ⟨bs.toArray⟩) ∧ BitsAre bs M m ((m + 7) / 8) ∧ Below w.heap.size w w' := by
  have HW := Lib.hid h
  obtain ⟨i0, hi, hzz⟩ := Option.map_eq_some_iff.1 infoU8
  simp only [Prod.mk.injEq] at hzz
  obtain ⟨hz0, hz1, hz2⟩ := hzz
  obtain ⟨L, hL⟩ : ∃ L, (m + 7) / 8 = L := ⟨_, rfl⟩
  have hm2 : m ≤ 65536 := by omega
  have q1 : ((m : Int) + 7) / 8 = (L : Int) := by omega
  rw [hL]
  have HL := Lib.hid hL
  have hpl := h.lt
  have hmk := run_make (P := Try.prog) w 95 5 i0 (.int .u8 0) Try.underlying95 hi hz0 .i64 .i64 (L : Int) (L : Int) (by omega) (Int.le_refl _) (by rw [hz2]; omega) (by omega)
  rw [hz1, Int.toNat_natCast] at hmk
  have hO1 := (World.ownsRow_lit (e := 5) (size := 1) (base := w.heap.size) w (madeCells (Value.cells (.int .u8 0)) (L * 1)) L (Nat.le_refl _) (by simp only [maxLen]; omega) (size_madeCells _ _))
  rw [madeU8] at hO1
  obtain ⟨C, hC⟩ : ∃ C, madeCells (Value.cells (.int .u8 0)) (L * 1) = C := ⟨_, rfl⟩
  rw [hC] at hmk hO1
  have HO1 : Hid (OY (w.alloc (.cells C 5)) w.heap.size (.slice (some ⟨w.heap.size, 0, none⟩) L L) (List.replicate L 0)) := Lib.hid (by
    unfold OY
    rw [List.length_replicate]
    exact hO1)
  clear h hL hC hO1 hi hz0 hz1 hz2
  go_enter Try.func27, Try.ntmps27
  go_upto_region 6 with (fail)
  clear hmk q1
  obtain ⟨g, hg⟩ : ∃ g, w.heap.size = g := ⟨_, rfl⟩
  have HG := Lib.hid hg
  have HB1 : Hid (Below w.heap.size w (w.alloc (.cells C 5))) := Lib.hid ((Below.refl _ w).alloc (Nat.le_refl _) _)
  generalize w.alloc (.cells C 5) = w1 at *
  rw [hg] at HO1 HB1 ⊢
  clear hg
  go_loopw [17] (fun x wz => ∃ (kk : Nat) (bs : List UInt8), x = .int .i64 (kk : Int) ∧ kk ≤ m ∧ Hid (OY wz g (.slice (some ⟨g, 0, none⟩) L L) bs) ∧ Hid (BitsAre bs M kk L) ∧ Hid (Below g w wz)) (fun x _ => m - (intOf x).toNat)
  case atStart => exact ⟨0, _, rfl, by omega, HO1, Lib.hid (BitsAre.zero M L), HB1⟩
  case round =>
    obtain ⟨kk, bs, rfl, hk, HO, HBI, HB⟩ := hrel
    have HBw : Hid (Below w.heap.size w wr) := Lib.hid (by rw [HG.out]; exact HB.out)
    by_cases hlt : kk < m
    · have hws := HW.out.later HBw.out
      have hlk := hws.bm.look (kk : Int) (by unfold wfI; omega)
      obtain ⟨⟨d0, d1, d2, d3⟩, _⟩ := hws
      have h8 : kk / 8 < L := by have := HL.out; omega
      obtain ⟨c0, f0⟩ := HO.out.at HBI.out.len (kk / 8) h8
      have hob := or_bit (bs.getD (kk / 8) 0).toNat (kk % 8) (UInt8.toNat_lt _) (by omega)
      obtain ⟨b, hb⟩ : ∃ b, (bs.getD (kk / 8) 0).toNat = b := ⟨_, rfl⟩
      rw [hb] at c0 hob
      have HOB := Lib.hid hob
      have HBB := Lib.hid hb
      have b256 : b < 256 := by rw [← hb]; exact UInt8.toNat_lt _
      have i0 : (0 : Int) ≤ (kk : Int) / 8 := by omega
      have i1 : (kk : Int) / 8 < (L : Int) := by omega
      clear hob hb
      by_cases hin : (kk : Int) ∈ M
      · rw [decide_eq_true hin] at hlk
        have HIN := Lib.hid hin
        clear hin
        go_upto_region 9 with (fail)
        clear hlk
        go_region
        go_wp2
        go_roundw
        case rel =>
          obtain ⟨e1, e2, -⟩ := HOB.out
          have e3 : ((UInt8.ofNat (b ||| 2 ^ (kk % 8))).toNat : Int) = bits BinOp.or IntKind.u8 (b : Int) ((2 : Int) ^ (kk % 8) % 256) := by
            rw [pow_small _ (by omega), e1, UInt8.toNat_ofNat', Nat.mod_eq_of_lt e2]
          have hs := HO.out.set HBI.out.len (kk / 8) (UInt8.ofNat (b ||| 2 ^ (kk % 8)))
          rw [e3] at hs
          have hp := HBI.out.put HIN.out (by have := HL.out; omega)
          rw [HBB.out] at hp
          exact ⟨kk + 1, _, by go_num, by omega, Lib.hid hs.1, Lib.hid hp, Lib.hid ((HB.out.grown hs.2 (by have := HBw.out.size; have := HG.out; omega) (by simp)).trans (drewN_below _ _ 1))⟩
        case measure => simp [intOf]; omega
      · rw [decide_eq_false hin] at hlk
        have HIN := Lib.hid hin
        clear hin
        go_wp2
        go_roundw
        case rel => exact ⟨kk + 1, bs, by go_num, by omega, HO, Lib.hid (HBI.out.skip HIN.out), HB⟩
        case measure => simp [intOf]; omega
    · obtain rfl : m = kk := by omega
      have hcv : (convert 95 9 (.slice (some ⟨g, 0, none⟩) L L)).run Try.prog wr = .ok (.string ⟨bs.toArray⟩) wr := by
        have := run_convert_bytes_back (P := Try.prog) wr 95 9 5 ⟨g, 0, none⟩ L bs Try.underlying95 Try.underlying5 Try.underlying9 (fun j hj => by
          rw [add_none, Nat.zero_add, (HO.out.at HBI.out.len j (by rw [← HBI.out.len]; exact hj)).1]
          simp [List.getD_eq_getElem?_getD, hj])
        rwa [HBI.out.len] at this
      go_wp2
      go_ret
      exact ⟨bs, rfl, HBI.out, HBw.out⟩
end Go.Proofs.Ythnpaiobjmneaaa.Wa
