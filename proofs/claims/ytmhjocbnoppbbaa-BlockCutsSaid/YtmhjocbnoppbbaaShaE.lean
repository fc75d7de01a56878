/- SHA-256: sha.end lays what stands behind a text. -/
import Derived.Test.YtmhjocbnoppbbaaShaD
namespace Go.Proofs.Ytmhjocbnoppbbaa.Sha
open Go.RowKit
set_option linter.unusedVariables false
set_option linter.unusedSimpArgs false

/-- zeros behind the mark -/
def padZ (n : Nat) : Nat := (120 - n % 64) % 64
/-- a number's eight bytes, the highest first -/
def be8 (x : Nat) : List UInt8 := [UInt8.ofNat (x / 2 ^ 56), UInt8.ofNat (x / 2 ^ 48), UInt8.ofNat (x / 2 ^ 40), UInt8.ofNat (x / 2 ^ 32), UInt8.ofNat (x / 2 ^ 24), UInt8.ofNat (x / 2 ^ 16), UInt8.ofNat (x / 2 ^ 8), UInt8.ofNat x]
def be8to (x j : Nat) : List UInt8 := (be8 x).take j
/-- what stands behind the pieces -/
def endW (bs : List UInt8) (m : Nat) : List UInt8 := bs ++ [128] ++ List.replicate (padZ (bs.length + 1)) 0 ++ be8 (8 * m)

theorem be8_shift (x j : Nat) (hx : x < 1000000000000) (hj : j < 8) :
    8 * (x : Int) / 2 ^ (8 * (7 - j)) % 256 = (((be8 (8 * x)).getD j 0).toNat : Int) := by
  have h : j = 0 ∨ j = 1 ∨ j = 2 ∨ j = 3 ∨ j = 4 ∨ j = 5 ∨ j = 6 ∨ j = 7 := by omega
  rcases h with rfl | rfl | rfl | rfl | rfl | rfl | rfl | rfl <;> simp [be8]
theorem be8_snoc (x j : Nat) (hj : j < 8) : (be8 x).take j ++ [(be8 x).getD j 0] = (be8 x).take (j + 1) := by
  have h : j = 0 ∨ j = 1 ∨ j = 2 ∨ j = 3 ∨ j = 4 ∨ j = 5 ∨ j = 6 ∨ j = 7 := by omega
  rcases h with rfl | rfl | rfl | rfl | rfl | rfl | rfl | rfl <;> rfl

set_option maxHeartbeats 2000000 in
set_option maxRecDepth 100000 in
theorem end_calls (g : Nat) (v : Value) (bs : List UInt8) (m : Nat) (w : World) (hv : RB w g v bs) (hl : bs.length ≤ 1000000) (hm : m ≤ 1000000000) :
    Calls Try.prog 42 #[v, .int .i64 (m : Int)] w fun e w' => ∃ v' g', e = .returned v' ∧ RB w' g' v' (endW bs m) ∧ Below w.heap.size w w' := by
  have HV := Lib.hid hv
  have HN := Lib.hid (OB.nil w w.heap.size)
  clear hv
  go_enter Try.func42, Try.ntmps42
  go_upto_region 2 with (first
    | (at_builtin; refine OB.append_on (base := w.heap.size) HN.out HV.out rfl _ _ rfl rfl rfl (Nat.le_refl _) (by simp; omega) ?_; intro v1 w1 h1 hg1 hat1; clear HN)
    | (at_builtin; refine OB.append_on (base := w.heap.size) (w := w1.alloc _) (OB.alloc h1 _) (RB.lit w1 [128] _ rfl _ rfl (by decide)) rfl _ _ rfl rfl rfl (by simp; have := hg1.size; omega) (by simp; omega) ?_; intro v2 w2 h2 hg2 hat2))
  have hsz1 := hg1.size
  have hsz2 : w.heap.size ≤ w2.heap.size := by have := hg2.size; simp at this; omega
  have hb1 : Below w.heap.size w w1 := (Below.refl _ _).grown hg1 (Nat.le_refl _) (fun k hk => by simp [Value.ownBlock] at hk)
  have hb2 : Below w.heap.size w w2 := (hb1.alloc hsz1 _).grown hg2 (by simp; omega) (OB.base h1)
  have H2 : Hid (OB w2 w.heap.size v2 (bs ++ [128] ++ List.replicate 0 0)) := by simpa [Hid] using h2
  have HB2 := Lib.hid hb2
  clear h1 hg1 hat1 h2 hg2 hat2 hb1 hb2 hsz1 hsz2
  go_loopw [5] (fun u wr => ∃ z : Nat, Hid (z ≤ padZ (bs.length + 1)) ∧ Hid (OB wr w.heap.size u (bs ++ [128] ++ List.replicate z 0)) ∧ Hid (Below w.heap.size w wr)) (fun u _ => bs.length + 1 + padZ (bs.length + 1) - sliceLen u)
  case atStart => exact ⟨0, Nat.zero_le _, H2, HB2⟩
  case round =>
    clear H2 HB2
    obtain ⟨z, hz, HO, HB⟩ := hrel
    obtain ⟨g1, hr1, -⟩ := HO.out.reads
    obtain ⟨A, c, o, hu, hc1, hc2, -⟩ := hr1
    have hlen : (bs ++ [128] ++ List.replicate z (0 : UInt8)).length = bs.length + 1 + z := by simp; omega
    rw [hlen] at hu hc1
    subst hu
    have hzb : padZ (bs.length + 1) < 64 := Nat.mod_lt _ (by omega)
    have hbw := HB.out.size
    by_cases hlt : z < padZ (bs.length + 1)
    · have ht : (((bs.length : Int) + 1 + (z : Int)) % 64 == 56) = false := by
        rw [beq_eq_false_iff_ne]
        unfold padZ at hlt
        omega
      have ht2 : (((bs.length : Int) + 1 + (z : Int)) % 64 != 56) = true := by rw [bne, ht]; rfl
      have HZ := Lib.hid hlt
      have hzl : z ≤ 100 := by omega
      clear hlt hlen
      go_wp2_with (at_builtin; refine OB.append_on (base := w.heap.size) (w := wr.alloc _) (OB.alloc HO.out _) (RB.lit wr [0] _ rfl _ rfl (by decide)) rfl _ _ rfl rfl rfl (by simp; omega) (by simp; omega) ?_; intro v1 w1 h1 hg1 hat1)
      have hz1 := HZ.out
      refine ⟨⟨z + 1, Lib.hid (by omega), ?_, Lib.hid ((HB.out.alloc hbw _).grown hg1 (by simp; omega) (OB.base HO.out))⟩, ?_⟩
      · have e : bs ++ [128] ++ List.replicate (z + 1) (0 : UInt8) = bs ++ [128] ++ List.replicate z 0 ++ [0] := by
          rw [List.replicate_succ', ← List.append_assoc]
        rw [e]
        exact h1
      · rw [h1.len]
        simp [sliceLen]
        omega
    · have hz1 := hz.out
      have ht : (((bs.length : Int) + 1 + (z : Int)) % 64 == 56) = true := by
        rw [beq_iff_eq]
        have : z = padZ (bs.length + 1) := by omega
        rw [this]
        unfold padZ
        omega
      have ht2 : (((bs.length : Int) + 1 + (z : Int)) % 64 != 56) = false := by rw [bne, ht]; rfl
      have hze : z = padZ (bs.length + 1) := by omega
      have HZ := Lib.hid hze
      have hzl : z ≤ 100 := by omega
      have hmI : (m : Int) ≤ 1000000000 := by omega
      clear hlt hlen hze hz1 hz
      go_wp2
      obtain ⟨u, hu⟩ : ∃ u, Value.slice A (bs.length + 1 + z) c = u := ⟨_, rfl⟩
      rw [hu] at HO ⊢
      clear hu hc1 hc2
      go_loopw [5, 6] (fun u i wr => ∃ (j : Nat), i = .int .i64 (7 - (j : Int)) ∧ j ≤ 8 ∧ Hid (OB wr w.heap.size u (bs ++ [128] ++ List.replicate z 0 ++ (be8 (8 * m)).take j)) ∧ Hid (Below w.heap.size w wr)) (fun _ i _ => (intOf i + 1).toNat)
      case atStart => exact ⟨0, rfl, by omega, by simpa [Hid] using HO, HB⟩
      case round =>
        clear HO HB hbw
        obtain ⟨j, rfl, hj, HO, HB⟩ := hrel
        have hbw := HB.out.size
        by_cases hlt : j < 8
        · have e1 : (0 : Int) ≤ 7 - (j : Int) := by omega
          have hlen : (bs ++ [128] ++ List.replicate z (0 : UInt8) ++ (be8 (8 * m)).take j).length = bs.length + 1 + z + j := by simp [be8]; omega
          have HLEN := Lib.hid hlen
          clear hlen
          have HBE := Lib.hid (be8_shift m j (by omega) hlt)
          have HRL := Lib.hid (RB.lit wr [(be8 (8 * m)).getD j 0] #[.int .u8 (8 * (m : Int) / 2 ^ (8 * (7 - j)) % 256)] (by rw [HBE.out]; rfl) 1 rfl (by simp))
          have HSN := Lib.hid (be8_snoc (8 * m) j hlt)
          go_wp2_with (at_builtin; refine OB.append_on (base := w.heap.size) (w := wr.alloc _) (OB.alloc HO.out _) HRL.out rfl _ _ rfl rfl rfl (by simp; omega) (by rw [HLEN.out]; simp; omega) ?_; intro v1 w1 h1 hg1 hat1)
          go_roundw
          case rel =>
            refine ⟨j + 1, by go_num, by omega, ?_, Lib.hid ((HB.out.alloc hbw _).grown hg1 (by simp; omega) (OB.base HO.out))⟩
            rw [← HSN.out, ← List.append_assoc]
            exact h1
          case measure => simp [intOf]; omega
        · obtain rfl : j = 8 := by omega
          clear hlt hj
          have e1 : ¬ (0 : Int) ≤ 7 - ((8 : Nat) : Int) := by omega
          have e2 : ¬ (0 : Int) ≤ -1 := by omega
          go_wp2
          go_ret
          obtain ⟨g2, hr2, -⟩ := HO.out.reads
          refine ⟨_, rfl, ⟨g2, ?_⟩, HB.out⟩
          unfold endW
          rw [← HZ.out]
          exact hr2
end Go.Proofs.Ytmhjocbnoppbbaa.Sha
