/- want: rising over a set; Bits. -/
import Derived.Test.YthnpaiobjmneaaaWb
import Derived.Laws.OwnMore
import Derived.Laws.IdiomStrings
namespace Go.Proofs.Ythnpaiobjmneaaa.Wa
open Go.RowKit Go.Maps
set_option linter.unusedVariables false
set_option linter.unusedSimpArgs false

/-- the numbers of a set below k -/
def inTo (M : List Int) (k : Nat) : List Int := (upto k).filter fun i => decide (i ∈ M)
theorem inTo_succ (M : List Int) (k : Nat) : inTo M (k + 1) = inTo M k ++ if (k : Int) ∈ M then [(k : Int)] else [] := by
  unfold inTo
  rw [upto_succ, List.filter_append]
  congr 1
  by_cases h : (k : Int) ∈ M <;> simp [h]
theorem inTo_len (M : List Int) (k : Nat) : (inTo M k).length ≤ k := by
  have := List.length_filter_le (fun i : Int => decide (i ∈ M)) (upto k)
  rw [upto_len] at this
  exact this
set_option maxHeartbeats 2000000 in
set_option maxRecDepth 100000 in
theorem has_calls (i : Int) (hb mb : Nat) (M : List Int) (w : World) (hi : wfI i) (h0 : w.cell? ⟨hb, 0, none⟩ = some (.map (some mb))) (h : BM w mb M) :
    Calls Try.prog 31 #[.int .i64 i, .pointer (some ⟨hb, 0, none⟩)] w fun e w' => e = .returned (.bool (decide (i ∈ M))) ∧ w = w' := by
  have hlk := h.look i hi
  generalize decide (i ∈ M) = b at *
  go_enter Try.func31, Try.ntmps31
  go_wp2
  go_ret
  exact ⟨rfl, rfl⟩
set_option maxHeartbeats 2000000 in
set_option maxRecDepth 100000 in
theorem rising_calls (n hb mb : Nat) (M : List Int) (w : World) (hn : n ≤ 65536) (h0 : w.cell? ⟨hb, 0, none⟩ = some (.map (some mb))) (h : BM w mb M) :
    Calls Try.prog 30 #[.func (.func 31) #[] #[.pointer (some ⟨hb, 0, none⟩)], .int .i64 (n : Int)] w fun e w' => ∃ v, e = .returned v ∧ OJ w' w.heap.size v (inTo M n) ∧ Below w.heap.size w w' := by
  have HM := Lib.hid h
  have H0 := Lib.hid h0
  have hbl : hb < w.heap.size := World.block_lt_of_cell? _ _ h0
  clear h h0
  go_enter Try.func30, Try.ntmps30
  go_upto_region 3 with (fail)
  go_loopw [5, 6] (fun u x wz => ∃ k : Nat, x = .int .i64 (k : Int) ∧ k ≤ n ∧ Hid (OJ wz w.heap.size u (inTo M k)) ∧ Hid (Below w.heap.size w wz)) (fun _ x _ => n - (intOf x).toNat)
  case atStart => exact ⟨0, rfl, by omega, Lib.hid (OJ.nil _ _), Lib.hid (Below.refl _ _)⟩
  case round =>
    obtain ⟨k, rfl, hk, HO, HB⟩ := hrel
    by_cases hlt : k < n
    · have HST := Lib.hid (inTo_succ M k)
      have HLN := Lib.hid (inTo_len M k)
      have hbz := HB.out.size
      obtain ⟨uA, uc, rfl, -⟩ := id HO.out.shape
      have HOB := Lib.hid HO.out.base
      have HC := Lib.hid (has_calls (k : Int) hb mb M wr (by unfold wfI; omega) ((HB.out.cell hbl).trans H0.out) (HM.out.later HB.out))
      by_cases hin : (k : Int) ∈ M
      · rw [decide_eq_true hin] at HC
        have HIN := Lib.hid hin
        clear hin
        go_upto_region 6 with (go_at_call 31; refine HC.out.mono ?_; rintro e w1 ⟨rfl, rfl⟩)
        have hlit : (wr.alloc (.cells #[.int .i64 (k : Int)] 3)).cell? ⟨wr.heap.size, 0, none⟩ = some (.int .i64 (k : Int)) := by
          rw [cell_of_row _ _ 0 _ _ _ (heap_alloc_new _ _)]; rfl
        have HLIT := Lib.hid hlit
        clear hlit
        go_wp2_with (at_builtin; refine OJ.push_on (base := w.heap.size) (HO.out.alloc _) HLIT.out rfl _ _ rfl rfl rfl (by simp; omega) (by have := HLN.out; omega) ?_; intro v1 w1 k1 k2 k3; have K1 := Lib.hid k1; have K2 := Lib.hid k2; clear k1 k2 k3)
        go_roundw
        case rel => exact ⟨k + 1, by go_num, by omega, Lib.hid (by rw [HST.out, if_pos HIN.out]; exact K1.out), Lib.hid ((HB.out.alloc hbz _).grown K2.out (by simp; omega) HOB.out)⟩
        case measure => simp [intOf]; omega
      · rw [decide_eq_false hin] at HC
        have HIN := Lib.hid hin
        clear hin
        go_wp2_with (go_at_call 31; refine HC.out.mono ?_; rintro e w1 ⟨rfl, rfl⟩)
        go_roundw
        case rel => exact ⟨k + 1, by go_num, by omega, Lib.hid (by rw [HST.out, if_neg HIN.out, List.append_nil]; exact HO.out), HB⟩
        case measure => simp [intOf]; omega
    · obtain rfl : n = k := by omega
      go_wp2
      go_ret
      exact ⟨_, rfl, HO.out, HB.out⟩
/-- bytes in which just the bits of a set below k are set -/
structure BitsAre (bs : List UInt8) (M : List Int) (k L : Nat) : Prop where
  len : bs.length = L
  bit : ∀ i, i < 8 * L → bitL bs i = decide (i < k ∧ (i : Int) ∈ M)
theorem BitsAre.zero (M : List Int) (L : Nat) : BitsAre (List.replicate L 0) M 0 L := by
  refine ⟨by simp, fun i hi => ?_⟩
  unfold bitL bitN
  rw [List.getD_eq_getElem?_getD, List.getElem?_replicate, if_pos (by omega)]
  simp
theorem or_bit (a j : Nat) (ha : a < 256) (hj : j < 8) : bits BinOp.or IntKind.u8 (a : Int) ((2 ^ j : Nat) : Int) = (((a ||| 2 ^ j : Nat)) : Int) ∧ (a ||| 2 ^ j) < 256 ∧ ∀ q, q < 8 → bitN (a ||| 2 ^ j) q = (decide (q = j) || bitN a q) := by
  have := (by decide +kernel : ∀ n : Fin 256, ∀ j : Fin 8, bits BinOp.or IntKind.u8 ((n.val : Nat) : Int) ((2 ^ j.val : Nat) : Int) = (((n.val ||| 2 ^ j.val : Nat)) : Int) ∧ (n.val ||| 2 ^ j.val) < 256 ∧ ∀ q : Fin 8, bitN (n.val ||| 2 ^ j.val) q.val = (decide (q.val = j.val) || bitN n.val q.val)) ⟨a, ha⟩ ⟨j, hj⟩
  exact ⟨this.1, this.2.1, fun q hq => this.2.2 ⟨q, hq⟩⟩
theorem BitsAre.skip {bs : List UInt8} {M : List Int} {k L : Nat} (h : BitsAre bs M k L) (hn : (k : Int) ∉ M) : BitsAre bs M (k + 1) L :=
  ⟨h.len, fun i hi => by
    rw [h.bit i hi]
    by_cases e : i = k
    · subst e; simp [hn]
    · have : (i < k + 1) = (i < k) := by apply propext; omega
      simp only [this]⟩
theorem BitsAre.put {bs : List UInt8} {M : List Int} {k L : Nat} (h : BitsAre bs M k L) (hm : (k : Int) ∈ M) (hk : k < 8 * L) :
    BitsAre (bs.set (k / 8) (UInt8.ofNat ((bs.getD (k / 8) 0).toNat ||| 2 ^ (k % 8)))) M (k + 1) L := by
  refine ⟨by rw [List.length_set]; exact h.len, fun i hi => ?_⟩
  obtain ⟨_, hlt, hb⟩ := or_bit (bs.getD (k / 8) 0).toNat (k % 8) (UInt8.toNat_lt _) (by omega)
  have h0 := h.bit i hi
  unfold bitL at h0 ⊢
  by_cases e : i / 8 = k / 8
  · rw [e] at h0 ⊢
    rw [List.getD_eq_getElem?_getD, List.getElem?_set_self (by rw [h.len]; omega), Option.getD_some, UInt8.toNat_ofNat', Nat.mod_eq_of_lt hlt, hb (i % 8) (by omega), h0]
    by_cases e2 : i = k
    · subst e2
      simp [hm]
    · have e3 : ¬ i % 8 = k % 8 := by omega
      have : (i < k + 1) = (i < k) := by apply propext; omega
      simp only [this, e3, decide_false, Bool.false_or]
  · rw [List.getD_eq_getElem?_getD, List.getElem?_set_ne (by omega), ← List.getD_eq_getElem?_getD, h0]
    have : (i < k + 1) = (i < k) := by apply propext; omega
    simp only [this]
end Go.Proofs.Ythnpaiobjmneaaa.Wa
