/- want: bits of bytes; FromBits; rising. -/
import Derived.Test.YthnpaiobjmneaaaWl
import Derived.Test.YthnpaiobjmneaaaOpen
namespace Go.Proofs.Ythnpaiobjmneaaa.Wa
open Go.RowKit Go.Maps
set_option linter.unusedVariables false
set_option linter.unusedSimpArgs false

/-- a bit of a byte -/
def bitN (a q : Nat) : Bool := a / 2 ^ q % 2 == 1
/-- a bit of bytes -/
def bitL (l : List UInt8) (i : Nat) : Bool := bitN (l.getD (i / 8) 0).toNat (i % 8)
/-- the numbers of the bits below k -/
def bitsTo (l : List UInt8) (k : Nat) : List Int := (upto k).filter fun i => bitL l i.toNat
theorem upto_succ (k : Nat) : upto (k + 1) = upto k ++ [(k : Int)] := by simp [upto, List.range_succ]
theorem bitsTo_succ (l : List UInt8) (k : Nat) : bitsTo l (k + 1) = bitsTo l k ++ if bitL l k then [(k : Int)] else [] := by
  unfold bitsTo
  rw [upto_succ, List.filter_append]
  congr 1
  by_cases h : bitL l k <;> simp [h]
theorem bitsTo_len (l : List UInt8) (k : Nat) : (bitsTo l k).length ≤ k := by
  have := List.length_filter_le (fun i : Int => bitL l i.toNat) (upto k)
  rw [upto_len] at this
  exact this
theorem and_one8 (a : Nat) (h : a < 256) : bits BinOp.and IntKind.u8 (a : Int) 1 = ((a % 2 : Nat) : Int) := by
  have := (by decide +kernel : ∀ n : Fin 256, bits BinOp.and IntKind.u8 ((n.val : Nat) : Int) 1 = ((n.val % 2 : Nat) : Int)) ⟨a, h⟩
  exact this
theorem str_at (s : ByteArray) (i : Nat) (h : i < s.size) : s.data.toList.getD i 0 = s[i] := by
  have h' : i < s.data.toList.length := by simpa using h
  rw [List.getD_eq_getElem?_getD, List.getElem?_eq_getElem h']
  rfl
set_option maxHeartbeats 2000000 in
set_option maxRecDepth 100000 in
theorem from_calls (s : ByteArray) (n : Nat) (w : World) (hs : s.size = n) (hn : n ≤ 8192) :
    Calls Try.prog 29 #[.string s] w fun e w' => ∃ v, e = .returned v ∧ OJ w' w.heap.size v (bitsTo s.data.toList (8 * n)) ∧ Below w.heap.size w w' := by
  have hn7 : (n : Int) ≤ 8192 := by omega
  have hmin : min (n : Int) 8192 = (n : Int) := by omega
  have hmul : (8 : Int) * (n : Int) = ((8 * n : Nat) : Int) := by omega
  have HS := Lib.hid hs
  obtain ⟨m, hm⟩ : ∃ m, 8 * n = m := ⟨_, rfl⟩
  rw [hm] at hmul ⊢
  have hm2 : m ≤ 65536 := by omega
  go_enter Try.func29, Try.ntmps29
  go_upto_region 3 with (fail)
  have HM := Lib.hid hm
  clear hm hmul hmin
  go_loopw [3, 9] (fun u x wz => ∃ k : Nat, x = .int .i64 (k : Int) ∧ k ≤ m ∧ Hid (OJ wz w.heap.size u (bitsTo s.data.toList k)) ∧ Hid (Below w.heap.size w wz)) (fun _ x _ => m - (intOf x).toNat)
  case atStart => exact ⟨0, rfl, by omega, Lib.hid (OJ.nil _ _), Lib.hid (Below.refl _ _)⟩
  case round =>
    obtain ⟨k, rfl, hk, HO, HB⟩ := hrel
    by_cases hlt : k < m
    · have hk8 : k / 8 < s.size := by have := HM.out; rw [hs]; omega
      have hk8' : k / 8 < n := by omega
      have i0 : (0 : Int) ≤ (k : Int) / 8 ∧ (k : Int) / 8 < (n : Int) := by omega
      have hb := str_at s (k / 8) hk8
      have hu : (s[k / 8].toNat) < 256 := s[k / 8].toNat_lt
      have hbit : (bits BinOp.and IntKind.u8 ((s[k / 8].toNat : Int) / 2 ^ (k % 8)) 1 == 1) = bitL s.data.toList k := by
        have e1 : ((s[k / 8].toNat : Int) / 2 ^ (k % 8)) = ((s[k / 8].toNat / 2 ^ (k % 8) : Nat) : Int) := by simp
        rw [e1, and_one8 _ (Nat.lt_of_le_of_lt (Nat.div_le_self _ _) hu)]
        unfold bitL bitN
        rw [hb]
        cases Nat.mod_two_eq_zero_or_one (s[k / 8].toNat / 2 ^ (k % 8)) with
        | inl h => rw [h]; rfl
        | inr h => rw [h]; rfl
      have hst := bitsTo_succ s.data.toList k
      have HST := Lib.hid hst
      have hln := bitsTo_len s.data.toList k
      have hbz := HB.out.size
      obtain ⟨uA, uc, rfl, -⟩ := id HO.out.shape
      have HOB := Lib.hid HO.out.base
      have HLN := Lib.hid hln
      clear hst hb hu hln
      cases hbb : bitL s.data.toList k with
      | true =>
        rw [hbb] at hbit
        have HBB := Lib.hid hbb
        clear hbb
        go_upto_region 6 with (fail)
        have hlit : (wr.alloc (.cells #[.int .i64 (k : Int)] 3)).cell? ⟨wr.heap.size, 0, none⟩ = some (.int .i64 (k : Int)) := by
          rw [cell_of_row _ _ 0 _ _ _ (heap_alloc_new _ _)]; rfl
        have HLIT := Lib.hid hlit
        clear hlit
        go_wp2_with (at_builtin; refine OJ.push_on (base := w.heap.size) (HO.out.alloc _) HLIT.out rfl _ _ rfl rfl rfl (by simp; omega) (by have := HLN.out; omega) ?_; intro v1 w1 k1 k2 k3; have K1 := Lib.hid k1; have K2 := Lib.hid k2; clear k1 k2 k3)
        go_roundw
        case rel => exact ⟨k + 1, by go_num, by omega, Lib.hid (by rw [HST.out, HBB.out]; exact K1.out), Lib.hid ((HB.out.alloc hbz _).grown K2.out (by simp; omega) HOB.out)⟩
        case measure => simp [intOf]; omega
      | false =>
        rw [hbb] at hbit
        have HBB := Lib.hid hbb
        clear hbb
        go_wp2
        go_roundw
        case rel => exact ⟨k + 1, by go_num, by omega, Lib.hid (by rw [HST.out, HBB.out]; simp only [Bool.false_eq_true, if_false, List.append_nil]; exact HO.out), HB⟩
        case measure => simp [intOf]; omega
    · obtain rfl : m = k := by omega
      go_wp2
      go_ret
      exact ⟨_, rfl, HO.out, HB.out⟩
end Go.Proofs.Ythnpaiobjmneaaa.Wa
