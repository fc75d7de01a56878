/- octet, walked: numbers as bytes. -/
import Derived.Test.YtjokfllldcjheaaGreatDoorBy
import Derived.Test.YtjokfllldcjheaaGreatDoorSp
import Derived.Laws.Bits128
import Derived.Laws.BitsLemmas
import Derived.OwnWalk
namespace Go.Proofs.YtjokfllldcjheaaGreatDoor.Oc
open Go.RowKit Go.Proofs.YtjokfllldcjheaaGreatDoor.Sha
set_option linter.unusedVariables false
set_option linter.unusedSimpArgs false
/-- a short number's text -/
def shS (x : Nat) : ByteArray := ⟨(shB x).toArray⟩
theorem shS_list (x : Nat) : (shS x).data.toList = shB x := rfl
theorem shB_le : ∀ (n x : Nat), x < 128 ^ (n + 1) → (shB x).length ≤ n + 1
  | 0, x, h => by rw [shB_lt (by simpa using h)]; simp
  | n + 1, x, h => by
    by_cases h1 : x < 128
    · rw [shB_lt h1]; simp
    · rw [shB_ge h1]
      have := shB_le n (x / 128) (Nat.div_lt_of_lt_mul (by rw [Nat.pow_succ, Nat.mul_comm] at h; exact h))
      simp only [List.length_cons]; omega
theorem or128 (z : Int) (h0 : 0 ≤ z) (h1 : z < 128) : bits .or .i64 z 128 = z + 128 := by
  have hw : ∀ n : Int, 0 ≤ n → n < 2 ^ 8 → IntKind.i64.wrap n = n := fun n a b => IntWalk.i64_in _ (by omega)
  have hc : bits .or .i64 z 128 = bits .or .i64 128 z := by simp only [bits, BitVec.or_comm]
  rw [hc, bits_join .i64 8 (by decide) hw 7 128 z (by decide) (by decide) (by decide) h0 (by omega) (by omega)]
  omega
theorem u8_ofNat {x : Nat} (h : x < 256) : (((UInt8.ofNat x).toNat : Nat) : Int) = (x : Int) := by rw [ofNat_toNat h]
theorem and127 (y : Nat) : bits .and .i64 (y : Int) 127 = ((y % 128 : Nat) : Int) := by rw [i64_and127]; omega
set_option maxHeartbeats 2000000 in
set_option maxRecDepth 100000 in
theorem short_calls (x : Nat) (hx : x < 72057594037927936) (w : World) :
    Calls Tryz.prog 105 #[.int .i64 (x : Int)] w fun e w' => e = .returned (.string (shS x)) ∧ Hid (Below w.heap.size w w') := by
  have HX : Hid ((shB x).length ≤ 8) := Lib.hid (shB_le 7 x (by simpa using hx))
  have HO0 : Hid (OB w w.heap.size (.slice none 0 0) []) := Lib.hid (OB.nil w w.heap.size)
  have HB0 : Hid (Below w.heap.size w w) := Lib.hid (Below.refl _ _)
  have HE0 : Hid ([] ++ shB x = shB x) := Lib.hid rfl
  go_enter Tryz.func105, Tryz.ntmps105
  go_upto_region 2 with (fail)
  go_loopw [0, 3] (fun a u wz => ∃ (y : Nat) (pre : List UInt8), a = .int .i64 (y : Int) ∧ y < 72057594037927936 ∧ Hid (pre ++ shB y = shB x) ∧ Hid (OB wz w.heap.size u pre) ∧ Hid (Below w.heap.size w wz)) (fun a _ _ => (intOf a).toNat)
  case atStart => exact ⟨x, [], rfl, hx, HE0, HO0, HB0⟩
  case round =>
    clear HO0 HB0 HE0
    obtain ⟨y, pre, rfl, hy, HE, HO, HB⟩ := hrel
    have hbz := HB.out.size
    have HOB := Lib.hid HO.out.base
    have HPL : Hid (pre.length ≤ 8) := Lib.hid (by have := congrArg List.length HE.out; rw [List.length_append] at this; have := HX.out; omega)
    by_cases hlt : y < 128
    · have h1 : ¬ (y : Int) ≥ 128 := by omega
      have h2 : IntKind.u8.wrap (y : Int) = (y : Int) := by rw [IntKind.wrap_u8]; omega
      have HBY := Lib.hid (u8_ofNat (x := y) (by omega))
      obtain ⟨c, hc⟩ : ∃ c, UInt8.ofNat y = c := ⟨_, rfl⟩
      rw [hc] at HBY
      have HF : Hid (pre ++ [c] = shB x) := Lib.hid (by rw [← HE.out, shB_lt hlt, hc])
      clear hc
      go_upto_region 5 with (fail)
      go_wp2_with (at_builtin; refine OB.append_on (base := w.heap.size) (HO.out.alloc _) (RB.lit _ [c] _ (by simp [bcells, HBY.out]) 1 rfl (by simp)) rfl _ _ rfl rfl rfl (by simp; omega) (by have := HPL.out; simp only [List.length_cons, List.length_nil]; omega) ?_; intro v1 w3 k1 k2 _; obtain ⟨g3, hr3, -⟩ := k1.reads; have hcv := hr3.string_run; rw [HF.out] at hcv; have K2 := Lib.hid k2; clear k1 k2 hr3)
      go_ret
      exact ⟨rfl, Lib.hid ((HB.out.alloc hbz _).grown K2.out (by simp; omega) HOB.out)⟩
    · have h1 : (y : Int) ≥ 128 := by omega
      have hand := and127 y
      have hor := or128 ((y % 128 : Nat) : Int) (by omega) (by omega)
      have e0 : (((y % 128 : Nat) : Int) + 128) = ((y % 128 + 128 : Nat) : Int) := by omega
      rw [e0] at hor
      have h2 : IntKind.u8.wrap ((y % 128 + 128 : Nat) : Int) = ((y % 128 + 128 : Nat) : Int) := by rw [IntKind.wrap_u8]; omega
      have HBY := Lib.hid (u8_ofNat (x := y % 128 + 128) (by omega))
      have HQ : Hid (y / 128 < 72057594037927936 ∧ y / 128 < y) := Lib.hid (by omega)
      have HF : Hid ((pre ++ [UInt8.ofNat (y % 128 + 128)]) ++ shB (y / 128) = shB x) := Lib.hid (by rw [← HE.out, shB_ge hlt]; simp)
      have hsh : (y : Int) / 128 = ((y / 128 : Nat) : Int) := by omega
      obtain ⟨c, hc⟩ : ∃ c, UInt8.ofNat (y % 128 + 128) = c := ⟨_, rfl⟩
      rw [hc] at HBY HF
      obtain ⟨z, hz⟩ : ∃ z, y % 128 = z := ⟨_, rfl⟩
      obtain ⟨q, hq⟩ : ∃ q, y / 128 = q := ⟨_, rfl⟩
      rw [hz] at hand hor h2 HBY
      have hz2 : z < 128 := by omega
      rw [hq] at HF HQ hsh
      clear hc hz hq e0
      go_wp2_with (at_builtin; refine OB.append_on (base := w.heap.size) (HO.out.alloc _) (RB.lit _ [c] _ (by simp [bcells, HBY.out]) 1 rfl (by simp)) rfl _ _ rfl rfl rfl (by simp; omega) (by have := HPL.out; simp only [List.length_cons, List.length_nil]; omega) ?_; intro v1 w3 k1 k2 _; have K1 := Lib.hid k1; have K2 := Lib.hid k2; clear k1 k2)
      go_roundw
      case rel => exact ⟨q, pre ++ [c], by go_num, HQ.out.1, HF, K1, Lib.hid ((HB.out.alloc hbz _).grown K2.out (by simp; omega) HOB.out)⟩
      case measure => simp [intOf]; have := HQ.out.2; omega
set_option maxHeartbeats 1000000 in
theorem putShort_calls (x : Nat) (hx : x < 72057594037927936) (w : World) :
    Calls Tryz.prog 71 #[.int .i64 (x : Int)] w fun e w' => e = .returned (.tuple #[.string (shS x), .nilIface]) ∧ Hid (Below w.heap.size w w') := by
  have h1 : ¬ (x : Int) < 0 := by omega
  have h2 : ¬ (x : Int) > 72057594037927935 := by omega
  go_enter Tryz.func71, Tryz.ntmps71
  go_wp2_with (go_at_call 105; refine (short_calls x hx _).mono ?_; rintro e w1 ⟨rfl, HB⟩)
  go_ret2
  exact ⟨rfl, HB⟩
set_option maxHeartbeats 1000000 in
theorem turn_calls (x : Int) (h0 : -10000 < x) (h1 : x < 10000) (w : World) :
    Calls Tryz.prog 142 #[.int .i64 x] w fun e w' => e = .returned (.int .i64 ((turn x : Nat) : Int)) ∧ w = w' := by
  by_cases hx : x < 0
  · have e : ((turn x : Nat) : Int) = -2 * x - 1 := by unfold turn; rw [if_pos hx]; omega
    rw [e]
    go_enter Tryz.func142, Tryz.ntmps142
    go_wp2
    go_ret
    exact ⟨rfl, rfl⟩
  · have e : ((turn x : Nat) : Int) = 2 * x := by unfold turn; rw [if_neg hx]; omega
    rw [e]
    go_enter Tryz.func142, Tryz.ntmps142
    go_wp2
    go_ret
    exact ⟨rfl, rfl⟩
theorem turn_lt {x : Int} (h0 : -10000 < x) (h1 : x < 10000) : turn x < 72057594037927936 := by unfold turn; split <;> omega
set_option maxHeartbeats 1000000 in
theorem putTurned_calls (x : Int) (h0 : -10000 < x) (h1 : x < 10000) (w : World) :
    Calls Tryz.prog 116 #[.int .i64 x] w fun e w' => e = .returned (.tuple #[.string (shS (turn x)), .nilIface]) ∧ Hid (Below w.heap.size w w') := by
  have HT := Lib.hid (turn_calls x h0 h1 w)
  have HL := Lib.hid (turn_lt h0 h1)
  generalize turn x = y at *
  have h2 : ¬ x < -36028797018963968 := by omega
  have h3 : ¬ x ≥ 36028797018963968 := by omega
  go_enter Tryz.func116, Tryz.ntmps116
  go_wp2_with (first
    | (go_at_call 142; refine HT.out.mono ?_; rintro e w1 ⟨rfl, rfl⟩)
    | (go_at_call 105; refine (short_calls y HL.out _).mono ?_; rintro e w1 ⟨rfl, HB⟩))
  go_ret2
  exact ⟨rfl, HB⟩
set_option maxHeartbeats 1000000 in
theorem back_calls (x : Nat) (h1 : x < 72057594037927936) (w : World) :
    Calls Tryz.prog 143 #[.int .i64 (x : Int)] w fun e w' => e = .returned (.int .i64 (back x)) ∧ w = w' := by
  have h0 : ¬ (x : Int) < 0 := by omega
  by_cases hx : x % 2 = 1
  · have e : back x = -((x : Int) / 2) - 1 := by unfold back; rw [if_pos hx]; omega
    rw [e]
    have hm : (x : Int) % 2 = 1 := by omega
    go_enter Tryz.func143, Tryz.ntmps143
    go_wp2
    go_ret
    exact ⟨rfl, rfl⟩
  · have e : back x = (x : Int) / 2 := by unfold back; rw [if_neg hx]; omega
    rw [e]
    have hm : ¬ (x : Int) % 2 = 1 := by omega
    go_enter Tryz.func143, Tryz.ntmps143
    go_wp2
    go_ret
    exact ⟨rfl, rfl⟩
/-- an error at a place -/
abbrev faultV (p k : Int) : Value := .iface 106 (.agg #[.int .i64 p, .iface 96 (.int .i64 k)])
set_option maxHeartbeats 1000000 in
theorem fault_calls (p : Int) (k : Int) (w : World) :
    Calls Tryz.prog 104 #[.int .i64 p, .iface 96 (.int .i64 k)] w fun e w' => e = .returned (faultV p k) ∧ w = w' := by
  go_enter Tryz.func104, Tryz.ntmps104
  go_wp2
  go_ret
  exact ⟨rfl, rfl⟩
set_option maxHeartbeats 1000000 in
theorem there_calls (s : ByteArray) (a : Nat) (h : a ≤ s.size) (hs : s.size ≤ 140737488355328) (w : World) :
    Calls Tryz.prog 117 #[.string s, .int .i64 (a : Int)] w fun e w' => e = .returned (.bool true) ∧ w = w' := by
  have h0 : (a : Int) ≥ 0 := by omega
  have h1 : (a : Int) ≤ (s.size : Int) := by omega
  go_enter Tryz.func117, Tryz.ntmps117
  go_wp2
  go_ret
  exact ⟨rfl, rfl⟩
theorem step_or (c y i : Nat) (hc : c < 256) (hi : i ≤ 7) (hy : y < 128 ^ i) : bits .or .i64 (y : Int) (wrap64 (wrap64 (bits .and .u8 (c : Int) 127) * 2 ^ (7 * i))) = ((y + c % 128 * 128 ^ i : Nat) : Int) := by
  have e1 : bits .and .u8 (c : Int) 127 = ((c % 128 : Nat) : Int) := by
    have := u8_and_nat c 127 hc (by decide)
    rw [nat_mask7] at this
    exact this
  have hw : ∀ n : Int, 0 ≤ n → n < 2 ^ 60 → wrap64 n = n := fun n a b => by unfold wrap64; omega
  have hw2 : ∀ n : Int, 0 ≤ n → n < 2 ^ 60 → IntKind.i64.wrap n = n := fun n a b => IntWalk.i64_in _ (by omega)
  have hp : (128 : Nat) ^ i ≤ 128 ^ 7 := Nat.pow_le_pow_right (by omega) hi
  have hm : c % 128 * 128 ^ i ≤ 127 * 128 ^ 7 := Nat.mul_le_mul (by omega) hp
  have e2 : ((c % 128 : Nat) : Int) * 2 ^ (7 * i) = ((c % 128 * 128 ^ i : Nat) : Int) := by
    rw [Int.natCast_mul, Int.natCast_pow, Int.pow_mul]; rfl
  have e3 : (2 : Int) ^ (7 * i) = ((128 ^ i : Nat) : Int) := by rw [Int.natCast_pow, Int.pow_mul]; rfl
  have h7 : (127 : Nat) * 128 ^ 7 < 2 ^ 60 := by decide
  have hc2 : ((c % 128 : Nat) : Int) < 2 ^ 60 := by omega
  rw [e1, hw _ (by omega) hc2, e2, hw _ (by omega) (by omega)]
  have hcm : ∀ a b : Int, bits .or .i64 a b = bits .or .i64 b a := fun a b => by simp only [bits, BitVec.or_comm]
  rw [hcm, bits_join .i64 60 (by decide) hw2 (7 * i) _ _ (by omega) ?_ (by omega) (by omega) (by rw [e3]; omega) (by omega)]
  · omega
  · rw [e3, ← Int.natCast_emod, Nat.mul_mod_left]; rfl
/-- what Short answers at a place -/
def rdV (a : Nat) : Except Bad (Nat × Nat) → Value
  | .ok r => .tuple #[.int .i64 (r.1 : Int), .int .i64 (r.2 : Int), .nilIface]
  | .error b => .tuple #[.int .i64 0, .int .i64 (a : Int), faultV (b.2 : Int) (b.1 : Int)]
set_option maxHeartbeats 4000000 in
set_option maxRecDepth 100000 in
theorem Short_calls (s : ByteArray) (a : Nat) (h : a ≤ s.size) (hs : s.size ≤ 140737488355328) (w : World) :
    Calls Tryz.prog 86 #[.string s, .int .i64 (a : Int)] w fun e w' => e = .returned (rdV a (rdAt s.data.toList a)) ∧ w = w' := by
  obtain ⟨R, hR⟩ : ∃ R, rdAt s.data.toList a = R := ⟨_, rfl⟩
  rw [hR]
  have HR := Lib.hid hR
  have HLN : Hid (s.data.toList.length = s.size) := Lib.hid (by rw [Array.length_toList]; rfl)
  have HTH := Lib.hid (there_calls s a h hs w)
  have HR0 : Hid (rd (s.data.toList.drop (a + 0)) 0 0 = rd (s.data.toList.drop a) 0 0) := Lib.hid rfl
  obtain ⟨n, hn⟩ : ∃ n, s.size = n := ⟨_, rfl⟩
  rw [hn] at h hs HLN
  have HN := Lib.hid hn
  have hd : ((n : Int) - (a : Int)) = ((n - a : Nat) : Int) := by omega
  clear hR
  go_enter Tryz.func86, Tryz.ntmps86
  go_upto_region 5 with (go_at_call 117; refine HTH.out.mono ?_; rintro e w1 ⟨rfl, rfl⟩)
  go_loopw [7, 22] (fun u x wz => ∃ (i y : Nat), u = .int .i64 (y : Int) ∧ x = .int .i64 (i : Int) ∧ a + i ≤ n ∧ i ≤ 7 ∧ Hid (y < 128 ^ i) ∧ Hid (rd (s.data.toList.drop (a + i)) i y = rd (s.data.toList.drop a) 0 0) ∧ wz = w) (fun _ x _ => n - (intOf x).toNat)
  case atStart => exact ⟨0, 0, rfl, rfl, by omega, by omega, Lib.hid (by decide), HR0, rfl⟩
  case round =>
    clear HR0
    obtain ⟨i, y, rfl, rfl, hi, hi7, HY, HRD, hwz⟩ := hrel
    subst hwz
    by_cases hlt : a + i < n
    · have hidx : ∀ (k : IntKind) (w : World), (Instr.index 9 (.string s) (.int k ((a : Int) + (i : Int)))).run Tryz.prog w = .ok (.int .u8 ((byt s.data.toList (a + i) : Nat) : Int)) w := fun k w => by
        rw [show ((a : Int) + (i : Int)) = ((a + i : Nat) : Int) by omega]
        exact run_index_byte (P := Tryz.prog) 9 Tryz.underlying9 s (a + i) (by rw [HN.out]; exact hlt) k w
      have hdr : s.data.toList.drop (a + i) = s.data.toList.getD (a + i) 0 :: s.data.toList.drop (a + (i + 1)) := by
        rw [List.drop_eq_getElem_cons (by rw [HLN.out]; exact hlt), List.getD_eq_getElem?_getD, List.getElem?_eq_getElem (by rw [HLN.out]; exact hlt)]; rfl
      have HDR := Lib.hid hdr
      have hcl : (s.data.toList.getD (a + i) 0).toNat < 256 := UInt8.toNat_lt _
      have hb : byt s.data.toList (a + i) = (s.data.toList.getD (a + i) 0).toNat := rfl
      rw [hb] at hidx
      obtain ⟨cb, hcb⟩ : ∃ cb, s.data.toList.getD (a + i) 0 = cb := ⟨_, rfl⟩
      rw [hcb] at HDR hidx hcl
      obtain ⟨c, hc⟩ : ∃ c, cb.toNat = c := ⟨_, rfl⟩
      rw [hc] at hidx hcl
      have HC := Lib.hid hc
      have i0 : (i : Int) < ((n - a : Nat) : Int) := by omega
      clear hdr hb hcb hc
      go_upto_region 9 with (fail)
      rw [step_or c y i hcl hi7 HY.out]
      have HYN : Hid (y + c % 128 * 128 ^ i < 128 ^ (i + 1)) := Lib.hid (by
        have := HY.out
        have hm : c % 128 * 128 ^ i ≤ 127 * 128 ^ i := Nat.mul_le_mul_right _ (by omega)
        rw [Nat.pow_succ]; omega)
      have HYB : Hid (y + c % 128 * 128 ^ i < 72057594037927936) := Lib.hid (by
        have := HYN.out
        have hp : (128 : Nat) ^ (i + 1) ≤ 128 ^ 8 := Nat.pow_le_pow_right (by omega) (by omega)
        have : (128 : Nat) ^ 8 = 72057594037927936 := by decide
        omega)
      obtain ⟨y2, hy2⟩ : ∃ y2, y + c % 128 * 128 ^ i = y2 := ⟨_, rfl⟩
      rw [hy2] at HYN HYB ⊢
      have HY2 := Lib.hid hy2
      have hyb := HYB.out
      clear hy2
      by_cases hc8 : 128 ≤ c
      · have b1 : (c : Int) ≥ 128 := by omega
        by_cases h7 : i = 7
        · have b2 : (i : Int) = 7 := by omega
          have HF : Hid (R = .error (4, a)) := Lib.hid (by
            rw [← HR.out]; unfold rdAt
            rw [← HRD.out, HDR.out, h7, rd_seven (by rw [HC.out]; exact hc8)]
            rfl)
          subst h7
          go_wp2_with (go_at_call 104; refine (fault_calls _ _ _).mono ?_; rintro e w1 ⟨rfl, rfl⟩)
          go_ret3
          exact ⟨by rw [HF.out]; rfl, rfl⟩
        · have b2 : ¬ (i : Int) = 7 := by omega
          have HRN : Hid (rd (s.data.toList.drop (a + (i + 1))) (i + 1) y2 = rd (s.data.toList.drop a) 0 0) := Lib.hid (by
            rw [← HRD.out, HDR.out, rd_go (by rw [HC.out]; exact hc8) h7, HC.out, HY2.out])
          go_wp2
          go_roundw
          case rel => exact ⟨i + 1, y2, by go_num, by go_num, by omega, by omega, HYN, HRN, trivial⟩
          case measure => simp [intOf]; omega
      · have b1 : ¬ (c : Int) ≥ 128 := by omega
        by_cases hc0 : c = 0
        · by_cases hi0 : 0 < i
          · have b2 : (i : Int) > 0 := by omega
            have HF : Hid (R = .error (4, a)) := Lib.hid (by
              rw [← HR.out]; unfold rdAt
              rw [← HRD.out, HDR.out, rd_nought (by rw [HC.out]; exact hc0) hi0]
              rfl)
            subst hc0
            go_wp2_with (go_at_call 104; refine (fault_calls _ _ _).mono ?_; rintro e w1 ⟨rfl, rfl⟩)
            go_ret3
            exact ⟨by rw [HF.out]; rfl, rfl⟩
          · have HF : Hid (R = .ok (y2, a + i + 1)) := Lib.hid (by
              rw [← HR.out]; unfold rdAt
              rw [← HRD.out, HDR.out, rd_last (by rw [HC.out]; omega) (by omega), HC.out]
              have := HY2.out
              rw [show c % 128 = c by omega] at this
              rw [this]; rfl)
            have b2 : ¬ (i : Int) > 0 := by omega
            subst hc0
            go_wp2
            go_ret3
            exact ⟨by rw [HF.out]; rfl, rfl⟩
        · have b2 : ¬ (c : Int) = 0 := by omega
          have HF : Hid (R = .ok (y2, a + i + 1)) := Lib.hid (by
            rw [← HR.out]; unfold rdAt
            rw [← HRD.out, HDR.out, rd_last (by rw [HC.out]; omega) (by rw [HC.out]; omega), HC.out]
            have := HY2.out
            rw [show c % 128 = c by omega] at this
            rw [this]; rfl)
          go_wp2
          go_ret3
          exact ⟨by rw [HF.out]; rfl, rfl⟩
    · have HF : Hid (R = .error (3, n)) := Lib.hid (by
        rw [← HR.out]; unfold rdAt
        rw [← HRD.out, List.drop_of_length_le (by rw [HLN.out]; omega), rd, HLN.out]
        rfl)
      have i0 : ¬ (i : Int) < ((n - a : Nat) : Int) := by omega
      go_wp2_with (go_at_call 104; refine (fault_calls _ _ _).mono ?_; rintro e w1 ⟨rfl, rfl⟩)
      go_ret3
      exact ⟨by rw [HF.out]; rfl, rfl⟩
end Go.Proofs.YtjokfllldcjheaaGreatDoor.Oc
