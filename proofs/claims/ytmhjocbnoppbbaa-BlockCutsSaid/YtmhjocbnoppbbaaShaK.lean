/- SHA-256: sha.Hex. -/
import Derived.Test.YtmhjocbnoppbbaaShaJ
namespace Go.Proofs.Ytmhjocbnoppbbaa.Sha
open Go.RowKit
set_option linter.unusedVariables false
set_option linter.unusedSimpArgs false

/-- a number's digit -/
def dgt (x : Nat) : UInt8 := [48, 49, 50, 51, 52, 53, 54, 55, 56, 57, 97, 98, 99, 100, 101, 102].getD x 0
def hexB (bs : List UInt8) : List UInt8 := bs.flatMap fun b => [dgt (b.toNat / 16), dgt (b.toNat % 16)]
def hexS (s : ByteArray) : ByteArray := ⟨(hexB s.data.toList).toArray⟩
theorem hexB_take (bs : List UInt8) (j : Nat) (h : j < bs.length) : hexB (bs.take (j + 1)) = hexB (bs.take j) ++ [dgt (byt bs j / 16), dgt (byt bs j % 16)] := by
  unfold hexB
  rw [List.take_succ_eq_append_getElem h, List.flatMap_append]
  congr 1
  simp [byt, h]
theorem hexB_length (bs : List UInt8) : (hexB bs).length = 2 * bs.length := by
  induction bs with
  | nil => rfl
  | cons x bs ih =>
    unfold hexB at ih ⊢
    rw [List.flatMap_cons, List.length_append, ih]
    simp; omega
/-- the append at a step of a region that draws -/
theorem OB.append_wp {o : Oper} {a : Act} {w : World} {K : Act → World → Prop} {Q : Exit → Act → World → Prop} {E : Prop} {ops : Array Oper} {base : Nat} {v : Value} {xs : List UInt8} (HO : OB w base v xs) {g : Nat} {y : Value} {ys : List UInt8} (HR : RB w g y ys) (hgd : o.guard = none) (s x : Operand)
    (ho : o.op = .call { callee := .builtin .append, args := #[s, x], argTypes := #[64, 64] }) (hs : a.eval s = v) (hx : a.eval x = y)
    (hbase : base ≤ w.heap.size) (hl : xs.length + ys.length ≤ 140737488355328)
    (k : ∀ v1 w1, OB w1 base v1 (xs ++ ys) → w.grownBy w1 v.ownBlock → K (a.put o.dst v1) w1) : if Region.wanted o (yielded ops a.tmps) = true then Oper.wp Try.prog o a w K Q else E := by
  obtain ⟨v1, w1, hr, k2, k3, k5⟩ := OB.append_run HO HR o.type hbase hl
  exact Sha.append_wp hgd s x _ _ ho hs hx hr (k v1 w1 k2 k3)

/-- a byte of a text -/
theorem run_index_byte {P : Program} (t : TypeId) (h : P.underlying t = some .string) (s : ByteArray) (j : Nat) (hj : j < s.size) (k : IntKind) (w : World) :
    (Instr.index t (.string s) (.int k (j : Int))).run P w = .ok (.int .u8 ((byt s.data.toList j : Nat) : Int)) w := by
  have hj2 : j < s.data.size := hj
  rw [run_index_string w t s k j h]
  rw [dif_pos (by omega)]
  have e : s[(j : Int).toNat]'(by simpa using hj) = s.data.toList.getD j 0 := by
    simp [List.getD_eq_getElem?_getD, hj2, ByteArray.getElem_eq_getElem_data]
    rw [Array.getElem?_eq_getElem hj2]; rfl
  rw [e]; rfl
theorem run_index_digit {P : Program} (t : TypeId) (h : P.underlying t = some .string) (j : Nat) (hj : j < 16) (k : IntKind) (w : World) :
    (Instr.index t (.string ⟨#[48, 49, 50, 51, 52, 53, 54, 55, 56, 57, 97, 98, 99, 100, 101, 102]⟩) (.int k (j : Int))).run P w = .ok (.int .u8 (((dgt j).toNat : Nat) : Int)) w :=
  run_index_byte t h ⟨#[48, 49, 50, 51, 52, 53, 54, 55, 56, 57, 97, 98, 99, 100, 101, 102]⟩ j hj k w

set_option maxRecDepth 100000 in
theorem and15 : ∀ x, x < 256 → bits .and .u8 ((x : Nat) : Int) 15 = (x : Int) % 16 := by decide

set_option maxHeartbeats 2000000 in
set_option maxRecDepth 100000 in
theorem hex_calls (s : ByteArray) (w : World) (hsz : s.size ≤ 1000000) :
    Calls Try.prog 25 #[.string s] w fun e w' => e = .returned (.string (hexS s)) ∧ Below w.heap.size w w' := by
  go_enter Try.func25, Try.ntmps25
  have HO : Hid (OB w w.heap.size (.slice none 0 0) []) := Lib.hid (OB.nil w w.heap.size)
  go_wp2
  go_loopw [3, 7] (fun u i wr => ∃ (j : Nat), i = .int .i64 (j : Int) ∧ j ≤ s.size ∧ Hid (OB wr w.heap.size u (hexB (s.data.toList.take j))) ∧ Hid (Below w.heap.size w wr)) (fun _ i _ => (s.size - intOf i).toNat)
  case atStart => exact ⟨0, rfl, by omega, HO, Lib.hid (Below.refl _ _)⟩
  case round =>
    clear HO
    obtain ⟨j, rfl, hj, HO, HB⟩ := hrel
    have hbw := HB.out.size
    by_cases hlt : j < s.size
    · have hsl : s.data.toList.length = s.size := by rw [Array.length_toList]; rfl
      have hix := run_index_byte (P := Try.prog) 9 Try.underlying9 s j hlt
      have hsn := hexB_take s.data.toList j (by omega)
      have hxl := byt_lt s.data.toList j
      obtain ⟨x, hx⟩ : ∃ x, byt s.data.toList j = x := ⟨_, rfl⟩
      rw [hx] at hix hsn hxl
      have hd1 : ∀ (k : IntKind) (w : World), (Instr.index 9 (.string ⟨#[48, 49, 50, 51, 52, 53, 54, 55, 56, 57, 97, 98, 99, 100, 101, 102]⟩) (.int k ((x : Int) / 16))).run Try.prog w = .ok (.int .u8 (((dgt (x / 16)).toNat : Nat) : Int)) w := fun k w =>
        run_index_digit (P := Try.prog) 9 Try.underlying9 (x / 16) (by omega) k w
      have hd2 : ∀ (k : IntKind) (w : World), (Instr.index 9 (.string ⟨#[48, 49, 50, 51, 52, 53, 54, 55, 56, 57, 97, 98, 99, 100, 101, 102]⟩) (.int k ((x : Int) % 16))).run Try.prog w = .ok (.int .u8 (((dgt (x % 16)).toNat : Nat) : Int)) w := fun k w =>
        run_index_digit (P := Try.prog) 9 Try.underlying9 (x % 16) (by omega) k w
      have hand := and15 x hxl
      obtain ⟨d1, he1⟩ : ∃ d, dgt (x / 16) = d := ⟨_, rfl⟩
      obtain ⟨d2, he2⟩ : ∃ d, dgt (x % 16) = d := ⟨_, rfl⟩
      rw [he1] at hd1 hsn
      rw [he2] at hd2 hsn
      have hlen : (hexB (s.data.toList.take j)).length ≤ 2000000 := by
        rw [hexB_length, List.length_take]; omega
      have HLEN := Lib.hid hlen
      have HSN := Lib.hid hsn
      have j0 : (j : Int) < (s.size : Int) := by omega
      have j1 : (0 : Int) ≤ (j : Int) := by omega
      clear hlen hsn hx hsl he1 he2
      go_upto_region 5 with (fail)
      have hz0 : wr.heap.size ≤ wr.heap.size := Nat.le_refl _
      go_region_held3 (fun w' => w.heap.size ≤ w'.heap.size ∧ wr.heap.size ≤ w'.heap.size) (first | (go_keep; done) | exact ⟨by simp; omega, by simp⟩ | (have := hg1.size; exact ⟨by simp at this; omega, by simp at this; omega⟩))
        ((refine OB.append_wp (ops := _) (base := w.heap.size) (OB.alloc HO.out _) (RB.lit _ [d1, d2] _ rfl 2 rfl (by simp)) rfl _ _ (by rfl) (by rfl) (by rfl) (by simp; omega) (by have := HLEN.out; simp; omega) ?_; intro v1 w1 h1 hg1))
      all_goals (try go_wp2)
      all_goals (go_roundw)
      all_goals first
        | (refine ⟨j + 1, by go_num, by omega, ?_, Lib.hid ((HB.out.drew.alloc (by simp; omega) _).grown hg1 (by simp; omega) (OB.base HO.out))⟩
           rw [HSN.out]
           exact h1)
        | (simp [intOf]; omega)
    · obtain rfl : j = s.size := by omega
      obtain ⟨g2, hr2, -⟩ := HO.out.reads
      have hsl : s.data.toList.length = s.size := by rw [Array.length_toList]; rfl
      rw [List.take_of_length_le (by omega)] at hr2
      have hcv := hr2.string_run
      have HS : Hid ((⟨(hexB s.data.toList).toArray⟩ : ByteArray) = hexS s) := rfl
      have HB2 := Lib.hid HB.out
      clear hsl hr2 hj hlt
      go_wp2
      go_ret
      exact ⟨rfl, HB2.out⟩
end Go.Proofs.Ytmhjocbnoppbbaa.Sha
