/- The reference's Hex, walked. -/
import Derived.Test.YtmhjocbnoppbbaaShaK
import Derived.Laws.Concat
import Derived.Laws.Strings2
namespace Go.Proofs.Ytmhjocbnoppbbaa.Sha
open Go.RowKit
set_option linter.unusedVariables false
set_option linter.unusedSimpArgs false

def DIG : ByteArray := ⟨#[48, 49, 50, 51, 52, 53, 54, 55, 56, 57, 97, 98, 99, 100, 101, 102]⟩
theorem dig_cut : ∀ q, q < 16 → DIG.extract q (q + 1) = ⟨#[dgt q]⟩ := by decide
theorem run_cut_digit {P : Program} (t : TypeId) (h : P.underlying t = some .string) (q : Nat) (hq : q < 16) (w : World) :
    (Instr.slice t (.string ⟨#[48, 49, 50, 51, 52, 53, 54, 55, 56, 57, 97, 98, 99, 100, 101, 102]⟩) (some (.int .i64 (q : Int))) (some (.int .i64 ((q : Int) + 1))) none).run P w = .ok (.string ⟨#[dgt q]⟩) w := by
  rw [← dig_cut q hq]
  have e := run_slice_string (P := P) w t DIG .i64 .i64 (q : Int) ((q : Int) + 1) h (by omega) (by omega) (by show ((q : Int) + 1) ≤ 16; omega)
  simpa [DIG] using e

set_option maxHeartbeats 2000000 in
set_option maxRecDepth 100000 in
theorem refhex_calls (s : ByteArray) (w : World) (hsz : s.size ≤ 1000000) :
    Calls Try.prog 26 #[.string s] w fun e w' => e = .returned (.string (hexS s)) ∧ Below w.heap.size w w' := by
  go_enter Try.func26, Try.ntmps26
  go_wp2
  go_loopw [4, 5] (fun u i wr => ∃ (j : Nat) (t : ByteArray), i = .int .i64 (j : Int) ∧ u = .string t ∧ j ≤ s.size ∧ Hid (t.data.toList = hexB (s.data.toList.take j)) ∧ t.size ≤ 2 * j ∧ Hid (Below w.heap.size w wr)) (fun _ i _ => (s.size - intOf i).toNat)
  case atStart => exact ⟨0, ⟨#[]⟩, rfl, rfl, by omega, rfl, Nat.le_refl 0, Lib.hid (Below.refl _ _)⟩
  case round =>
    obtain ⟨j, t, rfl, rfl, hj, HT, hts, HB⟩ := hrel
    by_cases hlt : j < s.size
    · have hsl : s.data.toList.length = s.size := by rw [Array.length_toList]; rfl
      have hix := run_index_byte (P := Try.prog) 9 Try.underlying9 s j hlt
      have hsn := hexB_take s.data.toList j (by omega)
      have hxl := byt_lt s.data.toList j
      obtain ⟨x, hx⟩ : ∃ x, byt s.data.toList j = x := ⟨_, rfl⟩
      rw [hx] at hix hsn hxl
      have hd1 : ∀ (w : World), (Instr.slice 9 (.string ⟨#[48, 49, 50, 51, 52, 53, 54, 55, 56, 57, 97, 98, 99, 100, 101, 102]⟩) (some (.int .i64 ((x : Int) / 16))) (some (.int .i64 ((x : Int) / 16 + 1))) none).run Try.prog w = .ok (.string ⟨#[dgt (x / 16)]⟩) w := fun w =>
        run_cut_digit (P := Try.prog) 9 Try.underlying9 (x / 16) (by omega) w
      have hd2 : ∀ (w : World), (Instr.slice 9 (.string ⟨#[48, 49, 50, 51, 52, 53, 54, 55, 56, 57, 97, 98, 99, 100, 101, 102]⟩) (some (.int .i64 ((x : Int) % 16))) (some (.int .i64 ((x : Int) % 16 + 1))) none).run Try.prog w = .ok (.string ⟨#[dgt (x % 16)]⟩) w := fun w =>
        run_cut_digit (P := Try.prog) 9 Try.underlying9 (x % 16) (by omega) w
      obtain ⟨d1, he1⟩ : ∃ d, dgt (x / 16) = d := ⟨_, rfl⟩
      obtain ⟨d2, he2⟩ : ∃ d, dgt (x % 16) = d := ⟨_, rfl⟩
      rw [he1] at hd1 hsn
      rw [he2] at hd2 hsn
      have one1 : (⟨#[d1]⟩ : ByteArray).size = 1 := rfl
      have one2 : (⟨#[d2]⟩ : ByteArray).size = 1 := rfl
      have ha1 : ∀ w, (Op.stringOp .add t ⟨#[d1]⟩).run Try.prog w = .ok (.string (t ++ ⟨#[d1]⟩)) w := fun w => run_string_add_sum w t ⟨#[d1]⟩ (by omega)
      have ha2 : ∀ w, (Op.stringOp .add (t ++ ⟨#[d1]⟩) ⟨#[d2]⟩).run Try.prog w = .ok (.string (t ++ ⟨#[d1]⟩ ++ ⟨#[d2]⟩)) w := fun w => run_string_add_sum w (t ++ ⟨#[d1]⟩) ⟨#[d2]⟩ (by rw [ByteArray.size_append]; omega)
      have hnew : (t ++ ⟨#[d1]⟩ ++ ⟨#[d2]⟩ : ByteArray).data.toList = hexB (s.data.toList.take (j + 1)) := by
        rw [hsn, ← HT.out]; simp
      have hnsz : (t ++ ⟨#[d1]⟩ ++ ⟨#[d2]⟩ : ByteArray).size ≤ 2 * (j + 1) := by rw [ByteArray.size_append, ByteArray.size_append]; omega
      have HN := Lib.hid hnew
      have HZ := Lib.hid hnsz
      have j0 : (j : Int) < (s.size : Int) := by omega
      have j1 : (0 : Int) ≤ (j : Int) := by omega
      clear hnew hnsz hsn hx hsl he1 he2 one1 one2
      go_wp2
      go_quiet (fail)
      go_wp2
      go_quiet (fail)
      go_wp2
      go_roundw
      case rel => exact ⟨j + 1, t ++ ⟨#[d1]⟩ ++ ⟨#[d2]⟩, by go_num, rfl, by omega, HN, HZ.out, Lib.hid (below_drewN HB.out _)⟩
      case measure => simp [intOf]; omega
    · obtain rfl : j = s.size := by omega
      have hsl : s.data.toList.length = s.size := by rw [Array.length_toList]; rfl
      have ht := HT.out
      rw [List.take_of_length_le (by omega)] at ht
      have he : t = hexS s := by
        unfold hexS
        rw [← ht]
      have HE := Lib.hid he
      clear hsl hj hlt he ht
      go_wp2
      go_ret
      exact ⟨by rw [HE.out]; rfl, HB.out⟩
end Go.Proofs.Ytmhjocbnoppbbaa.Sha
