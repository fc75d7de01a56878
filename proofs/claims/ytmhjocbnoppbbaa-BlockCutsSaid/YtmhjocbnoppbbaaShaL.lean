/- SHA-256: the document's example, reckoned by the kernel. -/
import Derived.Test.YtmhjocbnoppbbaaShaK
namespace Go.Proofs.Ytmhjocbnoppbbaa.Sha
open Go.RowKit
set_option linter.unusedVariables false
set_option linter.unusedSimpArgs false

set_option maxRecDepth 100000 in
theorem dig_abc : hexB (digB (dW [97, 98, 99])) = [98, 97, 55, 56, 49, 54, 98, 102, 56, 102, 48, 49, 99, 102, 101, 97, 52, 49, 52, 49, 52, 48, 100, 101, 53, 100, 97, 101, 50, 50, 50, 51, 98, 48, 48, 51, 54, 49, 97, 51, 57, 54, 49, 55, 55, 97, 57, 99, 98, 52, 49, 48, 102, 102, 54, 49, 102, 50, 48, 48, 49, 53, 97, 100] := by
  decide +kernel

/-- the texts of a row that was laid for a call -/
theorem SR.lit (w : World) (ss : List ByteArray) (cs : Array Value) (hcs : cs = (ss.map Value.string).toArray) (n : Nat) (hn : n = ss.length) (h : ss.length ≤ 9223372036854775807) : SR (w.alloc (.cells cs 9)) w.heap.size (.slice (some ⟨w.heap.size, 0, none⟩) n n) ss := by
  subst hcs hn
  refine ⟨_, _, rfl, Nat.le_refl _, h, fun _ => ⟨_, rfl, rfl, fun i hi => ?_⟩⟩
  rw [show (⟨w.heap.size, 0, none⟩ : Addr).add i = ⟨w.heap.size, 0 + i, none⟩ by unfold Addr.add; split <;> simp_all, cell_of_row _ w.heap.size (0 + i) _ 9 (0, 0) (heap_alloc_new w _)]
  simp [hi]
theorem cat_one (s : ByteArray) : cat [s] = s.data.toList := by simp [cat]

set_option maxRecDepth 100000 in
theorem awake_calls (w : World) : Calls Try.prog 16 #[] w fun e w' => e = .returned (.bool true) ∧ Hid (Below w.heap.size w w') := by
  have h1 : hexS (dig (cat [⟨#[97, 98, 99]⟩])) = ⟨#[98, 97, 55, 56, 49, 54, 98, 102, 56, 102, 48, 49, 99, 102, 101, 97, 52, 49, 52, 49, 52, 48, 100, 101, 53, 100, 97, 101, 50, 50, 50, 51, 98, 48, 48, 51, 54, 49, 97, 51, 57, 54, 49, 55, 55, 97, 57, 99, 98, 52, 49, 48, 102, 102, 54, 49, 102, 50, 48, 48, 49, 53, 97, 100]⟩ := by
    have := dig_abc
    unfold hexS dig
    rw [show cat [⟨#[97, 98, 99]⟩] = [97, 98, 99] by simp [cat]]
    simp only [this]
  have h2 : (dig (cat [⟨#[97, 98, 99]⟩])).size ≤ 1000000 := by
    show (digB _).toArray.size ≤ _
    rw [List.size_toArray, digB_length, dW_length]; omega
  obtain ⟨D, hD⟩ : ∃ D, dig (cat [⟨#[97, 98, 99]⟩]) = D := ⟨_, rfl⟩
  rw [hD] at h1 h2
  have H1 := Lib.hid h1
  have HD := Lib.hid hD
  clear h1 hD
  go_enter Try.func16, Try.ntmps16
  go_wp2_with (first
    | (go_at_call 20; refine (sum_calls w.heap.size _ [⟨#[97, 98, 99]⟩] _ (SR.lit w [⟨#[97, 98, 99]⟩] _ rfl 1 rfl (by simp)) (by simp [cat])).mono ?_; rw [HD.out]; rintro e w1 ⟨rfl, hb1⟩; have HB1 := Lib.hid hb1; clear hb1)
    | (go_at_call 25; refine (hex_calls D w1 h2).mono ?_; rw [H1.out]; rintro e w2 ⟨rfl, hb2⟩; have HB2 := Lib.hid hb2; clear hb2))
  go_ret
  have h3 : Below w.heap.size w w1 := Below.trans ((Below.refl _ _).alloc (Nat.le_refl _) _) (HB1.out.mono (by simp))
  exact ⟨rfl, h3.trans (HB2.out.mono h3.size)⟩
end Go.Proofs.Ytmhjocbnoppbbaa.Sha
