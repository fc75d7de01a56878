/- The reference's roots, reckoned by the kernel: part 2. -/
import Derived.Test.YtmhjocbnoppbbaaDoorRefK1
namespace Go.Proofs.YtmhjocbnoppbbaaDoor.Ref
theorem root_4 : ∀ i, i < 8 → ladingref02_broken.f 150 (PR.getD (32 + i) 0) true = some ((Sha.K64.getD (32 + i) 0 : Nat) : Int) := by decide +kernel
theorem root_5 : ∀ i, i < 8 → ladingref02_broken.f 150 (PR.getD (40 + i) 0) true = some ((Sha.K64.getD (40 + i) 0 : Nat) : Int) := by decide +kernel
theorem root_6 : ∀ i, i < 8 → ladingref02_broken.f 150 (PR.getD (48 + i) 0) true = some ((Sha.K64.getD (48 + i) 0 : Nat) : Int) := by decide +kernel
theorem root_7 : ∀ i, i < 8 → ladingref02_broken.f 150 (PR.getD (56 + i) 0) true = some ((Sha.K64.getD (56 + i) 0 : Nat) : Int) := by decide +kernel
theorem root64 (i : Nat) (hi : i < 64) : ladingref02_broken.f 150 (PR.getD i 0) true = some ((Sha.K64.getD i 0 : Nat) : Int) := by
  have h : i / 8 = 0 ∨ i / 8 = 1 ∨ i / 8 = 2 ∨ i / 8 = 3 ∨ i / 8 = 4 ∨ i / 8 = 5 ∨ i / 8 = 6 ∨ i / 8 = 7 := by omega
  have e : i = 8 * (i / 8) + i % 8 := by omega
  have hm : i % 8 < 8 := by omega
  rcases h with h | h | h | h | h | h | h | h <;> rw [e, h]
  · exact root_0 _ hm
  · exact root_1 _ hm
  · exact root_2 _ hm
  · exact root_3 _ hm
  · exact root_4 _ hm
  · exact root_5 _ hm
  · exact root_6 _ hm
  · exact root_7 _ hm
end Go.Proofs.YtmhjocbnoppbbaaDoor.Ref
