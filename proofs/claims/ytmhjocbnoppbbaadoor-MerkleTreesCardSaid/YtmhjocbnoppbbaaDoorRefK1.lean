/- The reference's roots, reckoned by the kernel: part 1. -/
import Derived.Test.YtmhjocbnoppbbaaDoorRefD
import Derived.Test.YtmhjocbnoppbbaaDoorShaG
namespace Go.Proofs.YtmhjocbnoppbbaaDoor.Ref
/-- the first 64 primes -/
def PR : List Int := [2, 3, 5, 7, 11, 13, 17, 19, 23, 29, 31, 37, 41, 43, 47, 53, 59, 61, 67, 71, 73, 79, 83, 89, 97, 101, 103, 107, 109, 113, 127, 131, 137, 139, 149, 151, 157, 163, 167, 173, 179, 181, 191, 193, 197, 199, 211, 223, 227, 229, 233, 239, 241, 251, 257, 263, 269, 271, 277, 281, 283, 293, 307, 311]
theorem pr64 : ladingref02_primes.f 12000 64 = some PR := by decide +kernel
theorem pr8 : ladingref02_primes.f 12000 8 = some (PR.take 8) := by decide +kernel
theorem root8 : ∀ i, i < 8 → ladingref02_broken.f 150 ((PR.take 8).getD i 0) false = some ((Sha.H8.getD i 0 : Nat) : Int) := by decide +kernel
theorem root_0 : ∀ i, i < 8 → ladingref02_broken.f 150 (PR.getD (0 + i) 0) true = some ((Sha.K64.getD (0 + i) 0 : Nat) : Int) := by decide +kernel
theorem root_1 : ∀ i, i < 8 → ladingref02_broken.f 150 (PR.getD (8 + i) 0) true = some ((Sha.K64.getD (8 + i) 0 : Nat) : Int) := by decide +kernel
theorem root_2 : ∀ i, i < 8 → ladingref02_broken.f 150 (PR.getD (16 + i) 0) true = some ((Sha.K64.getD (16 + i) 0 : Nat) : Int) := by decide +kernel
theorem root_3 : ∀ i, i < 8 → ladingref02_broken.f 150 (PR.getD (24 + i) 0) true = some ((Sha.K64.getD (24 + i) 0 : Nat) : Int) := by decide +kernel
end Go.Proofs.YtmhjocbnoppbbaaDoor.Ref
