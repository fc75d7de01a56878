/- csr: BinarySearch, Has. -/
import Derived.Test.YtjokfllldcjheaaGreatDoorCu
namespace Go.Proofs.YtjokfllldcjheaaGreatDoor.Cs
open Go.RowKit Go.Proofs.YtjokfllldcjheaaGreatDoor.Ed Go.Proofs.YtjokfllldcjheaaGreatDoor.Ro
set_option linter.unusedVariables false
set_option linter.unusedSimpArgs false

/-- all ahead of a are less, none from b on is -/
structure Bs (zs : List Int) (x : Int) (a b : Nat) : Prop where
  low : ∀ t, t < a → zs.getD t 0 < x
  high : ∀ t, b ≤ t → t < zs.length → x ≤ zs.getD t 0
theorem getD_lt {zs : List Int} (h : zs.Pairwise (· < ·)) {i j : Nat} (hij : i < j) (hj : j < zs.length) : zs.getD i 0 < zs.getD j 0 := by
  have := (List.pairwise_iff_getElem.1 h) i j (by omega) hj hij
  simpa [List.getD_eq_getElem?_getD, hj, show i < zs.length by omega] using this
theorem Bs.left {zs : List Int} {x : Int} {a b h : Nat} (hb : Bs zs x a b) (ha : zs.Pairwise (· < ·)) (hl : h < zs.length) (hx : zs.getD h 0 < x) : Bs zs x (h + 1) b :=
  ⟨fun t ht => by
    by_cases e : t = h
    · subst e; exact hx
    · have := getD_lt ha (show t < h by omega) hl; omega, hb.high⟩
theorem Bs.right {zs : List Int} {x : Int} {a b h : Nat} (hb : Bs zs x a b) (ha : zs.Pairwise (· < ·)) (hx : ¬ zs.getD h 0 < x) : Bs zs x a h :=
  ⟨hb.low, fun t ht hl => by
    by_cases e : t = h
    · subst e; omega
    · have := getD_lt ha (show h < t by omega) hl; omega⟩
theorem Bs.found {zs : List Int} {x : Int} {a : Nat} (hb : Bs zs x a a) (ha : zs.Pairwise (· < ·)) : (x ∈ zs) ↔ (a < zs.length ∧ zs.getD a 0 = x) := by
  constructor
  · intro h
    obtain ⟨i, hi, e⟩ := List.mem_iff_getElem.1 h
    have e' : zs.getD i 0 = x := by simpa [List.getD_eq_getElem?_getD, hi] using e
    by_cases h1 : i < a
    · have := hb.low i h1; omega
    · by_cases h2 : i = a
      · subst h2; exact ⟨hi, e'⟩
      · have h3 := hb.high a (Nat.le_refl _) (by omega)
        have h4 := getD_lt ha (show a < i by omega) hi
        omega
  · rintro ⟨h1, h2⟩
    rw [← h2, List.getD_eq_getElem?_getD, List.getElem?_eq_getElem h1]
    exact List.getElem_mem _
section
variable {w : World} {B p bb N : Nat} {tv : Value} {l : List E2}
end
end Go.Proofs.YtjokfllldcjheaaGreatDoor.Cs
