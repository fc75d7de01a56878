/- csr: BinarySearch, Has. · csr: List; the example of layer 5. -/
import Derived.Test.YtjokfllldcjheaaGreatDoorCu
/- csr: BinarySearch, Has. -/
namespace Go.Proofs.YtjokfllldcjheaaGreatDoor.Cs
open Go.RowKit Go.Proofs.YtjokfllldcjheaaGreatDoor.Ed Go.Proofs.YtjokfllldcjheaaGreatDoor.Ro
set_option linter.unusedVariables false
set_option linter.unusedSimpArgs false

/-- all ahead of a are less, none from b on is -/
structure Bs (zs : List Int) (x : Int) (a b : Nat) : Prop where
  low : ∀ t, t < a → zs.getD t 0 < x
  high : ∀ t, b ≤ t → t < zs.length → x ≤ zs.getD t 0
theorem getD_lt {zs : List Int} (h : zs.Pairwise (· < ·)) {i j : Nat} (hij : i < j) (hj : j < zs.length) : zs.getD i 0 < zs.getD j 0 := by
  have := (List.pairwise_iff_getElem.1 h) i j (by omega) hj hij
  simpa [List.getD_eq_getElem?_getD, hj, show i < zs.length by omega] using this
theorem Bs.left {zs : List Int} {x : Int} {a b h : Nat} (hb : Bs zs x a b) (ha : zs.Pairwise (· < ·)) (hl : h < zs.length) (hx : zs.getD h 0 < x) : Bs zs x (h + 1) b :=
  ⟨fun t ht => by
    by_cases e : t = h
    · subst e; exact hx
    · have := getD_lt ha (show t < h by omega) hl; omega, hb.high⟩
theorem Bs.right {zs : List Int} {x : Int} {a b h : Nat} (hb : Bs zs x a b) (ha : zs.Pairwise (· < ·)) (hx : ¬ zs.getD h 0 < x) : Bs zs x a h :=
  ⟨hb.low, fun t ht hl => by
    by_cases e : t = h
    · subst e; omega
    · have := getD_lt ha (show h < t by omega) hl; omega⟩
theorem Bs.found {zs : List Int} {x : Int} {a : Nat} (hb : Bs zs x a a) (ha : zs.Pairwise (· < ·)) : (x ∈ zs) ↔ (a < zs.length ∧ zs.getD a 0 = x) := by
  constructor
  · intro h
    obtain ⟨i, hi, e⟩ := List.mem_iff_getElem.1 h
    have e' : zs.getD i 0 = x := by simpa [List.getD_eq_getElem?_getD, hi] using e
    by_cases h1 : i < a
    · have := hb.low i h1; omega
    · by_cases h2 : i = a
      · subst h2; exact ⟨hi, e'⟩
      · have h3 := hb.high a (Nat.le_refl _) (by omega)
        have h4 := getD_lt ha (show a < i by omega) hi
        omega
  · rintro ⟨h1, h2⟩
    rw [← h2, List.getD_eq_getElem?_getD, List.getElem?_eq_getElem h1]
    exact List.getElem_mem _
section
variable {w : World} {B p bb N : Nat} {tv : Value} {l : List E2}
end
end Go.Proofs.YtjokfllldcjheaaGreatDoor.Cs
/- csr: List; the example of layer 5. -/
namespace Go.Proofs.YtjokfllldcjheaaGreatDoor.Cs
open Go.RowKit Go.Proofs.YtjokfllldcjheaaGreatDoor.Ed Go.Proofs.YtjokfllldcjheaaGreatDoor.Ro
set_option linter.unusedVariables false
set_option linter.unusedSimpArgs false

/-- the edges of the nodes below v, and k of v's -/
def lsts (l : List E2) (v k : Nat) : List E2 := lists l v ++ ((tgt l v).take k).map fun w => ((v : Int), w)
theorem lsts_zero (l : List E2) (v : Nat) : lsts l v 0 = lists l v := by simp [lsts]
theorem lsts_all (l : List E2) (v : Nat) : lsts l v (deg l v) = lists l (v + 1) := by
  unfold lsts
  rw [← tgt_len, List.take_length, lists]
theorem lsts_succ (l : List E2) (v k : Nat) (h : k < deg l v) : lsts l v (k + 1) = lsts l v k ++ [((v : Int), (tgt l v).getD k 0)] := by
  unfold lsts
  have hk : k < (tgt l v).length := by rw [tgt_len]; exact h
  rw [List.take_add_one, List.getElem?_eq_getElem hk, Option.toList_some, List.map_append, ← List.append_assoc, List.getD_eq_getElem?_getD, List.getElem?_eq_getElem hk]
  rfl
theorem lists_len {l : List E2} (h : Up l) (h0 : ∀ e ∈ l, 0 ≤ e.1) (n : Nat) : (lists l n).length ≤ l.length := by
  rw [lists_take h h0, List.length_take]; omega
theorem lsts_len {l : List E2} (h : Up l) (h0 : ∀ e ∈ l, 0 ≤ e.1) (v k : Nat) : (lsts l v k).length ≤ l.length := by
  have h1 := lists_len h h0 (v + 1)
  rw [lists, List.length_append, List.length_map, tgt_len] at h1
  unfold lsts
  rw [List.length_append, List.length_map, List.length_take, tgt_len]
  omega
theorem aw_wrg : wrg ((3 : Nat) : Int) [(2, 0), (0, 1)] = -2 := by decide
theorem aw_nrm : nrm [(2, 0), (0, 1)] = [(0, 1), (2, 0)] := by decide
theorem aw_tgt : tgt [(0, 1), (2, 0)] ((2 : Nat) : Int) = [0] := by decide
theorem aw_bel : bel [(0, 1), (2, 0)] ((3 : Nat) : Int) = 2 := by decide
end Go.Proofs.YtjokfllldcjheaaGreatDoor.Cs
