/- Rows of targets in plain numbers: where each begins; a node's targets are a piece of all of them. -/
import Derived.Test.YtjokfllldcjheaaGreatDoorEp
namespace Go.Proofs.YtjokfllldcjheaaGreatDoor.Ed
set_option linter.unusedVariables false
set_option linter.unusedSimpArgs false

/-- a node's targets -/
def tgt (l : List E2) (v : Int) : List Int := (l.filter fun e => decide (e.1 = v)).map (·.2)
/-- all targets -/
def tos (l : List E2) : List Int := l.map (·.2)
theorem tgt_len (l : List E2) (v : Int) : (tgt l v).length = deg l v := by
  unfold tgt deg
  rw [List.length_map, List.countP_eq_length_filter]
theorem tos_len (l : List E2) : (tos l).length = l.length := List.length_map _
theorem bel_le (l : List E2) (v : Int) : bel l v ≤ l.length := List.countP_le_length
theorem bel_mono (l : List E2) {v w : Int} (h : v ≤ w) : bel l v ≤ bel l w := by
  unfold bel
  exact List.countP_mono_left fun e _ he => by
    simp only [decide_eq_true_eq] at *
    omega
theorem lt_fst {a b : E2} (h : Lt a b) : a.1 ≤ b.1 := by unfold Lt at h; omega
/-- of edges that rise, those of a node lie together -/
theorem piece (l : List E2) (h : Up l) (v : Int) : (l.drop (bel l v)).take (deg l v) = l.filter fun e => decide (e.1 = v) := by
  induction l with
  | nil => rfl
  | cons x xs ih =>
    obtain ⟨h1, h2⟩ := List.pairwise_cons.1 h
    have ih := ih h2
    have hx : ∀ a ∈ xs, x.1 ≤ a.1 := fun a ha => lt_fst (h1 a ha)
    by_cases c1 : x.1 < v
    · have e1 : bel (x :: xs) v = bel xs v + 1 := by simp [bel, c1]
      have e2 : deg (x :: xs) v = deg xs v := by unfold deg; rw [List.countP_cons, if_neg (by simp; omega)]; rfl
      rw [e1, e2, List.drop_succ_cons, ih, List.filter_cons, if_neg (by simp; omega)]
    · have e1 : bel (x :: xs) v = 0 := by
        unfold bel
        rw [List.countP_eq_zero]
        intro a ha
        rcases List.mem_cons.1 ha with rfl | ha
        · simpa using c1
        · have := hx a ha; simp; omega
      have e1' : bel xs v = 0 := by
        unfold bel
        rw [List.countP_eq_zero]
        intro a ha
        have := hx a ha; simp; omega
      rw [e1] at *
      rw [e1'] at ih
      rw [List.drop_zero] at *
      by_cases c2 : x.1 = v
      · have e2 : deg (x :: xs) v = deg xs v + 1 := by simp [deg, c2]
        rw [e2, List.take_succ_cons, ih, List.filter_cons, if_pos (by simpa using c2)]
      · have e2 : deg (x :: xs) v = 0 := by
          unfold deg
          rw [List.countP_eq_zero]
          intro a ha
          rcases List.mem_cons.1 ha with rfl | ha
          · simpa using c2
          · have := hx a ha; simp; omega
        rw [e2, List.take_zero]
        symm
        rw [List.filter_eq_nil_iff]
        intro a ha
        rcases List.mem_cons.1 ha with rfl | ha
        · simpa using c2
        · have := hx a ha; simp; omega
theorem tgt_piece (l : List E2) (h : Up l) (v : Int) : tgt l v = ((tos l).drop (bel l v)).take (deg l v) := by
  unfold tgt tos
  rw [← piece l h v, List.map_take, List.map_drop]
theorem tgt_get (l : List E2) (h : Up l) (v : Int) (i : Nat) (hi : i < deg l v) : (tgt l v).getD i 0 = (tos l).getD (bel l v + i) 0 := by
  rw [tgt_piece l h, List.getD_eq_getElem?_getD, List.getD_eq_getElem?_getD, List.getElem?_take, if_pos hi, List.getElem?_drop]
theorem bel_deg (l : List E2) (v : Int) : bel l v + deg l v ≤ l.length := by rw [← bel_step]; exact bel_le _ _
theorem mem_tgt {l : List E2} {v w : Int} : w ∈ tgt l v ↔ (v, w) ∈ l := by
  unfold tgt
  simp only [List.mem_map, List.mem_filter, decide_eq_true_eq]
  constructor
  · rintro ⟨⟨a, b⟩, ⟨h1, h2⟩, h3⟩
    simp only at h2 h3
    subst h2 h3
    exact h1
  · intro h; exact ⟨(v, w), ⟨h, rfl⟩, rfl⟩
/-- a node's targets rise -/
theorem tgt_asc {l : List E2} (h : Up l) (v : Int) : (tgt l v).Pairwise (· < ·) := by
  unfold tgt
  rw [List.pairwise_map]
  have h1 : (l.filter fun e => decide (e.1 = v)).Pairwise Lt := h.filter _
  refine List.Pairwise.imp_of_mem (fun {a b} ha hb hab => ?_) h1
  have ea := (List.mem_filter.1 ha).2
  have eb := (List.mem_filter.1 hb).2
  simp only [decide_eq_true_eq] at ea eb
  unfold Lt at hab
  omega
/-- all nodes' targets, one behind the other, are the edges -/
def lists (l : List E2) : Nat → List E2
  | 0 => []
  | n + 1 => lists l n ++ (tgt l n).map fun w => ((n : Int), w)
theorem lists_take {l : List E2} (h : Up l) (h0 : ∀ e ∈ l, 0 ≤ e.1) : ∀ n, lists l n = l.take (bel l n)
  | 0 => by rw [show ((0 : Nat) : Int) = 0 from rfl, bel_zero l h0]; rfl
  | n + 1 => by
    rw [lists, lists_take h h0 n, show ((n + 1 : Nat) : Int) = (n : Int) + 1 by omega, bel_step, List.take_add, piece l h]
    congr 1
    unfold tgt
    rw [List.map_map]
    conv => rhs; rw [← List.map_id (l.filter _)]
    refine List.map_congr_left fun e he => ?_
    have := (List.mem_filter.1 he).2
    simp only [decide_eq_true_eq] at this
    obtain ⟨a, b⟩ := e
    simp only at this
    subst this
    rfl
theorem lists_all {l : List E2} (h : Up l) (N : Nat) (hok : ∀ e ∈ l, okE N e) : lists l N = l := by
  rw [lists_take h (fun e he => (hok e he).1), bel_all l N fun e he => (hok e he).2.2.1, List.take_length]
end Go.Proofs.YtjokfllldcjheaaGreatDoor.Ed
