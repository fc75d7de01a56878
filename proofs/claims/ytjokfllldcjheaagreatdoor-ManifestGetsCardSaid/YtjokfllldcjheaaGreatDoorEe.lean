/- Edges in plain numbers: how they stand, normalised lists, degrees, what may not be; no program in sight. · Rows of edges in memory: read (ER), of the call's own (EO), appended to; an argument opened. · edges: the small functions: Compare, Or, order, wrong, Check, Clone. · edges: order, Clone, wrong, Check. · edges: wrong, Check, Degree, Turned. · edges: Degree, Turned, Same; the reference's Same. · edges: slices.Equal at edges, Same. -/
import Derived.WalkKit
import Derived.Test.YtjokfllldcjheaaGreatDoorProg
import Derived.Maps.AppendAt
import Derived.OpenShut
import Derived.Deep.SlicePairs
import Derived.Lib.Hide
import Derived.Deep.Draws
import Derived.Deep.QuietTactic
import Derived.BigQuiet
import Derived.Deep.RegionHeld3
import Derived.Sort.Grow
import Derived.WalkSpells
import Derived.Deep.DeepCutAuto
import Derived.Deep.CutBlock
import Derived.Sort.WalkB12
import Derived.IntWalk
import Derived.Laws.StructEq
/- Edges in plain numbers: how they stand, normalised lists, degrees, what may not be; no program in sight. -/
namespace Go.Proofs.YtjokfllldcjheaaGreatDoor.Ed
set_option linter.unusedVariables false
set_option linter.unusedSimpArgs false

/-- an edge: from, to -/
abbrev E2 := Int × Int
/-- one stands ahead of the other -/
def Lt (a b : E2) : Prop := a.1 < b.1 ∨ a.1 = b.1 ∧ a.2 < b.2
instance (a b : E2) : Decidable (Lt a b) := inferInstanceAs (Decidable (_ ∨ _))
theorem lt_irrefl (a : E2) : ¬ Lt a a := by unfold Lt; omega
theorem lt_trans {a b c : E2} (h1 : Lt a b) (h2 : Lt b c) : Lt a c := by unfold Lt at *; omega
theorem lt_total {a b : E2} (h1 : ¬ Lt a b) (h2 : a ≠ b) : Lt b a := by
  unfold Lt at *
  have : ¬ (a.1 = b.1 ∧ a.2 = b.2) := fun h => h2 (Prod.ext h.1 h.2)
  omega
theorem lt_asymm {a b : E2} (h : Lt a b) : ¬ Lt b a := by unfold Lt at *; omega
abbrev Up (l : List E2) : Prop := l.Pairwise Lt
/-- an edge laid into its place -/
def insE (i : E2) : List E2 → List E2
  | [] => [i]
  | x :: xs => if Lt i x then i :: x :: xs else if i = x then x :: xs else x :: insE i xs
/-- edges, normalised -/
def nrm : List E2 → List E2
  | [] => []
  | x :: xs => insE x (nrm xs)
theorem mem_insE {i x : E2} : ∀ {l : List E2}, x ∈ insE i l ↔ x = i ∨ x ∈ l
  | [] => by simp [insE]
  | y :: ys => by
    unfold insE
    split
    · simp
    · split
      · rename_i h
        subst h
        simp
      · simp [mem_insE (l := ys)]
        constructor
        · rintro (h | h | h)
          · exact .inr (.inl h)
          · exact .inl h
          · exact .inr (.inr h)
        · rintro (h | h | h)
          · exact .inr (.inl h)
          · exact .inl h
          · exact .inr (.inr h)
theorem up_insE {i : E2} : ∀ {l : List E2}, Up l → Up (insE i l)
  | [], _ => by simp [insE]
  | y :: ys, h => by
    unfold insE
    split
    · rename_i hl
      refine List.pairwise_cons.2 ⟨fun a ha => ?_, h⟩
      rcases List.mem_cons.1 ha with rfl | ha
      · exact hl
      · exact lt_trans hl ((List.pairwise_cons.1 h).1 a ha)
    · split
      · exact h
      · rename_i h1 h2
        refine List.pairwise_cons.2 ⟨fun a ha => ?_, up_insE (List.pairwise_cons.1 h).2⟩
        rcases mem_insE.1 ha with rfl | ha
        · exact lt_total h1 h2
        · exact (List.pairwise_cons.1 h).1 a ha
theorem up_ext : ∀ {a b : List E2}, Up a → Up b → (∀ x, x ∈ a ↔ x ∈ b) → a = b
  | [], [], _, _, _ => rfl
  | [], y :: ys, _, _, h => by have := (h y).2 (by simp); simp at this
  | x :: xs, [], _, _, h => by have := (h x).1 (by simp); simp at this
  | x :: xs, y :: ys, ha, hb, h => by
    obtain ⟨a1, a2⟩ := List.pairwise_cons.1 ha
    obtain ⟨b1, b2⟩ := List.pairwise_cons.1 hb
    have e : x = y := by
      have h1 := (h x).1 (by simp)
      have h2 := (h y).2 (by simp)
      rcases List.mem_cons.1 h1 with h1 | h1
      · exact h1
      · rcases List.mem_cons.1 h2 with h2 | h2
        · exact h2.symm
        · exact absurd (b1 x h1) (lt_asymm (a1 y h2))
    subst e
    rw [up_ext a2 b2 fun z => ?_]
    constructor
    · intro hz
      rcases List.mem_cons.1 ((h z).1 (List.mem_cons_of_mem _ hz)) with rfl | hz2
      · exact absurd (a1 z hz) (lt_irrefl z)
      · exact hz2
    · intro hz
      rcases List.mem_cons.1 ((h z).2 (List.mem_cons_of_mem _ hz)) with rfl | hz2
      · exact absurd (b1 z hz) (lt_irrefl z)
      · exact hz2
theorem mem_nrm {x : E2} : ∀ {l : List E2}, x ∈ nrm l ↔ x ∈ l
  | [] => by simp [nrm]
  | y :: ys => by simp [nrm, mem_insE, mem_nrm (l := ys)]
theorem up_nrm : ∀ l : List E2, Up (nrm l)
  | [] => by simp [nrm]
  | y :: ys => up_insE (up_nrm ys)
/-- whatever stands so and has the same edges is it -/
theorem nrm_eq {l m : List E2} (hu : Up m) (h : ∀ x, x ∈ m ↔ x ∈ l) : m = nrm l := up_ext hu (up_nrm l) fun x => by rw [h, mem_nrm]
theorem nrm_congr {l m : List E2} (h : ∀ x, x ∈ l ↔ x ∈ m) : nrm l = nrm m := up_ext (up_nrm l) (up_nrm m) fun x => by rw [mem_nrm, mem_nrm, h]
theorem nrm_nrm (l : List E2) : nrm (nrm l) = nrm l := nrm_congr fun x => mem_nrm
theorem insE_len (i : E2) : ∀ l : List E2, (insE i l).length ≤ l.length + 1
  | [] => by simp [insE]
  | y :: ys => by
    unfold insE
    split
    · simp
    · split
      · simp
      · have := insE_len i ys; simp; omega
theorem nrm_len : ∀ l : List E2, (nrm l).length ≤ l.length
  | [] => by simp [nrm]
  | y :: ys => by have := insE_len y (nrm ys); have := nrm_len ys; simp only [nrm, List.length_cons]; omega

/-- adjacent repeats struck -/
def ddp : List E2 → List E2
  | [] => []
  | [x] => [x]
  | x :: y :: r => if x = y then ddp (y :: r) else x :: ddp (y :: r)
theorem mem_ddp {z : E2} : ∀ {l : List E2}, z ∈ ddp l ↔ z ∈ l
  | [] => by simp [ddp]
  | [x] => by simp [ddp]
  | x :: y :: r => by
    unfold ddp
    split
    · rename_i h
      subst h
      rw [mem_ddp (l := x :: r)]
      simp
    · rw [List.mem_cons, mem_ddp (l := y :: r), List.mem_cons (l := y :: r)]
theorem ddp_up : ∀ {l : List E2}, l.Pairwise (fun a b => ¬ Lt b a) → Up (ddp l)
  | [], _ => by simp [ddp]
  | [x], _ => by simp [ddp]
  | x :: y :: r, h => by
    obtain ⟨h1, h2⟩ := List.pairwise_cons.1 h
    unfold ddp
    split
    · exact ddp_up h2
    · rename_i hne
      refine List.pairwise_cons.2 ⟨fun a ha => ?_, ddp_up h2⟩
      have ha2 := mem_ddp.1 ha
      have hxy : Lt x y := lt_total (h1 y (by simp)) (fun e => hne e.symm)
      rcases List.mem_cons.1 ha2 with rfl | har
      · exact hxy
      · by_cases e : y = a
        · subst e; exact hxy
        · exact lt_trans hxy (lt_total ((List.pairwise_cons.1 h2).1 a har) (fun h => e h.symm))
theorem ddp_len : ∀ l : List E2, (ddp l).length ≤ l.length
  | [] => by simp [ddp]
  | [x] => by simp [ddp]
  | x :: y :: r => by
    have := ddp_len (y :: r)
    unfold ddp
    split <;> simp only [List.length_cons] at * <;> omega

/-- how many edges go from a node -/
def deg (l : List E2) (v : Int) : Nat := l.countP fun e => decide (e.1 = v)
/-- how many go from nodes ahead of one -/
def bel (l : List E2) (v : Int) : Nat := l.countP fun e => decide (e.1 < v)
theorem deg_take (l : List E2) (v : Int) (k : Nat) (h : k < l.length) : deg (l.take (k + 1)) v = deg (l.take k) v + if (l.getD k (0, 0)).1 = v then 1 else 0 := by
  rw [List.take_add_one, List.getElem?_eq_getElem h]
  have e : l.getD k (0, 0) = l[k] := by simp [List.getD_eq_getElem?_getD, h]
  rw [e]
  simp only [deg, List.countP_append, Option.toList_some, List.countP_singleton, decide_eq_true_eq]
theorem deg_le (l : List E2) (v : Int) : deg l v ≤ l.length := List.countP_le_length
theorem bel_step (l : List E2) (v : Int) : bel l (v + 1) = bel l v + deg l v := by
  induction l with
  | nil => rfl
  | cons x xs ih =>
    simp only [bel, deg, List.countP_cons] at *
    simp only [decide_eq_true_eq]
    by_cases h1 : x.1 < v
    · rw [if_pos (show x.1 < v + 1 by omega), if_pos h1, if_neg (show ¬ x.1 = v by omega)]; omega
    · by_cases h3 : x.1 = v
      · rw [if_pos (show x.1 < v + 1 by omega), if_neg h1, if_pos h3]; omega
      · rw [if_neg (show ¬ x.1 < v + 1 by omega), if_neg h1, if_neg h3]; omega
theorem bel_zero (l : List E2) (h : ∀ e ∈ l, 0 ≤ e.1) : bel l 0 = 0 := by
  rw [bel, List.countP_eq_zero]
  intro e he
  have := h e he
  simp; omega
theorem bel_all (l : List E2) (n : Int) (h : ∀ e ∈ l, e.1 < n) : bel l n = l.length := by
  rw [bel, List.countP_eq_length]
  intro e he
  simpa using h e he
theorem deg_insE (i : E2) (v : Int) : ∀ l : List E2, deg (insE i l) v ≤ deg (i :: l) v
  | [] => by simp [insE]
  | y :: ys => by
    have ih := deg_insE i v ys
    unfold insE
    split
    · exact Nat.le_refl _
    · split
      · simp only [deg, List.countP_cons]; omega
      · simp only [deg, List.countP_cons] at *; omega
theorem deg_nrm (v : Int) : ∀ l : List E2, deg (nrm l) v ≤ deg l v
  | [] => by simp [nrm]
  | y :: ys => by
    have h1 := deg_insE y v (nrm ys)
    have h2 := deg_nrm v ys
    simp only [nrm]
    simp only [deg, List.countP_cons] at *
    omega
theorem deg_zero (l : List E2) (v : Int) : deg l v = 0 ↔ ∀ e ∈ l, e.1 ≠ v := by
  rw [deg, List.countP_eq_zero]
  simp
theorem deg_zero_nrm (l : List E2) (v : Int) : deg (nrm l) v = 0 ↔ deg l v = 0 := by
  rw [deg_zero, deg_zero]
  simp only [mem_nrm]

/-- an edge that may be -/
def okE (n : Int) (e : E2) : Prop := 0 ≤ e.1 ∧ 0 ≤ e.2 ∧ e.1 < n ∧ e.2 < n
instance (n : Int) (e : E2) : Decidable (okE n e) := inferInstanceAs (Decidable (_ ∧ _))
/-- the first edge that may not be, or -2 -/
def badE (n : Int) : List E2 → Int → Int
  | [], _ => -2
  | e :: r, i => if okE n e then badE n r (i + 1) else i
/-- the place of what may not be; -2: all may -/
def wrg (n : Int) (l : List E2) : Int := if n < 0 ∨ n > 4096 then -1 else if l.length > 20000 then 20000 else badE n l 0
theorem badE_ok (n : Int) : ∀ (l : List E2) (i : Int), 0 ≤ i → (badE n l i = -2 ↔ ∀ e ∈ l, okE n e)
  | [], i, _ => by simp [badE]
  | e :: r, i, h => by
    have ih := badE_ok n r (i + 1) (by omega)
    unfold badE
    by_cases hk : okE n e
    · simp [hk, ih]
    · simp [hk]; omega
theorem wrg_ok {n : Int} {l : List E2} : wrg n l = -2 ↔ (0 ≤ n ∧ n ≤ 4096 ∧ l.length ≤ 20000 ∧ ∀ e ∈ l, okE n e) := by
  unfold wrg
  split
  · constructor
    · intro h; omega
    · rintro ⟨h1, h2, _⟩; omega
  · split
    · constructor
      · intro h; omega
      · rintro ⟨_, _, h3, _⟩; omega
    · rw [badE_ok n l 0 (by omega)]
      constructor
      · intro h; exact ⟨by omega, by omega, by omega, h⟩
      · exact fun h => h.2.2.2
theorem badE_drop (n : Int) (l : List E2) (k : Nat) (h : k < l.length) (i : Int) : badE n (l.drop k) i = if okE n (l.getD k (0, 0)) then badE n (l.drop (k + 1)) (i + 1) else i := by
  have e : l.drop k = l.getD k (0, 0) :: l.drop (k + 1) := by
    rw [List.drop_eq_getElem_cons h]
    simp [List.getD_eq_getElem?_getD, h]
  rw [e, badE]
end Go.Proofs.YtjokfllldcjheaaGreatDoor.Ed
/- Rows of edges in memory: read (ER), of the call's own (EO), appended to; an argument opened. -/
namespace Go.Proofs.YtjokfllldcjheaaGreatDoor.Ed
open Go.RowKit
set_option linter.unusedVariables false
set_option linter.unusedSimpArgs false
set_option maxRecDepth 100000

/-- an edge's two cells -/
def enc (x : E2) : List Value := [.int .i64 x.1, .int .i64 x.2]
/-- the cells of edges -/
def ecells (l : List E2) : List Value := l.flatMap enc
theorem ecells_length (l : List E2) : (ecells l).length = l.length * 2 := by
  induction l with
  | nil => rfl
  | cons p l ih =>
    show (Value.int .i64 p.1 :: Value.int .i64 p.2 :: ecells l).length = _
    simp [ih]; omega
theorem ecells_append (xs ys : List E2) : ecells (xs ++ ys) = ecells xs ++ ecells ys := by simp [ecells]
theorem ecells_get (l : List E2) : ∀ i, i < l.length → (ecells l)[i * 2]? = some (.int .i64 (l.getD i (0, 0)).1) ∧ (ecells l)[i * 2 + 1]? = some (.int .i64 (l.getD i (0, 0)).2) := by
  induction l with
  | nil => intro i h; simp at h
  | cons p l ih =>
    intro i h
    show (Value.int .i64 p.1 :: Value.int .i64 p.2 :: ecells l)[i * 2]? = _ ∧ (Value.int .i64 p.1 :: Value.int .i64 p.2 :: ecells l)[i * 2 + 1]? = _
    cases i with
    | zero => exact ⟨rfl, rfl⟩
    | succ i =>
      have := ih i (by simpa using h)
      rw [show (i + 1) * 2 = i * 2 + 1 + 1 by omega]
      simpa using this
theorem ecells_one (l : List E2) : ∀ u ∈ ecells l, u.oneCell' = true := by
  intro u hu
  obtain ⟨p, _, hp⟩ := List.mem_flatMap.1 hu
  simp only [enc, List.mem_cons, List.not_mem_nil, or_false] at hp
  rcases hp with rfl | rfl <;> rfl
theorem add_none (g o i : Nat) : (⟨g, o, none⟩ : Addr).add i = ⟨g, o + i, none⟩ := by unfold Addr.add; split <;> simp_all
/-- v is a slice, in block g from cell o, that reads as these edges -/
def ERo (w : World) (g o : Nat) (v : Value) (l : List E2) : Prop :=
  ∃ A c, v = .slice A l.length c ∧ l.length ≤ c ∧ c ≤ 9223372036854775807 ∧ (0 < l.length → A = some ⟨g, o, none⟩ ∧ g < w.heap.size ∧ ∀ i, i < l.length → w.cell? ⟨g, o + i * 2, none⟩ = some (.int .i64 (l.getD i (0, 0)).1) ∧ w.cell? ⟨g, o + i * 2 + 1, none⟩ = some (.int .i64 (l.getD i (0, 0)).2))
def ER (w : World) (g : Nat) (v : Value) (l : List E2) : Prop := ∃ o, ERo w g o v l
theorem ER.other {w w' : World} {g : Nat} {v : Value} {l : List E2} (h : ER w g v l) (hs : w.heap.size ≤ w'.heap.size) (hb : l ≠ [] → w'.heap[g]? = w.heap[g]?) : ER w' g v l := by
  obtain ⟨o, A, c, hv, h1, h2, h3⟩ := h
  refine ⟨o, A, c, hv, h1, h2, fun h => ?_⟩
  obtain ⟨ha, hl, hc⟩ := h3 h
  have hb := hb (by intro e; rw [e] at h; simp at h)
  refine ⟨ha, Nat.lt_of_lt_of_le hl hs, fun i hi => ?_⟩
  have e : ∀ k, w'.cell? ⟨g, k, none⟩ = w.cell? ⟨g, k, none⟩ := fun k => by simp only [World.cell?, hb]
  rw [e, e]
  exact hc i hi
theorem ER.kept {w w' : World} {g : Nat} {v : Value} {l : List E2} (h : ER w g v l) {row : Option Nat} (hg : w.grownBy w' row) (hr : l = [] ∨ some g ≠ row) : ER w' g v l := by
  have hl : l ≠ [] → g < w.heap.size := by
    obtain ⟨o, A, c, hv, h1, h2, h3⟩ := h
    exact fun e => (h3 (List.length_pos_iff.2 e)).2.1
  exact h.other hg.size fun e => hg.block g (hl e) (hr.resolve_left e)
theorem ER.lt {w : World} {g : Nat} {v : Value} {l : List E2} (h : ER w g v l) : l = [] ∨ g < w.heap.size := by
  by_cases e : l = []
  · exact .inl e
  · obtain ⟨o, A, c, hv, h1, h2, h3⟩ := h
    exact .inr (h3 (List.length_pos_iff.2 e)).2.1
theorem ER.later {w w' : World} {g : Nat} {v : Value} {l : List E2} (h : ER w g v l) (hb : Below w.heap.size w w') : ER w' g v l :=
  h.other hb.size fun e => hb.block g (h.lt.resolve_left e)
theorem ER.alloc {w : World} {g : Nat} {v : Value} {l : List E2} (h : ER w g v l) (o : Obj) : ER (w.alloc o) g v l := h.later ((Below.refl _ _).alloc (Nat.le_refl _) o)
theorem ER.drewN {w : World} {g : Nat} {v : Value} {l : List E2} (h : ER w g v l) (n : Nat) : ER (w.drewN n) g v l := h
theorem ER.nil (w : World) : ER w 0 (.slice none 0 0) [] := ⟨0, none, 0, rfl, Nat.le_refl _, by omega, fun h => by simp at h⟩
theorem ER.lit (w : World) (l : List E2) (cs : Array Value) (hcs : cs = (ecells l).toArray) (n : Nat) (hn : n = l.length) (h : l.length ≤ 9223372036854775807) : ER (w.alloc (.cells cs 68)) w.heap.size (.slice (some ⟨w.heap.size, 0, none⟩) n n) l := by
  subst hcs hn
  refine ⟨0, some ⟨w.heap.size, 0, none⟩, l.length, rfl, Nat.le_refl _, h, fun hp => ⟨rfl, by simp, fun i hi => ?_⟩⟩
  have e := ecells_get l i hi
  constructor
  · rw [cell_of_row _ w.heap.size _ _ _ _ (heap_alloc_new w _)]
    simpa using e.1
  · rw [cell_of_row _ w.heap.size _ _ _ _ (heap_alloc_new w _)]
    simpa using e.2

/-- v is a row of edges of the call's own -/
def EO (w : World) (base : Nat) (v : Value) (l : List E2) : Prop := w.ownsRow base 68 2 v l.length (ecells l)
theorem EO.nil (w : World) (base : Nat) : EO w base (.slice none 0 0) [] := World.ownsRow_nil w base 68 2
theorem EO.alloc {w : World} {base : Nat} {v : Value} {l : List E2} (h : EO w base v l) (o : Obj) : EO (w.alloc o) base v l := World.ownsRow.alloc h o
theorem EO.base {w : World} {base : Nat} {v : Value} {l : List E2} (h : EO w base v l) : ∀ k, v.ownBlock = some k → base ≤ k := fun k hk => (World.ownsRow.lt h k hk).1
theorem EO.lt {w : World} {base : Nat} {v : Value} {l : List E2} (h : EO w base v l) : ∀ k, v.ownBlock = some k → k < w.heap.size := fun k hk => (World.ownsRow.lt h k hk).2
theorem EO.kept {w w' : World} {base : Nat} {v : Value} {l : List E2} (h : EO w base v l) {row : Option Nat} (hg : w.grownBy w' row) (hr : v.ownBlock = none ∨ v.ownBlock ≠ row) : EO w' base v l := World.ownsRow.kept h hg hr
theorem grown_below {w w1 : World} (h : Below w.heap.size w w1) (row : Option Nat) : w.grownBy w1 row := ⟨h.os, h.tape, h.output, h.size, fun i hi _ => h.block i hi⟩
theorem EO.later {w w' : World} {base : Nat} {v : Value} {l : List E2} (h : EO w base v l) (hb : Below w.heap.size w w') : EO w' base v l :=
  h.kept (grown_below hb none) (by cases v.ownBlock <;> simp)
theorem EO.mono {w : World} {b b' : Nat} {v : Value} {l : List E2} (h : EO w b v l) (hb : b' ≤ b) : EO w b' v l := by
  refine ⟨h.1, ?_⟩
  rcases h.2 with h2 | ⟨g, cap, cur, hv, hg, hh⟩
  · exact .inl h2
  · exact .inr ⟨g, cap, cur, hv, Nat.le_trans hb hg, hh⟩
theorem EO.reads {w : World} {base : Nat} {v : Value} {l : List E2} (h : EO w base v l) : ∃ g, ER w g v l ∧ (l ≠ [] → v.ownBlock = some g) := by
  rcases h.2 with ⟨hv, hn⟩ | ⟨g, cap, cur, hv, hb, hh, hnc, hcm, hcs, htk⟩
  · exact ⟨0, ⟨0, none, 0, by rw [hv, hn], by omega, by omega, fun h => by omega⟩, fun e => absurd (List.eq_nil_of_length_eq_zero hn) e⟩
  · refine ⟨g, ⟨0, some ⟨g, 0, none⟩, cap, hv, hnc, by simp only [maxLen] at hcm; omega, fun _ => ⟨rfl, (Array.getElem?_eq_some_iff.1 hh).1, fun i hi => ?_⟩⟩, fun _ => by rw [hv]; rfl⟩
    have e := ecells_get l i hi
    have h0 := World.ownsRow.cells h (g := g) (by rw [hv]; rfl) _ _ e.1
    have h1 := World.ownsRow.cells h (g := g) (by rw [hv]; rfl) _ _ e.2
    rw [add_none] at h0 h1
    rw [Nat.add_assoc]
    exact ⟨h0, h1⟩
theorem EO.shape {w : World} {base : Nat} {v : Value} {l : List E2} (h : EO w base v l) : ∃ A c, v = .slice A l.length c ∧ l.length ≤ c ∧ c ≤ 9223372036854775807 := by
  rcases h.2 with ⟨rfl, e⟩ | ⟨g, cap, cur, rfl, -, -, hn, hm, -⟩
  · exact ⟨none, 0, by rw [e], by omega, by omega⟩
  · exact ⟨_, _, rfl, hn, by simp only [maxLen] at hm; omega⟩
theorem EO.fresh (w : World) (base : Nat) (hb : base ≤ w.heap.size) : EO (w.alloc (.cells #[] 68)) base (.slice (some ⟨w.heap.size, 0, none⟩) 0 0) [] :=
  World.ownsRow_lit w #[] 0 hb (by simp only [maxLen]; omega) rfl
theorem infoE : (Tryz.prog.info? 68).map (fun i => (i.zero, i.size, i.bytes)) = some (some (.agg #[.int .i64 0, .int .i64 0]), 2, 16) := by kernel_rfl
/-- append(v, ys...) -/
theorem EO.append_run {w : World} {base : Nat} {v : Value} {xs : List E2} (HO : EO w base v xs) {g : Nat} {y : Value} {ys : List E2} (HR : ER w g y ys) (ty : TypeId) (hbase : base ≤ w.heap.size) (hl : xs.length + ys.length ≤ 1000000000) :
    ∃ v1 w1, (Builtin.append_ #[22, 22] ty #[v, y]).run Tryz.prog w = .ok v1 w1 ∧ EO w1 base v1 (xs ++ ys) ∧ w.grownBy w1 v.ownBlock ∧ (v1.ownBlock = v.ownBlock ∨ v1.ownBlock = some w.heap.size) := by
  obtain ⟨i0, hi, hzz⟩ := Option.map_eq_some_iff.1 infoE
  simp only [Prod.mk.injEq] at hzz
  obtain ⟨hz0, hz1, hz2⟩ := hzz
  obtain ⟨o, A, c, rfl, h1, h2, h3⟩ := HR
  have go : ∀ ad : Addr, A = some ad → (∀ j u, (ecells ys)[j]? = some u → w.cell? (ad.add j) = some u) → ∃ v1 w1, (Builtin.append_ #[22, 22] ty #[v, .slice A ys.length c]).run Tryz.prog w = .ok v1 w1 ∧ EO w1 base v1 (xs ++ ys) ∧ w.grownBy w1 v.ownBlock ∧ (v1.ownBlock = v.ownBlock ∨ v1.ownBlock = some w.heap.size) := by
    rintro ad rfl hc
    obtain ⟨v1, w1, hr, k2, k3, _, k5⟩ := run_append_own_at (P := Tryz.prog) w base 22 ty 68 i0 (.agg #[.int .i64 0, .int .i64 0]) 2 16 Tryz.underlying22 hi hz0 hz1 hz2 rfl (by omega) v xs.length (ecells xs) HO ad ys.length c (ecells ys) (ecells_length ys) hc (ecells_one ys) (by simp only [maxLen]; omega) (by omega) hbase
    refine ⟨v1, w1, hr, ?_, k3, k5⟩
    unfold EO
    rw [ecells_append, List.length_append]
    exact k2
  by_cases hn : ys = []
  · subst hn
    rcases A with _ | ad
    · refine ⟨v, w, ?_, by simpa using HO, World.grownBy.refl w _, .inl rfl⟩
      rcases HO.2 with ⟨rfl, hn⟩ | ⟨g, cap, cur, rfl, _, _, hnc, _⟩
      · simp [Builtin.append_, run_underlying Tryz.underlying22, sizeOf, typeInfo, hi, Builtin.lenOf, Builtin.firstCells, hz1]
      · simp [Builtin.append_, run_underlying Tryz.underlying22, sizeOf, typeInfo, hi, Builtin.lenOf, Builtin.firstCells, hnc, storeCells, hz1]
    · exact go ad rfl (fun j u hu => by simp [ecells] at hu)
  · obtain ⟨ha, hlt, hcell⟩ := h3 (List.length_pos_iff.2 hn)
    refine go ⟨g, o, none⟩ ha (fun j u hu => ?_)
    rw [add_none]
    have hj : j < ys.length * 2 := by
      have := (List.getElem?_eq_some_iff.1 hu).1
      rwa [ecells_length] at this
    obtain ⟨i, hi2⟩ : ∃ i, j = i * 2 ∨ j = i * 2 + 1 := ⟨j / 2, by omega⟩
    have e := ecells_get ys i (by omega)
    have hc := hcell i (by omega)
    rcases hi2 with rfl | rfl
    · rw [e.1] at hu
      injection hu with hu
      rw [← hu]
      exact hc.1
    · rw [e.2] at hu
      injection hu with hu
      rw [← hu, ← Nat.add_assoc]
      exact hc.2
theorem append_step {P : Program} {ops : Array Oper} {rest : List Oper} {o : Oper} {a : Act} {w : World} {Q : Exit → Act → World → Prop} (hgd : o.guard = none) (s x : Operand) (t t' : TypeId)
    (ho : o.op = .call { callee := .builtin .append, args := #[s, x], argTypes := #[t, t'] }) {v y v1 : Value} {w1 : World} (hs : a.eval s = v) (hx : a.eval x = y)
    (hr : (Builtin.append_ #[t, t'] o.type #[v, y]).run P w = .ok v1 w1) (k : wpList P ops Q rest (a.put o.dst v1) w1) : wpList P ops Q (o :: rest) a w := by
  refine wpList_plain hgd fun K hK => ?_
  unfold Oper.wp execOp
  simp only [ho, resolve, invoke, builtin, Sem.run_bind, Sem.run_pure, Result.andThen_ok, List.map_toArray, List.map_cons, List.map_nil, hs, hx, hr]
  exact hK _ _ k
section
variable {ops : Array Oper} {rest : List Oper} {o : Oper} {a : Act} {w : World} {Q : Exit → Act → World → Prop}
theorem EO.append_on {base : Nat} {v : Value} {xs : List E2} (HO : EO w base v xs) {g : Nat} {y : Value} {ys : List E2} (HR : ER w g y ys) (hgd : o.guard = none) (s x : Operand)
    (ho : o.op = .call { callee := .builtin .append, args := #[s, x], argTypes := #[22, 22] }) (hs : a.eval s = v) (hx : a.eval x = y)
    (hbase : base ≤ w.heap.size) (hl : xs.length + ys.length ≤ 1000000000)
    (k : ∀ v1 w1, EO w1 base v1 (xs ++ ys) → w.grownBy w1 v.ownBlock → (v1.ownBlock = v.ownBlock ∨ v1.ownBlock = some w.heap.size) → wpList Tryz.prog ops Q rest (a.put o.dst v1) w1) : wpList Tryz.prog ops Q (o :: rest) a w := by
  obtain ⟨v1, w1, hr, k2, k3, k5⟩ := EO.append_run HO HR o.type hbase hl
  exact append_step hgd s x _ _ ho hs hx hr (k v1 w1 k2 k3 k5)
end

open Go.ChangeShapes Go.WideShapes Go.Deep in
/-- an argument: a slice of edges -/
theorem edges_open {H : Type} {enc : TypeId × Value → H} {W : World} {base : Nat} {spare : Nat → Bool} {held : Bool} {d : DataW H}
    {a : Option Addr} {len cap : Nat} {cs : List Value} (hcs0 : cs = [.slice a len cap]) {fuel : Nat} {p : List MemPlace} (h : DataW.trod enc Tryz.prog W base spare held fuel 22 cs = some (d, p)) :
    ∃ g l, ER W g (.slice a len cap) l ∧ ∀ e ∈ l, (-9223372036854775808 ≤ e.1 ∧ e.1 < 9223372036854775808) ∧ (-9223372036854775808 ≤ e.2 ∧ e.2 < 9223372036854775808) := by
  rcases open_slice_pairs Tryz.underlying22 Tryz.underlying68 (by kernel_rfl) rfl rfl (by kernel_rfl) (by kernel_rfl) h with ⟨hcs, hx⟩ | ⟨x, l, c, m, n, V0, V1, D0, D1, P0, P1, hcs, _, hl, hm, hmm, hx, hcell⟩
  · rw [hcs0] at hcs
    injection hcs with hcs _
    injection hcs with h1 h2 h3
    subst h1 h2 h3
    exact ⟨0, [], ER.nil W, by simp⟩
  · rw [hcs0] at hcs
    injection hcs with hcs _
    injection hcs with h1 h2 h3
    subst h1 h2 h3
    have hlm : len ≤ m := by rw [hmm]; split <;> omega
    have hv : ∀ i, i < len → ∃ q : Int × Int, V0 i = .int .i64 q.1 ∧ V1 i = .int .i64 q.2 ∧ (Lit.int .i64 q.1).wf = true ∧ (Lit.int .i64 q.2).wf = true := by
      intro i hi
      obtain ⟨_, _, t0, t1⟩ := hcell i (by omega)
      obtain ⟨z0, e0, _, w0⟩ := DataW.trod_int Tryz.underlying3 t0
      obtain ⟨z1, e1, _, w1⟩ := DataW.trod_int Tryz.underlying3 t1
      injection e0 with e0 _
      injection e1 with e1 _
      exact ⟨(z0, z1), e0, e1, w0, w1⟩
    obtain ⟨q, hq⟩ := choose_lt hv
    have hlen : ((List.range len).map q).length = len := by simp
    obtain ⟨xb, xo, xs⟩ := x
    have hget : ∀ i, i < len → ((List.range len).map q).getD i (0, 0) = q i := fun i hi => by simp [List.getD_eq_getElem?_getD, hi]
    refine ⟨xb, (List.range len).map q, ⟨xo, some ⟨xb, xo, xs⟩, cap, by rw [hlen], by rw [hlen]; exact hl, by simpa [maxLen] using hm, fun h => ?_⟩, fun e he => ?_⟩
    · rw [hlen] at h ⊢
      obtain ⟨c0, _⟩ := hcell 0 (by omega)
      have hsp : xs = none := by
        cases xs with
        | none => rfl
        | some q =>
          exfalso
          simp only [Addr.add, World.cell?, if_pos] at c0
          split at c0 <;> simp at c0
      subst hsp
      refine ⟨rfl, ?_, fun i hi => ?_⟩
      · have := World.block_lt_of_cell? _ _ c0
        rw [add_none] at this
        exact this
      · obtain ⟨c0, c1, _, _⟩ := hcell i (by omega)
        obtain ⟨q0, q1, _, _⟩ := hq i hi
        rw [add_none] at c0 c1
        rw [hget i hi, Nat.add_assoc, c0, c1, q0, q1]
        exact ⟨rfl, rfl⟩
    · obtain ⟨i, hi, rfl⟩ := List.mem_map.1 he
      obtain ⟨_, _, w0, w1⟩ := hq i (List.mem_range.1 hi)
      have b0 := bounds_i64 w0
      have b1 := bounds_i64 w1
      exact ⟨by omega, by omega⟩
end Go.Proofs.YtjokfllldcjheaaGreatDoor.Ed
/- edges: the small functions: Compare, Or, order, wrong, Check, Clone. -/
namespace Go.Proofs.YtjokfllldcjheaaGreatDoor.Ed
open Go.RowKit
set_option linter.unusedVariables false
set_option linter.unusedSimpArgs false

/-- how two numbers stand -/
def cmpI (x y : Int) : Int := if x < y then -1 else if y < x then 1 else 0
/-- how two edges stand -/
def ordF (a b : E2) : Int := if cmpI a.1 b.1 = 0 then cmpI a.2 b.2 else cmpI a.1 b.1
theorem cmpI_lt {x y : Int} (h : x < y) : cmpI x y = -1 := by unfold cmpI; rw [if_pos h]
theorem cmpI_gt {x y : Int} (h : y < x) : cmpI x y = 1 := by unfold cmpI; rw [if_neg (by omega), if_pos h]
theorem cmpI_eq (x : Int) : cmpI x x = 0 := by unfold cmpI; rw [if_neg (by omega), if_neg (by omega)]
theorem ordF_neg (a b : E2) : ordF a b < 0 ↔ Lt a b := by
  unfold ordF cmpI Lt
  by_cases h1 : a.1 < b.1
  · simp [h1]
  · by_cases h2 : b.1 < a.1
    · simp [h1, h2]; omega
    · have : a.1 = b.1 := by omega
      by_cases h3 : a.2 < b.2
      · simp [h1, h2, h3, this]
      · by_cases h4 : b.2 < a.2 <;> simp [h1, h2, h3, h4, this]

set_option maxHeartbeats 1000000 in
theorem isnan_calls (x : Int) (w : World) : Calls Tryz.prog 141 #[.int .i64 x] w fun e w' => e = .returned (.bool false) ∧ w = w' := by
  go_enter Tryz.func141, Tryz.ntmps141
  go_wp2
  go_ret
  exact ⟨by simp, rfl⟩
set_option maxHeartbeats 1000000 in
theorem compare_calls (x y : Int) (w : World) : Calls Tryz.prog 110 #[.int .i64 x, .int .i64 y] w fun e w' => e = .returned (.int .i64 (cmpI x y)) ∧ w = w' := by
  by_cases h1 : x < y
  · rw [cmpI_lt h1]
    go_enter Tryz.func110, Tryz.ntmps110
    go_wp2_with (go_at_call 141; refine (isnan_calls _ _).mono ?_; rintro e w' ⟨rfl, rfl⟩)
    go_ret
    exact ⟨rfl, rfl⟩
  · by_cases h2 : y < x
    · rw [cmpI_gt h2]
      go_enter Tryz.func110, Tryz.ntmps110
      go_wp2_with (go_at_call 141; refine (isnan_calls _ _).mono ?_; rintro e w' ⟨rfl, rfl⟩)
      go_ret
      exact ⟨rfl, rfl⟩
    · obtain rfl : x = y := by omega
      rw [cmpI_eq]
      clear h1 h2
      go_enter Tryz.func110, Tryz.ntmps110
      go_wp2_with (go_at_call 141; refine (isnan_calls _ _).mono ?_; rintro e w' ⟨rfl, rfl⟩)
      go_ret
      exact ⟨rfl, rfl⟩
set_option maxHeartbeats 1000000 in
theorem or_calls (g : Nat) (a b : Int) (w : World) (h0 : w.cell? ⟨g, 0, none⟩ = some (.int .i64 a)) (h1 : w.cell? ⟨g, 1, none⟩ = some (.int .i64 b)) :
    Calls Tryz.prog 109 #[.slice (some ⟨g, 0, none⟩) 2 2] w fun e w' => e = .returned (.int .i64 (if a = 0 then b else a)) ∧ w = w' := by
  have HR : Hid ((a ≠ 0 → (if a = 0 then b else a) = a) ∧ (a = 0 → (if a = 0 then b else a) = b)) := Lib.hid ⟨fun h => if_neg h, fun h => if_pos h⟩
  generalize (if a = 0 then b else a) = r at HR ⊢
  go_enter Tryz.func109, Tryz.ntmps109
  go_wp2
  go_loop [8] (fun i => i = .int .i64 0 ∨ (a = 0 ∧ i = .int .i64 1) ∨ (a = 0 ∧ b = 0 ∧ i = .int .i64 2)) (fun i => 2 - (intOf i).toNat)
  case atStart => exact .inl rfl
  case round =>
    rcases hrel with rfl | ⟨h0, rfl⟩ | ⟨h0, hb, rfl⟩
    · by_cases ha : a = 0
      · subst ha
        go_wp2
        go_round
        case rel => simp
        case measure => simp [intOf]
      · have ha' : (a == 0) = false := by simpa using ha
        have ha2 : (a != 0) = true := by simpa using ha
        go_wp2
        go_ret
        exact ⟨by rw [HR.out.1 ha]; rfl, rfl⟩
    · subst h0
      by_cases hb : b = 0
      · subst hb
        go_wp2
        go_round
        case rel => simp
        case measure => simp [intOf]
      · have ha' : (b == 0) = false := by simpa using hb
        have ha2 : (b != 0) = true := by simpa using hb
        go_wp2
        go_ret
        exact ⟨by rw [HR.out.2 (by simp)]; rfl, rfl⟩
    · subst h0 hb
      go_wp2
      go_ret
      exact ⟨by rw [HR.out.2 (by simp)]; rfl, rfl⟩
end Go.Proofs.YtjokfllldcjheaaGreatDoor.Ed
/- edges: order, Clone, wrong, Check. -/
namespace Go.Proofs.YtjokfllldcjheaaGreatDoor.Ed
open Go.RowKit Go.Sort
set_option linter.unusedVariables false
set_option linter.unusedSimpArgs false

set_option maxHeartbeats 1000000 in
theorem order_calls (a b : E2) (w : World) : Calls Tryz.prog 76 #[.agg #[.int .i64 a.1, .int .i64 a.2], .agg #[.int .i64 b.1, .int .i64 b.2]] w fun e w' => e = .returned (.int .i64 (ordF a b)) ∧ ∃ q os', w' = grow (w.drewN q) os' := by
  obtain ⟨a0, a1⟩ := a
  obtain ⟨b0, b1⟩ := b
  simp only [ordF]
  have HC0 := Lib.hid (compare_calls a0 b0)
  have HC1 := Lib.hid (compare_calls a1 b1)
  generalize cmpI a0 b0 = x at *
  generalize cmpI a1 b1 = y at *
  have HO := Lib.hid (fun g w h0 h1 => or_calls g x y w h0 h1)
  generalize (if x = 0 then y else x) = r at *
  go_enter Tryz.func76, Tryz.ntmps76
  go_upto_region 1 with (fail)
  obtain ⟨W2, hW2⟩ : ∃ W2, (w.alloc (.cells #[.int .i64 a0, .int .i64 a1] 68)).alloc (.cells #[.int .i64 b0, .int .i64 b1] 68) = W2 := ⟨_, rfl⟩
  have z1 := heap_alloc_new (w.alloc (.cells #[.int .i64 a0, .int .i64 a1] 68)) (.cells #[.int .i64 b0, .int .i64 b1] 68)
  have z0 := (Below.heap_alloc (w.alloc (.cells #[.int .i64 a0, .int .i64 a1] 68)) (.cells #[.int .i64 b0, .int .i64 b1] 68) w.heap.size (by simp)).trans (heap_alloc_new w (.cells #[.int .i64 a0, .int .i64 a1] 68))
  rw [hW2] at z0 z1 ⊢
  rw [show (w.alloc (.cells #[.int .i64 a0, .int .i64 a1] 68)).heap.size = w.heap.size + 1 by simp] at z1
  have HW : Hid (W2 = grow w #[.cells #[.int .i64 a0, .int .i64 a1] 68, .cells #[.int .i64 b0, .int .i64 b1] 68]) := Lib.hid (by rw [← hW2, alloc_eq_grow, alloc_eq_grow, grow_grow]; rfl)
  have c0 : W2.cell? ⟨w.heap.size, 0, none⟩ = some (.int .i64 a0) := by rw [cell_of_row W2 _ 0 _ _ _ z0]; rfl
  have c1 : W2.cell? ⟨w.heap.size, 1, none⟩ = some (.int .i64 a1) := by rw [cell_of_row W2 _ 1 _ _ _ z0]; rfl
  have c2 : W2.cell? ⟨w.heap.size + 1, 0, none⟩ = some (.int .i64 b0) := by rw [cell_of_row W2 _ 0 _ _ _ z1]; rfl
  have c3 : W2.cell? ⟨w.heap.size + 1, 1, none⟩ = some (.int .i64 b1) := by rw [cell_of_row W2 _ 1 _ _ _ z1]; rfl
  clear hW2 z0 z1
  have n0 : Hid ((W2.alloc (.cells #[.int .i64 x, .int .i64 y] 3)).drew.cell? ⟨W2.heap.size, 0, none⟩ = some (.int .i64 x)) := Lib.hid (by show (W2.alloc _).cell? _ = _; rw [cell_of_row _ _ 0 _ _ _ (heap_alloc_new _ _)]; rfl)
  have n1 : Hid ((W2.alloc (.cells #[.int .i64 x, .int .i64 y] 3)).drew.cell? ⟨W2.heap.size, 1, none⟩ = some (.int .i64 y)) := Lib.hid (by show (W2.alloc _).cell? _ = _; rw [cell_of_row _ _ 1 _ _ _ (heap_alloc_new _ _)]; rfl)
  go_region_held3 (fun w' => w'.cell? ⟨w.heap.size, 0, none⟩ = some (.int .i64 a0) ∧ w'.cell? ⟨w.heap.size, 1, none⟩ = some (.int .i64 a1) ∧ w'.cell? ⟨w.heap.size + 1, 0, none⟩ = some (.int .i64 b0) ∧ w'.cell? ⟨w.heap.size + 1, 1, none⟩ = some (.int .i64 b1))
    (first | (go_keep; done) | exact ⟨c0, c1, c2, c3⟩)
    (first
      | (go_at_call 110; with_reducible (show Calls _ _ #[.int _ a0, .int _ b0] _ _); refine (HC0.out _).mono ?_; rintro e w3 ⟨rfl, rfl⟩)
      | (go_at_call 110; with_reducible (show Calls _ _ #[.int _ a1, .int _ b1] _ _); refine (HC1.out _).mono ?_; rintro e w3 ⟨rfl, rfl⟩)
      | (go_at_call 109; refine (HO.out _ _ n0.out n1.out).mono ?_; rintro e w3 ⟨rfl, rfl⟩))
  go_wp2
  go_ret
  exact ⟨rfl, 1, #[.cells #[.int .i64 a0, .int .i64 a1] 68, .cells #[.int .i64 b0, .int .i64 b1] 68, .cells #[.int .i64 x, .int .i64 y] 3], by rw [HW.out, alloc_eq_grow, drew_grow, drew_grow, grow_grow]; rfl⟩

set_option maxHeartbeats 1000000 in
set_option maxRecDepth 100000 in
theorem clone_calls (g : Nat) (v : Value) (l : List E2) (w : World) (h : ER w g v l) (hl : l.length ≤ 1000000) :
    Calls Tryz.prog 74 #[v] w fun e w' => ∃ v', e = .returned v' ∧ EO w' w.heap.size v' l ∧ Below w.heap.size w w' := by
  obtain ⟨o, A, c, rfl, h1, h2, h3⟩ := id h
  have HE := Lib.hid h
  rcases A with _ | ad
  · have hl0 : l = [] := by
      by_cases e : l = []
      · exact e
      · exact absurd (h3 (List.length_pos_iff.2 e)).1 (by simp)
    subst hl0
    have hq : (binOp .eql 22 (.slice none 0 c) (.slice none 0 0)).run Tryz.prog w = .ok (.bool true) w := Lib.run_eql_slice_nil (P := Tryz.prog) w 22 68 none 0 c 0 0 Tryz.underlying22
    clear h h3
    go_enter Tryz.func74, Tryz.ntmps74
    go_wp2
    go_ret
    exact ⟨_, rfl, EO.nil _ _, Below.refl _ _⟩
  · have hq : (binOp .eql 22 (.slice (some ad) l.length c) (.slice none 0 0)).run Tryz.prog w = .ok (.bool false) w := Lib.run_eql_slice_nil (P := Tryz.prog) w 22 68 (some ad) l.length c 0 0 Tryz.underlying22
    clear h h3
    go_enter Tryz.func74, Tryz.ntmps74
    go_wp2_with (at_builtin; refine EO.append_on (base := w.heap.size) (EO.fresh w w.heap.size (Nat.le_refl _)) (HE.out.alloc _) rfl _ _ rfl rfl rfl (by simp) (by simp; omega) ?_; intro v1 w1 k1 k2 _)
    go_ret
    refine ⟨v1, rfl, by simpa using k1, ((Below.refl _ _).alloc (Nat.le_refl _) _).grown k2 (by simp) (fun k hk => ?_)⟩
    simp [Value.ownBlock] at hk
    omega
end Go.Proofs.YtjokfllldcjheaaGreatDoor.Ed
/- edges: wrong, Check, Degree, Turned. -/
namespace Go.Proofs.YtjokfllldcjheaaGreatDoor.Ed
open Go.RowKit
set_option linter.unusedVariables false
set_option linter.unusedSimpArgs false

/-- what is told of a graph that may not be -/
def errV (a : Int) : Value := .iface 106 (.agg #[.int .i64 a, .iface 96 (.int .i64 10)])
/-- what Check tells -/
def chkV (n : Int) (l : List E2) : Value := if wrg n l = -2 then .nilIface else errV (wrg n l)
theorem chkV_at {n : Int} {l : List E2} {a : Int} (h : wrg n l = a) (ha : a ≠ -2) : chkV n l = errV a := by unfold chkV; rw [h, if_neg ha]
set_option maxHeartbeats 1000000 in
theorem wrong_calls (a : Int) (w : World) : Calls Tryz.prog 106 #[.int .i64 a, .iface 96 (.int .i64 10)] w fun e w' => e = .returned (errV a) ∧ w = w' := by
  go_enter Tryz.func106, Tryz.ntmps106
  go_wp2
  go_ret
  exact ⟨rfl, rfl⟩
theorem drewN_below (B : Nat) (w : World) (n : Nat) : Below B w (w.drewN n) := ⟨rfl, rfl, rfl, Nat.le_refl _, fun _ _ => rfl⟩
set_option maxHeartbeats 2000000 in
set_option maxRecDepth 100000 in
theorem check_calls (n : Int) (g : Nat) (v : Value) (l : List E2) (w : World) (h : ER w g v l) (hl : l.length ≤ 1000000) :
    Calls Tryz.prog 73 #[.int .i64 n, v] w fun e w' => e = .returned (chkV n l) ∧ Hid (Below w.heap.size w w') := by
  have HE := Lib.hid h
  obtain ⟨o, A, c, rfl, h1, h2, -⟩ := id h
  obtain ⟨len, hlen⟩ : ∃ len, l.length = len := ⟨_, rfl⟩
  rw [hlen] at h1 hl ⊢
  have HL := Lib.hid hlen
  have hl7 : (len : Int) ≤ 1000000 := by omega
  obtain ⟨r, hr⟩ : ∃ r, chkV n l = r := ⟨_, rfl⟩
  rw [hr]
  have HR := Lib.hid hr
  clear h hlen hr
  by_cases hn0 : n < 0
  · have : r = errV (-1) := by rw [← HR.out]; exact chkV_at (by unfold wrg; rw [if_pos (Or.inl hn0)]) (by omega)
    subst this
    go_enter Tryz.func73, Tryz.ntmps73
    go_wp2_with (go_at_call 106; refine (wrong_calls _ _).mono ?_; rintro e w' ⟨rfl, rfl⟩)
    go_ret
    exact ⟨rfl, Lib.hid (Below.refl _ _)⟩
  · by_cases hn1 : 4096 < n
    · have : r = errV (-1) := by rw [← HR.out]; exact chkV_at (by unfold wrg; rw [if_pos (Or.inr hn1)]) (by omega)
      subst this
      go_enter Tryz.func73, Tryz.ntmps73
      go_wp2_with (go_at_call 106; refine (wrong_calls _ _).mono ?_; rintro e w' ⟨rfl, rfl⟩)
      go_ret
      exact ⟨rfl, Lib.hid (Below.refl _ _)⟩
    · by_cases hb : 20000 < len
      · have hb2 : (20000 : Int) < (len : Int) := by omega
        have : r = errV 20000 := by rw [← HR.out]; exact chkV_at (by unfold wrg; rw [if_neg (by omega), if_pos (by rw [HL.out]; exact hb)]) (by omega)
        subst this
        go_enter Tryz.func73, Tryz.ntmps73
        go_wp2_with (go_at_call 106; refine (wrong_calls _ _).mono ?_; rintro e w' ⟨rfl, rfl⟩)
        go_ret
        exact ⟨rfl, Lib.hid (Below.refl _ _)⟩
      · have hb2 : ¬ (20000 : Int) < (len : Int) := by omega
        have HQ : Hid (r = if badE n (l.drop 0) 0 = -2 then .nilIface else errV (badE n (l.drop 0) 0)) := Lib.hid (by rw [← HR.out]; unfold chkV; rw [show wrg n l = badE n (l.drop 0) 0 by unfold wrg; rw [if_neg (by omega), if_neg (by rw [HL.out]; exact hb)]; rfl])
        go_enter Tryz.func73, Tryz.ntmps73
        go_upto_region 6 with (fail)
        go_loopw [24] (fun x wz => ∃ k : Nat, x = .int .i64 (k : Int) ∧ k ≤ len ∧ Hid (r = if badE n (l.drop k) k = -2 then .nilIface else errV (badE n (l.drop k) k)) ∧ Hid (Below w.heap.size w wz)) (fun x _ => len - (intOf x).toNat)
        case atStart => exact ⟨0, rfl, by omega, HQ, Lib.hid (Below.refl _ _)⟩
        case round =>
          obtain ⟨k, rfl, hk, HQ, HB⟩ := hrel
          by_cases hlt : k < len
          · obtain ⟨o', A', c', hv', -, -, hread⟩ := HE.out.later HB.out
            rw [HL.out] at hread hv'
            obtain ⟨rfl, -, hcell⟩ := hread (by omega)
            injection hv' with hv' _ hcc
            subst hcc hv'
            obtain ⟨q0, q1⟩ := hcell k hlt
            have hstep := badE_drop n l k (by rw [HL.out]; exact hlt) k
            obtain ⟨⟨x, y⟩, hxy⟩ : ∃ x, l.getD k (0, 0) = x := ⟨_, rfl⟩
            rw [hxy] at q0 q1 hstep
            simp only at q0 q1
            have HS := Lib.hid hstep
            clear hcell hread hstep hxy
            by_cases h3 : min x y < 0
            · have hbad : ¬ okE n (x, y) := by unfold okE; simp only; omega
              have : r = errV k := by rw [HQ.out, HS.out, if_neg hbad, if_neg (by omega)]
              subst this
              clear hbad HS HQ
              go_wp2_with (go_at_call 106; refine (wrong_calls _ _).mono ?_; rintro e w' ⟨rfl, rfl⟩)
              go_ret
              exact ⟨rfl, Lib.hid (HB.out.alloc HB.out.size _)⟩
            · by_cases h4 : n ≤ max x y
              · have hbad : ¬ okE n (x, y) := by unfold okE; simp only; omega
                have : r = errV k := by rw [HQ.out, HS.out, if_neg hbad, if_neg (by omega)]
                subst this
                clear hbad HS HQ
                go_wp2_with (go_at_call 106; refine (wrong_calls _ _).mono ?_; rintro e w' ⟨rfl, rfl⟩)
                go_ret
                exact ⟨rfl, Lib.hid (HB.out.alloc HB.out.size _)⟩
              · have hok : okE n (x, y) := by unfold okE; simp only; omega
                have HQ2 : Hid (r = if badE n (l.drop (k + 1)) (k + 1 : Nat) = -2 then .nilIface else errV (badE n (l.drop (k + 1)) (k + 1 : Nat))) := Lib.hid (by
                  have := HQ.out
                  rw [HS.out, if_pos hok] at this
                  rw [this]; rfl)
                clear hok HS HQ
                go_wp2
                go_roundw
                case rel => exact ⟨k + 1, by go_num, by omega, HQ2, Lib.hid (HB.out.alloc HB.out.size _)⟩
                case measure => simp [intOf]; omega
          · obtain rfl : len = k := by omega
            have : r = .nilIface := by rw [HQ.out, List.drop_of_length_le (by rw [HL.out]; omega)]; rfl
            subst this
            clear HQ
            go_wp2
            go_ret
            exact ⟨rfl, HB⟩
end Go.Proofs.YtjokfllldcjheaaGreatDoor.Ed
/- edges: Degree, Turned, Same; the reference's Same. -/
namespace Go.Proofs.YtjokfllldcjheaaGreatDoor.Ed
open Go.RowKit
set_option linter.unusedVariables false
set_option linter.unusedSimpArgs false

/-- edges the other way round -/
def trn (l : List E2) : List E2 := l.map fun e => (e.2, e.1)
theorem trn_take (l : List E2) (k : Nat) (h : k < l.length) : trn (l.take (k + 1)) = trn (l.take k) ++ [((l.getD k (0, 0)).2, (l.getD k (0, 0)).1)] := by
  rw [List.take_add_one, List.getElem?_eq_getElem h]
  have e : l.getD k (0, 0) = l[k] := by simp [List.getD_eq_getElem?_getD, h]
  rw [e]
  simp only [trn, List.map_append, Option.toList_some, List.map_cons, List.map_nil]
theorem ER.litH (w : World) (l : List E2) (cs : Array Value) (hcs : cs = (ecells l).toArray) (n : Nat) (hn : n = l.length) (h : l.length ≤ 9223372036854775807) (H : Nat) (hH : w.heap.size = H) : ER (w.alloc (.cells cs 68)) H (.slice (some ⟨H, 0, none⟩) n n) l := by
  subst hH; exact ER.lit w l cs hcs n hn h
/-- the first k of both are one -/
def samE (a b : List E2) (k : Nat) : Prop := ∀ j, j < k → a.getD j (0, 0) = b.getD j (0, 0)
theorem samE_all {a b : List E2} (hl : a.length = b.length) (h : samE a b a.length) : a = b := by
  apply List.ext_getElem hl
  intro j h1 h2
  have := h j h1
  simpa [List.getD_eq_getElem?_getD, h1, h2] using this
theorem samE_succ {a b : List E2} {k : Nat} (h : samE a b k) (e : a.getD k (0, 0) = b.getD k (0, 0)) : samE a b (k + 1) := fun j hj => by
  by_cases e' : j = k
  · subst e'; exact e
  · exact h j (by omega)
end Go.Proofs.YtjokfllldcjheaaGreatDoor.Ed
/- edges: slices.Equal at edges, Same. -/
namespace Go.Proofs.YtjokfllldcjheaaGreatDoor.Ed
open Go.RowKit
set_option linter.unusedVariables false
set_option linter.unusedSimpArgs false

theorem eql_run (a b : E2) (w : World) : (binOp .eql 68 (.agg #[.int .i64 a.1, .int .i64 a.2]) (.agg #[.int .i64 b.1, .int .i64 b.2])).run Tryz.prog w = .ok (.bool (decide (a = b))) w := by
  have u3 := Tryz.underlying3
  have a3 := Tryz.isAgg3
  have z3 := Tryz.sizeOf3
  have hS : Tryz.prog.underlying 68 = some (.struct (Tryz.prog.fieldsOf 68)) := by kernel_rfl
  have hp : Tryz.prog.stoodInHeld 68 = false := by kernel_rfl
  rw [run_eql_struct, show (10000 : Nat) = 9999 + 1 from rfl, run_equalIn_agg w 9999 68 _ _ hS hp]
  simp only [Program.fieldsOf, Tryz.underlying68]
  go_simp
  obtain ⟨x, x'⟩ := a
  obtain ⟨y, y'⟩ := b
  by_cases h1 : x = y <;> by_cases h2 : x' = y' <;> simp [h1, h2]
theorem neq_run (a b : E2) (w : World) : (binOp .neq 68 (.agg #[.int .i64 a.1, .int .i64 a.2]) (.agg #[.int .i64 b.1, .int .i64 b.2])).run Tryz.prog w = .ok (.bool (!decide (a = b))) w := by
  have u3 := Tryz.underlying3
  have a3 := Tryz.isAgg3
  have z3 := Tryz.sizeOf3
  have hS : Tryz.prog.underlying 68 = some (.struct (Tryz.prog.fieldsOf 68)) := by kernel_rfl
  have hp : Tryz.prog.stoodInHeld 68 = false := by kernel_rfl
  rw [run_neq_struct, show (10000 : Nat) = 9999 + 1 from rfl, run_equalIn_agg w 9999 68 _ _ hS hp]
  simp only [Program.fieldsOf, Tryz.underlying68]
  go_simp
  obtain ⟨x, x'⟩ := a
  obtain ⟨y, y'⟩ := b
  by_cases h1 : x = y <;> by_cases h2 : x' = y' <;> simp [h1, h2]
theorem guard_run (op : BinOp) (p q : Operand) (a b : E2) (w : World) : (eqGuard op 68 p q (.agg #[.int .i64 a.1, .int .i64 a.2]) (.agg #[.int .i64 b.1, .int .i64 b.2])).run Tryz.prog w = .ok () w :=
  run_eqGuard_agg w op 68 p q _ _ (by kernel_rfl)
end Go.Proofs.YtjokfllldcjheaaGreatDoor.Ed
