/- A map from spans (two numbers) to texts, as the call makes it: what a look-up reads, what a store leaves. · Leaves, nodes, the split: what the package merkle's small functions hand back. · The method fill of merkle.Tree: it notes the digests of a span and of all its parts. -/
import Derived.Test.YtjokfllldcjheaaGreatDoorShaM
import Derived.Test.YtjokfllldcjheaaGreatDoorBits
import Derived.BigQuiet
import Derived.Deep.RegionHeld3
/- A map from spans (two numbers) to texts, as the call makes it: what a look-up reads, what a store leaves. -/
namespace Go.Proofs.YtjokfllldcjheaaGreatDoor.Mk
open Go.RowKit
set_option linter.unusedVariables false
set_option linter.unusedSimpArgs false

/-- a span as a value -/
def spV (a b : Nat) : Value := .agg #[.int .i64 (a : Int), .int .i64 (b : Int)]
/-- an entry of the map: the span, the text, when it was born -/
def ent (x : (Nat × Nat) × ByteArray × Nat) : MapEntry := { key := spV x.1.1 x.1.2, val := .string x.2.1, born := x.2.2 }
def getL : List ((Nat × Nat) × ByteArray × Nat) → Nat → Nat → Option ByteArray
  | [], _, _ => none
  | x :: xs, a, b => if a = x.1.1 ∧ b = x.1.2 then some x.2.1 else getL xs a b
/-- block m is a map that reads as f -/
def MapS (w : World) (m : Nat) (f : Nat → Nat → Option ByteArray) : Prop :=
  ∃ (L : List ((Nat × Nat) × ByteArray × Nat)) (clock : Nat), w.heap[m]? = some (.map (L.map ent).toArray clock) ∧ ∀ a b, f a b = getL L a b
def upd (f : Nat → Nat → Option ByteArray) (a b : Nat) (s : ByteArray) : Nat → Nat → Option ByteArray := fun a' b' => if a' = a ∧ b' = b then some s else f a' b'
theorem MapS.fresh (w : World) : MapS (w.alloc (.map #[] 0)) w.heap.size fun _ _ => none :=
  ⟨[], 0, heap_alloc_new w _, fun _ _ => rfl⟩
theorem MapS.lt {w : World} {m : Nat} {f : Nat → Nat → Option ByteArray} (h : MapS w m f) : m < w.heap.size := by
  obtain ⟨L, c, h, _⟩ := h
  exact (Array.getElem?_eq_some_iff.1 h).1
theorem MapS.other {w w' : World} {m : Nat} {f : Nat → Nat → Option ByteArray} (h : MapS w m f) (hb : w'.heap[m]? = w.heap[m]?) : MapS w' m f := by
  obtain ⟨L, c, h, e⟩ := h
  exact ⟨L, c, hb.trans h, e⟩
theorem MapS.kept {w w' : World} {m : Nat} {f : Nat → Nat → Option ByteArray} (h : MapS w m f) {row : Option Nat} (hg : w.grownBy w' row) (hr : some m ≠ row) : MapS w' m f := h.other (hg.block m h.lt hr)
theorem MapS.below {w w' : World} {m B : Nat} {f : Nat → Nat → Option ByteArray} (h : MapS w m f) (hb : Below B w w') (hB : m < B) : MapS w' m f := h.other (hb.block m hB)
theorem MapS.later {w w' : World} {m : Nat} {f : Nat → Nat → Option ByteArray} (h : MapS w m f) (hb : Below w.heap.size w w') : MapS w' m f := h.below hb h.lt
theorem MapS.alloc {w : World} {m : Nat} {f : Nat → Nat → Option ByteArray} (h : MapS w m f) (o : Obj) : MapS (w.alloc o) m f := h.later ((Below.refl _ _).alloc (Nat.le_refl _) _)
theorem MapS.drewN {w : World} {m : Nat} {f : Nat → Nat → Option ByteArray} (h : MapS w m f) (n : Nat) : MapS (w.drewN n) m f := h

theorem eq_span (a b c d : Nat) (w : World) : (Op.equal 138 (spV a b) (spV c d)).run Tryz.prog w = .ok (decide (a = c ∧ b = d)) w := by
  unfold spV Op.equal Op.maxDepth
  rw [run_equalIn_agg w 9999 138 _ _ (by kernel_rfl) (by kernel_rfl)]
  go_simp
  by_cases h1 : a = c <;> by_cases h2 : b = d <;> simp [h1, h2, Int.ofNat_inj]
def findL : List ((Nat × Nat) × ByteArray × Nat) → Nat → Nat → Nat → Option (Nat × Value)
  | [], _, _, _ => none
  | x :: xs, a, b, i => if a = x.1.1 ∧ b = x.1.2 then some (i, .string x.2.1) else findL xs a b (i + 1)
theorem findAsking_run (a b : Nat) (w : World) : ∀ (L : List ((Nat × Nat) × ByteArray × Nat)) (i : Nat), (Instr.findAsking 138 (spV a b) (L.map ent) i).run Tryz.prog w = .ok (findL L a b i) w
  | [], i => by simp [Instr.findAsking, findL]
  | x :: xs, i => by
    have ih := findAsking_run a b w xs (i + 1)
    simp only [List.map_cons, Instr.findAsking, Sem.run_bind, ent, eq_span, Result.andThen_ok, findL]
    by_cases h : a = x.1.1 ∧ b = x.1.2
    · simp [h]
    · simp [h, ih]
theorem findL_none {L : List ((Nat × Nat) × ByteArray × Nat)} {a b : Nat} : ∀ {i : Nat}, getL L a b = none → findL L a b i = none := by
  induction L with
  | nil => intro i _; rfl
  | cons x xs ih =>
    intro i h
    simp only [getL] at h
    split at h
    · cases h
    · rename_i hn
      simp only [findL, if_neg hn]
      exact ih h
theorem findL_some {L : List ((Nat × Nat) × ByteArray × Nat)} {a b : Nat} {s : ByteArray} : ∀ {i : Nat}, getL L a b = some s → ∃ j, findL L a b i = some (j, .string s) := by
  induction L with
  | nil => intro i h; cases h
  | cons x xs ih =>
    intro i h
    simp only [getL] at h
    split at h
    · rename_i hn
      injection h with h
      subst h
      exact ⟨i, by simp only [findL, if_pos hn]⟩
    · rename_i hn
      obtain ⟨j, hj⟩ := ih (i := i + 1) h
      exact ⟨j, by simp only [findL, if_neg hn]; exact hj⟩
theorem check_span (e : Bool) (a b : Nat) (w : World) : (Instr.checkKey e 10000 138 (spV a b)).run Tryz.prog w = .ok () w := by
  unfold spV Instr.checkKey
  go_simp
  have hi : ∀ (x : Nat) (w : World), (Instr.checkKey e 9999 3 (.int .i64 (x : Int))).run Tryz.prog w = .ok () w := fun x w => by
    unfold Instr.checkKey
    go_simp
  rw [hi, Result.andThen_ok, hi]
theorem findKey_span (a b : Nat) (w : World) (L : List ((Nat × Nat) × ByteArray × Nat)) : (Instr.findKey 138 (spV a b) (L.map ent)).run Tryz.prog w = .ok (findL L a b 0) w := by
  rw [run_findKey_eq w (by kernel_rfl)]
  exact findAsking_run a b w L 0
theorem MapS.look {w : World} {m : Nat} {f : Nat → Nat → Option ByteArray} (h : MapS w m f) (a b : Nat) {s : ByteArray} (hf : f a b = some s) :
    (Instr.lookup 134 (.map (some m)) (spV a b) false).run Tryz.prog w = .ok (.string s) w := by
  obtain ⟨L, clock, hb, he⟩ := h
  obtain ⟨j, hj⟩ := findL_some (i := 0) (he a b ▸ hf : getL L a b = some s)
  have hk := findKey_span a b w L
  rw [hj] at hk
  simp [Instr.lookup, run_underlying Tryz.underlying134, MapKept.run_getObj_map hb, check_span, hk, Result.andThen]
theorem getL_snoc (L : List ((Nat × Nat) × ByteArray × Nat)) (a b : Nat) (s : ByteArray) (c : Nat) (h : getL L a b = none) : ∀ a' b', getL (L ++ [((a, b), s, c)]) a' b' = upd (getL L) a b s a' b' := by
  intro a' b'
  unfold upd
  induction L with
  | nil => simp [getL]
  | cons x xs ih =>
    simp only [getL] at h
    split at h
    · cases h
    · rename_i hn
      simp only [List.cons_append, getL, ih h]
      by_cases e : a' = x.1.1 ∧ b' = x.1.2
      · rw [if_pos e, if_pos e, if_neg]
        rintro ⟨rfl, rfl⟩
        exact hn e
      · rw [if_neg e, if_neg e]
theorem MapS.store {w : World} {m : Nat} {f : Nat → Nat → Option ByteArray} (h : MapS w m f) (a b : Nat) (s : ByteArray) (hf : f a b = none) :
    ∃ w', (Instr.mapUpdate 134 (.map (some m)) (spV a b) (.string s)).run Tryz.prog w = .ok () w' ∧ MapS w' m (upd f a b s) ∧ w.grownBy w' (some m) := by
  have hlt := h.lt
  obtain ⟨L, clock, hb, he⟩ := h
  have hn : getL L a b = none := he a b ▸ hf
  have hk := findKey_span a b w L
  rw [findL_none hn] at hk
  refine ⟨{ w with heap := w.heap.setIfInBounds m (.map ((L ++ [((a, b), s, clock)]).map ent).toArray (clock + 1)) }, ?_, ⟨L ++ [((a, b), s, clock)], clock + 1, ?_, ?_⟩, ?_⟩
  · simp [Instr.mapUpdate, run_underlying Tryz.underlying134, MapKept.run_getObj_map hb, check_span, hk, MapKept.run_setObj_map _ hb, Result.andThen, ent]
  · simp [hlt]
  · intro a' b'
    rw [getL_snoc L a b s clock hn]
    unfold upd
    rw [he a' b']
  · exact ⟨rfl, rfl, rfl, by simp, fun k _ hk => by
      have : m ≠ k := fun e => hk (by rw [e])
      simp [Array.getElem?_setIfInBounds, this]⟩
section
variable {ops : Array Oper} {rest : List Oper} {o : Oper} {a : Act} {w : World} {Q : Exit → Act → World → Prop}
end
end Go.Proofs.YtjokfllldcjheaaGreatDoor.Mk
/- Leaves, nodes, the split: what the package merkle's small functions hand back. -/
namespace Go.Proofs.YtjokfllldcjheaaGreatDoor.Mk
open Go.RowKit Go.Proofs.YtjokfllldcjheaaGreatDoor.Sha
set_option linter.unusedVariables false
set_option linter.unusedSimpArgs false

/-- a leaf's digest, a node's, nothing's -/
def leafD (s : ByteArray) : ByteArray := dig (0 :: s.data.toList)
def nodeD (a b : ByteArray) : ByteArray := dig (1 :: (a.data.toList ++ b.data.toList))
def emptyD : ByteArray := dig [2]
theorem nodeD_size (a b : ByteArray) : (nodeD a b).size = 32 := dig_size _
theorem leafD_size (a : ByteArray) : (leafD a).size = 32 := dig_size _
/-- the greatest power of two below n (n at least 2) -/
def hb (n : Nat) : Nat := 2 ^ Nat.log2 (n - 1)
theorem hb_pos (n : Nat) : 0 < hb n := Nat.pow_pos (by omega)
theorem hb_lt {n : Nat} (h : 2 ≤ n) : hb n < n := by
  have := Nat.log2_self_le (n := n - 1) (by omega)
  unfold hb; omega
theorem hb_le {n : Nat} (h : 2 ≤ n) : n ≤ 2 * hb n := by
  have := Nat.lt_log2_self (n := n - 1)
  unfold hb
  rw [Nat.pow_succ] at this
  omega
theorem bitLen_log (x : Nat) : x ≠ 0 → x < 2 ^ 64 → Lib.bitLen x = Nat.log2 x + 1 := by
  induction x using Nat.strongRecOn with
  | _ x ih =>
    intro h0 h
    rw [Lib.bitLen_half x h0 h]
    by_cases h2 : x / 2 = 0
    · have : x = 1 := by omega
      subst this
      decide
    · rw [ih (x / 2) (by omega) h2 (by omega), Nat.log2_def x, if_pos (by omega)]
      omega

theorem leaf_calls (s : ByteArray) (w : World) (hsz : s.size ≤ 900000) :
    Calls Tryz.prog 99 #[.string s] w fun e w' => e = .returned (.string (leafD s)) ∧ Hid (Below w.heap.size w w') := by
  have hc : cat [⟨#[0]⟩, s] = 0 :: s.data.toList := by simp [cat]
  have hl : (cat [⟨#[0]⟩, s]).length ≤ 1000000 := by rw [hc, List.length_cons, toList_len]; omega
  have HL := Lib.hid hl
  have HC := Lib.hid hc
  clear hc hl
  go_enter Tryz.func99, Tryz.ntmps99
  go_wp2_with ((go_at_call 67; refine (sum_calls w.heap.size _ [⟨#[0]⟩, s] _ (SR.lit w [⟨#[0]⟩, s] _ rfl 2 rfl (by simp)) HL.out).mono ?_; rintro e w1 ⟨rfl, hb1⟩; rw [HC.out]; have HB1 : Hid (Below w.heap.size w w1) := Lib.hid (Below.trans ((Below.refl _ _).alloc (Nat.le_refl _) _) (hb1.mono (by simp))); clear hb1))
  go_ret
  exact ⟨rfl, HB1⟩
theorem node_calls (a b : ByteArray) (w : World) (ha : a.size ≤ 400000) (hb : b.size ≤ 400000) :
    Calls Tryz.prog 127 #[.string a, .string b] w fun e w' => e = .returned (.string (nodeD a b)) ∧ Hid (Below w.heap.size w w') := by
  have hc : cat [⟨#[1]⟩, a, b] = 1 :: (a.data.toList ++ b.data.toList) := by simp [cat]
  have hl : (cat [⟨#[1]⟩, a, b]).length ≤ 1000000 := by rw [hc, List.length_cons, List.length_append, toList_len, toList_len]; omega
  have HL := Lib.hid hl
  have HC := Lib.hid hc
  clear hc hl
  go_enter Tryz.func127, Tryz.ntmps127
  go_wp2_with ((go_at_call 67; refine (sum_calls w.heap.size _ [⟨#[1]⟩, a, b] _ (SR.lit w [⟨#[1]⟩, a, b] _ rfl 3 rfl (by simp)) HL.out).mono ?_; rintro e w1 ⟨rfl, hb1⟩; rw [HC.out]; have HB1 : Hid (Below w.heap.size w w1) := Lib.hid (Below.trans ((Below.refl _ _).alloc (Nat.le_refl _) _) (hb1.mono (by simp))); clear hb1))
  go_ret
  exact ⟨rfl, HB1⟩
theorem split_calls (n : Nat) (w : World) (h2 : 2 ≤ n) (hn : n ≤ 1000000000) :
    Calls Tryz.prog 126 #[.int .i64 (n : Int)] w fun e w' => e = .returned (.int .i64 ((hb n : Nat) : Int)) ∧ w = w' := by
  have h1 : (1 : Int) ≤ (n : Int) := by omega
  have hn2 : (n : Int) ≤ 1000000000 := by omega
  have hbl : Lib.bitLen (n - 1) = Nat.log2 (n - 1) + 1 := bitLen_log (n - 1) (by omega) (by omega)
  obtain ⟨L, hL⟩ : ∃ L, Nat.log2 (n - 1) = L := ⟨_, rfl⟩
  have hh : hb n = 2 ^ L := by unfold hb; rw [hL]
  rw [hL] at hbl
  have hL2 : L ≤ 30 := by
    have h3 : Nat.log2 (n - 1) < 31 := (Nat.log2_lt (by omega)).2 (by omega)
    omega
  have hp : 2 ^ L ≤ 2 ^ 30 := Nat.pow_le_pow_right (by omega) hL2
  have hw : wrap64 (((L + 1 : Nat) : Int) - 1) = (L : Int) := by unfold wrap64; omega
  have hq : wrap64 ((2 : Int) ^ L) = ((2 ^ L : Nat) : Int) := by
    have e2 : ((2 : Int) ^ L) = ((2 ^ L : Nat) : Int) := by simp
    rw [e2]
    generalize 2 ^ L = x at hp
    unfold wrap64; omega
  have HQ := Lib.hid hq
  rw [hh]
  clear hh hL hp hq
  go_enter Tryz.func126, Tryz.ntmps126
  go_wp2_with ((go_at_call 108; refine (Tryz.bits_Len _ _ (by omega) (by omega)).mono ?_; rintro e w1 ⟨rfl, rfl⟩; rw [show ((n : Int) - 1).toNat = n - 1 by omega, hbl]))
  go_ret
  refine ⟨?_, rfl⟩
  show Ending.returned (.int .i64 (wrap64 ((2 : Int) ^ L))) = _
  rw [HQ.out]
end Go.Proofs.YtjokfllldcjheaaGreatDoor.Mk
/- The method fill of merkle.Tree: it notes the digests of a span and of all its parts. -/
namespace Go.Proofs.YtjokfllldcjheaaGreatDoor.Mk
open Go.RowKit Go.Proofs.YtjokfllldcjheaaGreatDoor.Sha
set_option linter.unusedVariables false
set_option linter.unusedSimpArgs false

/-- the digest of the span (a, n) of leaves -/
def treeR (ls : List ByteArray) (a n : Nat) : ByteArray :=
  if h : n ≤ 1 then ls.getD a ByteArray.empty else nodeD (treeR ls a (hb n)) (treeR ls (a + hb n) (n - hb n))
termination_by n
decreasing_by
  all_goals first | exact hb_lt (by omega) | (have := hb_pos n; omega)
/-- what the map holds behind a span's filling -/
def fillF (ls : List ByteArray) (f : Nat → Nat → Option ByteArray) (a n : Nat) : Nat → Nat → Option ByteArray :=
  if h : n ≤ 1 then upd f a n (ls.getD a ByteArray.empty) else upd (fillF ls (fillF ls f a (hb n)) (a + hb n) (n - hb n)) a n (treeR ls a n)
termination_by n
decreasing_by
  all_goals first | exact hb_lt (by omega) | (have := hb_pos n; omega)
theorem treeR_one (ls : List ByteArray) (a : Nat) : treeR ls a 1 = ls.getD a ByteArray.empty := by rw [treeR]; simp
theorem treeR_more (ls : List ByteArray) (a n : Nat) (h : 2 ≤ n) : treeR ls a n = nodeD (treeR ls a (hb n)) (treeR ls (a + hb n) (n - hb n)) := by rw [treeR, dif_neg (by omega)]
theorem fillF_one (ls : List ByteArray) (f : Nat → Nat → Option ByteArray) (a : Nat) : fillF ls f a 1 = upd f a 1 (ls.getD a ByteArray.empty) := by rw [fillF]; simp
theorem fillF_more (ls : List ByteArray) (f : Nat → Nat → Option ByteArray) (a n : Nat) (h : 2 ≤ n) : fillF ls f a n = upd (fillF ls (fillF ls f a (hb n)) (a + hb n) (n - hb n)) a n (treeR ls a n) := by rw [fillF, dif_neg (by omega)]
theorem upd_other {f : Nat → Nat → Option ByteArray} {a b a' b' : Nat} {s : ByteArray} (h : ¬ (a' = a ∧ b' = b)) : upd f a b s a' b' = f a' b' := by unfold upd; rw [if_neg h]
theorem upd_same {f : Nat → Nat → Option ByteArray} {a b : Nat} {s : ByteArray} : upd f a b s a b = some s := by unfold upd; rw [if_pos ⟨rfl, rfl⟩]
theorem fillF_out (ls : List ByteArray) (n : Nat) : ∀ (f : Nat → Nat → Option ByteArray) (a a' b' : Nat), 1 ≤ n → ¬ (a ≤ a' ∧ a' + b' ≤ a + n) → fillF ls f a n a' b' = f a' b' := by
  induction n using Nat.strongRecOn with
  | _ n ih =>
    intro f a a' b' h1 hn
    by_cases h : n ≤ 1
    · obtain rfl : n = 1 := by omega
      rw [fillF_one, upd_other (by omega)]
    · have hl := hb_lt (n := n) (by omega)
      have hp := hb_pos n
      rw [fillF_more _ _ _ _ (by omega), upd_other (by omega), ih (n - hb n) (by omega) _ _ _ _ (by omega) (by omega), ih (hb n) hl _ _ _ _ (by omega) (by omega)]
theorem treeR_size {ls : List ByteArray} (hls : ∀ s ∈ ls, s.size = 32) (n : Nat) : ∀ a, 1 ≤ n → a + n ≤ ls.length → (treeR ls a n).size = 32 := by
  intro a h1 h
  by_cases h2 : n ≤ 1
  · obtain rfl : n = 1 := by omega
    rw [treeR_one]
    have : ls.getD a ByteArray.empty = ls[a] := by simp [List.getD_eq_getElem?_getD, show a < ls.length by omega]
    rw [this]
    exact hls _ (List.getElem_mem _)
  · rw [treeR_more _ _ _ (by omega)]
    exact nodeD_size _ _

/-- tb is a tree's block: the leaves' digests ls (read by lv, block lb), the map mb that reads as f -/
def TreeS (w : World) (tb mb lb : Nat) (lv : Value) (ls : List ByteArray) (f : Nat → Nat → Option ByteArray) : Prop :=
  w.heap[tb]? = some (.cells #[lv, .map (some mb)] 136 (0, 0)) ∧ SR w lb lv ls ∧ MapS w mb f ∧ tb ≠ mb ∧ lb ≠ mb
theorem TreeS.later {w w' : World} {tb mb lb : Nat} {lv : Value} {ls : List ByteArray} {f : Nat → Nat → Option ByteArray} (h : TreeS w tb mb lb lv ls f) (hb : Below w.heap.size w w') : TreeS w' tb mb lb lv ls f :=
  ⟨(hb.block tb (Array.getElem?_eq_some_iff.1 h.1).1).trans h.1, h.2.1.later hb, h.2.2.1.later hb, h.2.2.2.1, h.2.2.2.2⟩
theorem TreeS.drewN {w : World} {tb mb lb : Nat} {lv : Value} {ls : List ByteArray} {f : Nat → Nat → Option ByteArray} (h : TreeS w tb mb lb lv ls f) (n : Nat) : TreeS (w.drewN n) tb mb lb lv ls f := h
theorem TreeS.drew {w : World} {tb mb lb : Nat} {lv : Value} {ls : List ByteArray} {f : Nat → Nat → Option ByteArray} (h : TreeS w tb mb lb lv ls f) : TreeS w.drew tb mb lb lv ls f := h
theorem TreeS.lt {w : World} {tb mb lb : Nat} {lv : Value} {ls : List ByteArray} {f : Nat → Nat → Option ByteArray} (h : TreeS w tb mb lb lv ls f) : tb < w.heap.size := (Array.getElem?_eq_some_iff.1 h.1).1
theorem TreeS.cell0 {w : World} {tb mb lb : Nat} {lv : Value} {ls : List ByteArray} {f : Nat → Nat → Option ByteArray} (h : TreeS w tb mb lb lv ls f) : w.cell? ⟨tb, 0, none⟩ = some lv := by
  rw [cell_of_row w tb 0 _ _ _ h.1]; rfl
theorem TreeS.cell1 {w : World} {tb mb lb : Nat} {lv : Value} {ls : List ByteArray} {f : Nat → Nat → Option ByteArray} (h : TreeS w tb mb lb lv ls f) : w.cell? ⟨tb, 1, none⟩ = some (.map (some mb)) := by
  rw [cell_of_row w tb 1 _ _ _ h.1]; rfl
theorem TreeS.store {w : World} {tb mb lb : Nat} {lv : Value} {ls : List ByteArray} {f : Nat → Nat → Option ByteArray} (h : TreeS w tb mb lb lv ls f) (a b : Nat) (s : ByteArray) (hf : f a b = none) :
    ∃ w', (Instr.mapUpdate 134 (.map (some mb)) (spV a b) (.string s)).run Tryz.prog w = .ok () w' ∧ TreeS w' tb mb lb lv ls (upd f a b s) ∧ w.grownBy w' (some mb) := by
  obtain ⟨h1, h2, h3, h4, h5⟩ := h
  obtain ⟨w', hr, hm, hg⟩ := h3.store a b s hf
  exact ⟨w', hr, ⟨(hg.block tb (Array.getElem?_eq_some_iff.1 h1).1 (fun e => h4 (by injection e))).trans h1, h2.kept hg (fun e => h5 (by injection e)), hm, h4, h5⟩, hg⟩

theorem u0lt {w : World} {p : Addr} {v : Value} (h : w.cell? p = some v) : p.block < w.heap.size := by
  rcases Nat.lt_or_ge p.block w.heap.size with h1 | h1
  · exact h1
  · have : w.heap[p.block]? = none := Array.getElem?_eq_none h1
    simp [World.cell?, this] at h
theorem grown_drewN {w w' : World} {r : Option Nat} {n : Nat} (h : (w.drewN n).grownBy w' r) : w.grownBy w' r := ⟨h.os, h.tape, h.output, h.size, h.block⟩
theorem grown_to_drewN {w w' : World} {r : Option Nat} (h : w.grownBy w' r) (n : Nat) : w.grownBy (w'.drewN n) r := ⟨h.os, h.tape, h.output, h.size, h.block⟩
set_option maxHeartbeats 1000000 in
set_option maxRecDepth 100000 in
theorem fill_calls (tb mb lb : Nat) (lv : Value) (ls : List ByteArray) (hls : ∀ s ∈ ls, s.size = 32) (hll : ls.length ≤ 1000000) (n : Nat) : ∀ (a : Nat) (f : Nat → Nat → Option ByteArray) (w : World), 1 ≤ n → a + n ≤ ls.length → TreeS w tb mb lb lv ls f →
    (∀ a' b', a ≤ a' → a' + b' ≤ a + n → 1 ≤ b' → f a' b' = none) →
    Calls Tryz.prog 100 #[.pointer (some ⟨tb, 0, none⟩), spV a n] w fun e w' => e = .returned (.string (treeR ls a n)) ∧ Hid (TreeS w' tb mb lb lv ls (fillF ls f a n)) ∧ Hid (w.grownBy w' (some mb)) := by
  induction n using Nat.strongRecOn with
  | _ n ih =>
    intro a f w h1 han hT hf
    have IH := Lib.hid ih
    have HT := Lib.hid hT
    have HF := Lib.hid hf
    have HLS := Lib.hid hls
    clear ih hT hf hls
    by_cases h : n ≤ 1
    · obtain rfl : n = 1 := by omega
      obtain ⟨A, c, hlv, hc1, hc2, hrd⟩ := HT.out.2.1
      obtain ⟨ad, hA, hadb, hcell⟩ := hrd (by omega)
      have q1 := hcell a (by omega)
      obtain ⟨len, hlen⟩ : ∃ len, ls.length = len := ⟨_, rfl⟩
      rw [hlen] at hlv han hll hc1
      have hlv' : lv = .slice (some ad) len c := by rw [hlv, hA]
      subst hlv'
      clear hcell hrd hlv hA
      show Calls Tryz.prog _ #[_, .agg #[.int .i64 (a : Int), .int .i64 (1 : Int)]] w _
      go_enter Tryz.func100, Tryz.ntmps100
      have HT1 := Lib.hid (HT.out.later ((Below.refl _ _).alloc (Nat.le_refl _) (.cells #[.int .i64 (a : Int), .int .i64 1] 138)))
      have HG1 : Hid (w.grownBy (w.alloc (.cells #[.int .i64 (a : Int), .int .i64 1] 138)) (some mb)) := Lib.hid (World.grownBy_alloc w _ _)
      have x0 : (w.alloc (.cells #[.int .i64 (a : Int), .int .i64 1] 138)).cell? ⟨w.heap.size, 0, none⟩ = some (.int .i64 (a : Int)) := by rw [cell_of_row _ w.heap.size 0 _ _ _ (heap_alloc_new w _)]; rfl
      have x1 : (w.alloc (.cells #[.int .i64 (a : Int), .int .i64 1] 138)).cell? ⟨w.heap.size, 1, none⟩ = some (.int .i64 1) := by rw [cell_of_row _ w.heap.size 1 _ _ _ (heap_alloc_new w _)]; rfl
      have q2 : (w.alloc (.cells #[.int .i64 (a : Int), .int .i64 1] 138)).cell? (ad.add a) = some (.string (ls.getD a ByteArray.empty)) := by
        refine Eq.trans (((Below.refl w.heap.size w).alloc (Nat.le_refl _) _).cell ?_) q1
        rw [Addr.add_block, hadb]
        rcases HT.out.2.1.lt with e | e
        · rw [e] at hlen; simp at hlen; omega
        · exact e
      have hxm : w.heap.size ≠ mb := by have := HT.out.2.2.1.lt; omega
      have hxt : w.heap.size ≠ tb := by have := HT.out.lt; omega
      go_upto_region 6 with (fail)
      obtain ⟨W0, hW0⟩ : ∃ W0, w.alloc (.cells #[.int .i64 (a : Int), .int .i64 1] 138) = W0 := ⟨_, rfl⟩
      obtain ⟨xb, hxb⟩ : ∃ xb, w.heap.size = xb := ⟨_, rfl⟩
      rw [hW0, hxb] at x0 x1
      rw [hW0] at q2 HT1 HG1 ⊢
      rw [hxb] at hxm hxt ⊢
      obtain ⟨s, hs⟩ : ∃ s, ls.getD a ByteArray.empty = s := ⟨_, rfl⟩
      rw [hs] at q2
      have t0 := HT1.out.cell0
      have t1 := HT1.out.cell1
      have k0 : (0 : Int) ≤ (a : Int) := by omega
      have k1 : (a : Int) < (len : Int) := by omega
      go_quiet (fail)
      have hF : f a 1 = none := HF.out a 1 (by omega) (by omega) (by omega)
      obtain ⟨W1, hrun, hT2, hg2⟩ := (HT1.out.drewN (nq + 1)).store a 1 s hF
      have HT2 := Lib.hid hT2
      have HG2 := Lib.hid hg2
      have HFE : Hid (fillF ls f a 1 = upd f a 1 s) := Lib.hid (by rw [fillF_one, hs])
      have HTE : Hid (treeR ls a 1 = s) := Lib.hid (by rw [treeR_one, hs])
      clear hs q1 q2 hF hT2 hg2
      unfold spV at hrun
      rw [show ((1 : Nat) : Int) = 1 from rfl] at hrun
      have hxm1 := HT2.out.cell1
      go_upto_region 7 with (fail)
      go_region_held3 (fun w' => w'.cell? ⟨tb, 1, none⟩ = some (.map (some mb)) ∧ w'.cell? ⟨xb, 0, none⟩ = some (.int .i64 (a : Int)) ∧ w'.cell? ⟨xb, 1, none⟩ = some (.int .i64 1)) (first | (go_keep; done) | exact ⟨t1, x0, x1⟩ | exact ⟨hxm1, HG2.out.cell x0 (fun e => hxm (by injection e)), HG2.out.cell x1 (fun e => hxm (by injection e))⟩) (fail)
      go_wp2
      go_ret
      exact ⟨by rw [HTE.out]; rfl, by rw [HFE.out]; exact HT2, Lib.hid (HG1.out.trans (grown_drewN HG2.out))⟩
    · have h2 : 2 ≤ n := by omega
      have hkl := hb_lt h2
      have hkp := hb_pos n
      have hR : treeR ls a n = nodeD (treeR ls a (hb n)) (treeR ls (a + hb n) (n - hb n)) := treeR_more ls a n h2
      have hFM := fillF_more ls f a n h2
      have hsp := split_calls n
      have z1 := treeR_size HLS.out (hb n) a (by omega) (by omega)
      have z2 := treeR_size HLS.out (n - hb n) (a + hb n) (by omega) (by omega)
      have ih1 := IH.out (hb n) hkl a f
      have ih2 := IH.out (n - hb n) (by omega) (a + hb n) (fillF ls f a (hb n))
      have f2 : ∀ a' b', a + hb n ≤ a' → a' + b' ≤ a + hb n + (n - hb n) → 1 ≤ b' → fillF ls f a (hb n) a' b' = none := fun a' b' g1 g2 g3 => by
        rw [fillF_out _ _ _ _ _ _ (by omega) (by omega)]
        exact HF.out a' b' (by omega) (by omega) g3
      have f1 : ∀ a' b', a ≤ a' → a' + b' ≤ a + hb n → 1 ≤ b' → f a' b' = none := fun a' b' g1 g2 g3 => HF.out a' b' g1 (by omega) g3
      have f3 : fillF ls (fillF ls f a (hb n)) (a + hb n) (n - hb n) a n = none := by
        rw [fillF_out _ _ _ _ _ _ (by omega) (by omega), fillF_out _ _ _ _ _ _ (by omega) (by omega)]
        exact HF.out a n (by omega) (by omega) (by omega)
      rw [hR]
      generalize hb n = k at hkl hkp hR hFM hsp z1 z2 ih1 ih2 f1 f2 f3 ⊢
      rw [hR] at hFM
      generalize treeR ls a k = R1 at hFM z1 ih1 ⊢
      generalize treeR ls (a + k) (n - k) = R2 at hFM z2 ih2 ⊢
      rw [hFM]
      generalize fillF ls f a k = F1 at ih1 ih2 f2 f3 ⊢
      generalize fillF ls F1 (a + k) (n - k) = F2 at ih2 f3 ⊢
      obtain ⟨m, hm⟩ : ∃ m, n - k = m := ⟨_, rfl⟩
      have hvr : (Value.agg #[.int .i64 ((a : Int) + (k : Int)), .int .i64 ((n : Int) - (k : Int))]) = spV (a + k) m := by
        unfold spV
        rw [show (((a + k : Nat) : Int)) = (a : Int) + (k : Int) by omega, show ((m : Nat) : Int) = (n : Int) - (k : Int) by omega]
      rw [hm] at ih2 f2
      have HSP := Lib.hid hsp
      have I1 := Lib.hid ih1
      have I2 := Lib.hid ih2
      have FF1 := Lib.hid f1
      have FF2 := Lib.hid f2
      have FF3 := Lib.hid f3
      have HVR := Lib.hid hvr
      have HVL := Lib.hid (show (Value.agg #[.int .i64 (a : Int), .int .i64 (k : Int)]) = spV a k from rfl)
      clear hsp ih1 ih2 f1 f2 f3 hvr hR hFM HF IH
      have n2 : (2 : Int) ≤ (n : Int) := by omega
      have n3 : (n : Int) ≤ 1000000 := by omega
      have n4 : (a : Int) ≤ 1000000 := by omega
      have n5 : (k : Int) < (n : Int) := by omega
      have wr1 : IntKind.i64.wrap ((a : Int) + (k : Int)) = (a : Int) + (k : Int) := IntWalk.i64_in _ (by omega)
      have wr2 : IntKind.i64.wrap ((n : Int) - (k : Int)) = (n : Int) - (k : Int) := IntWalk.i64_in _ (by omega)
      have nb : ((n : Int) == 1) = false := by rw [beq_eq_false_iff_ne]; omega
      show Calls Tryz.prog _ #[_, .agg #[.int .i64 (a : Int), .int .i64 (n : Int)]] w _
      go_enter Tryz.func100, Tryz.ntmps100
      have HT1 := Lib.hid (HT.out.later ((Below.refl _ _).alloc (Nat.le_refl _) (.cells #[.int .i64 (a : Int), .int .i64 (n : Int)] 138)))
      have HG1 : Hid (w.grownBy (w.alloc (.cells #[.int .i64 (a : Int), .int .i64 (n : Int)] 138)) (some mb)) := Lib.hid (World.grownBy_alloc w _ _)
      have x0 : (w.alloc (.cells #[.int .i64 (a : Int), .int .i64 (n : Int)] 138)).cell? ⟨w.heap.size, 0, none⟩ = some (.int .i64 (a : Int)) := by rw [cell_of_row _ w.heap.size 0 _ _ _ (heap_alloc_new w _)]; rfl
      have x1 : (w.alloc (.cells #[.int .i64 (a : Int), .int .i64 (n : Int)] 138)).cell? ⟨w.heap.size, 1, none⟩ = some (.int .i64 (n : Int)) := by rw [cell_of_row _ w.heap.size 1 _ _ _ (heap_alloc_new w _)]; rfl
      have hxm : w.heap.size ≠ mb := by have := HT.out.2.2.1.lt; omega
      go_upto_region 3 with (fail)
      obtain ⟨W0, hW0⟩ : ∃ W0, w.alloc (.cells #[.int .i64 (a : Int), .int .i64 (n : Int)] 138) = W0 := ⟨_, rfl⟩
      obtain ⟨xb, hxb⟩ : ∃ xb, w.heap.size = xb := ⟨_, rfl⟩
      rw [hW0, hxb] at x0 x1
      rw [hW0] at HT1 HG1 ⊢
      rw [hxb] at hxm ⊢
      go_upto_region 4 with (go_at_call 126; refine (HSP.out _ h2 (by omega)).mono ?_; rintro e w' ⟨rfl, rfl⟩)
      go_region_held3 (fun w' => w'.cell? ⟨xb, 0, none⟩ = some (.int .i64 (a : Int)) ∧ w'.cell? ⟨xb, 1, none⟩ = some (.int .i64 (n : Int)))
        (first | (go_keep; done) | exact ⟨x0, x1⟩ | exact ⟨y0, y1⟩ | exact ⟨v0, v1⟩ | exact ⟨u0, u1⟩)
        (first
          | (go_at_call 100; rw [HVL.out]; refine (I1.out W0.drew (by omega) (by omega) HT1.out.drew FF1.out).mono ?_; rintro e w3 ⟨rfl, HT3, HG3⟩; have y0 := HG3.out.cell (w := W0.drew) x0 (fun e => hxm (by injection e)); have y1 := HG3.out.cell (w := W0.drew) x1 (fun e => hxm (by injection e)))
          | (go_at_call 100; rw [HVR.out]; refine (I2.out w3 (by omega) (by omega) HT3.out FF2.out).mono ?_; rintro e w4 ⟨rfl, HT4, HG4⟩; have u0 := HG4.out.cell y0 (fun e => hxm (by injection e)); have u1 := HG4.out.cell y1 (fun e => hxm (by injection e)))
          | (go_at_call 127; refine (node_calls R1 R2 w4 (by omega) (by omega)).mono ?_; rintro e w5 ⟨rfl, HB5⟩; have HT5 := Lib.hid (HT4.out.later HB5.out); have v0 := (HB5.out.cell (p := ⟨xb, 0, none⟩) (by exact (u0lt u0))).trans u0; have v1 := (HB5.out.cell (p := ⟨xb, 1, none⟩) (by exact (u0lt u1))).trans u1))
      obtain ⟨W1, hrun, hT6, hg6⟩ := HT5.out.drew.store a n (nodeD R1 R2) FF3.out
      have HT6 := Lib.hid hT6
      have HG6 := Lib.hid hg6
      have s1 := HT5.out.cell1
      have s2 := HT6.out.cell1
      have HG7 := Lib.hid (((HG1.out.trans (⟨HG3.out.os, HG3.out.tape, HG3.out.output, HG3.out.size, HG3.out.block⟩ : W0.grownBy w3 (some mb))).trans HG4.out).trans (grown_below HB5.out (some mb)))
      clear hT6 hg6
      unfold spV at hrun
      go_upto_region 7 with (fail)
      go_region_held3 (fun w' => w'.cell? ⟨tb, 1, none⟩ = some (.map (some mb)) ∧ w'.cell? ⟨xb, 0, none⟩ = some (.int .i64 (a : Int)) ∧ w'.cell? ⟨xb, 1, none⟩ = some (.int .i64 (n : Int))) (first | (go_keep; done) | exact ⟨s1, v0, v1⟩ | exact ⟨s2, HG6.out.cell (w := w5.drew) v0 (fun e => hxm (by injection e)), HG6.out.cell (w := w5.drew) v1 (fun e => hxm (by injection e))⟩) (fail)
      go_wp2
      go_ret
      exact ⟨rfl, HT6, Lib.hid (HG7.out.trans (⟨HG6.out.os, HG6.out.tape, HG6.out.output, HG6.out.size, HG6.out.block⟩ : w5.grownBy W1 (some mb)))⟩
end Go.Proofs.YtjokfllldcjheaaGreatDoor.Mk
