/- A map from spans (two numbers) to texts, as the call makes it: what a look-up reads, what a store leaves. -/
import Derived.Test.YtmhjocbnoppbbaaDoorShaM
namespace Go.Proofs.YtmhjocbnoppbbaaDoor.Mk
open Go.RowKit
set_option linter.unusedVariables false
set_option linter.unusedSimpArgs false

/-- a span as a value -/
def spV (a b : Nat) : Value := .agg #[.int .i64 (a : Int), .int .i64 (b : Int)]
/-- an entry of the map: the span, the text, when it was born -/
def ent (x : (Nat × Nat) × ByteArray × Nat) : MapEntry := { key := spV x.1.1 x.1.2, val := .string x.2.1, born := x.2.2 }
def getL : List ((Nat × Nat) × ByteArray × Nat) → Nat → Nat → Option ByteArray
  | [], _, _ => none
  | x :: xs, a, b => if a = x.1.1 ∧ b = x.1.2 then some x.2.1 else getL xs a b
/-- block m is a map that reads as f -/
def MapS (w : World) (m : Nat) (f : Nat → Nat → Option ByteArray) : Prop :=
  ∃ (L : List ((Nat × Nat) × ByteArray × Nat)) (clock : Nat), w.heap[m]? = some (.map (L.map ent).toArray clock) ∧ ∀ a b, f a b = getL L a b
def upd (f : Nat → Nat → Option ByteArray) (a b : Nat) (s : ByteArray) : Nat → Nat → Option ByteArray := fun a' b' => if a' = a ∧ b' = b then some s else f a' b'
theorem MapS.fresh (w : World) : MapS (w.alloc (.map #[] 0)) w.heap.size fun _ _ => none :=
  ⟨[], 0, heap_alloc_new w _, fun _ _ => rfl⟩
theorem MapS.lt {w : World} {m : Nat} {f : Nat → Nat → Option ByteArray} (h : MapS w m f) : m < w.heap.size := by
  obtain ⟨L, c, h, _⟩ := h
  exact (Array.getElem?_eq_some_iff.1 h).1
theorem MapS.other {w w' : World} {m : Nat} {f : Nat → Nat → Option ByteArray} (h : MapS w m f) (hb : w'.heap[m]? = w.heap[m]?) : MapS w' m f := by
  obtain ⟨L, c, h, e⟩ := h
  exact ⟨L, c, hb.trans h, e⟩
theorem MapS.kept {w w' : World} {m : Nat} {f : Nat → Nat → Option ByteArray} (h : MapS w m f) {row : Option Nat} (hg : w.grownBy w' row) (hr : some m ≠ row) : MapS w' m f := h.other (hg.block m h.lt hr)
theorem MapS.below {w w' : World} {m B : Nat} {f : Nat → Nat → Option ByteArray} (h : MapS w m f) (hb : Below B w w') (hB : m < B) : MapS w' m f := h.other (hb.block m hB)
theorem MapS.later {w w' : World} {m : Nat} {f : Nat → Nat → Option ByteArray} (h : MapS w m f) (hb : Below w.heap.size w w') : MapS w' m f := h.below hb h.lt
theorem MapS.alloc {w : World} {m : Nat} {f : Nat → Nat → Option ByteArray} (h : MapS w m f) (o : Obj) : MapS (w.alloc o) m f := h.later ((Below.refl _ _).alloc (Nat.le_refl _) _)
theorem MapS.drewN {w : World} {m : Nat} {f : Nat → Nat → Option ByteArray} (h : MapS w m f) (n : Nat) : MapS (w.drewN n) m f := h

theorem eq_span (a b c d : Nat) (w : World) : (Op.equal 95 (spV a b) (spV c d)).run Tryd.prog w = .ok (decide (a = c ∧ b = d)) w := by
  unfold spV Op.equal Op.maxDepth
  rw [run_equalIn_agg w 9999 95 _ _ (by kernel_rfl) (by kernel_rfl)]
  go_simp
  by_cases h1 : a = c <;> by_cases h2 : b = d <;> simp [h1, h2, Int.ofNat_inj]
def findL : List ((Nat × Nat) × ByteArray × Nat) → Nat → Nat → Nat → Option (Nat × Value)
  | [], _, _, _ => none
  | x :: xs, a, b, i => if a = x.1.1 ∧ b = x.1.2 then some (i, .string x.2.1) else findL xs a b (i + 1)
theorem findAsking_run (a b : Nat) (w : World) : ∀ (L : List ((Nat × Nat) × ByteArray × Nat)) (i : Nat), (Instr.findAsking 95 (spV a b) (L.map ent) i).run Tryd.prog w = .ok (findL L a b i) w
  | [], i => by simp [Instr.findAsking, findL]
  | x :: xs, i => by
    have ih := findAsking_run a b w xs (i + 1)
    simp only [List.map_cons, Instr.findAsking, Sem.run_bind, ent, eq_span, Result.andThen_ok, findL]
    by_cases h : a = x.1.1 ∧ b = x.1.2
    · simp [h]
    · simp [h, ih]
theorem findL_none {L : List ((Nat × Nat) × ByteArray × Nat)} {a b : Nat} : ∀ {i : Nat}, getL L a b = none → findL L a b i = none := by
  induction L with
  | nil => intro i _; rfl
  | cons x xs ih =>
    intro i h
    simp only [getL] at h
    split at h
    · cases h
    · rename_i hn
      simp only [findL, if_neg hn]
      exact ih h
theorem findL_some {L : List ((Nat × Nat) × ByteArray × Nat)} {a b : Nat} {s : ByteArray} : ∀ {i : Nat}, getL L a b = some s → ∃ j, findL L a b i = some (j, .string s) := by
  induction L with
  | nil => intro i h; cases h
  | cons x xs ih =>
    intro i h
    simp only [getL] at h
    split at h
    · rename_i hn
      injection h with h
      subst h
      exact ⟨i, by simp only [findL, if_pos hn]⟩
    · rename_i hn
      obtain ⟨j, hj⟩ := ih (i := i + 1) h
      exact ⟨j, by simp only [findL, if_neg hn]; exact hj⟩
theorem check_span (e : Bool) (a b : Nat) (w : World) : (Instr.checkKey e 10000 95 (spV a b)).run Tryd.prog w = .ok () w := by
  unfold spV Instr.checkKey
  go_simp
  have hi : ∀ (x : Nat) (w : World), (Instr.checkKey e 9999 3 (.int .i64 (x : Int))).run Tryd.prog w = .ok () w := fun x w => by
    unfold Instr.checkKey
    go_simp
  rw [hi, Result.andThen_ok, hi]
theorem findKey_span (a b : Nat) (w : World) (L : List ((Nat × Nat) × ByteArray × Nat)) : (Instr.findKey 95 (spV a b) (L.map ent)).run Tryd.prog w = .ok (findL L a b 0) w := by
  rw [run_findKey_eq w (by kernel_rfl)]
  exact findAsking_run a b w L 0
theorem MapS.look {w : World} {m : Nat} {f : Nat → Nat → Option ByteArray} (h : MapS w m f) (a b : Nat) {s : ByteArray} (hf : f a b = some s) :
    (Instr.lookup 90 (.map (some m)) (spV a b) false).run Tryd.prog w = .ok (.string s) w := by
  obtain ⟨L, clock, hb, he⟩ := h
  obtain ⟨j, hj⟩ := findL_some (i := 0) (he a b ▸ hf : getL L a b = some s)
  have hk := findKey_span a b w L
  rw [hj] at hk
  simp [Instr.lookup, run_underlying Tryd.underlying90, MapKept.run_getObj_map hb, check_span, hk, Result.andThen]
theorem getL_snoc (L : List ((Nat × Nat) × ByteArray × Nat)) (a b : Nat) (s : ByteArray) (c : Nat) (h : getL L a b = none) : ∀ a' b', getL (L ++ [((a, b), s, c)]) a' b' = upd (getL L) a b s a' b' := by
  intro a' b'
  unfold upd
  induction L with
  | nil => simp [getL]
  | cons x xs ih =>
    simp only [getL] at h
    split at h
    · cases h
    · rename_i hn
      simp only [List.cons_append, getL, ih h]
      by_cases e : a' = x.1.1 ∧ b' = x.1.2
      · rw [if_pos e, if_pos e, if_neg]
        rintro ⟨rfl, rfl⟩
        exact hn e
      · rw [if_neg e, if_neg e]
theorem MapS.store {w : World} {m : Nat} {f : Nat → Nat → Option ByteArray} (h : MapS w m f) (a b : Nat) (s : ByteArray) (hf : f a b = none) :
    ∃ w', (Instr.mapUpdate 90 (.map (some m)) (spV a b) (.string s)).run Tryd.prog w = .ok () w' ∧ MapS w' m (upd f a b s) ∧ w.grownBy w' (some m) := by
  have hlt := h.lt
  obtain ⟨L, clock, hb, he⟩ := h
  have hn : getL L a b = none := he a b ▸ hf
  have hk := findKey_span a b w L
  rw [findL_none hn] at hk
  refine ⟨{ w with heap := w.heap.setIfInBounds m (.map ((L ++ [((a, b), s, clock)]).map ent).toArray (clock + 1)) }, ?_, ⟨L ++ [((a, b), s, clock)], clock + 1, ?_, ?_⟩, ?_⟩
  · simp [Instr.mapUpdate, run_underlying Tryd.underlying90, MapKept.run_getObj_map hb, check_span, hk, MapKept.run_setObj_map _ hb, Result.andThen, ent]
  · simp [hlt]
  · intro a' b'
    rw [getL_snoc L a b s clock hn]
    unfold upd
    rw [he a' b']
  · exact ⟨rfl, rfl, rfl, by simp, fun k _ hk => by
      have : m ≠ k := fun e => hk (by rw [e])
      simp [Array.getElem?_setIfInBounds, this]⟩
section
variable {ops : Array Oper} {rest : List Oper} {o : Oper} {a : Act} {w : World} {Q : Exit → Act → World → Prop}
end
end Go.Proofs.YtmhjocbnoppbbaaDoor.Mk
