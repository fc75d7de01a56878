/- want: the state in memory; Missing and Asked tell the numbers, rising. -/
import Derived.Test.YthnpaiobjmneaaaLay
import Derived.Test.YthnpaiobjmneaaaWm
import Derived.Maps.AppendAt
import Derived.Lib.Hide
namespace Go.Proofs.Ythnpaiobjmneaaa.Wa
open Go.RowKit Go.Maps Go.Sort Go.Shelf
set_option linter.unusedVariables false
set_option linter.unusedSimpArgs false

theorem sorts (m : Nat) : AnyZI.SortsIn Try.prog Try.sortedI_ren Fence.wide m :=
  ⟨fun blk off cap ss W hH hblk hsz => callsIn_wide.2 (AnyM.slices_Sort_int Try.sortI blk off cap ss W hH hblk hsz),
   fun p cap W => callsIn_wide.2 (AnyM.slices_Sort_int_none Try.sortI p cap W)⟩
/-- v is a row of integers of the call's own -/
def OJ (w : World) (base : Nat) (v : Value) (zs : List Int) : Prop := w.ownsRow base 3 1 v zs.length (zs.map fun z => .int .i64 z)

set_option maxHeartbeats 1000000 in
set_option maxRecDepth 100000 in
theorem keysB_calls (b : Nat) (M : List Int) (w : World) (h : BM w b M) (hm : M.length ≤ 4000000) :
    Calls Try.prog 48 #[.map (some b)] w fun e w' => e = .returned (.func (.func 66) #[] #[.pointer (some ⟨w.heap.size, 0, none⟩)]) ∧ w' = w.alloc (.cells #[.map (some b)] 53) :=
  (callsIn_wide (n := 5)).1 (AnyZI.keys_in Try.keysB Fence.wide 5 trivial rfl (some b) w)
set_option maxHeartbeats 1000000 in
set_option maxRecDepth 100000 in
theorem sortedB_calls (b : Nat) (M : List Int) (w : World) (h : BM w b M) (hm : M.length ≤ 4000000) :
    Calls Try.prog 46 #[.func (.func 66) #[] #[.pointer (some ⟨w.heap.size, 0, none⟩)]] (w.alloc (.cells #[.map (some b)] 53)) fun e w' => ∃ v, e = .returned v ∧ OJ w' w.heap.size v M ∧ (v = .slice none 0 0 ↔ M = []) ∧ Below w.heap.size w w' := by
  have hbl := h.lt
  obtain ⟨D, hown, hk, -⟩ := h
  have hs := hk.size
  have hseq : SeqGives Fence.wide 2 Try.prog 66 #[.pointer (some ⟨w.heap.size, 0, none⟩)] encZ (fun ss => ss.Perm (intKeys D)) (Maps.size D) (w.alloc (.cells #[.map (some b)] 53)) :=
    AnyZI.keys_gives (ρ := Try.keysB_ren) { Try.keysB with } Fence.wide _ trivial rfl (by omega) w.heap.size b M.length D _ (by simp) (by simp) (by
      obtain ⟨es, clock, hb, Ft, hs, hD⟩ := hown
      exact ⟨es, clock, (Below.heap_alloc _ _ b hbl).trans hb, Ft, hs, hD⟩)
  have cS := AnyZI.sorted_in Try.sortedI Fence.wide 5 trivial trivial trivial trivial rfl (by omega) (sorts _) (enters_of Try.func64 (by kernel_rfl) rfl) 66 #[.pointer (some ⟨w.heap.size, 0, none⟩)] trivial (enters_of Try.func66 (by kernel_rfl) rfl) _ _ (by rw [hs]; simp only [maxLen]; omega) (by rw [hs]; omega) _ hseq
  refine ((callsIn_wide (n := 5)).1 cS).mono ?_
  rintro e w' ⟨v, ss, rfl, hS, hrow, hnil, hb⟩
  have e1 := hk.sorted hown kI Try.underlying3 hS
  have e2 : ss.length = M.length := by rw [← e1]; simp
  rw [e1] at hrow
  refine ⟨v, rfl, ?_, ?_, ((Below.refl _ w).alloc (Nat.le_refl _) _).trans (hb.mono (by simp))⟩
  · unfold OJ
    rw [← e2]
    exact ownsRow_base_a hrow (by simp)
  · rw [hnil]
    constructor
    · intro h; subst h; simpa using e2.symm
    · intro h; subst h; simpa using e2
set_option maxHeartbeats 1000000 in
set_option maxRecDepth 100000 in
theorem keysI_calls (b : Nat) (A : List Int) (T : Int → Int) (w : World) (h : IM w b A T) (hm : A.length ≤ 4000000) :
    Calls Try.prog 47 #[.map (some b)] w fun e w' => e = .returned (.func (.func 65) #[] #[.pointer (some ⟨w.heap.size, 0, none⟩)]) ∧ w' = w.alloc (.cells #[.map (some b)] 84) :=
  (callsIn_wide (n := 5)).1 (AnyZI.keys_in Try.keysI Fence.wide 5 trivial rfl (some b) w)
set_option maxHeartbeats 1000000 in
set_option maxRecDepth 100000 in
theorem sortedI_calls (b : Nat) (A : List Int) (T : Int → Int) (w : World) (h : IM w b A T) (hm : A.length ≤ 4000000) :
    Calls Try.prog 46 #[.func (.func 65) #[] #[.pointer (some ⟨w.heap.size, 0, none⟩)]] (w.alloc (.cells #[.map (some b)] 84)) fun e w' => ∃ v, e = .returned v ∧ OJ w' w.heap.size v A ∧ (v = .slice none 0 0 ↔ A = []) ∧ Below w.heap.size w w' := by
  have hbl := h.lt
  obtain ⟨D, hown, hk, -⟩ := h
  have hs := hk.size
  have hseq : SeqGives Fence.wide 2 Try.prog 65 #[.pointer (some ⟨w.heap.size, 0, none⟩)] encZ (fun ss => ss.Perm (intKeys D)) (Maps.size D) (w.alloc (.cells #[.map (some b)] 84)) :=
    AnyZI.keys_gives (ρ := Try.keysI_ren) { Try.keysI with } Fence.wide _ trivial rfl (by omega) w.heap.size b A.length D _ (by simp) (by simp) (by
      obtain ⟨es, clock, hb, Ft, hs, hD⟩ := hown
      exact ⟨es, clock, (Below.heap_alloc _ _ b hbl).trans hb, Ft, hs, hD⟩)
  have cS := AnyZI.sorted_in Try.sortedI Fence.wide 5 trivial trivial trivial trivial rfl (by omega) (sorts _) (enters_of Try.func64 (by kernel_rfl) rfl) 65 #[.pointer (some ⟨w.heap.size, 0, none⟩)] trivial (enters_of Try.func65 (by kernel_rfl) rfl) _ _ (by rw [hs]; simp only [maxLen]; omega) (by rw [hs]; omega) _ hseq
  refine ((callsIn_wide (n := 5)).1 cS).mono ?_
  rintro e w' ⟨v, ss, rfl, hS, hrow, hnil, hb⟩
  have e1 := hk.sorted hown kI Try.underlying3 hS
  have e2 : ss.length = A.length := by rw [← e1]; simp
  rw [e1] at hrow
  refine ⟨v, rfl, ?_, ?_, ((Below.refl _ w).alloc (Nat.le_refl _) _).trans (hb.mono (by simp))⟩
  · unfold OJ
    rw [← e2]
    exact ownsRow_base_a hrow (by simp)
  · rw [hnil]
    constructor
    · intro h; subst h; simpa using e2.symm
    · intro h; subst h; simpa using e2
/-- a state at block p, whose maps lie at mb and ab: at once k, for t ticks; M is missing, A is asked for, till T -/
def WS (w : World) (p mb ab : Nat) (k t : Int) (M A : List Int) (T : Int → Int) : Prop :=
  (w.cell? ⟨p, 0, none⟩ = some (.int .i64 k) ∧ w.cell? ⟨p, 1, none⟩ = some (.int .i64 t) ∧ w.cell? ⟨p, 2, none⟩ = some (.map (some mb)) ∧ w.cell? ⟨p, 3, none⟩ = some (.map (some ab))) ∧ p < w.heap.size ∧ p ≠ mb ∧ p ≠ ab ∧ mb ≠ ab ∧ BM w mb M ∧ IM w ab A T
/-- all but two blocks lie as they lay -/
structure Kp (mb ab : Nat) (w w' : World) : Prop where
  os : w'.os = w.os
  tape : w'.tape = w.tape
  output : w'.output = w.output
  size : w.heap.size ≤ w'.heap.size
  block : ∀ i, i < w.heap.size → i ≠ mb → i ≠ ab → w'.heap[i]? = w.heap[i]?
theorem Kp.refl (mb ab : Nat) (w : World) : Kp mb ab w w := ⟨rfl, rfl, rfl, Nat.le_refl _, fun _ _ _ _ => rfl⟩
theorem Kp.trans {mb ab : Nat} {w w' w'' : World} (h : Kp mb ab w w') (h' : Kp mb ab w' w'') : Kp mb ab w w'' :=
  ⟨h'.os.trans h.os, h'.tape.trans h.tape, h'.output.trans h.output, Nat.le_trans h.size h'.size, fun i hi hm ha => (h'.block i (Nat.lt_of_lt_of_le hi h.size) hm ha).trans (h.block i hi hm ha)⟩
theorem Kp.of_below {mb ab : Nat} {w w' : World} (h : Below w.heap.size w w') : Kp mb ab w w' := ⟨h.os, h.tape, h.output, h.size, fun i hi _ _ => h.block i hi⟩
theorem Kp.of_grown {mb ab : Nat} {w w' : World} {row : Option Nat} (h : w.grownBy w' row) (hr : row = some mb ∨ row = some ab ∨ row = none) : Kp mb ab w w' :=
  ⟨h.os, h.tape, h.output, h.size, fun i hi hm ha => h.block i hi fun e => by
    rcases hr with h1 | h1 | h1
    · rw [h1] at e; injection e with e; exact hm e
    · rw [h1] at e; injection e with e; exact ha e
    · rw [h1] at e; cases e⟩
theorem Kp.cell {mb ab : Nat} {w w' : World} (h : Kp mb ab w w') {b c : Nat} (hb : b < w.heap.size) (hm : b ≠ mb) (ha : b ≠ ab) : w'.cell? ⟨b, c, none⟩ = w.cell? ⟨b, c, none⟩ := by
  simp only [World.cell?, h.block b hb hm ha]
section
variable {w w' : World} {p mb ab : Nat} {k t : Int} {M A : List Int} {T : Int → Int}
theorem WS.turn (h : WS w p mb ab k t M A T) (hk : Kp mb ab w w') {M' A' : List Int} {T' : Int → Int} (h1 : BM w' mb M') (h2 : IM w' ab A' T') : WS w' p mb ab k t M' A' T' := by
  obtain ⟨⟨c0, c1, c2, c3⟩, hl, n1, n2, n3, _, _⟩ := h
  refine ⟨⟨?_, ?_, ?_, ?_⟩, Nat.lt_of_lt_of_le hl hk.size, n1, n2, n3, h1, h2⟩ <;> rw [hk.cell hl n1 n2] <;> assumption
theorem WS.later (h : WS w p mb ab k t M A T) (hb : Below w.heap.size w w') : WS w' p mb ab k t M A T :=
  h.turn (Kp.of_below hb) (h.2.2.2.2.2.1.later hb) (h.2.2.2.2.2.2.later hb)
theorem WS.alloc (h : WS w p mb ab k t M A T) (o : Obj) : WS (w.alloc o) p mb ab k t M A T := h.later ((Below.refl _ _).alloc (Nat.le_refl _) o)
theorem WS.drewN (h : WS w p mb ab k t M A T) (n : Nat) : WS (w.drewN n) p mb ab k t M A T := h
theorem WS.bm (h : WS w p mb ab k t M A T) : BM w mb M := h.2.2.2.2.2.1
theorem WS.im (h : WS w p mb ab k t M A T) : IM w ab A T := h.2.2.2.2.2.2
theorem WS.lt (h : WS w p mb ab k t M A T) : p < w.heap.size := h.2.1
end
set_option maxHeartbeats 1000000 in
set_option maxRecDepth 100000 in
theorem missing_calls (p mb ab : Nat) (k t : Int) (M A : List Int) (T : Int → Int) (w : World) (h : WS w p mb ab k t M A T) (hm : M.length ≤ 4000000) :
    Calls Try.prog 18 #[.pointer (some ⟨p, 0, none⟩)] w fun e w' => ∃ v, e = .returned v ∧ OJ w' w.heap.size v M ∧ (v = .slice none 0 0 ↔ M = []) ∧ Below w.heap.size w w' := by
  have hbm := h.bm
  obtain ⟨⟨c0, c1, c2, c3⟩, hl, n1, n2, n3, _, _⟩ := h
  go_enter Try.func18, Try.ntmps18
  go_wp2_with (first
    | (go_at_call 48; refine (keysB_calls mb M _ hbm hm).mono ?_; rintro e w' ⟨rfl, rfl⟩)
    | (go_at_call 46; refine (sortedB_calls mb M _ hbm hm).mono ?_; rintro e w' ⟨v, rfl, hrow, hnil, hb⟩))
  go_ret
  exact ⟨v, rfl, hrow, hnil, hb⟩
set_option maxHeartbeats 1000000 in
set_option maxRecDepth 100000 in
theorem asked_calls (p mb ab : Nat) (k t : Int) (M A : List Int) (T : Int → Int) (w : World) (h : WS w p mb ab k t M A T) (hm : A.length ≤ 4000000) :
    Calls Try.prog 17 #[.pointer (some ⟨p, 0, none⟩)] w fun e w' => ∃ v, e = .returned v ∧ OJ w' w.heap.size v A ∧ (v = .slice none 0 0 ↔ A = []) ∧ Below w.heap.size w w' := by
  have him := h.im
  obtain ⟨⟨c0, c1, c2, c3⟩, hl, n1, n2, n3, _, _⟩ := h
  go_enter Try.func17, Try.ntmps17
  go_wp2_with (first
    | (go_at_call 47; refine (keysI_calls ab A T _ him hm).mono ?_; rintro e w' ⟨rfl, rfl⟩)
    | (go_at_call 46; refine (sortedI_calls ab A T _ him hm).mono ?_; rintro e w' ⟨v, rfl, hrow, hnil, hb⟩))
  go_ret
  exact ⟨v, rfl, hrow, hnil, hb⟩
end Go.Proofs.Ythnpaiobjmneaaa.Wa
