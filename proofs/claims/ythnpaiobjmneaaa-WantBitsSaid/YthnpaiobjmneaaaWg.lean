/- want: Got, Over, Add, New over the state in memory. -/
import Derived.Test.YthnpaiobjmneaaaWo
namespace Go.Proofs.Ythnpaiobjmneaaa.Wa
open Go.RowKit Go.Maps
set_option linter.unusedVariables false
set_option linter.unusedSimpArgs false

set_option maxHeartbeats 2000000 in
set_option maxRecDepth 100000 in
theorem got_calls (p mb ab : Nat) (k t : Int) (M A : List Int) (T : Int → Int) (i : Int) (w : World) (h : WS w p mb ab k t M A T) (hi : wfI i) :
    Calls Try.prog 19 #[.pointer (some ⟨p, 0, none⟩), .int .i64 i] w fun e w' => e = .returned (.bool (decide (i ∈ M))) ∧ WS w' p mb ab k t (del i M) (if i ∈ M then del i A else A) T ∧ Kp mb ab w w' := by
  have HW := Lib.hid h
  have hlk := h.bm.look i hi
  have hbm := h.bm
  have him := h.im
  obtain ⟨⟨c0, c1, c2, c3⟩, hl, n1, n2, n3, _, _⟩ := h
  by_cases hin : i ∈ M
  · rw [decide_eq_true hin] at hlk
    rw [if_pos hin, decide_eq_true hin]
    obtain ⟨w1, hr1, hb1, hg1⟩ := hbm.drop i hi 0
    have him1 := him.kept hg1 (fun e => n3 (by injection e with e; exact e.symm))
    obtain ⟨w2, hr2, hb2, hg2⟩ := him1.drop i hi 0
    have hb3 := hb1.kept hg2 (fun e => n3 (by injection e))
    have hk : Kp mb ab w w2 := (Kp.of_grown hg1 (.inl rfl)).trans (Kp.of_grown hg2 (.inr (.inl rfl)))
    have HR := Lib.hid (HW.out.turn hk hb3 hb2)
    have HK := Lib.hid hk
    have e3 := hg1.cell c3 (fun e => n1 (by injection e))
    clear hk hb3 hb2 him1 hb1 him hbm hg1 hg2
    go_enter Try.func19, Try.ntmps19
    go_wp2
    go_ret
    exact ⟨rfl, HR.out, HK.out⟩
  · rw [decide_eq_false hin] at hlk
    rw [if_neg hin, decide_eq_false hin, del_not hin]
    go_enter Try.func19, Try.ntmps19
    go_wp2
    go_ret
    exact ⟨rfl, HW.out, Kp.refl _ _ _⟩
/-- more are missing -/
def addF (M : List Int) (l : List Int) : List Int := l.foldl (fun M i => if 0 ≤ i ∧ i ≤ 1048576 then ins i M else M) M
theorem addF_take (M l : List Int) (j : Nat) (h : j < l.length) : addF M (l.take (j + 1)) = if 0 ≤ l.getD j 0 ∧ l.getD j 0 ≤ 1048576 then ins (l.getD j 0) (addF M (l.take j)) else addF M (l.take j) := by
  rw [List.take_add_one, List.getElem?_eq_getElem h]
  have e : l.getD j 0 = l[j] := by simp [List.getD_eq_getElem?_getD, h]
  rw [e]
  simp only [addF, Option.toList_some, List.foldl_append, List.foldl_cons, List.foldl_nil]
theorem ins_len_le (i : Int) : ∀ l : List Int, (ins i l).length ≤ l.length + 1
  | [] => by simp [ins]
  | y :: ys => by
    unfold ins
    split
    · simp
    · split
      · simp
      · have := ins_len_le i ys; simp; omega
theorem addF_len (l : List Int) : ∀ M : List Int, (addF M l).length ≤ M.length + l.length := by
  induction l with
  | nil => intro M; simp [addF]
  | cons x xs ih =>
    intro M
    have h := ih (if 0 ≤ x ∧ x ≤ 1048576 then ins x M else M)
    have h2 : (if 0 ≤ x ∧ x ≤ 1048576 then ins x M else M).length ≤ M.length + 1 := by
      split
      · exact ins_len_le x M
      · omega
    show (addF (if 0 ≤ x ∧ x ≤ 1048576 then ins x M else M) xs).length ≤ _
    simp only [List.length_cons]
    omega
set_option maxHeartbeats 2000000 in
set_option maxRecDepth 100000 in
theorem add_calls (p mb ab : Nat) (k t : Int) (M A : List Int) (T : Int → Int) (g : Nat) (v : Value) (l : List Int) (w : World) (h : WS w p mb ab k t M A T) (hr : JR w g v l) (hg : l = [] ∨ g ≠ mb) (hm : M.length ≤ 1000000) (hl : l.length ≤ 1000000) (hw : ∀ i ∈ l, wfI i) :
    Calls Try.prog 14 #[.pointer (some ⟨p, 0, none⟩), v] w fun e w' => e = .returned (.tuple #[]) ∧ WS w' p mb ab k t (addF M l) A T ∧ w.grownBy w' (some mb) := by
  have HW := Lib.hid h
  have n1 := h.2.2.1
  have n3 := h.2.2.2.2.1
  obtain ⟨Av, c, o, rfl, hc1, hc2, hrd⟩ := hr
  obtain ⟨len, hlen⟩ : ∃ len, l.length = len := ⟨_, rfl⟩
  rw [hlen] at hc1 hrd hl
  rw [hlen]
  have HC := Lib.hid hrd
  have HF := Lib.hid hw
  have hl7 : (len : Int) ≤ 1000000 := by omega
  clear hrd h
  go_enter Try.func14, Try.ntmps14
  go_upto_region 1 with (fail)
  go_loopw [8] (fun x wz => ∃ j : Nat, x = .int .i64 (j : Int) ∧ j ≤ len ∧ Hid (WS wz p mb ab k t (addF M (l.take j)) A T) ∧ Hid (w.grownBy wz (some mb))) (fun x _ => len - (intOf x).toNat)
  case atStart => exact ⟨0, rfl, by omega, by rw [List.take_zero]; exact HW, Lib.hid (World.grownBy.refl _ _)⟩
  case round =>
    obtain ⟨j, rfl, hj, HS, HG⟩ := hrel
    by_cases hlt : j < len
    · obtain ⟨rfl, hgl, hcell⟩ := HC.out (by omega)
      have hx := HG.out.cell (hcell j hlt) (fun e => (hg.resolve_left (by intro e; rw [e] at hlen; simp at hlen; omega)) (by injection e))
      clear hcell
      have hxw := HF.out (l.getD j 0) (by rw [List.getD_eq_getElem?_getD, List.getElem?_eq_getElem (by omega)]; exact List.getElem_mem _)
      have hst := addF_take M l j (by omega)
      have hlm := addF_len (l.take j) M
      rw [List.length_take] at hlm
      obtain ⟨x, hxe⟩ : ∃ x, l.getD j 0 = x := ⟨_, rfl⟩
      rw [hxe] at hx hxw hst
      have HST := Lib.hid hst
      clear hst hxe
      obtain ⟨⟨d0, d1, d2, d3⟩, hpl, _, _, _, hbm, him⟩ := HS.out
      by_cases hx0 : 0 ≤ x
      · by_cases hx1 : x ≤ 1048576
        · obtain ⟨w2, hrun, hb2, hg2⟩ := hbm.store x hxw (by omega)
          have HB2 := Lib.hid hb2
          have HG2 := Lib.hid hg2
          clear hb2 hg2 hbm him
          go_wp2
          go_roundw
          case rel => exact ⟨j + 1, by simp, by omega, Lib.hid (by
            rw [HST.out, if_pos ⟨hx0, hx1⟩]
            exact HS.out.turn (Kp.of_grown (ab := ab) HG2.out (.inl rfl)) HB2.out (HS.out.im.kept HG2.out (fun e => n3 (by injection e with e; exact e.symm)))), Lib.hid (HG.out.trans HG2.out)⟩
          case measure => simp [intOf]; omega
        · clear hbm him
          go_wp2
          go_roundw
          case rel => exact ⟨j + 1, by simp, by omega, Lib.hid (by rw [HST.out, if_neg (by omega)]; exact HS.out), HG⟩
          case measure => simp [intOf]; omega
      · clear hbm him
        go_wp2
        go_roundw
        case rel => exact ⟨j + 1, by simp, by omega, Lib.hid (by rw [HST.out, if_neg (by omega)]; exact HS.out), HG⟩
        case measure => simp [intOf]; omega
    · obtain rfl : j = len := by omega
      go_wp2
      go_end0
      have e := HS.out
      rw [List.take_of_length_le (by omega)] at e
      exact ⟨rfl, e, HG.out⟩
set_option maxHeartbeats 2000000 in
set_option maxRecDepth 100000 in
theorem new_calls (k t : Int) (g : Nat) (v : Value) (l : List Int) (w : World) (hr : JR w g v l) (hk : 1 ≤ k ∧ k ≤ 64) (ht : 1 ≤ t ∧ t ≤ 1000) (hl : l.length ≤ 1000000) (hw : ∀ i ∈ l, wfI i) :
    Calls Try.prog 13 #[.int .i64 k, .int .i64 t, v] w fun e w' => ∃ p mb ab, e = .returned (.tuple #[.pointer (some ⟨p, 0, none⟩), Value.nilIface]) ∧ w.heap.size ≤ p ∧ w.heap.size ≤ mb ∧ w.heap.size ≤ ab ∧ WS w' p mb ab k t (addF [] l) [] (fun _ => 0) ∧ Below w.heap.size w w' := by
  have HR := Lib.hid hr
  have hmk := @run_makeMap Try.prog
  obtain ⟨k0, k1⟩ := hk
  obtain ⟨t0, t1⟩ := ht
  go_enter Try.func13, Try.ntmps13
  go_upto_region 4 with (fail)
  have hws : WS (((w.alloc (.map #[] 0)).alloc (.map #[] 0)).alloc (.cells #[.int .i64 k, .int .i64 t, .map (some w.heap.size), .map (some (w.heap.size + 1))] 86)) (w.heap.size + 1 + 1) w.heap.size (w.heap.size + 1) k t [] [] (fun _ => 0) := by
    have hz : ((w.alloc (.map #[] 0)).alloc (.map #[] 0)).heap.size = w.heap.size + 1 + 1 := by simp
    have hz1 : (w.alloc (.map #[] 0)).heap.size = w.heap.size + 1 := by simp
    have hc : ∀ j u, (#[Value.int .i64 k, .int .i64 t, .map (some w.heap.size), .map (some (w.heap.size + 1))] : Array Value)[j]? = some u → (((w.alloc (.map #[] 0)).alloc (.map #[] 0)).alloc (.cells #[.int .i64 k, .int .i64 t, .map (some w.heap.size), .map (some (w.heap.size + 1))] 86)).cell? ⟨w.heap.size + 1 + 1, j, none⟩ = some u := fun j u hj => by
      rw [← hz, cell_of_row _ _ j _ _ _ (heap_alloc_new _ _)]
      rw [← hj]
    refine ⟨⟨hc 0 _ rfl, hc 1 _ rfl, hc 2 _ rfl, hc 3 _ rfl⟩, by simp, by omega, by omega, by omega, ?_, ?_⟩
    · exact ((BM.made w).alloc _).alloc _
    · have := IM.made (w.alloc (.map #[] 0)) (fun _ => 0)
      rw [hz1] at this
      exact this.alloc _
  have hb0 : Below w.heap.size w (((w.alloc (.map #[] 0)).alloc (.map #[] 0)).alloc (.cells #[.int .i64 k, .int .i64 t, .map (some w.heap.size), .map (some (w.heap.size + 1))] 86)) :=
    (((Below.refl _ w).alloc (Nat.le_refl _) _).alloc (by simp) _).alloc (by simp; omega) _
  have hjr := HR.out.later hb0
  have HB := Lib.hid hb0
  generalize (((w.alloc (.map #[] 0)).alloc (.map #[] 0)).alloc (.cells #[.int .i64 k, .int .i64 t, .map (some w.heap.size), .map (some (w.heap.size + 1))] 86)) = W3 at *
  have hgm : l = [] ∨ g ≠ w.heap.size := by
    rcases HR.out.lt with e | e
    · exact .inl e
    · exact .inr (by omega)
  go_wp2_with (go_at_call 14; refine (add_calls (w.heap.size + 1 + 1) w.heap.size (w.heap.size + 1) k t [] [] (fun _ => 0) g v l W3 hws hjr hgm (by simp) hl hw).mono ?_; rintro e w' ⟨rfl, hws2, hg2⟩)
  go_ret2
  exact ⟨_, _, _, rfl, by omega, by omega, by omega, hws2, HB.out.os ▸ hg2.os, hg2.tape.trans HB.out.tape, hg2.output.trans HB.out.output, Nat.le_trans HB.out.size hg2.size, fun i hi => (hg2.block i (Nat.lt_of_lt_of_le hi HB.out.size) (fun e => by injection e; omega)).trans (HB.out.block i hi)⟩
end Go.Proofs.Ythnpaiobjmneaaa.Wa
