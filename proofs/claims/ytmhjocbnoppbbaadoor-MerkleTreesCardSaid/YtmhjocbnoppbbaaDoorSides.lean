/- merkle's sides, there, Steps: on which sides a proof's digests stand. -/
import Derived.Test.YtmhjocbnoppbbaaDoorTree
namespace Go.Proofs.YtmhjocbnoppbbaaDoor.Mk
open Go.RowKit Go.Proofs.YtmhjocbnoppbbaaDoor.Sha
set_option linter.unusedVariables false
set_option linter.unusedSimpArgs false

/-- from the root downwards: true, if behind -/
def sidesB (i n : Nat) : List Bool :=
  if h : n ≤ 1 then [] else if i < hb n then true :: sidesB i (hb n) else false :: sidesB (i - hb n) (n - hb n)
termination_by n
decreasing_by
  all_goals first | exact hb_lt (by omega) | (have := hb_pos n; omega)
theorem sidesB_one (i n : Nat) (h : n ≤ 1) : sidesB i n = [] := by rw [sidesB, dif_pos h]
theorem sidesB_left (i n : Nat) (h : 2 ≤ n) (hi : i < hb n) : sidesB i n = true :: sidesB i (hb n) := by rw [sidesB, dif_neg (by omega), if_pos hi]
theorem sidesB_right (i n : Nat) (h : 2 ≤ n) (hi : ¬ i < hb n) : sidesB i n = false :: sidesB (i - hb n) (n - hb n) := by rw [sidesB, dif_neg (by omega), if_neg hi]
theorem sidesB_length (n : Nat) : ∀ i, (sidesB i n).length ≤ n := by
  induction n using Nat.strongRecOn with
  | _ n ih =>
    intro i
    by_cases h : n ≤ 1
    · rw [sidesB_one _ _ h]; simp
    · have h1 := hb_lt (n := n) (by omega)
      have h2 := hb_pos n
      by_cases hi : i < hb n
      · rw [sidesB_left _ _ (by omega) hi]; have := ih (hb n) h1 i; simp; omega
      · rw [sidesB_right _ _ (by omega) hi]; have := ih (n - hb n) (by omega) (i - hb n); simp; omega
/-- v is a row of bools of the call's own -/
def OZ (w : World) (base : Nat) (v : Value) (bs : List Bool) : Prop := w.ownsRow base 4 1 v bs.length (bs.map Value.bool)
theorem OZ.nil (w : World) (base : Nat) : OZ w base (.slice none 0 0) [] := World.ownsRow_nil w base 4 1
theorem OZ.alloc {w : World} {base : Nat} {v : Value} {ss : List Bool} (h : OZ w base v ss) (o : Obj) : OZ (w.alloc o) base v ss := World.ownsRow.alloc h o
theorem OZ.base {w : World} {base : Nat} {v : Value} {ss : List Bool} (h : OZ w base v ss) : ∀ k, v.ownBlock = some k → base ≤ k := fun k hk => (World.ownsRow.lt h k hk).1
theorem OZ.later {w w' : World} {base : Nat} {v : Value} {ss : List Bool} (h : OZ w base v ss) (hb : Below w.heap.size w w') : OZ w' base v ss :=
  World.ownsRow.kept h (grown_below hb none) (by cases v.ownBlock <;> simp)
theorem OZ.form {w : World} {base : Nat} {v : Value} {ss : List Bool} (h : OZ w base v ss) : ∃ A c, v = .slice A ss.length c ∧ ss.length ≤ c ∧ c ≤ 9223372036854775807 ∧ (0 < ss.length → ∃ g, A = some ⟨g, 0, none⟩ ∧ g < w.heap.size ∧ ∀ i, i < ss.length → w.cell? ⟨g, i, none⟩ = some (.bool (ss.getD i false))) := by
  rcases h.2 with ⟨hv, hn⟩ | ⟨g, cap, cur, hv, hb, hh, hnc, hcm, hcs, htk⟩
  · exact ⟨none, 0, by rw [hv, hn], by omega, by omega, fun h => by omega⟩
  · refine ⟨some ⟨g, 0, none⟩, cap, hv, hnc, by simp only [maxLen] at hcm; omega, fun _ => ⟨g, rfl, (Array.getElem?_eq_some_iff.1 hh).1, fun i hi => ?_⟩⟩
    have := World.ownsRow.cells h (g := g) (by rw [hv]; rfl) i (.bool (ss.getD i false)) (by simp [List.getD_eq_getElem?_getD, hi])
    rwa [show (⟨g, 0, none⟩ : Addr).add i = ⟨g, i, none⟩ by unfold Addr.add; split <;> simp_all] at this
theorem infoBool : (Tryd.prog.info? 4).map (fun i => (i.zero, i.size, i.bytes)) = some (some (.bool false), 1, 1) := by kernel_rfl
section
variable {ops : Array Oper} {rest : List Oper} {o : Oper} {a : Act} {w : World} {Q : Exit → Act → World → Prop}
/-- append of one bool that lies in the newest block -/
theorem OZ.append_on {base : Nat} {v : Value} {xs : List Bool} (HO : OZ w base v xs) (b : Bool) (hgd : o.guard = none) (s x : Operand)
    (ho : o.op = .call { callee := .builtin .append, args := #[s, x], argTypes := #[87, 87] }) (hs : a.eval s = v) (hx : a.eval x = .slice (some ⟨w.heap.size, 0, none⟩) 1 1)
    (hbase : base ≤ w.heap.size) (hl : xs.length ≤ 1000000000)
    (k : ∀ v1 w1, OZ w1 base v1 (xs ++ [b]) → (w.alloc (.cells #[.bool b] 4)).grownBy w1 v.ownBlock → wpList Tryd.prog ops Q rest (a.put o.dst v1) w1) : wpList Tryd.prog ops Q (o :: rest) a (w.alloc (.cells #[.bool b] 4)) := by
  obtain ⟨i0, hi, hzz⟩ := Option.map_eq_some_iff.1 infoBool
  simp only [Prod.mk.injEq] at hzz
  obtain ⟨hz0, hz1, hz2⟩ := hzz
  obtain ⟨v1, w1, hr, k2, k3, _, k5⟩ := run_append_own_at (P := Tryd.prog) (w.alloc (.cells #[.bool b] 4)) base 87 o.type 4 i0 (.bool false) 1 1 Tryd.underlying87 hi hz0 hz1 hz2 rfl (by omega) v xs.length (xs.map Value.bool) (HO.alloc _) ⟨w.heap.size, 0, none⟩ 1 1 [.bool b] rfl (fun j u hu => by
    have hj : j = 0 := by
      have := (List.getElem?_eq_some_iff.1 hu).1
      simpa using this
    subst hj
    have e : u = .bool b := by simpa using hu.symm
    rw [e, show (⟨w.heap.size, 0, none⟩ : Addr).add 0 = ⟨w.heap.size, 0, none⟩ by unfold Addr.add; split <;> simp_all, cell_of_row _ w.heap.size 0 _ _ _ (heap_alloc_new w _)]
    rfl) (by simp [Value.oneCell']) (by simp only [maxLen]; omega) (by omega) (by simp; omega)
  refine append_step hgd s x _ _ ho hs hx hr (k v1 w1 ?_ k3)
  unfold OZ
  rw [List.length_append, List.map_append]
  exact k2
end

theorem there_calls (i n : Int) (w : World) : Calls Tryd.prog 48 #[.int .i64 i, .int .i64 n] w fun e w' => e = .returned (.bool (decide (0 ≤ i ∧ i < n ∧ n ≤ 1048576))) ∧ w = w' := by
  by_cases h1 : 0 ≤ i
  · by_cases h2 : i < n
    · by_cases h3 : n ≤ 1048576
      · go_enter Tryd.func48, Tryd.ntmps48
        go_wp2
        go_ret
        exact ⟨by simp [h1, h2, h3], rfl⟩
      · go_enter Tryd.func48, Tryd.ntmps48
        go_wp2
        go_ret
        exact ⟨by simp [h1, h2, h3], rfl⟩
    · go_enter Tryd.func48, Tryd.ntmps48
      go_wp2
      go_ret
      exact ⟨by rw [show decide (i < n) = false from decide_eq_false (by omega)]; rfl, rfl⟩
  · go_enter Tryd.func48, Tryd.ntmps48
    go_wp2
    go_ret
    exact ⟨by rw [show decide (0 ≤ i) = false from decide_eq_false (by omega)]; rfl, rfl⟩

set_option maxHeartbeats 2000000 in
set_option maxRecDepth 100000 in
theorem sides_calls (i n : Nat) (w : World) (hi : i < n) (hn : n ≤ 1048576) :
    Calls Tryd.prog 49 #[.int .i64 (i : Int), .int .i64 (n : Int)] w fun e w' => ∃ v, e = .returned v ∧ Hid (OZ w' w.heap.size v (sidesB i n)) ∧ Hid (Below w.heap.size w w') := by
  go_enter Tryd.func49, Tryd.ntmps49
  have HO : Hid (OZ w w.heap.size (.slice none 0 0) []) := Lib.hid (OZ.nil w w.heap.size)
  have HSL := Lib.hid (sidesB_length n i)
  go_wp2
  go_loopw [0, 1, 5] (fun u m v wr => ∃ (i' n' : Nat) (acc : List Bool), u = .int .i64 (i' : Int) ∧ m = .int .i64 (n' : Int) ∧ i' < n' ∧ n' ≤ 1048576 ∧ Hid (sidesB i n = acc ++ sidesB i' n') ∧ Hid (OZ wr w.heap.size v acc) ∧ Hid (Below w.heap.size w wr)) (fun _ m _ _ => (intOf m).toNat)
  case atStart => exact ⟨i, n, [], rfl, rfl, hi, hn, rfl, HO, Lib.hid (Below.refl _ _)⟩
  case round =>
    clear HO
    obtain ⟨i', n', acc, rfl, rfl, hi', hn', HE, HO, HB⟩ := hrel
    have hbw := HB.out.size
    by_cases h : n' ≤ 1
    · have e1 : ¬ (1 : Int) < (n' : Int) := by omega
      have he := HE.out
      rw [sidesB_one _ _ h, List.append_nil] at he
      have HE2 := Lib.hid he
      clear he h
      go_wp2
      go_ret
      exact ⟨_, rfl, by rw [HE2.out]; exact HO, HB⟩
    · have e1 : (1 : Int) < (n' : Int) := by omega
      have hk1 := hb_lt (n := n') (by omega)
      have hk2 := hb_pos n'
      have hal : acc.length ≤ 1048576 := by
        have h1 := HSL.out
        rw [HE.out, List.length_append] at h1
        omega
      have HAL := Lib.hid hal
      have hsp := Lib.hid (split_calls n' wr (by omega) (by omega))
      by_cases hlt : i' < hb n'
      · have he := HE.out
        rw [sidesB_left _ _ (by omega) hlt] at he
        generalize hb n' = k at hk1 hk2 hlt hsp he
        have HE2 := Lib.hid he
        have e2 : (i' : Int) < (k : Int) := by omega
        have e3 : i' < k := hlt
        clear he h hal
        go_wp2_with (first
          | (go_at_call 53; refine hsp.out.mono ?_; rintro e w' ⟨rfl, rfl⟩)
          | (at_builtin; refine OZ.append_on (base := w.heap.size) HO.out true rfl _ _ rfl rfl rfl hbw (by have := HAL.out; omega) ?_; intro v1 w1 h1 hg1))
        go_roundw
        case rel => exact ⟨i', k, acc ++ [true], rfl, rfl, e3, by omega, Lib.hid (by rw [HE2.out]; simp), Lib.hid h1, Lib.hid ((HB.out.alloc hbw _).grown hg1 (by simp; omega) (OZ.base HO.out))⟩
        case measure => simp [intOf]; omega
      · have he := HE.out
        rw [sidesB_right _ _ (by omega) hlt] at he
        have hk3 := hb_le (n := n') (by omega)
        generalize hb n' = k at hk1 hk2 hlt hsp he hk3
        have HE2 := Lib.hid he
        have e2 : ¬ (i' : Int) < (k : Int) := by omega
        have e4 : (k : Int) ≤ (i' : Int) := by omega
        have e5 : (k : Int) < (n' : Int) := by omega
        have e6 : (n' : Int) ≤ 1048576 := by omega
        have e7 : (i' : Int) < (n' : Int) := by omega
        clear he h hal
        go_wp2_with (first
          | (go_at_call 53; refine hsp.out.mono ?_; rintro e w' ⟨rfl, rfl⟩)
          | (at_builtin; refine OZ.append_on (base := w.heap.size) HO.out false rfl _ _ rfl rfl rfl hbw (by have := HAL.out; omega) ?_; intro v1 w1 h1 hg1))
        go_roundw
        case rel => exact ⟨i' - k, n' - k, acc ++ [false], by go_num, by go_num, by omega, by omega, Lib.hid (by rw [HE2.out]; simp), Lib.hid h1, Lib.hid ((HB.out.alloc hbw _).grown hg1 (by simp; omega) (OZ.base HO.out))⟩
        case measure => simp [intOf]; omega
/-- how many digests a proof has -/
def stepsN (i n : Int) : Nat := if 0 ≤ i ∧ i < n ∧ n ≤ 1048576 then (sidesB i.toNat n.toNat).length else 0
theorem steps_calls (i n : Int) (w : World) :
    Calls Tryd.prog 27 #[.int .i64 i, .int .i64 n] w fun e w' => e = .returned (.int .i64 ((stepsN i n : Nat) : Int)) ∧ Hid (Below w.heap.size w w') := by
  have hth := Lib.hid (there_calls i n w)
  by_cases h : 0 ≤ i ∧ i < n ∧ n ≤ 1048576
  · have hs : stepsN i n = (sidesB i.toNat n.toNat).length := by unfold stepsN; rw [if_pos h]
    have hd : decide (0 ≤ i ∧ i < n ∧ n ≤ 1048576) = true := decide_eq_true h
    obtain ⟨i', rfl⟩ := Int.eq_ofNat_of_zero_le h.1
    obtain ⟨n', rfl⟩ := Int.eq_ofNat_of_zero_le (show 0 ≤ n by omega)
    have hsd := Lib.hid (sides_calls i' n' w (by omega) (by omega))
    rw [hs, Int.toNat_natCast, Int.toNat_natCast]
    have HD := Lib.hid hd
    clear hs hd
    go_enter Tryd.func27, Tryd.ntmps27
    go_wp2_with (first
      | (go_at_call 48; refine hth.out.mono ?_; rw [HD.out]; rintro e w' ⟨rfl, rfl⟩)
      | (go_at_call 49; refine hsd.out.mono ?_; rintro e w1 ⟨v, rfl, HZ, HB⟩; obtain ⟨A, c, hv, -, -, -⟩ := HZ.out.form; subst hv))
    go_ret
    exact ⟨rfl, HB⟩
  · have hs : stepsN i n = 0 := by unfold stepsN; rw [if_neg h]
    have hd : decide (0 ≤ i ∧ i < n ∧ n ≤ 1048576) = false := decide_eq_false h
    rw [hs]
    have HD := Lib.hid hd
    clear hs hd
    go_enter Tryd.func27, Tryd.ntmps27
    go_wp2_with ((go_at_call 48; refine hth.out.mono ?_; rw [HD.out]; rintro e w' ⟨rfl, rfl⟩))
    go_ret
    exact ⟨rfl, Lib.hid (Below.refl _ _)⟩
end Go.Proofs.YtmhjocbnoppbbaaDoor.Mk
