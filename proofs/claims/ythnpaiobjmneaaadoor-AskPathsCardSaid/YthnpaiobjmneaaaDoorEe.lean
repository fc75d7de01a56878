/- edges: slices.Equal at edges, Same. -/
import Derived.Test.YthnpaiobjmneaaaDoorEd
import Derived.Laws.StructEq
namespace Go.Proofs.YthnpaiobjmneaaaDoor.Ed
open Go.RowKit
set_option linter.unusedVariables false
set_option linter.unusedSimpArgs false

theorem eql_run (a b : E2) (w : World) : (binOp .eql 67 (.agg #[.int .i64 a.1, .int .i64 a.2]) (.agg #[.int .i64 b.1, .int .i64 b.2])).run Tryd.prog w = .ok (.bool (decide (a = b))) w := by
  have u3 := Tryd.underlying3
  have a3 := Tryd.isAgg3
  have z3 := Tryd.sizeOf3
  have hS : Tryd.prog.underlying 67 = some (.struct (Tryd.prog.fieldsOf 67)) := by kernel_rfl
  have hp : Tryd.prog.stoodInHeld 67 = false := by kernel_rfl
  rw [run_eql_struct, show (10000 : Nat) = 9999 + 1 from rfl, run_equalIn_agg w 9999 67 _ _ hS hp]
  simp only [Program.fieldsOf, Tryd.underlying67]
  go_simp
  obtain ⟨x, x'⟩ := a
  obtain ⟨y, y'⟩ := b
  by_cases h1 : x = y <;> by_cases h2 : x' = y' <;> simp [h1, h2]
theorem neq_run (a b : E2) (w : World) : (binOp .neq 67 (.agg #[.int .i64 a.1, .int .i64 a.2]) (.agg #[.int .i64 b.1, .int .i64 b.2])).run Tryd.prog w = .ok (.bool (!decide (a = b))) w := by
  have u3 := Tryd.underlying3
  have a3 := Tryd.isAgg3
  have z3 := Tryd.sizeOf3
  have hS : Tryd.prog.underlying 67 = some (.struct (Tryd.prog.fieldsOf 67)) := by kernel_rfl
  have hp : Tryd.prog.stoodInHeld 67 = false := by kernel_rfl
  rw [run_neq_struct, show (10000 : Nat) = 9999 + 1 from rfl, run_equalIn_agg w 9999 67 _ _ hS hp]
  simp only [Program.fieldsOf, Tryd.underlying67]
  go_simp
  obtain ⟨x, x'⟩ := a
  obtain ⟨y, y'⟩ := b
  by_cases h1 : x = y <;> by_cases h2 : x' = y' <;> simp [h1, h2]
theorem guard_run (op : BinOp) (p q : Operand) (a b : E2) (w : World) : (eqGuard op 67 p q (.agg #[.int .i64 a.1, .int .i64 a.2]) (.agg #[.int .i64 b.1, .int .i64 b.2])).run Tryd.prog w = .ok () w :=
  run_eqGuard_agg w op 67 p q _ _ (by kernel_rfl)
set_option maxHeartbeats 2000000 in
set_option maxRecDepth 100000 in
/-- slices.Equal -/
theorem equal_calls (g1 g2 : Nat) (v1 v2 : Value) (a b : List E2) (w : World) (h1 : ER w g1 v1 a) (h2 : ER w g2 v2 b) :
    Calls Tryd.prog 49 #[v1, v2] w fun e w' => e = .returned (.bool (decide (a = b))) ∧ ∃ q, w' = w.drewN q := by
  obtain ⟨o1, A1, c1, rfl, hc1, hm1, hr1⟩ := h1
  obtain ⟨o2, A2, c2, rfl, hc2, hm2, hr2⟩ := h2
  obtain ⟨n, hn⟩ : ∃ n, a.length = n := ⟨_, rfl⟩
  obtain ⟨m, hm⟩ : ∃ m, b.length = m := ⟨_, rfl⟩
  rw [hn] at hc1 hr1 ⊢
  rw [hm] at hc2 hr2 ⊢
  by_cases hnm : n = m
  case neg =>
    have hd : decide (a = b) = false := decide_eq_false (fun e => hnm (by rw [← hn, ← hm, e]))
    have hb : ((n : Int) != (m : Int)) = true := by rw [bne_iff_ne]; omega
    rw [hd]
    clear hd hn hm hnm hr1 hr2
    go_enter Tryd.func49, Tryd.ntmps49
    go_wp2
    go_ret
    exact ⟨rfl, 0, rfl⟩
  case pos =>
    subst hnm
    have HN := Lib.hid hn
    have HM := Lib.hid hm
    have H1 := Lib.hid hr1
    have H2 := Lib.hid hr2
    obtain ⟨r, hr⟩ : ∃ r, decide (a = b) = r := ⟨_, rfl⟩
    rw [hr]
    have HR := Lib.hid hr
    clear hn hm hr1 hr2 hr
    have hb : ((n : Int) != (n : Int)) = false := by simp
    go_enter Tryd.func49, Tryd.ntmps49
    go_wp2
    go_loopw [13] (fun i wr => ∃ (k q : Nat), i = .int .i64 (k : Int) ∧ k ≤ n ∧ Hid (samE a b k) ∧ wr = w.drewN q) (fun i _ => n - (intOf i).toNat)
    case atStart => exact ⟨0, 0, rfl, by omega, Lib.hid (fun j hj => by omega), rfl⟩
    case round =>
      obtain ⟨k, q, rfl, hk, HS, rfl⟩ := hrel
      by_cases hlt : k < n
      · obtain ⟨rfl, -, hq1⟩ := H1.out (by omega)
        obtain ⟨rfl, -, hq2⟩ := H2.out (by omega)
        obtain ⟨q1, q3⟩ := hq1 k hlt
        obtain ⟨q2, q4⟩ := hq2 k hlt
        clear hq1 hq2
        obtain ⟨⟨x, x'⟩, hx⟩ : ∃ x, a.getD k (0, 0) = x := ⟨_, rfl⟩
        obtain ⟨⟨y, y'⟩, hy⟩ : ∃ y, b.getD k (0, 0) = y := ⟨_, rfl⟩
        rw [hx] at q1 q3
        rw [hy] at q2 q4
        simp only at q1 q2 q3 q4
        have HX := Lib.hid hx
        have HY := Lib.hid hy
        clear hx hy
        have i0 : (0 : Int) ≤ (k : Int) := by omega
        have i1 : (k : Int) < (n : Int) := by omega
        have hgd := fun (op : BinOp) (p q : Operand) (w : World) => guard_run op p q (x, x') (y, y') w
        simp only at hgd
        by_cases hxy : (x, x') = (y, y')
        · have hne : ∀ w, (binOp .neq 67 (.agg #[.int .i64 x, .int .i64 x']) (.agg #[.int .i64 y, .int .i64 y'])).run Tryd.prog w = .ok (.bool false) w := fun w => by
            have := neq_run (x, x') (y, y') w
            rwa [decide_eq_true hxy] at this
          have HXY : Hid (samE a b (k + 1)) := Lib.hid (samE_succ HS.out (by rw [HX.out, HY.out, hxy]))
          clear hxy
          go_upto_region 6 with (fail)
          go_quiet (fail)
          go_wp2
          go_roundw
          case rel => exact ⟨k + 1, q + nq, by go_num, by omega, HXY, rfl⟩
          case measure => simp [intOf]; omega
        · have hne : ∀ w, (binOp .neq 67 (.agg #[.int .i64 x, .int .i64 x']) (.agg #[.int .i64 y, .int .i64 y'])).run Tryd.prog w = .ok (.bool true) w := fun w => by
            have := neq_run (x, x') (y, y') w
            rwa [decide_eq_false hxy] at this
          have hd : r = false := by rw [← HR.out]; exact decide_eq_false (fun e => hxy (by rw [← HX.out, ← HY.out, e]))
          subst hd
          clear hxy
          go_upto_region 6 with (fail)
          go_quiet (fail)
          go_wp2
          go_ret
          exact ⟨rfl, q + nq, rfl⟩
      · obtain rfl : k = n := by omega
        have hd : r = true := by rw [← HR.out]; exact decide_eq_true (samE_all (by rw [HN.out, HM.out]) (by rw [HN.out]; exact HS.out))
        subst hd
        clear hlt
        go_wp2
        go_ret
        exact ⟨rfl, q, rfl⟩

set_option maxHeartbeats 1000000 in
theorem same_calls (g1 g2 : Nat) (v1 v2 : Value) (a b : List E2) (w : World) (h1 : ER w g1 v1 a) (h2 : ER w g2 v2 b) :
    Calls Tryd.prog 17 #[v1, v2] w fun e w' => e = .returned (.bool (decide (a = b))) ∧ ∃ q, w' = w.drewN q := by
  have HE := Lib.hid (equal_calls g1 g2 v1 v2 a b w h1 h2)
  obtain ⟨o1, A1, c1, rfl, -⟩ := h1
  obtain ⟨o2, A2, c2, rfl, -⟩ := h2
  generalize a.length = n at *
  generalize b.length = m at *
  generalize decide (a = b) = r at *
  go_enter Tryd.func17, Tryd.ntmps17
  go_wp2_with (go_at_call 49; refine HE.out.mono ?_; rintro e w' ⟨rfl, q, rfl⟩)
  go_ret
  exact ⟨rfl, q, rfl⟩
theorem rsame_b (g1 g2 : Nat) (v1 v2 : Value) (a b : List E2) (w : World) (h1 : ER w g1 v1 a) (h2 : ER w g2 v2 b) :
    Calls Tryd.prog 15 #[v1, v2] w fun e w' => e = .returned (.bool (decide (a = b))) ∧ Hid (Below w.heap.size w w') :=
  (rsame_calls g1 g2 v1 v2 a b w h1 h2).mono fun e w' ⟨he, q, hq⟩ => ⟨he, Lib.hid (by rw [hq]; exact drewN_below _ _ _)⟩
theorem same_b (g1 g2 : Nat) (v1 v2 : Value) (a b : List E2) (w : World) (h1 : ER w g1 v1 a) (h2 : ER w g2 v2 b) :
    Calls Tryd.prog 17 #[v1, v2] w fun e w' => e = .returned (.bool (decide (a = b))) ∧ Hid (Below w.heap.size w w') :=
  (same_calls g1 g2 v1 v2 a b w h1 h2).mono fun e w' ⟨he, q, hq⟩ => ⟨he, Lib.hid (by rw [hq]; exact drewN_below _ _ _)⟩
end Go.Proofs.YthnpaiobjmneaaaDoor.Ed
