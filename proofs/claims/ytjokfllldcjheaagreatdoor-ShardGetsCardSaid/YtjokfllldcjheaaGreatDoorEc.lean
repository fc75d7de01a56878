/- edges: wrong, Check, Degree, Turned. -/
import Derived.Test.YtjokfllldcjheaaGreatDoorEb
import Derived.IntWalk
namespace Go.Proofs.YtjokfllldcjheaaGreatDoor.Ed
open Go.RowKit
set_option linter.unusedVariables false
set_option linter.unusedSimpArgs false

/-- what is told of a graph that may not be -/
def errV (a : Int) : Value := .iface 106 (.agg #[.int .i64 a, .iface 96 (.int .i64 10)])
/-- what Check tells -/
def chkV (n : Int) (l : List E2) : Value := if wrg n l = -2 then .nilIface else errV (wrg n l)
theorem chkV_at {n : Int} {l : List E2} {a : Int} (h : wrg n l = a) (ha : a ≠ -2) : chkV n l = errV a := by unfold chkV; rw [h, if_neg ha]
set_option maxHeartbeats 1000000 in
theorem wrong_calls (a : Int) (w : World) : Calls Tryz.prog 106 #[.int .i64 a, .iface 96 (.int .i64 10)] w fun e w' => e = .returned (errV a) ∧ w = w' := by
  go_enter Tryz.func106, Tryz.ntmps106
  go_wp2
  go_ret
  exact ⟨rfl, rfl⟩
theorem drewN_below (B : Nat) (w : World) (n : Nat) : Below B w (w.drewN n) := ⟨rfl, rfl, rfl, Nat.le_refl _, fun _ _ => rfl⟩
set_option maxHeartbeats 2000000 in
set_option maxRecDepth 100000 in
theorem check_calls (n : Int) (g : Nat) (v : Value) (l : List E2) (w : World) (h : ER w g v l) (hl : l.length ≤ 1000000) :
    Calls Tryz.prog 73 #[.int .i64 n, v] w fun e w' => e = .returned (chkV n l) ∧ Hid (Below w.heap.size w w') := by
  have HE := Lib.hid h
  obtain ⟨o, A, c, rfl, h1, h2, -⟩ := id h
  obtain ⟨len, hlen⟩ : ∃ len, l.length = len := ⟨_, rfl⟩
  rw [hlen] at h1 hl ⊢
  have HL := Lib.hid hlen
  have hl7 : (len : Int) ≤ 1000000 := by omega
  obtain ⟨r, hr⟩ : ∃ r, chkV n l = r := ⟨_, rfl⟩
  rw [hr]
  have HR := Lib.hid hr
  clear h hlen hr
  by_cases hn0 : n < 0
  · have : r = errV (-1) := by rw [← HR.out]; exact chkV_at (by unfold wrg; rw [if_pos (Or.inl hn0)]) (by omega)
    subst this
    go_enter Tryz.func73, Tryz.ntmps73
    go_wp2_with (go_at_call 106; refine (wrong_calls _ _).mono ?_; rintro e w' ⟨rfl, rfl⟩)
    go_ret
    exact ⟨rfl, Lib.hid (Below.refl _ _)⟩
  · by_cases hn1 : 4096 < n
    · have : r = errV (-1) := by rw [← HR.out]; exact chkV_at (by unfold wrg; rw [if_pos (Or.inr hn1)]) (by omega)
      subst this
      go_enter Tryz.func73, Tryz.ntmps73
      go_wp2_with (go_at_call 106; refine (wrong_calls _ _).mono ?_; rintro e w' ⟨rfl, rfl⟩)
      go_ret
      exact ⟨rfl, Lib.hid (Below.refl _ _)⟩
    · by_cases hb : 20000 < len
      · have hb2 : (20000 : Int) < (len : Int) := by omega
        have : r = errV 20000 := by rw [← HR.out]; exact chkV_at (by unfold wrg; rw [if_neg (by omega), if_pos (by rw [HL.out]; exact hb)]) (by omega)
        subst this
        go_enter Tryz.func73, Tryz.ntmps73
        go_wp2_with (go_at_call 106; refine (wrong_calls _ _).mono ?_; rintro e w' ⟨rfl, rfl⟩)
        go_ret
        exact ⟨rfl, Lib.hid (Below.refl _ _)⟩
      · have hb2 : ¬ (20000 : Int) < (len : Int) := by omega
        have HQ : Hid (r = if badE n (l.drop 0) 0 = -2 then .nilIface else errV (badE n (l.drop 0) 0)) := Lib.hid (by rw [← HR.out]; unfold chkV; rw [show wrg n l = badE n (l.drop 0) 0 by unfold wrg; rw [if_neg (by omega), if_neg (by rw [HL.out]; exact hb)]; rfl])
        go_enter Tryz.func73, Tryz.ntmps73
        go_upto_region 6 with (fail)
        go_loopw [24] (fun x wz => ∃ k : Nat, x = .int .i64 (k : Int) ∧ k ≤ len ∧ Hid (r = if badE n (l.drop k) k = -2 then .nilIface else errV (badE n (l.drop k) k)) ∧ Hid (Below w.heap.size w wz)) (fun x _ => len - (intOf x).toNat)
        case atStart => exact ⟨0, rfl, by omega, HQ, Lib.hid (Below.refl _ _)⟩
        case round =>
          obtain ⟨k, rfl, hk, HQ, HB⟩ := hrel
          by_cases hlt : k < len
          · obtain ⟨o', A', c', hv', -, -, hread⟩ := HE.out.later HB.out
            rw [HL.out] at hread hv'
            obtain ⟨rfl, -, hcell⟩ := hread (by omega)
            injection hv' with hv' _ hcc
            subst hcc hv'
            obtain ⟨q0, q1⟩ := hcell k hlt
            have hstep := badE_drop n l k (by rw [HL.out]; exact hlt) k
            obtain ⟨⟨x, y⟩, hxy⟩ : ∃ x, l.getD k (0, 0) = x := ⟨_, rfl⟩
            rw [hxy] at q0 q1 hstep
            simp only at q0 q1
            have HS := Lib.hid hstep
            clear hcell hread hstep hxy
            by_cases h3 : min x y < 0
            · have hbad : ¬ okE n (x, y) := by unfold okE; simp only; omega
              have : r = errV k := by rw [HQ.out, HS.out, if_neg hbad, if_neg (by omega)]
              subst this
              clear hbad HS HQ
              go_wp2_with (go_at_call 106; refine (wrong_calls _ _).mono ?_; rintro e w' ⟨rfl, rfl⟩)
              go_ret
              exact ⟨rfl, Lib.hid (HB.out.alloc HB.out.size _)⟩
            · by_cases h4 : n ≤ max x y
              · have hbad : ¬ okE n (x, y) := by unfold okE; simp only; omega
                have : r = errV k := by rw [HQ.out, HS.out, if_neg hbad, if_neg (by omega)]
                subst this
                clear hbad HS HQ
                go_wp2_with (go_at_call 106; refine (wrong_calls _ _).mono ?_; rintro e w' ⟨rfl, rfl⟩)
                go_ret
                exact ⟨rfl, Lib.hid (HB.out.alloc HB.out.size _)⟩
              · have hok : okE n (x, y) := by unfold okE; simp only; omega
                have HQ2 : Hid (r = if badE n (l.drop (k + 1)) (k + 1 : Nat) = -2 then .nilIface else errV (badE n (l.drop (k + 1)) (k + 1 : Nat))) := Lib.hid (by
                  have := HQ.out
                  rw [HS.out, if_pos hok] at this
                  rw [this]; rfl)
                clear hok HS HQ
                go_wp2
                go_roundw
                case rel => exact ⟨k + 1, by go_num, by omega, HQ2, Lib.hid (HB.out.alloc HB.out.size _)⟩
                case measure => simp [intOf]; omega
          · obtain rfl : len = k := by omega
            have : r = .nilIface := by rw [HQ.out, List.drop_of_length_le (by rw [HL.out]; omega)]; rfl
            subst this
            clear HQ
            go_wp2
            go_ret
            exact ⟨rfl, HB⟩
end Go.Proofs.YtjokfllldcjheaaGreatDoor.Ed
