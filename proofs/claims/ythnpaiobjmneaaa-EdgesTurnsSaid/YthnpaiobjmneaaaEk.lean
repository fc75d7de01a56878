/- EdgesTurns, walked. -/
import Derived.Test.YthnpaiobjmneaaaEj
namespace Go.Proofs.Ythnpaiobjmneaaa.Ed
open Go.RowKit
set_option linter.unusedVariables false
set_option linter.unusedSimpArgs false

theorem trn_trn (l : List E2) : trn (trn l) = l := by
  unfold trn
  rw [List.map_map]
  conv => rhs; rw [← List.map_id l]
  rfl
theorem trn_len (l : List E2) : (trn l).length = l.length := List.length_map _
theorem trn_get (l : List E2) (k : Nat) (h : k < l.length) : (trn l).getD k (0, 0) = ((l.getD k (0, 0)).2, (l.getD k (0, 0)).1) := by
  simp [trn, List.getD_eq_getElem?_getD, h]
set_option maxHeartbeats 4000000 in
set_option maxRecDepth 100000 in
theorem turns_walk (x : Int) (g1 g2 : Nat) (A1 A2 : Option Addr) (n1 c1 n2 c2 : Nat) (l m : List E2) (w : World) (hr1 : ER w g1 (.slice A1 n1 c1) l) (hn1 : l.length = n1) (hr2 : ER w g2 (.slice A2 n2 c2) m) (hn2 : m.length = n2) :
    Calls Try.prog 7 #[.slice A1 n1 c1, .slice A2 n2 c2, .int .i64 x] w fun e w' => e = .returned (.bool true) ∧ Hid (Below w.heap.size w w') := by
  have HR1 := Lib.hid hr1
  have HR2 := Lib.hid hr2
  have HN1 := Lib.hid hn1
  have HN2 := Lib.hid hn2
  have hc1 : n1 ≤ c1 ∧ c1 ≤ 9223372036854775807 := by
    obtain ⟨A', c', hv, h1, h2⟩ := er_shape hr1
    injection hv with _ _ hv
    subst hv
    rw [hn1] at h1
    exact ⟨h1, h2⟩
  have hc2 : n2 ≤ c2 ∧ c2 ≤ 9223372036854775807 := by
    obtain ⟨A', c', hv, h1, h2⟩ := er_shape hr2
    injection hv with _ _ hv
    subst hv
    rw [hn2] at h1
    exact ⟨h1, h2⟩
  obtain ⟨hc11, hc12⟩ := hc1
  obtain ⟨hc21, hc22⟩ := hc2
  clear hr1 hr2 hn1 hn2
  by_cases hb1 : 200 < n1
  · have hb : (200 : Int) < (n1 : Int) := by omega
    go_enter Try.func7, Try.ntmps7
    go_wp2_with (go_at_call 20; refine (awake_calls _).mono ?_; rintro e w1 ⟨rfl, HB⟩)
    go_ret
    exact ⟨rfl, HB⟩
  · have hb1' : ¬ (200 : Int) < (n1 : Int) := by omega
    by_cases hb2 : 200 < n2
    · have hb : (200 : Int) < (n2 : Int) := by omega
      go_enter Try.func7, Try.ntmps7
      go_wp2_with (go_at_call 20; refine (awake_calls _).mono ?_; rintro e w1 ⟨rfl, HB⟩)
      go_ret
      exact ⟨rfl, HB⟩
    · have hb2' : ¬ (200 : Int) < (n2 : Int) := by omega
      obtain ⟨b, hb⟩ : ∃ b, decide (l = m) = b := ⟨_, rfl⟩
      have HEQ := Lib.hid hb
      have hbb : (b != b) = false := by simp
      clear hb
      go_enter Try.func7, Try.ntmps7
      go_upto_region 6 with (first
        | (go_at_call 20; refine (awake_calls _).mono ?_; rintro e w1 ⟨rfl, HB⟩)
        | (go_at_call 25; refine (turned_calls _ _ l _ (HR1.out.later HB.out) (by rw [HN1.out]; omega)).mono ?_; rintro e w2 ⟨v2, rfl, ho, hb⟩))
      have hw2 := HB.out.trans (hb.mono HB.out.size)
      have HBW := Lib.hid hw2
      obtain ⟨gt, hgt, -⟩ := ho.reads
      have HRT := Lib.hid hgt
      obtain ⟨At, ct, rfl, -, -⟩ := id ho.shape
      rw [trn_len, HN1.out] at HRT ⊢
      have HWW : Hid (Below w2.heap.size w2 w2) := Lib.hid (Below.refl _ _)
      clear ho hb hgt HB hw2
      have HE1 := Lib.hid (fun W (hW : Below w2.heap.size w2 W) => same_b g1 g2 _ _ l m W (HR1.out.later (HBW.out.trans (hW.mono HBW.out.size))) (HR2.out.later (HBW.out.trans (hW.mono HBW.out.size))))
      have HE2 := Lib.hid (fun W (hW : Below w2.heap.size w2 W) => rsame_b g1 g2 _ _ l m W (HR1.out.later (HBW.out.trans (hW.mono HBW.out.size))) (HR2.out.later (HBW.out.trans (hW.mono HBW.out.size))))
      rw [HEQ.out] at HE1 HE2
      go_upto_region 10 with (first
        | (go_at_call 25; refine (turned_calls _ _ (trn l) _ (HRT.out.later HWW.out) (by rw [trn_len, HN1.out]; omega)).mono ?_; rw [trn_trn]; rintro e w3 ⟨v3, rfl, ho3, hb3⟩; obtain ⟨g3, hg3, -⟩ := ho3.reads; have HR3 := Lib.hid hg3; obtain ⟨A3, c3, rfl, -, -⟩ := id ho3.shape; rw [HN1.out] at HR3 ⊢; have HWW := Lib.hid (HWW.out.trans (hb3.mono HWW.out.size)); clear ho3 hb3 hg3)
        | (go_at_call 26; with_reducible (show Calls Try.prog _ #[.slice A3 _ _, _] _ _); refine (rsame_b g3 g1 _ _ l l _ HR3.out (HR1.out.later (HBW.out.trans (HWW.out.mono HBW.out.size)))).mono ?_; rw [decide_eq_true (p := l = l) rfl]; rintro e w4 ⟨rfl, HBx⟩; have HWW := Lib.hid (HWW.out.trans (HBx.out.mono HWW.out.size)); clear HBx)
        | (go_at_call 24; refine (HE1.out _ HWW.out).mono ?_; rintro e w5 ⟨rfl, HBx⟩; have HWW := Lib.hid (HWW.out.trans (HBx.out.mono HWW.out.size)); clear HBx)
        | (go_at_call 26; refine (HE2.out _ HWW.out).mono ?_; rintro e w6 ⟨rfl, HBx⟩; have HWW := Lib.hid (HWW.out.trans (HBx.out.mono HWW.out.size)); clear HBx))
      have HD0 : Hid (deg (l.take 0) x = 0) := Lib.hid rfl
      rename World => wz0
      go_loopw [8, 9, 40] (fun y z i wz => ∃ (k a : Nat), i = .int .i64 (k : Int) ∧ y = .int .i64 (a : Int) ∧ z = .int .i64 (a : Int) ∧ k ≤ n1 ∧ a ≤ k ∧ Hid (deg (l.take k) x = a) ∧ Hid (Below w2.heap.size w2 wz)) (fun _ _ i _ => n1 - (intOf i).toNat)
      case atStart => exact ⟨0, 0, rfl, rfl, rfl, by omega, by omega, HD0, HWW⟩
      case round =>
        obtain ⟨k, a, rfl, rfl, rfl, hk, ha, HD, HWW⟩ := hrel
        by_cases hlt : k < n1
        · obtain ⟨o', A', c', hv', -, -, hread⟩ := HR1.out.later (HBW.out.trans (HWW.out.mono HBW.out.size))
          rw [HN1.out] at hread hv'
          obtain ⟨rfl, -, hcell⟩ := hread (by omega)
          injection hv' with hv' _ hcc
          subst hcc hv'
          obtain ⟨q0, q1⟩ := hcell k hlt
          clear hcell hread
          obtain ⟨o', A', c', hv', -, -, hread⟩ := HRT.out.later HWW.out
          rw [trn_len, HN1.out] at hread
          rw [trn_len, HN1.out] at hv'
          obtain ⟨rfl, -, hcell⟩ := hread (by omega)
          injection hv' with hv' _ hcc
          subst hcc hv'
          obtain ⟨q2, q3⟩ := hcell k hlt
          rw [trn_get l k (by rw [HN1.out]; exact hlt)] at q2 q3
          clear hcell hread
          have hstep := deg_take l x k (by rw [HN1.out]; exact hlt)
          obtain ⟨⟨p, q⟩, hpq⟩ : ∃ x, l.getD k (0, 0) = x := ⟨_, rfl⟩
          rw [hpq] at q0 q1 q2 q3 hstep
          simp only at q0 q1 q2 q3 hstep
          rw [HD.out] at hstep
          have HS := Lib.hid hstep
          have i0 : (0 : Int) ≤ (k : Int) := by omega
          have i1 : (k : Int) < (n1 : Int) := by omega
          have q3' := fun ob => Go.Lib.cell?_alloc_some (W := wr) ob q3
          clear hstep hpq
          by_cases hp : p = x
          · have hb : (p == x) = true := by simp [hp]
            have HD2 : Hid (deg (l.take (k + 1)) x = a + 1) := Lib.hid (by rw [HS.out, if_pos hp])
            clear hp HS HD
            go_wp2
            go_roundw
            case rel => exact ⟨k + 1, a + 1, by go_num, by go_num, by go_num, by omega, by omega, HD2, Lib.hid (HWW.out.alloc HWW.out.size _)⟩
            case measure => simp [intOf]; omega
          · have hb : (p == x) = false := by simpa using hp
            have HD2 : Hid (deg (l.take (k + 1)) x = a) := Lib.hid (by rw [HS.out, if_neg hp]; rfl)
            clear hp HS HD
            go_wp2
            go_roundw
            case rel => exact ⟨k + 1, a, by go_num, rfl, rfl, by omega, by omega, HD2, Lib.hid (HWW.out.alloc HWW.out.size _)⟩
            case measure => simp [intOf]; omega
        · obtain rfl : n1 = k := by omega
          have HDD : Hid (deg l x = a) := Lib.hid (by have := HD.out; rwa [List.take_of_length_le (by rw [HN1.out]; omega)] at this)
          have e1 : ((a : Int) == (a : Int)) = true := by simp
          go_wp2_with (go_at_call 23; refine (degree_calls _ _ l _ _ (HR1.out.later (HBW.out.trans (HWW.out.mono HBW.out.size))) (by rw [HN1.out]; omega)).mono ?_; rw [HDD.out]; rintro e w9 ⟨rfl, HBx⟩)
          go_ret
          have h1 := HBW.out.trans (HWW.out.mono HBW.out.size)
          exact ⟨rfl, Lib.hid (h1.trans (HBx.out.mono h1.size))⟩
theorem turns_row (g1 : Nat) (v1 : Value) (l : List E2) (g2 : Nat) (v2 : Value) (m : List E2) (x : Int) (w : World) (hr1 : ER w g1 v1 l) (hb1 : ∀ e ∈ l, (-9223372036854775808 ≤ e.1 ∧ e.1 < 9223372036854775808) ∧ (-9223372036854775808 ≤ e.2 ∧ e.2 < 9223372036854775808)) (hr2 : ER w g2 v2 m) (hb2 : ∀ e ∈ m, (-9223372036854775808 ≤ e.1 ∧ e.1 < 9223372036854775808) ∧ (-9223372036854775808 ≤ e.2 ∧ e.2 < 9223372036854775808)) (hx : (Lit.int .i64 x).wf = true) :
    Calls Try.prog 7 #[v1, v2, .int .i64 x] w fun e w' => e = .returned (.bool true) ∧ Below w.heap.size w w' := by
  obtain ⟨A1, c1, rfl, -⟩ := er_shape hr1
  obtain ⟨A2, c2, rfl, -⟩ := er_shape hr2
  exact (turns_walk x g1 g2 A1 A2 l.length c1 m.length c2 l m w hr1 rfl hr2 rfl).mono fun _ _ h => ⟨h.1, h.2.out⟩
end Go.Proofs.Ythnpaiobjmneaaa.Ed
