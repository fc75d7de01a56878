/- edges: Degree, Turned, Same; the reference's Same. -/
import Derived.Test.YthnpaiobjmneaaaDoorEc
namespace Go.Proofs.YthnpaiobjmneaaaDoor.Ed
open Go.RowKit
set_option linter.unusedVariables false
set_option linter.unusedSimpArgs false

/-- edges the other way round -/
def trn (l : List E2) : List E2 := l.map fun e => (e.2, e.1)
theorem trn_take (l : List E2) (k : Nat) (h : k < l.length) : trn (l.take (k + 1)) = trn (l.take k) ++ [((l.getD k (0, 0)).2, (l.getD k (0, 0)).1)] := by
  rw [List.take_add_one, List.getElem?_eq_getElem h]
  have e : l.getD k (0, 0) = l[k] := by simp [List.getD_eq_getElem?_getD, h]
  rw [e]
  simp only [trn, List.map_append, Option.toList_some, List.map_cons, List.map_nil]
theorem ER.litH (w : World) (l : List E2) (cs : Array Value) (hcs : cs = (ecells l).toArray) (n : Nat) (hn : n = l.length) (h : l.length ≤ 9223372036854775807) (H : Nat) (hH : w.heap.size = H) : ER (w.alloc (.cells cs 67)) H (.slice (some ⟨H, 0, none⟩) n n) l := by
  subst hH; exact ER.lit w l cs hcs n hn h
set_option maxHeartbeats 2000000 in
set_option maxRecDepth 100000 in
theorem turned_calls (g : Nat) (v : Value) (l : List E2) (w : World) (h : ER w g v l) (hl : l.length ≤ 1000000) :
    Calls Tryd.prog 58 #[v] w fun e w' => ∃ v', e = .returned v' ∧ EO w' w.heap.size v' (trn l) ∧ Below w.heap.size w w' := by
  have HE := Lib.hid h
  obtain ⟨o, A, c, rfl, h1, h2, -⟩ := id h
  obtain ⟨len, hlen⟩ : ∃ len, l.length = len := ⟨_, rfl⟩
  rw [hlen] at h1 hl ⊢
  have HL := Lib.hid hlen
  have hl7 : (len : Int) ≤ 1000000 := by omega
  clear h hlen
  go_enter Tryd.func58, Tryd.ntmps58
  go_upto_region 3 with (fail)
  go_loopw [3, 8] (fun u x wz => ∃ k : Nat, x = .int .i64 (k : Int) ∧ k ≤ len ∧ Hid (EO wz w.heap.size u (trn (l.take k))) ∧ Hid (Below w.heap.size w wz)) (fun _ x _ => len - (intOf x).toNat)
  case atStart => exact ⟨0, rfl, by omega, Lib.hid (EO.nil _ _), Lib.hid (Below.refl _ _)⟩
  case round =>
    obtain ⟨k, rfl, hk, HO, HB⟩ := hrel
    by_cases hlt : k < len
    · obtain ⟨o', A', c', hv', -, -, hread⟩ := HE.out.later HB.out
      rw [HL.out] at hread hv'
      obtain ⟨rfl, -, hcell⟩ := hread (by omega)
      injection hv' with hv' _ hcc
      subst hcc hv'
      obtain ⟨q0, q1⟩ := hcell k hlt
      have hstep := trn_take l k (by rw [HL.out]; exact hlt)
      have htl : (trn (l.take k)).length ≤ 1000000 := by unfold trn; rw [List.length_map, List.length_take]; omega
      obtain ⟨⟨x, y⟩, hxy⟩ : ∃ x, l.getD k (0, 0) = x := ⟨_, rfl⟩
      rw [hxy] at q0 q1 hstep
      simp only at q0 q1 hstep
      have HS := Lib.hid hstep
      have hbz := HB.out.size
      obtain ⟨uA, uc, rfl, _⟩ := HO.out.shape
      have HOB := Lib.hid HO.out.base
      clear hcell hread hstep hxy
      go_wp2_with (at_builtin; refine EO.append_on (base := w.heap.size) ((HO.out.alloc _).alloc _) (ER.litH _ [(y, x)] _ rfl 1 rfl (by simp) (wr.heap.size + 1) (by simp)) rfl _ _ rfl rfl rfl (by simp; omega) (by simp; omega) ?_; intro v1 w1 k1 k2 k3; have K1 := Lib.hid k1; have K2 := Lib.hid k2; clear k1 k2 k3)
      go_roundw
      case rel => exact ⟨k + 1, by go_num, by omega, Lib.hid (by rw [HS.out]; exact K1.out), Lib.hid (((HB.out.alloc hbz _).alloc (by simp; omega) _).grown K2.out (by simp; omega) HOB.out)⟩
      case measure => simp [intOf]; omega
    · obtain rfl : len = k := by omega
      go_wp2
      go_ret
      have e := HO.out
      rw [List.take_of_length_le (by rw [HL.out]; omega)] at e
      exact ⟨_, rfl, e, HB.out⟩
/-- the first k of both are one -/
def samE (a b : List E2) (k : Nat) : Prop := ∀ j, j < k → a.getD j (0, 0) = b.getD j (0, 0)
theorem samE_all {a b : List E2} (hl : a.length = b.length) (h : samE a b a.length) : a = b := by
  apply List.ext_getElem hl
  intro j h1 h2
  have := h j h1
  simpa [List.getD_eq_getElem?_getD, h1, h2] using this
theorem samE_succ {a b : List E2} {k : Nat} (h : samE a b k) (e : a.getD k (0, 0) = b.getD k (0, 0)) : samE a b (k + 1) := fun j hj => by
  by_cases e' : j = k
  · subst e'; exact e
  · exact h j (by omega)
set_option maxHeartbeats 2000000 in
set_option maxRecDepth 100000 in
/-- the reference's Same -/
theorem rsame_calls (g1 g2 : Nat) (v1 v2 : Value) (a b : List E2) (w : World) (h1 : ER w g1 v1 a) (h2 : ER w g2 v2 b) :
    Calls Tryd.prog 15 #[v1, v2] w fun e w' => e = .returned (.bool (decide (a = b))) ∧ ∃ q, w' = w.drewN q := by
  obtain ⟨o1, A1, c1, rfl, hc1, hm1, hr1⟩ := h1
  obtain ⟨o2, A2, c2, rfl, hc2, hm2, hr2⟩ := h2
  obtain ⟨n, hn⟩ : ∃ n, a.length = n := ⟨_, rfl⟩
  obtain ⟨m, hm⟩ : ∃ m, b.length = m := ⟨_, rfl⟩
  rw [hn] at hc1 hr1 ⊢
  rw [hm] at hc2 hr2 ⊢
  by_cases hnm : n = m
  case neg =>
    have hd : decide (a = b) = false := decide_eq_false (fun e => hnm (by rw [← hn, ← hm, e]))
    have hb : ((n : Int) != (m : Int)) = true := by rw [bne_iff_ne]; omega
    rw [hd]
    clear hd hn hm hnm hr1 hr2
    go_enter Tryd.func15, Tryd.ntmps15
    go_wp2
    go_ret
    exact ⟨rfl, 0, rfl⟩
  case pos =>
    subst hnm
    have HN := Lib.hid hn
    have HM := Lib.hid hm
    have H1 := Lib.hid hr1
    have H2 := Lib.hid hr2
    obtain ⟨r, hr⟩ : ∃ r, decide (a = b) = r := ⟨_, rfl⟩
    rw [hr]
    have HR := Lib.hid hr
    clear hn hm hr1 hr2 hr
    have hb : ((n : Int) != (n : Int)) = false := by simp
    go_enter Tryd.func15, Tryd.ntmps15
    go_wp2
    go_loopw [5] (fun i wr => ∃ (k q : Nat), i = .int .i64 (k : Int) ∧ k ≤ n ∧ Hid (samE a b k) ∧ wr = w.drewN q) (fun i _ => n - (intOf i).toNat)
    case atStart => exact ⟨0, 0, rfl, by omega, Lib.hid (fun j hj => by omega), rfl⟩
    case round =>
      obtain ⟨k, q, rfl, hk, HS, rfl⟩ := hrel
      by_cases hlt : k < n
      · obtain ⟨rfl, -, hq1⟩ := H1.out (by omega)
        obtain ⟨rfl, -, hq2⟩ := H2.out (by omega)
        obtain ⟨q1, q3⟩ := hq1 k hlt
        obtain ⟨q2, q4⟩ := hq2 k hlt
        clear hq1 hq2
        obtain ⟨⟨x, x'⟩, hx⟩ : ∃ x, a.getD k (0, 0) = x := ⟨_, rfl⟩
        obtain ⟨⟨y, y'⟩, hy⟩ : ∃ y, b.getD k (0, 0) = y := ⟨_, rfl⟩
        rw [hx] at q1 q3
        rw [hy] at q2 q4
        simp only at q1 q2 q3 q4
        have HX := Lib.hid hx
        have HY := Lib.hid hy
        clear hx hy
        have i0 : (0 : Int) ≤ (k : Int) := by omega
        have i1 : (k : Int) < (n : Int) := by omega
        by_cases hxy : x = y
        · have hxx : (x != y) = false := by simp [hxy]
          by_cases hxy' : x' = y'
          · have hxx' : (x' != y') = false := by simp [hxy']
            have HXY : Hid (samE a b (k + 1)) := Lib.hid (samE_succ HS.out (by rw [HX.out, HY.out, hxy, hxy']))
            clear hxy hxy'
            go_upto_region 6 with (fail)
            go_quiet (fail)
            go_wp2
            go_roundw
            case rel => exact ⟨k + 1, q + nq, by go_num, by omega, HXY, rfl⟩
            case measure => simp [intOf]; omega
          · have hxx' : (x' != y') = true := by simpa using hxy'
            have hd : r = false := by rw [← HR.out]; exact decide_eq_false (fun e => hxy' (by
              have : (x, x') = (y, y') := by rw [← HX.out, ← HY.out, e]
              injection this))
            subst hd
            clear hxy hxy'
            go_upto_region 6 with (fail)
            go_quiet (fail)
            go_wp2
            go_ret
            exact ⟨rfl, q + nq, rfl⟩
        · have hxx : (x != y) = true := by simpa using hxy
          have hd : r = false := by rw [← HR.out]; exact decide_eq_false (fun e => hxy (by
            have : (x, x') = (y, y') := by rw [← HX.out, ← HY.out, e]
            injection this))
          subst hd
          clear hxy
          go_upto_region 6 with (fail)
          go_quiet (fail)
          go_wp2
          go_ret
          exact ⟨rfl, q + nq, rfl⟩
      · obtain rfl : k = n := by omega
        have hd : r = true := by rw [← HR.out]; exact decide_eq_true (samE_all (by rw [HN.out, HM.out]) (by rw [HN.out]; exact HS.out))
        subst hd
        clear hlt
        go_wp2
        go_ret
        exact ⟨rfl, q, rfl⟩
end Go.Proofs.YthnpaiobjmneaaaDoor.Ed
