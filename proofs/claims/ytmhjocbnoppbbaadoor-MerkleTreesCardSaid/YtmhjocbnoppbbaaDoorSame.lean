/- Same and half of the reference, great of the laws of layer 9. -/
import Derived.Test.YtmhjocbnoppbbaaDoorTree
import Derived.BigQuiet
namespace Go.Proofs.YtmhjocbnoppbbaaDoor.Mk
open Go.RowKit Go.Proofs.YtmhjocbnoppbbaaDoor.Sha
set_option linter.unusedVariables false
set_option linter.unusedSimpArgs false

theorem toList_ne2 {a b : ByteArray} (h : a ≠ b) : (a.toList == b.toList) = false := by
  rw [beq_eq_false_iff_ne]
  intro e
  refine h ?_
  rw [ByteArray.toList_eq, ByteArray.toList_eq] at e
  exact ByteArray.ext (Array.toList_inj.1 e)
/-- the first k of both are one -/
def sameTo (ss tt : List ByteArray) (k : Nat) : Prop := ∀ j, j < k → ss.getD j ByteArray.empty = tt.getD j ByteArray.empty
theorem sameTo_all {ss tt : List ByteArray} (hl : ss.length = tt.length) (h : sameTo ss tt ss.length) : ss = tt := by
  apply List.ext_getElem hl
  intro j h1 h2
  have := h j h1
  simpa [List.getD_eq_getElem?_getD, h1, h2] using this
set_option maxHeartbeats 2000000 in
set_option maxRecDepth 100000 in
theorem same_calls (g1 g2 : Nat) (v1 v2 : Value) (ss tt : List ByteArray) (w : World) (h1 : SR w g1 v1 ss) (h2 : SR w g2 v2 tt) :
    Calls Tryd.prog 23 #[v1, v2] w fun e w' => e = .returned (.bool (decide (ss = tt))) ∧ Hid (Below w.heap.size w w') := by
  have h1' := h1
  have h2' := h2
  obtain ⟨A1, c1, rfl, hc1, hm1, -⟩ := h1
  obtain ⟨A2, c2, rfl, hc2, hm2, -⟩ := h2
  have H1 := Lib.hid h1'
  have H2 := Lib.hid h2'
  clear h1' h2'
  obtain ⟨n, hn⟩ : ∃ n, ss.length = n := ⟨_, rfl⟩
  obtain ⟨m, hm⟩ : ∃ m, tt.length = m := ⟨_, rfl⟩
  rw [hn] at hc1 H1 ⊢
  rw [hm] at hc2 H2 ⊢
  by_cases hnm : n = m
  case neg =>
    have hd : decide (ss = tt) = false := decide_eq_false (fun e => hnm (by rw [← hn, ← hm, e]))
    have hb : ((n : Int) != (m : Int)) = true := by rw [bne_iff_ne]; omega
    rw [hd]
    clear hd hn hm hnm
    go_enter Tryd.func23, Tryd.ntmps23
    go_wp2
    go_ret
    exact ⟨rfl, Lib.hid (Below.refl _ _)⟩
  case pos =>
    subst hnm
    have HN := Lib.hid hn
    have HM := Lib.hid hm
    clear hn hm
    have hb : ((n : Int) != (n : Int)) = false := by simp
    go_enter Tryd.func23, Tryd.ntmps23
    go_wp2
    go_loopw [5] (fun i wr => ∃ k : Nat, i = .int .i64 (k : Int) ∧ k ≤ n ∧ Hid (sameTo ss tt k) ∧ Hid (Below w.heap.size w wr)) (fun i _ => n - (intOf i).toNat)
    case atStart => exact ⟨0, rfl, by omega, Lib.hid (fun j hj => by omega), Lib.hid (Below.refl _ _)⟩
    case round =>
      obtain ⟨k, rfl, hk, HS, HB⟩ := hrel
      by_cases hlt : k < n
      · have hl1 := H1.out.later HB.out
        obtain ⟨A', c', hv', -, -, hread⟩ := hl1
        rw [HN.out] at hread hv'
        obtain ⟨ad1, hA, -, hcell⟩ := hread (by omega)
        injection hv' with hv' _ hcc
        subst hcc
        rw [← hv'] at hA
        subst hA
        have q1 := hcell k hlt
        clear hcell hread hv'
        have hl2 := H2.out.later HB.out
        obtain ⟨A', c', hv', -, -, hread⟩ := hl2
        rw [HM.out] at hread hv'
        obtain ⟨ad2, hA, -, hcell⟩ := hread (by omega)
        injection hv' with hv' _ hcc
        subst hcc
        rw [← hv'] at hA
        subst hA
        have q2 := hcell k hlt
        clear hcell hread hv'
        obtain ⟨s, hs⟩ : ∃ s, ss.getD k ByteArray.empty = s := ⟨_, rfl⟩
        obtain ⟨t, ht⟩ : ∃ t, tt.getD k ByteArray.empty = t := ⟨_, rfl⟩
        rw [hs] at q1
        rw [ht] at q2
        have k0 : (0 : Int) ≤ (k : Int) := by omega
        have k1 : (k : Int) < (n : Int) := by omega
        by_cases hst : s = t
        · subst hst
          have HS2 : Hid (sameTo ss tt (k + 1)) := Lib.hid (fun j hj => by
            by_cases e : j = k
            · subst e; rw [hs, ht]
            · exact HS.out j (by omega))
          have hbb : (s.toList == s.toList) = true := by simp
          clear hs ht
          go_upto_region 6 with (fail)
          go_quiet (fail)
          go_wp2
          go_roundw
          case rel => exact ⟨k + 1, by go_num, by omega, HS2, Lib.hid (below_drewN HB.out _)⟩
          case measure => simp [intOf]; omega
        · have hd : decide (ss = tt) = false := decide_eq_false (fun e => hst (by rw [← hs, ← ht, e]))
          have HD := Lib.hid hd
          have hbb : (s.toList == t.toList) = false := toList_ne2 hst
          clear hs ht hd hst
          go_upto_region 6 with (fail)
          go_quiet (fail)
          go_wp2
          go_ret
          exact ⟨by rw [HD.out]; rfl, Lib.hid (below_drewN HB.out _)⟩
      · obtain rfl : k = n := by omega
        have hd : decide (ss = tt) = true := decide_eq_true (sameTo_all (by rw [HN.out, HM.out]) (by rw [HN.out]; exact HS.out))
        have HD := Lib.hid hd
        clear hd hlt hk
        go_wp2
        go_ret
        exact ⟨by rw [HD.out]; rfl, HB⟩

/-- more than is played -/
def greatB (ss : List ByteArray) : Bool := decide (20 < ss.length) || ss.any fun s => decide (100 < s.size)
set_option maxHeartbeats 2000000 in
set_option maxRecDepth 100000 in
theorem great_calls (g : Nat) (v : Value) (ss : List ByteArray) (w : World) (h : SR w g v ss) :
    Calls Tryd.prog 18 #[v] w fun e w' => e = .returned (.bool (greatB ss)) ∧ Hid (Below w.heap.size w w') := by
  have h' := h
  obtain ⟨A, c, rfl, hc, hm, -⟩ := h
  have H := Lib.hid h'
  clear h'
  obtain ⟨n, hn⟩ : ∃ n, ss.length = n := ⟨_, rfl⟩
  rw [hn] at hc H ⊢
  have HN := Lib.hid hn
  by_cases h20 : n ≤ 20
  case neg =>
    have hg : greatB ss = true := by unfold greatB; rw [hn, decide_eq_true (show 20 < n by omega)]; rfl
    have k1 : (20 : Int) < (n : Int) := by omega
    rw [hg]
    clear hg h20 hn
    go_enter Tryd.func18, Tryd.ntmps18
    go_wp2
    go_ret
    exact ⟨rfl, Lib.hid (Below.refl _ _)⟩
  case pos =>
    have hg : greatB ss = ss.any fun s => decide (100 < s.size) := by unfold greatB; rw [hn, decide_eq_false (show ¬ 20 < n by omega)]; rfl
    have k1 : ¬ (20 : Int) < (n : Int) := by omega
    rw [hg]
    clear hg h20 hn
    go_enter Tryd.func18, Tryd.ntmps18
    go_wp2
    go_loopw [10] (fun i wr => ∃ k : Nat, i = .int .i64 (k : Int) ∧ k ≤ n ∧ Hid (∀ j, j < k → (ss.getD j ByteArray.empty).size ≤ 100) ∧ Hid (Below w.heap.size w wr)) (fun i _ => n - (intOf i).toNat)
    case atStart => exact ⟨0, rfl, by omega, Lib.hid (fun j hj => by omega), Lib.hid (Below.refl _ _)⟩
    case round =>
      obtain ⟨k, rfl, hk, HS, HB⟩ := hrel
      by_cases hlt : k < n
      · have hl1 := H.out.later HB.out
        obtain ⟨A', c', hv', -, -, hread⟩ := hl1
        rw [HN.out] at hread hv'
        obtain ⟨ad, hA, -, hcell⟩ := hread (by omega)
        injection hv' with hv' _ hcc
        subst hcc
        rw [← hv'] at hA
        subst hA
        have q1 := hcell k hlt
        clear hcell hread hv'
        obtain ⟨s, hs⟩ : ∃ s, ss.getD k ByteArray.empty = s := ⟨_, rfl⟩
        rw [hs] at q1
        have HSS := Lib.hid hs
        have k0 : (0 : Int) ≤ (k : Int) := by omega
        have k2 : (k : Int) < (n : Int) := by omega
        clear hs
        by_cases h100 : s.size ≤ 100
        · have e1 : ¬ (100 : Int) < (s.size : Int) := by omega
          have HS2 : Hid (∀ j, j < k + 1 → (ss.getD j ByteArray.empty).size ≤ 100) := Lib.hid (fun j hj => by
            by_cases e : j = k
            · subst e; rw [HSS.out]; exact h100
            · exact HS.out j (by omega))
          clear h100
          go_wp2
          go_roundw
          case rel => exact ⟨k + 1, by go_num, by omega, HS2, HB⟩
          case measure => simp [intOf]; omega
        · have e1 : (100 : Int) < (s.size : Int) := by omega
          have hany : (ss.any fun s => decide (100 < s.size)) = true := by
            rw [List.any_eq_true]
            have hkl : k < ss.length := by rw [HN.out]; exact hlt
            refine ⟨ss[k], List.getElem_mem hkl, decide_eq_true ?_⟩
            have : ss.getD k ByteArray.empty = ss[k] := by simp [List.getD_eq_getElem?_getD, hkl]
            rw [← this, HSS.out]
            omega
          have HAN := Lib.hid hany
          clear hany h100
          go_wp2
          go_ret
          exact ⟨by rw [HAN.out]; rfl, HB⟩
      · obtain rfl : k = n := by omega
        have hany : (ss.any fun s => decide (100 < s.size)) = false := by
          rw [List.any_eq_false]
          intro x hx
          obtain ⟨j, hj, rfl⟩ := List.mem_iff_getElem.1 hx
          have := HS.out j (by rw [← HN.out]; exact hj)
          rw [show ss.getD j ByteArray.empty = ss[j] by simp [List.getD_eq_getElem?_getD, hj]] at this
          simp; omega
        have HAN := Lib.hid hany
        clear hany hlt hk
        go_wp2
        go_ret
        exact ⟨by rw [HAN.out]; rfl, HB⟩

theorem hb_unique {k n e : Nat} (hk : k = 2 ^ e) (h1 : k < n) (h2 : n ≤ 2 * k) : k = hb n := by
  subst hk
  unfold hb
  have hn : n - 1 ≠ 0 := by have := Nat.pow_pos (a := 2) (n := e) (by omega); omega
  have a1 : e ≤ Nat.log2 (n - 1) := (Nat.le_log2 hn).2 (by omega)
  have a2 : Nat.log2 (n - 1) < e + 1 := (Nat.log2_lt hn).2 (by rw [Nat.pow_succ]; omega)
  rw [show Nat.log2 (n - 1) = e by omega]
set_option maxHeartbeats 2000000 in
theorem half_calls (n : Nat) (w : World) (h2 : 2 ≤ n) (hn : n ≤ 1000000000) :
    Calls Tryd.prog 46 #[.int .i64 (n : Int)] w fun e w' => e = .returned (.int .i64 ((hb n : Nat) : Int)) ∧ Hid (Below w.heap.size w w') := by
  go_enter Tryd.func46, Tryd.ntmps46
  go_wp2
  go_loopw [3] (fun i wr => ∃ k e : Nat, i = .int .i64 (k : Int) ∧ Hid (k = 2 ^ e) ∧ 1 ≤ k ∧ k < n ∧ Hid (Below w.heap.size w wr)) (fun i _ => n - (intOf i).toNat)
  case atStart => exact ⟨1, 0, rfl, rfl, by omega, by omega, Lib.hid (Below.refl _ _)⟩
  case round =>
    obtain ⟨k, e, rfl, HK, hk1, hk2, HB⟩ := hrel
    by_cases hlt : 2 * k < n
    · have e1 : 2 * (k : Int) < (n : Int) := by omega
      have e2 : (n : Int) ≤ 1000000000 := by omega
      have HK2 : Hid (2 * k = 2 ^ (e + 1)) := Lib.hid (by rw [Nat.pow_succ, ← HK.out]; omega)
      go_wp2
      go_roundw
      case rel => exact ⟨2 * k, e + 1, by go_num, HK2, by omega, hlt, HB⟩
      case measure => simp [intOf]; omega
    · have e1 : ¬ 2 * (k : Int) < (n : Int) := by omega
      have e2 : (n : Int) ≤ 1000000000 := by omega
      have e3 : (k : Int) < (n : Int) := by omega
      have hh := hb_unique HK.out hk2 (by omega)
      have HH := Lib.hid hh
      clear hh
      go_wp2
      go_ret
      exact ⟨by rw [← HH.out]; rfl, HB⟩
end Go.Proofs.YtmhjocbnoppbbaaDoor.Mk
