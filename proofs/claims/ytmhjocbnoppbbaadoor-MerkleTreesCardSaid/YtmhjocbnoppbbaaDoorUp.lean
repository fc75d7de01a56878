/- merkle.Up and merkle.Check. -/
import Derived.Test.YtmhjocbnoppbbaaDoorSides
namespace Go.Proofs.YtmhjocbnoppbbaaDoor.Mk
open Go.RowKit Go.Proofs.YtmhjocbnoppbbaaDoor.Sha
set_option linter.unusedVariables false
set_option linter.unusedSimpArgs false

/-- the digest behind the proof's first k texts, from the leaf upwards; bs: the sides from the root downwards -/
def upN (bs : List Bool) (leaf : ByteArray) (ps : List ByteArray) : Nat → ByteArray
  | 0 => leaf
  | k + 1 => if bs.getD (bs.length - 1 - k) false = true then nodeD (upN bs leaf ps k) (ps.getD k ByteArray.empty) else nodeD (ps.getD k ByteArray.empty) (upN bs leaf ps k)
theorem upN_size (bs : List Bool) (leaf : ByteArray) (ps : List ByteArray) (h : leaf.size = 32) (k : Nat) : (upN bs leaf ps k).size = 32 := by
  cases k with
  | zero => exact h
  | succ k =>
    unfold upN
    split <;> exact nodeD_size _ _
/-- what Up hands back: a digest, or an error's number -/
def upR (i n : Int) (leaf : ByteArray) (ps : List ByteArray) : ByteArray ⊕ Int :=
  if 0 ≤ i ∧ i < n ∧ n ≤ 1048576 then
    if ps.length = (sidesB i.toNat n.toNat).length ∧ leaf.size = 32 ∧ (∀ p ∈ ps, p.size = 32) then .inl (upN (sidesB i.toNat n.toNat) leaf ps ps.length) else .inr 11
  else .inr 2
/-- a result with its error -/
def resV : ByteArray ⊕ Int → Value
  | .inl d => .tuple #[.string d, .nilIface]
  | .inr c => .tuple #[.string ⟨#[]⟩, .iface 39 (.int .i64 c)]

set_option maxHeartbeats 2000000 in
set_option maxRecDepth 100000 in
theorem up_calls (i n : Int) (leaf : ByteArray) (lb : Nat) (lv : Value) (ps : List ByteArray) (w : World) (hl : SR w lb lv ps) (hpn : ps.length ≤ 1000000) :
    Calls Tryd.prog 26 #[.int .i64 i, .int .i64 n, .string leaf, lv] w fun e w' => e = .returned (resV (upR i n leaf ps)) ∧ Hid (Below w.heap.size w w') := by
  have hl' := hl
  obtain ⟨A, cp, rfl, hcp, hcm, -⟩ := hl
  have HL := Lib.hid hl'
  clear hl'
  obtain ⟨len, hlen⟩ : ∃ len, ps.length = len := ⟨_, rfl⟩
  rw [hlen] at hcp HL hpn ⊢
  have HLEN := Lib.hid hlen
  have hth := Lib.hid (there_calls i n w)
  by_cases h : 0 ≤ i ∧ i < n ∧ n ≤ 1048576
  case neg =>
    have hr : upR i n leaf ps = .inr 2 := by unfold upR; rw [if_neg h]
    have hd : decide (0 ≤ i ∧ i < n ∧ n ≤ 1048576) = false := decide_eq_false h
    rw [hr]
    have HD := Lib.hid hd
    clear hr hd hlen
    go_enter Tryd.func26, Tryd.ntmps26
    go_wp2_with ((go_at_call 48; refine hth.out.mono ?_; rw [HD.out]; rintro e w' ⟨rfl, rfl⟩))
    go_ret2
    exact ⟨rfl, Lib.hid (Below.refl _ _)⟩
  case pos =>
    have hd : decide (0 ≤ i ∧ i < n ∧ n ≤ 1048576) = true := decide_eq_true h
    have hR : upR i n leaf ps = if ps.length = (sidesB i.toNat n.toNat).length ∧ leaf.size = 32 ∧ (∀ p ∈ ps, p.size = 32) then .inl (upN (sidesB i.toNat n.toNat) leaf ps ps.length) else .inr 11 := by unfold upR; rw [if_pos h]
    obtain ⟨i', rfl⟩ := Int.eq_ofNat_of_zero_le h.1
    obtain ⟨n', rfl⟩ := Int.eq_ofNat_of_zero_le (show 0 ≤ n by omega)
    have hsd := Lib.hid (sides_calls i' n' w (by omega) (by omega))
    have hsl := sidesB_length n' i'
    rw [Int.toNat_natCast, Int.toNat_natCast, hlen] at hR
    have hin : i' < n' := by omega
    have hnn : n' ≤ 1048576 := by omega
    generalize sidesB i' n' = bs at hR hsd hsl
    have HD := Lib.hid hd
    have HR := Lib.hid hR
    clear hd hR h hlen
    go_enter Tryd.func26, Tryd.ntmps26
    by_cases hok : len = bs.length ∧ leaf.size = 32
    case neg =>
      have hr : upR i' n' leaf ps = .inr 11 := by rw [HR.out, if_neg (fun e => hok ⟨e.1, e.2.1⟩)]
      rw [hr]
      clear hr
      by_cases hlb : len = bs.length
      · have hls : ((leaf.size : Int) != 32) = true := by rw [bne_iff_ne]; intro e; exact hok ⟨hlb, by omega⟩
        have hlq : ((len : Int) != (bs.length : Int)) = false := by rw [hlb]; simp
        clear hlb
        go_wp2_with (first
          | (go_at_call 48; refine hth.out.mono ?_; rw [HD.out]; rintro e w' ⟨rfl, rfl⟩)
          | (go_at_call 49; refine hsd.out.mono ?_; rintro e w1 ⟨v, rfl, HZ, HB⟩; obtain ⟨A2, c2, hv, -, -, -⟩ := HZ.out.form; subst hv))
        go_ret2
        exact ⟨rfl, HB⟩
      · have hlq : ((len : Int) != (bs.length : Int)) = true := by rw [bne_iff_ne]; omega
        go_wp2_with (first
          | (go_at_call 48; refine hth.out.mono ?_; rw [HD.out]; rintro e w' ⟨rfl, rfl⟩)
          | (go_at_call 49; refine hsd.out.mono ?_; rintro e w1 ⟨v, rfl, HZ, HB⟩; obtain ⟨A2, c2, hv, -, -, -⟩ := HZ.out.form; subst hv))
        go_ret2
        exact ⟨rfl, HB⟩
    case pos =>
      obtain ⟨hlb, hls0⟩ := hok
      have hls : ((leaf.size : Int) != 32) = false := by rw [hls0]; rfl
      have hlq : ((len : Int) != (bs.length : Int)) = false := by rw [hlb]; simp
      go_wp2_with (first
        | (go_at_call 48; refine hth.out.mono ?_; rw [HD.out]; rintro e w' ⟨rfl, rfl⟩)
        | (go_at_call 49; refine hsd.out.mono ?_; rintro e w1 ⟨v, rfl, HZ, HB1⟩; obtain ⟨A2, c2, hv, -, -, -⟩ := HZ.out.form; subst hv))
      have HLB := Lib.hid hlb
      have HLS := Lib.hid hls0
      clear hls hlq
      go_loopw [11, 36] (fun d i wr => ∃ (k : Nat), d = .string (upN bs leaf ps k) ∧ i = .int .i64 (k : Int) ∧ k ≤ len ∧ Hid (∀ j, j < k → (ps.getD j ByteArray.empty).size = 32) ∧ Hid (Below w1.heap.size w1 wr)) (fun _ i _ => len - (intOf i).toNat)
      case atStart => exact ⟨0, rfl, rfl, by omega, Lib.hid (fun j hj => by omega), Lib.hid (Below.refl _ _)⟩
      case round =>
        obtain ⟨k, rfl, rfl, hk, HA, HB⟩ := hrel
        have hbw := HB1.out.size
        have HBW := Lib.hid (HB1.out.trans (HB.out.mono hbw))
        by_cases hlt : k < len
        · have hl1 := HL.out.later HBW.out
          obtain ⟨A', c', hv', -, -, hread⟩ := hl1
          rw [HLEN.out] at hread hv'
          obtain ⟨ad, hA, -, hcell⟩ := hread (by omega)
          injection hv' with hv' _ hcc
          subst hcc
          rw [← hv'] at hA
          subst hA
          have ct := hcell k hlt
          obtain ⟨A4, c4, hv4, hc41, hc42, hz4⟩ := (HZ.out.later HB.out).form
          obtain ⟨gz, hA4, hgz, hzc⟩ := hz4 (by omega)
          injection hv4 with hv4 _ hc4
          subst hc4
          rw [hA4] at hv4
          subst hv4
          have cz := hzc (bs.length - 1 - k) (by omega)
          have hup : upN bs leaf ps (k + 1) = if bs.getD (bs.length - 1 - k) false = true then nodeD (upN bs leaf ps k) (ps.getD k ByteArray.empty) else nodeD (ps.getD k ByteArray.empty) (upN bs leaf ps k) := rfl
          have hus := upN_size bs leaf ps HLS.out k
          obtain ⟨s, hs⟩ : ∃ s, ps.getD k ByteArray.empty = s := ⟨_, rfl⟩
          rw [hs] at ct hup
          generalize upN bs leaf ps k = d at hup hus ⊢
          generalize bs.getD (bs.length - 1 - k) false = b at cz hup
          have HUP := Lib.hid hup
          have HS := Lib.hid hs
          obtain ⟨L, hL⟩ : ∃ L, bs.length = L := ⟨_, rfl⟩
          rw [hL] at cz hlb hc41 hsl ⊢
          have HLL := Lib.hid hL
          have k0 : (0 : Int) ≤ (k : Int) := by omega
          have k1 : (k : Int) < (len : Int) := by omega
          have k2 : (len : Int) = (L : Int) := by omega
          have k3 : (L : Int) ≤ 1048576 := by omega
          have k4 : (0 : Int) ≤ (L : Int) - 1 - (k : Int) := by omega
          have k5 : (L : Int) - 1 - (k : Int) < (L : Int) := by omega
          have k6 : ((L : Int) - 1 - (k : Int)).toNat = L - 1 - k := by omega
          clear hcell hread hzc hup hs hv' hL
          by_cases h32 : s.size = 32
          · have e32 : ((s.size : Int) != 32) = false := by rw [h32]; rfl
            have HA2 : Hid (∀ j, j < k + 1 → (ps.getD j ByteArray.empty).size = 32) := Lib.hid (fun j hj => by
              by_cases e : j = k
              · subst e; rw [HS.out]; exact h32
              · exact HA.out j (by omega))
            have n1 := Lib.hid (node_calls d s wr (by omega) (by omega))
            have n2 := Lib.hid (node_calls s d wr (by omega) (by omega))
            have H32 := Lib.hid h32
            clear h32
            cases b
            · go_wp2_with ((go_at_call 50; refine n2.out.mono ?_; rintro e w4 ⟨rfl, HB4⟩))
              go_roundw
              case rel => exact ⟨k + 1, by rw [HUP.out]; rfl, by go_num, by omega, HA2, Lib.hid (HB.out.trans (HB4.out.mono HB.out.size))⟩
              case measure => simp [intOf]; omega
            · go_wp2_with ((go_at_call 50; refine n1.out.mono ?_; rintro e w4 ⟨rfl, HB4⟩))
              go_roundw
              case rel => exact ⟨k + 1, by rw [HUP.out]; rfl, by go_num, by omega, HA2, Lib.hid (HB.out.trans (HB4.out.mono HB.out.size))⟩
              case measure => simp [intOf]; omega
          · have e32 : ((s.size : Int) != 32) = true := by rw [bne_iff_ne]; intro e; exact h32 (by omega)
            have hr : upR i' n' leaf ps = .inr 11 := by
              rw [HR.out, if_neg]
              rintro ⟨_, _, e⟩
              refine h32 ?_
              have hkl : k < ps.length := by rw [HLEN.out]; exact hlt
              have : ps.getD k ByteArray.empty = ps[k] := by simp [List.getD_eq_getElem?_getD, hkl]
              rw [← HS.out, this]
              exact e _ (List.getElem_mem hkl)
            have HRR := Lib.hid hr
            clear hr h32
            go_wp2
            go_ret2
            exact ⟨by rw [HRR.out]; rfl, HBW⟩
        · obtain rfl : k = len := by omega
          have hr : upR i' n' leaf ps = .inl (upN bs leaf ps k) := by
            rw [HR.out, if_pos]
            refine ⟨HLB.out, HLS.out, fun p hp => ?_⟩
            obtain ⟨j, hj, rfl⟩ := List.mem_iff_getElem.1 hp
            have := HA.out j (by rw [← HLEN.out]; exact hj)
            rwa [show ps.getD j ByteArray.empty = ps[j] by simp [List.getD_eq_getElem?_getD, hj]] at this
          have HRR := Lib.hid hr
          clear hr hlt hk
          go_wp2
          go_ret2
          exact ⟨by rw [HRR.out]; rfl, HBW⟩
/-- what Check hands back: an error, or none -/
def checkV (root : ByteArray) (i n : Int) (s : ByteArray) (ps : List ByteArray) : Value :=
  match upR i n (leafD s) ps with
  | .inl d => if d = root then .nilIface else .iface 79 (.agg #[.int .i64 i, .iface 39 (.int .i64 11)])
  | .inr c => .iface 39 (.int .i64 c)
theorem toList_ne {a b : ByteArray} (h : a ≠ b) : (a.toList == b.toList) = false := by
  rw [beq_eq_false_iff_ne]
  intro e
  refine h ?_
  rw [ByteArray.toList_eq, ByteArray.toList_eq] at e
  exact ByteArray.ext (Array.toList_inj.1 e)
theorem check_calls (root : ByteArray) (i n : Int) (s : ByteArray) (lb : Nat) (lv : Value) (ps : List ByteArray) (w : World) (hl : SR w lb lv ps) (hpn : ps.length ≤ 1000000) (hs : s.size ≤ 900000) :
    Calls Tryd.prog 21 #[.string root, .int .i64 i, .int .i64 n, .string s, lv] w fun e w' => e = .returned (checkV root i n s ps) ∧ Hid (Below w.heap.size w w') := by
  have HL := Lib.hid hl
  obtain ⟨x, hx⟩ : ∃ x, upR i n (leafD s) ps = x := ⟨_, rfl⟩
  have HX := Lib.hid hx
  have hleaf := Lib.hid (leaf_calls s w hs)
  rcases x with d | c
  · by_cases hd : d = root
    · have hv : checkV root i n s ps = .nilIface := by unfold checkV; rw [hx]; simp [hd]
      rw [hv]
      subst hd
      clear hv hx hl
      go_enter Tryd.func21, Tryd.ntmps21
      go_wp2_with (first
        | (go_at_call 47; refine hleaf.out.mono ?_; rintro e w1 ⟨rfl, HB1⟩)
        | (go_at_call 26; refine (up_calls i n (leafD s) lb lv ps w1 (HL.out.later HB1.out) hpn).mono ?_; rw [HX.out]; rintro e w2 ⟨rfl, HB2⟩; unfold resV))
      go_ret
      exact ⟨rfl, Lib.hid (HB1.out.trans (HB2.out.mono HB1.out.size))⟩
    · have hv : checkV root i n s ps = .iface 79 (.agg #[.int .i64 i, .iface 39 (.int .i64 11)]) := by unfold checkV; rw [hx]; simp [hd]
      rw [hv]
      have hdl : (d.toList == root.toList) = false := toList_ne hd
      clear hv hx hl
      go_enter Tryd.func21, Tryd.ntmps21
      go_wp2_with (first
        | (go_at_call 47; refine hleaf.out.mono ?_; rintro e w1 ⟨rfl, HB1⟩)
        | (go_at_call 26; refine (up_calls i n (leafD s) lb lv ps w1 (HL.out.later HB1.out) hpn).mono ?_; rw [HX.out]; rintro e w2 ⟨rfl, HB2⟩; unfold resV))
      go_ret
      exact ⟨rfl, Lib.hid (HB1.out.trans (HB2.out.mono HB1.out.size))⟩
  · have hv : checkV root i n s ps = .iface 39 (.int .i64 c) := by unfold checkV; rw [hx]
    rw [hv]
    clear hv hx hl
    go_enter Tryd.func21, Tryd.ntmps21
    go_wp2_with (first
      | (go_at_call 47; refine hleaf.out.mono ?_; rintro e w1 ⟨rfl, HB1⟩)
      | (go_at_call 26; refine (up_calls i n (leafD s) lb lv ps w1 (HL.out.later HB1.out) hpn).mono ?_; rw [HX.out]; rintro e w2 ⟨rfl, HB2⟩; unfold resV))
    go_ret
    exact ⟨rfl, Lib.hid (HB1.out.trans (HB2.out.mono HB1.out.size))⟩
end Go.Proofs.YtmhjocbnoppbbaaDoor.Mk
