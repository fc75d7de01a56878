/- csr: List; the example of layer 5. -/
import Derived.Test.YthnpaiobjmneaaaDoorCv
namespace Go.Proofs.YthnpaiobjmneaaaDoor.Cs
open Go.RowKit Go.Proofs.YthnpaiobjmneaaaDoor.Ed Go.Proofs.YthnpaiobjmneaaaDoor.Ro
set_option linter.unusedVariables false
set_option linter.unusedSimpArgs false

/-- the edges of the nodes below v, and k of v's -/
def lsts (l : List E2) (v k : Nat) : List E2 := lists l v ++ ((tgt l v).take k).map fun w => ((v : Int), w)
theorem lsts_zero (l : List E2) (v : Nat) : lsts l v 0 = lists l v := by simp [lsts]
theorem lsts_all (l : List E2) (v : Nat) : lsts l v (deg l v) = lists l (v + 1) := by
  unfold lsts
  rw [← tgt_len, List.take_length, lists]
theorem lsts_succ (l : List E2) (v k : Nat) (h : k < deg l v) : lsts l v (k + 1) = lsts l v k ++ [((v : Int), (tgt l v).getD k 0)] := by
  unfold lsts
  have hk : k < (tgt l v).length := by rw [tgt_len]; exact h
  rw [List.take_add_one, List.getElem?_eq_getElem hk, Option.toList_some, List.map_append, ← List.append_assoc, List.getD_eq_getElem?_getD, List.getElem?_eq_getElem hk]
  rfl
theorem lists_len {l : List E2} (h : Up l) (h0 : ∀ e ∈ l, 0 ≤ e.1) (n : Nat) : (lists l n).length ≤ l.length := by
  rw [lists_take h h0, List.length_take]; omega
theorem lsts_len {l : List E2} (h : Up l) (h0 : ∀ e ∈ l, 0 ≤ e.1) (v k : Nat) : (lsts l v k).length ≤ l.length := by
  have h1 := lists_len h h0 (v + 1)
  rw [lists, List.length_append, List.length_map, tgt_len] at h1
  unfold lsts
  rw [List.length_append, List.length_map, List.length_take, tgt_len]
  omega
set_option maxHeartbeats 4000000 in
set_option maxRecDepth 100000 in
theorem list_calls {w : World} {B p bb N : Nat} {tv : Value} {l : List E2} (h : CS w B p bb tv N l) :
    Calls Tryd.prog 27 #[pV p] w fun e w' => ∃ v', e = .returned v' ∧ Hid (EO w' w.heap.size v' l) ∧ Hid (Below w.heap.size w w') := by
  have HC := Lib.hid h
  have HN := Lib.hid (fun W (hW : CS W B p bb tv N l) => nodes_calls hW)
  have hN := h.nodes
  have hfew := h.few
  have H0 : Hid (∀ e ∈ l, 0 ≤ e.1) := Lib.hid (fun e he => (h.ok e he).1)
  clear h
  go_enter Tryd.func27, Tryd.ntmps27
  go_upto_region 3 with (go_at_call 25; refine (HN.out _ HC.out).mono ?_; rintro e w1 ⟨rfl, rfl⟩)
  go_loopw [3, 11] (fun u x wz => ∃ v : Nat, x = .int .i64 (v : Int) ∧ v ≤ N ∧ Hid (EO wz w.heap.size u (lists l v)) ∧ Hid (Below w.heap.size w wz)) (fun _ x _ => N - (intOf x).toNat)
  case atStart => exact ⟨0, rfl, by omega, Lib.hid (EO.nil _ _), Lib.hid (Below.refl _ _)⟩
  case round =>
    obtain ⟨v, rfl, hv, HO, HB⟩ := hrel
    by_cases hlt : v < N
    · have i0 : (v : Int) < (N : Int) := by omega
      obtain ⟨uA, uc, rfl, -, -⟩ := id HO.out.shape
      go_upto_region 7 with (go_at_call 55; refine (row_calls (HC.out.later HB.out) v hlt).mono ?_; rintro e w2 ⟨a, c, g, rfl, HJ, HB2⟩)
      have HB3 := Lib.hid (HB.out.trans (HB2.out.mono HB.out.size))
      have HO3 := Lib.hid (HO.out.later HB2.out)
      have HO4 : Hid (EO w2 w.heap.size (.slice uA (lists l v).length uc) (lsts l v 0)) := Lib.hid (by rw [lsts_zero]; exact HO3.out)
      have HD := Lib.hid (tgt_len l v)
      have hgl : tgt l v ≠ [] → g < w.heap.size := fun e => OJ.lt HC.out.row g (HJ.out.2 e)
      have HJ2 : Hid (∀ W, Below w.heap.size w W → JR W g (.slice a (deg l v) c) (tgt l v)) := Lib.hid (fun W hW => by
        have h1 := HJ.out.1.later HB2.out
        by_cases e : tgt l v = []
        · obtain ⟨A', c', o', hv', x1, x2, -⟩ := h1
          exact ⟨A', c', o', hv', x1, x2, fun h => by rw [e] at h; simp at h⟩
        · obtain ⟨A', c', o', hv', x1, x2, hr⟩ := h1
          refine ⟨A', c', o', hv', x1, x2, fun h => ?_⟩
          obtain ⟨y1, y2, y3⟩ := hr h
          have hg := hgl e
          refine ⟨y1, Nat.lt_of_lt_of_le hg hW.size, fun i hi => ?_⟩
          rw [hW.cell (p := ⟨g, o' + i, none⟩) hg, ← HB3.out.cell (p := ⟨g, o' + i, none⟩) hg]
          exact y3 i hi)
      obtain ⟨d, hd⟩ : ∃ d, deg l v = d := ⟨_, rfl⟩
      have hd2 : d ≤ 20000 := by rw [← hd]; have := deg_le l v; omega
      rw [hd] at HJ2 HD ⊢
      have HDD := Lib.hid hd
      clear hd HO HO3 HB HJ hgl
      go_loopw [3, 22] (fun u x wz => ∃ k : Nat, x = .int .i64 (k : Int) ∧ k ≤ d ∧ Hid (EO wz w.heap.size u (lsts l v k)) ∧ Hid (Below w.heap.size w wz)) (fun _ x _ => d - (intOf x).toNat)
      case atStart => exact ⟨0, rfl, by omega, HO4, HB3⟩
      case round =>
        obtain ⟨k, rfl, hk, HO, HB⟩ := hrel
        by_cases hlt2 : k < d
        · obtain ⟨A', c', o', hv', -, -, hread⟩ := HJ2.out _ HB.out
          rw [HD.out] at hread hv'
          obtain ⟨rfl, -, hcell⟩ := hread (by omega)
          injection hv' with hv' _ hcc
          subst hcc hv'
          have q := hcell k hlt2
          have hst := lsts_succ l v k (by rw [HDD.out]; exact hlt2)
          obtain ⟨y, hy⟩ : ∃ y, (tgt l v).getD k 0 = y := ⟨_, rfl⟩
          rw [hy] at q hst
          have HST := Lib.hid hst
          have HLN : Hid ((lsts l v k).length ≤ 20000) := Lib.hid (Nat.le_trans (lsts_len HC.out.up H0.out v k) hfew)
          have hbz := HB.out.size
          obtain ⟨uA', uc', rfl, -, -⟩ := id HO.out.shape
          have HOB := Lib.hid HO.out.base
          clear hcell hread hst hy
          go_wp2_with (at_builtin; refine EO.append_on (base := w.heap.size) (HO.out.alloc _) (ER.lit _ [((v : Int), y)] _ rfl 1 rfl (by simp)) rfl _ _ rfl rfl rfl (by simp; omega) (by have := HLN.out; simp; omega) ?_; intro v1 w3 k1 k2 k3; have K1 := Lib.hid k1; have K2 := Lib.hid k2; clear k1 k2 k3)
          go_roundw
          case rel => exact ⟨k + 1, by go_num, by omega, Lib.hid (by rw [HST.out]; exact K1.out), Lib.hid ((HB.out.alloc hbz _).grown K2.out (by simp; omega) HOB.out)⟩
          case measure => simp [intOf]; omega
        · obtain rfl : d = k := by omega
          have HO5 : Hid (EO wr w.heap.size u3 (lists l (v + 1))) := Lib.hid (by rw [← lsts_all, HDD.out]; exact HO.out)
          go_wp2
          go_roundw
          case rel => exact ⟨v + 1, by go_num, by omega, HO5, HB⟩
          case measure => simp [intOf]; omega
    · obtain rfl : N = v := by omega
      have e := lists_all HC.out.up N HC.out.ok
      go_wp2
      go_ret
      exact ⟨_, rfl, Lib.hid (by rw [← e]; exact HO.out), HB⟩
theorem aw_wrg : wrg ((3 : Nat) : Int) [(2, 0), (0, 1)] = -2 := by decide
theorem aw_nrm : nrm [(2, 0), (0, 1)] = [(0, 1), (2, 0)] := by decide
theorem aw_tgt : tgt [(0, 1), (2, 0)] ((2 : Nat) : Int) = [0] := by decide
theorem aw_bel : bel [(0, 1), (2, 0)] ((3 : Nat) : Int) = 2 := by decide
set_option maxHeartbeats 2000000 in
set_option maxRecDepth 100000 in
theorem awake_calls (w : World) : Calls Tryd.prog 23 #[] w fun e w' => e = .returned (.bool true) ∧ Hid (Below w.heap.size w w') := by
  have HJ : Hid (ER (w.alloc (.cells #[.int .i64 2, .int .i64 0, .int .i64 0, .int .i64 1] 67)) w.heap.size (.slice (some ⟨w.heap.size, 0, none⟩) 2 2) [(2, 0), (0, 1)]) := Lib.hid (ER.lit w [(2, 0), (0, 1)] _ rfl 2 rfl (by simp))
  have HI : Hid (∀ W : World, JR (W.alloc (.cells #[.int .i64 0] 3)) W.heap.size (.slice (some ⟨W.heap.size, 0, none⟩) 1 1) [0]) := Lib.hid (fun W => JR.lit W [0] _ rfl 1 rfl (by simp))
  have HB0 := Lib.hid (build_ok 3 _ _ _ _ HJ.out (by simp) aw_wrg)
  rw [aw_nrm] at HB0
  have HT0 := Lib.hid (fun W p bb tv B (h : CS W B p bb tv 3 [(0, 1), (2, 0)]) => targets_calls h 2 (by omega))
  rw [aw_tgt] at HT0
  have HG0 := Lib.hid (fun W p bb tv B (h : CS W B p bb tv 3 [(0, 1), (2, 0)]) => begin_calls h 3 (by omega))
  rw [aw_bel] at HG0
  go_enter Tryd.func23, Tryd.ntmps23
  go_wp2_with (first
    | (go_at_call 24; refine HB0.out.mono ?_; rintro e w1 ⟨p, bb, tv, rfl, HC, HB⟩)
    | (go_at_call 28; refine (HT0.out _ _ _ _ _ HC.out).mono ?_; rintro e w2 ⟨v2, rfl, HO, HB2⟩; have HC := Lib.hid (HC.out.later HB2.out); obtain ⟨A2, c2, rfl, -⟩ := id HO.out.shape)
    | (go_at_call 32; refine (ints_b HO.out.reads.choose w2.heap.size _ _ [0] [0] _ (HO.out.reads.choose_spec.1.later ((Below.refl _ _).alloc (Nat.le_refl _) _)) (HI.out _)).mono ?_; rintro e w3 ⟨rfl, HB3⟩; have HC := Lib.hid ((HC.out.later ((Below.refl _ _).alloc (Nat.le_refl _) _)).later HB3.out))
    | (go_at_call 34; refine (HG0.out _ _ _ _ _ HC.out).mono ?_; rintro e w4 ⟨rfl, rfl⟩))
  go_ret
  refine ⟨rfl, Lib.hid ?_⟩
  have h1 := ((Below.refl _ w).alloc (Nat.le_refl _) _).trans (HB.out.mono (by simp))
  have h2 := h1.trans (HB2.out.mono h1.size)
  have h3 := h2.alloc h2.size (.cells #[.int .i64 0] 3)
  exact h3.trans (HB3.out.mono h3.size)
end Go.Proofs.YthnpaiobjmneaaaDoor.Cs
