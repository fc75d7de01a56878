/- ShardGets, walked: numbers of nodes that may not be; bytes of a shard; all. -/
import Derived.Test.YtjokfllldcjheaaGreatDoorGl
namespace Go.Proofs.YtjokfllldcjheaaGreatDoor.Oc
open Go.RowKit Go.Proofs.YtjokfllldcjheaaGreatDoor.Sha Go.Proofs.YtjokfllldcjheaaGreatDoor.Ro Go.Proofs.YtjokfllldcjheaaGreatDoor.Cs Go.Proofs.YtjokfllldcjheaaGreatDoor.Ed
set_option linter.unusedVariables false
set_option linter.unusedSimpArgs false
theorem rdRows_bad {bs : List UInt8} {nodes begin_ : Nat} : ∀ {k at_ : Nat} {v : Int} {b : Bad}, rdRows bs nodes begin_ k v at_ = .error b → b.1 ≠ 0
  | 0, at_, v, b, h => by simp [rdRows] at h
  | k + 1, at_, v, b, h => by
    rw [rdRows] at h
    cases e : rdRow bs nodes at_ v with
    | error c =>
      rw [e] at h
      injection h with h
      subst h
      have := rdRow_bad e
      omega
    | ok r =>
      rw [e] at h
      simp only at h
      cases e2 : rdRows bs nodes begin_ k (v + 1) r.2 with
      | error c =>
        rw [e2] at h
        injection h with h
        subst h
        exact rdRows_bad e2
      | ok q => rw [e2] at h; simp at h
theorem rdIdx_bad {bs : List UInt8} : ∀ {k at_ : Nat} {b : Bad}, rdIdx bs k at_ = .error b → b.1 ≠ 0
  | 0, at_, b, h => by simp [rdIdx] at h
  | k + 1, at_, b, h => by
    rw [rdIdx] at h
    cases e : rdAt bs at_ with
    | error c =>
      rw [e] at h
      injection h with h
      subst h
      have := rdAt_bad e
      omega
    | ok r =>
      rw [e] at h
      simp only at h
      cases e2 : rdIdx bs k r.2 with
      | error c =>
        rw [e2] at h
        injection h with h
        subst h
        exact rdIdx_bad e2
      | ok q => rw [e2] at h; simp at h
theorem rdHead_bad {bs : List UInt8} {nodes : Nat} {b : Bad} (h : rdHead bs nodes = .error b) : b.1 ≠ 0 := by
  unfold rdHead at h
  cases e : rdAt bs 0 with
  | error c =>
    rw [e] at h
    injection h with h
    subst h
    have := rdAt_bad e
    omega
  | ok r =>
    rw [e] at h
    simp only at h
    cases e2 : rdAt bs r.2 with
    | error c =>
      rw [e2] at h
      injection h with h
      subst h
      have := rdAt_bad e2
      omega
    | ok q =>
      rw [e2] at h
      simp only at h
      split at h
      · injection h with h
        rw [← h]
        show (4 : Nat) ≠ 0
        omega
      · simp at h
theorem rdShard_bad {bs : List UInt8} {nodes : Nat} {b : Bad} (h : rdShard bs nodes = .error b) : b.1 ≠ 0 := by
  unfold rdShard at h
  cases e : rdCore bs nodes with
  | error c =>
    rw [e] at h
    injection h with h
    subst h
    unfold rdCore at e
    cases e1 : rdHead bs nodes with
    | error c => rw [e1] at e; injection e with e; subst e; exact rdHead_bad e1
    | ok hd =>
      rw [e1] at e
      simp only at e
      cases e2 : rdIdx bs ((hd.2.1 + 7) / 8) hd.2.2 with
      | error c => rw [e2] at e; injection e with e; subst e; exact rdIdx_bad e2
      | ok x =>
        rw [e2] at e
        simp only at e
        cases e3 : rdRows bs nodes x.2.2 hd.2.1 hd.1 x.2.2 with
        | error c => rw [e3] at e; injection e with e; subst e; exact rdRows_bad e3
        | ok r =>
          rw [e3] at e
          simp only at e
          cases e4 : chk r.2.1 x.1 x.2.1 0 with
          | some p => rw [e4] at e; injection e with e; rw [← e]; show (4 : Nat) ≠ 0; omega
          | none => rw [e4] at e; simp at e
  | ok r =>
    rw [e] at h
    simp only at h
    split at h
    · injection h with h
      rw [← h]
      show (4 : Nat) ≠ 0
      omega
    · simp at h
set_option maxHeartbeats 4000000 in
set_option maxRecDepth 100000 in
theorem gets_long (s : ByteArray) (n v : Int) (w : World) (hs : 300 < s.size) :
    Calls Tryz.prog 5 #[.string s, .int .i64 n, .int .i64 v] w fun e w' => e = .returned (.bool true) ∧ Hid (Below w.heap.size w w') := by
  have n2 : (300 : Int) < (s.size : Int) := by omega
  go_enter Tryz.func5, Tryz.ntmps5
  go_wp2_with (go_at_call 9; refine (sawake_calls _).mono ?_; rintro e w1 ⟨rfl, HB1⟩)
  go_ret
  exact ⟨rfl, HB1⟩
set_option maxHeartbeats 4000000 in
set_option maxRecDepth 100000 in
theorem gets_nodes (s : ByteArray) (n v : Int) (w : World) (hG : Er.G0 w) (hs : s.size ≤ 300) (hn : n < 0 ∨ n > 4096) :
    Calls Tryz.prog 5 #[.string s, .int .i64 n, .int .i64 v] w fun e w' => e = .returned (.bool true) ∧ Hid (Below w.heap.size w w') := by
  have n2 : ¬ (300 : Int) < (s.size : Int) := by omega
  have HCN : Hid (∀ (k : Int) (W : World), Below w.heap.size w W → Calls Tryz.prog 12 #[noV k] W fun r w' => r = .returned (.int .i64 k) ∧ Hid (Below W.heap.size W w')) := Lib.hid (fun k W h => Er.code_calls (.no k) W (g0_on hG h))
  have HA := Lib.hid (fun W => get_arg s n hn W)
  have HF := Lib.hid (fun W => find_arg s n v hn W)
  have HD := Lib.hid (fun W => sdegree_arg s n v hn W)
  clear hG
  have hn2 : (decide (n < 0) || decide (4096 < n)) = true := by rcases hn with h | h <;> simp [h]
  by_cases hn0 : n < 0
  case' neg => have hn1 : (4096 : Int) < n := by omega
  all_goals
    clear hn
    go_enter Tryz.func5, Tryz.ntmps5
    go_upto_region 6 with (first
      | (go_at_call 9; refine (sawake_calls _).mono ?_; rintro e w1 ⟨rfl, HB1⟩)
      | (go_at_call 20; refine (HA.out _).mono ?_; rintro e w2 ⟨rfl, HB2⟩))
    have hbw := (HB1.out.trans (HB2.out.mono HB1.out.size)).alloc (Nat.le_trans HB1.out.size HB2.out.size) (.cells #[.int .i64 0, .slice none 0 0] 50)
    have hx := heap_alloc_new w2 (.cells #[.int .i64 0, .slice none 0 0] 50)
    generalize w2.alloc (.cells #[.int .i64 0, .slice none 0 0] 50) = W at *
    generalize w2.heap.size = xb at *
    have HBW := Lib.hid hbw
    have HXW := Lib.hid hx
    have HK : Hid (Below W.heap.size W W) := Lib.hid (Below.refl _ _)
    have HUF : Hid (∀ X, Below W.heap.size W X → Below w.heap.size w X) := Lib.hid (fun X h => HBW.out.trans (h.mono HBW.out.size))
    have HSS : Hid (∀ X, Below W.heap.size W X → X.cell? ⟨xb, 1, none⟩ = some (.slice none 0 0)) := Lib.hid (fun X h => cell_of_row X xb 1 _ _ _ ((h.block xb (Array.getElem?_eq_some_iff.1 HXW.out).1).trans HXW.out))
    clear hbw hx HB1 HB2
    go_wp2_with (first
      | (go_at_call 21; refine (HF.out _).mono ?_; rintro e w3 ⟨rfl, HBx⟩; have HK := Lib.hid (HK.out.trans (HBx.out.mono HK.out.size)); clear HBx)
      | (go_at_call 22; refine (HD.out _).mono ?_; rintro e w4 ⟨rfl, HBx⟩; have HK := Lib.hid (HK.out.trans (HBx.out.mono HK.out.size)); clear HBx; have hc := HSS.out _ HK.out)
      | (go_at_call 12; refine (HCN.out 1 _ (HUF.out _ HK.out)).mono ?_; rintro e w5 ⟨rfl, HBx⟩; have HK := Lib.hid (HK.out.trans (HBx.out.mono HK.out.size)); clear HBx))
    go_ret
    exact ⟨rfl, Lib.hid (HUF.out _ HK.out)⟩
set_option maxHeartbeats 8000000 in
set_option maxRecDepth 100000 in
/-- bytes of a shard: its rows are LL, from f on -/
theorem gets_ok (s : ByteArray) (N : Nat) (v : Int) (w : World) (hG : Er.G0 w) (hs : s.size ≤ 300) (hN : N ≤ 4096) (f : Nat) (LL : List (List Int)) (hR : rdShard s.data.toList N = .ok (f, LL)) (hv : -9223372036854775808 ≤ v ∧ v ≤ 9223372036854775807) (fv gv : Value) (tn : Nat) (tl : List Int) (d : Int)
    (hF : ∀ W, Calls Tryz.prog 21 #[.string s, .int .i64 (N : Int), .int .i64 v] W fun e w' => ∃ A c g, e = .returned (.tuple #[.slice A tn c, fv]) ∧ Hid (JR w' g (.slice A tn c) tl) ∧ Hid (Below W.heap.size W w'))
    (hD : ∀ W, Calls Tryz.prog 22 #[.string s, .int .i64 (N : Int), .int .i64 v] W fun e w' => e = .returned (.tuple #[.int .i64 d, gv]) ∧ Hid (Below W.heap.size W w'))
    (hg : ((v < (f : Int) ∨ v ≥ (f : Int) + (LL.length : Int)) ∧ fv = noV 2 ∧ gv = noV 2 ∧ tn = 0 ∧ d = 0) ∨ (∃ i, i < LL.length ∧ v = (f : Int) + (i : Nat) ∧ fv = .nilIface ∧ gv = .nilIface ∧ d = (tn : Int) ∧ tl = LL.getD i [])) :
    Calls Tryz.prog 5 #[.string s, .int .i64 (N : Int), .int .i64 v] w fun e w' => e = .returned (.bool true) ∧ Hid (Below w.heap.size w w') := by
  have hfl := rdShard_len hR
  have HCZ : Hid (∀ (W : World), Below w.heap.size w W → Calls Tryz.prog 12 #[.nilIface] W fun r w' => r = .returned (.int .i64 0) ∧ Hid (Below W.heap.size W w')) := Lib.hid (fun W h => Er.code_calls .nil W (g0_on hG h))
  have HCN : Hid (∀ (k : Int) (W : World), Below w.heap.size w W → Calls Tryz.prog 12 #[noV k] W fun r w' => r = .returned (.int .i64 k) ∧ Hid (Below W.heap.size W w')) := Lib.hid (fun k W h => Er.code_calls (.no k) W (g0_on hG h))
  obtain ⟨m, hm⟩ : ∃ m, LL.length = m := ⟨_, rfl⟩
  rw [hm] at hg hfl
  have HM := Lib.hid hm
  have HGE : Hid (∀ W, Calls Tryz.prog 20 #[.string s, .int .i64 (N : Int)] W fun e w' => ∃ A c, e = .returned (.tuple #[.agg #[.int .i64 (f : Int), .slice A m c], .nilIface]) ∧ Hid (RR w' (fun _ => True) (.slice A m c) LL) ∧ Hid (Below W.heap.size W w')) := Lib.hid (fun W => (get_calls s N (by omega) hN W).mono fun e w' h => by
    have h1 := h.1.out
    rw [hR] at h1
    obtain ⟨rv, h1, h2⟩ := h1
    obtain ⟨A, c, rfl, -⟩ := h2.shape
    rw [hm] at h1 h2
    exact ⟨A, c, h1, Lib.hid (h2.move (Nat.le_refl _) fun _ _ _ => ⟨rfl, trivial⟩), h.2⟩)
  have HRG : Hid (∀ W, Calls Tryz.prog 25 #[.string s, .int .i64 (N : Int)] W fun e w' => ∃ A c, e = .returned (.agg #[.int .i64 (f : Int), .slice A m c, .int .i64 0, .int .i64 0]) ∧ Hid (RR w' (fun _ => True) (.slice A m c) LL) ∧ Hid (Below W.heap.size W w')) := Lib.hid (fun W => (rget7_calls s N (by omega) hN W).mono fun e w' h => by
    have h1 := h.1.out
    rw [hR] at h1
    obtain ⟨rv, h1, h2⟩ := h1
    obtain ⟨A, c, rfl, -⟩ := h2.shape
    rw [hm] at h1 h2
    exact ⟨A, c, h1, Lib.hid (h2.move (Nat.le_refl _) fun _ _ _ => ⟨rfl, trivial⟩), h.2⟩)
  have HF := Lib.hid hF
  have HD := Lib.hid hD
  have HGV := Lib.hid hg
  have n0 : ¬ (N : Int) < 0 := by omega
  have n1 : ¬ (N : Int) > 4096 := by omega
  have n2 : ¬ (s.size : Int) > 300 := by omega
  have b9 : (((f : Nat) : Int) != ((f : Nat) : Int)) = false := by simp
  have HV := Lib.hid hv
  clear hF hD hg hR hG hm hv
  go_enter Tryz.func5, Tryz.ntmps5
  go_upto_region 6 with (first
    | (go_at_call 9; refine (sawake_calls _).mono ?_; rintro e w1 ⟨rfl, HB1⟩)
    | (go_at_call 20; refine (HGE.out _).mono ?_; rintro e w2 ⟨xA, xc, rfl, HXR, HB2⟩))
  have hbw := (HB1.out.trans (HB2.out.mono HB1.out.size)).alloc (Nat.le_trans HB1.out.size HB2.out.size) (.cells #[.int .i64 (f : Int), .slice xA m xc] 50)
  have hx := heap_alloc_new w2 (.cells #[.int .i64 (f : Int), .slice xA m xc] 50)
  have hxr := HXR.out.later ((Below.refl _ _).alloc (Nat.le_refl _) (.cells #[.int .i64 (f : Int), .slice xA m xc] 50))
  generalize w2.alloc (.cells #[.int .i64 (f : Int), .slice xA m xc] 50) = W at *
  generalize w2.heap.size = xb at *
  have HBW := Lib.hid hbw
  have HXW := Lib.hid hx
  have HXL := Lib.hid hxr
  have HK : Hid (Below W.heap.size W W) := Lib.hid (Below.refl _ _)
  clear hbw hx HB1 HB2 HXR hxr
  go_upto_region 11 with (first
    | (go_at_call 21; refine (HF.out _).mono ?_; rintro e w3 ⟨tA, tc, tg, rfl, HTL, HBx⟩; have HK := Lib.hid (HK.out.trans (HBx.out.mono HK.out.size)); clear HBx)
    | (go_at_call 22; refine (HD.out _).mono ?_; rintro e w4 ⟨rfl, HBx⟩; have HK := Lib.hid (HK.out.trans (HBx.out.mono HK.out.size)); have HTL := Lib.hid (HTL.out.later HBx.out); clear HBx)
    | (go_at_call 25; refine (HRG.out _).mono ?_; rintro e w5 ⟨zA, zc, rfl, HZR, HBx⟩; have HK := Lib.hid (HK.out.trans (HBx.out.mono HK.out.size)); have HTL := Lib.hid (HTL.out.later HBx.out); clear HBx))
  have hbz := HK.out.alloc HK.out.size (.cells #[.int .i64 (f : Int), .slice zA m zc, .int .i64 0, .int .i64 0] 62)
  have hz := heap_alloc_new w5 (.cells #[.int .i64 (f : Int), .slice zA m zc, .int .i64 0, .int .i64 0] 62)
  have hzr := HZR.out.later ((Below.refl _ _).alloc (Nat.le_refl _) (.cells #[.int .i64 (f : Int), .slice zA m zc, .int .i64 0, .int .i64 0] 62))
  have htl := HTL.out.later ((Below.refl _ _).alloc (Nat.le_refl _) (.cells #[.int .i64 (f : Int), .slice zA m zc, .int .i64 0, .int .i64 0] 62))
  generalize w5.alloc (.cells #[.int .i64 (f : Int), .slice zA m zc, .int .i64 0, .int .i64 0] 62) = W6 at *
  generalize w5.heap.size = zb at *
  have HBZ := Lib.hid hbz
  have HZW := Lib.hid hz
  have HZL := Lib.hid hzr
  have HTW := Lib.hid htl
  clear HTL HZR hzr htl
  have HUF : Hid (∀ X, Below W6.heap.size W6 X → Below w.heap.size w X) := Lib.hid (fun X h => HBW.out.trans ((HBZ.out.trans (h.mono HBZ.out.size)).mono HBW.out.size))
  have HU : Hid (Below W6.heap.size W6 W6) := Lib.hid (Below.refl _ _)
  have HSS : Hid (∀ X, Below W6.heap.size W6 X → X.cell? ⟨xb, 0, none⟩ = some (.int .i64 (f : Int)) ∧ X.cell? ⟨xb, 1, none⟩ = some (.slice xA m xc) ∧ X.cell? ⟨zb, 0, none⟩ = some (.int .i64 (f : Int)) ∧ X.cell? ⟨zb, 1, none⟩ = some (.slice zA m zc) ∧ X.cell? ⟨zb, 2, none⟩ = some (.int .i64 0) ∧ X.cell? ⟨zb, 3, none⟩ = some (.int .i64 0)) := Lib.hid (fun X h => by
    have h1 := ((HBZ.out.trans (h.mono HBZ.out.size)).block xb (Array.getElem?_eq_some_iff.1 HXW.out).1).trans HXW.out
    have h2 := (h.block zb (Array.getElem?_eq_some_iff.1 HZW.out).1).trans HZW.out
    exact ⟨cell_of_row X xb 0 _ _ _ h1, cell_of_row X xb 1 _ _ _ h1, cell_of_row X zb 0 _ _ _ h2, cell_of_row X zb 1 _ _ _ h2, cell_of_row X zb 2 _ _ _ h2, cell_of_row X zb 3 _ _ _ h2⟩)
  have HRS : Hid (∀ X, Below W6.heap.size W6 X → Calls Tryz.prog 26 #[.slice xA m xc, .slice zA m zc] X fun e w' => e = .returned (.bool true) ∧ Hid (Below X.heap.size X w')) := Lib.hid (fun X h => rrows_calls _ _ _ _ LL X (HXL.out.later (HBZ.out.trans (h.mono HBZ.out.size))) (HZL.out.later h) (by rw [HM.out]; omega))
  clear hbz hz
  refine wp_region_noPanic ?_
  refine wp_region_held_drew (S := fun X => X.cell? ⟨xb, 0, none⟩ = some (.int .i64 (f : Int)) ∧ X.cell? ⟨xb, 1, none⟩ = some (.slice xA m xc) ∧ X.cell? ⟨zb, 0, none⟩ = some (.int .i64 (f : Int)) ∧ X.cell? ⟨zb, 1, none⟩ = some (.slice zA m zc) ∧ X.cell? ⟨zb, 2, none⟩ = some (.int .i64 0) ∧ X.cell? ⟨zb, 3, none⟩ = some (.int .i64 0)) (by kernel_rfl) (HSS.out _ HU.out.drew) (fun hHeld => ?_)
  refine wpAnyH_take (i := 0) (oi := _) (v := ?_) rfl (by kernel_rfl) (by kernel_rfl) (by kernel_rfl) (fun _ _ _ h => h) (Or.inl ⟨by rfl, ?_⟩) (by assumption) ?_
  rotate_left
  · (intro w hSw; obtain ⟨s0, s1, s2, s3, s4, s5⟩ := hSw; go_simp; (try with_reducible rfl))
  try simp only [Act.put, List.getElem_toArray, List.getElem_cons_succ, List.getElem_cons_zero, List.setIfInBounds_toArray, List.set_cons_zero, List.set_cons_succ]
  refine wpAnyH_take (i := 2) (oi := _) (v := ?_) rfl (by kernel_rfl) (by kernel_rfl) (by kernel_rfl) (fun _ _ _ h => h) (Or.inl ⟨by rfl, ?_⟩) (by assumption) ?_
  rotate_left
  · (intro w hSw; obtain ⟨s0, s1, s2, s3, s4, s5⟩ := hSw; go_simp; (try with_reducible rfl))
  try simp only [Act.put, List.getElem_toArray, List.getElem_cons_succ, List.getElem_cons_zero, List.setIfInBounds_toArray, List.set_cons_zero, List.set_cons_succ]
  refine wpAnyH_take (i := 3) (oi := _) (v := ?_) rfl (by kernel_rfl) (by kernel_rfl) (by kernel_rfl) (fun _ _ _ h => h) (Or.inl ⟨by rfl, ?_⟩) (by assumption) ?_
  rotate_left
  · (intro w hSw; obtain ⟨s0, s1, s2, s3, s4, s5⟩ := hSw; go_simp; (try with_reducible rfl))
  try simp only [Act.put, List.getElem_toArray, List.getElem_cons_succ, List.getElem_cons_zero, List.setIfInBounds_toArray, List.set_cons_zero, List.set_cons_succ]
  refine wpAnyH_ready (rs := [1]) (by kernel_rfl) (by simp) ?_
  refine AllReadyH.cons (o := _) rfl (fun K hK => ?_) (AllReadyH.nil)
  (go_simp)
  go_at_call 12
  refine (HCZ.out _ (HUF.out _ HU.out.drew)).mono ?_
  rintro r w6 ⟨rfl, HBx⟩
  have HU := Lib.hid (HU.out.drew.trans (HBx.out.mono HU.out.size))
  clear HBx
  dsimp only
  refine hK.out _ _ (HSS.out _ HU.out) (fun hHeld => ?_)
  clear hK K
  try simp only [Act.put, List.getElem_toArray, List.getElem_cons_succ, List.getElem_cons_zero, List.setIfInBounds_toArray, List.set_cons_zero, List.set_cons_succ]
  refine wpAnyH_take (i := 4) (oi := _) (v := ?_) rfl (by kernel_rfl) (by kernel_rfl) (by kernel_rfl) (fun _ _ _ h => h) (Or.inl ⟨by rfl, ?_⟩) (by assumption) ?_
  rotate_left
  · (intro w hSw; obtain ⟨s0, s1, s2, s3, s4, s5⟩ := hSw; go_simp; (try with_reducible rfl))
  try simp only [Act.put, List.getElem_toArray, List.getElem_cons_succ, List.getElem_cons_zero, List.setIfInBounds_toArray, List.set_cons_zero, List.set_cons_succ]
  refine wpAnyH_take (i := 5) (oi := _) (v := ?_) rfl (by kernel_rfl) (by kernel_rfl) (by kernel_rfl) (fun _ _ _ h => h) (Or.inl ⟨by rfl, ?_⟩) (by assumption) ?_
  rotate_left
  · (intro w hSw; obtain ⟨s0, s1, s2, s3, s4, s5⟩ := hSw; go_simp; (try with_reducible rfl))
  try simp only [Act.put, List.getElem_toArray, List.getElem_cons_succ, List.getElem_cons_zero, List.setIfInBounds_toArray, List.set_cons_zero, List.set_cons_succ]
  refine wpAnyH_take (i := 6) (oi := _) (v := ?_) rfl (by kernel_rfl) (by kernel_rfl) (by kernel_rfl) (fun _ _ _ h => h) (Or.inl ⟨by rfl, ?_⟩) (by assumption) ?_
  rotate_left
  · (intro w hSw; obtain ⟨s0, s1, s2, s3, s4, s5⟩ := hSw; go_simp; (try with_reducible rfl))
  try simp only [Act.put, List.getElem_toArray, List.getElem_cons_succ, List.getElem_cons_zero, List.setIfInBounds_toArray, List.set_cons_zero, List.set_cons_succ]
  refine wpAnyH_take (i := 7) (oi := _) (v := ?_) rfl (by kernel_rfl) (by kernel_rfl) (by kernel_rfl) (fun _ _ _ h => h) (Or.inl ⟨by rfl, ?_⟩) (by assumption) ?_
  rotate_left
  · (intro w hSw; obtain ⟨s0, s1, s2, s3, s4, s5⟩ := hSw; go_simp; (try with_reducible rfl))
  try simp only [Act.put, List.getElem_toArray, List.getElem_cons_succ, List.getElem_cons_zero, List.setIfInBounds_toArray, List.set_cons_zero, List.set_cons_succ]
  refine wpAnyH_take (i := 8) (oi := _) (v := ?_) rfl (by kernel_rfl) (by kernel_rfl) (by kernel_rfl) (fun _ _ _ h => h) (Or.inl ⟨by rfl, ?_⟩) (by assumption) ?_
  rotate_left
  · (intro w hSw; obtain ⟨s0, s1, s2, s3, s4, s5⟩ := hSw; go_simp; (try with_reducible rfl))
  try simp only [Act.put, List.getElem_toArray, List.getElem_cons_succ, List.getElem_cons_zero, List.setIfInBounds_toArray, List.set_cons_zero, List.set_cons_succ]
  refine wpAnyH_take (i := 9) (oi := _) (v := ?_) rfl (by kernel_rfl) (by kernel_rfl) (by kernel_rfl) (fun _ _ _ h => h) (Or.inl ⟨by rfl, ?_⟩) (by assumption) ?_
  rotate_left
  · (intro w hSw; obtain ⟨s0, s1, s2, s3, s4, s5⟩ := hSw; go_simp; (try with_reducible rfl))
  try simp only [Act.put, List.getElem_toArray, List.getElem_cons_succ, List.getElem_cons_zero, List.setIfInBounds_toArray, List.set_cons_zero, List.set_cons_succ]
  refine wpAnyH_take (i := 10) (oi := _) (v := undef) rfl (by kernel_rfl) (by kernel_rfl) (by kernel_rfl) (fun _ _ _ h => h) (Or.inr ⟨by rfl, rfl⟩) (by assumption) ?_
  try simp only [Act.put, List.getElem_toArray, List.getElem_cons_succ, List.getElem_cons_zero, List.setIfInBounds_toArray, List.set_cons_zero, List.set_cons_succ]
  refine wpAnyH_take (i := 11) (oi := _) (v := undef) rfl (by kernel_rfl) (by kernel_rfl) (by kernel_rfl) (fun _ _ _ h => h) (Or.inr ⟨by rfl, rfl⟩) (by assumption) ?_
  try simp only [Act.put, List.getElem_toArray, List.getElem_cons_succ, List.getElem_cons_zero, List.setIfInBounds_toArray, List.set_cons_zero, List.set_cons_succ]
  refine wpAnyH_take (i := 12) (oi := _) (v := undef) rfl (by kernel_rfl) (by kernel_rfl) (by kernel_rfl) (fun _ _ _ h => h) (Or.inr ⟨by rfl, rfl⟩) (by assumption) ?_
  try simp only [Act.put, List.getElem_toArray, List.getElem_cons_succ, List.getElem_cons_zero, List.setIfInBounds_toArray, List.set_cons_zero, List.set_cons_succ]
  refine wpAnyH_take (i := 13) (oi := _) (v := undef) rfl (by kernel_rfl) (by kernel_rfl) (by kernel_rfl) (fun _ _ _ h => h) (Or.inr ⟨by rfl, rfl⟩) (by assumption) ?_
  try simp only [Act.put, List.getElem_toArray, List.getElem_cons_succ, List.getElem_cons_zero, List.setIfInBounds_toArray, List.set_cons_zero, List.set_cons_succ]
  refine wpAnyH_take (i := 14) (oi := _) (v := undef) rfl (by kernel_rfl) (by kernel_rfl) (by kernel_rfl) (fun _ _ _ h => h) (Or.inr ⟨by rfl, rfl⟩) (by assumption) ?_
  try simp only [Act.put, List.getElem_toArray, List.getElem_cons_succ, List.getElem_cons_zero, List.setIfInBounds_toArray, List.set_cons_zero, List.set_cons_succ]
  refine wpAnyH_take (i := 15) (oi := _) (v := undef) rfl (by kernel_rfl) (by kernel_rfl) (by kernel_rfl) (fun _ _ _ h => h) (Or.inr ⟨by rfl, rfl⟩) (by assumption) ?_
  try simp only [Act.put, List.getElem_toArray, List.getElem_cons_succ, List.getElem_cons_zero, List.setIfInBounds_toArray, List.set_cons_zero, List.set_cons_succ]
  refine wpAnyH_take (i := 16) (oi := _) (v := undef) rfl (by kernel_rfl) (by kernel_rfl) (by kernel_rfl) (fun _ _ _ h => h) (Or.inr ⟨by rfl, rfl⟩) (by assumption) ?_
  try simp only [Act.put, List.getElem_toArray, List.getElem_cons_succ, List.getElem_cons_zero, List.setIfInBounds_toArray, List.set_cons_zero, List.set_cons_succ]
  refine wpAnyH_take (i := 17) (oi := _) (v := undef) rfl (by kernel_rfl) (by kernel_rfl) (by kernel_rfl) (fun _ _ _ h => h) (Or.inr ⟨by rfl, rfl⟩) (by assumption) ?_
  try simp only [Act.put, List.getElem_toArray, List.getElem_cons_succ, List.getElem_cons_zero, List.setIfInBounds_toArray, List.set_cons_zero, List.set_cons_succ]
  refine wpAnyH_take (i := 18) (oi := _) (v := undef) rfl (by kernel_rfl) (by kernel_rfl) (by kernel_rfl) (fun _ _ _ h => h) (Or.inr ⟨by rfl, rfl⟩) (by assumption) ?_
  try simp only [Act.put, List.getElem_toArray, List.getElem_cons_succ, List.getElem_cons_zero, List.setIfInBounds_toArray, List.set_cons_zero, List.set_cons_succ]
  refine wpAnyH_take (i := 19) (oi := _) (v := undef) rfl (by kernel_rfl) (by kernel_rfl) (by kernel_rfl) (fun _ _ _ h => h) (Or.inr ⟨by rfl, rfl⟩) (by assumption) ?_
  try simp only [Act.put, List.getElem_toArray, List.getElem_cons_succ, List.getElem_cons_zero, List.setIfInBounds_toArray, List.set_cons_zero, List.set_cons_succ]
  refine wpAnyH_take (i := 20) (oi := _) (v := undef) rfl (by kernel_rfl) (by kernel_rfl) (by kernel_rfl) (fun _ _ _ h => h) (Or.inr ⟨by rfl, rfl⟩) (by assumption) ?_
  try simp only [Act.put, List.getElem_toArray, List.getElem_cons_succ, List.getElem_cons_zero, List.setIfInBounds_toArray, List.set_cons_zero, List.set_cons_succ]
  refine wpAnyH_take (i := 21) (oi := _) (v := undef) rfl (by kernel_rfl) (by kernel_rfl) (by kernel_rfl) (fun _ _ _ h => h) (Or.inr ⟨by rfl, rfl⟩) (by assumption) ?_
  try simp only [Act.put, List.getElem_toArray, List.getElem_cons_succ, List.getElem_cons_zero, List.setIfInBounds_toArray, List.set_cons_zero, List.set_cons_succ]
  refine wpAnyH_take (i := 22) (oi := _) (v := undef) rfl (by kernel_rfl) (by kernel_rfl) (by kernel_rfl) (fun _ _ _ h => h) (Or.inr ⟨by rfl, rfl⟩) (by assumption) ?_
  try simp only [Act.put, List.getElem_toArray, List.getElem_cons_succ, List.getElem_cons_zero, List.setIfInBounds_toArray, List.set_cons_zero, List.set_cons_succ]
  refine wpAnyH_take (i := 23) (oi := _) (v := undef) rfl (by kernel_rfl) (by kernel_rfl) (by kernel_rfl) (fun _ _ _ h => h) (Or.inr ⟨by rfl, rfl⟩) (by assumption) ?_
  try simp only [Act.put, List.getElem_toArray, List.getElem_cons_succ, List.getElem_cons_zero, List.setIfInBounds_toArray, List.set_cons_zero, List.set_cons_succ]
  refine wpAnyH_take (i := 24) (oi := _) (v := undef) rfl (by kernel_rfl) (by kernel_rfl) (by kernel_rfl) (fun _ _ _ h => h) (Or.inr ⟨by rfl, rfl⟩) (by assumption) ?_
  try simp only [Act.put, List.getElem_toArray, List.getElem_cons_succ, List.getElem_cons_zero, List.setIfInBounds_toArray, List.set_cons_zero, List.set_cons_succ]
  refine wpAnyH_take (i := 25) (oi := _) (v := undef) rfl (by kernel_rfl) (by kernel_rfl) (by kernel_rfl) (fun _ _ _ h => h) (Or.inr ⟨by rfl, rfl⟩) (by assumption) ?_
  try simp only [Act.put, List.getElem_toArray, List.getElem_cons_succ, List.getElem_cons_zero, List.setIfInBounds_toArray, List.set_cons_zero, List.set_cons_succ]
  refine wpAnyH_take (i := 26) (oi := _) (v := ?_) rfl (by kernel_rfl) (by kernel_rfl) (by kernel_rfl) (fun _ _ _ h => h) (Or.inl ⟨by rfl, ?_⟩) (by assumption) ?_
  rotate_left
  · (intro w hSw; obtain ⟨s0, s1, s2, s3, s4, s5⟩ := hSw; go_simp; (try with_reducible rfl))
  try simp only [Act.put, List.getElem_toArray, List.getElem_cons_succ, List.getElem_cons_zero, List.setIfInBounds_toArray, List.set_cons_zero, List.set_cons_succ]
  refine wpAnyH_take (i := 27) (oi := _) (v := ?_) rfl (by kernel_rfl) (by kernel_rfl) (by kernel_rfl) (fun _ _ _ h => h) (Or.inl ⟨by rfl, ?_⟩) (by assumption) ?_
  rotate_left
  · (intro w hSw; obtain ⟨s0, s1, s2, s3, s4, s5⟩ := hSw; go_simp; (try with_reducible rfl))
  try simp only [Act.put, List.getElem_toArray, List.getElem_cons_succ, List.getElem_cons_zero, List.setIfInBounds_toArray, List.set_cons_zero, List.set_cons_succ]
  refine wpAnyH_take (i := 28) (oi := _) (v := ?_) rfl (by kernel_rfl) (by kernel_rfl) (by kernel_rfl) (fun _ _ _ h => h) (Or.inl ⟨by rfl, ?_⟩) (by assumption) ?_
  rotate_left
  · (intro w hSw; obtain ⟨s0, s1, s2, s3, s4, s5⟩ := hSw; go_simp; (try with_reducible rfl))
  try simp only [Act.put, List.getElem_toArray, List.getElem_cons_succ, List.getElem_cons_zero, List.setIfInBounds_toArray, List.set_cons_zero, List.set_cons_succ]
  refine wpAnyH_take (i := 29) (oi := _) (v := ?_) rfl (by kernel_rfl) (by kernel_rfl) (by kernel_rfl) (fun _ _ _ h => h) (Or.inl ⟨by rfl, ?_⟩) (by assumption) ?_
  rotate_left
  · (intro w hSw; obtain ⟨s0, s1, s2, s3, s4, s5⟩ := hSw; go_simp; (try with_reducible rfl))
  try simp only [Act.put, List.getElem_toArray, List.getElem_cons_succ, List.getElem_cons_zero, List.setIfInBounds_toArray, List.set_cons_zero, List.set_cons_succ]
  refine wpAnyH_take (i := 30) (oi := _) (v := ?_) rfl (by kernel_rfl) (by kernel_rfl) (by kernel_rfl) (fun _ _ _ h => h) (Or.inl ⟨by rfl, ?_⟩) (by assumption) ?_
  rotate_left
  · (intro w hSw; obtain ⟨s0, s1, s2, s3, s4, s5⟩ := hSw; go_simp; (try with_reducible rfl))
  try simp only [Act.put, List.getElem_toArray, List.getElem_cons_succ, List.getElem_cons_zero, List.setIfInBounds_toArray, List.set_cons_zero, List.set_cons_succ]
  refine wpAnyH_take (i := 31) (oi := _) (v := ?_) rfl (by kernel_rfl) (by kernel_rfl) (by kernel_rfl) (fun _ _ _ h => h) (Or.inl ⟨by rfl, ?_⟩) (by assumption) ?_
  rotate_left
  · (intro w hSw; obtain ⟨s0, s1, s2, s3, s4, s5⟩ := hSw; go_simp; (try with_reducible rfl))
  try simp only [Act.put, List.getElem_toArray, List.getElem_cons_succ, List.getElem_cons_zero, List.setIfInBounds_toArray, List.set_cons_zero, List.set_cons_succ]
  refine wpAnyH_take (i := 32) (oi := _) (v := ?_) rfl (by kernel_rfl) (by kernel_rfl) (by kernel_rfl) (fun _ _ _ h => h) (Or.inl ⟨by rfl, ?_⟩) (by assumption) ?_
  rotate_left
  · (intro w hSw; obtain ⟨s0, s1, s2, s3, s4, s5⟩ := hSw; go_simp; (try with_reducible rfl))
  try simp only [Act.put, List.getElem_toArray, List.getElem_cons_succ, List.getElem_cons_zero, List.setIfInBounds_toArray, List.set_cons_zero, List.set_cons_succ]
  refine wpAnyH_take (i := 33) (oi := _) (v := ?_) rfl (by kernel_rfl) (by kernel_rfl) (by kernel_rfl) (fun _ _ _ h => h) (Or.inl ⟨by rfl, ?_⟩) (by assumption) ?_
  rotate_left
  · (intro w hSw; obtain ⟨s0, s1, s2, s3, s4, s5⟩ := hSw; go_simp; (try with_reducible rfl))
  try simp only [Act.put, List.getElem_toArray, List.getElem_cons_succ, List.getElem_cons_zero, List.setIfInBounds_toArray, List.set_cons_zero, List.set_cons_succ]
  refine wpAnyH_take (i := 34) (oi := _) (v := ?_) rfl (by kernel_rfl) (by kernel_rfl) (by kernel_rfl) (fun _ _ _ h => h) (Or.inl ⟨by rfl, ?_⟩) (by assumption) ?_
  rotate_left
  · (intro w hSw; obtain ⟨s0, s1, s2, s3, s4, s5⟩ := hSw; go_simp; (try with_reducible rfl))
  try simp only [Act.put, List.getElem_toArray, List.getElem_cons_succ, List.getElem_cons_zero, List.setIfInBounds_toArray, List.set_cons_zero, List.set_cons_succ]
  refine wpAnyH_take (i := 35) (oi := _) (v := ?_) rfl (by kernel_rfl) (by kernel_rfl) (by kernel_rfl) (fun _ _ _ h => h) (Or.inl ⟨by rfl, ?_⟩) (by assumption) ?_
  rotate_left
  · (intro w hSw; obtain ⟨s0, s1, s2, s3, s4, s5⟩ := hSw; go_simp; (try with_reducible rfl))
  try simp only [Act.put, List.getElem_toArray, List.getElem_cons_succ, List.getElem_cons_zero, List.setIfInBounds_toArray, List.set_cons_zero, List.set_cons_succ]
  refine wpAnyH_take (i := 36) (oi := _) (v := ?_) rfl (by kernel_rfl) (by kernel_rfl) (by kernel_rfl) (fun _ _ _ h => h) (Or.inl ⟨by rfl, ?_⟩) (by assumption) ?_
  rotate_left
  · (intro w hSw; obtain ⟨s0, s1, s2, s3, s4, s5⟩ := hSw; go_simp; (try with_reducible rfl))
  try simp only [Act.put, List.getElem_toArray, List.getElem_cons_succ, List.getElem_cons_zero, List.setIfInBounds_toArray, List.set_cons_zero, List.set_cons_succ]
  refine wpAnyH_take (i := 37) (oi := _) (v := ?_) rfl (by kernel_rfl) (by kernel_rfl) (by kernel_rfl) (fun _ _ _ h => h) (Or.inl ⟨by rfl, ?_⟩) (by assumption) ?_
  rotate_left
  · (intro w hSw; obtain ⟨s0, s1, s2, s3, s4, s5⟩ := hSw; go_simp; (try with_reducible rfl))
  try simp only [Act.put, List.getElem_toArray, List.getElem_cons_succ, List.getElem_cons_zero, List.setIfInBounds_toArray, List.set_cons_zero, List.set_cons_succ]
  refine wpAnyH_take (i := 38) (oi := _) (v := ?_) rfl (by kernel_rfl) (by kernel_rfl) (by kernel_rfl) (fun _ _ _ h => h) (Or.inl ⟨by rfl, ?_⟩) (by assumption) ?_
  rotate_left
  · (intro w hSw; obtain ⟨s0, s1, s2, s3, s4, s5⟩ := hSw; go_simp; (try with_reducible rfl))
  try simp only [Act.put, List.getElem_toArray, List.getElem_cons_succ, List.getElem_cons_zero, List.setIfInBounds_toArray, List.set_cons_zero, List.set_cons_succ]
  refine wpAnyH_take (i := 39) (oi := _) (v := ?_) rfl (by kernel_rfl) (by kernel_rfl) (by kernel_rfl) (fun _ _ _ h => h) (Or.inl ⟨by rfl, ?_⟩) (by assumption) ?_
  rotate_left
  · (intro w hSw; obtain ⟨s0, s1, s2, s3, s4, s5⟩ := hSw; go_simp; (try with_reducible rfl))
  try simp only [Act.put, List.getElem_toArray, List.getElem_cons_succ, List.getElem_cons_zero, List.setIfInBounds_toArray, List.set_cons_zero, List.set_cons_succ]
  refine wpAnyH_take (i := 40) (oi := _) (v := ?_) rfl (by kernel_rfl) (by kernel_rfl) (by kernel_rfl) (fun _ _ _ h => h) (Or.inl ⟨by rfl, ?_⟩) (by assumption) ?_
  rotate_left
  · (intro w hSw; obtain ⟨s0, s1, s2, s3, s4, s5⟩ := hSw; go_simp; (try with_reducible rfl))
  try simp only [Act.put, List.getElem_toArray, List.getElem_cons_succ, List.getElem_cons_zero, List.setIfInBounds_toArray, List.set_cons_zero, List.set_cons_succ]
  refine wpAnyH_take (i := 41) (oi := _) (v := ?_) rfl (by kernel_rfl) (by kernel_rfl) (by kernel_rfl) (fun _ _ _ h => h) (Or.inl ⟨by rfl, ?_⟩) (by assumption) ?_
  rotate_left
  · (intro w hSw; obtain ⟨s0, s1, s2, s3, s4, s5⟩ := hSw; go_simp; (try with_reducible rfl))
  try simp only [Act.put, List.getElem_toArray, List.getElem_cons_succ, List.getElem_cons_zero, List.setIfInBounds_toArray, List.set_cons_zero, List.set_cons_succ]
  refine wpAnyH_take (i := 42) (oi := _) (v := ?_) rfl (by kernel_rfl) (by kernel_rfl) (by kernel_rfl) (fun _ _ _ h => h) (Or.inl ⟨by rfl, ?_⟩) (by assumption) ?_
  rotate_left
  · (intro w hSw; obtain ⟨s0, s1, s2, s3, s4, s5⟩ := hSw; go_simp; (try with_reducible rfl))
  try simp only [Act.put, List.getElem_toArray, List.getElem_cons_succ, List.getElem_cons_zero, List.setIfInBounds_toArray, List.set_cons_zero, List.set_cons_succ]
  refine wpAnyH_ready (rs := [43]) (by kernel_rfl) (by simp) ?_
  refine AllReadyH.cons (o := _) rfl (fun K hK => ?_) (AllReadyH.nil)
  (go_simp)
  go_at_call 26
  refine (HRS.out _ HU.out).mono ?_
  rintro r w7 ⟨rfl, HBx⟩
  have HU := Lib.hid (HU.out.trans (HBx.out.mono HU.out.size))
  clear HBx
  dsimp only
  refine hK.out _ _ (HSS.out _ HU.out) (fun hHeld => ?_)
  clear hK K
  try simp only [Act.put, List.getElem_toArray, List.getElem_cons_succ, List.getElem_cons_zero, List.setIfInBounds_toArray, List.set_cons_zero, List.set_cons_succ]
  refine wpAnyH_take (i := 44) (oi := _) (v := ?_) rfl (by kernel_rfl) (by kernel_rfl) (by kernel_rfl) (fun _ _ _ h => h) (Or.inl ⟨by rfl, ?_⟩) (by assumption) ?_
  rotate_left
  · (intro w hSw; obtain ⟨s0, s1, s2, s3, s4, s5⟩ := hSw; go_simp; (try with_reducible rfl))
  try simp only [Act.put, List.getElem_toArray, List.getElem_cons_succ, List.getElem_cons_zero, List.setIfInBounds_toArray, List.set_cons_zero, List.set_cons_succ]
  refine wpAnyH_take (i := 45) (oi := _) (v := ?_) rfl (by kernel_rfl) (by kernel_rfl) (by kernel_rfl) (fun _ _ _ h => h) (Or.inl ⟨by rfl, ?_⟩) (by assumption) ?_
  rotate_left
  · (intro w hSw; obtain ⟨s0, s1, s2, s3, s4, s5⟩ := hSw; go_simp; (try with_reducible rfl))
  try simp only [Act.put, List.getElem_toArray, List.getElem_cons_succ, List.getElem_cons_zero, List.setIfInBounds_toArray, List.set_cons_zero, List.set_cons_succ]
  refine wpAnyH_take (i := 46) (oi := _) (v := ?_) rfl (by kernel_rfl) (by kernel_rfl) (by kernel_rfl) (fun _ _ _ h => h) (Or.inl ⟨by rfl, ?_⟩) (by assumption) ?_
  rotate_left
  · (intro w hSw; obtain ⟨s0, s1, s2, s3, s4, s5⟩ := hSw; go_simp; (try with_reducible rfl))
  try simp only [Act.put, List.getElem_toArray, List.getElem_cons_succ, List.getElem_cons_zero, List.setIfInBounds_toArray, List.set_cons_zero, List.set_cons_succ]
  refine wpAnyH_take (i := 47) (oi := _) (v := ?_) rfl (by kernel_rfl) (by kernel_rfl) (by kernel_rfl) (fun _ _ _ h => h) (Or.inl ⟨by rfl, ?_⟩) (by assumption) ?_
  rotate_left
  · (intro w hSw; obtain ⟨s0, s1, s2, s3, s4, s5⟩ := hSw; go_simp; (try with_reducible rfl))
  try simp only [Act.put, List.getElem_toArray, List.getElem_cons_succ, List.getElem_cons_zero, List.setIfInBounds_toArray, List.set_cons_zero, List.set_cons_succ]
  refine wpAnyH_done (by kernel_rfl) ?_ _
  refine NoPanic.normal ?_
  try simp only [List.getElem_toArray, List.getElem_cons_succ, List.getElem_cons_zero, List.setIfInBounds_toArray, List.set_cons_zero, List.set_cons_succ]
  clear hHeld
  obtain ⟨s0, s1, s2, s3, s4, s5⟩ := HSS.out _ HU.out
  rcases HGV.out with ⟨hvr, rfl, rfl, rfl, rfl⟩ | ⟨i, hi, hvi, rfl, rfl, rfl, rfl⟩
  · have hfm : IntKind.i64.wrap ((f : Int) + (m : Int)) = (f : Int) + (m : Int) := IntWalk.i64_in _ (by omega)
    by_cases hv0 : v < (f : Int)
    · clear hvr
      go_wp2_with (go_at_call 12; refine (HCN.out 2 _ (HUF.out _ HU.out)).mono ?_; rintro e w8 ⟨rfl, HBx⟩; have HU := Lib.hid (HU.out.trans (HBx.out.mono HU.out.size)); clear HBx)
      go_ret
      exact ⟨rfl, Lib.hid (HUF.out _ HU.out)⟩
    · have hv1 : (f : Int) + (m : Int) ≤ v := by omega
      clear hvr
      go_wp2_with (go_at_call 12; refine (HCN.out 2 _ (HUF.out _ HU.out)).mono ?_; rintro e w8 ⟨rfl, HBx⟩; have HU := Lib.hid (HU.out.trans (HBx.out.mono HU.out.size)); clear HBx)
      go_ret
      exact ⟨rfl, Lib.hid (HUF.out _ HU.out)⟩
  · have hfm : IntKind.i64.wrap ((f : Int) + (m : Int)) = (f : Int) + (m : Int) := IntWalk.i64_in _ (by omega)
    have hwi : IntKind.i64.wrap (v - (f : Int)) = (i : Int) := by rw [IntWalk.i64_in _ (by omega)]; omega
    have hv0 : ¬ v < (f : Int) := by omega
    have hv1 : ¬ (f : Int) + (m : Int) ≤ v := by omega
    have hi0 : (0 : Int) ≤ (i : Int) := by omega
    have hi1 : (i : Int) < (m : Int) := by omega
    obtain ⟨rv, ro, rt, rg, hA, -, -, d1, d2, -⟩ := rr_row (HZL.out.later HU.out) (k := i) (by rw [HM.out]; exact hi)
    subst hA
    obtain ⟨q, hq⟩ : ∃ q, LL.getD i [] = q := ⟨_, rfl⟩
    rw [hq] at d2 HTW
    have HD2 := Lib.hid d2
    obtain ⟨uA, uc, uo, rfl, -⟩ := id d2
    have HJ : Hid (∀ X, Below W6.heap.size W6 X → JR X tg (.slice tA tn tc) q) := Lib.hid (fun X h => HTW.out.later h)
    obtain ⟨un, hun⟩ : ∃ un, q.length = un := ⟨_, rfl⟩
    rw [hun] at d1 HD2
    have HI : Hid (∀ X, Below W6.heap.size W6 X → JR X rg (.slice uA un uc) q → Calls Tryz.prog 24 #[.slice tA tn tc, .slice uA un uc] X fun e w' => e = .returned (.bool true) ∧ Hid (Below X.heap.size X w')) := Lib.hid (fun X h h2 => (ints_b tg rg _ _ q q X (HJ.out X h) h2).mono fun e w' ⟨he, hb⟩ => ⟨by rw [he]; simp, hb⟩)
    clear hq hun d2 hvi hi HGV
    go_wp2_with (go_at_call 24; refine (HI.out _ HU.out HD2.out).mono ?_; rintro e w8 ⟨rfl, HBx⟩; have HU := Lib.hid (HU.out.trans (HBx.out.mono HU.out.size)); clear HBx)
    go_ret
    exact ⟨rfl, Lib.hid (HUF.out _ HU.out)⟩
theorem row_cnt2 {bs : List UInt8} {N a : Nat} {v : Int} {q : List Int × Nat} (h : rdRow bs N a v = .ok q) : ∃ nx, rdCnt bs N a = .ok (q.1.length, nx) := by
  rw [rdRow_cnt] at h
  cases e : rdCnt bs N a with
  | error b => rw [e] at h; simp at h
  | ok r =>
    rw [e] at h
    have h1 := rdCnt_len e
    have h2 := rdSteps_len h1.2.1 h
    exact ⟨r.2, by rw [h2.2.2]⟩
theorem gets_row (s : ByteArray) (n v : Int) (w : World) (hG : Er.G0 w) (hs : s.size ≤ 140737488351232) (hn : (Lit.int .i64 n).wf = true) (hv : (Lit.int .i64 v).wf = true) :
    Calls Tryz.prog 5 #[.string s, .int .i64 n, .int .i64 v] w fun e w' => e = .returned (.bool true) ∧ Below w.heap.size w w' := by
  suffices H : Calls Tryz.prog 5 #[.string s, .int .i64 n, .int .i64 v] w fun e w' => e = .returned (.bool true) ∧ Hid (Below w.heap.size w w') from H.mono fun e w' h => ⟨h.1, h.2.out⟩
  by_cases h300 : 300 < s.size
  · exact gets_long s n v w h300
  have h300 : s.size ≤ 300 := by omega
  by_cases hnn : n < 0 ∨ n > 4096
  · exact gets_nodes s n v w hG h300 hnn
  obtain ⟨N, rfl⟩ := Int.eq_ofNat_of_zero_le (show 0 ≤ n by omega)
  have hN : N ≤ 4096 := by omega
  have hF := fun W => find_calls s N v (by omega) hN W
  have hD := fun W => sdegree_calls s N v (by omega) hN W
  unfold DG at hD
  cases hR : rdShard s.data.toList N with
  | error b =>
    have hb := rdShard_bad hR
    have key := gets_err s N v w hG h300 hN b hR (by omega)
    cases hS : rdSought s.data.toList N v with
    | error b2 =>
      rw [hS] at hD
      refine key (faultV (b2.2 : Int) (b2.1 : Int)) (faultV (b2.2 : Int) (b2.1 : Int)) 0 0 (fun W => (hF W).mono fun e w' h => ?_) hD (.inl ⟨_, _, rfl, rfl, .inl ⟨_, _, rfl, rfl⟩⟩)
      have h1 := h.1.out
      unfold FG at h1
      rw [hS] at h1
      exact ⟨none, 0, h1, h.2⟩
    | ok o =>
      cases o with
      | none =>
        rw [hS] at hD
        refine key (noV 2) (noV 2) 0 0 (fun W => (hF W).mono fun e w' h => ?_) hD (.inl ⟨_, _, rfl, rfl, .inl ⟨_, _, rfl, rfl⟩⟩)
        have h1 := h.1.out
        unfold FG at h1
        rw [hS] at h1
        exact ⟨none, 0, h1, h.2⟩
      | some a =>
        rw [hS] at hD
        simp only at hD
        cases hq : rdRow s.data.toList N a v with
        | error b3 =>
          have hF2 : ∀ W, Calls Tryz.prog 21 #[.string s, .int .i64 (N : Int), .int .i64 v] W fun e w' => ∃ A c, e = .returned (.tuple #[.slice A 0 c, faultV (b3.2 : Int) (b3.1 : Int)]) ∧ Hid (Below W.heap.size W w') := fun W => (hF W).mono fun e w' h => by
            have h1 := h.1.out
            unfold FG at h1
            rw [hS] at h1
            simp only at h1
            rw [hq] at h1
            exact ⟨none, 0, h1, h.2⟩
          cases hc : rdCnt s.data.toList N a with
          | error b4 =>
            rw [hc] at hD
            exact key _ _ 0 0 hF2 hD (.inl ⟨_, _, rfl, rfl, .inl ⟨_, _, rfl, rfl⟩⟩)
          | ok r =>
            rw [hc] at hD
            exact key _ _ 0 _ hF2 hD (.inl ⟨_, _, rfl, rfl, .inr rfl⟩)
        | ok q =>
          obtain ⟨nx, hc⟩ := row_cnt2 hq
          rw [hc] at hD
          refine key .nilIface .nilIface q.1.length (q.1.length : Int) (fun W => (hF W).mono fun e w' h => ?_) hD (.inr ⟨rfl, rfl, rfl⟩)
          have h1 := h.1.out
          unfold FG at h1
          rw [hS] at h1
          simp only at h1
          rw [hq] at h1
          obtain ⟨u, h1, h2⟩ := h1
          obtain ⟨g, h3, -⟩ := h2.reads
          obtain ⟨A, c, o, rfl, -⟩ := h3
          exact ⟨A, c, h1, h.2⟩
  | ok x =>
    obtain ⟨f, LL⟩ := x
    have bv : -9223372036854775808 ≤ v ∧ v ≤ 9223372036854775807 := by have := bounds_i64 hv; omega
    by_cases hvr : v < (f : Int) ∨ v ≥ (f : Int) + (LL.length : Int)
    · have hS := sought_none hR v hvr
      rw [hS] at hD
      refine gets_ok s N v w hG h300 hN f LL hR bv (noV 2) (noV 2) 0 [] 0 (fun W => (hF W).mono fun e w' h => ?_) hD (.inl ⟨hvr, rfl, rfl, rfl, rfl⟩)
      have h1 := h.1.out
      unfold FG at h1
      rw [hS] at h1
      exact ⟨none, 0, 0, h1, Lib.hid ⟨none, 0, 0, rfl, Nat.le_refl _, by omega, fun h => by simp at h⟩, h.2⟩
    · obtain ⟨i, hi⟩ := Int.eq_ofNat_of_zero_le (show 0 ≤ v - (f : Int) by omega)
      have hv2 : v = (f : Int) + (i : Nat) := by omega
      have hil : i < LL.length := by omega
      obtain ⟨a, nx, -, hS, hq⟩ := sought_ok hR i hil
      rw [← hv2] at hS hq
      rw [hS] at hD
      obtain ⟨nx2, hc⟩ := row_cnt2 hq
      simp only at hD
      rw [hc] at hD
      refine gets_ok s N v w hG h300 hN f LL hR bv .nilIface .nilIface (LL.getD i []).length (LL.getD i []) ((LL.getD i []).length : Int) (fun W => (hF W).mono fun e w' h => ?_) hD (.inr ⟨i, hil, hv2, rfl, rfl, rfl, rfl⟩)
      have h1 := h.1.out
      unfold FG at h1
      rw [hS] at h1
      simp only at h1
      rw [hq] at h1
      obtain ⟨u, h1, h2⟩ := h1
      obtain ⟨g, h3, -⟩ := h2.reads
      obtain ⟨A, c, o, rfl, h4⟩ := id h3
      exact ⟨A, c, g, h1, Lib.hid h3, h.2⟩
end Go.Proofs.YtjokfllldcjheaaGreatDoor.Oc
