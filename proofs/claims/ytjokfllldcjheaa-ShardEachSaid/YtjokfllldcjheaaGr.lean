/- gap, walked: a row is read. -/
import Derived.Test.YtjokfllldcjheaaGw
import Derived.BigQuiet
import Derived.BigRegion
namespace Go.Proofs.Ytjokfllldcjheaa.Oc
open Go.RowKit Go.Proofs.Ytjokfllldcjheaa.Sha Go.Proofs.Ytjokfllldcjheaa.Ro
set_option linter.unusedVariables false
set_option linter.unusedSimpArgs false
/-- how many targets a row tells -/
def rdCnt (bs : List UInt8) (nodes a : Nat) : Except Bad (Nat × Nat) := match rdAt bs a with
  | .error e => .error e
  | .ok r => if r.1 > nodes then .error (4, a) else .ok r
theorem rdRow_cnt (bs : List UInt8) (nodes a : Nat) (v : Int) : rdRow bs nodes a v = match rdCnt bs nodes a with
    | .error e => .error e
    | .ok r => rdSteps bs nodes r.1 true v r.2 := by
  unfold rdRow rdCnt
  cases rdAt bs a with
  | error e => rfl
  | ok r => simp only; split <;> rfl
theorem rdCnt_len {bs : List UInt8} {nodes a : Nat} {r : Nat × Nat} (h : rdCnt bs nodes a = .ok r) : a < r.2 ∧ r.2 ≤ bs.length ∧ r.1 ≤ nodes := by
  unfold rdCnt at h
  cases e : rdAt bs a with
  | error b => rw [e] at h; simp at h
  | ok q =>
    rw [e] at h
    simp only at h
    split at h
    · simp at h
    · injection h with h
      subst h
      have := rdAt_len e
      omega
section
variable {s : ByteArray} {a : Nat} (h : a ≤ s.size) (hs : s.size ≤ 140737488355328)
theorem list_sz (s : ByteArray) : s.data.toList.length = s.size := by rw [Array.length_toList]; rfl
set_option maxHeartbeats 1000000 in
include h hs in
theorem count_calls (N : Nat) (hN : N ≤ 4096) (w : World) : Calls Try.prog 34 #[.string s, .int .i64 (a : Int), .int .i64 (N : Int)] w fun e w' => e = .returned (rdV a (rdCnt s.data.toList N a)) ∧ w = w' := by
  have HS := Lib.hid (Short_calls s a h hs w)
  unfold rdCnt
  cases hR : rdAt s.data.toList a with
  | error b =>
    rw [hR] at HS
    have HS' : Hid (Calls Try.prog 31 #[.string s, .int .i64 (a : Int)] w fun e w' => e = .returned (.tuple #[.int .i64 0, .int .i64 (a : Int), faultV (b.2 : Int) (b.1 : Int)]) ∧ w = w') := HS
    clear HS hR
    go_enter Try.func34, Try.ntmps34
    go_wp2_with (go_at_call 31; refine HS'.out.mono ?_; rintro e w1 ⟨rfl, rfl⟩)
    go_ret3
    exact ⟨rfl, rfl⟩
  | ok r =>
    rw [hR] at HS
    obtain ⟨x, nx⟩ := r
    have HS' : Hid (Calls Try.prog 31 #[.string s, .int .i64 (a : Int)] w fun e w' => e = .returned (.tuple #[.int .i64 (x : Int), .int .i64 (nx : Int), .nilIface]) ∧ w = w') := HS
    clear HS hR
    simp only
    by_cases hx : x > N
    · rw [if_pos hx]
      have b1 : (x : Int) > (N : Int) := by omega
      go_enter Try.func34, Try.ntmps34
      go_wp2_with (first
        | (go_at_call 31; refine HS'.out.mono ?_; rintro e w1 ⟨rfl, rfl⟩)
        | (go_at_call 33; refine (gwrong_calls _ _ _).mono ?_; rintro e w1 ⟨rfl, rfl⟩))
      go_ret3
      exact ⟨rfl, rfl⟩
    · rw [if_neg hx]
      have b1 : ¬ (x : Int) > (N : Int) := by omega
      go_enter Try.func34, Try.ntmps34
      go_wp2_with (go_at_call 31; refine HS'.out.mono ?_; rintro e w1 ⟨rfl, rfl⟩)
      go_ret3
      exact ⟨rfl, rfl⟩
set_option maxHeartbeats 1000000 in
include h hs in
theorem turned_bad {b : Bad} (hR : rdAt s.data.toList a = .error b) (w : World) : Calls Try.prog 50 #[.string s, .int .i64 (a : Int)] w fun e w' => e = .returned (.tuple #[.int .i64 0, .int .i64 (a : Int), faultV (b.2 : Int) (b.1 : Int)]) ∧ w = w' := by
  have HS := Lib.hid (Short_calls s a h hs w)
  rw [hR] at HS
  have HS' : Hid (Calls Try.prog 31 #[.string s, .int .i64 (a : Int)] w fun e w' => e = .returned (.tuple #[.int .i64 0, .int .i64 (a : Int), faultV (b.2 : Int) (b.1 : Int)]) ∧ w = w') := HS
  clear HS hR
  go_enter Try.func50, Try.ntmps50
  go_wp2_with (go_at_call 31; refine HS'.out.mono ?_; rintro e w1 ⟨rfl, rfl⟩)
  go_ret3
  exact ⟨rfl, rfl⟩
set_option maxHeartbeats 1000000 in
include h hs in
theorem turned_ok {x nx : Nat} (hR : rdAt s.data.toList a = .ok (x, nx)) (w : World) : Calls Try.prog 50 #[.string s, .int .i64 (a : Int)] w fun e w' => e = .returned (.tuple #[.int .i64 (back x), .int .i64 (nx : Int), .nilIface]) ∧ w = w' := by
  have HS := Lib.hid (Short_calls s a h hs w)
  rw [hR] at HS
  have HS' : Hid (Calls Try.prog 31 #[.string s, .int .i64 (a : Int)] w fun e w' => e = .returned (.tuple #[.int .i64 (x : Int), .int .i64 (nx : Int), .nilIface]) ∧ w = w') := HS
  have HB := Lib.hid (back_calls x (by have := (rdAt_len hR).2.2; simpa using this) w)
  generalize back x = y at HB ⊢
  clear HS hR
  go_enter Try.func50, Try.ntmps50
  go_wp2_with (first
    | (go_at_call 31; refine HS'.out.mono ?_; rintro e w1 ⟨rfl, rfl⟩)
    | (go_at_call 67; refine HB.out.mono ?_; rintro e w1 ⟨rfl, rfl⟩))
  go_ret3
  exact ⟨rfl, rfl⟩
end
/-- a reader, at block rb -/
def RD (w : World) (rb : Nat) (s : ByteArray) (a N : Nat) (now : Int) : Prop := w.heap[rb]? = some (.cells #[.string s, .int .i64 (a : Int), .int .i64 (N : Int), .int .i64 now] 81 (0, 0))
section
variable {w : World} {rb : Nat} {s : ByteArray} {a N : Nat} {now : Int}
theorem RD.lt (h : RD w rb s a N now) : rb < w.heap.size := (Array.getElem?_eq_some_iff.1 h).1
theorem RD.later {w' : World} (h : RD w rb s a N now) (hb : Below w.heap.size w w') : RD w' rb s a N now := (hb.block rb h.lt).trans h
theorem RD.cells (h : RD w rb s a N now) : w.cell? ⟨rb, 0, none⟩ = some (.string s) ∧ w.cell? ⟨rb, 1, none⟩ = some (.int .i64 (a : Int)) ∧ w.cell? ⟨rb, 2, none⟩ = some (.int .i64 (N : Int)) ∧ w.cell? ⟨rb, 3, none⟩ = some (.int .i64 now) :=
  ⟨cell_of_row w rb 0 _ _ _ h, cell_of_row w rb 1 _ _ _ h, cell_of_row w rb 2 _ _ _ h, cell_of_row w rb 3 _ _ _ h⟩
theorem RD.put (h : RD w rb s a N now) (a' : Nat) (now' : Int) : RD ((w.setCell ⟨rb, 3, none⟩ (.int .i64 now')).setCell ⟨rb, 1, none⟩ (.int .i64 (a' : Int))) rb s a' N now' ∧ w.grownBy ((w.setCell ⟨rb, 3, none⟩ (.int .i64 now')).setCell ⟨rb, 1, none⟩ (.int .i64 (a' : Int))) (some rb) := by
  have h1 : (w.setCell ⟨rb, 3, none⟩ (.int .i64 now')).heap[rb]? = some (.cells #[.string s, .int .i64 (a : Int), .int .i64 (N : Int), .int .i64 now'] 81 (0, 0)) := heap_setCell_same w rb 3 _ _ _ h
  have h2 : ((w.setCell ⟨rb, 3, none⟩ (.int .i64 now')).setCell ⟨rb, 1, none⟩ (.int .i64 (a' : Int))).heap[rb]? = some (.cells #[.string s, .int .i64 (a' : Int), .int .i64 (N : Int), .int .i64 now'] 81 (0, 0)) := heap_setCell_same _ rb 1 _ _ _ h1
  refine ⟨h2, rfl, rfl, rfl, by simp, fun j _ hj => ?_⟩
  have hne : rb ≠ j := fun e => hj (by rw [e])
  rw [heap_setCell_other _ ⟨rb, 1, none⟩ j _ (fun e => hne (by simpa using e.symm)), heap_setCell_other _ ⟨rb, 3, none⟩ j _ (fun e => hne (by simpa using e.symm))]
set_option maxHeartbeats 4000000 in
set_option maxRecDepth 100000 in
/-- the next target: an error -/
theorem step_bad (hr : RD w rb s a N now) (hs : s.size ≤ 140737488355328) (ha : a ≤ s.size) (first : Bool) {b : Bad} (hR : rdAt s.data.toList a = .error b) :
    Calls Try.prog 35 #[.pointer (some ⟨rb, 0, none⟩), .bool first] w fun e w' => e = .returned (faultV (b.2 : Int) (b.1 : Int)) ∧ Hid (Below w.heap.size w w') := by
  obtain ⟨c0, c1, c2, c3⟩ := hr.cells
  have HT : Hid (∀ n, Calls Try.prog 50 #[.string s, .int .i64 (a : Int)] (w.drewN n) fun e w' => e = .returned (.tuple #[.int .i64 0, .int .i64 (a : Int), faultV (b.2 : Int) (b.1 : Int)]) ∧ ∃ m, w' = w.drewN m) := Lib.hid (fun n => (turned_bad ha hs hR _).mono fun _ _ h => ⟨h.1, n, h.2.symm⟩)
  have HS : Hid (∀ n, Calls Try.prog 31 #[.string s, .int .i64 (a : Int)] (w.drewN n) fun e w' => e = .returned (.tuple #[.int .i64 0, .int .i64 (a : Int), faultV (b.2 : Int) (b.1 : Int)]) ∧ ∃ m, w' = w.drewN m) := Lib.hid (fun n => (Short_calls s a ha hs _).mono fun _ _ h => ⟨by rw [h.1, hR]; rfl, n, h.2.symm⟩)
  clear hr hR
  cases first
  · go_enter Try.func35, Try.ntmps35
    go_upto_region 2 with (fail)
    go_big_quiet (first | (go_at_call 31; exact HS.out _))
    have HB := Lib.hid (Ed.drewN_below w.heap.size w nq)
    go_wp2
    go_ret
    exact ⟨rfl, HB⟩
  · go_enter Try.func35, Try.ntmps35
    go_upto_region 5 with (fail)
    go_big_quiet (first | (go_at_call 50; exact HT.out _))
    have HB := Lib.hid (Ed.drewN_below w.heap.size w nq)
    go_wp2
    go_ret
    exact ⟨rfl, HB⟩
/-- what the next step would be, as the program reckons it -/
def stp (first : Bool) (x : Nat) : Value := .int .i64 (stepY first x)
set_option maxHeartbeats 4000000 in
set_option maxRecDepth 100000 in
/-- the next target lies outside -/
theorem step_far (hr : RD w rb s a N now) (hs : s.size ≤ 140737488355328) (ha : a ≤ s.size) (hN : N ≤ 4096) (hnow : 0 ≤ now ∧ now < (N : Int)) (first : Bool) {x nx : Nat} (hR : rdAt s.data.toList a = .ok (x, nx)) (hy : stepY first x < -now ∨ stepY first x ≥ (N : Int) - now) :
    Calls Try.prog 35 #[.pointer (some ⟨rb, 0, none⟩), .bool first] w fun e w' => e = .returned (faultV (a : Int) 4) ∧ Hid (Below w.heap.size w w') := by
  have HRD := Lib.hid hr
  obtain ⟨c0, c1, c2, c3⟩ := hr.cells
  have HT : Hid (∀ n, Calls Try.prog 50 #[.string s, .int .i64 (a : Int)] (w.drewN n) fun e w' => e = .returned (.tuple #[.int .i64 (back x), .int .i64 (nx : Int), .nilIface]) ∧ ∃ m, w' = w.drewN m) := Lib.hid (fun n => (turned_ok ha hs hR _).mono fun _ _ h => ⟨h.1, n, h.2.symm⟩)
  have HS : Hid (∀ n, Calls Try.prog 31 #[.string s, .int .i64 (a : Int)] (w.drewN n) fun e w' => e = .returned (.tuple #[.int .i64 (x : Int), .int .i64 (nx : Int), .nilIface]) ∧ ∃ m, w' = w.drewN m) := Lib.hid (fun n => (Short_calls s a ha hs _).mono fun _ _ h => ⟨by rw [h.1, hR]; rfl, n, h.2.symm⟩)
  have hxb : x < 72057594037927936 := by have := (rdAt_len hR).2.2; simpa using this
  have hbk : -36028797018963969 < back x ∧ back x < 36028797018963969 := by unfold back; split <;> omega
  have hneg : (0 : Int) - now = -now := by omega
  obtain ⟨hn0, hn1⟩ := hnow
  clear hr hR
  cases first
  · have hyy : (x : Int) + 1 < -now ∨ (x : Int) + 1 ≥ (N : Int) - now := hy
    have g1 : ¬ (x : Int) + 1 < -now := by omega
    have g2 : (x : Int) + 1 ≥ (N : Int) - now := by omega
    clear hy hyy hbk HT
    go_enter Try.func35, Try.ntmps35
    go_upto_region 2 with (fail)
    go_big_quiet (first | (go_at_call 31; exact HS.out _))
    have HB := Lib.hid (Ed.drewN_below w.heap.size w nq)
    obtain ⟨d0, d1, d2, d3⟩ := (HRD.out.later (Ed.drewN_below _ w nq)).cells
    clear c0 c1 c2 c3
    generalize w.drewN nq = W1 at HB d0 d1 d2 d3 ⊢
    go_upto_region 8 with (fail)
    go_big_quiet (fail)
    obtain ⟨k, hk⟩ : ∃ k, W1.drewN nq = k := ⟨_, rfl⟩
    have HB2 := Lib.hid (HB.out.trans ((Ed.drewN_below W1.heap.size W1 nq).mono HB.out.size))
    have e1 : (W1.drewN nq).cell? ⟨rb, 1, none⟩ = some (.int .i64 (a : Int)) := d1
    rw [hk] at HB2 e1 ⊢
    clear d0 d1 d2 d3 hk
    go_wp2_with (go_at_call 33; refine (gwrong_calls _ _ _).mono ?_; rintro e w1 ⟨rfl, rfl⟩)
    go_ret
    exact ⟨rfl, HB2⟩
  · obtain ⟨y, hyb⟩ : ∃ y, back x = y := ⟨_, rfl⟩
    have hyy : y < -now ∨ y ≥ (N : Int) - now := by rw [← hyb]; exact hy
    rw [hyb] at hbk HT
    clear hy hyb HS
    by_cases g1 : y < -now
    · go_enter Try.func35, Try.ntmps35
      go_upto_region 5 with (fail)
      go_big_quiet (first | (go_at_call 50; exact HT.out _))
      have HB := Lib.hid (Ed.drewN_below w.heap.size w nq)
      obtain ⟨d0, d1, d2, d3⟩ := (HRD.out.later (Ed.drewN_below _ w nq)).cells
      clear c0 c1 c2 c3
      generalize w.drewN nq = W1 at HB d0 d1 d2 d3 ⊢
      go_upto_region 8 with (fail)
      go_big_quiet (fail)
      obtain ⟨k, hk⟩ : ∃ k, W1.drewN nq = k := ⟨_, rfl⟩
      have HB2 := Lib.hid (HB.out.trans ((Ed.drewN_below W1.heap.size W1 nq).mono HB.out.size))
      have e1 : (W1.drewN nq).cell? ⟨rb, 1, none⟩ = some (.int .i64 (a : Int)) := d1
      rw [hk] at HB2 e1 ⊢
      clear d0 d1 d2 d3 hk
      go_wp2_with (go_at_call 33; refine (gwrong_calls _ _ _).mono ?_; rintro e w1 ⟨rfl, rfl⟩)
      go_ret
      exact ⟨rfl, HB2⟩
    · have g2 : y ≥ (N : Int) - now := by omega
      go_enter Try.func35, Try.ntmps35
      go_upto_region 5 with (fail)
      go_big_quiet (first | (go_at_call 50; exact HT.out _))
      have HB := Lib.hid (Ed.drewN_below w.heap.size w nq)
      obtain ⟨d0, d1, d2, d3⟩ := (HRD.out.later (Ed.drewN_below _ w nq)).cells
      clear c0 c1 c2 c3
      generalize w.drewN nq = W1 at HB d0 d1 d2 d3 ⊢
      go_upto_region 8 with (fail)
      go_big_quiet (fail)
      obtain ⟨k, hk⟩ : ∃ k, W1.drewN nq = k := ⟨_, rfl⟩
      have HB2 := Lib.hid (HB.out.trans ((Ed.drewN_below W1.heap.size W1 nq).mono HB.out.size))
      have e1 : (W1.drewN nq).cell? ⟨rb, 1, none⟩ = some (.int .i64 (a : Int)) := d1
      rw [hk] at HB2 e1 ⊢
      clear d0 d1 d2 d3 hk
      go_wp2_with (go_at_call 33; refine (gwrong_calls _ _ _).mono ?_; rintro e w1 ⟨rfl, rfl⟩)
      go_ret
      exact ⟨rfl, HB2⟩
set_option maxHeartbeats 4000000 in
set_option maxRecDepth 100000 in
/-- the next target -/
theorem step_ok (hr : RD w rb s a N now) (hs : s.size ≤ 140737488355328) (ha : a ≤ s.size) (hN : N ≤ 4096) (hnow : 0 ≤ now ∧ now < (N : Int)) (first : Bool) {x nx : Nat} (hR : rdAt s.data.toList a = .ok (x, nx)) (hy : ¬ (stepY first x < -now ∨ stepY first x ≥ (N : Int) - now)) :
    Calls Try.prog 35 #[.pointer (some ⟨rb, 0, none⟩), .bool first] w fun e w' => e = .returned .nilIface ∧ Hid (RD w' rb s nx N (now + stepY first x)) ∧ Hid (w.grownBy w' (some rb)) := by
  have HRD := Lib.hid hr
  obtain ⟨c0, c1, c2, c3⟩ := hr.cells
  have HT : Hid (∀ n, Calls Try.prog 50 #[.string s, .int .i64 (a : Int)] (w.drewN n) fun e w' => e = .returned (.tuple #[.int .i64 (back x), .int .i64 (nx : Int), .nilIface]) ∧ ∃ m, w' = w.drewN m) := Lib.hid (fun n => (turned_ok ha hs hR _).mono fun _ _ h => ⟨h.1, n, h.2.symm⟩)
  have HS : Hid (∀ n, Calls Try.prog 31 #[.string s, .int .i64 (a : Int)] (w.drewN n) fun e w' => e = .returned (.tuple #[.int .i64 (x : Int), .int .i64 (nx : Int), .nilIface]) ∧ ∃ m, w' = w.drewN m) := Lib.hid (fun n => (Short_calls s a ha hs _).mono fun _ _ h => ⟨by rw [h.1, hR]; rfl, n, h.2.symm⟩)
  have hxb : x < 72057594037927936 := by have := (rdAt_len hR).2.2; simpa using this
  have hneg : (0 : Int) - now = -now := by omega
  obtain ⟨hn0, hn1⟩ := hnow
  clear hr hR
  cases first
  · have hyy : ¬ ((x : Int) + 1 < -now ∨ (x : Int) + 1 ≥ (N : Int) - now) := hy
    have g1 : ¬ (x : Int) + 1 < -now := by omega
    have g2 : ¬ (x : Int) + 1 ≥ (N : Int) - now := by omega
    have es : stepY false x = (x : Int) + 1 := rfl
    rw [es]
    clear hy hyy HT es
    go_enter Try.func35, Try.ntmps35
    go_upto_region 2 with (fail)
    go_big_quiet (first | (go_at_call 31; exact HS.out _))
    have HB := Lib.hid (Ed.drewN_below w.heap.size w nq)
    have HR1 := Lib.hid (HRD.out.later (Ed.drewN_below _ w nq))
    obtain ⟨d0, d1, d2, d3⟩ := HR1.out.cells
    clear c0 c1 c2 c3
    generalize w.drewN nq = W1 at HB HR1 d0 d1 d2 d3 ⊢
    go_upto_region 8 with (fail)
    go_big_quiet (fail)
    obtain ⟨W2, hk⟩ : ∃ k, W1.drewN nq = k := ⟨_, rfl⟩
    have HB2 := Lib.hid (HB.out.trans ((Ed.drewN_below W1.heap.size W1 nq).mono HB.out.size))
    have HR2 : Hid (RD (W1.drewN nq) rb s a N now) := HR1
    rw [hk] at HB2 HR2 ⊢
    clear d0 d1 d2 d3 hk
    obtain ⟨e0, e1, e2, e3⟩ := HR2.out.cells
    have f3 : W2.frozen? ⟨rb, 3, none⟩ = false := frozen_of_row W2 rb 3 _ _ HR2.out
    have f1 : W2.frozen? ⟨rb, 1, none⟩ = false := frozen_of_row W2 rb 1 _ _ HR2.out
    have f1' : (W2.setCell ⟨rb, 3, none⟩ (.int .i64 (now + ((x : Int) + 1)))).frozen? ⟨rb, 1, none⟩ = false := frozen_of_row _ rb 1 _ _ (heap_setCell_same W2 rb 3 _ _ _ HR2.out)
    have HPU := Lib.hid (HR2.out.put nx (now + ((x : Int) + 1)))
    clear HR1
    go_wp2
    go_ret
    refine ⟨rfl, Lib.hid HPU.out.1, Lib.hid ?_⟩
    have g0 : w.grownBy W2 (some rb) := ⟨HB2.out.os, HB2.out.tape, HB2.out.output, HB2.out.size, fun i hi _ => HB2.out.block i hi⟩
    exact g0.trans HPU.out.2
  · obtain ⟨y, hyb⟩ : ∃ y, back x = y := ⟨_, rfl⟩
    have hyy : ¬ (y < -now ∨ y ≥ (N : Int) - now) := by rw [← hyb]; exact hy
    have es : stepY true x = y := hyb
    rw [hyb] at HT
    rw [es]
    have g1 : ¬ y < -now := by omega
    have g2 : ¬ y ≥ (N : Int) - now := by omega
    have g3 : y < 4096 := by omega
    have g4 : -4096 ≤ y := by omega
    clear hy hyy hyb HS es
    go_enter Try.func35, Try.ntmps35
    go_upto_region 5 with (fail)
    go_big_quiet (first | (go_at_call 50; exact HT.out _))
    have HB := Lib.hid (Ed.drewN_below w.heap.size w nq)
    have HR1 := Lib.hid (HRD.out.later (Ed.drewN_below _ w nq))
    obtain ⟨d0, d1, d2, d3⟩ := HR1.out.cells
    clear c0 c1 c2 c3
    generalize w.drewN nq = W1 at HB HR1 d0 d1 d2 d3 ⊢
    go_upto_region 8 with (fail)
    go_big_quiet (fail)
    obtain ⟨W2, hk⟩ : ∃ k, W1.drewN nq = k := ⟨_, rfl⟩
    have HB2 := Lib.hid (HB.out.trans ((Ed.drewN_below W1.heap.size W1 nq).mono HB.out.size))
    have HR2 : Hid (RD (W1.drewN nq) rb s a N now) := HR1
    rw [hk] at HB2 HR2 ⊢
    clear d0 d1 d2 d3 hk
    obtain ⟨e0, e1, e2, e3⟩ := HR2.out.cells
    have f3 : W2.frozen? ⟨rb, 3, none⟩ = false := frozen_of_row W2 rb 3 _ _ HR2.out
    have f1 : W2.frozen? ⟨rb, 1, none⟩ = false := frozen_of_row W2 rb 1 _ _ HR2.out
    have f1' : (W2.setCell ⟨rb, 3, none⟩ (.int .i64 (now + y))).frozen? ⟨rb, 1, none⟩ = false := frozen_of_row _ rb 1 _ _ (heap_setCell_same W2 rb 3 _ _ _ HR2.out)
    have HPU := Lib.hid (HR2.out.put nx (now + y))
    clear HR1
    go_wp2
    go_ret
    refine ⟨rfl, Lib.hid HPU.out.1, Lib.hid ?_⟩
    have g0 : w.grownBy W2 (some rb) := ⟨HB2.out.os, HB2.out.tape, HB2.out.output, HB2.out.size, fun i hi _ => HB2.out.block i hi⟩
    exact g0.trans HPU.out.2
end
end Go.Proofs.Ytjokfllldcjheaa.Oc
