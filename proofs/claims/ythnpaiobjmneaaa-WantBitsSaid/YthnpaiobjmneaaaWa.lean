/- The reference's Ints; the example of layer 17. -/
import Derived.Test.YthnpaiobjmneaaaWv
namespace Go.Proofs.Ythnpaiobjmneaaa.Wa
open Go.RowKit Go.Maps
set_option linter.unusedVariables false
set_option linter.unusedSimpArgs false

/-- the first k of both are one -/
def samI (a b : List Int) (k : Nat) : Prop := ∀ j, j < k → a.getD j 0 = b.getD j 0
theorem samI_all {a b : List Int} (hl : a.length = b.length) (h : samI a b a.length) : a = b := by
  apply List.ext_getElem hl
  intro j h1 h2
  have := h j h1
  simpa [List.getD_eq_getElem?_getD, h1, h2] using this
theorem JR.drewN {w : World} {g : Nat} {v : Value} {l : List Int} (h : JR w g v l) (n : Nat) : JR (w.drewN n) g v l := h
set_option maxHeartbeats 2000000 in
set_option maxRecDepth 100000 in
theorem ints_calls (g1 g2 : Nat) (v1 v2 : Value) (a b : List Int) (w : World) (h1 : JR w g1 v1 a) (h2 : JR w g2 v2 b) :
    Calls Try.prog 28 #[v1, v2] w fun e w' => e = .returned (.bool (decide (a = b))) ∧ ∃ q, w' = w.drewN q := by
  obtain ⟨A1, c1, o1, rfl, hc1, hm1, hr1⟩ := h1
  obtain ⟨A2, c2, o2, rfl, hc2, hm2, hr2⟩ := h2
  obtain ⟨n, hn⟩ : ∃ n, a.length = n := ⟨_, rfl⟩
  obtain ⟨m, hm⟩ : ∃ m, b.length = m := ⟨_, rfl⟩
  rw [hn] at hc1 hr1 ⊢
  rw [hm] at hc2 hr2 ⊢
  by_cases hnm : n = m
  case neg =>
    have hd : decide (a = b) = false := decide_eq_false (fun e => hnm (by rw [← hn, ← hm, e]))
    have hb : ((n : Int) != (m : Int)) = true := by rw [bne_iff_ne]; omega
    rw [hd]
    clear hd hn hm hnm hr1 hr2
    go_enter Try.func28, Try.ntmps28
    go_wp2
    go_ret
    exact ⟨rfl, 0, rfl⟩
  case pos =>
    subst hnm
    have HN := Lib.hid hn
    have HM := Lib.hid hm
    have H1 := Lib.hid hr1
    have H2 := Lib.hid hr2
    obtain ⟨r, hr⟩ : ∃ r, decide (a = b) = r := ⟨_, rfl⟩
    rw [hr]
    have HR := Lib.hid hr
    clear hn hm hr1 hr2 hr
    have hb : ((n : Int) != (n : Int)) = false := by simp
    go_enter Try.func28, Try.ntmps28
    go_wp2
    go_loopw [5] (fun i wr => ∃ (k q : Nat), i = .int .i64 (k : Int) ∧ k ≤ n ∧ Hid (samI a b k) ∧ wr = w.drewN q) (fun i _ => n - (intOf i).toNat)
    case atStart => exact ⟨0, 0, rfl, by omega, Lib.hid (fun j hj => by omega), rfl⟩
    case round =>
      obtain ⟨k, q, rfl, hk, HS, rfl⟩ := hrel
      by_cases hlt : k < n
      · obtain ⟨rfl, -, hq1⟩ := H1.out (by omega)
        obtain ⟨rfl, -, hq2⟩ := H2.out (by omega)
        have q1 := hq1 k hlt
        have q2 := hq2 k hlt
        clear hq1 hq2
        obtain ⟨x, hx⟩ : ∃ x, a.getD k 0 = x := ⟨_, rfl⟩
        obtain ⟨y, hy⟩ : ∃ y, b.getD k 0 = y := ⟨_, rfl⟩
        rw [hx] at q1
        rw [hy] at q2
        have HX := Lib.hid hx
        have HY := Lib.hid hy
        clear hx hy
        have i0 : (0 : Int) ≤ (k : Int) := by omega
        have i1 : (k : Int) < (n : Int) := by omega
        by_cases hxy : x = y
        · have hxx : (x != y) = false := by simp [hxy]
          have HXY := Lib.hid hxy
          clear hxy
          go_upto_region 6 with (fail)
          go_quiet (fail)
          go_wp2
          go_roundw
          case rel => exact ⟨k + 1, q + nq, by go_num, by omega, Lib.hid (fun j hj => by
            by_cases e : j = k
            · subst e; rw [HX.out, HY.out]; exact HXY.out
            · exact HS.out j (by omega)), rfl⟩
          case measure => simp [intOf]; omega
        · have hxx : (x != y) = true := by simpa using hxy
          have hd : r = false := by rw [← HR.out]; exact decide_eq_false (fun e => hxy (by rw [← HX.out, ← HY.out, e]))
          subst hd
          clear hxy
          go_upto_region 6 with (fail)
          go_quiet (fail)
          go_wp2
          go_ret
          exact ⟨rfl, q + nq, rfl⟩
      · obtain rfl : k = n := by omega
        have hd : r = true := by rw [← HR.out]; exact decide_eq_true (samI_all (by rw [HN.out, HM.out]) (by rw [HN.out]; exact HS.out))
        subst hd
        clear hlt
        go_wp2
        go_ret
        exact ⟨rfl, q, rfl⟩
theorem JR.of_oj {w : World} {base : Nat} {v : Value} {zs : List Int} (h : OJ w base v zs) : ∃ g, JR w g v zs := by obtain ⟨g, h, _⟩ := h.reads; exact ⟨g, h⟩
theorem Kp.below {mb ab B : Nat} {w0 w w' : World} (h : Below B w0 w) (hk : Kp mb ab w w') (hm : B ≤ mb) (ha : B ≤ ab) (hB : B ≤ w.heap.size) : Below B w0 w' :=
  ⟨hk.os.trans h.os, hk.tape.trans h.tape, hk.output.trans h.output, Nat.le_trans h.size hk.size, fun i hi => (hk.block i (Nat.lt_of_lt_of_le hi hB) (by omega) (by omega)).trans (h.block i hi)⟩
theorem grown_kp {mb ab : Nat} {w w' : World} (hg : w.grownBy w' (some mb)) : Kp mb ab w w' := Kp.of_grown hg (.inl rfl)
/-- the state behind some calls, seen from a world in which nothing of it lay -/
structure St (w0 W : World) (p mb ab : Nat) (k t : Int) (M A : List Int) (T : Int → Int) : Prop where
  ws : WS W p mb ab k t M A T
  below : Below w0.heap.size w0 W
  pb : w0.heap.size ≤ p
  mb : w0.heap.size ≤ mb
  ab : w0.heap.size ≤ ab
section
variable {w0 W W' : World} {p mb ab : Nat} {k t : Int} {M A M' A' : List Int} {T T' : Int → Int}
theorem St.kp (h : St w0 W p mb ab k t M A T) (hw : WS W' p mb ab k t M' A' T') (hk : Kp mb ab W W') : St w0 W' p mb ab k t M' A' T' :=
  ⟨hw, hk.below h.below h.mb h.ab h.below.size, h.pb, h.mb, h.ab⟩
theorem St.later (h : St w0 W p mb ab k t M A T) (hb : Below W.heap.size W W') : St w0 W' p mb ab k t M A T :=
  ⟨h.ws.later hb, h.below.trans (hb.mono h.below.size), h.pb, h.mb, h.ab⟩
theorem St.drewN (h : St w0 W p mb ab k t M A T) (n : Nat) : St w0 (W.drewN n) p mb ab k t M A T := h.later (drewN_below _ _ _)
theorem St.alloc (h : St w0 W p mb ab k t M A T) (o : Obj) : St w0 (W.alloc o) p mb ab k t M A T := h.later ((Below.refl _ _).alloc (Nat.le_refl _) o)
end
theorem st_new (k t : Int) (g : Nat) (v : Value) (l : List Int) (w0 w : World) (hb : Below w0.heap.size w0 w) (hr : JR w g v l) (hk : 1 ≤ k ∧ k ≤ 64) (ht : 1 ≤ t ∧ t ≤ 1000) (hl : l.length ≤ 1000000) (hw : ∀ i ∈ l, wfI i) :
    Calls Try.prog 13 #[.int .i64 k, .int .i64 t, v] w fun e w' => ∃ p mb ab, e = .returned (.tuple #[.pointer (some ⟨p, 0, none⟩), Value.nilIface]) ∧ Hid (St w0 w' p mb ab k t (addF [] l) [] (fun _ => 0)) :=
  (new_calls k t g v l w hr hk ht hl hw).mono fun e w' ⟨p, mb, ab, he, h1, h2, h3, h4, h5⟩ => by
    have := hb.size
    exact ⟨p, mb, ab, he, Lib.hid ⟨h4, hb.trans (h5.mono hb.size), by omega, by omega, by omega⟩⟩
section
variable {w0 w : World} {p mb ab : Nat} {k t : Int} {M A : List Int} {T : Int → Int}
theorem st_add (h : St w0 w p mb ab k t M A T) (g : Nat) (v : Value) (l : List Int) (hr : JR w g v l) (hg : l = [] ∨ g ≠ mb) (hm : M.length ≤ 1000000) (hl : l.length ≤ 1000000) (hw : ∀ i ∈ l, wfI i) :
    Calls Try.prog 14 #[.pointer (some ⟨p, 0, none⟩), v] w fun e w' => e = .returned (.tuple #[]) ∧ Hid (St w0 w' p mb ab k t (addF M l) A T) :=
  (add_calls p mb ab k t M A T g v l w h.ws hr hg hm hl hw).mono fun e w' ⟨he, h1, h2⟩ => ⟨he, Lib.hid (h.kp h1 (grown_kp h2))⟩
/-- one number more -/
theorem st_add1 (h : St w0 w p mb ab k t M A T) (i : Int) (hi : 0 ≤ i) (hi2 : i ≤ 1048576) (hm : M.length ≤ 1000000) :
    Calls Try.prog 14 #[.pointer (some ⟨p, 0, none⟩), .slice (some ⟨w.heap.size, 0, none⟩) 1 1] (w.alloc (.cells #[.int .i64 i] 3)) fun e w' => e = .returned (.tuple #[]) ∧ Hid (St w0 w' p mb ab k t (ins i M) A T) := by
  have e : ins i M = addF M [i] := by simp [addF, hi, hi2]
  rw [e]
  refine st_add (h.alloc _) w.heap.size _ [i] (JR.lit w [i] _ (by rfl) 1 rfl (by simp)) (.inr ?_) hm (by simp) (fun j hj => ?_)
  · have := h.ws.bm.lt
    omega
  · rw [List.mem_singleton] at hj
    subst hj
    unfold wfI; omega
theorem st_next (h : St w0 w p mb ab k t M A T) (now : Int) (hm : M.length ≤ 1000000) (ha : A.length ≤ 1000000) (ht0 : 0 ≤ t) (ht1 : t ≤ 1000) :
    Calls Try.prog 15 #[.pointer (some ⟨p, 0, none⟩), .int .i64 now] w fun e w' => e = .returned (.tuple #[.int .i64 (nextF k t M A T now).2.2.1, .bool (nextF k t M A T now).2.2.2]) ∧ Hid (St w0 w' p mb ab k t M (nextF k t M A T now).1 (nextF k t M A T now).2.1) :=
  (next_calls p mb ab k t M A T now w h.ws hm ha ht0 ht1).mono fun e w' ⟨he, h1, h2⟩ => ⟨he, Lib.hid (h.kp h1 h2)⟩
theorem st_got (h : St w0 w p mb ab k t M A T) (i : Int) (hi : wfI i) :
    Calls Try.prog 19 #[.pointer (some ⟨p, 0, none⟩), .int .i64 i] w fun e w' => e = .returned (.bool (decide (i ∈ M))) ∧ Hid (St w0 w' p mb ab k t (del i M) (if i ∈ M then del i A else A) T) :=
  (got_calls p mb ab k t M A T i w h.ws hi).mono fun e w' ⟨he, h1, h2⟩ => ⟨he, Lib.hid (h.kp h1 h2)⟩
theorem st_over (h : St w0 w p mb ab k t M A T) (now : Int) (ha : A.length ≤ 1000000) :
    Calls Try.prog 16 #[.pointer (some ⟨p, 0, none⟩), .int .i64 now] w fun e w' => ∃ a c, e = .returned (.slice a (lateF T now A).length c) ∧ Hid (St w0 w' p mb ab k t M (restF T now A) T) ∧ Hid (∃ g, JR w' g (.slice a (lateF T now A).length c) (lateF T now A)) :=
  (over_calls p mb ab k t M A T now w h.ws ha).mono fun e w' ⟨v, he, h0, h1, h2⟩ => by
    obtain ⟨a, c, rfl, _⟩ := h0.shape
    exact ⟨a, c, he, Lib.hid (h.kp h1 h2), Lib.hid (JR.of_oj h0)⟩
theorem st_missing (h : St w0 w p mb ab k t M A T) (hm : M.length ≤ 1000000) :
    Calls Try.prog 18 #[.pointer (some ⟨p, 0, none⟩)] w fun e w' => ∃ a c, e = .returned (.slice a M.length c) ∧ Hid (St w0 w' p mb ab k t M A T) ∧ Hid (∃ g, JR w' g (.slice a M.length c) M) :=
  (missing_calls p mb ab k t M A T w h.ws (by omega)).mono fun e w' ⟨v, he, h0, _, hb⟩ => by
    obtain ⟨a, c, rfl, _⟩ := h0.shape
    exact ⟨a, c, he, Lib.hid (h.later hb), Lib.hid (JR.of_oj h0)⟩
theorem st_asked (h : St w0 w p mb ab k t M A T) (hm : A.length ≤ 1000000) :
    Calls Try.prog 17 #[.pointer (some ⟨p, 0, none⟩)] w fun e w' => ∃ a c, e = .returned (.slice a A.length c) ∧ Hid (St w0 w' p mb ab k t M A T) ∧ Hid (∃ g, JR w' g (.slice a A.length c) A ∧ (A ≠ [] → g ≠ mb ∧ g ≠ ab)) :=
  (asked_calls p mb ab k t M A T w h.ws (by omega)).mono fun e w' ⟨v, he, h0, _, hb⟩ => by
    obtain ⟨g, hg, hg2⟩ := h0.reads
    obtain ⟨a, c, rfl, _⟩ := h0.shape
    have l1 := h.ws.bm.lt
    have l2 := h.ws.im.lt
    exact ⟨a, c, he, Lib.hid (h.later hb), Lib.hid ⟨g, hg, fun e => by have := hg2 e; omega⟩⟩
end
end Go.Proofs.Ythnpaiobjmneaaa.Wa
