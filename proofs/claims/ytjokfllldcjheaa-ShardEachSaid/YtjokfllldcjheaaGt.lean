/- gap, walked: Get. -/
import Derived.Test.YtjokfllldcjheaaGr
namespace Go.Proofs.Ytjokfllldcjheaa.Oc
open Go.RowKit Go.Proofs.Ytjokfllldcjheaa.Sha Go.Proofs.Ytjokfllldcjheaa.Ro
set_option linter.unusedVariables false
set_option linter.unusedSimpArgs false
theorem RD.kept {w w' : World} {rb : Nat} {s : ByteArray} {a N : Nat} {now : Int} (h : RD w rb s a N now) {row : Option Nat} (hg : w.grownBy w' row) (hr : some rb ≠ row) : RD w' rb s a N now := (hg.block rb h.lt hr).trans h
/-- what Get answers -/
def GG (R : Except Bad (List Int × Nat)) (a : Nat) (w w' : World) (e : Ending) : Prop := match R with
  | .error b => e = .returned (.tuple #[.slice none 0 0, .int .i64 (a : Int), faultV (b.2 : Int) (b.1 : Int)])
  | .ok q => ∃ u, e = .returned (.tuple #[u, .int .i64 (q.2 : Int), .nilIface]) ∧ OJ w' w.heap.size u q.1
/-- what is still to be read leads to R -/
def Lead (R : Except Bad (List Int × Nat)) (L : List Int) (S : Except Bad (List Int × Nat)) : Prop := match S with
  | .error b => R = .error b
  | .ok q => R = .ok (L ++ q.1, q.2)
theorem Lead.bad {R : Except Bad (List Int × Nat)} {L : List Int} {bs : List UInt8} {N k a : Nat} {first : Bool} {now : Int} {b : Bad} (h : Lead R L (rdSteps bs N (k + 1) first now a)) (hR : rdAt bs a = .error b) : R = .error b := by
  rw [rdSteps, hR] at h; exact h
theorem Lead.far {R : Except Bad (List Int × Nat)} {L : List Int} {bs : List UInt8} {N k a x nx : Nat} {first : Bool} {now : Int} (h : Lead R L (rdSteps bs N (k + 1) first now a)) (hR : rdAt bs a = .ok (x, nx)) (hy : stepY first x < -now ∨ stepY first x ≥ (N : Int) - now) : R = .error (4, a) := by
  rw [rdSteps, hR] at h; simp only at h; rw [if_pos hy] at h; exact h
theorem Lead.next {R : Except Bad (List Int × Nat)} {L : List Int} {bs : List UInt8} {N k a x nx : Nat} {first : Bool} {now : Int} (h : Lead R L (rdSteps bs N (k + 1) first now a)) (hR : rdAt bs a = .ok (x, nx)) (hy : ¬ (stepY first x < -now ∨ stepY first x ≥ (N : Int) - now)) : Lead R (L ++ [now + stepY first x]) (rdSteps bs N k false (now + stepY first x) nx) := by
  rw [rdSteps, hR] at h
  simp only at h
  rw [if_neg hy] at h
  cases e : rdSteps bs N k false (now + stepY first x) nx with
  | error b => rw [e] at h; exact h
  | ok q => rw [e] at h; unfold Lead at h ⊢; simp only at h ⊢; rw [h]; simp
theorem Lead.done {R : Except Bad (List Int × Nat)} {L : List Int} {bs : List UInt8} {N a : Nat} {first : Bool} {now : Int} (h : Lead R L (rdSteps bs N 0 first now a)) : R = .ok (L, a) := by
  rw [rdSteps] at h; unfold Lead at h; simpa using h
set_option maxHeartbeats 8000000 in
set_option maxRecDepth 100000 in
theorem gget_calls (s : ByteArray) (a N v : Nat) (ha : a ≤ s.size) (hs : s.size ≤ 140737488355328) (hN : N ≤ 4096) (hv : v < N) (w : World) :
    Calls Try.prog 20 #[.string s, .int .i64 (a : Int), .int .i64 (N : Int), .int .i64 (v : Int)] w fun e w' => Hid (GG (rdRow s.data.toList N a v) a w w' e) ∧ Hid (Below w.heap.size w w') := by
  obtain ⟨R, hR⟩ : ∃ R, rdRow s.data.toList N a v = R := ⟨_, rfl⟩
  rw [hR]
  have hcnt := rdRow_cnt s.data.toList N a v
  rw [hR] at hcnt
  have HCC := Lib.hid (count_calls ha hs N hN w)
  cases hC : rdCnt s.data.toList N a with
  | error b =>
    rw [hC] at hcnt HCC
    simp only at hcnt
    subst hcnt
    have HC' : Hid (Calls Try.prog 34 #[.string s, .int .i64 (a : Int), .int .i64 (N : Int)] w fun e w' => e = .returned (.tuple #[.int .i64 0, .int .i64 (a : Int), faultV (b.2 : Int) (b.1 : Int)]) ∧ w = w') := HCC
    clear HCC hC hR
    go_enter Try.func20, Try.ntmps20
    go_wp2_with (first
      | (go_at_call 32; refine (may_calls N v hN hv _).mono ?_; rintro e w1 ⟨rfl, rfl⟩)
      | (go_at_call 34; refine HC'.out.mono ?_; rintro e w1 ⟨rfl, rfl⟩))
    go_ret3
    exact ⟨Lib.hid rfl, Lib.hid (Below.refl _ _)⟩
  | ok r =>
    obtain ⟨n, nx⟩ := r
    rw [hC] at hcnt HCC
    simp only at hcnt
    have hl := rdCnt_len hC
    simp only [list_sz] at hl
    obtain ⟨hl0, hl1, hl2⟩ := hl
    have HLE : Hid (Lead R [] (rdSteps s.data.toList N (n - 0) true (v : Int) nx)) := Lib.hid (by
      rw [Nat.sub_zero]; unfold Lead
      cases e : rdSteps s.data.toList N n true (v : Int) nx with
      | error b => rw [e] at hcnt; exact hcnt
      | ok q => rw [e] at hcnt; simpa using hcnt)
    have HC' : Hid (Calls Try.prog 34 #[.string s, .int .i64 (a : Int), .int .i64 (N : Int)] w fun e w' => e = .returned (.tuple #[.int .i64 (n : Int), .int .i64 (nx : Int), .nilIface]) ∧ w = w') := HCC
    have HRD0 : Hid (RD (w.alloc (.cells #[.string s, .int .i64 (nx : Int), .int .i64 (N : Int), .int .i64 (v : Int)] 81)) w.heap.size s nx N (v : Int)) := Lib.hid (heap_alloc_new w _)
    have HB0 : Hid (Below w.heap.size w (w.alloc (.cells #[.string s, .int .i64 (nx : Int), .int .i64 (N : Int), .int .i64 (v : Int)] 81))) := Lib.hid ((Below.refl _ _).alloc (Nat.le_refl _) _)
    have HSZ := hs
    clear HCC hC hR hcnt ha hl0
    go_enter Try.func20, Try.ntmps20
    go_upto_region 10 with (first
      | (go_at_call 32; refine (may_calls N v hN hv _).mono ?_; rintro e w1 ⟨rfl, rfl⟩)
      | (go_at_call 34; refine HC'.out.mono ?_; rintro e w1 ⟨rfl, rfl⟩))
    go_loopw [16, 47] (fun u x wz => ∃ (i : Nat) (L : List Int) (now : Int) (at_ : Nat), x = .int .i64 (i : Int) ∧ i ≤ n ∧ Hid (L.length = i ∧ 0 ≤ now ∧ now < (N : Int) ∧ at_ ≤ s.size) ∧ Hid (Lead R L (rdSteps s.data.toList N (n - i) (decide (i = 0)) now at_)) ∧ Hid (OJ wz (w.heap.size + 1) u L) ∧ Hid (RD wz w.heap.size s at_ N now) ∧ Hid (Below w.heap.size w wz)) (fun _ x _ => n - (intOf x).toNat)
    case atStart => exact ⟨0, [], (v : Int), nx, rfl, Nat.zero_le _, Lib.hid ⟨rfl, by omega, by omega, hl1⟩, HLE, Lib.hid (OJ.nil _ _), HRD0, HB0⟩
    case round =>
      clear HLE HRD0 HB0 HC'
      obtain ⟨i, L, now, at_, rfl, hi, HI, HLE, HO, HRD, HB⟩ := hrel
      obtain ⟨hLi, hn0, hn1, hat⟩ := HI.out
      obtain ⟨uA, uc, rfl, -⟩ := id HO.out.shape
      rw [hLi] at HO ⊢
      have HOB := Lib.hid HO.out.base
      have HBS := Lib.hid HB.out.size
      by_cases hlt : i < n
      · have i1 : (i : Int) < (n : Int) := by omega
        have hk : n - i = (n - (i + 1)) + 1 := by omega
        rw [hk] at HLE
        have HST : Hid (∀ (b : Bool), decide (i = 0) = b → (∃ bd, rdAt s.data.toList at_ = .error bd ∧ R = .error bd ∧ Calls Try.prog 35 #[.pointer (some ⟨w.heap.size, 0, none⟩), .bool b] wr fun e w' => e = .returned (faultV (bd.2 : Int) (bd.1 : Int)) ∧ Hid (Below wr.heap.size wr w')) ∨
            (R = .error (4, at_) ∧ Calls Try.prog 35 #[.pointer (some ⟨w.heap.size, 0, none⟩), .bool b] wr fun e w' => e = .returned (faultV (at_ : Int) 4) ∧ Hid (Below wr.heap.size wr w')) ∨
            (∃ y nx2, 0 ≤ y ∧ y < (N : Int) ∧ nx2 ≤ s.size ∧ Lead R (L ++ [y]) (rdSteps s.data.toList N (n - (i + 1)) false y nx2) ∧ Calls Try.prog 35 #[.pointer (some ⟨w.heap.size, 0, none⟩), .bool b] wr fun e w' => e = .returned .nilIface ∧ Hid (RD w' w.heap.size s nx2 N y) ∧ Hid (wr.grownBy w' (some w.heap.size)))) := Lib.hid (fun b hb => by
          have hle := HLE.out
          rw [hb] at hle
          cases hA : rdAt s.data.toList at_ with
          | error bd => exact .inl ⟨bd, rfl, hle.bad hA, step_bad HRD.out HSZ hat b hA⟩
          | ok q =>
            obtain ⟨x, nx2⟩ := q
            by_cases hy : stepY b x < -now ∨ stepY b x ≥ (N : Int) - now
            · exact .inr (.inl ⟨hle.far hA hy, step_far HRD.out HSZ hat hN ⟨hn0, hn1⟩ b hA hy⟩)
            · have hq := (rdAt_len hA).2.1
              rw [list_sz] at hq
              exact .inr (.inr ⟨_, nx2, by omega, by omega, hq, hle.next hA hy, step_ok HRD.out HSZ hat hN ⟨hn0, hn1⟩ b hA hy⟩))
        obtain ⟨b, hb⟩ : ∃ b, decide (i = 0) = b := ⟨_, rfl⟩
        have hbi : decide ((i : Int) = 0) = b := by rw [← hb, decide_eq_decide]; omega
        have HBI : Hid (((i : Int) == 0) = b) := Lib.hid (by rw [← hbi]; rfl)
        rcases HST.out b hb with ⟨bd, -, hRb, hcall⟩ | ⟨hRb, hcall⟩ | ⟨y, nx2, hy0, hy1, hnx, hlead, hcall⟩
        · have HCALL := Lib.hid hcall
          have HRB := Lib.hid hRb
          clear HST hcall hRb hb hk hLi
          cases b
          · have hi0 : ¬ (i : Int) = 0 := of_decide_eq_false hbi
            have hiN : ¬ i = 0 := by omega
            have hiB : ((i : Int) == 0) = false := HBI.out
            clear hbi HBI
            go_wp2_with (go_at_call 35; refine HCALL.out.mono ?_; rintro e w2 ⟨rfl, HB2⟩)
            go_ret3
            exact ⟨Lib.hid (by rw [HRB.out]; rfl), Lib.hid (HB.out.trans (HB2.out.mono HBS.out))⟩
          · obtain rfl : i = 0 := by have := of_decide_eq_true hbi; omega
            clear hbi HBI
            go_wp2_with (go_at_call 35; refine HCALL.out.mono ?_; rintro e w2 ⟨rfl, HB2⟩)
            go_ret3
            exact ⟨Lib.hid (by rw [HRB.out]; rfl), Lib.hid (HB.out.trans (HB2.out.mono HBS.out))⟩
        · have HCALL := Lib.hid hcall
          have HRB := Lib.hid hRb
          clear HST hcall hRb hb hk hLi
          cases b
          · have hi0 : ¬ (i : Int) = 0 := of_decide_eq_false hbi
            have hiN : ¬ i = 0 := by omega
            have hiB : ((i : Int) == 0) = false := HBI.out
            clear hbi HBI
            go_wp2_with (go_at_call 35; refine HCALL.out.mono ?_; rintro e w2 ⟨rfl, HB2⟩)
            go_ret3
            exact ⟨Lib.hid (by rw [HRB.out]; rfl), Lib.hid (HB.out.trans (HB2.out.mono HBS.out))⟩
          · obtain rfl : i = 0 := by have := of_decide_eq_true hbi; omega
            clear hbi HBI
            go_wp2_with (go_at_call 35; refine HCALL.out.mono ?_; rintro e w2 ⟨rfl, HB2⟩)
            go_ret3
            exact ⟨Lib.hid (by rw [HRB.out]; rfl), Lib.hid (HB.out.trans (HB2.out.mono HBS.out))⟩
        · have HCALL := Lib.hid hcall
          have HLD := Lib.hid hlead
          have HYY := Lib.hid (And.intro hy0 (And.intro hy1 hnx))
          have HLI := Lib.hid hLi
          have hn4 : i < 4096 := by omega
          clear HST hcall hlead hb hk hLi HLE HI hy0 hy1 hnx hn0 hn1 hat
          have KEY : Hid (∀ w2, Hid (RD w2 w.heap.size s nx2 N y) → Hid (wr.grownBy w2 (some w.heap.size)) → OJ w2 (w.heap.size + 1) (.slice uA i uc) L ∧ Below w.heap.size w w2 ∧ w.heap.size + 1 ≤ w2.heap.size) := Lib.hid (fun w2 h1 h2 => by
            refine ⟨HO.out.kept h2.out (.inr fun e => ?_), HB.out.grown h2.out HBS.out (fun k hk => by injection hk with hk; omega), h1.out.lt⟩
            have := HOB.out _ e
            omega)
          cases b
          · have hi0 : ¬ (i : Int) = 0 := of_decide_eq_false hbi
            have hiN : ¬ i = 0 := by omega
            have hiB : ((i : Int) == 0) = false := HBI.out
            clear hbi HBI
            go_upto_region 15 with (go_at_call 35; refine HCALL.out.mono ?_; rintro e w2 ⟨rfl, HR2, HG2⟩)
            obtain ⟨ho2, hb2, hz2⟩ := KEY.out _ HR2 HG2
            have HO2 := Lib.hid ho2
            have HB2 := Lib.hid hb2
            obtain ⟨c0, c1, c2, c3⟩ := HR2.out.cells
            clear ho2 hb2 HO HB HRD
            go_wp2_with (at_builtin; refine OJ.app_on (base := w.heap.size + 1) (HO2.out.alloc _) (JR.lit _ [y] _ rfl 1 rfl (by simp)) rfl _ _ rfl rfl rfl (by simp; omega) (by rw [HLI.out]; simp only [List.length_cons, List.length_nil]; omega) ?_; intro v1 w3 k1 k2 k3; have K1 := Lib.hid k1; have K2 := Lib.hid k2; clear k1 k2 k3)
            go_roundw
            case rel => exact ⟨i + 1, L ++ [y], y, nx2, by go_num, by omega, Lib.hid ⟨by simp [HLI.out], HYY.out⟩, Lib.hid (by rw [decide_eq_false (by omega)]; exact HLD.out), K1, Lib.hid ((HR2.out.later ((Below.refl _ _).alloc (Nat.le_refl _) _)).kept K2.out (fun e => by have := HOB.out _ e.symm; omega)), Lib.hid ((HB2.out.alloc (by omega) _).grown K2.out (by simp; omega) (fun k hk => by have := HOB.out k hk; omega))⟩
            case measure => simp [intOf]; omega
          · obtain rfl : i = 0 := by have := of_decide_eq_true hbi; omega
            clear hbi HBI
            go_upto_region 15 with (go_at_call 35; refine HCALL.out.mono ?_; rintro e w2 ⟨rfl, HR2, HG2⟩)
            obtain ⟨ho2, hb2, hz2⟩ := KEY.out _ HR2 HG2
            have HO2 := Lib.hid ho2
            have HB2 := Lib.hid hb2
            obtain ⟨c0, c1, c2, c3⟩ := HR2.out.cells
            clear ho2 hb2 HO HB HRD
            go_wp2_with (at_builtin; refine OJ.app_on (base := w.heap.size + 1) (HO2.out.alloc _) (JR.lit _ [y] _ rfl 1 rfl (by simp)) rfl _ _ rfl rfl rfl (by simp; omega) (by rw [HLI.out]; simp only [List.length_cons, List.length_nil]; omega) ?_; intro v1 w3 k1 k2 k3; have K1 := Lib.hid k1; have K2 := Lib.hid k2; clear k1 k2 k3)
            go_roundw
            case rel => exact ⟨1, L ++ [y], y, nx2, rfl, by omega, Lib.hid ⟨by simp [HLI.out], HYY.out⟩, Lib.hid (by rw [decide_eq_false (by omega)]; exact HLD.out), K1, Lib.hid ((HR2.out.later ((Below.refl _ _).alloc (Nat.le_refl _) _)).kept K2.out (fun e => by have := HOB.out _ e.symm; omega)), Lib.hid ((HB2.out.alloc (by omega) _).grown K2.out (by simp; omega) (fun k hk => by have := HOB.out k hk; omega))⟩
            case measure => simp [intOf]; omega
      · obtain rfl : n = i := by omega
        have HF : Hid (R = .ok (L, at_)) := Lib.hid (by have := HLE.out; rw [Nat.sub_self] at this; exact this.done)
        obtain ⟨c0, c1, c2, c3⟩ := HRD.out.cells
        clear HLE hLi
        go_upto_region 17 with (fail)
        go_quiet (fail)
        go_wp2
        go_ret3
        exact ⟨Lib.hid (by rw [HF.out]; exact ⟨_, rfl, (HO.out.mono (Nat.le_succ _)).later (Ed.drewN_below _ _ _)⟩), Lib.hid (HB.out.trans ((Ed.drewN_below _ _ _).mono HBS.out))⟩
end Go.Proofs.Ytjokfllldcjheaa.Oc
