/- shard: where a node's row is, in plain words. · gap, shard, walked: Skip, Count, behind. -/
import Derived.Test.YtjokfllldcjheaaGreatDoorSq
/- shard: where a node's row is, in plain words. -/
namespace Go.Proofs.YtjokfllldcjheaaGreatDoor.Oc
set_option linter.unusedVariables false
set_option linter.unusedSimpArgs false
/-- the place behind alone -/
def thd : Except Bad (List Nat × List Nat × Nat) → Except Bad Nat
  | .error e => .error e
  | .ok q => .ok q.2.2
/-- the place behind a row -/
def rdSkip (bs : List UInt8) (nodes a : Nat) : Except Bad Nat := match rdCnt bs nodes a with
  | .error e => .error e
  | .ok r => thd (rdIdx bs r.1 r.2)
/-- the place behind so many rows -/
def skips (bs : List UInt8) (nodes : Nat) : Nat → Nat → Except Bad Nat
  | 0, a => .ok a
  | k + 1, a => match rdSkip bs nodes a with
    | .error e => .error e
    | .ok b => skips bs nodes k b
/-- the place of a row, of its number in the index (and where that stands), and of what is behind the index -/
def plc2 (bs : List UInt8) (nodes r m pl : Nat) : Except Bad (List Nat × List Nat × Nat) → Except Bad Nat
  | .error e => .error e
  | .ok y => if m > bs.length - y.2.2 then .error (4, pl) else skips bs nodes r (y.2.2 + m)
/-- the place of a node's row, by the index -/
def rdPlace (bs : List UInt8) (nodes many at_ d : Nat) : Except Bad Nat := match rdIdx bs (d / 8 + 1) at_ with
  | .error e => .error e
  | .ok x => plc2 bs nodes (d % 8) (x.1.getD (d / 8) 0) (x.2.1.getD (d / 8) 0) (rdIdx bs ((many + 7) / 8) at_)
/-- the place of a node's row; none: the shard has no such node -/
def rdSought (bs : List UInt8) (nodes : Nat) (v : Int) : Except Bad (Option Nat) := match rdHead bs nodes with
  | .error e => .error e
  | .ok h => if v < (h.1 : Int) ∨ v ≥ (h.1 : Int) + (h.2.1 : Int) then .ok none else match rdPlace bs nodes h.2.1 h.2.2 (v - (h.1 : Int)).toNat with
    | .error e => .error e
    | .ok a => .ok (some a)
theorem skips_add (bs : List UInt8) (nodes : Nat) : ∀ (i j a p : Nat), skips bs nodes i a = .ok p → skips bs nodes (i + j) a = skips bs nodes j p
  | 0, j, a, p, h => by injection h with h; rw [Nat.zero_add, h]
  | i + 1, j, a, p, h => by
    rw [show i + 1 + j = (i + j) + 1 by omega, skips]
    rw [skips] at h
    cases e : rdSkip bs nodes a with
    | error b => rw [e] at h; simp at h
    | ok b => rw [e] at h; exact skips_add bs nodes i j b p h
theorem steps_idx {bs : List UInt8} {nodes : Nat} : ∀ {k : Nat} {first : Bool} {now : Int} {a : Nat} {q : List Int × Nat}, rdSteps bs nodes k first now a = .ok q → ∃ M P, rdIdx bs k a = .ok (M, P, q.2)
  | 0, _, _, a, q, h => by injection h with h; subst h; exact ⟨[], [], rfl⟩
  | k + 1, first, now, a, q, h => by
    obtain ⟨x, nx, q', h1, h2, h3, rfl⟩ := rdSteps_ok h
    obtain ⟨M, P, ih⟩ := steps_idx h3
    exact ⟨x :: M, a :: P, rdIdx_mk h1 ih⟩
theorem row_skip {bs : List UInt8} {nodes a : Nat} {v : Int} {q : List Int × Nat} (h : rdRow bs nodes a v = .ok q) : rdSkip bs nodes a = .ok q.2 := by
  rw [rdRow_cnt] at h
  unfold rdSkip
  cases e : rdCnt bs nodes a with
  | error b => rw [e] at h; simp at h
  | ok r =>
    rw [e] at h
    obtain ⟨M, P, h2⟩ := steps_idx h
    simp only
    rw [h2]
    rfl
theorem idx_take {bs : List UInt8} : ∀ {k a : Nat} {q : List Nat × List Nat × Nat}, rdIdx bs k a = .ok q → ∀ j, j ≤ k → ∃ b, rdIdx bs j a = .ok (q.1.take j, q.2.1.take j, b)
  | k, a, q, h, 0, _ => ⟨a, by simp [rdIdx]⟩
  | 0, a, q, h, j + 1, hj => by omega
  | k + 1, a, q, h, j + 1, hj => by
    obtain ⟨x, nx, q', h1, h2, rfl⟩ := rdIdx_ok h
    obtain ⟨b, ih⟩ := idx_take h2 j (by omega)
    exact ⟨b, by rw [rdIdx_mk h1 ih]; simp⟩
theorem chk_none (begins : List Nat) : ∀ (ms ps : List Nat) (i : Nat), ms.length = ps.length → chk begins ms ps i = none → ∀ j, j < ms.length → ms.getD j 0 = begins.getD (8 * (i + j)) 0
  | [], _, _, _, _, j, hj => by simp at hj
  | m :: ms, [], _, hl, _, _, _ => by simp at hl
  | m :: ms, p :: ps, i, hl, h, j, hj => by
    unfold chk at h
    split at h
    · rename_i hm
      cases j with
      | zero => simpa using hm
      | succ j =>
        have := chk_none begins ms ps (i + 1) (by simpa using hl) h j (by simpa using hj)
        rw [show i + (j + 1) = i + 1 + j by omega]
        simpa using this
    · simp at h
/-- where each row stands -/
theorem rows_at {bs : List UInt8} {nodes b : Nat} : ∀ {k a : Nat} {v : Int} {q : List (List Int) × List Nat × Nat}, rdRows bs nodes b k v a = .ok q → b ≤ a → ∀ i, i < k →
    ∃ p nx, skips bs nodes i a = .ok p ∧ a ≤ p ∧ q.2.1.getD i 0 = p - b ∧ rdRow bs nodes p (v + (i : Nat)) = .ok (q.1.getD i [], nx)
  | 0, _, _, _, _, _, i, hi => by omega
  | k + 1, a, v, q, h, hb, i, hi => by
    obtain ⟨l, nx, q', h1, h2, rfl⟩ := rdRows_ok h
    cases i with
    | zero => exact ⟨a, nx, rfl, Nat.le_refl _, rfl, by rw [show v + ((0 : Nat) : Int) = v by omega]; exact h1⟩
    | succ i =>
      have hl := rdRow_len h1
      simp only at hl
      obtain ⟨p, nx2, g1, g2, g3, g4⟩ := rows_at h2 (by omega) i (by omega)
      refine ⟨p, nx2, ?_, by omega, by simpa using g3, ?_⟩
      · rw [skips, row_skip h1]; exact g1
      · rw [show v + ((i + 1 : Nat) : Int) = v + 1 + (i : Nat) by omega]; simpa using g4
/-- what is found in a shard is what it has -/
theorem sought_ok {bs : List UInt8} {nodes f : Nat} {LL : List (List Int)} (h : rdShard bs nodes = .ok (f, LL)) (i : Nat) (hi : i < LL.length) : ∃ a nx, a ≤ bs.length ∧ rdSought bs nodes ((f : Int) + (i : Nat)) = .ok (some a) ∧ rdRow bs nodes a ((f : Int) + (i : Nat)) = .ok (LL.getD i [], nx) := by
  unfold rdShard at h
  cases e : rdCore bs nodes with
  | error b => rw [e] at h; simp at h
  | ok q =>
    rw [e] at h
    simp only at h
    split at h
    · simp at h
    · injection h with h
      obtain ⟨hd, x, r, h1, h2, h3, h4, rfl⟩ := rdCore_ok e
      injection h with h5 h6
      simp only at h5 h6
      obtain ⟨ms, ps, b⟩ := x
      obtain ⟨f', many, at_⟩ := hd
      simp only at h2 h3 h4 h5 h6
      subst h5
      have hat : at_ ≤ bs.length := by
        obtain ⟨a0, mid, b0, nx0, g1, g2, g3, g4⟩ := rdHead_ok h1
        have := rdAt_len g2
        injection g4 with g4 g5
        injection g5 with g5 g6
        omega
      have hx := rdIdx_len hat h2
      have hr := rdRows_len hx.2.1 h3
      simp only at hx hr
      have hik : i < many := by rw [← h6] at hi; omega
      obtain ⟨p, nx, g1, g2, g3, g4⟩ := rows_at h3 (Nat.le_refl _) i hik
      obtain ⟨p0, nx0, k1, k2, k3, k4⟩ := rows_at h3 (Nat.le_refl _) (8 * (i / 8)) (by omega)
      have hm := chk_none r.2.1 ms ps 0 (by omega) h4 (i / 8) (by omega)
      rw [Nat.zero_add, k3] at hm
      have hp0 := rdRow_len k4
      have hp := rdRow_len g4
      obtain ⟨b', ht⟩ := idx_take h2 (i / 8 + 1) (by omega)
      simp only at ht
      have hg : (ms.take (i / 8 + 1)).getD (i / 8) 0 = ms.getD (i / 8) 0 := by
        rw [List.getD_eq_getElem?_getD, List.getD_eq_getElem?_getD, List.getElem?_take, if_pos (by omega)]
      refine ⟨p, nx, by omega, ?_, by rw [← h6]; exact g4⟩
      unfold rdSought
      rw [h1]
      simp only
      rw [if_neg (by omega), show ((f' : Int) + (i : Nat) - (f' : Int)).toNat = i by omega]
      unfold rdPlace
      rw [ht]
      simp only
      rw [h2]
      unfold plc2
      simp only
      rw [hg, hm, if_neg (by omega), show b + (p0 - b) = p0 by omega]
      have hadd := skips_add bs nodes (8 * (i / 8)) (i % 8) b p0 k1
      rw [show 8 * (i / 8) + i % 8 = i by omega, g1] at hadd
      rw [← hadd]
theorem sought_none {bs : List UInt8} {nodes f : Nat} {LL : List (List Int)} (h : rdShard bs nodes = .ok (f, LL)) (v : Int) (hv : v < (f : Int) ∨ v ≥ (f : Int) + (LL.length : Int)) : rdSought bs nodes v = .ok none := by
  unfold rdShard at h
  cases e : rdCore bs nodes with
  | error b => rw [e] at h; simp at h
  | ok q =>
    rw [e] at h
    simp only at h
    split at h
    · simp at h
    · injection h with h
      obtain ⟨hd, x, r, h1, h2, h3, h4, rfl⟩ := rdCore_ok e
      injection h with h5 h6
      simp only at h5 h6
      obtain ⟨f', many, at_⟩ := hd
      simp only at h2 h3 h4 h5 h6
      subst h5
      have hat : at_ ≤ bs.length := by
        obtain ⟨a0, mid, b0, nx0, g1, g2, g3, g4⟩ := rdHead_ok h1
        have := rdAt_len g2
        injection g4 with g4 g5
        injection g5 with g5 g6
        omega
      have hx := rdIdx_len hat h2
      have hr := rdRows_len hx.2.1 h3
      unfold rdSought
      rw [h1]
      simp only
      rw [if_pos (by rw [← h6] at hv; omega)]
end Go.Proofs.YtjokfllldcjheaaGreatDoor.Oc
namespace Go.Proofs.YtjokfllldcjheaaGreatDoor.Oc
theorem idx_small {bs : List UInt8} : ∀ {k a : Nat} {q : List Nat × List Nat × Nat}, rdIdx bs k a = .ok q → ∀ x ∈ q.1, x < 128 ^ 8
  | 0, a, q, h, x, hx => by injection h with h; subst h; simp at hx
  | k + 1, a, q, h, x, hx => by
    obtain ⟨y, nx, q', h1, h2, rfl⟩ := rdIdx_ok h
    rcases List.mem_cons.1 hx with hx | hx
    · rw [hx]; exact (rdAt_len h1).2.2
    · exact idx_small h2 x hx
end Go.Proofs.YtjokfllldcjheaaGreatDoor.Oc
/- gap, shard, walked: Skip, Count, behind. -/
namespace Go.Proofs.YtjokfllldcjheaaGreatDoor.Oc
open Go.RowKit Go.Proofs.YtjokfllldcjheaaGreatDoor.Sha Go.Proofs.YtjokfllldcjheaaGreatDoor.Ro Go.Proofs.YtjokfllldcjheaaGreatDoor.Cs Go.Proofs.YtjokfllldcjheaaGreatDoor.Ed
set_option linter.unusedVariables false
set_option linter.unusedSimpArgs false
set_option maxHeartbeats 1000000 in
theorem nodesFit_calls (a : Int) (N : Nat) (hN : N ≤ 4096) (w : World) : Calls Tryz.prog 92 #[.int .i64 a, .int .i64 (N : Int)] w fun e w' => e = .returned .nilIface ∧ w = w' := by
  have h0 : ¬ (N : Int) < 0 := by omega
  have h1 : ¬ (N : Int) > 4096 := by omega
  go_enter Tryz.func92, Tryz.ntmps92
  go_wp2
  go_ret
  exact ⟨rfl, rfl⟩
/-- what Count answers -/
def cntV : Except Bad (Nat × Nat) → Value
  | .ok r => .tuple #[.int .i64 (r.1 : Int), .nilIface]
  | .error b => .tuple #[.int .i64 0, faultV (b.2 : Int) (b.1 : Int)]
set_option maxHeartbeats 1000000 in
theorem gcount_calls (s : ByteArray) (a N : Nat) (ha : a ≤ s.size) (hs : s.size ≤ 140737488355328) (hN : N ≤ 4096) (w : World) :
    Calls Tryz.prog 57 #[.string s, .int .i64 (a : Int), .int .i64 (N : Int)] w fun e w' => e = .returned (cntV (rdCnt s.data.toList N a)) ∧ w = w' := by
  have HC := Lib.hid (count_calls ha hs N hN w)
  cases hR : rdCnt s.data.toList N a with
  | error b =>
    have HC' : Hid (Calls Tryz.prog 89 #[.string s, .int .i64 (a : Int), .int .i64 (N : Int)] w fun e w' => e = .returned (.tuple #[.int .i64 0, .int .i64 (a : Int), faultV (b.2 : Int) (b.1 : Int)]) ∧ w = w') := Lib.hid (by have := HC.out; rw [hR] at this; exact this)
    clear HC hR
    go_enter Tryz.func57, Tryz.ntmps57
    go_wp2_with (first
      | (go_at_call 92; refine (nodesFit_calls _ N hN _).mono ?_; rintro e w1 ⟨rfl, rfl⟩)
      | (go_at_call 89; refine HC'.out.mono ?_; rintro e w1 ⟨rfl, rfl⟩))
    go_ret2
    exact ⟨rfl, rfl⟩
  | ok r =>
    have HC' : Hid (Calls Tryz.prog 89 #[.string s, .int .i64 (a : Int), .int .i64 (N : Int)] w fun e w' => e = .returned (.tuple #[.int .i64 (r.1 : Int), .int .i64 (r.2 : Int), .nilIface]) ∧ w = w') := Lib.hid (by have := HC.out; rw [hR] at this; exact this)
    clear HC hR
    go_enter Tryz.func57, Tryz.ntmps57
    go_wp2_with (first
      | (go_at_call 92; refine (nodesFit_calls _ N hN _).mono ?_; rintro e w1 ⟨rfl, rfl⟩)
      | (go_at_call 89; refine HC'.out.mono ?_; rintro e w1 ⟨rfl, rfl⟩))
    go_ret2
    exact ⟨rfl, rfl⟩
/-- what Skip answers -/
def skV (a : Nat) : Except Bad Nat → Value
  | .ok p => .tuple #[.int .i64 (p : Int), .nilIface]
  | .error b => .tuple #[.int .i64 (a : Int), faultV (b.2 : Int) (b.1 : Int)]
theorem rdSkip_len {bs : List UInt8} {N a p : Nat} (h : rdSkip bs N a = .ok p) : a < p ∧ p ≤ bs.length := by
  unfold rdSkip at h
  cases e : rdCnt bs N a with
  | error b => rw [e] at h; simp at h
  | ok r =>
    rw [e] at h
    simp only at h
    have h1 := rdCnt_len e
    cases e2 : rdIdx bs r.1 r.2 with
    | error b => rw [e2] at h; simp [thd] at h
    | ok q =>
      rw [e2] at h
      unfold thd at h
      injection h with h
      have h2 := rdIdx_len h1.2.1 e2
      omega
set_option maxHeartbeats 4000000 in
set_option maxRecDepth 100000 in
theorem skip_calls (s : ByteArray) (a N : Nat) (ha : a ≤ s.size) (hs : s.size ≤ 140737488355328) (hN : N ≤ 4096) (w : World) :
    Calls Tryz.prog 120 #[.string s, .int .i64 (a : Int), .int .i64 (N : Int)] w fun e w' => e = .returned (skV a (rdSkip s.data.toList N a)) ∧ w = w' := by
  have HC := Lib.hid (count_calls ha hs N hN w)
  unfold rdSkip
  cases hR : rdCnt s.data.toList N a with
  | error b =>
    have HC' : Hid (Calls Tryz.prog 89 #[.string s, .int .i64 (a : Int), .int .i64 (N : Int)] w fun e w' => e = .returned (.tuple #[.int .i64 0, .int .i64 (a : Int), faultV (b.2 : Int) (b.1 : Int)]) ∧ w = w') := Lib.hid (by have := HC.out; rw [hR] at this; exact this)
    clear HC hR
    go_enter Tryz.func120, Tryz.ntmps120
    go_upto_region 6 with (first
      | (go_at_call 92; refine (nodesFit_calls _ N hN _).mono ?_; rintro e w1 ⟨rfl, rfl⟩)
      | (go_at_call 89; refine HC'.out.mono ?_; rintro e w1 ⟨rfl, rfl⟩))
    go_loopw [10, 11, 28] (fun p t x wz => p = .int .i64 (a : Int) ∧ t = faultV (b.2 : Int) (b.1 : Int) ∧ x = .int .i64 0 ∧ wz = w) (fun _ _ x _ => 0)
    case atStart => exact ⟨rfl, rfl, rfl, rfl⟩
    case round =>
      obtain ⟨rfl, rfl, rfl, hwz⟩ := hrel
      subst hwz
      go_wp2
      go_ret2
      exact ⟨rfl, rfl⟩
  | ok r =>
    obtain ⟨n, nx⟩ := r
    have hrl := rdCnt_len hR
    rw [list_sz] at hrl
    obtain ⟨hr1, hr2, hr3⟩ := hrl
    simp only at hr1 hr2 hr3
    have HC' : Hid (Calls Tryz.prog 89 #[.string s, .int .i64 (a : Int), .int .i64 (N : Int)] w fun e w' => e = .returned (.tuple #[.int .i64 (n : Int), .int .i64 (nx : Int), .nilIface]) ∧ w = w') := Lib.hid (by have := HC.out; rw [hR] at this; exact this)
    simp only
    obtain ⟨R, hRR⟩ : ∃ R, rdIdx s.data.toList n nx = R := ⟨_, rfl⟩
    rw [hRR]
    have HLE : Hid (LeadI R [] [] (rdIdx s.data.toList (n - 0) nx)) := Lib.hid (by
      rw [Nat.sub_zero, hRR]; unfold LeadI
      cases R with
      | error b => rfl
      | ok q => simp)
    obtain ⟨Z, hZ⟩ : ∃ Z, thd R = Z := ⟨_, rfl⟩
    rw [hZ]
    have HZ := Lib.hid hZ
    clear HC hR hRR hZ
    go_enter Tryz.func120, Tryz.ntmps120
    go_upto_region 6 with (first
      | (go_at_call 92; refine (nodesFit_calls _ N hN _).mono ?_; rintro e w1 ⟨rfl, rfl⟩)
      | (go_at_call 89; refine HC'.out.mono ?_; rintro e w1 ⟨rfl, rfl⟩))
    go_loopw [10, 11, 28] (fun p t x wz => ∃ (i at_ : Nat) (M P : List Nat), p = .int .i64 (at_ : Int) ∧ t = .nilIface ∧ x = .int .i64 (i : Int) ∧ i ≤ n ∧ at_ ≤ s.size ∧ Hid (LeadI R M P (rdIdx s.data.toList (n - i) at_)) ∧ wz = w) (fun _ _ x _ => n - (intOf x).toNat)
    case atStart => exact ⟨0, nx, [], [], rfl, rfl, rfl, Nat.zero_le _, hr2, HLE, rfl⟩
    case round =>
      clear HLE
      obtain ⟨i, at_, M, P, rfl, rfl, rfl, hi, hat, HLE, hwz⟩ := hrel
      subst hwz
      by_cases hlt : i < n
      · have i1 : (i : Int) < (n : Int) := by omega
        have hk : n - i = (n - (i + 1)) + 1 := by omega
        rw [hk] at HLE
        have HS := Lib.hid (Short_calls s at_ hat hs wr)
        cases hA : rdAt s.data.toList at_ with
        | error bd =>
          have HRB := Lib.hid (HLE.out.bad hA)
          have HS' : Hid (Calls Tryz.prog 86 #[.string s, .int .i64 (at_ : Int)] wr fun e w' => e = .returned (.tuple #[.int .i64 0, .int .i64 (at_ : Int), faultV (bd.2 : Int) (bd.1 : Int)]) ∧ wr = w') := Lib.hid (by have := HS.out; rw [hA] at this; exact this)
          clear HS HLE hA hk
          go_wp2_with (go_at_call 86; refine HS'.out.mono ?_; rintro e w1 ⟨rfl, rfl⟩)
          go_ret2
          exact ⟨by rw [← HZ.out, HRB.out]; rfl, rfl⟩
        | ok q =>
          obtain ⟨x, nx2⟩ := q
          have hq := (rdAt_len hA).2.1
          rw [list_sz] at hq
          simp only at hq
          have HLN2 := Lib.hid (HLE.out.next hA)
          have HS' : Hid (Calls Tryz.prog 86 #[.string s, .int .i64 (at_ : Int)] wr fun e w' => e = .returned (.tuple #[.int .i64 (x : Int), .int .i64 (nx2 : Int), .nilIface]) ∧ wr = w') := Lib.hid (by have := HS.out; rw [hA] at this; exact this)
          clear HS HLE hA hk
          go_wp2_with (go_at_call 86; refine HS'.out.mono ?_; rintro e w1 ⟨rfl, rfl⟩)
          go_roundw
          case rel => exact ⟨i + 1, nx2, M ++ [x], P ++ [at_], rfl, rfl, by go_num, by omega, hq, HLN2, trivial⟩
          case measure => simp [intOf]; omega
      · obtain rfl : n = i := by omega
        have HF : Hid (R = .ok (M, P, at_)) := Lib.hid (by have := HLE.out; rw [Nat.sub_self] at this; exact this.done)
        clear HLE
        have i1 : ¬ (n : Int) < (n : Int) := by omega
        go_wp2
        go_ret2
        exact ⟨by rw [← HZ.out, HF.out]; rfl, rfl⟩
/-- what behind answers -/
def bhV : Except Bad (List Nat × List Nat × Nat) → Value
  | .ok q => .tuple #[.int .i64 (q.2.2 : Int), .nilIface]
  | .error b => .tuple #[.int .i64 0, faultV (b.2 : Int) (b.1 : Int)]
set_option maxHeartbeats 4000000 in
set_option maxRecDepth 100000 in
theorem behind_calls (s : ByteArray) (a b c : Nat) (hs : s.size ≤ 140737488355328) (hc : c ≤ s.size) (hb : b ≤ 4096) (w : World) :
    Calls Tryz.prog 119 #[headV a b c, .string s] w fun e w' => e = .returned (bhV (rdIdx s.data.toList ((b + 7) / 8) c)) ∧ Hid (Below w.heap.size w w') := by
  obtain ⟨n, hn⟩ : ∃ n, (b + 7) / 8 = n := ⟨_, rfl⟩
  have HM := Lib.hid (fun W => marks_calls a b c hb W)
  rw [hn] at HM ⊢
  have hn2 : n ≤ 1000 := by omega
  obtain ⟨R, hR⟩ : ∃ R, rdIdx s.data.toList n c = R := ⟨_, rfl⟩
  rw [hR]
  have HLE : Hid (LeadI R [] [] (rdIdx s.data.toList (n - 0) c)) := Lib.hid (by
    rw [Nat.sub_zero, hR]; unfold LeadI
    cases R with
    | error b => rfl
    | ok q => simp)
  have HB0 : Hid (Below w.heap.size w (w.alloc (.cells #[.int .i64 (a : Int), .int .i64 (b : Int), .int .i64 (c : Int)] 111))) := Lib.hid ((Below.refl _ _).alloc (Nat.le_refl _) _)
  clear hR hn
  go_enter Tryz.func119, Tryz.ntmps119
  go_upto_region 3 with (go_at_call 54; refine (HM.out _).mono ?_; rintro e w1 ⟨rfl, HB1⟩)
  have HB := Lib.hid (HB0.out.trans (HB1.out.mono HB0.out.size))
  go_loopw [6, 14] (fun p x wz => ∃ (i at_ : Nat) (M P : List Nat), p = .int .i64 (at_ : Int) ∧ x = .int .i64 (i : Int) ∧ i ≤ n ∧ at_ ≤ s.size ∧ Hid (LeadI R M P (rdIdx s.data.toList (n - i) at_)) ∧ wz = w1) (fun _ x _ => n - (intOf x).toNat)
  case atStart => exact ⟨0, c, [], [], rfl, rfl, Nat.zero_le _, hc, HLE, rfl⟩
  case round =>
    clear HLE
    obtain ⟨i, at_, M, P, rfl, rfl, hi, hat, HLE, hwz⟩ := hrel
    subst hwz
    by_cases hlt : i < n
    · have i1 : (i : Int) < (n : Int) := by omega
      have hk : n - i = (n - (i + 1)) + 1 := by omega
      rw [hk] at HLE
      have HS := Lib.hid (Short_calls s at_ hat hs wr)
      cases hA : rdAt s.data.toList at_ with
      | error bd =>
        have HRB := Lib.hid (HLE.out.bad hA)
        have HS' : Hid (Calls Tryz.prog 86 #[.string s, .int .i64 (at_ : Int)] wr fun e w' => e = .returned (.tuple #[.int .i64 0, .int .i64 (at_ : Int), faultV (bd.2 : Int) (bd.1 : Int)]) ∧ wr = w') := Lib.hid (by have := HS.out; rw [hA] at this; exact this)
        clear HS HLE hA hk
        go_wp2_with (go_at_call 86; refine HS'.out.mono ?_; rintro e w1 ⟨rfl, rfl⟩)
        go_ret2
        exact ⟨by rw [HRB.out]; rfl, HB⟩
      | ok q =>
        obtain ⟨x, nx2⟩ := q
        have hq := (rdAt_len hA).2.1
        rw [list_sz] at hq
        simp only at hq
        have HLN2 := Lib.hid (HLE.out.next hA)
        have HS' : Hid (Calls Tryz.prog 86 #[.string s, .int .i64 (at_ : Int)] wr fun e w' => e = .returned (.tuple #[.int .i64 (x : Int), .int .i64 (nx2 : Int), .nilIface]) ∧ wr = w') := Lib.hid (by have := HS.out; rw [hA] at this; exact this)
        clear HS HLE hA hk
        go_wp2_with (go_at_call 86; refine HS'.out.mono ?_; rintro e w1 ⟨rfl, rfl⟩)
        go_roundw
        case rel => exact ⟨i + 1, nx2, M ++ [x], P ++ [at_], rfl, by go_num, by omega, hq, HLN2, trivial⟩
        case measure => simp [intOf]; omega
    · obtain rfl : n = i := by omega
      have HF : Hid (R = .ok (M, P, at_)) := Lib.hid (by have := HLE.out; rw [Nat.sub_self] at this; exact this.done)
      clear HLE
      have i1 : ¬ (n : Int) < (n : Int) := by omega
      go_wp2
      go_ret2
      exact ⟨by rw [HF.out]; rfl, HB⟩
end Go.Proofs.YtjokfllldcjheaaGreatDoor.Oc
