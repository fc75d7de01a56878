/- shard, walked: heads, marks, index. -/
import Derived.Test.YtjokfllldcjheaaSw
namespace Go.Proofs.Ytjokfllldcjheaa.Oc
open Go.RowKit Go.Proofs.Ytjokfllldcjheaa.Sha Go.Proofs.Ytjokfllldcjheaa.Ro Go.Proofs.Ytjokfllldcjheaa.Cs Go.Proofs.Ytjokfllldcjheaa.Ed
set_option linter.unusedVariables false
set_option linter.unusedSimpArgs false
set_option maxHeartbeats 1000000 in
theorem swrong_calls (p : Int) (k : Int) (w : World) :
    Calls Try.prog 15 #[.int .i64 p, .iface 45 (.int .i64 k)] w fun e w' => e = .returned (faultV p k) ∧ w = w' := by
  go_enter Try.func15, Try.ntmps15
  go_wp2
  go_ret
  exact ⟨rfl, rfl⟩
/-- two results: a struct in memory, and one in a slot -/
theorem cell2_result {w : World} {b : Nat} {t : TypeId} {cs : Array Value} {fs : Array Field} (h : w.heap[b]? = some (.cells cs t (0, 0))) {fn : Func} {p q : Tmp} {ty : TypeId} (hr : fn.results = #[.cell p ty, .tmp q]) (tmps : Array Value) (hp : tmps.getD p undef = .pointer (some ⟨b, 0, none⟩))
    (hu : Try.prog.underlying ty = some (.struct fs)) (hi : (Try.prog.info? ty).map (·.size) = some cs.size) {y : Value} (hq : tmps.getD q undef = y) : (results fn tmps).run Try.prog w = .ok (.tuple #[.agg cs, y]) w := by
  have hp' : tmps[p]?.getD undef = .pointer (some ⟨b, 0, none⟩) := by simpa using hp
  have hq' : tmps[q]?.getD undef = y := by simpa using hq
  simp [results, hr, hp', hq', asAddr, run_loadVar_row w b t ty _ (0, 0) _ h hu rfl hi]
/-- a shard's head -/
abbrev headV (a b c : Nat) : Value := .agg #[.int .i64 (a : Int), .int .i64 (b : Int), .int .i64 (c : Int)]
/-- what heads answers -/
def hdV : Except Bad (Nat × Nat × Nat) → Value
  | .ok r => .tuple #[headV r.1 r.2.1 r.2.2, .nilIface]
  | .error b => .tuple #[.agg #[.int .i64 0, .int .i64 0, .int .i64 0], faultV (b.2 : Int) (b.1 : Int)]
set_option maxHeartbeats 4000000 in
set_option maxRecDepth 100000 in
theorem heads_calls (s : ByteArray) (N : Nat) (hs : s.size ≤ 140737488355328) (hN : N ≤ 4096) (w : World) :
    Calls Try.prog 17 #[.string s, .int .i64 (N : Int)] w fun e w' => e = .returned (hdV (rdHead s.data.toList N)) ∧ Hid (Below w.heap.size w w') := by
  have HS0 := Lib.hid (fun W => Short_calls s 0 (Nat.zero_le _) hs W)
  have b1 : ¬ (N : Int) < 0 := by omega
  have b2 : ¬ (N : Int) > 4096 := by omega
  have HA : Hid (Below w.heap.size w (w.alloc (.cells #[.int .i64 0, .int .i64 0, .int .i64 0] 57))) := Lib.hid ((Below.refl _ _).alloc (Nat.le_refl _) _)
  unfold rdHead
  cases hR : rdAt s.data.toList 0 with
  | error b =>
    have HS' : Hid (∀ W, Calls Try.prog 31 #[.string s, .int .i64 0] W fun e w' => e = .returned (.tuple #[.int .i64 0, .int .i64 0, faultV (b.2 : Int) (b.1 : Int)]) ∧ W = w') := Lib.hid (fun W => by have := HS0.out W; rw [hR] at this; exact this)
    clear HS0 hR
    go_enter Try.func17, Try.ntmps17
    go_wp2_with (go_at_call 31; refine (HS'.out _).mono ?_; rintro e w1 ⟨rfl, rfl⟩)
    exact bodyPost_ret (cell2_result (heap_alloc_new w _) rfl _ rfl Try.underlying57 (by kernel_rfl) rfl) rfl ⟨rfl, HA⟩
  | ok r =>
    obtain ⟨x, m⟩ := r
    have hm := (rdAt_len hR).2.1
    rw [list_sz] at hm
    simp only at hm
    have hx := (rdAt_len hR).2.2
    simp only at hx
    have hx' : x < 72057594037927936 := by simpa using hx
    have HS' : Hid (∀ W, Calls Try.prog 31 #[.string s, .int .i64 0] W fun e w' => e = .returned (.tuple #[.int .i64 (x : Int), .int .i64 (m : Int), .nilIface]) ∧ W = w') := Lib.hid (fun W => by have := HS0.out W; rw [hR] at this; exact this)
    have HT0 := Lib.hid (fun W => Short_calls s m hm hs W)
    clear HS0 hR hx
    simp only
    cases hR2 : rdAt s.data.toList m with
    | error b =>
      have HT' : Hid (∀ W, Calls Try.prog 31 #[.string s, .int .i64 (m : Int)] W fun e w' => e = .returned (.tuple #[.int .i64 0, .int .i64 (m : Int), faultV (b.2 : Int) (b.1 : Int)]) ∧ W = w') := Lib.hid (fun W => by have := HT0.out W; rw [hR2] at this; exact this)
      clear HT0 hR2
      simp only
      go_enter Try.func17, Try.ntmps17
      go_wp2_with (first
        | (go_at_call 31; (with_reducible show Calls Try.prog 31 #[.string s, .int .i64 0] _ _); refine (HS'.out _).mono ?_; rintro e w1 ⟨rfl, rfl⟩)
        | (go_at_call 31; refine (HT'.out _).mono ?_; rintro e w1 ⟨rfl, rfl⟩))
      exact bodyPost_ret (cell2_result (heap_alloc_new w _) rfl _ rfl Try.underlying57 (by kernel_rfl) rfl) rfl ⟨rfl, HA⟩
    | ok r2 =>
      obtain ⟨y, nx⟩ := r2
      have hy := (rdAt_len hR2).2.2
      simp only at hy
      have hy' : y < 72057594037927936 := by simpa using hy
      have HT' : Hid (∀ W, Calls Try.prog 31 #[.string s, .int .i64 (m : Int)] W fun e w' => e = .returned (.tuple #[.int .i64 (y : Int), .int .i64 (nx : Int), .nilIface]) ∧ W = w') := Lib.hid (fun W => by have := HT0.out W; rw [hR2] at this; exact this)
      clear HT0 hR2 hy
      simp only
      by_cases hbad : y < 1 ∨ x > N ∨ y > N - x
      · rw [if_pos hbad]
        have HBA : Hid (¬ (y : Int) < 1 → ¬ (x : Int) > (N : Int) → (y : Int) > (N : Int) - (x : Int)) := Lib.hid (fun a b => by omega)
        clear hbad
        by_cases g1 : (y : Int) < 1
        · go_enter Try.func17, Try.ntmps17
          go_wp2_with (first
            | (go_at_call 31; (with_reducible show Calls Try.prog 31 #[.string s, .int .i64 0] _ _); refine (HS'.out _).mono ?_; rintro e w1 ⟨rfl, rfl⟩)
            | (go_at_call 31; refine (HT'.out _).mono ?_; rintro e w1 ⟨rfl, rfl⟩)
            | (go_at_call 15; refine (swrong_calls _ _ _).mono ?_; rintro e w1 ⟨rfl, rfl⟩))
          exact bodyPost_ret (cell2_result (heap_alloc_new w _) rfl _ rfl Try.underlying57 (by kernel_rfl) rfl) rfl ⟨rfl, HA⟩
        · by_cases g2 : (x : Int) > (N : Int)
          · go_enter Try.func17, Try.ntmps17
            go_wp2_with (first
              | (go_at_call 31; (with_reducible show Calls Try.prog 31 #[.string s, .int .i64 0] _ _); refine (HS'.out _).mono ?_; rintro e w1 ⟨rfl, rfl⟩)
              | (go_at_call 31; refine (HT'.out _).mono ?_; rintro e w1 ⟨rfl, rfl⟩)
              | (go_at_call 15; refine (swrong_calls _ _ _).mono ?_; rintro e w1 ⟨rfl, rfl⟩))
            exact bodyPost_ret (cell2_result (heap_alloc_new w _) rfl _ rfl Try.underlying57 (by kernel_rfl) rfl) rfl ⟨rfl, HA⟩
          · have g3 := HBA.out g1 g2
            go_enter Try.func17, Try.ntmps17
            go_wp2_with (first
              | (go_at_call 31; (with_reducible show Calls Try.prog 31 #[.string s, .int .i64 0] _ _); refine (HS'.out _).mono ?_; rintro e w1 ⟨rfl, rfl⟩)
              | (go_at_call 31; refine (HT'.out _).mono ?_; rintro e w1 ⟨rfl, rfl⟩)
              | (go_at_call 15; refine (swrong_calls _ _ _).mono ?_; rintro e w1 ⟨rfl, rfl⟩))
            exact bodyPost_ret (cell2_result (heap_alloc_new w _) rfl _ rfl Try.underlying57 (by kernel_rfl) rfl) rfl ⟨rfl, HA⟩
      · rw [if_neg hbad]
        have g1 : ¬ (y : Int) < 1 := by omega
        have g2 : ¬ (x : Int) > (N : Int) := by omega
        have g3 : ¬ (y : Int) > (N : Int) - (x : Int) := by omega
        clear hbad
        go_enter Try.func17, Try.ntmps17
        go_wp2_with (first
          | (go_at_call 31; (with_reducible show Calls Try.prog 31 #[.string s, .int .i64 0] _ _); refine (HS'.out _).mono ?_; rintro e w1 ⟨rfl, rfl⟩)
          | (go_at_call 31; refine (HT'.out _).mono ?_; rintro e w1 ⟨rfl, rfl⟩))
        exact bodyPost_ret (cell2_result (heap_alloc_new w _) rfl _ rfl Try.underlying57 (by kernel_rfl) rfl) rfl ⟨rfl, Lib.hid ((Below.refl _ _).alloc (Nat.le_refl _) _)⟩
set_option maxHeartbeats 1000000 in
theorem marks_calls (a b c : Nat) (hb : b ≤ 4096) (w : World) :
    Calls Try.prog 19 #[headV a b c] w fun e w' => e = .returned (.int .i64 (((b + 7) / 8 : Nat) : Int)) ∧ Hid (Below w.heap.size w w') := by
  have e0 : (((b + 7) / 8 : Nat) : Int) = ((b : Int) + 7) / 8 := by omega
  have e1 : (b : Int) + 8 - 1 = (b : Int) + 7 := by omega
  rw [e0]
  clear e0
  go_enter Try.func19, Try.ntmps19
  go_wp2
  go_ret
  exact ⟨rfl, Lib.hid ((Below.refl _ _).alloc (Nat.le_refl _) _)⟩
/-- what index answers -/
def IG (R : Except Bad (List Nat × List Nat × Nat)) (w w' : World) (e : Ending) : Prop := match R with
  | .error b => e = .returned (.tuple #[.slice none 0 0, .slice none 0 0, .int .i64 0, faultV (b.2 : Int) (b.1 : Int)])
  | .ok q => ∃ u v, e = .returned (.tuple #[u, v, .int .i64 (q.2.2 : Int), .nilIface]) ∧ OJ w' w.heap.size u (q.1.map Int.ofNat) ∧ OJ w' w.heap.size v (q.2.1.map Int.ofNat)
/-- what is still to be read of the index leads to R -/
def LeadI (R : Except Bad (List Nat × List Nat × Nat)) (M P : List Nat) (S : Except Bad (List Nat × List Nat × Nat)) : Prop := match S with
  | .error b => R = .error b
  | .ok q => R = .ok (M ++ q.1, P ++ q.2.1, q.2.2)
theorem LeadI.bad {R : Except Bad (List Nat × List Nat × Nat)} {M P : List Nat} {bs : List UInt8} {k a : Nat} {b : Bad} (h : LeadI R M P (rdIdx bs (k + 1) a)) (hR : rdAt bs a = .error b) : R = .error b := by
  rw [rdIdx, hR] at h; exact h
theorem LeadI.next {R : Except Bad (List Nat × List Nat × Nat)} {M P : List Nat} {bs : List UInt8} {k a x nx : Nat} (h : LeadI R M P (rdIdx bs (k + 1) a)) (hR : rdAt bs a = .ok (x, nx)) : LeadI R (M ++ [x]) (P ++ [a]) (rdIdx bs k nx) := by
  rw [rdIdx, hR] at h
  simp only at h
  cases e : rdIdx bs k nx with
  | error b => rw [e] at h; exact h
  | ok q => rw [e] at h; unfold LeadI at h ⊢; simp only at h ⊢; rw [h]; simp
theorem LeadI.done {R : Except Bad (List Nat × List Nat × Nat)} {M P : List Nat} {bs : List UInt8} {a : Nat} (h : LeadI R M P (rdIdx bs 0 a)) : R = .ok (M, P, a) := by
  rw [rdIdx] at h; unfold LeadI at h; simpa using h
end Go.Proofs.Ytjokfllldcjheaa.Oc
