/- shard, walked: heads, marks, index. · shard, walked: index. -/
import Derived.Test.YtjokfllldcjheaaGreatDoorSw
/- shard, walked: heads, marks, index. -/
namespace Go.Proofs.YtjokfllldcjheaaGreatDoor.Oc
open Go.RowKit Go.Proofs.YtjokfllldcjheaaGreatDoor.Sha Go.Proofs.YtjokfllldcjheaaGreatDoor.Ro Go.Proofs.YtjokfllldcjheaaGreatDoor.Cs Go.Proofs.YtjokfllldcjheaaGreatDoor.Ed
set_option linter.unusedVariables false
set_option linter.unusedSimpArgs false
set_option maxHeartbeats 1000000 in
theorem swrong_calls (p : Int) (k : Int) (w : World) :
    Calls Tryz.prog 46 #[.int .i64 p, .iface 96 (.int .i64 k)] w fun e w' => e = .returned (faultV p k) ∧ w = w' := by
  go_enter Tryz.func46, Tryz.ntmps46
  go_wp2
  go_ret
  exact ⟨rfl, rfl⟩
/-- two results: a struct in memory, and one in a slot -/
theorem cell2_result {w : World} {b : Nat} {t : TypeId} {cs : Array Value} {fs : Array Field} (h : w.heap[b]? = some (.cells cs t (0, 0))) {fn : Func} {p q : Tmp} {ty : TypeId} (hr : fn.results = #[.cell p ty, .tmp q]) (tmps : Array Value) (hp : tmps.getD p undef = .pointer (some ⟨b, 0, none⟩))
    (hu : Tryz.prog.underlying ty = some (.struct fs)) (hi : (Tryz.prog.info? ty).map (·.size) = some cs.size) {y : Value} (hq : tmps.getD q undef = y) : (results fn tmps).run Tryz.prog w = .ok (.tuple #[.agg cs, y]) w := by
  have hp' : tmps[p]?.getD undef = .pointer (some ⟨b, 0, none⟩) := by simpa using hp
  have hq' : tmps[q]?.getD undef = y := by simpa using hq
  simp [results, hr, hp', hq', asAddr, run_loadVar_row w b t ty _ (0, 0) _ h hu rfl hi]
/-- a shard's head -/
abbrev headV (a b c : Nat) : Value := .agg #[.int .i64 (a : Int), .int .i64 (b : Int), .int .i64 (c : Int)]
/-- what heads answers -/
def hdV : Except Bad (Nat × Nat × Nat) → Value
  | .ok r => .tuple #[headV r.1 r.2.1 r.2.2, .nilIface]
  | .error b => .tuple #[.agg #[.int .i64 0, .int .i64 0, .int .i64 0], faultV (b.2 : Int) (b.1 : Int)]
set_option maxHeartbeats 4000000 in
set_option maxRecDepth 100000 in
theorem heads_calls (s : ByteArray) (N : Nat) (hs : s.size ≤ 140737488355328) (hN : N ≤ 4096) (w : World) :
    Calls Tryz.prog 52 #[.string s, .int .i64 (N : Int)] w fun e w' => e = .returned (hdV (rdHead s.data.toList N)) ∧ Hid (Below w.heap.size w w') := by
  have HS0 := Lib.hid (fun W => Short_calls s 0 (Nat.zero_le _) hs W)
  have b1 : ¬ (N : Int) < 0 := by omega
  have b2 : ¬ (N : Int) > 4096 := by omega
  have HA : Hid (Below w.heap.size w (w.alloc (.cells #[.int .i64 0, .int .i64 0, .int .i64 0] 111))) := Lib.hid ((Below.refl _ _).alloc (Nat.le_refl _) _)
  unfold rdHead
  cases hR : rdAt s.data.toList 0 with
  | error b =>
    have HS' : Hid (∀ W, Calls Tryz.prog 86 #[.string s, .int .i64 0] W fun e w' => e = .returned (.tuple #[.int .i64 0, .int .i64 0, faultV (b.2 : Int) (b.1 : Int)]) ∧ W = w') := Lib.hid (fun W => by have := HS0.out W; rw [hR] at this; exact this)
    clear HS0 hR
    go_enter Tryz.func52, Tryz.ntmps52
    go_wp2_with (go_at_call 86; refine (HS'.out _).mono ?_; rintro e w1 ⟨rfl, rfl⟩)
    exact bodyPost_ret (cell2_result (heap_alloc_new w _) rfl _ rfl Tryz.underlying111 (by kernel_rfl) rfl) rfl ⟨rfl, HA⟩
  | ok r =>
    obtain ⟨x, m⟩ := r
    have hm := (rdAt_len hR).2.1
    rw [list_sz] at hm
    simp only at hm
    have hx := (rdAt_len hR).2.2
    simp only at hx
    have hx' : x < 72057594037927936 := by simpa using hx
    have HS' : Hid (∀ W, Calls Tryz.prog 86 #[.string s, .int .i64 0] W fun e w' => e = .returned (.tuple #[.int .i64 (x : Int), .int .i64 (m : Int), .nilIface]) ∧ W = w') := Lib.hid (fun W => by have := HS0.out W; rw [hR] at this; exact this)
    have HT0 := Lib.hid (fun W => Short_calls s m hm hs W)
    clear HS0 hR hx
    simp only
    cases hR2 : rdAt s.data.toList m with
    | error b =>
      have HT' : Hid (∀ W, Calls Tryz.prog 86 #[.string s, .int .i64 (m : Int)] W fun e w' => e = .returned (.tuple #[.int .i64 0, .int .i64 (m : Int), faultV (b.2 : Int) (b.1 : Int)]) ∧ W = w') := Lib.hid (fun W => by have := HT0.out W; rw [hR2] at this; exact this)
      clear HT0 hR2
      simp only
      go_enter Tryz.func52, Tryz.ntmps52
      go_wp2_with (first
        | (go_at_call 86; (with_reducible show Calls Tryz.prog 86 #[.string s, .int .i64 0] _ _); refine (HS'.out _).mono ?_; rintro e w1 ⟨rfl, rfl⟩)
        | (go_at_call 86; refine (HT'.out _).mono ?_; rintro e w1 ⟨rfl, rfl⟩))
      exact bodyPost_ret (cell2_result (heap_alloc_new w _) rfl _ rfl Tryz.underlying111 (by kernel_rfl) rfl) rfl ⟨rfl, HA⟩
    | ok r2 =>
      obtain ⟨y, nx⟩ := r2
      have hy := (rdAt_len hR2).2.2
      simp only at hy
      have hy' : y < 72057594037927936 := by simpa using hy
      have HT' : Hid (∀ W, Calls Tryz.prog 86 #[.string s, .int .i64 (m : Int)] W fun e w' => e = .returned (.tuple #[.int .i64 (y : Int), .int .i64 (nx : Int), .nilIface]) ∧ W = w') := Lib.hid (fun W => by have := HT0.out W; rw [hR2] at this; exact this)
      clear HT0 hR2 hy
      simp only
      by_cases hbad : y < 1 ∨ x > N ∨ y > N - x
      · rw [if_pos hbad]
        have HBA : Hid (¬ (y : Int) < 1 → ¬ (x : Int) > (N : Int) → (y : Int) > (N : Int) - (x : Int)) := Lib.hid (fun a b => by omega)
        clear hbad
        by_cases g1 : (y : Int) < 1
        · go_enter Tryz.func52, Tryz.ntmps52
          go_wp2_with (first
            | (go_at_call 86; (with_reducible show Calls Tryz.prog 86 #[.string s, .int .i64 0] _ _); refine (HS'.out _).mono ?_; rintro e w1 ⟨rfl, rfl⟩)
            | (go_at_call 86; refine (HT'.out _).mono ?_; rintro e w1 ⟨rfl, rfl⟩)
            | (go_at_call 46; refine (swrong_calls _ _ _).mono ?_; rintro e w1 ⟨rfl, rfl⟩))
          exact bodyPost_ret (cell2_result (heap_alloc_new w _) rfl _ rfl Tryz.underlying111 (by kernel_rfl) rfl) rfl ⟨rfl, HA⟩
        · by_cases g2 : (x : Int) > (N : Int)
          · go_enter Tryz.func52, Tryz.ntmps52
            go_wp2_with (first
              | (go_at_call 86; (with_reducible show Calls Tryz.prog 86 #[.string s, .int .i64 0] _ _); refine (HS'.out _).mono ?_; rintro e w1 ⟨rfl, rfl⟩)
              | (go_at_call 86; refine (HT'.out _).mono ?_; rintro e w1 ⟨rfl, rfl⟩)
              | (go_at_call 46; refine (swrong_calls _ _ _).mono ?_; rintro e w1 ⟨rfl, rfl⟩))
            exact bodyPost_ret (cell2_result (heap_alloc_new w _) rfl _ rfl Tryz.underlying111 (by kernel_rfl) rfl) rfl ⟨rfl, HA⟩
          · have g3 := HBA.out g1 g2
            go_enter Tryz.func52, Tryz.ntmps52
            go_wp2_with (first
              | (go_at_call 86; (with_reducible show Calls Tryz.prog 86 #[.string s, .int .i64 0] _ _); refine (HS'.out _).mono ?_; rintro e w1 ⟨rfl, rfl⟩)
              | (go_at_call 86; refine (HT'.out _).mono ?_; rintro e w1 ⟨rfl, rfl⟩)
              | (go_at_call 46; refine (swrong_calls _ _ _).mono ?_; rintro e w1 ⟨rfl, rfl⟩))
            exact bodyPost_ret (cell2_result (heap_alloc_new w _) rfl _ rfl Tryz.underlying111 (by kernel_rfl) rfl) rfl ⟨rfl, HA⟩
      · rw [if_neg hbad]
        have g1 : ¬ (y : Int) < 1 := by omega
        have g2 : ¬ (x : Int) > (N : Int) := by omega
        have g3 : ¬ (y : Int) > (N : Int) - (x : Int) := by omega
        clear hbad
        go_enter Tryz.func52, Tryz.ntmps52
        go_wp2_with (first
          | (go_at_call 86; (with_reducible show Calls Tryz.prog 86 #[.string s, .int .i64 0] _ _); refine (HS'.out _).mono ?_; rintro e w1 ⟨rfl, rfl⟩)
          | (go_at_call 86; refine (HT'.out _).mono ?_; rintro e w1 ⟨rfl, rfl⟩))
        exact bodyPost_ret (cell2_result (heap_alloc_new w _) rfl _ rfl Tryz.underlying111 (by kernel_rfl) rfl) rfl ⟨rfl, Lib.hid ((Below.refl _ _).alloc (Nat.le_refl _) _)⟩
set_option maxHeartbeats 1000000 in
theorem marks_calls (a b c : Nat) (hb : b ≤ 4096) (w : World) :
    Calls Tryz.prog 54 #[headV a b c] w fun e w' => e = .returned (.int .i64 (((b + 7) / 8 : Nat) : Int)) ∧ Hid (Below w.heap.size w w') := by
  have e0 : (((b + 7) / 8 : Nat) : Int) = ((b : Int) + 7) / 8 := by omega
  have e1 : (b : Int) + 8 - 1 = (b : Int) + 7 := by omega
  rw [e0]
  clear e0
  go_enter Tryz.func54, Tryz.ntmps54
  go_wp2
  go_ret
  exact ⟨rfl, Lib.hid ((Below.refl _ _).alloc (Nat.le_refl _) _)⟩
/-- what index answers -/
def IG (R : Except Bad (List Nat × List Nat × Nat)) (w w' : World) (e : Ending) : Prop := match R with
  | .error b => e = .returned (.tuple #[.slice none 0 0, .slice none 0 0, .int .i64 0, faultV (b.2 : Int) (b.1 : Int)])
  | .ok q => ∃ u v, e = .returned (.tuple #[u, v, .int .i64 (q.2.2 : Int), .nilIface]) ∧ OJ w' w.heap.size u (q.1.map Int.ofNat) ∧ OJ w' w.heap.size v (q.2.1.map Int.ofNat)
/-- what is still to be read of the index leads to R -/
def LeadI (R : Except Bad (List Nat × List Nat × Nat)) (M P : List Nat) (S : Except Bad (List Nat × List Nat × Nat)) : Prop := match S with
  | .error b => R = .error b
  | .ok q => R = .ok (M ++ q.1, P ++ q.2.1, q.2.2)
theorem LeadI.bad {R : Except Bad (List Nat × List Nat × Nat)} {M P : List Nat} {bs : List UInt8} {k a : Nat} {b : Bad} (h : LeadI R M P (rdIdx bs (k + 1) a)) (hR : rdAt bs a = .error b) : R = .error b := by
  rw [rdIdx, hR] at h; exact h
theorem LeadI.next {R : Except Bad (List Nat × List Nat × Nat)} {M P : List Nat} {bs : List UInt8} {k a x nx : Nat} (h : LeadI R M P (rdIdx bs (k + 1) a)) (hR : rdAt bs a = .ok (x, nx)) : LeadI R (M ++ [x]) (P ++ [a]) (rdIdx bs k nx) := by
  rw [rdIdx, hR] at h
  simp only at h
  cases e : rdIdx bs k nx with
  | error b => rw [e] at h; exact h
  | ok q => rw [e] at h; unfold LeadI at h ⊢; simp only at h ⊢; rw [h]; simp
theorem LeadI.done {R : Except Bad (List Nat × List Nat × Nat)} {M P : List Nat} {bs : List UInt8} {a : Nat} (h : LeadI R M P (rdIdx bs 0 a)) : R = .ok (M, P, a) := by
  rw [rdIdx] at h; unfold LeadI at h; simpa using h
end Go.Proofs.YtjokfllldcjheaaGreatDoor.Oc
/- shard, walked: index. -/
namespace Go.Proofs.YtjokfllldcjheaaGreatDoor.Oc
open Go.RowKit Go.Proofs.YtjokfllldcjheaaGreatDoor.Sha Go.Proofs.YtjokfllldcjheaaGreatDoor.Ro Go.Proofs.YtjokfllldcjheaaGreatDoor.Cs Go.Proofs.YtjokfllldcjheaaGreatDoor.Ed
set_option linter.unusedVariables false
set_option linter.unusedSimpArgs false
/-- two rows of one's own, apart -/
structure R2 (w wz : World) (B : Nat) (u v : Value) (A F : List Int) : Prop where
  one : OJ wz B u A
  two : OJ wz B v F
  ne : ∀ k, u.ownBlock = some k → v.ownBlock ≠ some k
  bel : Below B w wz
theorem R2.later {w wz wy : World} {B : Nat} {u v : Value} {A F : List Int} (h : R2 w wz B u v A F) (hB : B ≤ wz.heap.size) (hb : Below wz.heap.size wz wy) : R2 w wy B u v A F :=
  ⟨h.one.later hb, h.two.later hb, h.ne, h.bel.trans (hb.mono hB)⟩
theorem R2.swap {w wz : World} {B : Nat} {u v : Value} {A F : List Int} (h : R2 w wz B u v A F) : R2 w wz B v u F A := ⟨h.two, h.one, fun k e e2 => h.ne k e2 e, h.bel⟩
theorem R2.push {w wz w3 : World} {B : Nat} {u v v1 : Value} {A F A' : List Int} (h : R2 w wz B u v A F) (hB : B ≤ wz.heap.size) (ob : Obj) (k1 : OJ w3 B v1 A') (k2 : (wz.alloc ob).grownBy w3 u.ownBlock) (k3 : v1.ownBlock = u.ownBlock ∨ v1.ownBlock = some (wz.alloc ob).heap.size) : R2 w w3 B v1 v A' F := by
  have hs : (wz.alloc ob).heap.size = wz.heap.size + 1 := by simp
  refine ⟨k1, (h.two.alloc ob).kept k2 ?_, fun k e e2 => ?_, (h.bel.alloc hB ob).grown k2 (by rw [hs]; omega) (OJ.base h.one)⟩
  · cases e : v.ownBlock with
    | none => exact .inl rfl
    | some j => exact .inr fun e2 => h.ne j e2.symm e
  · rcases k3 with k3 | k3
    · exact h.ne k (k3 ▸ e) e2
    · have := OJ.lt h.two k e2
      rw [k3, hs] at e
      injection e with e
      omega
theorem map_snoc (M : List Nat) (x : Nat) : (M ++ [x]).map Int.ofNat = M.map Int.ofNat ++ [(x : Int)] := by simp
set_option maxHeartbeats 4000000 in
set_option maxRecDepth 100000 in
theorem index_calls (s : ByteArray) (a b c n : Nat) (hs : s.size ≤ 140737488355328) (hc : c ≤ s.size) (hn : n ≤ 1000) (w : World) :
    Calls Tryz.prog 53 #[headV a b c, .string s, .int .i64 (n : Int)] w fun e w' => Hid (IG (rdIdx s.data.toList n c) w w' e) ∧ Hid (Below w.heap.size w w') := by
  obtain ⟨R, hR⟩ : ∃ R, rdIdx s.data.toList n c = R := ⟨_, rfl⟩
  rw [hR]
  have HLE : Hid (LeadI R [] [] (rdIdx s.data.toList (n - 0) c)) := Lib.hid (by
    rw [Nat.sub_zero, hR]; unfold LeadI
    cases R with
    | error b => rfl
    | ok q => simp)
  have HB0 : Hid (R2 w (w.alloc (.cells #[.int .i64 (a : Int), .int .i64 (b : Int), .int .i64 (c : Int)] 111)) w.heap.size (.slice none 0 0) (.slice none 0 0) [] []) := Lib.hid ⟨OJ.nil _ _, OJ.nil _ _, by simp [Value.ownBlock], (Below.refl _ _).alloc (Nat.le_refl _) _⟩
  clear hR
  go_enter Tryz.func53, Tryz.ntmps53
  go_upto_region 4 with (fail)
  go_loopw [10, 11, 12, 19] (fun u v p x wz => ∃ (i at_ : Nat) (M P : List Nat), p = .int .i64 (at_ : Int) ∧ x = .int .i64 (i : Int) ∧ i ≤ n ∧ at_ ≤ s.size ∧ Hid (M.length = i ∧ P.length = i) ∧ Hid (LeadI R M P (rdIdx s.data.toList (n - i) at_)) ∧ Hid (R2 w wz w.heap.size u v (M.map Int.ofNat) (P.map Int.ofNat))) (fun _ _ _ x _ => n - (intOf x).toNat)
  case atStart => exact ⟨0, c, [], [], rfl, rfl, Nat.zero_le _, hc, Lib.hid ⟨rfl, rfl⟩, HLE, HB0⟩
  case round =>
    clear HLE HB0
    obtain ⟨i, at_, M, P, rfl, rfl, hi, hat, HLN, HLE, HT⟩ := hrel
    have hBz := HT.out.bel.size
    have HML : Hid ((M.map Int.ofNat).length ≤ 1000) := Lib.hid (by rw [List.length_map, HLN.out.1]; omega)
    have HPL : Hid ((P.map Int.ofNat).length ≤ 1000) := Lib.hid (by rw [List.length_map, HLN.out.2]; omega)
    by_cases hlt : i < n
    · have i1 : (i : Int) < (n : Int) := by omega
      have hk : n - i = (n - (i + 1)) + 1 := by omega
      rw [hk] at HLE
      have HS := Lib.hid (Short_calls s at_ hat hs wr)
      cases hA : rdAt s.data.toList at_ with
      | error bd =>
        have HRB := Lib.hid (HLE.out.bad hA)
        have HS' : Hid (Calls Tryz.prog 86 #[.string s, .int .i64 (at_ : Int)] wr fun e w' => e = .returned (.tuple #[.int .i64 0, .int .i64 (at_ : Int), faultV (bd.2 : Int) (bd.1 : Int)]) ∧ wr = w') := Lib.hid (by have := HS.out; rw [hA] at this; exact this)
        clear HS HLE hA hk
        go_wp2_with (go_at_call 86; refine HS'.out.mono ?_; rintro e w1 ⟨rfl, rfl⟩)
        refine bodyPost_ret (v := .tuple #[.slice none 0 0, .slice none 0 0, .int .i64 0, faultV (bd.2 : Int) (bd.1 : Int)]) (by simp [results, Tryz.results53, go_sem]) rfl ⟨Lib.hid (by rw [HRB.out]; rfl), Lib.hid HT.out.bel⟩
      | ok q =>
        obtain ⟨x, nx⟩ := q
        have hq := (rdAt_len hA).2.1
        rw [list_sz] at hq
        simp only at hq
        have hx := (rdAt_len hA).2.2
        simp only at hx
        have hx' : x < 72057594037927936 := by simpa using hx
        have HLN2 := Lib.hid (HLE.out.next hA)
        have HS' : Hid (Calls Tryz.prog 86 #[.string s, .int .i64 (at_ : Int)] wr fun e w' => e = .returned (.tuple #[.int .i64 (x : Int), .int .i64 (nx : Int), .nilIface]) ∧ wr = w') := Lib.hid (by have := HS.out; rw [hA] at this; exact this)
        obtain ⟨uA, uc, hu, -⟩ := id HT.out.one.shape
        obtain ⟨vA, vc, hv, -⟩ := id HT.out.two.shape
        obtain ⟨un, hun⟩ : ∃ un, (M.map Int.ofNat).length = un := ⟨_, rfl⟩
        obtain ⟨vn, hvn⟩ : ∃ vn, (P.map Int.ofNat).length = vn := ⟨_, rfl⟩
        rw [hun] at hu
        rw [hvn] at hv
        subst hu hv
        clear HS HLE hA hk hx hun hvn
        go_upto_region 8 with (go_at_call 86; refine HS'.out.mono ?_; rintro e w1 ⟨rfl, rfl⟩)
        go_wp2_with (first
          | (at_builtin; refine OJ.app_on (base := w.heap.size) (HT.out.one.alloc _) (JR.lit _ [(x : Int)] _ rfl 1 rfl (by simp)) rfl _ _ rfl rfl rfl (by simp; omega) (by have := HML.out; simp only [List.length_cons, List.length_nil]; omega) ?_; intro v1 w3 k1 k2 k3; have HT3 := Lib.hid (HT.out.push hBz _ k1 k2 k3); have hBz3 := HT3.out.bel.size; clear k1 k2 k3)
          | (at_builtin; refine OJ.app_on (base := w.heap.size) (HT3.out.two.alloc _) (JR.lit _ [(at_ : Int)] _ rfl 1 rfl (by simp)) rfl _ _ rfl rfl rfl (by simp; omega) (by have := HPL.out; simp only [List.length_cons, List.length_nil]; omega) ?_; intro v2 w4 k1 k2 k3; have HT4 := Lib.hid (HT3.out.swap.push hBz3 _ k1 k2 k3).swap; clear k1 k2 k3))
        go_roundw
        case rel => exact ⟨i + 1, nx, M ++ [x], P ++ [at_], rfl, by go_num, by omega, hq, Lib.hid (by simp [HLN.out.1, HLN.out.2]), HLN2, Lib.hid (by rw [map_snoc, map_snoc]; exact HT4.out)⟩
        case measure => simp [intOf]; omega
    · obtain rfl : n = i := by omega
      have HF : Hid (R = .ok (M, P, at_)) := Lib.hid (by have := HLE.out; rw [Nat.sub_self] at this; exact this.done)
      clear HLE
      have i1 : ¬ (n : Int) < (n : Int) := by omega
      go_wp2
      refine bodyPost_ret (v := .tuple #[_, _, .int .i64 (at_ : Int), .nilIface]) (by simp [results, Tryz.results53, go_sem]; exact ⟨rfl, rfl⟩) rfl ⟨Lib.hid (by rw [HF.out]; exact ⟨_, _, rfl, HT.out.one, HT.out.two⟩), Lib.hid HT.out.bel⟩
end Go.Proofs.YtjokfllldcjheaaGreatDoor.Oc
