/- csr: the turned graph, Same, a graph that is none. · csr: Turned, Same. -/
import Derived.Test.YtjokfllldcjheaaGreatDoorRt
import Derived.BigQuiet
/- csr: the turned graph, Same, a graph that is none. -/
namespace Go.Proofs.YtjokfllldcjheaaGreatDoor.Ed
set_option linter.unusedVariables false
set_option linter.unusedSimpArgs false
theorem trn_len (l : List E2) : (trn l).length = l.length := List.length_map _
theorem mem_trn {l : List E2} {x : E2} : x ∈ trn l ↔ (x.2, x.1) ∈ l := by
  unfold trn
  rw [List.mem_map]
  constructor
  · rintro ⟨⟨a, b⟩, h, rfl⟩; exact h
  · intro h; exact ⟨(x.2, x.1), h, rfl⟩
theorem trn_twice {l : List E2} (h : Up l) : nrm (trn (nrm (trn l))) = l :=
  (nrm_eq h fun x => by rw [mem_trn, mem_nrm, mem_trn]).symm
theorem trn_nrm_len {l : List E2} (h : Up l) : (nrm (trn l)).length = l.length := by
  have h1 := nrm_len (trn l)
  have h2 := nrm_len (trn (nrm (trn l)))
  rw [trn_twice h, trn_len] at h2
  rw [trn_len] at h1
  omega
theorem wrg_trn {N : Int} {l : List E2} (h0 : 0 ≤ N) (h1 : N ≤ 4096) (h2 : l.length ≤ 20000) (h3 : ∀ e ∈ l, okE N e) : wrg N (trn l) = -2 := by
  refine wrg_ok.2 ⟨h0, h1, by rw [trn_len]; exact h2, fun e he => ?_⟩
  have := h3 _ (mem_trn.1 he)
  unfold okE at *
  exact ⟨this.2.1, this.1, this.2.2.2, this.2.2.1⟩
theorem lists_congr {a b : List E2} (N : Nat) (h : ∀ v : Nat, v < N → tgt a v = tgt b v) : ∀ n, n ≤ N → lists a n = lists b n
  | 0, _ => rfl
  | n + 1, hn => by rw [lists, lists, lists_congr N h n (by omega), h n (by omega)]
end Go.Proofs.YtjokfllldcjheaaGreatDoor.Ed
namespace Go.Proofs.YtjokfllldcjheaaGreatDoor.Cs
open Go.RowKit Go.Proofs.YtjokfllldcjheaaGreatDoor.Ed Go.Proofs.YtjokfllldcjheaaGreatDoor.Ro
set_option linter.unusedVariables false
set_option linter.unusedSimpArgs false
/-- two graphs' rows are one just if the graphs are -/
theorem rows_eq {N M : Nat} {a b : List E2} (ha : Up a) (hb : Up b) (oa : ∀ e ∈ a, okE N e) (ob : ∀ e ∈ b, okE M e) :
    (rowF (begF a) (N + 1) = rowF (begF b) (M + 1) ∧ tos a = tos b) ↔ (N = M ∧ a = b) := by
  constructor
  · rintro ⟨h1, h2⟩
    have hl := congrArg List.length h1
    rw [rowF_len, rowF_len] at hl
    obtain rfl : N = M := by omega
    refine ⟨rfl, ?_⟩
    have hbel : ∀ v : Nat, v ≤ N → bel a v = bel b v := fun v hv => by
      have := congrArg (fun x : List Int => x.getD v 0) h1
      rw [rowF_get _ (by omega), rowF_get _ (by omega)] at this
      unfold begF at this
      omega
    rw [← lists_all ha N oa, ← lists_all hb N ob]
    refine lists_congr N (fun v hv => ?_) N (Nat.le_refl _)
    have e1 := hbel v (by omega)
    have e2 := hbel (v + 1) (by omega)
    rw [show ((v + 1 : Nat) : Int) = (v : Int) + 1 by omega, bel_step, bel_step] at e2
    rw [tgt_piece a ha, tgt_piece b hb, h2, e1, show deg a (v : Int) = deg b (v : Int) by omega]
  · rintro ⟨rfl, rfl⟩
    exact ⟨rfl, rfl⟩
end Go.Proofs.YtjokfllldcjheaaGreatDoor.Cs
namespace Go.Proofs.YtjokfllldcjheaaGreatDoor.Ro
open Go.RowKit
set_option linter.unusedVariables false
set_option linter.unusedSimpArgs false
set_option maxHeartbeats 2000000 in
set_option maxRecDepth 100000 in
/-- slices.Equal at integers -/
theorem iequal_calls (g1 g2 : Nat) (v1 v2 : Value) (a b : List Int) (w : World) (h1 : JR w g1 v1 a) (h2 : JR w g2 v2 b) :
    Calls Tryz.prog 47 #[v1, v2] w fun e w' => e = .returned (.bool (decide (a = b))) ∧ ∃ q, w' = w.drewN q := by
  obtain ⟨A1, c1, o1, rfl, hc1, hm1, hr1⟩ := h1
  obtain ⟨A2, c2, o2, rfl, hc2, hm2, hr2⟩ := h2
  obtain ⟨n, hn⟩ : ∃ n, a.length = n := ⟨_, rfl⟩
  obtain ⟨m, hm⟩ : ∃ m, b.length = m := ⟨_, rfl⟩
  rw [hn] at hc1 hr1 ⊢
  rw [hm] at hc2 hr2 ⊢
  by_cases hnm : n = m
  case neg =>
    have hd : decide (a = b) = false := decide_eq_false (fun e => hnm (by rw [← hn, ← hm, e]))
    have hb : ((n : Int) != (m : Int)) = true := by rw [bne_iff_ne]; omega
    rw [hd]
    clear hd hn hm hnm hr1 hr2
    go_enter Tryz.func47, Tryz.ntmps47
    go_wp2
    go_ret
    exact ⟨rfl, 0, rfl⟩
  case pos =>
    subst hnm
    have HN := Lib.hid hn
    have HM := Lib.hid hm
    have H1 := Lib.hid hr1
    have H2 := Lib.hid hr2
    obtain ⟨r, hr⟩ : ∃ r, decide (a = b) = r := ⟨_, rfl⟩
    rw [hr]
    have HR := Lib.hid hr
    clear hn hm hr1 hr2 hr
    have hb : ((n : Int) != (n : Int)) = false := by simp
    go_enter Tryz.func47, Tryz.ntmps47
    go_wp2
    go_loopw [13] (fun i wr => ∃ (k q : Nat), i = .int .i64 (k : Int) ∧ k ≤ n ∧ Hid (samI a b k) ∧ wr = w.drewN q) (fun i _ => n - (intOf i).toNat)
    case atStart => exact ⟨0, 0, rfl, by omega, Lib.hid (fun j hj => by omega), rfl⟩
    case round =>
      obtain ⟨k, q, rfl, hk, HS, rfl⟩ := hrel
      by_cases hlt : k < n
      · obtain ⟨rfl, -, hq1⟩ := H1.out (by omega)
        obtain ⟨rfl, -, hq2⟩ := H2.out (by omega)
        have q1 := hq1 k hlt
        have q2 := hq2 k hlt
        clear hq1 hq2
        obtain ⟨x, hx⟩ : ∃ x, a.getD k 0 = x := ⟨_, rfl⟩
        obtain ⟨y, hy⟩ : ∃ y, b.getD k 0 = y := ⟨_, rfl⟩
        rw [hx] at q1
        rw [hy] at q2
        have HX := Lib.hid hx
        have HY := Lib.hid hy
        clear hx hy
        have i0 : (0 : Int) ≤ (k : Int) := by omega
        have i1 : (k : Int) < (n : Int) := by omega
        by_cases hxy : x = y
        · have hxx : (x != y) = false := by simp [hxy]
          have HXY := Lib.hid hxy
          clear hxy
          go_upto_region 6 with (fail)
          go_quiet (fail)
          go_wp2
          go_roundw
          case rel => exact ⟨k + 1, q + nq, by go_num, by omega, Lib.hid (fun j hj => by
            by_cases e : j = k
            · subst e; rw [HX.out, HY.out]; exact HXY.out
            · exact HS.out j (by omega)), rfl⟩
          case measure => simp [intOf]; omega
        · have hxx : (x != y) = true := by simpa using hxy
          have hd : r = false := by rw [← HR.out]; exact decide_eq_false (fun e => hxy (by rw [← HX.out, ← HY.out, e]))
          subst hd
          clear hxy
          go_upto_region 6 with (fail)
          go_quiet (fail)
          go_wp2
          go_ret
          exact ⟨rfl, q + nq, rfl⟩
      · obtain rfl : k = n := by omega
        have hd : r = true := by rw [← HR.out]; exact decide_eq_true (samI_all (by rw [HN.out, HM.out]) (by rw [HN.out]; exact HS.out))
        subst hd
        clear hlt
        go_wp2
        go_ret
        exact ⟨rfl, q, rfl⟩
/-- the same from any world that drew, in one word of a letter -/
theorem iequal_quiet (g1 g2 : Nat) (v1 v2 : Value) (a b : List Int) (w : World) (h1 : JR w g1 v1 a) (h2 : JR w g2 v2 b) (r : Bool) (hr : decide (a = b) = r) (n : Nat) :
    Calls Tryz.prog 47 #[v1, v2] (w.drewN n) fun e w' => e = .returned (.bool r) ∧ ∃ m, w' = w.drewN m := by
  refine (iequal_calls g1 g2 v1 v2 a b _ (h1.drewN n) (h2.drewN n)).mono ?_
  rintro e w' ⟨he, q, rfl⟩
  exact ⟨by rw [he, hr], n + q, by simp [World.drewN, Nat.add_assoc]⟩
end Go.Proofs.YtjokfllldcjheaaGreatDoor.Ro
namespace Go.Proofs.YtjokfllldcjheaaGreatDoor.Cs
open Go.RowKit Go.Proofs.YtjokfllldcjheaaGreatDoor.Ed Go.Proofs.YtjokfllldcjheaaGreatDoor.Ro
set_option linter.unusedVariables false
set_option linter.unusedSimpArgs false
set_option maxHeartbeats 1000000 in
theorem targets_nil (v : Int) (w : World) : Calls Tryz.prog 84 #[.pointer none, .int .i64 v] w fun e w' => e = .returned (.tuple #[.slice none 0 0, noV 1]) ∧ w = w' := by
  have hq : (binOp .eql 53 (.slice none 0 0) (.slice none 0 0)).run Tryz.prog w = .ok (.bool true) w := Lib.run_eql_slice_nil (P := Tryz.prog) w 53 3 none 0 0 0 0 Tryz.underlying53
  have HC : Hid (Calls Tryz.prog 115 #[.slice none 0 0] w fun e w' => e = .returned (.slice none 0 0) ∧ w = w') := Lib.hid (by
    go_enter Tryz.func115, Tryz.ntmps115
    go_wp2
    go_ret
    exact ⟨rfl, rfl⟩)
  clear hq
  go_enter Tryz.func84, Tryz.ntmps84
  go_wp2_with (first
    | (go_at_call 114; refine (row_nil _ _).mono ?_; rintro e w1 ⟨rfl, rfl⟩)
    | (go_at_call 115; refine HC.out.mono ?_; rintro e w2 ⟨rfl, rfl⟩))
  go_ret2
  exact ⟨rfl, rfl⟩
set_option maxHeartbeats 1000000 in
theorem nodes_nil (w : World) : Calls Tryz.prog 43 #[.pointer none] w fun e w' => e = .returned (.int .i64 0) ∧ w = w' := by
  go_enter Tryz.func43, Tryz.ntmps43
  go_wp2
  go_ret
  exact ⟨rfl, rfl⟩
set_option maxHeartbeats 1000000 in
theorem edges_nil (w : World) : Calls Tryz.prog 31 #[.pointer none] w fun e w' => e = .returned (.int .i64 0) ∧ w = w' := by
  go_enter Tryz.func31, Tryz.ntmps31
  go_wp2
  go_ret
  exact ⟨rfl, rfl⟩
set_option maxHeartbeats 1000000 in
theorem csame_nil (w : World) : Calls Tryz.prog 16 #[.pointer none, .pointer none] w fun e w' => e = .returned (.bool true) ∧ w = w' := by
  go_enter Tryz.func16, Tryz.ntmps16
  go_wp2
  go_ret
  exact ⟨rfl, rfl⟩
theorem run_eql_nil_ptr {P : Program} (w : World) {tp te : TypeId} (a : Addr) (hp : P.underlying tp = some (.pointer te)) : (binOp .eql tp (.pointer none) (.pointer (some a))).run P w = .ok (.bool false) w := by
  have h : ∀ d : Nat, (Op.equalIn (d + 1) tp (.pointer none) (.pointer (some a))).run P w = .ok false w := fun d => by simp [Op.equalIn, run_underlying hp]
  simp only [binOp]
  simp [Op.equal, Op.maxDepth, h 9999]
set_option maxHeartbeats 1000000 in
theorem csame_nilp (p : Nat) (w : World) : Calls Tryz.prog 16 #[.pointer none, pV p] w fun e w' => e = .returned (.bool false) ∧ w = w' := by
  have hq : (binOp .eql 26 (.pointer none) (pV p)).run Tryz.prog w = .ok (.bool false) w := run_eql_nil_ptr w _ Tryz.underlying26
  go_enter Tryz.func16, Tryz.ntmps16
  go_wp2
  go_ret
  exact ⟨rfl, rfl⟩
end Go.Proofs.YtjokfllldcjheaaGreatDoor.Cs
/- csr: Turned, Same. -/
namespace Go.Proofs.YtjokfllldcjheaaGreatDoor.Cs
open Go.RowKit Go.Proofs.YtjokfllldcjheaaGreatDoor.Ed Go.Proofs.YtjokfllldcjheaaGreatDoor.Ro
set_option linter.unusedVariables false
set_option linter.unusedSimpArgs false
set_option maxHeartbeats 2000000 in
set_option maxRecDepth 100000 in
theorem csame_q {w : World} {B p bb N B2 p2 bb2 M : Nat} {tv tv2 : Value} {l m : List E2} (h : CS w B p bb tv N l) (h2 : CS w B2 p2 bb2 tv2 M m) :
    Calls Tryz.prog 16 #[pV p, pV p2] w fun e w' => e = .returned (.bool (decide (N = M ∧ l = m))) ∧ ∃ q, w' = w.drewN q := by
  obtain ⟨c0, c1⟩ := h.cells
  obtain ⟨d0, d1⟩ := h2.cells
  obtain ⟨g1, hg1, -⟩ := h.beg.reads
  obtain ⟨g2, hg2, -⟩ := h2.beg.reads
  obtain ⟨g3, hg3, -⟩ := h.row.reads
  obtain ⟨g4, hg4, -⟩ := h2.row.reads
  have he := rows_eq h.up h2.up h.ok h2.ok
  obtain ⟨r1, hr1⟩ : ∃ r, decide (rowF (begF l) (N + 1) = rowF (begF m) (M + 1)) = r := ⟨_, rfl⟩
  obtain ⟨r2, hr2⟩ : ∃ r, decide (tos l = tos m) = r := ⟨_, rfl⟩
  have hd : decide (N = M ∧ l = m) = (r1 && r2) := by
    rw [← hr1, ← hr2, ← Bool.decide_and, decide_eq_decide]; exact he.symm
  rw [hd]
  have HQ1 : Hid (∀ n, Calls Tryz.prog 47 #[begV bb N, begV bb2 M] (w.drewN n) fun e w' => e = .returned (.bool r1) ∧ ∃ m, w' = w.drewN m) := Lib.hid (fun n => iequal_quiet g1 g2 _ _ _ _ w hg1 hg2 r1 hr1 n)
  obtain ⟨A3, k3, rfl, -⟩ := h.row.shape
  obtain ⟨A4, k4, rfl, -⟩ := h2.row.shape
  have HQ2 : Hid (∀ n, Calls Tryz.prog 47 #[.slice A3 (tos l).length k3, .slice A4 (tos m).length k4] (w.drewN n) fun e w' => e = .returned (.bool r2) ∧ ∃ m, w' = w.drewN m) := Lib.hid (fun n => iequal_quiet g3 g4 _ _ _ _ w hg3 hg4 r2 hr2 n)
  generalize (tos l).length = n1 at HQ2 c1
  generalize (tos m).length = n2 at HQ2 d1
  clear hd hr1 hr2 he h h2 hg1 hg2 hg3 hg4
  cases r1
  · go_enter Tryz.func16, Tryz.ntmps16
    go_upto_region 3 with (fail)
    go_big_quiet (first | (go_at_call 47; (with_reducible show Calls Tryz.prog 47 #[begV bb N, begV bb2 M] _ _); exact HQ1.out _) | (go_at_call 47; exact HQ2.out _))
    go_wp2
    go_ret
    exact ⟨rfl, _, rfl⟩
  · go_enter Tryz.func16, Tryz.ntmps16
    go_upto_region 3 with (fail)
    go_big_quiet (first | (go_at_call 47; (with_reducible show Calls Tryz.prog 47 #[begV bb N, begV bb2 M] _ _); exact HQ1.out _) | (go_at_call 47; exact HQ2.out _))
    go_wp2
    go_ret
    exact ⟨rfl, _, rfl⟩
theorem csame_calls {w : World} {B p bb N B2 p2 bb2 M : Nat} {tv tv2 : Value} {l m : List E2} (h : CS w B p bb tv N l) (h2 : CS w B2 p2 bb2 tv2 M m) :
    Calls Tryz.prog 16 #[pV p, pV p2] w fun e w' => e = .returned (.bool (decide (N = M ∧ l = m))) ∧ Hid (Below w.heap.size w w') :=
  (csame_q h h2).mono fun e w' ⟨he, q, hq⟩ => ⟨he, Lib.hid (by rw [hq]; exact Ed.drewN_below _ _ _)⟩
theorem csame_quiet {w : World} {B p bb N B2 p2 bb2 M : Nat} {tv tv2 : Value} {l m : List E2} (h : CS w B p bb tv N l) (h2 : CS w B2 p2 bb2 tv2 M m) (r : Bool) (hr : decide (N = M ∧ l = m) = r) (n : Nat) :
    Calls Tryz.prog 16 #[pV p, pV p2] (w.drewN n) fun e w' => e = .returned (.bool r) ∧ ∃ q, w' = w.drewN q := by
  refine (csame_q (h.later (Ed.drewN_below _ _ n)) (h2.later (Ed.drewN_below _ _ n))).mono ?_
  rintro e w' ⟨he, q, rfl⟩
  exact ⟨by rw [he, hr], n + q, by simp [World.drewN, Nat.add_assoc]⟩
end Go.Proofs.YtjokfllldcjheaaGreatDoor.Cs
