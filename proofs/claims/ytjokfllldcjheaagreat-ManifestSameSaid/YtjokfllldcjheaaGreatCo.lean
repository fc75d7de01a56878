/- csr: the turned graph, Same, a graph that is none. · csr: Turned, Same. -/
import Derived.Test.YtjokfllldcjheaaGreatRt
import Derived.BigQuiet
/- csr: the turned graph, Same, a graph that is none. -/
namespace Go.Proofs.YtjokfllldcjheaaGreat.Ed
set_option linter.unusedVariables false
set_option linter.unusedSimpArgs false
theorem trn_len (l : List E2) : (trn l).length = l.length := List.length_map _
theorem mem_trn {l : List E2} {x : E2} : x ∈ trn l ↔ (x.2, x.1) ∈ l := by
  unfold trn
  rw [List.mem_map]
  constructor
  · rintro ⟨⟨a, b⟩, h, rfl⟩; exact h
  · intro h; exact ⟨(x.2, x.1), h, rfl⟩
theorem trn_twice {l : List E2} (h : Up l) : nrm (trn (nrm (trn l))) = l :=
  (nrm_eq h fun x => by rw [mem_trn, mem_nrm, mem_trn]).symm
theorem trn_nrm_len {l : List E2} (h : Up l) : (nrm (trn l)).length = l.length := by
  have h1 := nrm_len (trn l)
  have h2 := nrm_len (trn (nrm (trn l)))
  rw [trn_twice h, trn_len] at h2
  rw [trn_len] at h1
  omega
theorem wrg_trn {N : Int} {l : List E2} (h0 : 0 ≤ N) (h1 : N ≤ 4096) (h2 : l.length ≤ 20000) (h3 : ∀ e ∈ l, okE N e) : wrg N (trn l) = -2 := by
  refine wrg_ok.2 ⟨h0, h1, by rw [trn_len]; exact h2, fun e he => ?_⟩
  have := h3 _ (mem_trn.1 he)
  unfold okE at *
  exact ⟨this.2.1, this.1, this.2.2.2, this.2.2.1⟩
theorem lists_congr {a b : List E2} (N : Nat) (h : ∀ v : Nat, v < N → tgt a v = tgt b v) : ∀ n, n ≤ N → lists a n = lists b n
  | 0, _ => rfl
  | n + 1, hn => by rw [lists, lists, lists_congr N h n (by omega), h n (by omega)]
end Go.Proofs.YtjokfllldcjheaaGreat.Ed
namespace Go.Proofs.YtjokfllldcjheaaGreat.Cs
open Go.RowKit Go.Proofs.YtjokfllldcjheaaGreat.Ed Go.Proofs.YtjokfllldcjheaaGreat.Ro
set_option linter.unusedVariables false
set_option linter.unusedSimpArgs false
/-- two graphs' rows are one just if the graphs are -/
theorem rows_eq {N M : Nat} {a b : List E2} (ha : Up a) (hb : Up b) (oa : ∀ e ∈ a, okE N e) (ob : ∀ e ∈ b, okE M e) :
    (rowF (begF a) (N + 1) = rowF (begF b) (M + 1) ∧ tos a = tos b) ↔ (N = M ∧ a = b) := by
  constructor
  · rintro ⟨h1, h2⟩
    have hl := congrArg List.length h1
    rw [rowF_len, rowF_len] at hl
    obtain rfl : N = M := by omega
    refine ⟨rfl, ?_⟩
    have hbel : ∀ v : Nat, v ≤ N → bel a v = bel b v := fun v hv => by
      have := congrArg (fun x : List Int => x.getD v 0) h1
      rw [rowF_get _ (by omega), rowF_get _ (by omega)] at this
      unfold begF at this
      omega
    rw [← lists_all ha N oa, ← lists_all hb N ob]
    refine lists_congr N (fun v hv => ?_) N (Nat.le_refl _)
    have e1 := hbel v (by omega)
    have e2 := hbel (v + 1) (by omega)
    rw [show ((v + 1 : Nat) : Int) = (v : Int) + 1 by omega, bel_step, bel_step] at e2
    rw [tgt_piece a ha, tgt_piece b hb, h2, e1, show deg a (v : Int) = deg b (v : Int) by omega]
  · rintro ⟨rfl, rfl⟩
    exact ⟨rfl, rfl⟩
end Go.Proofs.YtjokfllldcjheaaGreat.Cs
namespace Go.Proofs.YtjokfllldcjheaaGreat.Ro
open Go.RowKit
set_option linter.unusedVariables false
set_option linter.unusedSimpArgs false
end Go.Proofs.YtjokfllldcjheaaGreat.Ro
namespace Go.Proofs.YtjokfllldcjheaaGreat.Cs
open Go.RowKit Go.Proofs.YtjokfllldcjheaaGreat.Ed Go.Proofs.YtjokfllldcjheaaGreat.Ro
set_option linter.unusedVariables false
set_option linter.unusedSimpArgs false
set_option maxHeartbeats 1000000 in
theorem targets_nil (v : Int) (w : World) : Calls Tryz.prog 64 #[.pointer none, .int .i64 v] w fun e w' => e = .returned (.tuple #[.slice none 0 0, noV 1]) ∧ w = w' := by
  have hq : (binOp .eql 50 (.slice none 0 0) (.slice none 0 0)).run Tryz.prog w = .ok (.bool true) w := Lib.run_eql_slice_nil (P := Tryz.prog) w 50 3 none 0 0 0 0 Tryz.underlying50
  have HC : Hid (Calls Tryz.prog 89 #[.slice none 0 0] w fun e w' => e = .returned (.slice none 0 0) ∧ w = w') := Lib.hid (by
    go_enter Tryz.func89, Tryz.ntmps89
    go_wp2
    go_ret
    exact ⟨rfl, rfl⟩)
  clear hq
  go_enter Tryz.func64, Tryz.ntmps64
  go_wp2_with (first
    | (go_at_call 88; refine (row_nil _ _).mono ?_; rintro e w1 ⟨rfl, rfl⟩)
    | (go_at_call 89; refine HC.out.mono ?_; rintro e w2 ⟨rfl, rfl⟩))
  go_ret2
  exact ⟨rfl, rfl⟩
set_option maxHeartbeats 1000000 in
theorem nodes_nil (w : World) : Calls Tryz.prog 32 #[.pointer none] w fun e w' => e = .returned (.int .i64 0) ∧ w = w' := by
  go_enter Tryz.func32, Tryz.ntmps32
  go_wp2
  go_ret
  exact ⟨rfl, rfl⟩
set_option maxHeartbeats 1000000 in
theorem edges_nil (w : World) : Calls Tryz.prog 22 #[.pointer none] w fun e w' => e = .returned (.int .i64 0) ∧ w = w' := by
  go_enter Tryz.func22, Tryz.ntmps22
  go_wp2
  go_ret
  exact ⟨rfl, rfl⟩
theorem run_eql_nil_ptr {P : Program} (w : World) {tp te : TypeId} (a : Addr) (hp : P.underlying tp = some (.pointer te)) : (binOp .eql tp (.pointer none) (.pointer (some a))).run P w = .ok (.bool false) w := by
  have h : ∀ d : Nat, (Op.equalIn (d + 1) tp (.pointer none) (.pointer (some a))).run P w = .ok false w := fun d => by simp [Op.equalIn, run_underlying hp]
  simp only [binOp]
  simp [Op.equal, Op.maxDepth, h 9999]
end Go.Proofs.YtjokfllldcjheaaGreat.Cs
/- csr: Turned, Same. -/
namespace Go.Proofs.YtjokfllldcjheaaGreat.Cs
open Go.RowKit Go.Proofs.YtjokfllldcjheaaGreat.Ed Go.Proofs.YtjokfllldcjheaaGreat.Ro
set_option linter.unusedVariables false
set_option linter.unusedSimpArgs false
end Go.Proofs.YtjokfllldcjheaaGreat.Cs
