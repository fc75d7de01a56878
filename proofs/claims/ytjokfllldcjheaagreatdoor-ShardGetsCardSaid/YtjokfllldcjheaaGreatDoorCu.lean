/- csr: Clone of integers, Targets, Degree; what is asked of no node. -/
import Derived.Test.YtjokfllldcjheaaGreatDoorCt
namespace Go.Proofs.YtjokfllldcjheaaGreatDoor.Ro
open Go.RowKit
set_option linter.unusedVariables false
set_option linter.unusedSimpArgs false
/-- append(v, ys...) -/
theorem OJ.app_run {w : World} {base : Nat} {v : Value} {xs : List Int} (HO : OJ w base v xs) {g : Nat} {y : Value} {ys : List Int} (HR : JR w g y ys) (ty : TypeId) (hbase : base ≤ w.heap.size) (hl : xs.length + ys.length ≤ 1000000000) :
    ∃ v1 w1, (Builtin.append_ #[53, 53] ty #[v, y]).run Tryz.prog w = .ok v1 w1 ∧ OJ w1 base v1 (xs ++ ys) ∧ w.grownBy w1 v.ownBlock ∧ (v1.ownBlock = v.ownBlock ∨ v1.ownBlock = some w.heap.size) := by
  obtain ⟨i0, hi, hzz⟩ := Option.map_eq_some_iff.1 infoInt
  simp only [Prod.mk.injEq] at hzz
  obtain ⟨hz0, hz1, hz2⟩ := hzz
  obtain ⟨A, c, o, rfl, h1, h2, h3⟩ := HR
  have go : ∀ ad : Addr, A = some ad → (∀ j u, (ys.map fun z => Value.int .i64 z)[j]? = some u → w.cell? (ad.add j) = some u) → ∃ v1 w1, (Builtin.append_ #[53, 53] ty #[v, .slice A ys.length c]).run Tryz.prog w = .ok v1 w1 ∧ OJ w1 base v1 (xs ++ ys) ∧ w.grownBy w1 v.ownBlock ∧ (v1.ownBlock = v.ownBlock ∨ v1.ownBlock = some w.heap.size) := by
    rintro ad rfl hc
    obtain ⟨v1, w1, hr, k2, k3, _, k5⟩ := run_append_own_at (P := Tryz.prog) w base 53 ty 3 i0 (.int .i64 0) 1 8 Tryz.underlying53 hi hz0 hz1 hz2 rfl (by omega) v xs.length (xs.map fun z => .int .i64 z) HO ad ys.length c (ys.map fun z => .int .i64 z) (by simp) hc (by intro u hu; obtain ⟨z, _, rfl⟩ := List.mem_map.1 hu; rfl) (by simp only [maxLen]; omega) (by omega) hbase
    refine ⟨v1, w1, hr, ?_, k3, k5⟩
    unfold OJ
    rw [List.map_append, List.length_append]
    exact k2
  by_cases hn : ys = []
  · subst hn
    rcases A with _ | ad
    · refine ⟨v, w, ?_, by simpa using HO, World.grownBy.refl w _, .inl rfl⟩
      rcases HO.2 with ⟨rfl, hn⟩ | ⟨g, cap, cur, rfl, _, _, hnc, _⟩
      · simp [Builtin.append_, run_underlying Tryz.underlying53, sizeOf, typeInfo, hi, Builtin.lenOf, Builtin.firstCells, hz1]
      · simp [Builtin.append_, run_underlying Tryz.underlying53, sizeOf, typeInfo, hi, Builtin.lenOf, Builtin.firstCells, hnc, storeCells, hz1]
    · exact go ad rfl (fun j u hu => by simp at hu)
  · obtain ⟨ha, hlt, hcell⟩ := h3 (List.length_pos_iff.2 hn)
    refine go ⟨g, o, none⟩ ha (fun j u hu => ?_)
    rw [add_none]
    have hj : j < ys.length := by
      have := (List.getElem?_eq_some_iff.1 hu).1
      simpa using this
    rw [hcell j hj, ← hu]
    simp [List.getD_eq_getElem?_getD, hj]
section
variable {ops : Array Oper} {rest : List Oper} {o : Oper} {a : Act} {w : World} {Q : Exit → Act → World → Prop}
theorem OJ.app_on {base : Nat} {v : Value} {xs : List Int} (HO : OJ w base v xs) {g : Nat} {y : Value} {ys : List Int} (HR : JR w g y ys) (hgd : o.guard = none) (s x : Operand)
    (ho : o.op = .call { callee := .builtin .append, args := #[s, x], argTypes := #[53, 53] }) (hs : a.eval s = v) (hx : a.eval x = y)
    (hbase : base ≤ w.heap.size) (hl : xs.length + ys.length ≤ 1000000000)
    (k : ∀ v1 w1, OJ w1 base v1 (xs ++ ys) → w.grownBy w1 v.ownBlock → (v1.ownBlock = v.ownBlock ∨ v1.ownBlock = some w.heap.size) → wpList Tryz.prog ops Q rest (a.put o.dst v1) w1) : wpList Tryz.prog ops Q (o :: rest) a w := by
  obtain ⟨v1, w1, hr, k2, k3, k5⟩ := OJ.app_run HO HR o.type hbase hl
  exact append_step hgd s x _ _ ho hs hx hr (k v1 w1 k2 k3 k5)
end
theorem OJ.fresh (w : World) (base : Nat) (hb : base ≤ w.heap.size) : OJ (w.alloc (.cells #[] 3)) base (.slice (some ⟨w.heap.size, 0, none⟩) 0 0) [] :=
  World.ownsRow_lit w #[] 0 hb (by simp only [maxLen]; omega) rfl
theorem JR.form {w : World} {g : Nat} {v : Value} {l : List Int} (h : JR w g v l) : ∃ A c, v = .slice A l.length c ∧ l.length ≤ c ∧ c ≤ 9223372036854775807 := by
  obtain ⟨A, c, o, hv, h1, h2, -⟩ := h
  exact ⟨A, c, hv, h1, h2⟩
set_option maxHeartbeats 1000000 in
set_option maxRecDepth 100000 in
theorem iclone_calls (g : Nat) (v : Value) (l : List Int) (w : World) (h : JR w g v l) (hl : l.length ≤ 1000000) :
    Calls Tryz.prog 115 #[v] w fun e w' => ∃ v', e = .returned v' ∧ OJ w' w.heap.size v' l ∧ Below w.heap.size w w' := by
  obtain ⟨A, c, o, rfl, h1, h2, h3⟩ := id h
  have HE := Lib.hid h
  rcases A with _ | ad
  · have hl0 : l = [] := by
      by_cases e : l = []
      · exact e
      · exact absurd (h3 (List.length_pos_iff.2 e)).1 (by simp)
    subst hl0
    have hq : (binOp .eql 53 (.slice none 0 c) (.slice none 0 0)).run Tryz.prog w = .ok (.bool true) w := Lib.run_eql_slice_nil (P := Tryz.prog) w 53 3 none 0 c 0 0 Tryz.underlying53
    clear h h3
    go_enter Tryz.func115, Tryz.ntmps115
    go_wp2
    go_ret
    exact ⟨_, rfl, OJ.nil _ _, Below.refl _ _⟩
  · have hq : (binOp .eql 53 (.slice (some ad) l.length c) (.slice none 0 0)).run Tryz.prog w = .ok (.bool false) w := Lib.run_eql_slice_nil (P := Tryz.prog) w 53 3 (some ad) l.length c 0 0 Tryz.underlying53
    clear h h3
    go_enter Tryz.func115, Tryz.ntmps115
    go_wp2_with (at_builtin; refine OJ.app_on (base := w.heap.size) (OJ.fresh w w.heap.size (Nat.le_refl _)) (HE.out.later ((Below.refl _ _).alloc (Nat.le_refl _) _)) rfl _ _ rfl rfl rfl (by simp) (by simp; omega) ?_; intro v1 w1 k1 k2 _)
    go_ret
    refine ⟨v1, rfl, by simpa using k1, ((Below.refl _ _).alloc (Nat.le_refl _) _).grown k2 (by simp) (fun k hk => ?_)⟩
    simp [Value.ownBlock] at hk
    omega
end Go.Proofs.YtjokfllldcjheaaGreatDoor.Ro
namespace Go.Proofs.YtjokfllldcjheaaGreatDoor.Cs
open Go.RowKit Go.Proofs.YtjokfllldcjheaaGreatDoor.Ed Go.Proofs.YtjokfllldcjheaaGreatDoor.Ro
set_option linter.unusedVariables false
set_option linter.unusedSimpArgs false
/-- an error's number, as an error -/
abbrev noV (n : Int) : Value := .iface 96 (.int .i64 n)
section
variable {w : World} {B p bb N : Nat} {tv : Value} {l : List E2}
set_option maxHeartbeats 1000000 in
theorem row_out (h : CS w B p bb tv N l) (v : Int) (hv : v < 0 ∨ (N : Int) ≤ v) : Calls Tryz.prog 114 #[pV p, .int .i64 v] w fun e w' => e = .returned (.tuple #[.slice none 0 0, noV 2]) ∧ w = w' := by
  have HN := Lib.hid (nodes_calls h)
  clear h
  rcases hv with hv | hv
  · go_enter Tryz.func114, Tryz.ntmps114
    go_wp2_with (go_at_call 43; refine HN.out.mono ?_; rintro e w1 ⟨rfl, rfl⟩)
    go_ret2
    exact ⟨rfl, rfl⟩
  · have h0 : 0 ≤ v := by omega
    go_enter Tryz.func114, Tryz.ntmps114
    go_wp2_with (go_at_call 43; refine HN.out.mono ?_; rintro e w1 ⟨rfl, rfl⟩)
    go_ret2
    exact ⟨rfl, rfl⟩
set_option maxHeartbeats 1000000 in
theorem row_nil (v : Int) (w : World) : Calls Tryz.prog 114 #[.pointer none, .int .i64 v] w fun e w' => e = .returned (.tuple #[.slice none 0 0, noV 1]) ∧ w = w' := by
  go_enter Tryz.func114, Tryz.ntmps114
  go_wp2
  go_ret2
  exact ⟨rfl, rfl⟩
set_option maxHeartbeats 1000000 in
theorem targets_calls (h : CS w B p bb tv N l) (v : Nat) (hv : v < N) : Calls Tryz.prog 84 #[pV p, .int .i64 (v : Int)] w fun e w' => ∃ v', e = .returned (.tuple #[v', .nilIface]) ∧ Hid (OJ w' w.heap.size v' (tgt l v)) ∧ Hid (Below w.heap.size w w') := by
  have HR := Lib.hid (row_calls h v hv)
  have HL : Hid ((tgt l v).length ≤ 1000000) := Lib.hid (by rw [tgt_len]; have := deg_le l v; have := h.few; omega)
  have HD := Lib.hid (tgt_len l v)
  generalize tgt l v = t at *
  generalize deg l v = d at *
  clear h
  go_enter Tryz.func84, Tryz.ntmps84
  go_wp2_with (first
    | (go_at_call 114; refine HR.out.mono ?_; rintro e w1 ⟨a, c, g, rfl, HJ, HB⟩)
    | (go_at_call 115; refine (iclone_calls g _ t _ (HJ.out.1.later HB.out) HL.out).mono ?_; rintro e w2 ⟨v2, rfl, ho, hb⟩; have HO := Lib.hid ho; have HB2 := Lib.hid hb; clear ho hb))
  go_ret2
  exact ⟨v2, rfl, Lib.hid (HO.out.mono HB.out.size), Lib.hid (HB.out.trans (HB2.out.mono HB.out.size))⟩
set_option maxHeartbeats 1000000 in
theorem targets_out (h : CS w B p bb tv N l) (v : Int) (hv : v < 0 ∨ (N : Int) ≤ v) : Calls Tryz.prog 84 #[pV p, .int .i64 v] w fun e w' => e = .returned (.tuple #[.slice none 0 0, noV 2]) ∧ Hid (Below w.heap.size w w') := by
  have HR := Lib.hid (row_out h v hv)
  have HK := Lib.hid (iclone_calls 0 (.slice none 0 0) [] w ⟨none, 0, 0, rfl, Nat.le_refl _, by omega, fun h => by simp at h⟩ (by simp))
  clear h
  have hq : (binOp .eql 53 (.slice none 0 0) (.slice none 0 0)).run Tryz.prog w = .ok (.bool true) w := Lib.run_eql_slice_nil (P := Tryz.prog) w 53 3 none 0 0 0 0 Tryz.underlying53
  have HC : Hid (Calls Tryz.prog 115 #[.slice none 0 0] w fun e w' => e = .returned (.slice none 0 0) ∧ w = w') := Lib.hid (by
    go_enter Tryz.func115, Tryz.ntmps115
    go_wp2
    go_ret
    exact ⟨rfl, rfl⟩)
  clear hq HK
  go_enter Tryz.func84, Tryz.ntmps84
  go_wp2_with (first
    | (go_at_call 114; refine HR.out.mono ?_; rintro e w1 ⟨rfl, rfl⟩)
    | (go_at_call 115; refine HC.out.mono ?_; rintro e w2 ⟨rfl, rfl⟩))
  go_ret2
  exact ⟨rfl, Lib.hid (Below.refl _ _)⟩
end
end Go.Proofs.YtjokfllldcjheaaGreatDoor.Cs
