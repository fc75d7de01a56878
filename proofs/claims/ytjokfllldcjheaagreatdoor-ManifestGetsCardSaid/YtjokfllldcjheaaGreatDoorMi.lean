/- manifest: Get. -/
import Derived.Test.YtjokfllldcjheaaGreatDoorMh
namespace Go.Proofs.YtjokfllldcjheaaGreatDoor.Mn
open Go.RowKit Go.Proofs.YtjokfllldcjheaaGreatDoor.Oc Go.Proofs.YtjokfllldcjheaaGreatDoor.Ed Go.Proofs.YtjokfllldcjheaaGreatDoor.Tb Go.Proofs.YtjokfllldcjheaaGreatDoor.Sha Go.Proofs.YtjokfllldcjheaaGreatDoor.Cs Go.Proofs.YtjokfllldcjheaaGreatDoor.Mk
set_option linter.unusedVariables false
set_option linter.unusedSimpArgs false
theorem makeT_run (w : World) (n : Nat) (hn : n ≤ 1000000) : ∃ C, (Instr.makeSlice 36 (.int .i64 (n : Int)) (.int .i64 (n : Int))).run Tryz.prog w = .ok (.slice (some ⟨w.heap.size, 0, none⟩) n n) (w.alloc (.cells C 43)) ∧ TBR (w.alloc (.cells C 43)) w.heap.size (.slice (some ⟨w.heap.size, 0, none⟩) n n) (List.replicate n (0, 0)) := by
  obtain ⟨i0, hi, hzz⟩ := Option.map_eq_some_iff.1 infoTB
  simp only [Prod.mk.injEq] at hzz
  obtain ⟨hz0, hz1, hz2⟩ := hzz
  have hmk := run_make (P := Tryz.prog) w 36 43 i0 (.agg #[.int .i64 0, .int .i64 0]) Tryz.underlying36 hi hz0 .i64 .i64 (n : Int) (n : Int) (by omega) (Int.le_refl _) (by rw [hz2]; omega) (by omega)
  rw [hz1, Int.toNat_natCast] at hmk
  have hC : ∀ k, k < n * 2 → (madeCells (Value.cells (.agg #[.int .i64 0, .int .i64 0])) (n * 2))[k]? = some (.int .i64 0) := by
    intro k hk
    have h2 : k % 2 = 0 ∨ k % 2 = 1 := by omega
    rcases h2 with h2 | h2 <;> simp [madeCells, Value.cells, hk, h2]
  refine ⟨_, hmk, 0, some ⟨w.heap.size, 0, none⟩, n, by rw [List.length_replicate], by rw [List.length_replicate]; exact Nat.le_refl _, by omega, fun hp => ⟨rfl, by simp, fun i h => ?_⟩⟩
  rw [List.length_replicate] at h
  have hg : (List.replicate n ((0 : Int), (0 : Int))).getD i (0, 0) = (0, 0) := by simp [List.getD_eq_getElem?_getD, h]
  rw [hg]
  constructor
  · rw [cell_of_row _ w.heap.size _ _ _ _ (heap_alloc_new w _), Nat.zero_add]; exact hC _ (by omega)
  · rw [cell_of_row _ w.heap.size _ _ _ _ (heap_alloc_new w _), Nat.zero_add]; exact hC _ (by omega)
theorem res6 {W : World} {n : Nat} {a0 a1 a2 a3 a4 a5 : Value} {t : TypeId} (h : W.heap[n]? = some (.cells #[a0, a1, a2, a3, a4, a5] t (0, 0))) (b0 b1 b2 b3 b4 b5 : Value) :
    (W.cell? ⟨n, 0, none⟩ = some a0 ∧ W.frozen? ⟨n, 0, none⟩ = false) ∧
    ((W.setCell ⟨n, 0, none⟩ b0).cell? ⟨n, 1, none⟩ = some a1 ∧ (W.setCell ⟨n, 0, none⟩ b0).frozen? ⟨n, 1, none⟩ = false) ∧
    (((W.setCell ⟨n, 0, none⟩ b0).setCell ⟨n, 1, none⟩ b1).cell? ⟨n, 2, none⟩ = some a2 ∧ ((W.setCell ⟨n, 0, none⟩ b0).setCell ⟨n, 1, none⟩ b1).frozen? ⟨n, 2, none⟩ = false) ∧
    ((((W.setCell ⟨n, 0, none⟩ b0).setCell ⟨n, 1, none⟩ b1).setCell ⟨n, 2, none⟩ b2).cell? ⟨n, 3, none⟩ = some a3 ∧ (((W.setCell ⟨n, 0, none⟩ b0).setCell ⟨n, 1, none⟩ b1).setCell ⟨n, 2, none⟩ b2).frozen? ⟨n, 3, none⟩ = false) ∧
    (((((W.setCell ⟨n, 0, none⟩ b0).setCell ⟨n, 1, none⟩ b1).setCell ⟨n, 2, none⟩ b2).setCell ⟨n, 3, none⟩ b3).cell? ⟨n, 4, none⟩ = some a4 ∧ ((((W.setCell ⟨n, 0, none⟩ b0).setCell ⟨n, 1, none⟩ b1).setCell ⟨n, 2, none⟩ b2).setCell ⟨n, 3, none⟩ b3).frozen? ⟨n, 4, none⟩ = false) ∧
    ((((((W.setCell ⟨n, 0, none⟩ b0).setCell ⟨n, 1, none⟩ b1).setCell ⟨n, 2, none⟩ b2).setCell ⟨n, 3, none⟩ b3).setCell ⟨n, 4, none⟩ b4).cell? ⟨n, 5, none⟩ = some a5 ∧ (((((W.setCell ⟨n, 0, none⟩ b0).setCell ⟨n, 1, none⟩ b1).setCell ⟨n, 2, none⟩ b2).setCell ⟨n, 3, none⟩ b3).setCell ⟨n, 4, none⟩ b4).frozen? ⟨n, 5, none⟩ = false) ∧
    ((((((W.setCell ⟨n, 0, none⟩ b0).setCell ⟨n, 1, none⟩ b1).setCell ⟨n, 2, none⟩ b2).setCell ⟨n, 3, none⟩ b3).setCell ⟨n, 4, none⟩ b4).setCell ⟨n, 5, none⟩ b5).heap[n]? = some (.cells #[b0, b1, b2, b3, b4, b5] t (0, 0)) := by
  have h1 : (W.setCell ⟨n, 0, none⟩ b0).heap[n]? = some (.cells #[b0, a1, a2, a3, a4, a5] t (0, 0)) := heap_setCell_same _ n 0 _ _ _ h
  have h2 : ((W.setCell ⟨n, 0, none⟩ b0).setCell ⟨n, 1, none⟩ b1).heap[n]? = some (.cells #[b0, b1, a2, a3, a4, a5] t (0, 0)) := heap_setCell_same _ n 1 _ _ _ h1
  have h3 : (((W.setCell ⟨n, 0, none⟩ b0).setCell ⟨n, 1, none⟩ b1).setCell ⟨n, 2, none⟩ b2).heap[n]? = some (.cells #[b0, b1, b2, a3, a4, a5] t (0, 0)) := heap_setCell_same _ n 2 _ _ _ h2
  have h4 : ((((W.setCell ⟨n, 0, none⟩ b0).setCell ⟨n, 1, none⟩ b1).setCell ⟨n, 2, none⟩ b2).setCell ⟨n, 3, none⟩ b3).heap[n]? = some (.cells #[b0, b1, b2, b3, a4, a5] t (0, 0)) := heap_setCell_same _ n 3 _ _ _ h3
  have h5 : (((((W.setCell ⟨n, 0, none⟩ b0).setCell ⟨n, 1, none⟩ b1).setCell ⟨n, 2, none⟩ b2).setCell ⟨n, 3, none⟩ b3).setCell ⟨n, 4, none⟩ b4).heap[n]? = some (.cells #[b0, b1, b2, b3, b4, a5] t (0, 0)) := heap_setCell_same _ n 4 _ _ _ h4
  have h6 : ((((((W.setCell ⟨n, 0, none⟩ b0).setCell ⟨n, 1, none⟩ b1).setCell ⟨n, 2, none⟩ b2).setCell ⟨n, 3, none⟩ b3).setCell ⟨n, 4, none⟩ b4).setCell ⟨n, 5, none⟩ b5).heap[n]? = some (.cells #[b0, b1, b2, b3, b4, b5] t (0, 0)) := heap_setCell_same _ n 5 _ _ _ h5
  exact ⟨⟨cell_of_row _ n 0 _ _ _ h, frozen_of_row _ n 0 _ _ h⟩, ⟨cell_of_row _ n 1 _ _ _ h1, frozen_of_row _ n 1 _ _ h1⟩, ⟨cell_of_row _ n 2 _ _ _ h2, frozen_of_row _ n 2 _ _ h2⟩, ⟨cell_of_row _ n 3 _ _ _ h3, frozen_of_row _ n 3 _ _ h3⟩, ⟨cell_of_row _ n 4 _ _ _ h4, frozen_of_row _ n 4 _ _ h4⟩, ⟨cell_of_row _ n 5 _ _ _ h5, frozen_of_row _ n 5 _ _ h5⟩, h6⟩
theorem res6_below {B : Nat} {w W : World} {n : Nat} (h : Below B w W) (hn : B ≤ n) (b0 b1 b2 b3 b4 b5 : Value) : Below B w ((((((W.setCell ⟨n, 0, none⟩ b0).setCell ⟨n, 1, none⟩ b1).setCell ⟨n, 2, none⟩ b2).setCell ⟨n, 3, none⟩ b3).setCell ⟨n, 4, none⟩ b4).setCell ⟨n, 5, none⟩ b5) :=
  (((((h.setCell hn _).setCell hn _).setCell hn _).setCell hn _).setCell hn _).setCell hn _
theorem res6_grown (W : World) (n : Nat) (b0 b1 b2 b3 b4 b5 : Value) : W.grownBy ((((((W.setCell ⟨n, 0, none⟩ b0).setCell ⟨n, 1, none⟩ b1).setCell ⟨n, 2, none⟩ b2).setCell ⟨n, 3, none⟩ b3).setCell ⟨n, 4, none⟩ b4).setCell ⟨n, 5, none⟩ b5) (some n) := by
  have h := res6_below (B := 0) (Below.refl 0 W) (Nat.zero_le n) b0 b1 b2 b3 b4 b5
  refine ⟨h.os, h.tape, h.output, h.size, fun k hk hne => ?_⟩
  have hn : k ≠ n := fun e => hne (by rw [e])
  simp only [heap_setCell_other _ _ k _ (show k ≠ (⟨n, _, none⟩ : Addr).block from hn)]
theorem TBO_append_wp {ops : Array Oper} {o : Oper} {a : Act} {w : World} {Q : Exit → Act → World → Prop} {K : Act → World → Prop} {E : Prop} {base : Nat} {v : Value} {xs : List E2} (HO : TBO w base v xs) {g : Nat} {y : Value} {ys : List E2} (HR : TBR w g y ys) (hgd : o.guard = none) (s x : Operand)
    (ho : o.op = .call { callee := .builtin .append, args := #[s, x], argTypes := #[36, 36] }) (hs : a.eval s = v) (hx : a.eval x = y)
    (hbase : base ≤ w.heap.size) (hl : xs.length + ys.length ≤ 1000000000)
    (k : ∀ v1 w1, TBO w1 base v1 (xs ++ ys) → w.grownBy w1 v.ownBlock → K (a.put o.dst v1) w1) : if Region.wanted o (yielded ops a.tmps) = true then Oper.wp Tryz.prog o a w K Q else E := by
  obtain ⟨v1, w1, hr, k2, k3, -⟩ := TBO.append_run HO HR o.type hbase hl
  exact Sha.append_wp hgd s x _ _ ho hs hx hr (k v1 w1 k2 k3)
theorem nonneg_snoc {l : List E2} (h : ∀ e ∈ l, 0 ≤ e.1 ∧ 0 ≤ e.2) (a b : Nat) : ∀ e ∈ l ++ [((a : Int), (b : Int))], 0 ≤ e.1 ∧ 0 ≤ e.2 := fun e he => by
  rcases List.mem_append.1 he with h1 | h1
  · exact h e h1
  · rw [List.mem_singleton.1 h1]
    exact ⟨Int.natCast_nonneg _, Int.natCast_nonneg _⟩
/-- the result's box is given zeros once more -/
abbrev zset (W : World) (n : Nat) : World := (((((W.setCell ⟨n, 0, none⟩ (.int .i64 0)).setCell ⟨n, 1, none⟩ (.int .i64 0)).setCell ⟨n, 2, none⟩ (.int .i64 0)).setCell ⟨n, 3, none⟩ (.slice none 0 0)).setCell ⟨n, 4, none⟩ (.int .i64 0)).setCell ⟨n, 5, none⟩ (.string ⟨#[]⟩)
theorem zset_mr {W : World} {n rb : Nat} {s : ByteArray} {a : Int} {e : Value} (h : MR W rb s a e) (hn : n ≠ rb) : MR (zset W n) rb s a e :=
  h.kept (res6_grown W n (.int .i64 0) (.int .i64 0) (.int .i64 0) (.slice none 0 0) (.int .i64 0) (.string ⟨#[]⟩)) (fun e => hn (by injection e with e; exact e.symm))
/-- what Get answers -/
def MGA (s : ByteArray) (w' : World) (r : Ending) : Prop :=
  (∃ (m : Man) (tv : Value) (g : Nat), r = .returned (.tuple #[manV m tv, .nilIface]) ∧ TBR w' g tv m.sh ∧ May m ∧ manB m = s.data.toList) ∨
  (∃ p k : Nat, r = .returned (.tuple #[.agg zeroM, faultV (p : Int) (k : Int)]) ∧ (k = 3 ∨ k = 4))
set_option maxHeartbeats 16000000 in
set_option maxRecDepth 100000 in
theorem mget_calls (s : ByteArray) (hs : s.size ≤ 140737488355328) (w : World) :
    Calls Tryz.prog 38 #[.string s] w fun r w' => Hid (MGA s w' r) ∧ Hid (Below w.heap.size w w') := by
  have HSZ := Lib.hid hs
  have HM0 : Hid (MR ((w.alloc (.cells zeroM 73)).alloc (.cells #[.string s, .int .i64 0, .nilIface] 141)) (w.heap.size + 1) s 0 .nilIface) := Lib.hid (by
    have h := heap_alloc_new (w.alloc (.cells zeroM 73)) (.cells #[.string s, .int .i64 0, .nilIface] 141)
    rw [show (w.alloc (.cells zeroM 73)).heap.size = w.heap.size + 1 by simp] at h
    exact h)
  have HQ0 : Hid (((w.alloc (.cells zeroM 73)).alloc (.cells #[.string s, .int .i64 0, .nilIface] 141)).heap[w.heap.size]? = some (.cells zeroM 73 (0, 0))) := Lib.hid ((heap_alloc_old _ _ (by simp)).trans (heap_alloc_new w _))
  have HB0 : Hid (Below w.heap.size w ((w.alloc (.cells zeroM 73)).alloc (.cells #[.string s, .int .i64 0, .nilIface] 141))) := Lib.hid (((Below.refl _ _).alloc (Nat.le_refl _) _).alloc (by simp) _)
  have HR0 : Hid (RS s [] 0 .nilIface) := Lib.hid (.inl ⟨rfl, 0, rfl, by omega, by simp⟩)
  clear hs
  go_enter Tryz.func38, Tryz.ntmps38
  go_upto_region 2 with (fail)
  obtain ⟨W2, hW2⟩ : ∃ W2, (w.alloc (.cells zeroM 73)).alloc (.cells #[.string s, .int .i64 0, .nilIface] 141) = W2 := ⟨_, rfl⟩
  rw [hW2] at HM0 HQ0 HB0
  simp only [hW2]
  clear hW2
  have HF1 : Hid True := Lib.hid trivial
  have HF2 : Hid True := Lib.hid trivial
  go_upto_region 3 with (go_at_call 69; first
    | (have := HF1; clear HF1 this; refine (mshort_any HM0.out HR0.out HSZ.out).mono ?_; rintro r w3 ⟨x1, a1, e1, rfl, hx1, HM1, HR1, HG1, -⟩)
    | (have := HF2; clear HF2 this; refine (mshort_any HM1.out HR1.out HSZ.out).mono ?_; rintro r w4 ⟨x2, a2, e2, rfl, hx2, HM2, HR2, HG2, -⟩)
    | (refine (mshort_any HM2.out HR2.out HSZ.out).mono ?_; rintro r w5 ⟨x3, a3, e3, rfl, hx3, HM3, HR3, HG3, -⟩))
  have hg := grown_two (grown_two HG1.out HG2.out) HG3.out
  have hql : w.heap.size < W2.heap.size := (Array.getElem?_eq_some_iff.1 HQ0.out).1
  have hrl := HM0.out.lt
  have hgs : GS w (w5.alloc (.cells #[.int .i64 (x1 : Int), .int .i64 (x2 : Int), .int .i64 (x3 : Int), .slice none 0 0, .int .i64 0, .string ⟨#[]⟩] 73)) w.heap.size (w.heap.size + 1) w5.heap.size s (shB x1 ++ shB x2 ++ shB x3) x1 x2 x3 0 ⟨#[]⟩ (.slice none 0 0) (.slice none 0 0) [] := by
    have hz := hg.size
    exact ⟨⟨a3, e3, (heap_alloc_old _ _ (by omega)).trans HM3.out, HR3.out⟩, heap_alloc_new w5 _, (heap_alloc_old _ _ (by omega)).trans ((hg.block w.heap.size hql (by intro e; injection e; omega)).trans HQ0.out), TBO.nil _ _, ⟨by omega, by omega⟩, Nat.le_refl _, ((HB0.out.grown hg HB0.out.size (fun k e => by injection e with e; omega)).alloc (by omega) _)⟩
  generalize w5.alloc (.cells #[.int .i64 (x1 : Int), .int .i64 (x2 : Int), .int .i64 (x3 : Int), .slice none 0 0, .int .i64 0, .string ⟨#[]⟩] 73) = W6 at *
  obtain ⟨mb, hmb⟩ : ∃ mb, w5.heap.size = mb := ⟨_, rfl⟩
  obtain ⟨rb, hrb⟩ : ∃ rb, w.heap.size + 1 = rb := ⟨_, rfl⟩
  rw [hmb, hrb] at hgs
  rw [hmb, hrb]
  have HGS := Lib.hid hgs
  clear hgs hg hql hrl hmb hrb HM0 HM1 HM2 HM3 HR0 HR1 HR2 HR3 HG1 HG2 HG3 HQ0 HB0
  go_upto_region 4 with (go_at_call 69; refine (short_gs HGS.out HSZ.out).mono ?_; rintro r w7 ⟨x4, rfl, hx4, HGS4, HZ4, -⟩)
  obtain ⟨P4, hP4⟩ : ∃ P4, shB x1 ++ shB x2 ++ shB x3 ++ shB x4 = P4 := ⟨_, rfl⟩
  have HP4 := Lib.hid hP4
  rw [hP4] at HGS4
  clear hP4 HGS
  obtain ⟨a4, e4, hm4, hr4⟩ := HGS4.out.rd
  have hz4 := HZ4.out _ _ hm4
  obtain ⟨c0, c1, c2⟩ := hm4.cells
  clear hm4 HZ4 c0 c1
  by_cases hA : e4 = .nilIface ∧ 64 < x4
  case pos =>
    obtain ⟨rfl, h64⟩ := hA
    have h65 : (64 : Int) < (x4 : Int) := by omega
    obtain ⟨b0, b1, b2, b3, b4, b5⟩ := HGS4.out.cells
    have b6 := HGS4.out.frozen 3
    obtain ⟨C, hmk, htb⟩ : ∃ C, (Instr.makeSlice 36 (.int .i64 65) (.int .i64 65)).run Tryz.prog w7 = .ok (.slice (some ⟨w7.heap.size, 0, none⟩) 65 65) (w7.alloc (.cells C 43)) ∧ TBR (w7.alloc (.cells C 43)) w7.heap.size (.slice (some ⟨w7.heap.size, 0, none⟩) 65 65) (List.replicate 65 (0, 0)) := makeT_run w7 65 (by omega)
    have hg5 := HGS4.out.alloc (.cells C 43)
    obtain ⟨j0, j1, j2, j3, j4, j5⟩ := hg5.cells
    have j6 := hg5.frozen 3
    have HG5 := Lib.hid hg5
    have HTB := Lib.hid htb
    clear hg5 htb b0 b1 b2 b3 b4 b5 b6
    go_upto_region 6 with (fail)
    have hg6 := HG5.out.setm (i0' := x1) (i1' := x2) (i2' := x3) (i4' := 0) (rt' := ⟨#[]⟩) (tb' := .slice (some ⟨w7.heap.size, 0, none⟩) 65 65) 3 (.slice (some ⟨w7.heap.size, 0, none⟩) 65 65) rfl
    have ht6 : TBR ((w7.alloc (.cells C 43)).setCell ⟨mb, 3, none⟩ (.slice (some ⟨w7.heap.size, 0, none⟩) 65 65)) w7.heap.size (.slice (some ⟨w7.heap.size, 0, none⟩) 65 65) (List.replicate 65 (0, 0)) := HTB.out.kept (set_grown _ _ _ _) (.inr (by have := HGS4.out.mlt; intro e; injection e; omega))
    generalize (w7.alloc (.cells C 43)).setCell ⟨mb, 3, none⟩ (.slice (some ⟨w7.heap.size, 0, none⟩) 65 65) = W8 at *
    generalize w7.heap.size = tb at *
    have HG6 := Lib.hid hg6
    obtain ⟨m0, m1, m2, m3, m4, m5⟩ := hg6.cells
    have HCK := Lib.hid (mcheck_bad ⟨x1, x2, x3, List.replicate 65 (0, 0), 0, ⟨#[]⟩⟩ tb (.slice (some ⟨tb, 0, none⟩) 65 65) W8 ht6 (fun h => by have := h.1.2.2.2.1; simp at this))
    clear hmk j0 j1 j2 j3 j4 j5 j6 HG5 HTB hg6 ht6 c2 HGS4
    have HEND : Hid (∀ W9, Below W8.heap.size W8 W9 → _) := Lib.hid (fun W9 h => res6 (HG6.out.later h).res (.int .i64 0) (.int .i64 0) (.int .i64 0) (.slice none 0 0) (.int .i64 0) (.string ⟨#[]⟩))
    go_wp2_with (go_at_call 60; refine HCK.out.mono ?_; rintro e w9 ⟨z, rfl, hz, HB9⟩; obtain ⟨⟨t0, u0⟩, ⟨t1, u1⟩, ⟨t2, u2⟩, ⟨t3, u3⟩, ⟨t4, u4⟩, ⟨t5, u5⟩, hfin⟩ := HEND.out w9 HB9.out; have HFIN := Lib.hid hfin; clear hfin)
    obtain ⟨p, rfl⟩ := Int.eq_ofNat_of_zero_le hz
    exact bodyPost_ret (cell2_result HFIN.out rfl _ rfl Tryz.underlying73 (by kernel_rfl) rfl) rfl ⟨Lib.hid (.inr ⟨p, 4, rfl, .inr rfl⟩), Lib.hid (res6_below (HG6.out.later HB9.out).bel (Nat.le_refl _) _ _ _ _ _ _)⟩
  have hx64 : x4 ≤ 64 := by
    rcases hz4 with h | h
    · rcases Nat.lt_or_ge 64 x4 with h2 | h2
      · exact (hA ⟨h, h2⟩).elim
      · exact h2
    · omega
  have hsh := hr4.shape
  clear hr4 hz4 hA hx4 hx1 hx2 hx3
  rcases hsh with rfl | ⟨et, ex, rfl⟩
  case' inl => have h65 : ¬ (64 : Int) < (x4 : Int) := by omega
  all_goals
    go_upto_region 8 with (fail)
    clear c2
    go_loopw [35] (fun x wz => ∃ (k : Nat) (tv : Value) (l : List E2), x = .int .i64 (k : Int) ∧ k ≤ x4 ∧ l.length = k ∧ Hid (GS w wz w.heap.size rb mb s (P4 ++ tabB l) x1 x2 x3 0 ⟨#[]⟩ tv tv l) ∧ Hid (∀ e ∈ l, 0 ≤ e.1 ∧ 0 ≤ e.2)) (fun x _ => x4 - (intOf x).toNat)
    case atStart => exact ⟨0, _, [], rfl, by omega, rfl, Lib.hid (by have h := HGS4.out; rw [← List.append_nil P4] at h; exact h), Lib.hid (by simp)⟩
    case round =>
      obtain ⟨k, tv, l, rfl, hk, hl, HG, HE⟩ := hrel
      by_cases hlt : k < x4
      · have hki : (k : Int) < (x4 : Int) := by omega
        obtain ⟨tA, tc, htv, -⟩ := HG.out.row.shape
        rw [hl] at htv
        subst htv
        have HG0 : Hid (GS w wr.drew w.heap.size rb mb s (P4 ++ tabB l) x1 x2 x3 0 ⟨#[]⟩ (.slice tA k tc) (.slice tA k tc) l) := Lib.hid (HG.out.later (Below.refl _ _).drew)
        obtain ⟨n0, n1, n2, n3, n4, n5⟩ := HG0.out.cells
        have HL := Lib.hid hl
        go_upto_region 9 with (fail)
        refine wp_region_noPanic ?_
        refine wp_region_held_drew (S := fun _ => True) (by kernel_rfl) trivial (fun hHeld => ?_)
        refine wpAnyH_take (i := 0) (oi := _) (v := ?_) rfl (by kernel_rfl) (by kernel_rfl) (by kernel_rfl) (fun _ _ _ h => h) (Or.inl ⟨by rfl, ?_⟩) (by assumption) ?_
        rotate_left
        · (intro w hSw; (try dsimp only at hSw); go_simp; (try with_reducible rfl))
        try simp only [Act.put, List.setIfInBounds_toArray, List.set_cons_zero, List.set_cons_succ]
        refine wpAnyH_take (i := 2) (oi := _) (v := ?_) rfl (by kernel_rfl) (by kernel_rfl) (by kernel_rfl) (fun _ _ _ h => h) (Or.inl ⟨by rfl, ?_⟩) (by assumption) ?_
        rotate_left
        · (intro w hSw; (try dsimp only at hSw); go_simp; (try with_reducible rfl))
        try simp only [Act.put, List.setIfInBounds_toArray, List.set_cons_zero, List.set_cons_succ]
        refine wpAnyH_take (i := 4) (oi := _) (v := ?_) rfl (by kernel_rfl) (by kernel_rfl) (by kernel_rfl) (fun _ _ _ h => h) (Or.inl ⟨by rfl, ?_⟩) (by assumption) ?_
        rotate_left
        · (intro w hSw; (try dsimp only at hSw); go_simp; (try with_reducible rfl))
        try simp only [Act.put, List.setIfInBounds_toArray, List.set_cons_zero, List.set_cons_succ]
        refine wpAnyH_ready (rs := [1, 3]) (by kernel_rfl) (by simp) ?_
        refine AllReadyH.cons (o := _) rfl (fun K hK => ?_) (AllReadyH.cons (o := _) rfl (fun K hK => ?_) (AllReadyH.nil))
        · go_simp
          refine hK.out _ _ trivial (fun hHeld => ?_)
          clear hK K
          try simp only [Act.put, List.setIfInBounds_toArray, List.set_cons_zero, List.set_cons_succ]
          refine wpAnyH_ready (rs := [3]) (by kernel_rfl) (by simp) ?_
          refine AllReadyH.cons (o := _) rfl (fun K hK => ?_) (AllReadyH.nil)
          (go_simp)
          go_at_call 69
          refine (short_gs HG0.out HSZ.out).mono ?_
          rintro r wa ⟨xa, rfl, hxa, HGA1, -, -⟩
          obtain ⟨p0, p1, p2, p3, p4, p5⟩ := HGA1.out.cells
          have p6 := (fun o => Lib.cell?_alloc_some o p3)
          dsimp only
          refine hK.out _ _ trivial (fun hHeld => ?_)
          clear hK K
          try simp only [Act.put, List.setIfInBounds_toArray, List.set_cons_zero, List.set_cons_succ]
          refine wpAnyH_ready (rs := [5]) (by kernel_rfl) (by simp) ?_
          refine AllReadyH.cons (o := _) rfl (fun K hK => ?_) (AllReadyH.nil)
          (go_simp)
          go_at_call 69
          refine (short_gs HGA1.out HSZ.out).mono ?_
          rintro r wb ⟨xb, rfl, hxb, HGA2, -, -⟩
          obtain ⟨r0, r1, r2, r3, r4, r5⟩ := HGA2.out.cells
          have r6 := (fun o => Lib.cell?_alloc_some o r3)
          dsimp only
          refine hK.out _ _ trivial (fun hHeld => ?_)
          clear hK K
          try simp only [Act.put, List.setIfInBounds_toArray, List.set_cons_zero, List.set_cons_succ]
          refine wpAnyH_take (i := 6) (oi := _) (v := ?_) rfl (by kernel_rfl) (by kernel_rfl) (by kernel_rfl) (fun _ _ _ h => h) (Or.inl ⟨by rfl, ?_⟩) (by assumption) ?_
          rotate_left
          · (intro w hSw; (try dsimp only at hSw); go_simp; (try with_reducible rfl))
          try simp only [Act.put, List.setIfInBounds_toArray, List.set_cons_zero, List.set_cons_succ]
          refine wpAnyH_ready (rs := [7]) (by kernel_rfl) (by simp) ?_
          refine AllReadyH.cons (o := _) rfl (fun K hK => ?_) (AllReadyH.nil)
          go_simp
          refine hK.out _ _ trivial (fun hHeld => ?_)
          clear hK K
          try simp only [Act.put, List.setIfInBounds_toArray, List.set_cons_zero, List.set_cons_succ]
          refine wpAnyH_ready (rs := [8]) (by kernel_rfl) (by simp) ?_
          refine AllReadyH.cons (o := _) rfl (fun K hK => ?_) (AllReadyH.nil)
          refine TBO_append_wp (HGA2.out.alloc _).row (TBR.lit wb [((xa : Int), (xb : Int))] _ rfl 1 rfl (by simp)) rfl _ _ rfl rfl rfl (by have := HGA2.out.mlt; simp; omega) (by rw [HL.out]; simp only [List.length_cons, List.length_nil]; omega) ?_
          intro v3 w3 k1 k2
          have HGP := Lib.hid ((HGA2.out.alloc _).push k1 k2)
          clear k1 k2
          obtain ⟨vA, vc, hv3, -⟩ := HGP.out.row.shape
          rw [List.length_append, HL.out, List.length_singleton] at hv3
          subst hv3
          obtain ⟨q0, q1, q2, q3, q4, q5⟩ := HGP.out.cells
          have q6 := HGP.out.frozen 3
          refine hK.out _ _ trivial (fun hHeld => ?_)
          clear hK K
          try simp only [Act.put, List.setIfInBounds_toArray, List.set_cons_zero, List.set_cons_succ]
          refine wpAnyH_take (i := 9) (oi := _) (v := ?_) rfl (by kernel_rfl) (by kernel_rfl) (by kernel_rfl) (fun _ _ _ h => h) (Or.inl ⟨by rfl, ?_⟩) (by assumption) ?_
          rotate_left
          · (intro w hSw; (try dsimp only at hSw); go_simp; (try with_reducible rfl))
          try simp only [Act.put, List.setIfInBounds_toArray, List.set_cons_zero, List.set_cons_succ]
          refine wpAnyH_ready (rs := [10]) (by kernel_rfl) (by simp) ?_
          refine AllReadyH.cons (o := _) rfl (fun K hK => ?_) (AllReadyH.nil)
          go_simp
          refine hK.out _ _ trivial (fun hHeld => ?_)
          clear hK K
          try simp only [Act.put, List.setIfInBounds_toArray, List.set_cons_zero, List.set_cons_succ]
          refine wpAnyH_done (by kernel_rfl) ?_ _
          refine NoPanic.normal ?_
          clear hHeld
          have HGF := Lib.hid (HGP.out.setm (i0' := x1) (i1' := x2) (i2' := x3) (i4' := 0) (rt' := ⟨#[]⟩) (tb' := .slice vA (k + 1) vc) 3 (.slice vA (k + 1) vc) rfl)
          go_wp2
          go_roundw
          case rel => exact ⟨k + 1, _, l ++ [((xa : Int), (xb : Int))], by go_num, by omega, by rw [List.length_append, HL.out]; rfl, Lib.hid (by have h := HGF.out; rw [List.append_assoc, List.append_assoc] at h; rw [tabB_snoc]; exact h), Lib.hid (nonneg_snoc HE.out xa xb)⟩
          case measure => simp [intOf]; omega
        · (go_simp)
          go_at_call 69
          refine (short_gs HG0.out HSZ.out).mono ?_
          rintro r wa ⟨xa, rfl, hxa, HGA1, -, -⟩
          obtain ⟨p0, p1, p2, p3, p4, p5⟩ := HGA1.out.cells
          have p6 := (fun o => Lib.cell?_alloc_some o p3)
          dsimp only
          refine hK.out _ _ trivial (fun hHeld => ?_)
          clear hK K
          try simp only [Act.put, List.setIfInBounds_toArray, List.set_cons_zero, List.set_cons_succ]
          refine wpAnyH_ready (rs := [1, 5]) (by kernel_rfl) (by simp) ?_
          refine AllReadyH.cons (o := _) rfl (fun K hK => ?_) (AllReadyH.cons (o := _) rfl (fun K hK => ?_) (AllReadyH.nil))
          · go_simp
            refine hK.out _ _ trivial (fun hHeld => ?_)
            clear hK K
            try simp only [Act.put, List.setIfInBounds_toArray, List.set_cons_zero, List.set_cons_succ]
            refine wpAnyH_ready (rs := [5]) (by kernel_rfl) (by simp) ?_
            refine AllReadyH.cons (o := _) rfl (fun K hK => ?_) (AllReadyH.nil)
            (go_simp)
            go_at_call 69
            refine (short_gs HGA1.out HSZ.out).mono ?_
            rintro r wb ⟨xb, rfl, hxb, HGA2, -, -⟩
            obtain ⟨r0, r1, r2, r3, r4, r5⟩ := HGA2.out.cells
            have r6 := (fun o => Lib.cell?_alloc_some o r3)
            dsimp only
            refine hK.out _ _ trivial (fun hHeld => ?_)
            clear hK K
            try simp only [Act.put, List.setIfInBounds_toArray, List.set_cons_zero, List.set_cons_succ]
            refine wpAnyH_take (i := 6) (oi := _) (v := ?_) rfl (by kernel_rfl) (by kernel_rfl) (by kernel_rfl) (fun _ _ _ h => h) (Or.inl ⟨by rfl, ?_⟩) (by assumption) ?_
            rotate_left
            · (intro w hSw; (try dsimp only at hSw); go_simp; (try with_reducible rfl))
            try simp only [Act.put, List.setIfInBounds_toArray, List.set_cons_zero, List.set_cons_succ]
            refine wpAnyH_ready (rs := [7]) (by kernel_rfl) (by simp) ?_
            refine AllReadyH.cons (o := _) rfl (fun K hK => ?_) (AllReadyH.nil)
            go_simp
            refine hK.out _ _ trivial (fun hHeld => ?_)
            clear hK K
            try simp only [Act.put, List.setIfInBounds_toArray, List.set_cons_zero, List.set_cons_succ]
            refine wpAnyH_ready (rs := [8]) (by kernel_rfl) (by simp) ?_
            refine AllReadyH.cons (o := _) rfl (fun K hK => ?_) (AllReadyH.nil)
            refine TBO_append_wp (HGA2.out.alloc _).row (TBR.lit wb [((xa : Int), (xb : Int))] _ rfl 1 rfl (by simp)) rfl _ _ rfl rfl rfl (by have := HGA2.out.mlt; simp; omega) (by rw [HL.out]; simp only [List.length_cons, List.length_nil]; omega) ?_
            intro v3 w3 k1 k2
            have HGP := Lib.hid ((HGA2.out.alloc _).push k1 k2)
            clear k1 k2
            obtain ⟨vA, vc, hv3, -⟩ := HGP.out.row.shape
            rw [List.length_append, HL.out, List.length_singleton] at hv3
            subst hv3
            obtain ⟨q0, q1, q2, q3, q4, q5⟩ := HGP.out.cells
            have q6 := HGP.out.frozen 3
            refine hK.out _ _ trivial (fun hHeld => ?_)
            clear hK K
            try simp only [Act.put, List.setIfInBounds_toArray, List.set_cons_zero, List.set_cons_succ]
            refine wpAnyH_take (i := 9) (oi := _) (v := ?_) rfl (by kernel_rfl) (by kernel_rfl) (by kernel_rfl) (fun _ _ _ h => h) (Or.inl ⟨by rfl, ?_⟩) (by assumption) ?_
            rotate_left
            · (intro w hSw; (try dsimp only at hSw); go_simp; (try with_reducible rfl))
            try simp only [Act.put, List.setIfInBounds_toArray, List.set_cons_zero, List.set_cons_succ]
            refine wpAnyH_ready (rs := [10]) (by kernel_rfl) (by simp) ?_
            refine AllReadyH.cons (o := _) rfl (fun K hK => ?_) (AllReadyH.nil)
            go_simp
            refine hK.out _ _ trivial (fun hHeld => ?_)
            clear hK K
            try simp only [Act.put, List.setIfInBounds_toArray, List.set_cons_zero, List.set_cons_succ]
            refine wpAnyH_done (by kernel_rfl) ?_ _
            refine NoPanic.normal ?_
            clear hHeld
            have HGF := Lib.hid (HGP.out.setm (i0' := x1) (i1' := x2) (i2' := x3) (i4' := 0) (rt' := ⟨#[]⟩) (tb' := .slice vA (k + 1) vc) 3 (.slice vA (k + 1) vc) rfl)
            go_wp2
            go_roundw
            case rel => exact ⟨k + 1, _, l ++ [((xa : Int), (xb : Int))], by go_num, by omega, by rw [List.length_append, HL.out]; rfl, Lib.hid (by have h := HGF.out; rw [List.append_assoc, List.append_assoc] at h; rw [tabB_snoc]; exact h), Lib.hid (nonneg_snoc HE.out xa xb)⟩
            case measure => simp [intOf]; omega
          · (go_simp)
            go_at_call 69
            refine (short_gs HGA1.out HSZ.out).mono ?_
            rintro r wb ⟨xb, rfl, hxb, HGA2, -, -⟩
            obtain ⟨r0, r1, r2, r3, r4, r5⟩ := HGA2.out.cells
            have r6 := (fun o => Lib.cell?_alloc_some o r3)
            dsimp only
            refine hK.out _ _ trivial (fun hHeld => ?_)
            clear hK K
            try simp only [Act.put, List.setIfInBounds_toArray, List.set_cons_zero, List.set_cons_succ]
            refine wpAnyH_take (i := 6) (oi := _) (v := ?_) rfl (by kernel_rfl) (by kernel_rfl) (by kernel_rfl) (fun _ _ _ h => h) (Or.inl ⟨by rfl, ?_⟩) (by assumption) ?_
            rotate_left
            · (intro w hSw; (try dsimp only at hSw); go_simp; (try with_reducible rfl))
            try simp only [Act.put, List.setIfInBounds_toArray, List.set_cons_zero, List.set_cons_succ]
            refine wpAnyH_ready (rs := [1, 7]) (by kernel_rfl) (by simp) ?_
            refine AllReadyH.cons (o := _) rfl (fun K hK => ?_) (AllReadyH.cons (o := _) rfl (fun K hK => ?_) (AllReadyH.nil))
            · go_simp
              refine hK.out _ _ trivial (fun hHeld => ?_)
              clear hK K
              try simp only [Act.put, List.setIfInBounds_toArray, List.set_cons_zero, List.set_cons_succ]
              refine wpAnyH_ready (rs := [7]) (by kernel_rfl) (by simp) ?_
              refine AllReadyH.cons (o := _) rfl (fun K hK => ?_) (AllReadyH.nil)
              go_simp
              refine hK.out _ _ trivial (fun hHeld => ?_)
              clear hK K
              try simp only [Act.put, List.setIfInBounds_toArray, List.set_cons_zero, List.set_cons_succ]
              refine wpAnyH_ready (rs := [8]) (by kernel_rfl) (by simp) ?_
              refine AllReadyH.cons (o := _) rfl (fun K hK => ?_) (AllReadyH.nil)
              refine TBO_append_wp (HGA2.out.alloc _).row (TBR.lit wb [((xa : Int), (xb : Int))] _ rfl 1 rfl (by simp)) rfl _ _ rfl rfl rfl (by have := HGA2.out.mlt; simp; omega) (by rw [HL.out]; simp only [List.length_cons, List.length_nil]; omega) ?_
              intro v3 w3 k1 k2
              have HGP := Lib.hid ((HGA2.out.alloc _).push k1 k2)
              clear k1 k2
              obtain ⟨vA, vc, hv3, -⟩ := HGP.out.row.shape
              rw [List.length_append, HL.out, List.length_singleton] at hv3
              subst hv3
              obtain ⟨q0, q1, q2, q3, q4, q5⟩ := HGP.out.cells
              have q6 := HGP.out.frozen 3
              refine hK.out _ _ trivial (fun hHeld => ?_)
              clear hK K
              try simp only [Act.put, List.setIfInBounds_toArray, List.set_cons_zero, List.set_cons_succ]
              refine wpAnyH_take (i := 9) (oi := _) (v := ?_) rfl (by kernel_rfl) (by kernel_rfl) (by kernel_rfl) (fun _ _ _ h => h) (Or.inl ⟨by rfl, ?_⟩) (by assumption) ?_
              rotate_left
              · (intro w hSw; (try dsimp only at hSw); go_simp; (try with_reducible rfl))
              try simp only [Act.put, List.setIfInBounds_toArray, List.set_cons_zero, List.set_cons_succ]
              refine wpAnyH_ready (rs := [10]) (by kernel_rfl) (by simp) ?_
              refine AllReadyH.cons (o := _) rfl (fun K hK => ?_) (AllReadyH.nil)
              go_simp
              refine hK.out _ _ trivial (fun hHeld => ?_)
              clear hK K
              try simp only [Act.put, List.setIfInBounds_toArray, List.set_cons_zero, List.set_cons_succ]
              refine wpAnyH_done (by kernel_rfl) ?_ _
              refine NoPanic.normal ?_
              clear hHeld
              have HGF := Lib.hid (HGP.out.setm (i0' := x1) (i1' := x2) (i2' := x3) (i4' := 0) (rt' := ⟨#[]⟩) (tb' := .slice vA (k + 1) vc) 3 (.slice vA (k + 1) vc) rfl)
              go_wp2
              go_roundw
              case rel => exact ⟨k + 1, _, l ++ [((xa : Int), (xb : Int))], by go_num, by omega, by rw [List.length_append, HL.out]; rfl, Lib.hid (by have h := HGF.out; rw [List.append_assoc, List.append_assoc] at h; rw [tabB_snoc]; exact h), Lib.hid (nonneg_snoc HE.out xa xb)⟩
              case measure => simp [intOf]; omega
            · go_simp
              refine hK.out _ _ trivial (fun hHeld => ?_)
              clear hK K
              try simp only [Act.put, List.setIfInBounds_toArray, List.set_cons_zero, List.set_cons_succ]
              refine wpAnyH_ready (rs := [1]) (by kernel_rfl) (by simp) ?_
              refine AllReadyH.cons (o := _) rfl (fun K hK => ?_) (AllReadyH.nil)
              go_simp
              refine hK.out _ _ trivial (fun hHeld => ?_)
              clear hK K
              try simp only [Act.put, List.setIfInBounds_toArray, List.set_cons_zero, List.set_cons_succ]
              refine wpAnyH_ready (rs := [8]) (by kernel_rfl) (by simp) ?_
              refine AllReadyH.cons (o := _) rfl (fun K hK => ?_) (AllReadyH.nil)
              refine TBO_append_wp (HGA2.out.alloc _).row (TBR.lit wb [((xa : Int), (xb : Int))] _ rfl 1 rfl (by simp)) rfl _ _ rfl rfl rfl (by have := HGA2.out.mlt; simp; omega) (by rw [HL.out]; simp only [List.length_cons, List.length_nil]; omega) ?_
              intro v3 w3 k1 k2
              have HGP := Lib.hid ((HGA2.out.alloc _).push k1 k2)
              clear k1 k2
              obtain ⟨vA, vc, hv3, -⟩ := HGP.out.row.shape
              rw [List.length_append, HL.out, List.length_singleton] at hv3
              subst hv3
              obtain ⟨q0, q1, q2, q3, q4, q5⟩ := HGP.out.cells
              have q6 := HGP.out.frozen 3
              refine hK.out _ _ trivial (fun hHeld => ?_)
              clear hK K
              try simp only [Act.put, List.setIfInBounds_toArray, List.set_cons_zero, List.set_cons_succ]
              refine wpAnyH_take (i := 9) (oi := _) (v := ?_) rfl (by kernel_rfl) (by kernel_rfl) (by kernel_rfl) (fun _ _ _ h => h) (Or.inl ⟨by rfl, ?_⟩) (by assumption) ?_
              rotate_left
              · (intro w hSw; (try dsimp only at hSw); go_simp; (try with_reducible rfl))
              try simp only [Act.put, List.setIfInBounds_toArray, List.set_cons_zero, List.set_cons_succ]
              refine wpAnyH_ready (rs := [10]) (by kernel_rfl) (by simp) ?_
              refine AllReadyH.cons (o := _) rfl (fun K hK => ?_) (AllReadyH.nil)
              go_simp
              refine hK.out _ _ trivial (fun hHeld => ?_)
              clear hK K
              try simp only [Act.put, List.setIfInBounds_toArray, List.set_cons_zero, List.set_cons_succ]
              refine wpAnyH_done (by kernel_rfl) ?_ _
              refine NoPanic.normal ?_
              clear hHeld
              have HGF := Lib.hid (HGP.out.setm (i0' := x1) (i1' := x2) (i2' := x3) (i4' := 0) (rt' := ⟨#[]⟩) (tb' := .slice vA (k + 1) vc) 3 (.slice vA (k + 1) vc) rfl)
              go_wp2
              go_roundw
              case rel => exact ⟨k + 1, _, l ++ [((xa : Int), (xb : Int))], by go_num, by omega, by rw [List.length_append, HL.out]; rfl, Lib.hid (by have h := HGF.out; rw [List.append_assoc, List.append_assoc] at h; rw [tabB_snoc]; exact h), Lib.hid (nonneg_snoc HE.out xa xb)⟩
              case measure => simp [intOf]; omega
      · obtain rfl : k = x4 := by omega
        obtain ⟨tA, tc, htv, -⟩ := HG.out.row.shape
        rw [hl] at htv
        subst htv
        have HL := Lib.hid hl
        clear hl hk hlt
        go_upto_region 12 with (go_at_call 69; refine (short_gs HG.out HSZ.out).mono ?_; rintro r w8 ⟨x5, rfl, hx5, HG5, -, -⟩; obtain ⟨q0, q1, q2, q3, q4, q5⟩ := HG5.out.cells; have q6 := HG5.out.frozen 4)
        have hg6 := HG5.out.setm (i0' := x1) (i1' := x2) (i2' := x3) (i4' := x5) (rt' := ⟨#[]⟩) (tb' := .slice tA k tc) 4 (.int .i64 (x5 : Int)) rfl
        clear q0 q1 q2 q3 q4 q5 q6 HG5 HGS4
        generalize w8.setCell ⟨mb, 4, none⟩ (.int .i64 (x5 : Int)) = W9 at *
        obtain ⟨P5, hP5⟩ : ∃ P5, P4 ++ tabB l ++ shB x5 = P5 := ⟨_, rfl⟩
        have HP5 := Lib.hid hP5
        rw [hP5] at hg6
        have HG6 := Lib.hid hg6
        obtain ⟨a6, e6, hm6, hr6⟩ := hg6.rd
        have HM6 := Lib.hid hm6
        obtain ⟨c0, c1, c2⟩ := hm6.cells
        clear hP5 hg6 hm6 hx5 HG
        rcases hr6 with ⟨rfl, n, rfl, hn, hp⟩ | ⟨p, kk, rfl, hkk⟩
        · obtain ⟨y, av, ev, hrs, htx⟩ := text_any s n hn HSZ.out
          rw [hp] at hrs
          have HTX := Lib.hid htx
          have hne : ev = .nilIface ∨ ∃ t v, ev = .iface t v := hrs.shape
          have HRS := Lib.hid hrs
          clear htx hrs hp
          rcases hne with rfl | ⟨vt, vx, rfl⟩
          · obtain ⟨n2, rfl, hn2, hp2⟩ : ∃ n2 : Nat, av = (n2 : Int) ∧ n2 ≤ s.size ∧ s.data.toList.take n2 = P5 ++ txtB y := by
              rcases HRS.out with ⟨-, n2, h1, h2, h3⟩ | ⟨p, kk, h, -⟩
              · exact ⟨n2, h1, h2, h3⟩
              · exact absurd h (by simp)
            have HP2 := Lib.hid hp2
            clear hp2
            go_upto_region 14 with (go_at_call 70; refine (HTX.out _).mono ?_; rintro r w10 ⟨rfl, HB10⟩; have HG10 := Lib.hid (HG6.out.later HB10.out); have HM10 := Lib.hid ((HB10.out.block rb HM6.out.lt).trans HM6.out); obtain ⟨q0, q1, q2, q3, q4, q5⟩ := HG10.out.cells; have q6 := HG10.out.frozen 5; have HM11 : Hid (MR (w10.setCell ⟨mb, 5, none⟩ (.string y)) rb s n .nilIface) := Lib.hid ((heap_setCell_other _ ⟨mb, 5, none⟩ rb _ (by have := HG10.out.lt; show rb ≠ mb; omega)).trans HM10.out); obtain ⟨e0, e1, e2⟩ := HM11.out.cells; obtain ⟨f1, f2⟩ := HM11.out.frozen; have HM12 := Lib.hid (HM11.out.set1 (n2 : Int)); obtain ⟨e3, e4, e5⟩ := HM12.out.cells; obtain ⟨f3, f4⟩ := HM12.out.frozen)
            have hm13 := HM12.out.set2 (.nilIface)
            have hg13 := (HG10.out.setm (i0' := x1) (i1' := x2) (i2' := x3) (i4' := x5) (rt' := y) (tb' := .slice tA k tc) 5 (.string y) rfl).read hm13 HRS.out (grown_two (set_grown _ _ _ _) (set_grown _ _ _ _))
            clear q0 q1 q2 q3 q4 q5 q6 e0 e1 e2 f1 f2 e3 e4 e5 f3 f4 HM10 HM11 HM12 HG10
            generalize ((w10.setCell ⟨mb, 5, none⟩ (.string y)).setCell ⟨rb, 1, none⟩ (.int .i64 ((n2 : Int)))).setCell ⟨rb, 2, none⟩ (.nilIface) = W13 at *
            have HM13 := Lib.hid hm13
            have HG13 := Lib.hid hg13
            clear hm13 hg13
            have c2' := (HM13.out.cells).2.2
            have c1' := (HM13.out.cells).2.1
            by_cases hlt2 : n2 < s.size
            · have hl2 : (n2 : Int) < (s.size : Int) := by omega
              go_upto_region 17 with (fail)
              have HGD := Lib.hid (HG13.out.later (Below.refl _ _).drew)
              have HMD : Hid (MR W13.drew rb s n2 (.nilIface)) := Lib.hid HM13.out
              refine wp_region_noPanic ?_
              refine wp_region_held_drew (S := fun X => X.cell? ⟨rb, 1, none⟩ = some (.int .i64 (n2 : Int))) (by kernel_rfl) (HMD.out.cells.2.1) (fun hHeld => ?_)
              generalize W13.drew = WD at *
              refine wpAnyH_take (i := 0) (oi := _) (v := ?_) rfl (by kernel_rfl) (by kernel_rfl) (by kernel_rfl) (fun _ _ _ h => h) (Or.inl ⟨by rfl, ?_⟩) (by assumption) ?_
              rotate_left
              · (intro w hSw; (try dsimp only at hSw); go_simp; (try with_reducible rfl))
              try simp only [Act.put, List.getElem_toArray, List.getElem_cons_succ, List.getElem_cons_zero, List.setIfInBounds_toArray, List.set_cons_zero, List.set_cons_succ]
              refine wpAnyH_take (i := 1) (oi := _) (v := ?_) rfl (by kernel_rfl) (by kernel_rfl) (by kernel_rfl) (fun _ _ _ h => h) (Or.inl ⟨by rfl, ?_⟩) (by assumption) ?_
              rotate_left
              · (intro w hSw; (try dsimp only at hSw); go_simp; (try with_reducible rfl))
              try simp only [Act.put, List.getElem_toArray, List.getElem_cons_succ, List.getElem_cons_zero, List.setIfInBounds_toArray, List.set_cons_zero, List.set_cons_succ]
              refine wpAnyH_take (i := 2) (oi := _) (v := ?_) rfl (by kernel_rfl) (by kernel_rfl) (by kernel_rfl) (fun _ _ _ h => h) (Or.inl ⟨by rfl, ?_⟩) (by assumption) ?_
              rotate_left
              · (intro w hSw; (try dsimp only at hSw); go_simp; (try with_reducible rfl))
              try simp only [Act.put, List.getElem_toArray, List.getElem_cons_succ, List.getElem_cons_zero, List.setIfInBounds_toArray, List.set_cons_zero, List.set_cons_succ]
              refine wpAnyH_take (i := 3) (oi := _) (v := ?_) rfl (by kernel_rfl) (by kernel_rfl) (by kernel_rfl) (fun _ _ _ h => h) (Or.inl ⟨by rfl, ?_⟩) (by assumption) ?_
              rotate_left
              · (intro w hSw; (try dsimp only at hSw); go_simp; (try with_reducible rfl))
              try simp only [Act.put, List.getElem_toArray, List.getElem_cons_succ, List.getElem_cons_zero, List.setIfInBounds_toArray, List.set_cons_zero, List.set_cons_succ]
              refine wpAnyH_take (i := 4) (oi := _) (v := ?_) rfl (by kernel_rfl) (by kernel_rfl) (by kernel_rfl) (fun _ _ _ h => h) (Or.inl ⟨by rfl, ?_⟩) (by assumption) ?_
              rotate_left
              · (intro w hSw; (try dsimp only at hSw); go_simp; (try with_reducible rfl))
              try simp only [Act.put, List.getElem_toArray, List.getElem_cons_succ, List.getElem_cons_zero, List.setIfInBounds_toArray, List.set_cons_zero, List.set_cons_succ]
              refine wpAnyH_take (i := 5) (oi := _) (v := ?_) rfl (by kernel_rfl) (by kernel_rfl) (by kernel_rfl) (fun _ _ _ h => h) (Or.inl ⟨by rfl, ?_⟩) (by assumption) ?_
              rotate_left
              · (intro w hSw; (try dsimp only at hSw); go_simp; (try with_reducible rfl))
              try simp only [Act.put, List.getElem_toArray, List.getElem_cons_succ, List.getElem_cons_zero, List.setIfInBounds_toArray, List.set_cons_zero, List.set_cons_succ]
              refine wpAnyH_take (i := 6) (oi := _) (v := ?_) rfl (by kernel_rfl) (by kernel_rfl) (by kernel_rfl) (fun _ _ _ h => h) (Or.inl ⟨by rfl, ?_⟩) (by assumption) ?_
              rotate_left
              · (intro w hSw; (try dsimp only at hSw); go_simp; (try with_reducible rfl))
              try simp only [Act.put, List.getElem_toArray, List.getElem_cons_succ, List.getElem_cons_zero, List.setIfInBounds_toArray, List.set_cons_zero, List.set_cons_succ]
              refine wpAnyH_take (i := 7) (oi := _) (v := ?_) rfl (by kernel_rfl) (by kernel_rfl) (by kernel_rfl) (fun _ _ _ h => h) (Or.inl ⟨by rfl, ?_⟩) (by assumption) ?_
              rotate_left
              · (intro w hSw; (try dsimp only at hSw); go_simp; (try with_reducible rfl))
              try simp only [Act.put, List.getElem_toArray, List.getElem_cons_succ, List.getElem_cons_zero, List.setIfInBounds_toArray, List.set_cons_zero, List.set_cons_succ]
              refine wpAnyH_ready (rs := [8]) (by kernel_rfl) (by simp) ?_
              refine AllReadyH.cons (o := _) rfl (fun K hK => ?_) (AllReadyH.nil)
              obtain ⟨⟨t0, u0⟩, ⟨t1, u1⟩, ⟨t2, u2⟩, ⟨t3, u3⟩, ⟨t4, u4⟩, ⟨t5, u5⟩, hfin⟩ := res6 HGD.out.res (.int .i64 0) (.int .i64 0) (.int .i64 0) (.slice none 0 0) (.int .i64 0) (.string ⟨#[]⟩)
              have HFIN := Lib.hid hfin
              have HS6 := Lib.hid (zset_mr HMD.out (n := w.heap.size) (by have := HGD.out.lt; omega))
              clear hfin
              (go_simp)
              clear t0 t1 t2 t3 t4 t5 u0 u1 u2 u3 u4 u5
              refine hK.out _ _ (HS6.out.cells.2.1) (fun hHeld => ?_)
              clear hK K
              try simp only [Act.put, List.getElem_toArray, List.getElem_cons_succ, List.getElem_cons_zero, List.setIfInBounds_toArray, List.set_cons_zero, List.set_cons_succ]
              refine wpAnyH_take (i := 9) (oi := _) (v := ?_) rfl (by kernel_rfl) (by kernel_rfl) (by kernel_rfl) (fun _ _ _ h => h) (Or.inl ⟨by rfl, ?_⟩) (by assumption) ?_
              rotate_left
              · (intro w hSw; (try dsimp only at hSw); go_simp; (try with_reducible rfl))
              try simp only [Act.put, List.getElem_toArray, List.getElem_cons_succ, List.getElem_cons_zero, List.setIfInBounds_toArray, List.set_cons_zero, List.set_cons_succ]
              refine wpAnyH_done (by kernel_rfl) ?_ _
              refine NoPanic.normal ?_
              try simp only [List.getElem_toArray, List.getElem_cons_succ, List.getElem_cons_zero, List.setIfInBounds_toArray, List.set_cons_zero, List.set_cons_succ]
              clear hHeld
              go_wp2
              exact bodyPost_ret (cell2_result HFIN.out rfl _ rfl Tryz.underlying73 (by kernel_rfl) rfl) rfl ⟨Lib.hid (.inr ⟨n2, 4, rfl, .inr rfl⟩), Lib.hid (res6_below HGD.out.bel (Nat.le_refl _) _ _ _ _ _ _)⟩
            · have hl2 : ¬ (n2 : Int) < (s.size : Int) := by omega
              have hall : s.data.toList = P5 ++ txtB y := by rw [← HP2.out, List.take_of_length_le (by rw [list_sz0]; omega)]
              have HALL := Lib.hid hall
              obtain ⟨m0, m1, m2, m3, m4, m5⟩ := HG13.out.cells
              obtain ⟨tg, htg, -⟩ := HG13.out.row.reads
              have HTG := Lib.hid htg
              clear hall htg hn2 hlt2
              by_cases hmay : May ⟨x1, x2, x3, l, x5, y⟩
              · have HCK : Hid (Calls Tryz.prog 60 #[manV ⟨x1, x2, x3, l, x5, y⟩ (.slice tA k tc)] W13 fun e w' => e = .returned .nilIface ∧ Hid (Below W13.heap.size W13 w')) := Lib.hid (mcheck_ok ⟨x1, x2, x3, l, x5, y⟩ tg _ W13 HTG.out hmay)
                have HMAY := Lib.hid hmay
                have HEND : Hid (∀ W9, Below W13.heap.size W13 W9 → _) := Lib.hid (fun W9 h => res6 (HG13.out.later h).res (.int .i64 (x1 : Int)) (.int .i64 (x2 : Int)) (.int .i64 (x3 : Int)) (.slice tA k tc) (.int .i64 (x5 : Int)) (.string y))
                clear hmay
                go_wp2_with (go_at_call 60; refine HCK.out.mono ?_; rintro e w14 ⟨rfl, HB14⟩; obtain ⟨⟨t0, u0⟩, ⟨t1, u1⟩, ⟨t2, u2⟩, ⟨t3, u3⟩, ⟨t4, u4⟩, ⟨t5, u5⟩, hfin⟩ := HEND.out w14 HB14.out; have HFIN := Lib.hid hfin; clear hfin; obtain ⟨m0, m1, m2, m3, m4, m5⟩ := (HG13.out.later HB14.out).cells)
                have hrg := res6_grown w14 w.heap.size (.int .i64 (x1 : Int)) (.int .i64 (x2 : Int)) (.int .i64 (x3 : Int)) (.slice tA k tc) (.int .i64 (x5 : Int)) (.string y)
                have hqo := (HG13.out.later HB14.out).own w.heap.size (by have := HG13.out.lt; omega)
                have hro := (HG13.out.later HB14.out).row.kept hrg (.inr hqo)
                obtain ⟨g9, hg9, -⟩ := TBO.reads hro
                refine bodyPost_ret (cell2_result HFIN.out rfl _ rfl Tryz.underlying73 (by kernel_rfl) rfl) rfl ⟨Lib.hid (.inl ⟨⟨x1, x2, x3, l, x5, y⟩, .slice tA k tc, g9, rfl, hg9, HMAY.out, ?_⟩), Lib.hid (res6_below (HG13.out.later HB14.out).bel (Nat.le_refl _) _ _ _ _ _ _)⟩
                rw [HALL.out, ← HP5.out, ← HP4.out, manB]
                simp only [Int.toNat_natCast, HL.out, txtB, List.append_assoc]
              · have HCK : Hid (Calls Tryz.prog 60 #[manV ⟨x1, x2, x3, l, x5, y⟩ (.slice tA k tc)] W13 fun e w' => ∃ z : Int, e = .returned (faultV z 4) ∧ 0 ≤ z ∧ Hid (Below W13.heap.size W13 w')) := Lib.hid (mcheck_bad ⟨x1, x2, x3, l, x5, y⟩ tg _ W13 HTG.out hmay)
                have HEND : Hid (∀ W9, Below W13.heap.size W13 W9 → _) := Lib.hid (fun W9 h => res6 (HG13.out.later h).res (.int .i64 0) (.int .i64 0) (.int .i64 0) (.slice none 0 0) (.int .i64 0) (.string ⟨#[]⟩))
                clear hmay
                go_wp2_with (go_at_call 60; refine HCK.out.mono ?_; rintro e w14 ⟨z, rfl, hz, HB14⟩; obtain ⟨⟨t0, u0⟩, ⟨t1, u1⟩, ⟨t2, u2⟩, ⟨t3, u3⟩, ⟨t4, u4⟩, ⟨t5, u5⟩, hfin⟩ := HEND.out w14 HB14.out; have HFIN := Lib.hid hfin; clear hfin)
                obtain ⟨p, rfl⟩ := Int.eq_ofNat_of_zero_le hz
                exact bodyPost_ret (cell2_result HFIN.out rfl _ rfl Tryz.underlying73 (by kernel_rfl) rfl) rfl ⟨Lib.hid (.inr ⟨p, 4, rfl, .inr rfl⟩), Lib.hid (res6_below (HG13.out.later HB14.out).bel (Nat.le_refl _) _ _ _ _ _ _)⟩
          · obtain ⟨p, kk, hvv, hkk⟩ : ∃ p kk : Nat, Value.iface vt vx = faultV (p : Int) (kk : Int) ∧ (kk = 3 ∨ kk = 4) := by
              rcases HRS.out with ⟨h, -⟩ | h
              · exact absurd h (by simp)
              · exact h
            injection hvv with hv1 hv2
            subst hv1 hv2
            go_upto_region 14 with (go_at_call 70; refine (HTX.out _).mono ?_; rintro r w10 ⟨rfl, HB10⟩; have HG10 := Lib.hid (HG6.out.later HB10.out); have HM10 := Lib.hid ((HB10.out.block rb HM6.out.lt).trans HM6.out); obtain ⟨q0, q1, q2, q3, q4, q5⟩ := HG10.out.cells; have q6 := HG10.out.frozen 5; have HM11 : Hid (MR (w10.setCell ⟨mb, 5, none⟩ (.string y)) rb s n .nilIface) := Lib.hid ((heap_setCell_other _ ⟨mb, 5, none⟩ rb _ (by have := HG10.out.lt; show rb ≠ mb; omega)).trans HM10.out); obtain ⟨e0, e1, e2⟩ := HM11.out.cells; obtain ⟨f1, f2⟩ := HM11.out.frozen; have HM12 := Lib.hid (HM11.out.set1 av); obtain ⟨e3, e4, e5⟩ := HM12.out.cells; obtain ⟨f3, f4⟩ := HM12.out.frozen)
            have hm13 := HM12.out.set2 (faultV (p : Int) (kk : Int))
            have hg13 := (HG10.out.setm (i0' := x1) (i1' := x2) (i2' := x3) (i4' := x5) (rt' := y) (tb' := .slice tA k tc) 5 (.string y) rfl).read hm13 HRS.out (grown_two (set_grown _ _ _ _) (set_grown _ _ _ _))
            clear q0 q1 q2 q3 q4 q5 q6 e0 e1 e2 f1 f2 e3 e4 e5 f3 f4 HM10 HM11 HM12 HG10
            generalize ((w10.setCell ⟨mb, 5, none⟩ (.string y)).setCell ⟨rb, 1, none⟩ (.int .i64 (av))).setCell ⟨rb, 2, none⟩ (faultV (p : Int) (kk : Int)) = W13 at *
            have HM13 := Lib.hid hm13
            have HG13 := Lib.hid hg13
            clear hm13 hg13
            have c2' := (HM13.out.cells).2.2
            clear c0 c1 c2
            go_upto_region 15 with (fail)
            have HGD := Lib.hid (HG13.out.later (Below.refl _ _).drew)
            have HMD : Hid (MR W13.drew rb s av (faultV (p : Int) (kk : Int))) := Lib.hid HM13.out
            refine wp_region_noPanic ?_
            refine wp_region_held_drew (S := fun X => X.cell? ⟨rb, 2, none⟩ = some (faultV (p : Int) (kk : Int))) (by kernel_rfl) (HMD.out.cells.2.2) (fun hHeld => ?_)
            generalize W13.drew = WD at *
            refine wpAnyH_take (i := 0) (oi := _) (v := ?_) rfl (by kernel_rfl) (by kernel_rfl) (by kernel_rfl) (fun _ _ _ h => h) (Or.inl ⟨by rfl, ?_⟩) (by assumption) ?_
            rotate_left
            · (intro w hSw; (try dsimp only at hSw); go_simp; (try with_reducible rfl))
            try simp only [Act.put, List.getElem_toArray, List.getElem_cons_succ, List.getElem_cons_zero, List.setIfInBounds_toArray, List.set_cons_zero, List.set_cons_succ]
            refine wpAnyH_take (i := 1) (oi := _) (v := ?_) rfl (by kernel_rfl) (by kernel_rfl) (by kernel_rfl) (fun _ _ _ h => h) (Or.inl ⟨by rfl, ?_⟩) (by assumption) ?_
            rotate_left
            · (intro w hSw; (try dsimp only at hSw); go_simp; (try with_reducible rfl))
            try simp only [Act.put, List.getElem_toArray, List.getElem_cons_succ, List.getElem_cons_zero, List.setIfInBounds_toArray, List.set_cons_zero, List.set_cons_succ]
            refine wpAnyH_take (i := 2) (oi := _) (v := ?_) rfl (by kernel_rfl) (by kernel_rfl) (by kernel_rfl) (fun _ _ _ h => h) (Or.inl ⟨by rfl, ?_⟩) (by assumption) ?_
            rotate_left
            · (intro w hSw; (try dsimp only at hSw); go_simp; (try with_reducible rfl))
            try simp only [Act.put, List.getElem_toArray, List.getElem_cons_succ, List.getElem_cons_zero, List.setIfInBounds_toArray, List.set_cons_zero, List.set_cons_succ]
            refine wpAnyH_take (i := 3) (oi := _) (v := ?_) rfl (by kernel_rfl) (by kernel_rfl) (by kernel_rfl) (fun _ _ _ h => h) (Or.inl ⟨by rfl, ?_⟩) (by assumption) ?_
            rotate_left
            · (intro w hSw; (try dsimp only at hSw); go_simp; (try with_reducible rfl))
            try simp only [Act.put, List.getElem_toArray, List.getElem_cons_succ, List.getElem_cons_zero, List.setIfInBounds_toArray, List.set_cons_zero, List.set_cons_succ]
            refine wpAnyH_take (i := 4) (oi := _) (v := ?_) rfl (by kernel_rfl) (by kernel_rfl) (by kernel_rfl) (fun _ _ _ h => h) (Or.inl ⟨by rfl, ?_⟩) (by assumption) ?_
            rotate_left
            · (intro w hSw; (try dsimp only at hSw); go_simp; (try with_reducible rfl))
            try simp only [Act.put, List.getElem_toArray, List.getElem_cons_succ, List.getElem_cons_zero, List.setIfInBounds_toArray, List.set_cons_zero, List.set_cons_succ]
            refine wpAnyH_ready (rs := [5]) (by kernel_rfl) (by simp) ?_
            refine AllReadyH.cons (o := _) rfl (fun K hK => ?_) (AllReadyH.nil)
            obtain ⟨⟨t0, u0⟩, ⟨t1, u1⟩, ⟨t2, u2⟩, ⟨t3, u3⟩, ⟨t4, u4⟩, ⟨t5, u5⟩, hfin⟩ := res6 HGD.out.res (.int .i64 0) (.int .i64 0) (.int .i64 0) (.slice none 0 0) (.int .i64 0) (.string ⟨#[]⟩)
            have HFIN := Lib.hid hfin
            have HS6 := Lib.hid (zset_mr HMD.out (n := w.heap.size) (by have := HGD.out.lt; omega))
            clear hfin
            (go_simp)
            clear t0 t1 t2 t3 t4 t5 u0 u1 u2 u3 u4 u5
            refine hK.out _ _ (HS6.out.cells.2.2) (fun hHeld => ?_)
            clear hK K
            try simp only [Act.put, List.getElem_toArray, List.getElem_cons_succ, List.getElem_cons_zero, List.setIfInBounds_toArray, List.set_cons_zero, List.set_cons_succ]
            refine wpAnyH_take (i := 6) (oi := _) (v := ?_) rfl (by kernel_rfl) (by kernel_rfl) (by kernel_rfl) (fun _ _ _ h => h) (Or.inl ⟨by rfl, ?_⟩) (by assumption) ?_
            rotate_left
            · (intro w hSw; (try dsimp only at hSw); go_simp; (try with_reducible rfl))
            try simp only [Act.put, List.getElem_toArray, List.getElem_cons_succ, List.getElem_cons_zero, List.setIfInBounds_toArray, List.set_cons_zero, List.set_cons_succ]
            refine wpAnyH_done (by kernel_rfl) ?_ _
            refine NoPanic.normal ?_
            try simp only [List.getElem_toArray, List.getElem_cons_succ, List.getElem_cons_zero, List.setIfInBounds_toArray, List.set_cons_zero, List.set_cons_succ]
            clear hHeld
            go_wp2
            exact bodyPost_ret (cell2_result HFIN.out rfl _ rfl Tryz.underlying73 (by kernel_rfl) rfl) rfl ⟨Lib.hid (.inr ⟨p, kk, rfl, hkk⟩), Lib.hid (res6_below HGD.out.bel (Nat.le_refl _) _ _ _ _ _ _)⟩
        · go_upto_region 15 with (fail)
          have HM13 := HM6
          have HG13 := HG6
          have HGD := Lib.hid (HG13.out.later (Below.refl _ _).drew)
          have HMD : Hid (MR W9.drew rb s a6 (faultV (p : Int) (kk : Int))) := Lib.hid HM13.out
          refine wp_region_noPanic ?_
          refine wp_region_held_drew (S := fun X => X.cell? ⟨rb, 2, none⟩ = some (faultV (p : Int) (kk : Int))) (by kernel_rfl) (HMD.out.cells.2.2) (fun hHeld => ?_)
          generalize W9.drew = WD at *
          refine wpAnyH_take (i := 0) (oi := _) (v := ?_) rfl (by kernel_rfl) (by kernel_rfl) (by kernel_rfl) (fun _ _ _ h => h) (Or.inl ⟨by rfl, ?_⟩) (by assumption) ?_
          rotate_left
          · (intro w hSw; (try dsimp only at hSw); go_simp; (try with_reducible rfl))
          try simp only [Act.put, List.getElem_toArray, List.getElem_cons_succ, List.getElem_cons_zero, List.setIfInBounds_toArray, List.set_cons_zero, List.set_cons_succ]
          refine wpAnyH_take (i := 1) (oi := _) (v := ?_) rfl (by kernel_rfl) (by kernel_rfl) (by kernel_rfl) (fun _ _ _ h => h) (Or.inl ⟨by rfl, ?_⟩) (by assumption) ?_
          rotate_left
          · (intro w hSw; (try dsimp only at hSw); go_simp; (try with_reducible rfl))
          try simp only [Act.put, List.getElem_toArray, List.getElem_cons_succ, List.getElem_cons_zero, List.setIfInBounds_toArray, List.set_cons_zero, List.set_cons_succ]
          refine wpAnyH_take (i := 2) (oi := _) (v := ?_) rfl (by kernel_rfl) (by kernel_rfl) (by kernel_rfl) (fun _ _ _ h => h) (Or.inl ⟨by rfl, ?_⟩) (by assumption) ?_
          rotate_left
          · (intro w hSw; (try dsimp only at hSw); go_simp; (try with_reducible rfl))
          try simp only [Act.put, List.getElem_toArray, List.getElem_cons_succ, List.getElem_cons_zero, List.setIfInBounds_toArray, List.set_cons_zero, List.set_cons_succ]
          refine wpAnyH_take (i := 3) (oi := _) (v := ?_) rfl (by kernel_rfl) (by kernel_rfl) (by kernel_rfl) (fun _ _ _ h => h) (Or.inl ⟨by rfl, ?_⟩) (by assumption) ?_
          rotate_left
          · (intro w hSw; (try dsimp only at hSw); go_simp; (try with_reducible rfl))
          try simp only [Act.put, List.getElem_toArray, List.getElem_cons_succ, List.getElem_cons_zero, List.setIfInBounds_toArray, List.set_cons_zero, List.set_cons_succ]
          refine wpAnyH_take (i := 4) (oi := _) (v := ?_) rfl (by kernel_rfl) (by kernel_rfl) (by kernel_rfl) (fun _ _ _ h => h) (Or.inl ⟨by rfl, ?_⟩) (by assumption) ?_
          rotate_left
          · (intro w hSw; (try dsimp only at hSw); go_simp; (try with_reducible rfl))
          try simp only [Act.put, List.getElem_toArray, List.getElem_cons_succ, List.getElem_cons_zero, List.setIfInBounds_toArray, List.set_cons_zero, List.set_cons_succ]
          refine wpAnyH_ready (rs := [5]) (by kernel_rfl) (by simp) ?_
          refine AllReadyH.cons (o := _) rfl (fun K hK => ?_) (AllReadyH.nil)
          obtain ⟨⟨t0, u0⟩, ⟨t1, u1⟩, ⟨t2, u2⟩, ⟨t3, u3⟩, ⟨t4, u4⟩, ⟨t5, u5⟩, hfin⟩ := res6 HGD.out.res (.int .i64 0) (.int .i64 0) (.int .i64 0) (.slice none 0 0) (.int .i64 0) (.string ⟨#[]⟩)
          have HFIN := Lib.hid hfin
          have HS6 := Lib.hid (zset_mr HMD.out (n := w.heap.size) (by have := HGD.out.lt; omega))
          clear hfin
          (go_simp)
          clear t0 t1 t2 t3 t4 t5 u0 u1 u2 u3 u4 u5
          refine hK.out _ _ (HS6.out.cells.2.2) (fun hHeld => ?_)
          clear hK K
          try simp only [Act.put, List.getElem_toArray, List.getElem_cons_succ, List.getElem_cons_zero, List.setIfInBounds_toArray, List.set_cons_zero, List.set_cons_succ]
          refine wpAnyH_take (i := 6) (oi := _) (v := ?_) rfl (by kernel_rfl) (by kernel_rfl) (by kernel_rfl) (fun _ _ _ h => h) (Or.inl ⟨by rfl, ?_⟩) (by assumption) ?_
          rotate_left
          · (intro w hSw; (try dsimp only at hSw); go_simp; (try with_reducible rfl))
          try simp only [Act.put, List.getElem_toArray, List.getElem_cons_succ, List.getElem_cons_zero, List.setIfInBounds_toArray, List.set_cons_zero, List.set_cons_succ]
          refine wpAnyH_done (by kernel_rfl) ?_ _
          refine NoPanic.normal ?_
          try simp only [List.getElem_toArray, List.getElem_cons_succ, List.getElem_cons_zero, List.setIfInBounds_toArray, List.set_cons_zero, List.set_cons_succ]
          clear hHeld
          go_wp2
          exact bodyPost_ret (cell2_result HFIN.out rfl _ rfl Tryz.underlying73 (by kernel_rfl) rfl) rfl ⟨Lib.hid (.inr ⟨p, kk, rfl, hkk⟩), Lib.hid (res6_below HGD.out.bel (Nat.le_refl _) _ _ _ _ _ _)⟩
end Go.Proofs.YtjokfllldcjheaaGreatDoor.Mn
