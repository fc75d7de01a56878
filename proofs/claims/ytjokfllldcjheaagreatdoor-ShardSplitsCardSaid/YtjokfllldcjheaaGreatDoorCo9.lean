/- ShardSplits: its argument Cut opened; an append of any texts; struct values compared. -/
import Derived.Test.YtjokfllldcjheaaGreatDoorJl
import Derived.Test.YtjokfllldcjheaaGreatDoorOpen
namespace Go.Proofs.YtjokfllldcjheaaGreatDoor.Sha
open Go.RowKit Go.ChangeShapes Go.WideShapes
set_option linter.unusedVariables false
set_option linter.unusedSimpArgs false
set_option maxRecDepth 100000
theorem cut_open {H : Type} {enc : TypeId × Value → H} {W : World} {base : Nat} {spare : Nat → Bool} {held : Bool} {r : Reach} {b0 : Nat} {v : Value} {d : DataW H} {ps : List MemPlace}
    (hval : Value.okWide Tryz.prog W r b0 24 v) (hd : DataW.Trod enc Tryz.prog W base spare held 24 v d ps) :
    ∃ a b, v = .agg #[.int .i64 a, .int .u8 b] ∧ (Lit.int .i64 a).wf = true ∧ (Lit.int .u8 b).wf = true := by
  have hv : ∃ cs, v = .agg cs := by
    unfold Value.okWide at hval
    rw [Tryz.underlying24] at hval
    obtain ⟨cs, rfl, _⟩ := hval
    exact ⟨cs, rfl⟩
  obtain ⟨⟨cs⟩, rfl⟩ := hv
  obtain ⟨fuel, hf⟩ := hd
  have ht := Tryz.underlying24
  obtain ⟨xs, m, -, -, hl, hn, hx⟩ := DataW.trod_struct ht hf
  have hn3 : xs.length = 2 := hn
  have x0 := hx 0 _ rfl
  have x1 := hx 1 _ rfl
  rw [List.getElem?_eq_getElem (show 0 < xs.length by omega)] at x0
  rw [List.getElem?_eq_getElem (show 1 < xs.length by omega)] at x1
  obtain ⟨a, e0, -, w0⟩ := DataW.trod_int Tryz.underlying3 x0
  obtain ⟨b, e1, -, w1⟩ := DataW.trod_int Tryz.underlying5 x1
  refine ⟨a, b, ?_, w0, w1⟩
  rw [show Tryz.prog.cellsOf 24 = 2 by kernel_rfl] at hl
  have hl' : cs.length = 2 := hl
  have h1 : Tryz.prog.cellsOf 3 = 1 := by kernel_rfl
  have h2 : Tryz.prog.cellsOf 5 = 1 := by kernel_rfl
  have e0' : (cs.drop 0).take 1 = [.int .i64 a] := by rw [← h1]; exact e0
  have e1' : (cs.drop 1).take 1 = [.int .u8 b] := by rw [← h2]; exact e1
  match cs, hl', e0', e1' with
  | [p, q], _, h0, h1 =>
    simp at h0 h1
    rw [h0, h1]
theorem OT.append_run0 {w : World} {base : Nat} {v : Value} {xs : List ByteArray} (HO : OT w base v xs) {g : Nat} {y : Value} {ys : List ByteArray} (HR : SR w g y ys) (ty : TypeId) (hbase : base ≤ w.heap.size) (hl : xs.length + ys.length ≤ 1000000000) :
    ∃ v1 w1, (Builtin.append_ #[31, 31] ty #[v, y]).run Tryz.prog w = .ok v1 w1 ∧ OT w1 base v1 (xs ++ ys) ∧ w.grownBy w1 v.ownBlock := by
  by_cases hn : ys = []
  · subst hn
    obtain ⟨i0, hi, hzz⟩ := Option.map_eq_some_iff.1 infoStr
    simp only [Prod.mk.injEq] at hzz
    obtain ⟨hz0, hz1, hz2⟩ := hzz
    obtain ⟨A, c, rfl, h1, h2, h3⟩ := HR
    rcases A with _ | ad
    · refine ⟨v, w, ?_, by simpa using HO, World.grownBy.refl w _⟩
      rcases HO.2 with ⟨rfl, hn⟩ | ⟨g, cap, cur, rfl, _, _, hnc, _⟩
      · simp [Builtin.append_, run_underlying Tryz.underlying31, sizeOf, typeInfo, hi, Builtin.lenOf, Builtin.firstCells, hz1]
      · simp [Builtin.append_, run_underlying Tryz.underlying31, sizeOf, typeInfo, hi, Builtin.lenOf, Builtin.firstCells, hnc, storeCells, hz1]
    · obtain ⟨v1, w1, hr, k2, k3, _, k5⟩ := run_append_own_at (P := Tryz.prog) w base 31 ty 9 i0 (.string ByteArray.empty) 1 16 Tryz.underlying31 hi hz0 hz1 hz2 rfl (by omega) v xs.length (xs.map Value.string) HO ad 0 c [] (by simp) (fun j u hu => by simp at hu) (by simp) (by simp only [maxLen]; simp at hl; omega) (by omega) hbase
      refine ⟨v1, w1, hr, ?_, k3⟩
      unfold OT
      rw [List.append_nil]
      simpa using k2
  · exact OT.append_run HO HR (List.length_pos_iff.2 hn) ty hbase hl
theorem OT.fresh (w : World) (base : Nat) (hb : base ≤ w.heap.size) : OT (w.alloc (.cells #[] 9)) base (.slice (some ⟨w.heap.size, 0, none⟩) 0 0) [] :=
  World.ownsRow_lit w #[] 0 hb (by simp only [maxLen]; omega) rfl
/-- the first k texts of a slice, and the others -/
theorem SR_first {w : World} {g o n c : Nat} {ss : List ByteArray} (hc : ∀ (j : Nat) x, ss[j]? = some x → w.cell? ⟨g, o + j, none⟩ = some (.string x)) (hn : ss.length = n) (hnc : n ≤ c) (hcm : c ≤ 9223372036854775807) (k : Nat) (hk : k ≤ n) : SR w g (.slice (some ⟨g, o, none⟩) k c) (ss.take k) := by
  refine ⟨some ⟨g, o, none⟩, c, by rw [List.length_take, Nat.min_eq_left (by omega)], by rw [List.length_take]; omega, hcm, fun h => ⟨_, rfl, rfl, fun i hi => ?_⟩⟩
  rw [List.length_take] at hi
  have hi2 : i < ss.length := by omega
  have := hc i ss[i] (List.getElem?_eq_getElem hi2)
  rw [show (⟨g, o, none⟩ : Addr).add i = ⟨g, o + i, none⟩ by unfold Addr.add; split <;> simp_all, this]
  simp [List.getD_eq_getElem?_getD, List.getElem?_take_of_lt (show i < k by omega), hi2]
theorem SR_rest {w : World} {g o n c : Nat} {ss : List ByteArray} (hc : ∀ (j : Nat) x, ss[j]? = some x → w.cell? ⟨g, o + j, none⟩ = some (.string x)) (hn : ss.length = n) (hnc : n ≤ c) (hcm : c ≤ 9223372036854775807) (k : Nat) (hk : k ≤ n) : SR w g (.slice (some ⟨g, o + k, none⟩) (n - k) (c - k)) (ss.drop k) := by
  refine ⟨some ⟨g, o + k, none⟩, c - k, by rw [List.length_drop, hn], by rw [List.length_drop]; omega, by omega, fun h => ⟨_, rfl, rfl, fun i hi => ?_⟩⟩
  rw [List.length_drop] at hi
  have hi2 : k + i < ss.length := by omega
  have := hc (k + i) ss[k + i] (List.getElem?_eq_getElem hi2)
  rw [show (⟨g, o + k, none⟩ : Addr).add i = ⟨g, o + (k + i), none⟩ by unfold Addr.add; split <;> simp_all [Nat.add_assoc], this]
  simp [List.getD_eq_getElem?_getD, hi2]
section
variable {ops : Array Oper} {rest : List Oper} {o : Oper} {a : Act} {w : World} {Q : Exit → Act → World → Prop}
theorem OT.append_wp0 {K : Act → World → Prop} {E : Prop} {base : Nat} {v : Value} {xs : List ByteArray} (HO : OT w base v xs) {g : Nat} {y : Value} {ys : List ByteArray} (HR : SR w g y ys) (hgd : o.guard = none) (s x : Operand)
    (ho : o.op = .call { callee := .builtin .append, args := #[s, x], argTypes := #[31, 31] }) (hs : a.eval s = v) (hx : a.eval x = y)
    (hbase : base ≤ w.heap.size) (hl : xs.length + ys.length ≤ 1000000000)
    (k : ∀ v1 w1, OT w1 base v1 (xs ++ ys) → w.grownBy w1 v.ownBlock → K (a.put o.dst v1) w1) : if Region.wanted o (yielded ops a.tmps) = true then Oper.wp Tryz.prog o a w K Q else E := by
  obtain ⟨v1, w1, hr, k2, k3⟩ := OT.append_run0 HO HR o.type hbase hl
  exact Sha.append_wp hgd s x _ _ ho hs hx hr (k v1 w1 k2 k3)
end
end Go.Proofs.YtjokfllldcjheaaGreatDoor.Sha
