/- Rows of numbers: read (IR), owned (OI); append at a list of operations and at a step of a region that draws; the reference's turn and half. · The reference's turn and half: what they tell of a word. · Plain facts for the reference's Sum: bits of whole numbers below 2^32, the next word, a round, the whole digest at once. · The loops of the reference's Sum, taken out of its code. -/
import Derived.Test.YtmhjocbnoppbbaaDoorShaM
import Derived.Test.YtmhjocbnoppbbaaDoorRefD
import Derived.Deep.QuietTactic
/- Rows of numbers: read (IR), owned (OI); append at a list of operations and at a step of a region that draws; the reference's turn and half. -/
namespace Go.Proofs.YtmhjocbnoppbbaaDoor.Sha
open Go.RowKit
set_option linter.unusedVariables false
set_option linter.unusedSimpArgs false

/-- a number as a value -/
def iv (n : Nat) : Value := .int .i64 (n : Int)
/-- v is a slice, at the head of block g, that reads as the numbers ns -/
def IR (w : World) (g : Nat) (v : Value) (ns : List Nat) : Prop :=
  ∃ A c, v = .slice A ns.length c ∧ ns.length ≤ c ∧ c ≤ 9223372036854775807 ∧ (0 < ns.length → A = some ⟨g, 0, none⟩ ∧ g < w.heap.size ∧ ∀ i, i < ns.length → w.cell? ⟨g, i, none⟩ = some (.int .i64 ((ns.getD i 0 : Nat) : Int)))
theorem IR.later {w w' : World} {g : Nat} {v : Value} {ns : List Nat} (h : IR w g v ns) (hb : Below w.heap.size w w') : IR w' g v ns := by
  obtain ⟨A, c, hv, h1, h2, h3⟩ := h
  refine ⟨A, c, hv, h1, h2, fun h => ?_⟩
  obtain ⟨ha, hl, hc⟩ := h3 h
  exact ⟨ha, Nat.lt_of_lt_of_le hl hb.size, fun i hi => (hb.cell (p := ⟨g, i, none⟩) hl).trans (hc i hi)⟩
theorem IR.below {w w' : World} {g : Nat} {v : Value} {ns : List Nat} (h : IR w g v ns) {B : Nat} (hb : Below B w w') (hB : g < B) : IR w' g v ns := by
  obtain ⟨A, c, hv, h1, h2, h3⟩ := h
  refine ⟨A, c, hv, h1, h2, fun h => ?_⟩
  obtain ⟨ha, hl, hc⟩ := h3 h
  exact ⟨ha, Nat.lt_of_lt_of_le hl hb.size, fun i hi => (hb.cell (p := ⟨g, i, none⟩) hB).trans (hc i hi)⟩
theorem IR.drewN {w : World} {g : Nat} {v : Value} {ns : List Nat} (h : IR w g v ns) (n : Nat) : IR (w.drewN n) g v ns := h
theorem IR.lt {w : World} {g : Nat} {v : Value} {ns : List Nat} (h : IR w g v ns) (hp : 0 < ns.length) : g < w.heap.size := by
  obtain ⟨A, c, hv, h1, h2, h3⟩ := h
  exact (h3 hp).2.1

/-- v is a row of numbers of the call's own -/
def OI (w : World) (base : Nat) (v : Value) (ns : List Nat) : Prop := w.ownsRow base 3 1 v ns.length (ns.map iv)
theorem OI.fresh (w : World) (base : Nat) (hb : base ≤ w.heap.size) : OI (w.alloc (.cells #[] 3)) base (.slice (some ⟨w.heap.size, 0, none⟩) 0 0) [] := by
  refine ⟨rfl, .inr ⟨w.heap.size, 0, _, rfl, hb, heap_alloc_new w _, ?_⟩⟩
  simp [maxLen]
theorem OI.alloc {w : World} {base : Nat} {v : Value} {ns : List Nat} (h : OI w base v ns) (o : Obj) : OI (w.alloc o) base v ns := World.ownsRow.alloc h o
theorem OI.base {w : World} {base : Nat} {v : Value} {ns : List Nat} (h : OI w base v ns) : ∀ k, v.ownBlock = some k → base ≤ k := fun k hk => (World.ownsRow.lt h k hk).1
theorem OI.kept {w w' : World} {base : Nat} {v : Value} {ns : List Nat} (h : OI w base v ns) {row : Option Nat} (hg : w.grownBy w' row) (hr : v.ownBlock = none ∨ v.ownBlock ≠ row) : OI w' base v ns := World.ownsRow.kept h hg hr
theorem OI.later {w w' : World} {base : Nat} {v : Value} {ns : List Nat} (h : OI w base v ns) (hb : Below w.heap.size w w') : OI w' base v ns :=
  h.kept (grown_below hb none) (by cases v.ownBlock <;> simp)
theorem OI.reads {w : World} {base : Nat} {v : Value} {ns : List Nat} (h : OI w base v ns) : ∃ g, IR w g v ns ∧ (0 < ns.length → base ≤ g) := by
  rcases h.2 with ⟨hv, hn⟩ | ⟨g, cap, cur, hv, hb, hh, hnc, hcm, hcs, htk⟩
  · exact ⟨0, ⟨none, 0, by rw [hv, hn], by omega, by omega, fun h => by omega⟩, fun h => by omega⟩
  · refine ⟨g, ⟨some ⟨g, 0, none⟩, cap, hv, hnc, by simp only [maxLen] at hcm; omega, fun _ => ⟨rfl, (Array.getElem?_eq_some_iff.1 hh).1, fun i hi => ?_⟩⟩, fun _ => hb⟩
    have := World.ownsRow.cells h (g := g) (by rw [hv]; rfl) i (iv (ns.getD i 0)) (by simp [List.getD_eq_getElem?_getD, hi])
    rwa [show (⟨g, 0, none⟩ : Addr).add i = ⟨g, i, none⟩ by unfold Addr.add; split <;> simp_all] at this
/-- a literal's numbers -/
theorem IR.lit (w : World) (ns : List Nat) (cs : Array Value) (hcs : cs = (ns.map iv).toArray) (n : Nat) (hn : n = ns.length) (h : ns.length ≤ 9223372036854775807) : IR (w.alloc (.cells cs 3)) w.heap.size (.slice (some ⟨w.heap.size, 0, none⟩) n n) ns := by
  subst hcs hn
  refine ⟨_, _, rfl, Nat.le_refl _, h, fun _ => ⟨rfl, by simp, fun i hi => ?_⟩⟩
  rw [cell_of_row _ w.heap.size i _ 3 (0, 0) (heap_alloc_new w _)]
  simp [hi, iv]
theorem OI.lit (w : World) (base : Nat) (hb : base ≤ w.heap.size) (ns : List Nat) (cs : Array Value) (hcs : cs = (ns.map iv).toArray) (n : Nat) (hn : n = ns.length) (h : ns.length ≤ 1000000000) : OI (w.alloc (.cells cs 3)) base (.slice (some ⟨w.heap.size, 0, none⟩) n n) ns := by
  subst hcs hn
  refine ⟨by simp, .inr ⟨w.heap.size, ns.length, _, rfl, hb, heap_alloc_new w _, Nat.le_refl _, by simp only [maxLen]; omega, by simp, ?_⟩⟩
  simp only [List.toList_toArray, Nat.mul_one]
  exact List.take_of_length_le (by simp)
theorem infoInt : (Tryd.prog.info? 3).map (fun i => (i.zero, i.size, i.bytes)) = some (some (.int .i64 0), 1, 8) := by kernel_rfl
theorem OI.append_run {w : World} {base : Nat} {v : Value} {xs : List Nat} (HO : OI w base v xs) {g : Nat} {y : Value} {ys : List Nat} (HR : IR w g y ys) (ty : TypeId) (hbase : base ≤ w.heap.size) (hl : xs.length + ys.length ≤ 1000000000) :
    ∃ v1 w1, (Builtin.append_ #[38, 38] ty #[v, y]).run Tryd.prog w = .ok v1 w1 ∧ OI w1 base v1 (xs ++ ys) ∧ w.grownBy w1 v.ownBlock := by
  obtain ⟨i0, hi, hzz⟩ := Option.map_eq_some_iff.1 infoInt
  simp only [Prod.mk.injEq] at hzz
  obtain ⟨hz0, hz1, hz2⟩ := hzz
  obtain ⟨A, c, rfl, h1, h2, h3⟩ := HR
  have go : ∀ ad : Addr, A = some ad → (∀ j u, (ys.map iv)[j]? = some u → w.cell? (ad.add j) = some u) → ∃ v1 w1, (Builtin.append_ #[38, 38] ty #[v, .slice A ys.length c]).run Tryd.prog w = .ok v1 w1 ∧ OI w1 base v1 (xs ++ ys) ∧ w.grownBy w1 v.ownBlock := by
    rintro ad rfl hc
    obtain ⟨v1, w1, hr, k2, k3, _, k5⟩ := run_append_own_at (P := Tryd.prog) w base 38 ty 3 i0 (.int .i64 0) 1 8 Tryd.underlying38 hi hz0 hz1 hz2 rfl (by omega) v xs.length (xs.map iv) HO ad ys.length c (ys.map iv) (by simp) hc (by simp [iv, Value.oneCell']) (by simp only [maxLen]; omega) (by omega) hbase
    refine ⟨v1, w1, hr, ?_, k3⟩
    unfold OI
    rw [List.length_append, List.map_append]
    exact k2
  by_cases hn : ys = []
  · subst hn
    rcases A with _ | ad
    · refine ⟨v, w, ?_, by simpa using HO, World.grownBy.refl w _⟩
      rcases HO.2 with ⟨rfl, hn⟩ | ⟨g, cap, cur, rfl, _, _, hnc, _⟩
      · simp [Builtin.append_, run_underlying Tryd.underlying38, sizeOf, typeInfo, hi, Builtin.lenOf, Builtin.firstCells]
      · simp [Builtin.append_, run_underlying Tryd.underlying38, sizeOf, typeInfo, hi, Builtin.lenOf, Builtin.firstCells, hnc, storeCells]
    · exact go ad rfl (fun j u hu => by simp at hu)
  · obtain ⟨ha, hlt, hcell⟩ := h3 (List.length_pos_iff.2 hn)
    refine go ⟨g, 0, none⟩ ha (fun j u hu => ?_)
    have hj : j < ys.length := by
      have := (List.getElem?_eq_some_iff.1 hu).1
      simpa using this
    have e : u = iv (ys.getD j 0) := by simpa [hj] using hu.symm
    rw [e, show (⟨g, 0, none⟩ : Addr).add j = ⟨g, j, none⟩ by unfold Addr.add; split <;> simp_all]
    exact hcell j hj
section
variable {ops : Array Oper} {rest : List Oper} {o : Oper} {a : Act} {w : World} {Q : Exit → Act → World → Prop}
theorem OI.append_on {base : Nat} {v : Value} {xs : List Nat} (HO : OI w base v xs) {g : Nat} {y : Value} {ys : List Nat} (HR : IR w g y ys) (hgd : o.guard = none) (s x : Operand)
    (ho : o.op = .call { callee := .builtin .append, args := #[s, x], argTypes := #[38, 38] }) (hs : a.eval s = v) (hx : a.eval x = y)
    (hbase : base ≤ w.heap.size) (hl : xs.length + ys.length ≤ 1000000000)
    (k : ∀ v1 w1, OI w1 base v1 (xs ++ ys) → w.grownBy w1 v.ownBlock → wpList Tryd.prog ops Q rest (a.put o.dst v1) w1) : wpList Tryd.prog ops Q (o :: rest) a w := by
  obtain ⟨v1, w1, hr, k2, k3⟩ := OI.append_run HO HR o.type hbase hl
  exact append_step hgd s x _ _ ho hs hx hr (k v1 w1 k2 k3)
theorem OI.append_wp {K : Act → World → Prop} {E : Prop} {base : Nat} {v : Value} {xs : List Nat} (HO : OI w base v xs) {g : Nat} {y : Value} {ys : List Nat} (HR : IR w g y ys) (hgd : o.guard = none) (s x : Operand)
    (ho : o.op = .call { callee := .builtin .append, args := #[s, x], argTypes := #[38, 38] }) (hs : a.eval s = v) (hx : a.eval x = y)
    (hbase : base ≤ w.heap.size) (hl : xs.length + ys.length ≤ 1000000000)
    (k : ∀ v1 w1, OI w1 base v1 (xs ++ ys) → w.grownBy w1 v.ownBlock → K (a.put o.dst v1) w1) : if Region.wanted o (yielded ops a.tmps) = true then Oper.wp Tryd.prog o a w K Q else E := by
  obtain ⟨v1, w1, hr, k2, k3⟩ := OI.append_run HO HR o.type hbase hl
  exact Sha.append_wp hgd s x _ _ ho hs hx hr (k v1 w1 k2 k3)
end
end Go.Proofs.YtmhjocbnoppbbaaDoor.Sha
/- The reference's turn and half: what they tell of a word. -/
namespace Go.Proofs.YtmhjocbnoppbbaaDoor.Ref
open Go.RowKit Go.Proofs.YtmhjocbnoppbbaaDoorW.PrintWords Go.Proofs.YtmhjocbnoppbbaaDoorW.PrintLast Go.Proofs.YtmhjocbnoppbbaaDoorW.PrintMore
set_option linter.unusedVariables false
set_option linter.unusedSimpArgs false

theorem w64 {x : Int} (h0 : -9223372036854775808 ≤ x) (h1 : x ≤ 9223372036854775807) : wrap64 x = x := by
  unfold wrap64; omega
theorem turn_loop (x n : Nat) (hx : x < 4294967296) (hn : n ≤ 31) : ∀ m i k, i + m = n → m + 1 ≤ k → ladingref02_turn.l0 k (x : Int) (n : Int) ((2 ^ i : Nat) : Int) (i : Int) = some ((Sha.rotr x n : Nat) : Int)
  | 0, i, k, hi, hk => by
    obtain ⟨k, rfl⟩ : ∃ q, k = q + 1 := ⟨k - 1, by omega⟩
    obtain rfl : i = n := by omega
    unfold ladingref02_turn.l0
    have hpos : 0 < 2 ^ i := Nat.pow_pos (by omega)
    have hr := Sha.rotr_lt x (i : Int) hx (by omega) (by omega)
    have hr2 : Sha.rotr x (i : Int) = x / 2 ^ i + x % 2 ^ i * (4294967296 / 2 ^ i) := by unfold Sha.rotr Sha.turnP; simp
    rw [hr2] at hr ⊢
    generalize 2 ^ i = p at hpos hr ⊢
    rw [if_neg (by omega), if_neg (by omega)]
    have e1 : Int.tdiv (x : Int) (p : Int) = ((x / p : Nat) : Int) := by
      rw [Int.tdiv_eq_ediv_of_nonneg (by omega)]; exact (Int.natCast_ediv _ _).symm
    have e2 : Int.tmod (x : Int) (p : Int) = ((x % p : Nat) : Int) := by
      rw [Int.tmod_eq_emod_of_nonneg (by omega)]; exact (Int.natCast_emod _ _).symm
    have e3 : (4294967296 : Int) / (p : Int) = ((4294967296 / p : Nat) : Int) := (Int.natCast_ediv _ _).symm
    have l1 : x / p < 4294967296 := Nat.lt_of_le_of_lt (Nat.div_le_self _ _) hx
    have l2 : 4294967296 / p ≤ 4294967296 := Nat.div_le_self _ _
    rw [e1, e2, e3]
    generalize 4294967296 / p = D at hr l2 ⊢
    generalize x / p = q at hr l1 ⊢
    generalize x % p = r at hr ⊢
    have e4 : (r : Int) * (D : Int) = ((r * D : Nat) : Int) := (Int.natCast_mul _ _).symm
    rw [w64 (x := (D : Int)) (by omega) (by omega), w64 (x := (q : Int)) (by omega) (by omega), e4]
    generalize r * D = m at hr ⊢
    rw [w64 (x := (m : Int)) (by omega) (by omega), w64 (by omega) (by omega)]
    rfl
  | m + 1, i, k, hi, hk => by
    obtain ⟨k, rfl⟩ : ∃ q, k = q + 1 := ⟨k - 1, by omega⟩
    unfold ladingref02_turn.l0
    have hp31 : 2 ^ i ≤ 2 ^ 31 := Nat.pow_le_pow_right (by omega) (by omega)
    have e2 : wrap64 (2 * ((2 ^ i : Nat) : Int)) = ((2 ^ (i + 1) : Nat) : Int) := by
      rw [Nat.pow_succ]
      generalize 2 ^ i = p at hp31 ⊢
      rw [w64 (by omega) (by omega)]; omega
    have e3 : wrap64 ((i : Int) + 1) = ((i + 1 : Nat) : Int) := by rw [w64 (by omega) (by omega)]; rfl
    rw [if_pos (by omega), e2, e3]
    exact turn_loop x n hx hn m (i + 1) k (by omega) (by omega)
theorem half_loop (n : Nat) (hn : n ≤ 31) : ∀ m i k (x : Nat), x < 4294967296 → i + m = n → m + 1 ≤ k → ladingref02_half.l0 k (x : Int) (n : Int) (i : Int) = some ((x / 2 ^ m : Nat) : Int)
  | 0, i, k, x, hx, hi, hk => by
    obtain ⟨k, rfl⟩ : ∃ q, k = q + 1 := ⟨k - 1, by omega⟩
    unfold ladingref02_half.l0
    rw [if_neg (by omega)]
    simp
  | m + 1, i, k, x, hx, hi, hk => by
    obtain ⟨k, rfl⟩ : ∃ q, k = q + 1 := ⟨k - 1, by omega⟩
    unfold ladingref02_half.l0
    have e1 : wrap64 (Int.tdiv (x : Int) 2) = ((x / 2 : Nat) : Int) := by
      rw [Int.tdiv_eq_ediv_of_nonneg (by omega), w64 (by omega) (by omega)]; omega
    have e3 : wrap64 ((i : Int) + 1) = ((i + 1 : Nat) : Int) := by rw [w64 (by omega) (by omega)]; rfl
    rw [if_pos (by omega), e1, e3, half_loop n hn m (i + 1) k (x / 2) (by omega) (by omega) (by omega), Nat.div_div_eq_div_mul, Nat.pow_succ, Nat.mul_comm]
theorem turn_calls (x n : Nat) (w : World) (hx : x < 4294967296) (hn : n ≤ 31) :
    Calls Tryd.prog 76 #[.int .i64 (x : Int), .int .i64 (n : Int)] w fun e w' => e = .returned (.int .i64 ((Sha.rotr x n : Nat) : Int)) ∧ ∃ m, w' = w.drewN m :=
  (ladingref02_turn.calls 40 x n _ w (turn_loop x n hx hn n 0 40 (by omega) (by omega))).mono fun _ _ ⟨he, hd⟩ => ⟨he, hd.out⟩
theorem half_calls (x n : Nat) (w : World) (hx : x < 4294967296) (hn : n ≤ 31) :
    Calls Tryd.prog 77 #[.int .i64 (x : Int), .int .i64 (n : Int)] w fun e w' => e = .returned (.int .i64 ((x / 2 ^ n : Nat) : Int)) ∧ ∃ m, w' = w.drewN m :=
  (ladingref02_half.calls 40 x n _ w (half_loop n hn n 0 40 x hx (by omega) (by omega))).mono fun _ _ ⟨he, hd⟩ => ⟨he, hd.out⟩
end Go.Proofs.YtmhjocbnoppbbaaDoor.Ref
/- Plain facts for the reference's Sum: bits of whole numbers below 2^32, the next word, a round, the whole digest at once. -/
namespace Go.Proofs.YtmhjocbnoppbbaaDoor.Sha
open Go.RowKit
set_option linter.unusedVariables false
set_option linter.unusedSimpArgs false

theorem ofInt_i64 (a : Nat) (ha : a < 4294967296) : (BitVec.ofInt 64 (a : Int)).toNat = a := by
  rw [BitVec.toNat_ofInt]; omega
theorem i64_xor_nat (a b : Nat) (ha : a < 4294967296) (hb : b < 4294967296) : bits .xor .i64 (a : Int) (b : Int) = ((a ^^^ b : Nat) : Int) := by
  have hx : a ^^^ b < 2 ^ 32 := Nat.xor_lt_two_pow (by omega) (by omega)
  show IntKind.i64.wrap ((BitVec.ofInt 64 (a : Int) ^^^ BitVec.ofInt 64 (b : Int)).toNat : Int) = _
  rw [BitVec.toNat_xor, ofInt_i64 a ha, ofInt_i64 b hb]
  exact IntWalk.i64_in _ (by omega)
theorem i64_and_nat (a b : Nat) (ha : a < 4294967296) (hb : b < 4294967296) : bits .and .i64 (a : Int) (b : Int) = ((a &&& b : Nat) : Int) := by
  have hx : a &&& b < 2 ^ 32 := Nat.and_lt_two_pow _ (by omega)
  show IntKind.i64.wrap ((BitVec.ofInt 64 (a : Int) &&& BitVec.ofInt 64 (b : Int)).toNat : Int) = _
  rw [BitVec.toNat_and, ofInt_i64 a ha, ofInt_i64 b hb]
  exact IntWalk.i64_in _ (by omega)

theorem turnI (x : Nat) (n : Int) (w : World) (hx : x < 4294967296) (h0 : 0 ≤ n) (h1 : n ≤ 31) :
    Calls Tryd.prog 76 #[.int .i64 (x : Int), .int .i64 n] w fun e w' => e = .returned (.int .i64 ((rotr x n : Nat) : Int)) ∧ ∃ m, w' = w.drewN m := by
  obtain ⟨k, rfl⟩ := Int.eq_ofNat_of_zero_le h0
  exact Ref.turn_calls x k w hx (by omega)
/-- x moved right by n places -/
def halfN (x : Nat) (n : Int) : Nat := x / 2 ^ n.toNat
theorem halfI (x : Nat) (n : Int) (w : World) (hx : x < 4294967296) (h0 : 0 ≤ n) (h1 : n ≤ 31) :
    Calls Tryd.prog 77 #[.int .i64 (x : Int), .int .i64 n] w fun e w' => e = .returned (.int .i64 ((halfN x n : Nat) : Int)) ∧ ∃ m, w' = w.drewN m := by
  obtain ⟨k, rfl⟩ := Int.eq_ofNat_of_zero_le h0
  exact Ref.half_calls x k w hx (by omega)

theorem sml0_bits (x : Nat) (h : x < 4294967296) : bits .xor .i64 (bits .xor .i64 ((rotr x 7 : Nat) : Int) ((rotr x 18 : Nat) : Int)) ((halfN x 3 : Nat) : Int) = ((sml0 x : Nat) : Int) := by
  have a1 := rotr_lt x 7 h (by omega) (by omega)
  have a2 := rotr_lt x 18 h (by omega) (by omega)
  have e : halfN x 3 = x / 8 := rfl
  rw [e]
  rw [i64_xor_nat _ _ a1 a2, i64_xor_nat _ _ (xor_lt32 a1 a2) (by omega)]
  rfl
theorem sml1_bits (x : Nat) (h : x < 4294967296) : bits .xor .i64 (bits .xor .i64 ((rotr x 17 : Nat) : Int) ((rotr x 19 : Nat) : Int)) ((halfN x 10 : Nat) : Int) = ((sml1 x : Nat) : Int) := by
  have a1 := rotr_lt x 17 h (by omega) (by omega)
  have a2 := rotr_lt x 19 h (by omega) (by omega)
  have e : halfN x 10 = x / 1024 := rfl
  rw [e]
  rw [i64_xor_nat _ _ a1 a2, i64_xor_nat _ _ (xor_lt32 a1 a2) (by omega)]
  rfl
theorem big0_bitsI (e : Nat) (he : e < 4294967296) : bits .xor .i64 (bits .xor .i64 ((rotr e 2 : Nat) : Int) ((rotr e 13 : Nat) : Int)) ((rotr e 22 : Nat) : Int) = ((big0 e : Nat) : Int) := by
  have a1 := rotr_lt e 2 he (by omega) (by omega)
  have a2 := rotr_lt e 13 he (by omega) (by omega)
  have a3 := rotr_lt e 22 he (by omega) (by omega)
  rw [i64_xor_nat _ _ a1 a2, i64_xor_nat _ _ (xor_lt32 a1 a2) a3]
  rfl
theorem big1_bitsI (e : Nat) (he : e < 4294967296) : bits .xor .i64 (bits .xor .i64 ((rotr e 6 : Nat) : Int) ((rotr e 11 : Nat) : Int)) ((rotr e 25 : Nat) : Int) = ((big1 e : Nat) : Int) := by
  have a1 := rotr_lt e 6 he (by omega) (by omega)
  have a2 := rotr_lt e 11 he (by omega) (by omega)
  have a3 := rotr_lt e 25 he (by omega) (by omega)
  rw [i64_xor_nat _ _ a1 a2, i64_xor_nat _ _ (xor_lt32 a1 a2) a3]
  rfl
theorem ch_bitsI (e f g : Nat) (he : e < 4294967296) (hf : f < 4294967296) (hg : g < 4294967296) :
    bits .xor .i64 (bits .and .i64 (e : Int) (f : Int)) (bits .and .i64 (4294967295 - (e : Int)) (g : Int)) = ((chW e f g : Nat) : Int) := by
  have e1 : (4294967295 - (e : Int)) = ((4294967295 - e : Nat) : Int) := by omega
  rw [e1, i64_and_nat e f he hf, i64_and_nat _ g (by omega) hg, i64_xor_nat _ _ (and_lt32 he) (and_lt32 (by omega))]
  rfl
theorem maj_bitsI (a b c : Nat) (ha : a < 4294967296) (hb : b < 4294967296) (hc : c < 4294967296) :
    bits .xor .i64 (bits .xor .i64 (bits .and .i64 (a : Int) (b : Int)) (bits .and .i64 (a : Int) (c : Int))) (bits .and .i64 (b : Int) (c : Int)) = ((majW a b c : Nat) : Int) := by
  rw [i64_and_nat a b ha hb, i64_and_nat a c ha hc, i64_and_nat b c hb hc, i64_xor_nat _ _ (and_lt32 ha) (and_lt32 ha), i64_xor_nat _ _ (xor_lt32 (and_lt32 ha) (and_lt32 ha)) (and_lt32 hb)]
  rfl
theorem chW_lt' (e f g : Nat) (he : e < 4294967296) : chW e f g < 4294967296 := chW_lt he

theorem t1_sumI (e f g h k w : Nat) : ((h : Int) + ((big1 e : Nat) : Int) + ((chW e f g : Nat) : Int) + (k : Int) + (w : Int)) % 4294967296 = ((t1W e f g h k w : Nat) : Int) := by unfold t1W; omega
theorem t2_sumI (a b c : Nat) : (((big0 a : Nat) : Int) + ((majW a b c : Nat) : Int)) % 4294967296 = ((t2W a b c : Nat) : Int) := by unfold t2W; omega
theorem addW_comm (s c : List Nat) : addW s c 8 = addW c s 8 := by
  unfold addW
  apply List.map_congr_left
  intro i hi
  rw [List.mem_range] at hi
  rw [if_pos hi, if_pos hi, Nat.add_comm]
theorem piecesW_next (c ks : List Nat) (bs : List UInt8) (r : Nat) : piecesW c ks bs (r + 1) = addW (piecesW c ks bs r) (roundsW (piecesW c ks bs r) ks (sched (bs.drop (64 * r)) 48) 64) 8 := by
  show takeW _ _ _ = _
  unfold takeW
  rw [addW_comm]
/-- the digest's words, all pieces at once -/
theorem dW_whole (txt : List UInt8) : piecesW H8 K64 (endW txt txt.length) ((endW txt txt.length).length / 64) = dW txt := by
  have hr : (restW txt).length = txt.length - 64 * (txt.length / 64) := by unfold restW; rw [List.length_drop]
  have hp : padZ ((restW txt).length + 1) = padZ (txt.length + 1) := by unfold padZ; omega
  have e : endW txt txt.length = txt.take (64 * (txt.length / 64)) ++ endW (restW txt) txt.length := by
    unfold endW
    rw [hp]
    have := List.take_append_drop (64 * (txt.length / 64)) txt
    calc txt ++ [128] ++ List.replicate (padZ (txt.length + 1)) 0 ++ be8 (8 * txt.length)
        = (txt.take (64 * (txt.length / 64)) ++ restW txt) ++ [128] ++ List.replicate (padZ (txt.length + 1)) 0 ++ be8 (8 * txt.length) := by unfold restW; rw [this]
      _ = _ := by simp only [List.append_assoc]
  have hl : (txt.take (64 * (txt.length / 64))).length = 64 * (txt.length / 64) := by rw [List.length_take]; omega
  have el : (endW txt txt.length).length / 64 = txt.length / 64 + (endW (restW txt) txt.length).length / 64 := by
    rw [e, List.length_append, hl]; omega
  have e2 : piecesW H8 K64 (endW txt txt.length) (txt.length / 64) = cW txt := by
    unfold cW
    rw [e, piecesW_append _ _ _ _ _ (by rw [hl]; exact Nat.le_refl _)]
    have := piecesW_append H8 K64 (txt.take (64 * (txt.length / 64))) (txt.drop (64 * (txt.length / 64))) (txt.length / 64) (by rw [hl]; exact Nat.le_refl _)
    rw [List.take_append_drop] at this
    exact this.symm
  rw [el, piecesW_add, e2]
  unfold dW
  congr 1
  rw [e, List.drop_append_of_le_length (by rw [hl]; exact Nat.le_refl _), List.drop_of_length_le (by rw [hl]; exact Nat.le_refl _)]
  rfl
end Go.Proofs.YtmhjocbnoppbbaaDoor.Sha
/- The loops of the reference's Sum, taken out of its code. -/
namespace Go.Proofs.YtmhjocbnoppbbaaDoor.Sha
open Go.RowKit
set_option linter.unusedVariables false
set_option linter.unusedSimpArgs false
/-- the bodies of all loops of a code, in the text's order -/
def loopsOf : Code → List Code
  | .loop c => c :: loopsOf c
  | .seq a b => loopsOf a ++ loopsOf b
  | .block _ c => loopsOf c
  | .scope c => loopsOf c
  | .cond _ a b => loopsOf a ++ loopsOf b
  | _ => []
/-- the k-th loop's body of the reference's Sum -/
noncomputable def sumLoop (k : Nat) : Code := ((Tryd.f62.body.map loopsOf).getD []).getD k .skip

/-- bytes as numbers -/
def nums (bs : List UInt8) : List Nat := bs.map fun b => b.toNat
theorem nums_length (bs : List UInt8) : (nums bs).length = bs.length := by simp [nums]
theorem nums_append (xs ys : List UInt8) : nums (xs ++ ys) = nums xs ++ nums ys := by simp [nums]
theorem nums_getD (bs : List UInt8) (i : Nat) : (nums bs).getD i 0 = byt bs i := by
  unfold nums byt
  by_cases h : i < bs.length
  · simp [List.getD_eq_getElem?_getD, h]
  · simp [List.getD_eq_getElem?_getD, List.getElem?_eq_none (Nat.le_of_not_lt h)]
theorem nums_take_succ (bs : List UInt8) (j : Nat) (h : j < bs.length) : nums (bs.take (j + 1)) = nums (bs.take j) ++ [byt bs j] := by
  rw [List.take_succ_eq_append_getElem h, nums_append]
  congr 1
  simp [nums, byt, h]
theorem quiet_of_add {P : Program} {f : FuncId} {args : Array Value} {w : World} {a n : Nat} {v : Value}
    (h : Calls P f args (w.drewN (a + n)) fun e w' => e = .returned v ∧ ∃ m, w' = (w.drewN (a + n)).drewN m) :
    Calls P f args (w.drewN (a + n)) fun e w'' => e = .returned v ∧ ∃ m, w'' = w.drewN (a + m) :=
  h.mono fun _ _ ⟨he, m, hm⟩ => ⟨he, n + m, by rw [hm, World.drewN_drewN, Nat.add_assoc]⟩
theorem OI.stored {w : World} {base g n cp : Nat} {ns : List Nat} (h : OI w base (.slice (some ⟨g, 0, none⟩) n cp) ns) (j x : Nat) : OI (w.setCell ⟨g, j, none⟩ (.int .i64 (x : Int))) base (.slice (some ⟨g, 0, none⟩) n cp) (ns.set j x) := by
  have hn : n = ns.length := by
    obtain ⟨g', ⟨A, c, hv, -⟩, -⟩ := h.reads
    injection hv
  subst hn
  have := (World.ownsRow.stored (u := iv x) (j := j) h).1
  unfold OI
  rw [List.map_set, List.length_set]
  exact this
theorem OI.frozen {w : World} {base g n cp : Nat} {ns : List Nat} (h : OI w base (.slice (some ⟨g, 0, none⟩) n cp) ns) (j : Nat) : w.frozen? ⟨g, j, none⟩ = false := by
  have hn : n = ns.length := by
    obtain ⟨g', ⟨A, c, hv, -⟩, -⟩ := h.reads
    injection hv
  subst hn
  exact World.ownsRow.frozenAt h j
theorem OI.drewN {w : World} {base : Nat} {v : Value} {ns : List Nat} (h : OI w base v ns) (n : Nat) : OI (w.drewN n) base v ns := h
/-- a row of numbers of the call's own, with at least one number: its cells -/
theorem OI.open_ {w : World} {base : Nat} {v : Value} {ns : List Nat} (h : OI w base v ns) {n : Nat} (hn : ns.length = n) (hp : 0 < n) : ∃ g c, v = .slice (some ⟨g, 0, none⟩) n c ∧ base ≤ g ∧ g < w.heap.size ∧ n ≤ c ∧ c ≤ 9223372036854775807 ∧ ∀ i, i < n → w.cell? ⟨g, i, none⟩ = some (.int .i64 ((ns.getD i 0 : Nat) : Int)) := by
  subst hn
  obtain ⟨g, ⟨A, c, hv, h1, h2, h3⟩, hg⟩ := h.reads
  obtain ⟨rfl, hl, hc⟩ := h3 hp
  exact ⟨g, c, hv, hg hp, hl, h1, h2, hc⟩
theorem IR.cell {w : World} {g n c : Nat} {ns : List Nat} (h : IR w g (.slice (some ⟨g, 0, none⟩) n c) ns) (i : Nat) (hi : i < ns.length) : w.cell? ⟨g, i, none⟩ = some (.int .i64 ((ns.getD i 0 : Nat) : Int)) := by
  obtain ⟨A, c', hv, h1, h2, h3⟩ := h
  exact (h3 (by omega)).2.2 i hi
theorem IR.kept {w w' : World} {g : Nat} {v : Value} {ns : List Nat} (h : IR w g v ns) {row : Option Nat} (hg : w.grownBy w' row) (hr : some g ≠ row) : IR w' g v ns := by
  obtain ⟨A, c, hv, h1, h2, h3⟩ := h
  refine ⟨A, c, hv, h1, h2, fun h => ?_⟩
  obtain ⟨ha, hl, hc⟩ := h3 h
  exact ⟨ha, Nat.lt_of_lt_of_le hl hg.size, fun i hi => hg.cell (hc i hi) hr⟩
theorem IR.set_other {w : World} {g : Nat} {v : Value} {ns : List Nat} (h : IR w g v ns) (p : Addr) (x : Value) (hp : g ≠ p.block) : IR (w.setCell p x) g v ns :=
  h.kept (grown_setCell w p x) (fun e => hp (by injection e))
theorem ok_inj {v v' : Value} {w w' : World} (h : (Result.ok v w : Result Value) = .ok v' w') : v = v' ∧ w = w' := by
  injection h with a b
  exact ⟨a, b⟩
/-- .. and what the row held reads as before, by the old slice -/
theorem OI.append_run2 {w : World} {base g0 n c0 : Nat} {xs : List Nat} (HO : OI w base (.slice (some ⟨g0, 0, none⟩) n c0) xs) {g : Nat} {y : Value} {ys : List Nat} (HR : IR w g y ys) (hp : 0 < ys.length) (ty : TypeId) (hbase : base ≤ w.heap.size) (hl : xs.length + ys.length ≤ 1000000000) :
    ∃ v1 w1, (Builtin.append_ #[38, 38] ty #[.slice (some ⟨g0, 0, none⟩) n c0, y]).run Tryd.prog w = .ok v1 w1 ∧ OI w1 base v1 (xs ++ ys) ∧ w.grownBy w1 (some g0) ∧ ∀ i, i < xs.length → w1.cell? ⟨g0, i, none⟩ = w.cell? ⟨g0, i, none⟩ := by
  obtain ⟨v1, w1, hr, k2, k3⟩ := OI.append_run HO HR ty hbase hl
  refine ⟨v1, w1, hr, k2, k3, fun i hi => ?_⟩
  obtain ⟨i0, hi0, hzz⟩ := Option.map_eq_some_iff.1 infoInt
  simp only [Prod.mk.injEq] at hzz
  obtain ⟨hz0, hz1, hz2⟩ := hzz
  have hn : n = xs.length := by
    obtain ⟨g', ⟨A, c, hv, -⟩, -⟩ := HO.reads
    injection hv
  subst hn
  obtain ⟨A, c, rfl, h1, h2, h3⟩ := HR
  obtain ⟨rfl, hlt, hcell⟩ := h3 hp
  have hnews : ∀ (j : Nat) (u : Value), (ys.map iv)[j]? = some u → w.cell? ((⟨g, 0, none⟩ : Addr).add j) = some u := fun j u hu => by
    have hj : j < ys.length := by
      have := (List.getElem?_eq_some_iff.1 hu).1
      simpa using this
    have e : u = iv (ys.getD j 0) := by simpa [hj] using hu.symm
    rw [e, show (⟨g, 0, none⟩ : Addr).add j = ⟨g, j, none⟩ by unfold Addr.add; split <;> simp_all]
    exact hcell j hj
  rcases HO.2 with ⟨hv, _⟩ | ⟨g', cap, cur, hv, hbg, hg, hnc, hcm, hcs, htake⟩
  · simp at hv
  · simp only [Value.slice.injEq, Option.some.injEq, Addr.mk.injEq, and_true, true_and] at hv
    obtain ⟨rfl, rfl⟩ := hv
    by_cases hroom : xs.length + ys.length ≤ c0
    · have hfit : xs.length * 1 + (ys.map iv).length ≤ cur.size := by rw [hcs, List.length_map]; omega
      have hr2 := run_append_room (P := Tryd.prog) w 38 ty 3 i0 Tryd.underlying38 hi0 g0 xs.length c0 cur hg ⟨g, 0, none⟩ ys.length c (ys.map iv) (by simp [hz1]) hnews (by simp [iv, Value.oneCell']) hroom (by rw [hz1]; exact hfit)
      obtain ⟨hv1, hw1⟩ := ok_inj (hr.symm.trans hr2)
      subst hv1
      have hh := World.ownsRow.cells k2 (g := g0) rfl i (iv ((xs ++ ys).getD i 0)) (by simp [List.getD_eq_getElem?_getD, List.getElem?_append_left hi, hi, Nat.lt_of_lt_of_le hi (Nat.le_add_right _ _)])
      have hh0 := World.ownsRow.cells HO (g := g0) rfl i (iv (xs.getD i 0)) (by simp [List.getD_eq_getElem?_getD, hi])
      rw [show (⟨g0, 0, none⟩ : Addr).add i = ⟨g0, i, none⟩ by unfold Addr.add; split <;> simp_all] at hh hh0
      rw [hh, hh0]
      simp [List.getD_eq_getElem?_getD, List.getElem?_append_left hi]
    · have holds : ∀ (j : Nat) (u : Value), (xs.map iv)[j]? = some u → w.cell? ((⟨g0, 0, none⟩ : Addr).add j) = some u := World.ownsRow.cells HO (g := g0) rfl
      have hr2 := run_append_grow (P := Tryd.prog) w 38 ty 3 i0 (.int .i64 0) Tryd.underlying38 hi0 hz0 ⟨g0, 0, none⟩ xs.length c0 (xs.map iv) (by simp [hz1]) holds ⟨g, 0, none⟩ ys.length c (ys.map iv) (by simp [hz1]) hnews (by simp only [maxLen] at hcm; omega) (by omega) (growslice_fits (by omega) (by rw [hz2]; omega))
      obtain ⟨hv1, hw1⟩ := ok_inj (hr.symm.trans hr2)
      rw [hw1]
      have hlt0 : g0 < w.heap.size := (Array.getElem?_eq_some_iff.1 hg).1
      exact (((Below.refl w.heap.size w).drew).alloc (by simp) _).cell (p := ⟨g0, i, none⟩) hlt0
theorem OI.append_wp2 {ops : Array Oper} {o : Oper} {a : Act} {w : World} {Q : Exit → Act → World → Prop} {K : Act → World → Prop} {E : Prop} {base g0 n c0 : Nat} {xs : List Nat} (HO : OI w base (.slice (some ⟨g0, 0, none⟩) n c0) xs) {g : Nat} {y : Value} {ys : List Nat} (HR : IR w g y ys) (hp : 0 < ys.length) (hgd : o.guard = none) (s x : Operand)
    (ho : o.op = .call { callee := .builtin .append, args := #[s, x], argTypes := #[38, 38] }) (hs : a.eval s = .slice (some ⟨g0, 0, none⟩) n c0) (hx : a.eval x = y)
    (hbase : base ≤ w.heap.size) (hl : xs.length + ys.length ≤ 1000000000)
    (k : ∀ v1 w1, OI w1 base v1 (xs ++ ys) → w.grownBy w1 (some g0) → (∀ i, i < xs.length → w1.cell? ⟨g0, i, none⟩ = w.cell? ⟨g0, i, none⟩) → K (a.put o.dst v1) w1) : if Region.wanted o (yielded ops a.tmps) = true then Oper.wp Tryd.prog o a w K Q else E := by
  obtain ⟨v1, w1, hr, k2, k3, k4⟩ := OI.append_run2 HO HR hp o.type hbase hl
  exact Sha.append_wp hgd s x _ _ ho hs hx hr (k v1 w1 k2 k3 k4)
theorem keep2 {w : World} {p : Addr} {v : Value} (h : w.cell? p = some v) (hp : p.block < w.heap.size) (o : Obj) : (w.alloc o).cell? p = some v :=
  (((Below.refl w.heap.size w).alloc (Nat.le_refl _) o).cell hp).trans h
end Go.Proofs.YtmhjocbnoppbbaaDoor.Sha
