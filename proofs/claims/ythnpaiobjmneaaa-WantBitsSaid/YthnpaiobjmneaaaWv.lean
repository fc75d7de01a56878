/- want: Over over the state in memory; rows of integers appended to. -/
import Derived.Test.YthnpaiobjmneaaaWg
namespace Go.Proofs.Ythnpaiobjmneaaa.Wa
open Go.RowKit Go.Maps
set_option linter.unusedVariables false
set_option linter.unusedSimpArgs false

theorem OJ.nil (w : World) (base : Nat) : OJ w base (.slice none 0 0) [] := World.ownsRow_nil w base 3 1
theorem OJ.alloc {w : World} {base : Nat} {v : Value} {zs : List Int} (h : OJ w base v zs) (o : Obj) : OJ (w.alloc o) base v zs := World.ownsRow.alloc h o
theorem OJ.kept {w w' : World} {base : Nat} {v : Value} {zs : List Int} (h : OJ w base v zs) {row : Option Nat} (hg : w.grownBy w' row) (hr : v.ownBlock = none ∨ v.ownBlock ≠ row) : OJ w' base v zs := World.ownsRow.kept h hg hr
theorem OJ.base {w : World} {base : Nat} {v : Value} {l : List Int} (h : OJ w base v l) : ∀ k, v.ownBlock = some k → base ≤ k := fun k hk => (World.ownsRow.lt h k hk).1
theorem OJ.lt {w : World} {base : Nat} {v : Value} {l : List Int} (h : OJ w base v l) : ∀ k, v.ownBlock = some k → k < w.heap.size := fun k hk => (World.ownsRow.lt h k hk).2
theorem OJ.mono {w : World} {b b' : Nat} {v : Value} {l : List Int} (h : OJ w b v l) (hb : b' ≤ b) : OJ w b' v l := by
  refine ⟨h.1, ?_⟩
  rcases h.2 with h2 | ⟨g, cap, cur, hv, hg, hh⟩
  · exact .inl h2
  · exact .inr ⟨g, cap, cur, hv, Nat.le_trans hb hg, hh⟩
theorem OJ.shape {w : World} {base : Nat} {v : Value} {zs : List Int} (h : OJ w base v zs) : ∃ A c, v = .slice A zs.length c ∧ zs.length ≤ c := by
  rcases h.2 with ⟨rfl, e⟩ | ⟨g, cap, cur, rfl, -, -, hn, -⟩
  · exact ⟨none, 0, by rw [e], by omega⟩
  · exact ⟨_, _, rfl, hn⟩
/-- the row's block is a row of integers -/
theorem OJ.tag {w : World} {base : Nat} {v : Value} {zs : List Int} (h : OJ w base v zs) : ∀ k, v.ownBlock = some k → ∃ cur, w.heap[k]? = some (.cells cur 3 (0, 0)) := by
  intro k hk
  rcases h.2 with ⟨rfl, e⟩ | ⟨g, cap, cur, rfl, -, hh, -⟩
  · simp [Value.ownBlock] at hk
  · simp only [Value.ownBlock, Option.some.injEq] at hk
    subst hk
    exact ⟨cur, hh⟩
theorem IM.ne_row {w : World} {ab base : Nat} {A : List Int} {T : Int → Int} {v : Value} {zs : List Int} (h : IM w ab A T) (ho : OJ w base v zs) : v.ownBlock ≠ some ab := by
  intro e
  obtain ⟨cur, hc⟩ := ho.tag ab e
  obtain ⟨D, ⟨es, clock, hb, _⟩, _⟩ := h
  rw [hc] at hb
  cases hb
theorem BM.ne_row {w : World} {ab base : Nat} {A : List Int} {v : Value} {zs : List Int} (h : BM w ab A) (ho : OJ w base v zs) : v.ownBlock ≠ some ab := by
  intro e
  obtain ⟨cur, hc⟩ := ho.tag ab e
  obtain ⟨D, ⟨es, clock, hb, _⟩, _⟩ := h
  rw [hc] at hb
  cases hb
theorem infoInt : (Try.prog.info? 3).map (fun i => (i.zero, i.size, i.bytes)) = some (some (.int .i64 0), 1, 8) := by kernel_rfl
theorem OJ.push_run {w : World} {base : Nat} {v : Value} {xs : List Int} (HO : OJ w base v xs) {g : Nat} {z : Int} (hc : w.cell? ⟨g, 0, none⟩ = some (.int .i64 z)) (ty : TypeId) (hbase : base ≤ w.heap.size) (hl : xs.length ≤ 1000000000) :
    ∃ v1 w1, (Builtin.append_ #[33, 33] ty #[v, .slice (some ⟨g, 0, none⟩) 1 1]).run Try.prog w = .ok v1 w1 ∧ OJ w1 base v1 (xs ++ [z]) ∧ w.grownBy w1 v.ownBlock ∧ (v1.ownBlock = v.ownBlock ∨ v1.ownBlock = some w.heap.size) := by
  obtain ⟨i0, hi, hzz⟩ := Option.map_eq_some_iff.1 infoInt
  simp only [Prod.mk.injEq] at hzz
  obtain ⟨hz0, hz1, hz2⟩ := hzz
  obtain ⟨v1, w1, hr, k2, k3, _, k5⟩ := run_append_own_at (P := Try.prog) w base 33 ty 3 i0 (.int .i64 0) 1 8 Try.underlying33 hi hz0 hz1 hz2 rfl (by omega) v xs.length (xs.map fun z => .int .i64 z) HO ⟨g, 0, none⟩ 1 1 [.int .i64 z] rfl (fun j u hu => by
    cases j with
    | zero =>
      obtain rfl : u = .int .i64 z := by simpa using hu.symm
      rw [add_none]
      exact hc
    | succ j => simp at hu) (by simp [Value.oneCell']) (by simp only [maxLen]; omega) (by omega) hbase
  refine ⟨v1, w1, hr, ?_, k3, k5⟩
  unfold OJ
  rw [List.length_append, List.map_append]
  exact k2
theorem append_step {P : Program} {ops : Array Oper} {rest : List Oper} {o : Oper} {a : Act} {w : World} {Q : Exit → Act → World → Prop} (hgd : o.guard = none) (s x : Operand) (t t' : TypeId)
    (ho : o.op = .call { callee := .builtin .append, args := #[s, x], argTypes := #[t, t'] }) {v y v1 : Value} {w1 : World} (hs : a.eval s = v) (hx : a.eval x = y)
    (hr : (Builtin.append_ #[t, t'] o.type #[v, y]).run P w = .ok v1 w1) (k : wpList P ops Q rest (a.put o.dst v1) w1) : wpList P ops Q (o :: rest) a w := by
  refine wpList_plain hgd fun K hK => ?_
  unfold Oper.wp execOp
  simp only [ho, resolve, invoke, builtin, Sem.run_bind, Sem.run_pure, Result.andThen_ok, List.map_toArray, List.map_cons, List.map_nil, hs, hx, hr]
  exact hK _ _ k
section
variable {ops : Array Oper} {rest : List Oper} {o : Oper} {a : Act} {w : World} {Q : Exit → Act → World → Prop}
theorem OJ.push_on {base : Nat} {v : Value} {xs : List Int} (HO : OJ w base v xs) {g : Nat} {z : Int} (hc : w.cell? ⟨g, 0, none⟩ = some (.int .i64 z)) (hgd : o.guard = none) (s x : Operand)
    (ho : o.op = .call { callee := .builtin .append, args := #[s, x], argTypes := #[33, 33] }) (hs : a.eval s = v) (hx : a.eval x = .slice (some ⟨g, 0, none⟩) 1 1)
    (hbase : base ≤ w.heap.size) (hl : xs.length ≤ 1000000000)
    (k : ∀ v1 w1, OJ w1 base v1 (xs ++ [z]) → w.grownBy w1 v.ownBlock → (v1.ownBlock = v.ownBlock ∨ v1.ownBlock = some w.heap.size) → wpList Try.prog ops Q rest (a.put o.dst v1) w1) : wpList Try.prog ops Q (o :: rest) a w := by
  obtain ⟨v1, w1, hr, k2, k3, k5⟩ := OJ.push_run HO hc o.type hbase hl
  exact append_step hgd s x _ _ ho hs hx hr (k v1 w1 k2 k3 k5)
end
/-- a callee that leaves the world as it was, in a region that draws -/
theorem quiet_left {P : Program} {f : FuncId} {args : Array Value} {w : World} {n : Nat} {v : Value}
    (h : Calls P f args (w.drewN n) fun e w' => e = .returned v ∧ w.drewN n = w') : Calls P f args (w.drewN n) fun e w'' => e = .returned v ∧ ∃ m, w'' = w.drewN m :=
  h.mono fun _ _ ⟨he, hm⟩ => ⟨he, n, hm.symm⟩
theorem quiet_add_left {P : Program} {f : FuncId} {args : Array Value} {w : World} {a n : Nat} {v : Value}
    (h : Calls P f args (w.drewN (a + n)) fun e w' => e = .returned v ∧ w.drewN (a + n) = w') :
    Calls P f args (w.drewN (a + n)) fun e w'' => e = .returned v ∧ ∃ m, w'' = w.drewN (a + m) :=
  h.mono fun _ _ ⟨he, hm⟩ => ⟨he, n, hm.symm⟩

/-- what is over -/
def lateF (T : Int → Int) (now : Int) (A : List Int) : List Int := A.filter fun i => decide (T i ≤ heldI now)
/-- what isn't -/
def restF (T : Int → Int) (now : Int) (A : List Int) : List Int := A.filter fun i => !decide (T i ≤ heldI now)
/-- what is asked for still, j of them having been looked at -/
def curF (T : Int → Int) (h : Int) (A : List Int) (j : Nat) : List Int := A.filter fun i => !(decide (T i ≤ h) && (A.take j).contains i)
theorem take_mem {A : List Int} {j : Nat} (hj : j < A.length) (x : Int) : x ∈ A.take (j + 1) ↔ x ∈ A.take j ∨ x = A.getD j 0 := by
  rw [List.take_add_one, List.getElem?_eq_getElem hj]
  have e : A.getD j 0 = A[j] := by simp [List.getD_eq_getElem?_getD, hj]
  rw [e]
  simp only [Option.toList_some, List.mem_append, List.mem_singleton]
theorem Kp.step {mb ab nq : Nat} {o : Obj} {W1 wr w1 w2 : World} {row : Option Nat} (HK : Kp mb ab W1 wr) (hg1 : ((wr.drewN nq).alloc o).grownBy w1 row) (hr : ∀ b, row = some b → W1.heap.size ≤ b) (hg2 : w1.grownBy w2 (some ab)) : Kp mb ab W1 w2 := by
  have hz : ((wr.drewN nq).alloc o).heap.size = wr.heap.size + 1 := by simp [World.drewN]
  have h1 := hg1.size
  have h2 := hg2.size
  have h3 := HK.size
  refine ⟨hg2.os.trans (hg1.os.trans HK.os), hg2.tape.trans (hg1.tape.trans HK.tape), hg2.output.trans (hg1.output.trans HK.output), by omega, fun i hi hm ha => ?_⟩
  rw [hg2.block i (by omega) (fun e => ha (by injection e)), hg1.block i (by omega) (fun e => by have := hr i e.symm; omega), Below.heap_alloc _ _ i (show i < (wr.drewN nq).heap.size by simp [World.drewN]; omega)]
  exact HK.block i hi hm ha
theorem WS.step {p mb ab nq B : Nat} {k t : Int} {M A : List Int} {T : Int → Int} {o : Obj} {wr w1 : World} {row : Option Nat} (h : WS wr p mb ab k t M A T) (hg1 : ((wr.drewN nq).alloc o).grownBy w1 row) (hr : ∀ b, row = some b → B ≤ b) (hp : p < B) (hm : mb < B) (ha : ab < B) : WS w1 p mb ab k t M A T := by
  have h1 : WS ((wr.drewN nq).alloc o) p mb ab k t M A T := (h.drewN nq).alloc o
  obtain ⟨⟨c0, c1, c2, c3⟩, hl, n1, n2, n3, hb, hi⟩ := h1
  have ne : ∀ b, b < B → some b ≠ row := fun b hb e => by have := hr b e.symm; omega
  exact ⟨⟨hg1.cell c0 (ne p hp), hg1.cell c1 (ne p hp), hg1.cell c2 (ne p hp), hg1.cell c3 (ne p hp)⟩, Nat.lt_of_lt_of_le hl hg1.size, n1, n2, n3, hb.kept hg1 (ne mb hm), hi.kept hg1 (ne ab ha)⟩
theorem curF_late {T : Int → Int} {h : Int} {A : List Int} (ha : Asc A) {j : Nat} (hj : j < A.length) (hl : T (A.getD j 0) ≤ h) : curF T h A (j + 1) = del (A.getD j 0) (curF T h A j) := by
  refine asc_ext (asc_filter ha _) (asc_del (asc_filter ha _)) fun x => ?_
  rw [mem_del]
  simp only [curF, List.mem_filter, Bool.not_eq_true', Bool.and_eq_false_iff, decide_eq_false_iff_not, List.contains_eq_mem, take_mem hj]
  constructor
  · rintro ⟨h1, h2⟩
    refine ⟨⟨h1, ?_⟩, ?_⟩
    · rcases h2 with h2 | h2
      · exact .inl h2
      · exact .inr (fun h => h2 (.inl h))
    · rintro rfl
      rcases h2 with h2 | h2
      · exact h2 hl
      · exact h2 (.inr rfl)
  · rintro ⟨⟨h1, h2⟩, h3⟩
    refine ⟨h1, ?_⟩
    rcases h2 with h2 | h2
    · exact .inl h2
    · exact .inr (fun h => h.elim h2 h3)
theorem curF_soon {T : Int → Int} {h : Int} {A : List Int} (ha : Asc A) {j : Nat} (hj : j < A.length) (hl : ¬ T (A.getD j 0) ≤ h) : curF T h A (j + 1) = curF T h A j := by
  refine asc_ext (asc_filter ha _) (asc_filter ha _) fun x => ?_
  simp only [curF, List.mem_filter, Bool.not_eq_true', Bool.and_eq_false_iff, decide_eq_false_iff_not, List.contains_eq_mem, take_mem hj]
  constructor
  · rintro ⟨h1, h2⟩
    refine ⟨h1, ?_⟩
    rcases h2 with h2 | h2
    · exact .inl h2
    · exact .inr (fun h => h2 (.inl h))
  · rintro ⟨h1, h2⟩
    refine ⟨h1, ?_⟩
    rcases h2 with h2 | h2
    · exact .inl h2
    · by_cases e : x = A.getD j 0
      · subst e; exact .inl hl
      · exact .inr (fun h => h.elim h2 e)
theorem curF_zero (T : Int → Int) (h : Int) (A : List Int) : curF T h A 0 = A := by
  unfold curF
  exact List.filter_eq_self.2 fun x hx => by simp
theorem curF_len {T : Int → Int} {now : Int} {A : List Int} : curF T (heldI now) A A.length = restF T now A := by
  unfold curF restF
  refine List.filter_congr fun x hx => ?_
  simp [hx]
theorem late_take {T : Int → Int} {now : Int} {A : List Int} {j : Nat} (hj : j < A.length) : lateF T now (A.take (j + 1)) = lateF T now (A.take j) ++ if T (A.getD j 0) ≤ heldI now then [A.getD j 0] else [] := by
  rw [List.take_add_one, List.getElem?_eq_getElem hj]
  have e : A.getD j 0 = A[j] := by simp [List.getD_eq_getElem?_getD, hj]
  rw [e]
  unfold lateF
  rw [List.filter_append]
  congr 1
  by_cases h : T A[j] ≤ heldI now <;> simp [h]
set_option maxHeartbeats 2000000 in
set_option maxRecDepth 100000 in
theorem over_calls (p mb ab : Nat) (k t : Int) (M A : List Int) (T : Int → Int) (now : Int) (w : World) (h : WS w p mb ab k t M A T) (ha : A.length ≤ 1000000) :
    Calls Try.prog 16 #[.pointer (some ⟨p, 0, none⟩), .int .i64 now] w fun e w' => ∃ v, e = .returned v ∧ OJ w' w.heap.size v (lateF T now A) ∧ WS w' p mb ab k t M (restF T now A) T ∧ Kp mb ab w w' := by
  have HW := Lib.hid h
  have n2 := h.2.2.2.1
  have n3 := h.2.2.2.2.1
  have HAS := Lib.hid h.im.asc
  have HWF := Lib.hid h.im.wf
  have hal : ab < w.heap.size := h.im.lt
  have hml : mb < w.heap.size := h.bm.lt
  obtain ⟨len, hlen⟩ : ∃ len, A.length = len := ⟨_, rfl⟩
  have hl7 : (len : Int) ≤ 1000000 := by omega
  clear h
  go_enter Try.func16, Try.ntmps16
  go_upto_region 3 with (go_at_call 17; refine (asked_calls p mb ab k t M A T _ HW.out (by omega)).mono ?_; rintro e W1 ⟨v, rfl, hoj, hnil, hb⟩; obtain ⟨g, ⟨Av, c, o, rfl, hc1, hc2, hrd⟩, hgb⟩ := hoj.reads; rw [hlen] at hc1 hrd ⊢)
  have HG := Lib.hid (show A ≠ [] → w.heap.size ≤ g from hgb)
  have HB := Lib.hid hb
  have HC := Lib.hid hrd
  have HW1 := Lib.hid (HW.out.later hb)
  have hsz := hb.size
  clear hgb hb hrd hoj hnil
  go_loopw [5, 11] (fun u x wz => ∃ j : Nat, x = .int .i64 (j : Int) ∧ j ≤ len ∧ Hid (OJ wz W1.heap.size u (lateF T now (A.take j))) ∧ Hid (WS wz p mb ab k t M (curF T (heldI now) A j) T) ∧ Hid (Kp mb ab W1 wz)) (fun _ x _ => len - (intOf x).toNat)
  case atStart => exact ⟨0, rfl, by omega, Lib.hid (OJ.nil _ _), by rw [curF_zero]; exact HW1, Lib.hid (Kp.refl _ _ _)⟩
  case round =>
    obtain ⟨j, rfl, hj, HO, HS, HK⟩ := hrel
    by_cases hlt : j < len
    · obtain ⟨rfl, hgl, hcell⟩ := HC.out (by omega)
      have hge := HG.out (by intro e; rw [e] at hlen; simp at hlen; omega)
      have hx := (HK.out.cell (c := o + j) hgl (by omega) (by omega)).trans (hcell j hlt)
      have hxm : A.getD j 0 ∈ A := by rw [List.getD_eq_getElem?_getD, List.getElem?_eq_getElem (by omega)]; exact List.getElem_mem _
      have hxw := HWF.out _ hxm
      have hlt2 := late_take (T := T) (now := now) (show j < A.length by omega)
      have hxc : A.getD j 0 ∈ curF T (heldI now) A j := by
        refine List.mem_filter.2 ⟨hxm, ?_⟩
        have : A.getD j 0 ∉ A.take j := by
          intro hm
          obtain ⟨i, hi, e⟩ := List.mem_iff_getElem.1 hm
          rw [List.length_take] at hi
          rw [List.getElem_take] at e
          have := (List.pairwise_iff_getElem.1 HAS.out) i j (by omega) (by omega) (by omega)
          rw [List.getD_eq_getElem?_getD, List.getElem?_eq_getElem (show j < A.length by omega)] at e
          simp only [Option.getD_some] at e
          omega
        rw [Bool.not_eq_true', Bool.and_eq_false_iff]
        right
        simpa only [List.contains_eq_mem, decide_eq_false_iff_not] using this
      have hlk := fun n => (HS.out.im.drewN n).look _ hxc
      have hcl : T (A.getD j 0) ≤ heldI now → curF T (heldI now) A (j + 1) = del (A.getD j 0) (curF T (heldI now) A j) := curF_late HAS.out (by omega)
      have hcs : ¬ T (A.getD j 0) ≤ heldI now → curF T (heldI now) A (j + 1) = curF T (heldI now) A j := curF_soon HAS.out (by omega)
      have hll : (lateF T now (A.take j)).length ≤ 1000000 := by
        have := List.length_filter_le (fun i => decide (T i ≤ heldI now)) (A.take j)
        unfold lateF
        rw [List.length_take] at this
        omega
      obtain ⟨x, hxe⟩ : ∃ x, A.getD j 0 = x := ⟨_, rfl⟩
      rw [hxe] at hx hxw hlt2 hlk hcl hcs hxm
      have HLT := Lib.hid hlt2
      have HCL := Lib.hid hcl
      have HCS := Lib.hid hcs
      obtain ⟨tx, htx⟩ : ∃ tx, T x = tx := ⟨_, rfl⟩
      obtain ⟨hn, hne⟩ : ∃ hn, heldI now = hn := ⟨_, rfl⟩
      have HH := Lib.hid (held_calls now)
      rw [htx] at hlk
      rw [hne] at HH
      have HTX := Lib.hid htx
      have HNE := Lib.hid hne
      clear hcell hlt2 hcl hcs hxe htx hne hxc
      obtain ⟨⟨d0, d1, d2, d3⟩, hpl, _⟩ := HS.out
      have hpw := HW1.out.lt
      go_upto_region 5 with (fail)
      go_quiet ((go_at_call 45; first | exact quiet_left (HH.out _) | exact quiet_add_left (HH.out _)))
      by_cases hle : tx ≤ hn
      · have hlit : ((wr.drewN nq).alloc (.cells #[.int .i64 x] 3)).cell? ⟨wr.heap.size, 0, none⟩ = some (.int .i64 x) := by
          rw [show wr.heap.size = (wr.drewN nq).heap.size from rfl, cell_of_row _ _ 0 _ _ _ (heap_alloc_new _ _)]; rfl
        have HLIT := Lib.hid hlit
        clear hlit
        have hob := HO.out.base
        obtain ⟨u5A, u5c, hu, -⟩ := HO.out.shape
        subst hu
        have HOB := Lib.hid hob
        have hkz := HK.out.size
        clear hob
        go_wp2_with (at_builtin; refine OJ.push_on (base := W1.heap.size) (w := (wr.drewN nq).alloc _) (OJ.alloc (show OJ (wr.drewN nq) W1.heap.size _ _ from HO.out) _) HLIT.out rfl _ _ rfl rfl rfl (by simp [World.drewN]; omega) (by omega) ?_; intro v1 w1 k1 k2 k3; have HS1 := Lib.hid (HS.out.step k2 HOB.out hpw (Nat.lt_of_lt_of_le hml hsz) (Nat.lt_of_lt_of_le hal hsz)); obtain ⟨w2, hr2, hb2, hg2⟩ := HS1.out.im.drop x hxw 0; have HI2 := Lib.hid hb2; have HG2 := Lib.hid hg2; have K1 := Lib.hid k1; have HK2 := Lib.hid (HK.out.step k2 HOB.out hg2); have f3 := HS1.out.1.2.2.2; clear k1 k2 k3 hb2 hg2)
        go_roundw
        case rel => exact ⟨j + 1, by simp, by omega, Lib.hid (by
          rw [HLT.out, HTX.out, HNE.out, if_pos hle]; exact K1.out.kept HG2.out (.inr (fun e => by have := K1.out.base ab e; omega))), Lib.hid (by
          rw [HCL.out (by rw [HTX.out, HNE.out]; exact hle)]; exact HS1.out.turn (Kp.of_grown HG2.out (.inr (.inl rfl))) (HS1.out.bm.kept HG2.out (fun e => n3 (by injection e))) HI2.out), HK2⟩
        case measure => simp [intOf]; omega
      · go_wp2
        go_roundw
        case rel => exact ⟨j + 1, by simp, by omega, Lib.hid (by
          rw [HLT.out, HTX.out, HNE.out, if_neg hle, List.append_nil]; exact HO.out), Lib.hid (by rw [HCS.out (by rw [HTX.out, HNE.out]; exact hle)]; exact HS.out.drewN _), Lib.hid (HK.out.trans (Kp.of_below (drewN_below _ _ _)))⟩
        case measure => simp [intOf]; omega
    · obtain rfl : j = len := by omega
      go_wp2
      go_ret
      have e1 := HO.out
      have e2 := HS.out
      rw [List.take_of_length_le (by omega)] at e1
      rw [← hlen, curF_len] at e2
      exact ⟨_, rfl, e1.mono hsz, e2, (Kp.of_below HB.out).trans HK.out⟩
end Go.Proofs.Ythnpaiobjmneaaa.Wa
