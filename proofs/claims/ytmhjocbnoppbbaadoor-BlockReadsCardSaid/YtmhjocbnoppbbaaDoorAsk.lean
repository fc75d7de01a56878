/- The source of the law BlockReads: it notes what it is asked for. -/
import Derived.Test.YtmhjocbnoppbbaaDoorReads
import Derived.Test.YtmhjocbnoppbbaaDoorCut
namespace Go.Proofs.YtmhjocbnoppbbaaDoor.Sha
open Go.RowKit
set_option linter.unusedVariables false
set_option linter.unusedSimpArgs false

theorem OfS.keep2 {w w' : World} {B g : Nat} {ss : List ByteArray} (h : OfS w B g ss) (hB : ∀ o, w.heap[B]? = some o → w'.heap[B]? = some o) (hg : ss ≠ [] → ∀ o, w.heap[g]? = some o → w'.heap[g]? = some o) : OfS w' B g ss := by
  obtain ⟨v, h1, h2, h3⟩ := h
  refine ⟨v, hB _ h1, ?_, ?_⟩
  · by_cases he : ss = []
    · subst he
      obtain ⟨A, c, hv, k1, k2, k3⟩ := h2
      exact ⟨A, c, hv, k1, k2, fun h => by simp at h⟩
    · obtain ⟨cur, fz, hc⟩ := h3 he
      obtain ⟨A, c, hv, k1, k2, k3⟩ := h2
      refine ⟨A, c, hv, k1, k2, fun h => ?_⟩
      obtain ⟨ad, e1, e2, e3⟩ := k3 h
      refine ⟨ad, e1, e2, fun i hi => ?_⟩
      rw [World.cell?_of_block (w := w)]
      · exact e3 i hi
      · rw [Addr.add_block, e2, hc]; exact hg he _ hc
  · intro he
    obtain ⟨cur, fz, hc⟩ := h3 he
    exact ⟨cur, fz, hg he _ hc⟩

/-- v is a row of integers of the call's own -/
def OJ (w : World) (base : Nat) (v : Value) (zs : List Int) : Prop := w.ownsRow base 3 1 v zs.length (zs.map fun z => .int .i64 z)
theorem OJ.nil (w : World) (base : Nat) : OJ w base (.slice none 0 0) [] := World.ownsRow_nil w base 3 1
theorem OJ.alloc {w : World} {base : Nat} {v : Value} {zs : List Int} (h : OJ w base v zs) (o : Obj) : OJ (w.alloc o) base v zs := World.ownsRow.alloc h o
theorem OJ.kept {w w' : World} {base : Nat} {v : Value} {zs : List Int} (h : OJ w base v zs) {row : Option Nat} (hg : w.grownBy w' row) (hr : v.ownBlock = none ∨ v.ownBlock ≠ row) : OJ w' base v zs := World.ownsRow.kept h hg hr
theorem OJ.shape {w : World} {base : Nat} {v : Value} {zs : List Int} (h : OJ w base v zs) : ∃ A c, v = .slice A zs.length c ∧ zs.length ≤ c := by
  rcases h.2 with ⟨rfl, e⟩ | ⟨g, cap, cur, rfl, -, -, hn, -⟩
  · exact ⟨none, 0, by rw [e], by omega⟩
  · exact ⟨_, _, rfl, hn⟩
theorem OJ.tag {w : World} {base : Nat} {v : Value} {zs : List Int} (h : OJ w base v zs) : ∀ k, v.ownBlock = some k → ∃ cur, w.heap[k]? = some (.cells cur 3 (0, 0)) := by
  intro k hk
  rcases h.2 with ⟨rfl, e⟩ | ⟨g, cap, cur, rfl, -, hh, -⟩
  · simp [Value.ownBlock] at hk
  · simp only [Value.ownBlock, Option.some.injEq] at hk
    subst hk
    exact ⟨cur, hh⟩
theorem OJ.cell {w : World} {base : Nat} {A : Option Addr} {n c : Nat} {zs : List Int} (h : OJ w base (.slice A n c) zs) (hp : 0 < zs.length) : ∃ g, A = some ⟨g, 0, none⟩ ∧ ∀ i, i < zs.length → w.cell? ⟨g, i, none⟩ = some (.int .i64 (zs.getD i 0)) := by
  rcases h.2 with ⟨hv, e⟩ | ⟨g, cap, cur, hv, -, -⟩
  · omega
  · injection hv with h1 h2 h3
    subst h1
    refine ⟨g, rfl, fun i hi => ?_⟩
    have := World.ownsRow.cells h (g := g) rfl i (.int .i64 (zs.getD i 0)) (by simp [List.getD_eq_getElem?_getD, hi])
    rwa [show (⟨g, 0, none⟩ : Addr).add i = ⟨g, i, none⟩ by unfold Addr.add; split <;> simp_all] at this
theorem infoInt : (Tryd.prog.info? 3).map (fun i => (i.zero, i.size, i.bytes)) = some (some (.int .i64 0), 1, 8) := by kernel_rfl
theorem OJ.push_run {w : World} {base : Nat} {v : Value} {xs : List Int} (HO : OJ w base v xs) {g : Nat} {z : Int} (hc : w.cell? ⟨g, 0, none⟩ = some (.int .i64 z)) (ty : TypeId) (hbase : base ≤ w.heap.size) (hl : xs.length ≤ 1000000000) :
    ∃ v1 w1, (Builtin.append_ #[38, 38] ty #[v, .slice (some ⟨g, 0, none⟩) 1 1]).run Tryd.prog w = .ok v1 w1 ∧ OJ w1 base v1 (xs ++ [z]) ∧ w.grownBy w1 v.ownBlock ∧ (v1.ownBlock = v.ownBlock ∨ v1.ownBlock = some w.heap.size) := by
  obtain ⟨i0, hi, hzz⟩ := Option.map_eq_some_iff.1 infoInt
  simp only [Prod.mk.injEq] at hzz
  obtain ⟨hz0, hz1, hz2⟩ := hzz
  obtain ⟨v1, w1, hr, k2, k3, _, k5⟩ := run_append_own_at (P := Tryd.prog) w base 38 ty 3 i0 (.int .i64 0) 1 8 Tryd.underlying38 hi hz0 hz1 hz2 rfl (by omega) v xs.length (xs.map fun z => .int .i64 z) HO ⟨g, 0, none⟩ 1 1 [.int .i64 z] rfl (fun j u hu => by
    cases j with
    | zero =>
      obtain rfl : u = .int .i64 z := by simpa using hu.symm
      rw [show (⟨g, 0, none⟩ : Addr).add 0 = ⟨g, 0, none⟩ by unfold Addr.add; split <;> simp_all]
      exact hc
    | succ j => simp at hu) (by simp [Value.oneCell']) (by simp only [maxLen]; omega) (by omega) hbase
  refine ⟨v1, w1, hr, ?_, k3, k5⟩
  unfold OJ
  rw [List.length_append, List.map_append]
  exact k2
section
variable {ops : Array Oper} {rest : List Oper} {o : Oper} {a : Act} {w : World} {Q : Exit → Act → World → Prop}
theorem OJ.push_on {base : Nat} {v : Value} {xs : List Int} (HO : OJ w base v xs) {g : Nat} {z : Int} (hc : w.cell? ⟨g, 0, none⟩ = some (.int .i64 z)) (hgd : o.guard = none) (s x : Operand)
    (ho : o.op = .call { callee := .builtin .append, args := #[s, x], argTypes := #[38, 38] }) (hs : a.eval s = v) (hx : a.eval x = .slice (some ⟨g, 0, none⟩) 1 1)
    (hbase : base ≤ w.heap.size) (hl : xs.length ≤ 1000000000)
    (k : ∀ v1 w1, OJ w1 base v1 (xs ++ [z]) → w.grownBy w1 v.ownBlock → (v1.ownBlock = v.ownBlock ∨ v1.ownBlock = some w.heap.size) → wpList Tryd.prog ops Q rest (a.put o.dst v1) w1) : wpList Tryd.prog ops Q (o :: rest) a w := by
  obtain ⟨v1, w1, hr, k2, k3, k5⟩ := OJ.push_run HO hc o.type hbase hl
  exact append_step hgd s x _ _ ho hs hx hr (k v1 w1 k2 k3 k5)
end

/-- the law's source: the box of what was asked for, the box of the blocks, the blocks' row; what is its own -/
def RdS (ab bb gb : Nat) (ss : List ByteArray) (O : Nat → Prop) (l : List Int) (w : World) : Prop :=
  ∃ va, w.heap[ab]? = some (.cells #[va] 38 (0, 0)) ∧ OJ w 0 va l ∧ OfS w bb gb ss ∧ ∀ k, O k ↔ k = ab ∨ k = bb ∨ va.ownBlock = some k ∨ k = gb ∧ ss ≠ []

set_option maxHeartbeats 2000000 in
set_option maxRecDepth 100000 in
theorem rd1_calls (ab bb gb : Nat) (ss : List ByteArray) (O : Nat → Prop) (l : List Int) (i : Int) (w : World) (h : RdS ab bb gb ss O l w) (hn : ss.length ≤ 1000000) (hl : l.length ≤ 1000000) :
    Calls Tryd.prog 15 #[.int .i64 i, .pointer (some ⟨ab, 0, none⟩), .pointer (some ⟨bb, 0, none⟩)] w fun e w' => e = .returned (.tuple #[.string (ofT ss i), (ofE ss i).val]) ∧
      ∃ O', RdS ab bb gb ss O' (l ++ [i]) w' ∧ (∀ k, O' k → O k ∨ w.heap.size ≤ k) ∧ KeptO O w w' := by
  obtain ⟨va, hab, hoj, hof, hO⟩ := h
  have hlab : ab < w.heap.size := (Array.getElem?_eq_some_iff.1 hab).1
  have hofs := hof
  obtain ⟨vb, hbb, hsr, htg⟩ := hof
  have hlbb : bb < w.heap.size := (Array.getElem?_eq_some_iff.1 hbb).1
  have hne : bb ≠ ab := by
    intro e; subst e; rw [hab] at hbb; injection hbb with hbb; injection hbb with _ e _; exact absurd e (by decide)
  have hva : ∀ k, va.ownBlock = some k → k ≠ ab ∧ k ≠ bb ∧ (k = gb → ss = []) ∧ k < w.heap.size := by
    intro k hk
    obtain ⟨cur, hc⟩ := hoj.tag k hk
    refine ⟨?_, ?_, ?_, (Array.getElem?_eq_some_iff.1 hc).1⟩
    · intro e; subst e; rw [hab] at hc; injection hc with hc; injection hc with _ e _; exact absurd e (by decide)
    · intro e; subst e; rw [hbb] at hc; injection hc with hc; injection hc with _ e _; exact absurd e (by decide)
    · intro e
      subst e
      by_cases he : ss = []
      · exact he
      · obtain ⟨c2, fz, h2⟩ := htg he
        rw [hc] at h2; injection h2 with h2; injection h2 with _ e _; exact absurd e (by decide)
  have hgb : ss ≠ [] → gb ≠ ab ∧ gb < w.heap.size := by
    intro he
    obtain ⟨c2, fz, h2⟩ := htg he
    refine ⟨?_, (Array.getElem?_eq_some_iff.1 h2).1⟩
    intro e; subst e; rw [hab] at h2; injection h2 with h2; injection h2 with _ e _; exact absurd e (by decide)
  have hca := cell_of_one hab
  obtain ⟨A, c, rfl, hcl⟩ := hoj.shape
  have HOJ := Lib.hid (hoj.alloc (.cells #[.int .i64 i] 3))
  have HAB := Lib.hid hab
  have HOF := Lib.hid hofs
  have HVA := Lib.hid hva
  have HGB := Lib.hid hgb
  have HO := Lib.hid hO
  -- what stands behind the store, whatever the append left
  have key : Hid (∀ v1 w1, OJ w1 0 v1 (l ++ [i]) → (w.alloc (.cells #[.int .i64 i] 3)).grownBy w1 (Value.slice A l.length c).ownBlock → (v1.ownBlock = (Value.slice A l.length c).ownBlock ∨ v1.ownBlock = some (w.alloc (.cells #[.int .i64 i] 3)).heap.size) →
      OfS (w1.setCell ⟨ab, 0, none⟩ v1) bb gb ss ∧ ∃ O', RdS ab bb gb ss O' (l ++ [i]) (w1.setCell ⟨ab, 0, none⟩ v1) ∧ (∀ k, O' k → O k ∨ w.heap.size ≤ k) ∧ KeptO O w (w1.setCell ⟨ab, 0, none⟩ v1)) := by
    refine Lib.hid ?_
    intro v1 w1 h1 hg ho
    have hsz : (w.alloc (.cells #[.int .i64 i] 3)).heap.size = w.heap.size + 1 := by simp
    rw [hsz] at ho
    have blk : ∀ k, k < w.heap.size → (Value.slice A l.length c).ownBlock ≠ some k → w1.heap[k]? = w.heap[k]? := fun k hk hne => by
      rw [hg.block k (by omega) (fun e => hne e.symm), Below.heap_alloc w _ k hk]
    have hab1 : w1.heap[ab]? = some (.cells #[.slice A l.length c] 38 (0, 0)) := (blk ab hlab (fun e => (hva ab e).1 rfl)).trans hab
    have hof1 : OfS (w1.setCell ⟨ab, 0, none⟩ v1) bb gb ss := hofs.keep2
      (fun o ho => by rw [Below.heap_setCell _ _ _ _ hne, blk bb hlbb (fun e => (hva bb e).2.1 rfl)]; exact ho)
      (fun he o ho => by rw [Below.heap_setCell _ _ _ _ (hgb he).1, blk gb (hgb he).2 (fun e => he ((hva gb e).2.2.1 rfl))]; exact ho)
    refine ⟨hof1, fun k => k = ab ∨ k = bb ∨ v1.ownBlock = some k ∨ k = gb ∧ ss ≠ [], ⟨v1, one_setCell hab1, ?_, hof1, fun k => Iff.rfl⟩, ?_, ?_⟩
    · refine h1.kept (row := some ab) ⟨rfl, rfl, rfl, by simp [World.setCell], fun k hk hne => Below.heap_setCell _ _ _ _ (fun e => hne (by rw [e]))⟩ ?_
      right
      intro e
      obtain ⟨cur, hc⟩ := h1.tag ab e
      rw [hab1] at hc; injection hc with hc; injection hc with _ e _; exact absurd e (by decide)
    · intro k hk
      rcases hk with h | h | h | h
      · exact .inl ((hO k).2 (.inl h))
      · exact .inl ((hO k).2 (.inr (.inl h)))
      · rcases ho with e | e
        · rw [e] at h
          exact .inl ((hO k).2 (.inr (.inr (.inl h))))
        · rw [e] at h
          injection h with h
          right; omega
      · exact .inl ((hO k).2 (.inr (.inr (.inr h))))
    · refine ⟨hg.os, hg.tape, hg.output, ?_, fun k hk hno => ?_⟩
      · have := hg.size
        simp [World.setCell]; omega
      · rw [Below.heap_setCell _ _ _ _ (fun e => hno ((hO k).2 (.inl e)))]
        exact blk k hk (fun e => hno ((hO k).2 (.inr (.inr (.inl e)))))
  clear hab hofs hva hgb hO hbb hsr htg hoj hcl
  have harm : ∀ v1 w1, OJ w1 0 v1 (l ++ [i]) → (w.alloc (.cells #[.int .i64 i] 3)).grownBy w1 (Value.slice A l.length c).ownBlock → (v1.ownBlock = (Value.slice A l.length c).ownBlock ∨ v1.ownBlock = some (w.alloc (.cells #[.int .i64 i] 3)).heap.size) →
      ∃ A1 n1 c1, v1 = .slice A1 n1 c1 ∧ w1.cell? ⟨ab, 0, none⟩ = some (.slice A l.length c) ∧ w1.frozen? ⟨ab, 0, none⟩ = false := by
    intro v1 w1 h1 hg ho
    obtain ⟨A1, c1, rfl, -⟩ := h1.shape
    have hab1 : w1.heap[ab]? = some (.cells #[.slice A l.length c] 38 (0, 0)) := by
      rw [hg.block ab (by simp; omega) (fun e => (HVA.out ab e.symm).1 rfl), Below.heap_alloc w _ ab hlab]; exact HAB.out
    exact ⟨A1, _, c1, rfl, cell_of_one hab1, free_of_one hab1⟩
  have HARM := Lib.hid harm
  clear harm
  have hlit : Hid ((w.alloc (.cells #[.int .i64 i] 3)).cell? ⟨w.heap.size, 0, none⟩ = some (.int .i64 i)) := Lib.hid (by simp)
  have hzero : Hid (0 ≤ (w.alloc (.cells #[.int .i64 i] 3)).heap.size) := Lib.hid (Nat.zero_le _)
  by_cases h1 : i < 0
  · have ht : ofT ss i = ⟨#[]⟩ := by unfold ofT; rw [if_neg (by omega)]
    have he : ofE ss i = .no 9 := by unfold ofE; rw [if_neg (by omega)]
    rw [ht, he]
    simp only [Er.Er.val]
    clear ht he
    go_enter Tryd.func15, Tryd.ntmps15
    go_wp2_with (at_builtin; refine OJ.push_on (base := 0) HOJ.out hlit.out rfl _ _ rfl rfl rfl hzero.out (by omega) ?_; intro v1 w1 k1 k2 k3; obtain ⟨A1, n1, c1, hv1, q1, q2⟩ := HARM.out v1 w1 k1 k2 k3; subst hv1; have KEY := Lib.hid (key.out _ w1 k1 k2 k3); clear k1 k2 k3)
    go_ret2
    exact ⟨rfl, KEY.out.2⟩
  · obtain ⟨j, rfl⟩ := Int.eq_ofNat_of_zero_le (show 0 ≤ i by omega)
    obtain ⟨n, hln⟩ : ∃ n, ss.length = n := ⟨_, rfl⟩
    have HLN := Lib.hid hln
    by_cases h2 : j < n
    · have ht : ofT ss j = ss.getD j ByteArray.empty := by unfold ofT; rw [if_pos (by omega)]; rfl
      have he : ofE ss j = .nil := by unfold ofE; rw [if_pos (by omega)]
      rw [ht, he]
      simp only [Er.Er.val]
      rw [hln] at hn
      obtain ⟨s, hs⟩ : ∃ s, ss.getD j ByteArray.empty = s := ⟨_, rfl⟩
      rw [hs]
      have HSS := Lib.hid hs
      clear ht he hs hln
      go_enter Tryd.func15, Tryd.ntmps15
      go_wp2_with (at_builtin; refine OJ.push_on (base := 0) HOJ.out hlit.out rfl _ _ rfl rfl rfl hzero.out (by omega) ?_; intro v1 w1 k1 k2 k3; obtain ⟨A1, n1, c1, hv1, q1, q2⟩ := HARM.out v1 w1 k1 k2 k3; subst hv1; have KEY := Lib.hid (key.out _ w1 k1 k2 k3); clear k1 k2 k3; obtain ⟨vb, hb2, hr2, -⟩ := KEY.out.1; have hcb := cell_of_one hb2; obtain ⟨A2, c2, hv2, -, -, hread⟩ := hr2; subst hv2; clear hb2; rw [HLN.out] at hcb; obtain ⟨ad, hA2, -, hcell⟩ := hread (by have := HLN.out; omega); subst hA2; have hcc := hcell j (by have := HLN.out; omega); rw [HSS.out] at hcc; clear hread hcell)
      go_ret2
      exact ⟨rfl, KEY.out.2⟩
    · have ht : ofT ss j = ⟨#[]⟩ := by unfold ofT; rw [if_neg (by omega)]
      have he : ofE ss j = .no 9 := by unfold ofE; rw [if_neg (by omega)]
      rw [ht, he]
      simp only [Er.Er.val]
      rw [hln] at hn
      clear ht he hln
      go_enter Tryd.func15, Tryd.ntmps15
      go_wp2_with (at_builtin; refine OJ.push_on (base := 0) HOJ.out hlit.out rfl _ _ rfl rfl rfl hzero.out (by omega) ?_; intro v1 w1 k1 k2 k3; obtain ⟨A1, n1, c1, hv1, q1, q2⟩ := HARM.out v1 w1 k1 k2 k3; subst hv1; have KEY := Lib.hid (key.out _ w1 k1 k2 k3); clear k1 k2 k3; obtain ⟨vb, hb2, hr2, -⟩ := KEY.out.1; have hcb := cell_of_one hb2; obtain ⟨A2, c2, hv2, -, -, hread⟩ := hr2; subst hv2; clear hb2; rw [HLN.out] at hcb; clear hread)
      go_ret2
      exact ⟨rfl, KEY.out.2⟩

/-- the law's source -/
theorem rd_source (ab bb gb : Nat) (ss : List ByteArray) (hn : ss.length ≤ 1000000) :
    Source 15 #[.pointer (some ⟨ab, 0, none⟩), .pointer (some ⟨bb, 0, none⟩)] (fun _ i => (ofT ss i, ofE ss i)) (fun O l w => RdS ab bb gb ss O l w) (fun l _ => l.length ≤ 1000000) where
  enters := by
    intro args w
    have h := Go.Proofs.enters_of (P := Tryd.prog) Tryd.func15 (by kernel_rfl) rfl
    exact h args w
  keep := by
    intro O l w w' ⟨va, h1, h2, h3, h4⟩ hs hk
    refine ⟨va, (hk ab ((h4 ab).2 (.inl rfl))).trans h1, ⟨h2.1, ?_⟩, h3.keep2 (fun o ho => (hk bb ((h4 bb).2 (.inr (.inl rfl)))).trans ho) (fun he o ho => (hk gb ((h4 gb).2 (.inr (.inr (.inr ⟨rfl, he⟩))))).trans ho), h4⟩
    rcases h2.2 with e | ⟨g, cap, cur, rfl, e2, e3, e4⟩
    · exact .inl e
    · exact .inr ⟨g, cap, cur, rfl, e2, (hk g ((h4 g).2 (.inr (.inr (.inl rfl))))).trans e3, e4⟩
  here := by
    intro O l w k ⟨va, h1, h2, ⟨vb, h31, h32, h33⟩, h4⟩ hk
    rcases (h4 k).1 hk with rfl | rfl | e | ⟨rfl, he⟩
    · exact ⟨_, h1, fun c fz e => by injection e with _ e _; exact absurd e (by decide)⟩
    · exact ⟨_, h31, fun c fz e => by injection e with _ e _; exact absurd e (by decide)⟩
    · obtain ⟨cur, hc⟩ := h2.tag k e
      exact ⟨_, hc, fun c fz e => by injection e with _ e _; exact absurd e (by decide)⟩
    · obtain ⟨cur, fz, hc⟩ := h33 he
      exact ⟨_, hc, fun c fz e => by injection e with _ e _; exact absurd e (by decide)⟩
  call := by
    intro O l w i h hl
    exact rd1_calls ab bb gb ss O l i w h hn hl
end Go.Proofs.YtmhjocbnoppbbaaDoor.Sha
