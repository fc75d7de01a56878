/- Rows of targets in plain numbers: where each begins; a node's targets are a piece of all of them. · Rows of integers in memory: read (JR), of the call's own (OJ), appended to, written to; the reference's Ints. -/
import Derived.Test.YtjokfllldcjheaaGreatDoorEe
import Derived.Test.YtjokfllldcjheaaGreatDoorProg
import Derived.WalkKit
import Derived.Maps.AppendAt
import Derived.Lib.Hide
import Derived.Deep.Draws
import Derived.Deep.QuietTactic
import Derived.BigQuiet
import Derived.Deep.DeepCutAuto
import Derived.Deep.CutBlock
import Derived.IntWalk
import Derived.Laws.OwnMore
import Derived.Below
/- Rows of targets in plain numbers: where each begins; a node's targets are a piece of all of them. -/
namespace Go.Proofs.YtjokfllldcjheaaGreatDoor.Ed
set_option linter.unusedVariables false
set_option linter.unusedSimpArgs false

/-- a node's targets -/
def tgt (l : List E2) (v : Int) : List Int := (l.filter fun e => decide (e.1 = v)).map (·.2)
/-- all targets -/
def tos (l : List E2) : List Int := l.map (·.2)
theorem tgt_len (l : List E2) (v : Int) : (tgt l v).length = deg l v := by
  unfold tgt deg
  rw [List.length_map, List.countP_eq_length_filter]
theorem tos_len (l : List E2) : (tos l).length = l.length := List.length_map _
theorem bel_le (l : List E2) (v : Int) : bel l v ≤ l.length := List.countP_le_length
theorem bel_mono (l : List E2) {v w : Int} (h : v ≤ w) : bel l v ≤ bel l w := by
  unfold bel
  exact List.countP_mono_left fun e _ he => by
    simp only [decide_eq_true_eq] at *
    omega
theorem lt_fst {a b : E2} (h : Lt a b) : a.1 ≤ b.1 := by unfold Lt at h; omega
/-- of edges that rise, those of a node lie together -/
theorem piece (l : List E2) (h : Up l) (v : Int) : (l.drop (bel l v)).take (deg l v) = l.filter fun e => decide (e.1 = v) := by
  induction l with
  | nil => rfl
  | cons x xs ih =>
    obtain ⟨h1, h2⟩ := List.pairwise_cons.1 h
    have ih := ih h2
    have hx : ∀ a ∈ xs, x.1 ≤ a.1 := fun a ha => lt_fst (h1 a ha)
    by_cases c1 : x.1 < v
    · have e1 : bel (x :: xs) v = bel xs v + 1 := by simp [bel, c1]
      have e2 : deg (x :: xs) v = deg xs v := by unfold deg; rw [List.countP_cons, if_neg (by simp; omega)]; rfl
      rw [e1, e2, List.drop_succ_cons, ih, List.filter_cons, if_neg (by simp; omega)]
    · have e1 : bel (x :: xs) v = 0 := by
        unfold bel
        rw [List.countP_eq_zero]
        intro a ha
        rcases List.mem_cons.1 ha with rfl | ha
        · simpa using c1
        · have := hx a ha; simp; omega
      have e1' : bel xs v = 0 := by
        unfold bel
        rw [List.countP_eq_zero]
        intro a ha
        have := hx a ha; simp; omega
      rw [e1] at *
      rw [e1'] at ih
      rw [List.drop_zero] at *
      by_cases c2 : x.1 = v
      · have e2 : deg (x :: xs) v = deg xs v + 1 := by simp [deg, c2]
        rw [e2, List.take_succ_cons, ih, List.filter_cons, if_pos (by simpa using c2)]
      · have e2 : deg (x :: xs) v = 0 := by
          unfold deg
          rw [List.countP_eq_zero]
          intro a ha
          rcases List.mem_cons.1 ha with rfl | ha
          · simpa using c2
          · have := hx a ha; simp; omega
        rw [e2, List.take_zero]
        symm
        rw [List.filter_eq_nil_iff]
        intro a ha
        rcases List.mem_cons.1 ha with rfl | ha
        · simpa using c2
        · have := hx a ha; simp; omega
theorem tgt_piece (l : List E2) (h : Up l) (v : Int) : tgt l v = ((tos l).drop (bel l v)).take (deg l v) := by
  unfold tgt tos
  rw [← piece l h v, List.map_take, List.map_drop]
theorem tgt_get (l : List E2) (h : Up l) (v : Int) (i : Nat) (hi : i < deg l v) : (tgt l v).getD i 0 = (tos l).getD (bel l v + i) 0 := by
  rw [tgt_piece l h, List.getD_eq_getElem?_getD, List.getD_eq_getElem?_getD, List.getElem?_take, if_pos hi, List.getElem?_drop]
theorem bel_deg (l : List E2) (v : Int) : bel l v + deg l v ≤ l.length := by rw [← bel_step]; exact bel_le _ _
theorem mem_tgt {l : List E2} {v w : Int} : w ∈ tgt l v ↔ (v, w) ∈ l := by
  unfold tgt
  simp only [List.mem_map, List.mem_filter, decide_eq_true_eq]
  constructor
  · rintro ⟨⟨a, b⟩, ⟨h1, h2⟩, h3⟩
    simp only at h2 h3
    subst h2 h3
    exact h1
  · intro h; exact ⟨(v, w), ⟨h, rfl⟩, rfl⟩
/-- a node's targets rise -/
theorem tgt_asc {l : List E2} (h : Up l) (v : Int) : (tgt l v).Pairwise (· < ·) := by
  unfold tgt
  rw [List.pairwise_map]
  have h1 : (l.filter fun e => decide (e.1 = v)).Pairwise Lt := h.filter _
  refine List.Pairwise.imp_of_mem (fun {a b} ha hb hab => ?_) h1
  have ea := (List.mem_filter.1 ha).2
  have eb := (List.mem_filter.1 hb).2
  simp only [decide_eq_true_eq] at ea eb
  unfold Lt at hab
  omega
/-- all nodes' targets, one behind the other, are the edges -/
def lists (l : List E2) : Nat → List E2
  | 0 => []
  | n + 1 => lists l n ++ (tgt l n).map fun w => ((n : Int), w)
theorem lists_take {l : List E2} (h : Up l) (h0 : ∀ e ∈ l, 0 ≤ e.1) : ∀ n, lists l n = l.take (bel l n)
  | 0 => by rw [show ((0 : Nat) : Int) = 0 from rfl, bel_zero l h0]; rfl
  | n + 1 => by
    rw [lists, lists_take h h0 n, show ((n + 1 : Nat) : Int) = (n : Int) + 1 by omega, bel_step, List.take_add, piece l h]
    congr 1
    unfold tgt
    rw [List.map_map]
    conv => rhs; rw [← List.map_id (l.filter _)]
    refine List.map_congr_left fun e he => ?_
    have := (List.mem_filter.1 he).2
    simp only [decide_eq_true_eq] at this
    obtain ⟨a, b⟩ := e
    simp only at this
    subst this
    rfl
theorem lists_all {l : List E2} (h : Up l) (N : Nat) (hok : ∀ e ∈ l, okE N e) : lists l N = l := by
  rw [lists_take h (fun e he => (hok e he).1), bel_all l N fun e he => (hok e he).2.2.1, List.take_length]
end Go.Proofs.YtjokfllldcjheaaGreatDoor.Ed
/- Rows of integers in memory: read (JR), of the call's own (OJ), appended to, written to; the reference's Ints. -/
namespace Go.Proofs.YtjokfllldcjheaaGreatDoor.Ro
open Go.RowKit
set_option linter.unusedVariables false
set_option linter.unusedSimpArgs false

def wfI (i : Int) : Prop := -9223372036854775808 ≤ i ∧ i < 9223372036854775808
/-- v is a row of integers of the call's own -/
def OJ (w : World) (base : Nat) (v : Value) (zs : List Int) : Prop := w.ownsRow base 3 1 v zs.length (zs.map fun z => .int .i64 z)

theorem drewN_below (B : Nat) (w : World) (n : Nat) : Below B w (w.drewN n) := ⟨rfl, rfl, rfl, Nat.le_refl _, fun _ _ => rfl⟩
/-- v is a slice, in block g, that reads as these numbers -/
def JR (w : World) (g : Nat) (v : Value) (zs : List Int) : Prop :=
  ∃ A c o, v = .slice A zs.length c ∧ zs.length ≤ c ∧ c ≤ 9223372036854775807 ∧ (0 < zs.length → A = some ⟨g, o, none⟩ ∧ g < w.heap.size ∧ ∀ i, i < zs.length → w.cell? ⟨g, o + i, none⟩ = some (.int .i64 (zs.getD i 0)))
theorem JR.other {w w' : World} {g : Nat} {v : Value} {l : List Int} (h : JR w g v l) (hs : w.heap.size ≤ w'.heap.size) (hb : l ≠ [] → w'.heap[g]? = w.heap[g]?) : JR w' g v l := by
  obtain ⟨A, c, o, hv, h1, h2, h3⟩ := h
  refine ⟨A, c, o, hv, h1, h2, fun h => ?_⟩
  obtain ⟨ha, hl, hc⟩ := h3 h
  have hb := hb (by intro e; rw [e] at h; simp at h)
  refine ⟨ha, Nat.lt_of_lt_of_le hl hs, fun i hi => ?_⟩
  rw [← hc i hi]
  simp only [World.cell?, hb]
theorem JR.lt {w : World} {g : Nat} {v : Value} {l : List Int} (h : JR w g v l) : l = [] ∨ g < w.heap.size := by
  by_cases e : l = []
  · exact .inl e
  · obtain ⟨A, c, o, hv, h1, h2, h3⟩ := h
    exact .inr (h3 (List.length_pos_iff.2 e)).2.1
theorem JR.later {w w' : World} {g : Nat} {v : Value} {l : List Int} (h : JR w g v l) (hb : Below w.heap.size w w') : JR w' g v l :=
  h.other hb.size fun e => hb.block g (h.lt.resolve_left e)
theorem add_none (g o i : Nat) : (⟨g, o, none⟩ : Addr).add i = ⟨g, o + i, none⟩ := by unfold Addr.add; split <;> simp_all
theorem OJ.reads {w : World} {base : Nat} {v : Value} {zs : List Int} (h : OJ w base v zs) : ∃ g, JR w g v zs ∧ (zs ≠ [] → base ≤ g) := by
  rcases h.2 with ⟨hv, hn⟩ | ⟨g, cap, cur, hv, hb, hh, hnc, hcm, hcs, htk⟩
  · exact ⟨0, ⟨none, 0, 0, by rw [hv, hn], by omega, by omega, fun h => by omega⟩, fun e => absurd (List.eq_nil_of_length_eq_zero hn) e⟩
  · refine ⟨g, ⟨some ⟨g, 0, none⟩, cap, 0, hv, hnc, by simp only [maxLen] at hcm; omega, fun _ => ⟨rfl, (Array.getElem?_eq_some_iff.1 hh).1, fun i hi => ?_⟩⟩, fun _ => hb⟩
    have := World.ownsRow.cells h (g := g) (by rw [hv]; rfl) i (.int .i64 (zs.getD i 0)) (by simp [List.getD_eq_getElem?_getD, hi])
    rwa [add_none] at this
theorem JR.lit (w : World) (l : List Int) (cs : Array Value) (hcs : cs = (l.map fun z => Value.int .i64 z).toArray) (n : Nat) (hn : n = l.length) (h : l.length ≤ 9223372036854775807) : JR (w.alloc (.cells cs 3)) w.heap.size (.slice (some ⟨w.heap.size, 0, none⟩) n n) l := by
  subst hcs hn
  refine ⟨some ⟨w.heap.size, 0, none⟩, l.length, 0, rfl, Nat.le_refl _, h, fun hp => ⟨rfl, by simp, fun i hi => ?_⟩⟩
  rw [cell_of_row _ w.heap.size _ _ _ _ (heap_alloc_new w _)]
  simp [List.getD_eq_getElem?_getD, hi]
theorem OJ.nil (w : World) (base : Nat) : OJ w base (.slice none 0 0) [] := World.ownsRow_nil w base 3 1
theorem OJ.alloc {w : World} {base : Nat} {v : Value} {zs : List Int} (h : OJ w base v zs) (o : Obj) : OJ (w.alloc o) base v zs := World.ownsRow.alloc h o
theorem OJ.kept {w w' : World} {base : Nat} {v : Value} {zs : List Int} (h : OJ w base v zs) {row : Option Nat} (hg : w.grownBy w' row) (hr : v.ownBlock = none ∨ v.ownBlock ≠ row) : OJ w' base v zs := World.ownsRow.kept h hg hr
theorem OJ.base {w : World} {base : Nat} {v : Value} {l : List Int} (h : OJ w base v l) : ∀ k, v.ownBlock = some k → base ≤ k := fun k hk => (World.ownsRow.lt h k hk).1
theorem OJ.lt {w : World} {base : Nat} {v : Value} {l : List Int} (h : OJ w base v l) : ∀ k, v.ownBlock = some k → k < w.heap.size := fun k hk => (World.ownsRow.lt h k hk).2
theorem OJ.mono {w : World} {b b' : Nat} {v : Value} {l : List Int} (h : OJ w b v l) (hb : b' ≤ b) : OJ w b' v l := by
  refine ⟨h.1, ?_⟩
  rcases h.2 with h2 | ⟨g, cap, cur, hv, hg, hh⟩
  · exact .inl h2
  · exact .inr ⟨g, cap, cur, hv, Nat.le_trans hb hg, hh⟩
theorem OJ.shape {w : World} {base : Nat} {v : Value} {zs : List Int} (h : OJ w base v zs) : ∃ A c, v = .slice A zs.length c ∧ zs.length ≤ c := by
  rcases h.2 with ⟨rfl, e⟩ | ⟨g, cap, cur, rfl, -, -, hn, -⟩
  · exact ⟨none, 0, by rw [e], by omega⟩
  · exact ⟨_, _, rfl, hn⟩
theorem infoInt : (Tryz.prog.info? 3).map (fun i => (i.zero, i.size, i.bytes)) = some (some (.int .i64 0), 1, 8) := by kernel_rfl
theorem OJ.push_run {w : World} {base : Nat} {v : Value} {xs : List Int} (HO : OJ w base v xs) {g : Nat} {z : Int} (hc : w.cell? ⟨g, 0, none⟩ = some (.int .i64 z)) (ty : TypeId) (hbase : base ≤ w.heap.size) (hl : xs.length ≤ 1000000000) :
    ∃ v1 w1, (Builtin.append_ #[53, 53] ty #[v, .slice (some ⟨g, 0, none⟩) 1 1]).run Tryz.prog w = .ok v1 w1 ∧ OJ w1 base v1 (xs ++ [z]) ∧ w.grownBy w1 v.ownBlock ∧ (v1.ownBlock = v.ownBlock ∨ v1.ownBlock = some w.heap.size) := by
  obtain ⟨i0, hi, hzz⟩ := Option.map_eq_some_iff.1 infoInt
  simp only [Prod.mk.injEq] at hzz
  obtain ⟨hz0, hz1, hz2⟩ := hzz
  obtain ⟨v1, w1, hr, k2, k3, _, k5⟩ := run_append_own_at (P := Tryz.prog) w base 53 ty 3 i0 (.int .i64 0) 1 8 Tryz.underlying53 hi hz0 hz1 hz2 rfl (by omega) v xs.length (xs.map fun z => .int .i64 z) HO ⟨g, 0, none⟩ 1 1 [.int .i64 z] rfl (fun j u hu => by
    cases j with
    | zero =>
      obtain rfl : u = .int .i64 z := by simpa using hu.symm
      rw [add_none]
      exact hc
    | succ j => simp at hu) (by simp [Value.oneCell']) (by simp only [maxLen]; omega) (by omega) hbase
  refine ⟨v1, w1, hr, ?_, k3, k5⟩
  unfold OJ
  rw [List.length_append, List.map_append]
  exact k2
theorem append_step {P : Program} {ops : Array Oper} {rest : List Oper} {o : Oper} {a : Act} {w : World} {Q : Exit → Act → World → Prop} (hgd : o.guard = none) (s x : Operand) (t t' : TypeId)
    (ho : o.op = .call { callee := .builtin .append, args := #[s, x], argTypes := #[t, t'] }) {v y v1 : Value} {w1 : World} (hs : a.eval s = v) (hx : a.eval x = y)
    (hr : (Builtin.append_ #[t, t'] o.type #[v, y]).run P w = .ok v1 w1) (k : wpList P ops Q rest (a.put o.dst v1) w1) : wpList P ops Q (o :: rest) a w := by
  refine wpList_plain hgd fun K hK => ?_
  unfold Oper.wp execOp
  simp only [ho, resolve, invoke, builtin, Sem.run_bind, Sem.run_pure, Result.andThen_ok, List.map_toArray, List.map_cons, List.map_nil, hs, hx, hr]
  exact hK _ _ k
section
variable {ops : Array Oper} {rest : List Oper} {o : Oper} {a : Act} {w : World} {Q : Exit → Act → World → Prop}
theorem OJ.push_on {base : Nat} {v : Value} {xs : List Int} (HO : OJ w base v xs) {g : Nat} {z : Int} (hc : w.cell? ⟨g, 0, none⟩ = some (.int .i64 z)) (hgd : o.guard = none) (s x : Operand)
    (ho : o.op = .call { callee := .builtin .append, args := #[s, x], argTypes := #[53, 53] }) (hs : a.eval s = v) (hx : a.eval x = .slice (some ⟨g, 0, none⟩) 1 1)
    (hbase : base ≤ w.heap.size) (hl : xs.length ≤ 1000000000)
    (k : ∀ v1 w1, OJ w1 base v1 (xs ++ [z]) → w.grownBy w1 v.ownBlock → (v1.ownBlock = v.ownBlock ∨ v1.ownBlock = some w.heap.size) → wpList Tryz.prog ops Q rest (a.put o.dst v1) w1) : wpList Tryz.prog ops Q (o :: rest) a w := by
  obtain ⟨v1, w1, hr, k2, k3, k5⟩ := OJ.push_run HO hc o.type hbase hl
  exact append_step hgd s x _ _ ho hs hx hr (k v1 w1 k2 k3 k5)
end
/-- the first k of both are one -/
def samI (a b : List Int) (k : Nat) : Prop := ∀ j, j < k → a.getD j 0 = b.getD j 0
theorem samI_all {a b : List Int} (hl : a.length = b.length) (h : samI a b a.length) : a = b := by
  apply List.ext_getElem hl
  intro j h1 h2
  have := h j h1
  simpa [List.getD_eq_getElem?_getD, h1, h2] using this
theorem JR.drewN {w : World} {g : Nat} {v : Value} {l : List Int} (h : JR w g v l) (n : Nat) : JR (w.drewN n) g v l := h
set_option maxHeartbeats 2000000 in
set_option maxRecDepth 100000 in
theorem ints_calls (g1 g2 : Nat) (v1 v2 : Value) (a b : List Int) (w : World) (h1 : JR w g1 v1 a) (h2 : JR w g2 v2 b) :
    Calls Tryz.prog 24 #[v1, v2] w fun e w' => e = .returned (.bool (decide (a = b))) ∧ ∃ q, w' = w.drewN q := by
  obtain ⟨A1, c1, o1, rfl, hc1, hm1, hr1⟩ := h1
  obtain ⟨A2, c2, o2, rfl, hc2, hm2, hr2⟩ := h2
  obtain ⟨n, hn⟩ : ∃ n, a.length = n := ⟨_, rfl⟩
  obtain ⟨m, hm⟩ : ∃ m, b.length = m := ⟨_, rfl⟩
  rw [hn] at hc1 hr1 ⊢
  rw [hm] at hc2 hr2 ⊢
  by_cases hnm : n = m
  case neg =>
    have hd : decide (a = b) = false := decide_eq_false (fun e => hnm (by rw [← hn, ← hm, e]))
    have hb : ((n : Int) != (m : Int)) = true := by rw [bne_iff_ne]; omega
    rw [hd]
    clear hd hn hm hnm hr1 hr2
    go_enter Tryz.func24, Tryz.ntmps24
    go_wp2
    go_ret
    exact ⟨rfl, 0, rfl⟩
  case pos =>
    subst hnm
    have HN := Lib.hid hn
    have HM := Lib.hid hm
    have H1 := Lib.hid hr1
    have H2 := Lib.hid hr2
    obtain ⟨r, hr⟩ : ∃ r, decide (a = b) = r := ⟨_, rfl⟩
    rw [hr]
    have HR := Lib.hid hr
    clear hn hm hr1 hr2 hr
    have hb : ((n : Int) != (n : Int)) = false := by simp
    go_enter Tryz.func24, Tryz.ntmps24
    go_wp2
    go_loopw [5] (fun i wr => ∃ (k q : Nat), i = .int .i64 (k : Int) ∧ k ≤ n ∧ Hid (samI a b k) ∧ wr = w.drewN q) (fun i _ => n - (intOf i).toNat)
    case atStart => exact ⟨0, 0, rfl, by omega, Lib.hid (fun j hj => by omega), rfl⟩
    case round =>
      obtain ⟨k, q, rfl, hk, HS, rfl⟩ := hrel
      by_cases hlt : k < n
      · obtain ⟨rfl, -, hq1⟩ := H1.out (by omega)
        obtain ⟨rfl, -, hq2⟩ := H2.out (by omega)
        have q1 := hq1 k hlt
        have q2 := hq2 k hlt
        clear hq1 hq2
        obtain ⟨x, hx⟩ : ∃ x, a.getD k 0 = x := ⟨_, rfl⟩
        obtain ⟨y, hy⟩ : ∃ y, b.getD k 0 = y := ⟨_, rfl⟩
        rw [hx] at q1
        rw [hy] at q2
        have HX := Lib.hid hx
        have HY := Lib.hid hy
        clear hx hy
        have i0 : (0 : Int) ≤ (k : Int) := by omega
        have i1 : (k : Int) < (n : Int) := by omega
        by_cases hxy : x = y
        · have hxx : (x != y) = false := by simp [hxy]
          have HXY := Lib.hid hxy
          clear hxy
          go_upto_region 6 with (fail)
          go_quiet (fail)
          go_wp2
          go_roundw
          case rel => exact ⟨k + 1, q + nq, by go_num, by omega, Lib.hid (fun j hj => by
            by_cases e : j = k
            · subst e; rw [HX.out, HY.out]; exact HXY.out
            · exact HS.out j (by omega)), rfl⟩
          case measure => simp [intOf]; omega
        · have hxx : (x != y) = true := by simpa using hxy
          have hd : r = false := by rw [← HR.out]; exact decide_eq_false (fun e => hxy (by rw [← HX.out, ← HY.out, e]))
          subst hd
          clear hxy
          go_upto_region 6 with (fail)
          go_quiet (fail)
          go_wp2
          go_ret
          exact ⟨rfl, q + nq, rfl⟩
      · obtain rfl : k = n := by omega
        have hd : r = true := by rw [← HR.out]; exact decide_eq_true (samI_all (by rw [HN.out, HM.out]) (by rw [HN.out]; exact HS.out))
        subst hd
        clear hlt
        go_wp2
        go_ret
        exact ⟨rfl, q, rfl⟩
theorem ints_b (g1 g2 : Nat) (v1 v2 : Value) (a b : List Int) (w : World) (h1 : JR w g1 v1 a) (h2 : JR w g2 v2 b) :
    Calls Tryz.prog 24 #[v1, v2] w fun e w' => e = .returned (.bool (decide (a = b))) ∧ Hid (Below w.heap.size w w') :=
  (ints_calls g1 g2 v1 v2 a b w h1 h2).mono fun e w' ⟨he, q, hq⟩ => ⟨he, Lib.hid (by rw [hq]; exact drewN_below _ _ _)⟩

/-- a row told by a function -/
def rowF (F : Nat → Int) (n : Nat) : List Int := (List.range n).map F
theorem rowF_len (F : Nat → Int) (n : Nat) : (rowF F n).length = n := by simp [rowF]
theorem rowF_get (F : Nat → Int) {n i : Nat} (h : i < n) : (rowF F n).getD i 0 = F i := by simp [rowF, List.getD_eq_getElem?_getD, h]
theorem rowF_congr {F G : Nat → Int} {n : Nat} (h : ∀ i, i < n → F i = G i) : rowF F n = rowF G n := List.map_congr_left fun i hi => h i (List.mem_range.1 hi)
theorem rowF_set (F : Nat → Int) (n i : Nat) (x : Int) : (rowF F n).set i x = rowF (fun j => if j = i then x else F j) n := by
  apply List.ext_getElem
  · simp [rowF]
  · intro j h1 h2
    have hj : j < n := by simpa [rowF] using h1
    by_cases e : i = j
    · subst e; simp [rowF]
    · have e' : ¬ j = i := fun h => e h.symm
      simp [rowF, e, e', List.getElem_set]
section
variable {w : World} {base g cap n : Nat} {zs : List Int}
theorem OJ.at (h : OJ w base (.slice (some ⟨g, 0, none⟩) n cap) zs) (hn : zs.length = n) (i : Nat) (hi : i < n) :
    w.cell? ⟨g, i, none⟩ = some (.int .i64 (zs.getD i 0)) ∧ w.frozen? ⟨g, i, none⟩ = false := by
  subst hn
  refine ⟨?_, World.ownsRow.frozenAt h _⟩
  rw [World.ownsRow.cellAt h i (by omega)]
  simp [List.getD_eq_getElem?_getD, hi]
theorem OJ.set (h : OJ w base (.slice (some ⟨g, 0, none⟩) n cap) zs) (hn : zs.length = n) (i : Nat) (x : Int) :
    OJ (w.setCell ⟨g, i, none⟩ (.int .i64 x)) base (.slice (some ⟨g, 0, none⟩) n cap) (zs.set i x) ∧ w.grownBy (w.setCell ⟨g, i, none⟩ (.int .i64 x)) (some g) := by
  subst hn
  obtain ⟨h1, g1⟩ := World.ownsRow.stored h i (.int .i64 x)
  refine ⟨?_, g1⟩
  unfold OJ
  rw [List.length_set, List.map_set]
  exact h1
end
theorem madeI (n : Nat) : (madeCells (Value.cells (.int .i64 0)) (n * 1)).toList = (List.replicate n (0 : Int)).map fun z => Value.int .i64 z := by
  rw [Nat.mul_one, show Value.cells (.int .i64 0) = #[.int .i64 0] from rfl, toList_madeCells_one, List.map_replicate]
theorem OJ.drewN {w : World} {base : Nat} {v : Value} {zs : List Int} (h : OJ w base v zs) (n : Nat) : OJ (w.drewN n) base v zs := h
theorem OJ.later {w w' : World} {base : Nat} {v : Value} {zs : List Int} (h : OJ w base v zs) (hb : Below w.heap.size w w') : OJ w' base v zs :=
  h.kept ⟨hb.os, hb.tape, hb.output, hb.size, fun i hi _ => hb.block i hi⟩ (row := none) (by cases v.ownBlock <;> simp)
/-- make([]int, n) -/
theorem make_run (w : World) (n : Nat) (hn : n ≤ 1000000) : ∃ C, (Instr.makeSlice 53 (.int .i64 (n : Int)) (.int .i64 (n : Int))).run Tryz.prog w = .ok (.slice (some ⟨w.heap.size, 0, none⟩) n n) (w.alloc (.cells C 3)) ∧ OJ (w.alloc (.cells C 3)) w.heap.size (.slice (some ⟨w.heap.size, 0, none⟩) n n) (List.replicate n 0) := by
  obtain ⟨i0, hi, hzz⟩ := Option.map_eq_some_iff.1 infoInt
  simp only [Prod.mk.injEq] at hzz
  obtain ⟨hz0, hz1, hz2⟩ := hzz
  have hmk := run_make (P := Tryz.prog) w 53 3 i0 (.int .i64 0) Tryz.underlying53 hi hz0 .i64 .i64 (n : Int) (n : Int) (by omega) (Int.le_refl _) (by rw [hz2]; omega) (by omega)
  rw [hz1, Int.toNat_natCast] at hmk
  have hO1 := (World.ownsRow_lit (e := 3) (size := 1) (base := w.heap.size) w (madeCells (Value.cells (.int .i64 0)) (n * 1)) n (Nat.le_refl _) (by simp only [maxLen]; omega) (size_madeCells _ _))
  rw [madeI] at hO1
  refine ⟨_, hmk, ?_⟩
  unfold OJ
  rw [List.length_replicate]
  exact hO1
/-- at a step of a region that draws -/
theorem append_wp {P : Program} {o : Oper} {a : Act} {w : World} {K : Act → World → Prop} {Q : Exit → Act → World → Prop} {E : Prop} {ops : Array Oper} (hgd : o.guard = none) (s x : Operand) (t t' : TypeId)
    (ho : o.op = .call { callee := .builtin .append, args := #[s, x], argTypes := #[t, t'] }) {v y v1 : Value} {w1 : World} (hs : a.eval s = v) (hx : a.eval x = y)
    (hr : (Builtin.append_ #[t, t'] o.type #[v, y]).run P w = .ok v1 w1) (k : K (a.put o.dst v1) w1) : if Region.wanted o (yielded ops a.tmps) = true then Oper.wp P o a w K Q else E := by
  have hw : Region.wanted o (yielded ops a.tmps) = true := by simp [Region.wanted, hgd]
  rw [if_pos hw]
  unfold Oper.wp execOp
  simp only [ho, resolve, invoke, builtin, Sem.run_bind, Sem.run_pure, Result.andThen_ok, List.map_toArray, List.map_cons, List.map_nil, hs, hx, hr]
  exact k
section
variable {ops : Array Oper} {o : Oper} {a : Act} {w : World} {Q : Exit → Act → World → Prop}
theorem OJ.append_wp {K : Act → World → Prop} {E : Prop} {base : Nat} {v : Value} {xs : List Int} (HO : OJ w base v xs) {g : Nat} {z : Int} (hc : w.cell? ⟨g, 0, none⟩ = some (.int .i64 z)) (hgd : o.guard = none) (s x : Operand)
    (ho : o.op = .call { callee := .builtin .append, args := #[s, x], argTypes := #[53, 53] }) (hs : a.eval s = v) (hx : a.eval x = .slice (some ⟨g, 0, none⟩) 1 1)
    (hbase : base ≤ w.heap.size) (hl : xs.length ≤ 1000000000)
    (k : ∀ v1 w1, OJ w1 base v1 (xs ++ [z]) → w.grownBy w1 v.ownBlock → (v1.ownBlock = v.ownBlock ∨ v1.ownBlock = some w.heap.size) → K (a.put o.dst v1) w1) : if Region.wanted o (yielded ops a.tmps) = true then Oper.wp Tryz.prog o a w K Q else E := by
  obtain ⟨v1, w1, hr, k2, k3, k5⟩ := OJ.push_run HO hc o.type hbase hl
  exact Ro.append_wp hgd s x _ _ ho hs hx hr (k v1 w1 k2 k3 k5)
end
end Go.Proofs.YtjokfllldcjheaaGreatDoor.Ro
