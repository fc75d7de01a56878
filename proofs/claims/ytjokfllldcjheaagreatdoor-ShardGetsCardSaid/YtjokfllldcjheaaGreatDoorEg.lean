/- edges: SortFunc by order, Compact, Norm. -/
import Derived.Test.YtjokfllldcjheaaGreatDoorEf
namespace Go.Proofs.YtjokfllldcjheaaGreatDoor.Ed
open Go.RowKit Go.Sort Go.Shelf
set_option linter.unusedVariables false
set_option linter.unusedSimpArgs false

theorem ltOrd (a b : E2) : ltOf ordF a b = decide (Lt a b) := by
  unfold ltOf
  by_cases h : Lt a b
  · rw [decide_eq_true h, decide_eq_true ((ordF_neg a b).2 h)]
  · rw [decide_eq_false h, decide_eq_false (fun e => h ((ordF_neg a b).1 e))]
theorem swoOrd : SWO (ltOf ordF) where
  irrefl x := by rw [ltOrd]; exact decide_eq_false (lt_irrefl x)
  trans x y z h1 h2 := by rw [ltOrd] at *; exact decide_eq_true (lt_trans (of_decide_eq_true h1) (of_decide_eq_true h2))
  ntrans x y z h1 h2 := by
    rw [ltOrd] at *
    have h1 := of_decide_eq_false h1
    have h2 := of_decide_eq_false h2
    refine decide_eq_false ?_
    unfold Lt at *
    omega
theorem ordLays (blk off size : Nat) (w : World) : CmpLays Tryz.prog 76 #[] enc 2 ordF blk off size w := fun _ _ _ _ x y => order_calls x y _
/-- sorted: no later one stands ahead of an earlier one -/
abbrev Srt (l : List E2) : Prop := l.Pairwise (fun a b => ¬ Lt b a)
set_option maxHeartbeats 1000000 in
theorem sort_calls (base : Nat) (v : Value) (l : List E2) (w : World) (h : EO w base v l) (hl : l.length ≤ 1000000) :
    Calls Tryz.prog 75 #[v, .func (.func 76) #[] #[]] w fun e w' => e = .returned (.tuple #[]) ∧ ∃ l', l'.Perm l ∧ Srt l' ∧ EO w' base v l' ∧ w.grownBy w' v.ownBlock := by
  rcases h.2 with ⟨rfl, hn⟩ | ⟨g, cap, cur, rfl, hb, hg, hrest⟩
  · obtain rfl : l = [] := List.eq_nil_of_length_eq_zero hn
    refine (AnyF.slices_SortFunc_none Tryz.sortE none 0 _ w).mono ?_
    rintro e w' ⟨rfl, rfl⟩
    exact ⟨rfl, [], List.Perm.refl _, List.Pairwise.nil, h, World.grownBy.refl _ _⟩
  · have eg : ∀ args w, (callFunc 76 args).run Tryz.prog w = .ok (.enter 76 args) w := enters_of Tryz.func76 (by kernel_rfl) rfl
    have hcon := AnyQ.slices_SortFunc Tryz.sortE 2 Tryz.isAgg68 Tryz.sizeOf68 enc (fun _ => rfl) (fun x v hv => by simp [enc] at hv; rcases hv with rfl | rfl <;> rfl) ordF swoOrd 76 #[] g 0 cap l.toArray w eg (ordLays g 0 _ w) h.holds (Array.getElem?_eq_some_iff.1 hg).1 (by simp; omega)
    refine hcon.mono ?_
    rintro e w' ⟨rfl, d', n, os, hp, hs, rfl⟩
    have hsz : d'.size = l.length := by rw [hp.1]; simp
    obtain ⟨h1, h2⟩ := h.sorted n d' os hsz
    refine ⟨rfl, d'.toList, ?_, ?_, by rw [Array.length_toList, hsz] at h1; exact h1, h2⟩
    · have := hp.2.2
      rw [Array.extract_eq_self_of_le (by simp [hsz]), Array.extract_eq_self_of_le (by simp)] at this
      simpa using this
    · rw [Srt, List.pairwise_iff_getElem]
      intro i j hi hj hij hlt
      rw [Array.length_toList] at hi hj
      have := hs i j (by omega) hij (by simp; omega)
      rw [ltOrd, getElem!_pos d' j hj, getElem!_pos d' i hi] at this
      exact (of_decide_eq_false this) (by simpa using hlt)

theorem ddp_snoc : ∀ (l : List E2) (x : E2), ddp (l ++ [x]) = if l.getLast? = some x then ddp l else ddp l ++ [x]
  | [], x => by simp [ddp]
  | [y], x => by
    by_cases h : y = x
    · subst h; simp [ddp]
    · simp [ddp, h]
  | y :: z :: r, x => by
    have ih := ddp_snoc (z :: r) x
    have e : (y :: z :: r).getLast? = (z :: r).getLast? := by simp [List.getLast?_cons_cons]
    rw [e]
    show ddp (y :: z :: (r ++ [x])) = _
    unfold ddp
    rw [show z :: (r ++ [x]) = z :: r ++ [x] from rfl, ih]
    by_cases h1 : y = z
    · rw [if_pos h1, if_pos h1]
    · rw [if_neg h1, if_neg h1]
      by_cases h2 : (z :: r).getLast? = some x
      · rw [if_pos h2, if_pos h2]
      · rw [if_neg h2, if_neg h2]; rfl
theorem compact_ddp (l : List E2) : ∀ m, m ≤ l.length → Lib.compactUpTo l.toArray m = ddp (l.take m)
  | 0, _ => by simp [Lib.compactUpTo, ddp]
  | m + 1, h => by
    have hm : m < l.length := by omega
    have hg : l.toArray[m]! = l[m] := by rw [getElem!_pos l.toArray m (by simpa using hm)]; simp
    rw [Lib.compactUpTo_succ, compact_ddp l m (by omega), List.take_add_one, List.getElem?_eq_getElem hm, Option.toList_some, ddp_snoc]
    cases m with
    | zero => simp [Lib.keeps, ddp, hg]
    | succ k =>
      have hk : k < l.length := by omega
      have hgk : l.toArray[k]! = l[k] := by rw [getElem!_pos l.toArray k (by simpa using hk)]; simp
      have hlast : (l.take (k + 1)).getLast? = some l[k] := by
        rw [List.getLast?_eq_getElem?, List.length_take, Nat.min_eq_left (by omega)]
        simp [List.getElem?_take, hk]
      rw [hlast]
      unfold Lib.keeps
      rw [hg, show k + 1 - 1 = k by omega, hgk]
      by_cases e : l[k + 1] = l[k]
      · simp [e]
      · have e' : ¬ l[k] = l[k + 1] := fun h => e h.symm
        simp [e, e']
theorem zeros_one (n : Nat) : ∀ v ∈ (Builtin.zeroCells (Value.cells (.agg #[.int .i64 0, .int .i64 0])) n).toList, v.oneCell' = true := by
  intro v hv
  simp only [Builtin.zeroCells, Value.cells] at hv
  have hv := Array.mem_toList_iff.1 hv
  obtain ⟨i, hi, rfl⟩ := Array.mem_iff_getElem.1 hv
  simp only [Array.getElem_map, Array.getElem_range]
  show ((#[Value.int .i64 0, .int .i64 0] : Array Value)[i % 2]!).oneCell' = true
  rcases (show i % 2 = 0 ∨ i % 2 = 1 by omega) with h | h <;> rw [h] <;> rfl
theorem clear_run (w : World) (ty : TypeId) (g o n c : Nat) (hn : 0 < n) (hc : ∀ j, j < n * 2 → (w.cell? ⟨g, o + j, none⟩).isSome = true) (hf : ∀ j, j < n * 2 → w.frozen? ⟨g, o + j, none⟩ = false) :
    ∃ vs, (Builtin.clear_ #[22] ty #[.slice (some ⟨g, o, none⟩) n c]).run Tryz.prog w = .ok (.tuple #[]) (w.setCells g o vs) := by
  have hv : ∀ w, (zeroValue 68).run Tryz.prog w = .ok (.agg #[.int .i64 0, .int .i64 0]) w := Tryz.zeroValue68
  obtain ⟨zs, hzs⟩ : ∃ zs, (Builtin.zeroCells (Value.cells (.agg #[.int .i64 0, .int .i64 0])) n).toList = zs := ⟨_, rfl⟩
  have hlen : zs.length = n * 2 := by rw [← hzs]; simp [Builtin.zeroCells, Value.cells]
  have hst := run_storeCells_cells (P := Tryz.prog) g o zs 0 w (by intro j hj; rw [Nat.add_zero]; exact hc j (by omega)) (by intro j hj; rw [Nat.add_zero]; exact hf j (by omega)) (by rw [← hzs]; exact zeros_one n)
  simp only [Nat.add_zero] at hst
  obtain ⟨m, rfl⟩ : ∃ m, n = m + 1 := ⟨n - 1, by omega⟩
  exact ⟨zs, by simp [Builtin.clear_, run_underlying Tryz.underlying22, hv, hzs, hst]⟩
end Go.Proofs.YtjokfllldcjheaaGreatDoor.Ed
