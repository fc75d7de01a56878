/- edges: own rows of edges that are written to; SortFunc, Compact, Norm. · edges: SortFunc by order, Compact, Norm. · edges: Compact at edges; Norm. · edges: Norm. -/
import Derived.Test.YtjokfllldcjheaaGreatDoorEe
import Derived.Test.YtjokfllldcjheaaGreatDoorLae
import Derived.Laws.OwnMore
import Derived.Lib.SlicesCompact
import Derived.Lib.SliceRun
import Derived.Deep.LoopGhost
/- edges: own rows of edges that are written to; SortFunc, Compact, Norm. -/
namespace Go.Proofs.YtjokfllldcjheaaGreatDoor.Ed
open Go.RowKit Go.Sort
set_option linter.unusedVariables false
set_option linter.unusedSimpArgs false

theorem ecells_take (l : List E2) : ∀ k, (ecells l).take (k * 2) = ecells (l.take k) := by
  induction l with
  | nil => intro k; simp [ecells]
  | cons p l ih =>
    intro k
    cases k with
    | zero => simp [ecells]
    | succ k =>
      show (Value.int .i64 p.1 :: Value.int .i64 p.2 :: ecells l).take ((k + 1) * 2) = Value.int .i64 p.1 :: Value.int .i64 p.2 :: ecells (l.take k)
      rw [show (k + 1) * 2 = k * 2 + 1 + 1 by omega, List.take_succ_cons, List.take_succ_cons, ih]
theorem ecells_set (l : List E2) (x : E2) : ∀ i, ecells (l.set i x) = ((ecells l).set (i * 2) (.int .i64 x.1)).set (i * 2 + 1) (.int .i64 x.2) := by
  induction l with
  | nil => intro i; simp [ecells]
  | cons p l ih =>
    intro i
    cases i with
    | zero => rfl
    | succ i =>
      show Value.int .i64 p.1 :: Value.int .i64 p.2 :: ecells (l.set i x) = ((Value.int .i64 p.1 :: Value.int .i64 p.2 :: ecells l).set ((i + 1) * 2) _).set ((i + 1) * 2 + 1) _
      rw [ih, show (i + 1) * 2 = i * 2 + 1 + 1 by omega]
      rfl
section
variable {w : World} {base g cap : Nat} {l : List E2}
theorem EO.cut (h : EO w base (.slice (some ⟨g, 0, none⟩) l.length cap) l) (k : Nat) (hk : k ≤ l.length) : EO w base (.slice (some ⟨g, 0, none⟩) k cap) (l.take k) := by
  obtain ⟨h1, h2⟩ := h
  rcases h2 with ⟨h', _⟩ | ⟨g', cap', cur, h', hb, hg, hnc, hcm, hcs, htk⟩
  · simp at h'
  · injection h' with h3 _ h4
    injection h3 with h3
    injection h3 with h3
    subst h3 h4
    have e : (l.take k).length = k := by rw [List.length_take]; omega
    refine ⟨by rw [ecells_length, e], .inr ⟨g, cap, cur, by rw [e], hb, hg, by rw [e]; omega, hcm, hcs, ?_⟩⟩
    rw [e, ← ecells_take, ← htk, List.take_take]
    congr 1
    omega
theorem EO.set (h : EO w base (.slice (some ⟨g, 0, none⟩) l.length cap) l) (i : Nat) (x : E2) :
    EO ((w.setCell ⟨g, i * 2, none⟩ (.int .i64 x.1)).setCell ⟨g, i * 2 + 1, none⟩ (.int .i64 x.2)) base (.slice (some ⟨g, 0, none⟩) l.length cap) (l.set i x) ∧ w.grownBy ((w.setCell ⟨g, i * 2, none⟩ (.int .i64 x.1)).setCell ⟨g, i * 2 + 1, none⟩ (.int .i64 x.2)) (some g) := by
  obtain ⟨h1, g1⟩ := World.ownsRow.stored h (i * 2) (.int .i64 x.1)
  obtain ⟨h2, g2⟩ := World.ownsRow.stored h1 (i * 2 + 1) (.int .i64 x.2)
  refine ⟨?_, g1.trans g2⟩
  unfold EO
  rw [ecells_set, List.length_set]
  exact h2
theorem EO.wiped : ∀ (vs : List Value) (w : World) (xs : List Value) (n off : Nat), w.ownsRow base 68 2 (.slice (some ⟨g, 0, none⟩) n cap) n xs →
    ∃ xs', (w.setCells g off vs).ownsRow base 68 2 (.slice (some ⟨g, 0, none⟩) n cap) n xs' ∧ xs'.take off = xs.take off ∧ w.grownBy (w.setCells g off vs) (some g)
  | [], w, xs, n, off, h => ⟨xs, h, rfl, World.grownBy.refl w _⟩
  | v :: vs, w, xs, n, off, h => by
    obtain ⟨h1, g1⟩ := World.ownsRow.stored h off v
    obtain ⟨xs', h2, e2, g2⟩ := EO.wiped vs _ _ n (off + 1) h1
    refine ⟨xs', h2, ?_, g1.trans g2⟩
    have : (xs'.take (off + 1)).take off = ((xs.set off v).take (off + 1)).take off := by rw [e2]
    rw [List.take_take, List.take_take, Nat.min_eq_left (by omega)] at this
    rw [this]
    apply List.ext_getElem?
    intro j
    simp only [List.getElem?_take]
    by_cases hj : j < off
    · rw [if_pos hj, if_pos hj, List.getElem?_set_ne (by omega)]
    · rw [if_neg hj, if_neg hj]
theorem ecells_inj : ∀ {a b : List E2}, ecells a = ecells b → a = b
  | [], [], _ => rfl
  | [], y :: ys, h => by simp [ecells, enc] at h
  | x :: xs, [], h => by simp [ecells, enc] at h
  | (x, x') :: xs, (y, y') :: ys, h => by
    have h : Value.int .i64 x :: Value.int .i64 x' :: ecells xs = Value.int .i64 y :: Value.int .i64 y' :: ecells ys := h
    injection h with h1 h
    injection h with h2 h
    injection h1 with _ h1
    injection h2 with _ h2
    rw [h1, h2, ecells_inj h]
/-- what is behind a place is wiped, the rest stays -/
theorem EO.wipe (h : EO w base (.slice (some ⟨g, 0, none⟩) l.length cap) l) (k : Nat) (hk : k ≤ l.length) (vs : List Value) :
    EO (w.setCells g (k * 2) vs) base (.slice (some ⟨g, 0, none⟩) k cap) (l.take k) ∧ w.grownBy (w.setCells g (k * 2) vs) (some g) := by
  obtain ⟨xs', h2, e2, g2⟩ := EO.wiped vs w (ecells l) l.length (k * 2) h
  refine ⟨?_, g2⟩
  obtain ⟨h1, h2⟩ := h2
  rcases h2 with ⟨h', _⟩ | ⟨g', cap', cur, h', hb, hg, hnc, hcm, hcs, htk⟩
  · simp at h'
  · injection h' with h3 _ h4
    injection h3 with h3
    injection h3 with h3
    subst h3 h4
    have e : (l.take k).length = k := by rw [List.length_take]; omega
    refine ⟨by rw [ecells_length, e], .inr ⟨g, cap, cur, by rw [e], hb, hg, by rw [e]; omega, hcm, hcs, ?_⟩⟩
    rw [e, ← ecells_take, ← e2, ← htk, List.take_take]
    congr 1
    omega
end
theorem flatK_toList (d : Array E2) : (flatK enc 2 d).toList = ecells d.toList := by
  apply List.ext_getElem
  · rw [ecells_length, Array.length_toList, size_flatK, Array.length_toList]
  · intro t h1 h2
    have ht : t < d.size * 2 := by rwa [Array.length_toList, size_flatK] at h1
    obtain ⟨i, hi⟩ : ∃ i, t = i * 2 ∨ t = i * 2 + 1 := ⟨t / 2, by omega⟩
    have hid : i < d.size := by omega
    have hg := ecells_get d.toList i (by simpa using hid)
    have e0 : (flatK enc 2 d).toList[t] = (enc d[t / 2]!)[t % 2]! := by
      rw [← get_flatK enc 2 d t ht, Array.getElem_toList, getElem!_pos]
    have e1 : d[i]! = d.toList.getD i (0, 0) := by
      rw [getElem!_pos d i hid]
      simp [List.getD_eq_getElem?_getD, hid]
    rw [e0]
    rcases hi with rfl | rfl
    · rw [show i * 2 / 2 = i by omega, show i * 2 % 2 = 0 by omega, e1]
      have := hg.1
      rw [List.getElem?_eq_getElem h2] at this
      injection this with this
      rw [this]; rfl
    · rw [show (i * 2 + 1) / 2 = i by omega, show (i * 2 + 1) % 2 = 1 by omega, e1]
      have := hg.2
      rw [List.getElem?_eq_getElem h2] at this
      injection this with this
      rw [this]; rfl
theorem EO.holds {w : World} {base g cap : Nat} {l : List E2} (h : EO w base (.slice (some ⟨g, 0, none⟩) l.length cap) l) : HoldsK enc 2 w g 0 l.toArray := by
  intro j hj
  have hj2 : j < l.length * 2 := by simpa using hj
  have h1 := World.ownsRow.cellAt h j hj2
  have h2 := World.ownsRow.frozenAt h j
  rw [Nat.zero_add]
  refine ⟨?_, h2⟩
  rw [h1, ← show (flatK enc 2 l.toArray).toList = ecells l by rw [flatK_toList], Array.getElem?_toList, getElem!_pos _ j hj, Array.getElem?_eq_getElem hj]
  rfl
theorem EO.sorted {w : World} {base g cap : Nat} {l : List E2} (h : EO w base (.slice (some ⟨g, 0, none⟩) l.length cap) l) (n : Nat) (d : Array E2) (os : Array Obj) (hd : d.size = l.length) :
    EO (sortWorldK enc 2 w g 0 n d os) base (.slice (some ⟨g, 0, none⟩) d.toList.length cap) d.toList ∧ w.grownBy (sortWorldK enc 2 w g 0 n d os) (some g) := by
  obtain ⟨h1, h2⟩ := h
  rcases h2 with ⟨h', _⟩ | ⟨g', cap', cur, h', hb, hg, hnc, hcm, hcs, htk⟩
  · simp at h'
  · injection h' with h3 _ h4
    injection h3 with h3
    injection h3 with h3
    subst h3 h4
    have hgl := (Array.getElem?_eq_some_iff.1 hg).1
    have hheap : (sortWorldK enc 2 w g 0 n d os).heap = w.heap.modify g (onCells (putCells id 0 (flatK enc 2 d))) ++ os := rfl
    have hget : (sortWorldK enc 2 w g 0 n d os).heap[g]? = some (.cells (putCells id 0 (flatK enc 2 d) cur) 68 (0, 0)) := by
      rw [hheap, Array.getElem?_append, if_pos (by simpa using hgl), Array.getElem?_modify, if_pos rfl, hg]
      rfl
    have hdl : d.toList.length = l.length := by rw [Array.length_toList, hd]
    have hsz : cur.size = cap * 2 := hcs
    refine ⟨⟨ecells_length _, .inr ⟨g, cap, _, rfl, hb, hget, by rw [hdl]; exact hnc, hcm, by simpa [putCells] using hcs, ?_⟩⟩, ⟨rfl, rfl, rfl, ?_, ?_⟩⟩
    · rw [← flatK_toList]
      apply List.ext_getElem?
      intro j
      rw [List.getElem?_take]
      by_cases hj : j < d.toList.length * 2
      · have hj2 : j < (flatK enc 2 d).size := by rw [size_flatK]; simpa using hj
        have hjc : j < cur.size := by omega
        rw [if_pos hj, Array.getElem?_toList, Array.getElem?_toList, putCells, Array.getElem?_mapIdx, Array.getElem?_eq_getElem hjc, Option.map_some, if_pos ⟨by omega, by omega⟩, Nat.sub_zero, getElem!_pos _ j hj2, Array.getElem?_eq_getElem hj2]
        rfl
      · rw [if_neg hj, List.getElem?_eq_none]
        rw [Array.length_toList, size_flatK]
        rw [Array.length_toList] at hj
        omega
    · rw [hheap, Array.size_append, Array.size_modify]; omega
    · intro k hk hne
      rw [hheap, Array.getElem?_append, if_pos (by simpa using hk), Array.getElem?_modify, if_neg (fun e => hne (by rw [e]))]
end Go.Proofs.YtjokfllldcjheaaGreatDoor.Ed
/- edges: SortFunc by order, Compact, Norm. -/
namespace Go.Proofs.YtjokfllldcjheaaGreatDoor.Ed
open Go.RowKit Go.Sort Go.Shelf
set_option linter.unusedVariables false
set_option linter.unusedSimpArgs false

theorem ltOrd (a b : E2) : ltOf ordF a b = decide (Lt a b) := by
  unfold ltOf
  by_cases h : Lt a b
  · rw [decide_eq_true h, decide_eq_true ((ordF_neg a b).2 h)]
  · rw [decide_eq_false h, decide_eq_false (fun e => h ((ordF_neg a b).1 e))]
theorem swoOrd : SWO (ltOf ordF) where
  irrefl x := by rw [ltOrd]; exact decide_eq_false (lt_irrefl x)
  trans x y z h1 h2 := by rw [ltOrd] at *; exact decide_eq_true (lt_trans (of_decide_eq_true h1) (of_decide_eq_true h2))
  ntrans x y z h1 h2 := by
    rw [ltOrd] at *
    have h1 := of_decide_eq_false h1
    have h2 := of_decide_eq_false h2
    refine decide_eq_false ?_
    unfold Lt at *
    omega
theorem ordLays (blk off size : Nat) (w : World) : CmpLays Tryz.prog 76 #[] enc 2 ordF blk off size w := fun _ _ _ _ x y => order_calls x y _
/-- sorted: no later one stands ahead of an earlier one -/
abbrev Srt (l : List E2) : Prop := l.Pairwise (fun a b => ¬ Lt b a)
set_option maxHeartbeats 1000000 in
theorem sort_calls (base : Nat) (v : Value) (l : List E2) (w : World) (h : EO w base v l) (hl : l.length ≤ 1000000) :
    Calls Tryz.prog 75 #[v, .func (.func 76) #[] #[]] w fun e w' => e = .returned (.tuple #[]) ∧ ∃ l', l'.Perm l ∧ Srt l' ∧ EO w' base v l' ∧ w.grownBy w' v.ownBlock := by
  rcases h.2 with ⟨rfl, hn⟩ | ⟨g, cap, cur, rfl, hb, hg, hrest⟩
  · obtain rfl : l = [] := List.eq_nil_of_length_eq_zero hn
    refine (AnyF.slices_SortFunc_none Tryz.sortE none 0 _ w).mono ?_
    rintro e w' ⟨rfl, rfl⟩
    exact ⟨rfl, [], List.Perm.refl _, List.Pairwise.nil, h, World.grownBy.refl _ _⟩
  · have eg : ∀ args w, (callFunc 76 args).run Tryz.prog w = .ok (.enter 76 args) w := enters_of Tryz.func76 (by kernel_rfl) rfl
    have hcon := AnyQ.slices_SortFunc Tryz.sortE 2 Tryz.isAgg68 Tryz.sizeOf68 enc (fun _ => rfl) (fun x v hv => by simp [enc] at hv; rcases hv with rfl | rfl <;> rfl) ordF swoOrd 76 #[] g 0 cap l.toArray w eg (ordLays g 0 _ w) h.holds (Array.getElem?_eq_some_iff.1 hg).1 (by simp; omega)
    refine hcon.mono ?_
    rintro e w' ⟨rfl, d', n, os, hp, hs, rfl⟩
    have hsz : d'.size = l.length := by rw [hp.1]; simp
    obtain ⟨h1, h2⟩ := h.sorted n d' os hsz
    refine ⟨rfl, d'.toList, ?_, ?_, by rw [Array.length_toList, hsz] at h1; exact h1, h2⟩
    · have := hp.2.2
      rw [Array.extract_eq_self_of_le (by simp [hsz]), Array.extract_eq_self_of_le (by simp)] at this
      simpa using this
    · rw [Srt, List.pairwise_iff_getElem]
      intro i j hi hj hij hlt
      rw [Array.length_toList] at hi hj
      have := hs i j (by omega) hij (by simp; omega)
      rw [ltOrd, getElem!_pos d' j hj, getElem!_pos d' i hi] at this
      exact (of_decide_eq_false this) (by simpa using hlt)

theorem ddp_snoc : ∀ (l : List E2) (x : E2), ddp (l ++ [x]) = if l.getLast? = some x then ddp l else ddp l ++ [x]
  | [], x => by simp [ddp]
  | [y], x => by
    by_cases h : y = x
    · subst h; simp [ddp]
    · simp [ddp, h]
  | y :: z :: r, x => by
    have ih := ddp_snoc (z :: r) x
    have e : (y :: z :: r).getLast? = (z :: r).getLast? := by simp [List.getLast?_cons_cons]
    rw [e]
    show ddp (y :: z :: (r ++ [x])) = _
    unfold ddp
    rw [show z :: (r ++ [x]) = z :: r ++ [x] from rfl, ih]
    by_cases h1 : y = z
    · rw [if_pos h1, if_pos h1]
    · rw [if_neg h1, if_neg h1]
      by_cases h2 : (z :: r).getLast? = some x
      · rw [if_pos h2, if_pos h2]
      · rw [if_neg h2, if_neg h2]; rfl
theorem compact_ddp (l : List E2) : ∀ m, m ≤ l.length → Lib.compactUpTo l.toArray m = ddp (l.take m)
  | 0, _ => by simp [Lib.compactUpTo, ddp]
  | m + 1, h => by
    have hm : m < l.length := by omega
    have hg : l.toArray[m]! = l[m] := by rw [getElem!_pos l.toArray m (by simpa using hm)]; simp
    rw [Lib.compactUpTo_succ, compact_ddp l m (by omega), List.take_add_one, List.getElem?_eq_getElem hm, Option.toList_some, ddp_snoc]
    cases m with
    | zero => simp [Lib.keeps, ddp, hg]
    | succ k =>
      have hk : k < l.length := by omega
      have hgk : l.toArray[k]! = l[k] := by rw [getElem!_pos l.toArray k (by simpa using hk)]; simp
      have hlast : (l.take (k + 1)).getLast? = some l[k] := by
        rw [List.getLast?_eq_getElem?, List.length_take, Nat.min_eq_left (by omega)]
        simp [List.getElem?_take, hk]
      rw [hlast]
      unfold Lib.keeps
      rw [hg, show k + 1 - 1 = k by omega, hgk]
      by_cases e : l[k + 1] = l[k]
      · simp [e]
      · have e' : ¬ l[k] = l[k + 1] := fun h => e h.symm
        simp [e, e']
theorem zeros_one (n : Nat) : ∀ v ∈ (Builtin.zeroCells (Value.cells (.agg #[.int .i64 0, .int .i64 0])) n).toList, v.oneCell' = true := by
  intro v hv
  simp only [Builtin.zeroCells, Value.cells] at hv
  have hv := Array.mem_toList_iff.1 hv
  obtain ⟨i, hi, rfl⟩ := Array.mem_iff_getElem.1 hv
  simp only [Array.getElem_map, Array.getElem_range]
  show ((#[Value.int .i64 0, .int .i64 0] : Array Value)[i % 2]!).oneCell' = true
  rcases (show i % 2 = 0 ∨ i % 2 = 1 by omega) with h | h <;> rw [h] <;> rfl
theorem clear_run (w : World) (ty : TypeId) (g o n c : Nat) (hn : 0 < n) (hc : ∀ j, j < n * 2 → (w.cell? ⟨g, o + j, none⟩).isSome = true) (hf : ∀ j, j < n * 2 → w.frozen? ⟨g, o + j, none⟩ = false) :
    ∃ vs, (Builtin.clear_ #[22] ty #[.slice (some ⟨g, o, none⟩) n c]).run Tryz.prog w = .ok (.tuple #[]) (w.setCells g o vs) := by
  have hv : ∀ w, (zeroValue 68).run Tryz.prog w = .ok (.agg #[.int .i64 0, .int .i64 0]) w := Tryz.zeroValue68
  obtain ⟨zs, hzs⟩ : ∃ zs, (Builtin.zeroCells (Value.cells (.agg #[.int .i64 0, .int .i64 0])) n).toList = zs := ⟨_, rfl⟩
  have hlen : zs.length = n * 2 := by rw [← hzs]; simp [Builtin.zeroCells, Value.cells]
  have hst := run_storeCells_cells (P := Tryz.prog) g o zs 0 w (by intro j hj; rw [Nat.add_zero]; exact hc j (by omega)) (by intro j hj; rw [Nat.add_zero]; exact hf j (by omega)) (by rw [← hzs]; exact zeros_one n)
  simp only [Nat.add_zero] at hst
  obtain ⟨m, rfl⟩ : ∃ m, n = m + 1 := ⟨n - 1, by omega⟩
  exact ⟨zs, by simp [Builtin.clear_, run_underlying Tryz.underlying22, hv, hzs, hst]⟩
end Go.Proofs.YtjokfllldcjheaaGreatDoor.Ed
/- edges: Compact at edges; Norm. -/
namespace Go.Proofs.YtjokfllldcjheaaGreatDoor.Ed
open Go.RowKit Go.Sort
set_option linter.unusedVariables false
set_option linter.unusedSimpArgs false

theorem EO.at {w : World} {base g cap : Nat} {l : List E2} (h : EO w base (.slice (some ⟨g, 0, none⟩) l.length cap) l) (i : Nat) (hi : i < l.length) :
    (w.cell? ⟨g, i * 2, none⟩ = some (.int .i64 (l.getD i (0, 0)).1) ∧ w.cell? ⟨g, i * 2 + 1, none⟩ = some (.int .i64 (l.getD i (0, 0)).2)) ∧ w.frozen? ⟨g, i * 2, none⟩ = false ∧ w.frozen? ⟨g, i * 2 + 1, none⟩ = false := by
  have e := ecells_get l i hi
  exact ⟨⟨(World.ownsRow.cellAt h _ (by omega)).trans e.1, (World.ownsRow.cellAt h _ (by omega)).trans e.2⟩, World.ownsRow.frozenAt h _, World.ownsRow.frozenAt h _⟩
theorem EO.drewN {w : World} {base : Nat} {v : Value} {l : List E2} (h : EO w base v l) (n : Nat) : EO (w.drewN n) base v l := h
theorem arr_get (l : List E2) (i : Nat) (h : i < l.length) : l.toArray[i]! = l.getD i (0, 0) := by
  rw [getElem!_pos l.toArray i (by simpa using h)]
  simp [List.getD_eq_getElem?_getD, h]
theorem ddp_short {l : List E2} (h : l.length < 2) : ddp l = l := by
  match l, h with
  | [], _ => rfl
  | [x], _ => rfl
set_option maxHeartbeats 4000000 in
set_option maxRecDepth 100000 in
theorem compact_two (base g cap n : Nat) (l : List E2) (w : World) (h : EO w base (.slice (some ⟨g, 0, none⟩) l.length cap) l) (hn : l.length = n) (hl : n ≤ 1000000) (h2 : 2 ≤ n) :
    Calls Tryz.prog 77 #[.slice (some ⟨g, 0, none⟩) n cap] w fun e w' => ∃ m, e = .returned (.slice (some ⟨g, 0, none⟩) m cap) ∧ EO w' base (.slice (some ⟨g, 0, none⟩) m cap) (ddp l) ∧ w.grownBy w' (some g) := by
  have hcap : n ≤ cap ∧ cap ≤ 9223372036854775807 := by
    obtain ⟨A, c, hv, h1, h2⟩ := h.shape
    injection hv with _ _ hv
    subst hv
    rw [hn] at h1
    exact ⟨h1, h2⟩
  have HH := Lib.hid h
  have HN := Lib.hid hn
  have HD := Lib.hid (compact_ddp l n (by omega))
  have hb2 : (2 : Int) ≤ (n : Int) := by omega
  obtain ⟨hcap1, hcap2⟩ := hcap
  clear h hn
  go_enter Tryz.func77, Tryz.ntmps77
  go_upto_region 4 with (fail)
  go_loopg [3] n (fun gg s3 wr => ∃ k q : Nat, 1 ≤ k ∧ k ≤ n ∧ n - k ≤ gg ∧ s3 = .int .i64 (k : Int) ∧ wr = w.drewN q ∧ Hid (∀ j, j < k → Lib.keeps l.toArray j = true))
  case atStart => exact ⟨1, 0, Nat.le_refl _, by omega, by omega, rfl, rfl, Lib.hid (Lib.keeps_lt_one _)⟩
  case round =>
    obtain ⟨k, q, hk1, hk, hg, rfl, rfl, HA⟩ := hrel
    by_cases hlt : k < n
    · obtain ⟨⟨c0, c1⟩, -⟩ := HH.out.at k (by rw [HN.out]; exact hlt)
      obtain ⟨⟨d0, d1⟩, -⟩ := HH.out.at (k - 1) (by rw [HN.out]; omega)
      obtain ⟨⟨x, x'⟩, hx⟩ : ∃ x, l.getD k (0, 0) = x := ⟨_, rfl⟩
      obtain ⟨⟨y, y'⟩, hy⟩ : ∃ y, l.getD (k - 1) (0, 0) = y := ⟨_, rfl⟩
      rw [hx] at c0 c1
      rw [hy] at d0 d1
      simp only at c0 c1 d0 d1
      have HX : Hid (l.toArray[k]! = (x, x') ∧ l.toArray[k - 1]! = (y, y')) := Lib.hid ⟨by rw [arr_get l k (by rw [HN.out]; exact hlt), hx], by rw [arr_get l (k - 1) (by rw [HN.out]; omega), hy]⟩
      have hgd := fun (op : BinOp) (p q : Operand) (w : World) => guard_run op p q (x, x') (y, y') w
      simp only at hgd
      have i0 : (0 : Int) ≤ (k : Int) := by omega
      have i1 : (k : Int) < (n : Int) := by omega
      have i2 : (1 : Int) ≤ (k : Int) := by omega
      have i3 : (k : Int) - 1 < (n : Int) := by omega
      have i4 : IntKind.i64.wrap ((k : Int) - 1) = (k : Int) - 1 := IntWalk.i64_in _ (by omega)
      have i5 : ((k : Int) - 1).toNat = k - 1 := by omega
      have i6 : (0 : Int) ≤ (k : Int) - 1 := by omega
      clear hx hy
      by_cases hdup : (x, x') = (y, y')
      · have heq : ∀ w, (binOp .eql 68 (.agg #[.int .i64 x, .int .i64 x']) (.agg #[.int .i64 y, .int .i64 y'])).run Tryz.prog w = .ok (.bool true) w := fun w => by
          have := eql_run (x, x') (y, y') w
          rwa [decide_eq_true hdup] at this
        have HDUP := Lib.hid hdup
        clear hdup
        go_upto_region 6 with (fail)
        go_quiet (fail)
        clear i4 i5 hgd heq c0 c1 d0 d1
        go_wp2
        have HC0 : Hid (Lib.CompInv l.toArray (k + 1) k l.toArray) := Lib.hid (Lib.CompInv.start HA.out (Lib.keeps_neg (by omega) (by rw [HX.out.1, HX.out.2]; exact HDUP.out)))
        have HN0 : Hid (l.length = n) := HN
        go_loopg [3, 5] n (fun gg s3 s5 wr => ∃ (kk k2 : Nat) (dl : List E2), s3 = .int .i64 (kk : Int) ∧ s5 = .int .i64 (k2 : Int) ∧ 1 ≤ k2 ∧ k + k2 ≤ n ∧ n - (k + k2) ≤ gg ∧ Hid (dl.length = n) ∧ Hid (EO wr base (.slice (some ⟨g, 0, none⟩) dl.length cap) dl) ∧ Hid (w.grownBy wr (some g)) ∧ Hid (Lib.CompInv l.toArray (k + k2) kk dl.toArray))
        case atStart => exact ⟨k, 1, l, rfl, rfl, Nat.le_refl _, by omega, by omega, HN0, Lib.hid (HH.out.drewN _), Lib.hid (grown_below (drewN_below _ _ _) _), HC0⟩
        case round =>
          obtain ⟨kk, k2, dl, rfl, rfl, h1, hle, hg2, HDL, HE, HG, HC⟩ := hrel
          have hkk := HC.out.lt
          by_cases hlt2 : k + k2 < n
          · obtain ⟨⟨c0, c1⟩, -⟩ := HE.out.at (k + k2) (by rw [HDL.out]; exact hlt2)
            obtain ⟨⟨d0, d1⟩, -⟩ := HE.out.at (k + k2 - 1) (by rw [HDL.out]; omega)
            obtain ⟨⟨b0, b1⟩, ⟨f0, f1⟩⟩ := HE.out.at kk (by rw [HDL.out]; omega)
            have e1 := HC.out.high (k + k2) (by omega)
            have e2 := HC.out.high (k + k2 - 1) (by omega)
            rw [arr_get dl _ (by rw [HDL.out]; omega)] at e1 e2
            obtain ⟨⟨u, u'⟩, hu⟩ : ∃ x, dl.getD (k + k2) (0, 0) = x := ⟨_, rfl⟩
            obtain ⟨⟨v, v'⟩, hv⟩ : ∃ x, dl.getD (k + k2 - 1) (0, 0) = x := ⟨_, rfl⟩
            rw [hu] at c0 c1 e1
            rw [hv] at d0 d1 e2
            generalize dl.getD kk (0, 0) = old at b0 b1
            obtain ⟨z, z'⟩ := old
            simp only at c0 c1 d0 d1 b0 b1
            rw [show (k + k2) * 2 = k * 2 + k2 * 2 by omega] at c0 c1
            rw [show (k + k2 - 1) * 2 = k * 2 + (k2 - 1) * 2 by omega] at d0 d1
            have HU := Lib.hid (And.intro e1 e2)
            have hgd := fun (op : BinOp) (p q : Operand) (w : World) => guard_run op p q (u, u') (v, v') w
            simp only at hgd
            have j0 : (0 : Int) ≤ (k2 : Int) := by omega
            have j1 : (k2 : Int) < ((n - k : Nat) : Int) := by omega
            have j2 : (1 : Int) ≤ (k2 : Int) := by omega
            have j3 : (k2 : Int) - 1 < ((n - k : Nat) : Int) := by omega
            have j4 : IntKind.i64.wrap ((k2 : Int) - 1) = (k2 : Int) - 1 := IntWalk.i64_in _ (by omega)
            have j5 : ((k2 : Int) - 1).toNat = k2 - 1 := by omega
            have j6 : (0 : Int) ≤ (k2 : Int) - 1 := by omega
            clear hu hv e1 e2
            by_cases huv : (u, u') = (v, v')
            · have heq : ∀ w, (binOp .neq 68 (.agg #[.int .i64 u, .int .i64 u']) (.agg #[.int .i64 v, .int .i64 v'])).run Tryz.prog w = .ok (.bool false) w := fun w => by
                have := neq_run (u, u') (v, v') w
                rwa [decide_eq_true huv] at this
              have HUV := Lib.hid huv
              clear huv
              go_upto_region 11 with (fail)
              go_quiet (fail)
              clear j4 j5
              go_wp2
              go_roundg (n - (k + (k2 + 1)))
              case measure => omega
              case rel => exact ⟨kk, k2 + 1, dl, rfl, by go_num, by omega, by omega, by omega, HDL, Lib.hid (HE.out.drewN _), Lib.hid (HG.out.trans (grown_below (drewN_below _ _ _) _)), Lib.hid (HC.out.skip (Lib.keeps_neg (by omega) (by rw [← HU.out.1, ← HU.out.2]; exact HUV.out)))⟩
            · have heq : ∀ w, (binOp .neq 68 (.agg #[.int .i64 u, .int .i64 u']) (.agg #[.int .i64 v, .int .i64 v'])).run Tryz.prog w = .ok (.bool true) w := fun w => by
                have := neq_run (u, u') (v, v') w
                rwa [decide_eq_false huv] at this
              have HUV := Lib.hid huv
              clear huv
              go_upto_region 11 with (fail)
              go_quiet (fail)
              clear j4 j5
              have j7 : (kk : Int) < (n : Int) := by omega
              go_wp2
              go_roundg (n - (k + (k2 + 1)))
              case measure => omega
              case rel =>
                obtain ⟨s1, s2⟩ := (HE.out.drewN nq).set kk (u, u')
                have hk := HC.out.keep (by rw [List.size_toArray, HN.out]; exact hlt2) (Lib.keeps_pos (by rw [← HU.out.1, ← HU.out.2]; exact HUV.out))
                refine ⟨kk + 1, k2 + 1, dl.set kk (u, u'), by go_num, by go_num, by omega, by omega, by omega, Lib.hid (by rw [List.length_set]; exact HDL.out), Lib.hid (by rw [List.length_set]; exact s1), Lib.hid ((HG.out.trans (grown_below (drewN_below _ _ nq) _)).trans s2), Lib.hid ?_⟩
                show Lib.CompInv l.toArray (k + k2 + 1) (kk + 1) (dl.set kk (u, u')).toArray
                rw [← HU.out.1] at hk
                simpa using hk
          · have hend : k + k2 = n := by omega
            obtain ⟨vs, hcl⟩ := clear_run wr 0 g (kk * 2) (n - kk) (cap - kk) (by omega) (fun j hj => by
              obtain ⟨i, hi⟩ : ∃ i, j = i * 2 ∨ j = i * 2 + 1 := ⟨j / 2, by omega⟩
              obtain ⟨⟨a1, a2⟩, -⟩ := HE.out.at (kk + i) (by rw [HDL.out]; omega)
              rcases hi with rfl | rfl
              · rw [show kk * 2 + i * 2 = (kk + i) * 2 by omega, a1]; rfl
              · rw [show kk * 2 + (i * 2 + 1) = (kk + i) * 2 + 1 by omega, a2]; rfl) (fun j hj => World.ownsRow.frozenAt HE.out _)
            obtain ⟨s1, s2⟩ := HE.out.wipe kk (by rw [HDL.out]; omega) vs
            have HS := Lib.hid (And.intro s1 s2)
            have HEND := Lib.hid hend
            have k2n : ¬ (k2 : Int) < ((n - k : Nat) : Int) := by omega
            clear s1 s2 hend
            have j7 : (kk : Int) ≤ (n : Int) := by omega
            go_wp2
            go_ret
            refine ⟨kk, rfl, ?_, HG.out.trans HS.out.2⟩
            have e1 : dl.take kk = ddp l := by
              have h1 := HD.out
              rw [List.take_of_length_le (by rw [HN.out]; omega), ← HEND.out] at h1
              rw [← h1]
              apply List.ext_getElem?
              intro j
              by_cases hj : j < kk
              · have h5 := HC.out.low j hj
                rw [h5, List.getElem?_take, if_pos hj, arr_get dl j (by rw [HDL.out]; omega), List.getElem?_eq_getElem (by rw [HDL.out]; omega)]
                simp [List.getD_eq_getElem?_getD, show j < dl.length by rw [HDL.out]; omega]
              · rw [List.getElem?_take, if_neg hj, List.getElem?_eq_none (by rw [HC.out.len]; omega)]
            rw [← e1]
            exact HS.out.1
      · have heq : ∀ w, (binOp .eql 68 (.agg #[.int .i64 x, .int .i64 x']) (.agg #[.int .i64 y, .int .i64 y'])).run Tryz.prog w = .ok (.bool false) w := fun w => by
          have := eql_run (x, x') (y, y') w
          rwa [decide_eq_false hdup] at this
        have HDUP := Lib.hid hdup
        clear hdup
        go_upto_region 6 with (fail)
        go_quiet (fail)
        clear i4 i5
        go_wp2
        go_roundg (n - (k + 1))
        case measure => omega
        case rel =>
          refine ⟨k + 1, q + nq, by omega, by omega, Nat.le_refl _, by go_num, rfl, Lib.hid (fun j hj => ?_)⟩
          by_cases e : j = k
          · subst e
            exact Lib.keeps_pos (by rw [HX.out.1, HX.out.2]; exact HDUP.out)
          · exact HA.out j (by omega)
    · obtain rfl : n = k := by omega
      go_wp2
      go_ret
      have e1 : ddp l = l := by
        have h1 := HD.out
        rw [Lib.compactUpTo_all _ _ HA.out, List.take_of_length_le (by rw [HN.out]; omega)] at h1
        rw [← h1, ← HN.out]
        have := Lib.range_map_get l.toArray
        simpa using this
      rw [e1, ← HN.out]
      exact ⟨_, rfl, HH.out, grown_below (drewN_below _ _ _) _⟩
end Go.Proofs.YtjokfllldcjheaaGreatDoor.Ed
/- edges: Norm. -/
namespace Go.Proofs.YtjokfllldcjheaaGreatDoor.Ed
open Go.RowKit Go.Sort
set_option linter.unusedVariables false
set_option linter.unusedSimpArgs false

set_option maxHeartbeats 2000000 in
set_option maxRecDepth 100000 in
theorem compact_calls (base : Nat) (v : Value) (l : List E2) (w : World) (h : EO w base v l) (hl : l.length ≤ 1000000) :
    Calls Tryz.prog 77 #[v] w fun e w' => ∃ v', e = .returned v' ∧ EO w' base v' (ddp l) ∧ w.grownBy w' v.ownBlock := by
  by_cases h2 : l.length < 2
  · have HE : Hid (EO w base v (ddp l)) := Lib.hid (by rw [ddp_short h2]; exact h)
    obtain ⟨A, c, rfl, h3, h4⟩ := h.shape
    obtain ⟨n, hn⟩ : ∃ n, l.length = n := ⟨_, rfl⟩
    rw [hn] at h2 h3 HE ⊢
    have hb : (n : Int) < 2 := by omega
    clear h hn
    go_enter Tryz.func77, Tryz.ntmps77
    go_wp2
    go_ret
    exact ⟨_, rfl, HE.out, World.grownBy.refl _ _⟩
  · rcases h.2 with ⟨rfl, hn⟩ | ⟨g, cap, cur, rfl, hb, hg, hrest⟩
    · omega
    · refine (compact_two base g cap l.length l w h rfl hl (by omega)).mono ?_
      rintro e w' ⟨m, rfl, h1, h2⟩
      exact ⟨_, rfl, h1, h2⟩
theorem norm_is {l l' : List E2} (hp : l'.Perm l) (hs : Srt l') : ddp l' = nrm l := nrm_eq (ddp_up hs) fun x => by rw [mem_ddp]; exact hp.mem_iff
set_option maxHeartbeats 2000000 in
set_option maxRecDepth 100000 in
theorem norm_ok (n : Int) (g : Nat) (v : Value) (l : List E2) (w : World) (h : ER w g v l) (hl : l.length ≤ 1000000) (hw : wrg n l = -2) :
    Calls Tryz.prog 41 #[.int .i64 n, v] w fun e w' => ∃ v', e = .returned (.tuple #[v', .nilIface]) ∧ Hid (EO w' w.heap.size v' (nrm l)) ∧ Hid (Below w.heap.size w w') := by
  have HE := Lib.hid h
  have HC := Lib.hid (check_calls n g v l w h hl)
  have HCV : Hid (chkV n l = .nilIface) := Lib.hid (by unfold chkV; rw [if_pos hw])
  obtain ⟨o, A, c, rfl, h1, h2, -⟩ := id h
  clear h hw
  go_enter Tryz.func41, Tryz.ntmps41
  go_wp2_with (first
    | (go_at_call 73; refine HC.out.mono ?_; rw [HCV.out]; rintro e w1 ⟨rfl, HB⟩)
    | (go_at_call 74; refine (clone_calls g _ l _ (HE.out.later HB.out) hl).mono ?_; rintro e w2 ⟨v2, rfl, ho, hb⟩; obtain ⟨vA, vc, rfl, -, -⟩ := id ho.shape; have HO := Lib.hid ho; have HB2 := Lib.hid hb; clear ho hb)
    | (go_at_call 75; refine (sort_calls _ _ l _ HO.out hl).mono ?_; rintro e w3 ⟨rfl, l', hp, hs, ho, hg⟩; have HP := Lib.hid (And.intro hp hs); have HO3 := Lib.hid ho; have HG := Lib.hid hg; clear hp hs ho hg)
    | (go_at_call 77; refine (compact_calls _ _ l' _ HO3.out (by rw [HP.out.1.length_eq]; exact hl)).mono ?_; rintro e w4 ⟨v4, rfl, ho, hg⟩; have HO4 := Lib.hid ho; have HG4 := Lib.hid hg; clear ho hg))
  go_ret2
  have hsz := HB.out.size
  have hbase := HO.out.base
  refine ⟨v4, rfl, Lib.hid ?_, Lib.hid ?_⟩
  · rw [← norm_is HP.out.1 HP.out.2]
    exact HO4.out.mono hsz
  · have b1 := HB.out.trans (HB2.out.mono hsz)
    have b2 := b1.grown HG.out b1.size (fun k hk => by have := hbase k hk; omega)
    exact b2.grown HG4.out b2.size (fun k hk => by have := hbase k hk; omega)
set_option maxHeartbeats 2000000 in
set_option maxRecDepth 100000 in
theorem norm_bad (n : Int) (g : Nat) (v : Value) (l : List E2) (w : World) (h : ER w g v l) (hl : l.length ≤ 1000000) (hw : wrg n l ≠ -2) :
    Calls Tryz.prog 41 #[.int .i64 n, v] w fun e w' => e = .returned (.tuple #[.slice none 0 0, errV (wrg n l)]) ∧ Hid (Below w.heap.size w w') := by
  have HC := Lib.hid (check_calls n g v l w h hl)
  have HCV : Hid (chkV n l = errV (wrg n l)) := Lib.hid (by unfold chkV; rw [if_neg hw])
  obtain ⟨o, A, c, rfl, h1, h2, -⟩ := id h
  generalize wrg n l = a at *
  clear h hw
  go_enter Tryz.func41, Tryz.ntmps41
  go_wp2_with (first
    | (go_at_call 73; refine HC.out.mono ?_; rw [HCV.out]; unfold errV; rintro e w1 ⟨rfl, HB⟩))
  go_ret2
  exact ⟨rfl, HB⟩
end Go.Proofs.YtjokfllldcjheaaGreatDoor.Ed
