/- edges: own rows of edges that are written to; SortFunc, Compact, Norm. -/
import Derived.Test.YtjokfllldcjheaaGreatDoorEe
import Derived.Test.YtjokfllldcjheaaGreatDoorLae
import Derived.Laws.OwnMore
import Derived.Lib.SlicesCompact
import Derived.Lib.SliceRun
import Derived.Deep.LoopGhost
namespace Go.Proofs.YtjokfllldcjheaaGreatDoor.Ed
open Go.RowKit Go.Sort
set_option linter.unusedVariables false
set_option linter.unusedSimpArgs false

theorem ecells_take (l : List E2) : ∀ k, (ecells l).take (k * 2) = ecells (l.take k) := by
  induction l with
  | nil => intro k; simp [ecells]
  | cons p l ih =>
    intro k
    cases k with
    | zero => simp [ecells]
    | succ k =>
      show (Value.int .i64 p.1 :: Value.int .i64 p.2 :: ecells l).take ((k + 1) * 2) = Value.int .i64 p.1 :: Value.int .i64 p.2 :: ecells (l.take k)
      rw [show (k + 1) * 2 = k * 2 + 1 + 1 by omega, List.take_succ_cons, List.take_succ_cons, ih]
theorem ecells_set (l : List E2) (x : E2) : ∀ i, ecells (l.set i x) = ((ecells l).set (i * 2) (.int .i64 x.1)).set (i * 2 + 1) (.int .i64 x.2) := by
  induction l with
  | nil => intro i; simp [ecells]
  | cons p l ih =>
    intro i
    cases i with
    | zero => rfl
    | succ i =>
      show Value.int .i64 p.1 :: Value.int .i64 p.2 :: ecells (l.set i x) = ((Value.int .i64 p.1 :: Value.int .i64 p.2 :: ecells l).set ((i + 1) * 2) _).set ((i + 1) * 2 + 1) _
      rw [ih, show (i + 1) * 2 = i * 2 + 1 + 1 by omega]
      rfl
section
variable {w : World} {base g cap : Nat} {l : List E2}
theorem EO.cut (h : EO w base (.slice (some ⟨g, 0, none⟩) l.length cap) l) (k : Nat) (hk : k ≤ l.length) : EO w base (.slice (some ⟨g, 0, none⟩) k cap) (l.take k) := by
  obtain ⟨h1, h2⟩ := h
  rcases h2 with ⟨h', _⟩ | ⟨g', cap', cur, h', hb, hg, hnc, hcm, hcs, htk⟩
  · simp at h'
  · injection h' with h3 _ h4
    injection h3 with h3
    injection h3 with h3
    subst h3 h4
    have e : (l.take k).length = k := by rw [List.length_take]; omega
    refine ⟨by rw [ecells_length, e], .inr ⟨g, cap, cur, by rw [e], hb, hg, by rw [e]; omega, hcm, hcs, ?_⟩⟩
    rw [e, ← ecells_take, ← htk, List.take_take]
    congr 1
    omega
theorem EO.set (h : EO w base (.slice (some ⟨g, 0, none⟩) l.length cap) l) (i : Nat) (x : E2) :
    EO ((w.setCell ⟨g, i * 2, none⟩ (.int .i64 x.1)).setCell ⟨g, i * 2 + 1, none⟩ (.int .i64 x.2)) base (.slice (some ⟨g, 0, none⟩) l.length cap) (l.set i x) ∧ w.grownBy ((w.setCell ⟨g, i * 2, none⟩ (.int .i64 x.1)).setCell ⟨g, i * 2 + 1, none⟩ (.int .i64 x.2)) (some g) := by
  obtain ⟨h1, g1⟩ := World.ownsRow.stored h (i * 2) (.int .i64 x.1)
  obtain ⟨h2, g2⟩ := World.ownsRow.stored h1 (i * 2 + 1) (.int .i64 x.2)
  refine ⟨?_, g1.trans g2⟩
  unfold EO
  rw [ecells_set, List.length_set]
  exact h2
theorem EO.wiped : ∀ (vs : List Value) (w : World) (xs : List Value) (n off : Nat), w.ownsRow base 68 2 (.slice (some ⟨g, 0, none⟩) n cap) n xs →
    ∃ xs', (w.setCells g off vs).ownsRow base 68 2 (.slice (some ⟨g, 0, none⟩) n cap) n xs' ∧ xs'.take off = xs.take off ∧ w.grownBy (w.setCells g off vs) (some g)
  | [], w, xs, n, off, h => ⟨xs, h, rfl, World.grownBy.refl w _⟩
  | v :: vs, w, xs, n, off, h => by
    obtain ⟨h1, g1⟩ := World.ownsRow.stored h off v
    obtain ⟨xs', h2, e2, g2⟩ := EO.wiped vs _ _ n (off + 1) h1
    refine ⟨xs', h2, ?_, g1.trans g2⟩
    have : (xs'.take (off + 1)).take off = ((xs.set off v).take (off + 1)).take off := by rw [e2]
    rw [List.take_take, List.take_take, Nat.min_eq_left (by omega)] at this
    rw [this]
    apply List.ext_getElem?
    intro j
    simp only [List.getElem?_take]
    by_cases hj : j < off
    · rw [if_pos hj, if_pos hj, List.getElem?_set_ne (by omega)]
    · rw [if_neg hj, if_neg hj]
theorem ecells_inj : ∀ {a b : List E2}, ecells a = ecells b → a = b
  | [], [], _ => rfl
  | [], y :: ys, h => by simp [ecells, enc] at h
  | x :: xs, [], h => by simp [ecells, enc] at h
  | (x, x') :: xs, (y, y') :: ys, h => by
    have h : Value.int .i64 x :: Value.int .i64 x' :: ecells xs = Value.int .i64 y :: Value.int .i64 y' :: ecells ys := h
    injection h with h1 h
    injection h with h2 h
    injection h1 with _ h1
    injection h2 with _ h2
    rw [h1, h2, ecells_inj h]
/-- what is behind a place is wiped, the rest stays -/
theorem EO.wipe (h : EO w base (.slice (some ⟨g, 0, none⟩) l.length cap) l) (k : Nat) (hk : k ≤ l.length) (vs : List Value) :
    EO (w.setCells g (k * 2) vs) base (.slice (some ⟨g, 0, none⟩) k cap) (l.take k) ∧ w.grownBy (w.setCells g (k * 2) vs) (some g) := by
  obtain ⟨xs', h2, e2, g2⟩ := EO.wiped vs w (ecells l) l.length (k * 2) h
  refine ⟨?_, g2⟩
  obtain ⟨h1, h2⟩ := h2
  rcases h2 with ⟨h', _⟩ | ⟨g', cap', cur, h', hb, hg, hnc, hcm, hcs, htk⟩
  · simp at h'
  · injection h' with h3 _ h4
    injection h3 with h3
    injection h3 with h3
    subst h3 h4
    have e : (l.take k).length = k := by rw [List.length_take]; omega
    refine ⟨by rw [ecells_length, e], .inr ⟨g, cap, cur, by rw [e], hb, hg, by rw [e]; omega, hcm, hcs, ?_⟩⟩
    rw [e, ← ecells_take, ← e2, ← htk, List.take_take]
    congr 1
    omega
end
theorem flatK_toList (d : Array E2) : (flatK enc 2 d).toList = ecells d.toList := by
  apply List.ext_getElem
  · rw [ecells_length, Array.length_toList, size_flatK, Array.length_toList]
  · intro t h1 h2
    have ht : t < d.size * 2 := by rwa [Array.length_toList, size_flatK] at h1
    obtain ⟨i, hi⟩ : ∃ i, t = i * 2 ∨ t = i * 2 + 1 := ⟨t / 2, by omega⟩
    have hid : i < d.size := by omega
    have hg := ecells_get d.toList i (by simpa using hid)
    have e0 : (flatK enc 2 d).toList[t] = (enc d[t / 2]!)[t % 2]! := by
      rw [← get_flatK enc 2 d t ht, Array.getElem_toList, getElem!_pos]
    have e1 : d[i]! = d.toList.getD i (0, 0) := by
      rw [getElem!_pos d i hid]
      simp [List.getD_eq_getElem?_getD, hid]
    rw [e0]
    rcases hi with rfl | rfl
    · rw [show i * 2 / 2 = i by omega, show i * 2 % 2 = 0 by omega, e1]
      have := hg.1
      rw [List.getElem?_eq_getElem h2] at this
      injection this with this
      rw [this]; rfl
    · rw [show (i * 2 + 1) / 2 = i by omega, show (i * 2 + 1) % 2 = 1 by omega, e1]
      have := hg.2
      rw [List.getElem?_eq_getElem h2] at this
      injection this with this
      rw [this]; rfl
theorem EO.holds {w : World} {base g cap : Nat} {l : List E2} (h : EO w base (.slice (some ⟨g, 0, none⟩) l.length cap) l) : HoldsK enc 2 w g 0 l.toArray := by
  intro j hj
  have hj2 : j < l.length * 2 := by simpa using hj
  have h1 := World.ownsRow.cellAt h j hj2
  have h2 := World.ownsRow.frozenAt h j
  rw [Nat.zero_add]
  refine ⟨?_, h2⟩
  rw [h1, ← show (flatK enc 2 l.toArray).toList = ecells l by rw [flatK_toList], Array.getElem?_toList, getElem!_pos _ j hj, Array.getElem?_eq_getElem hj]
  rfl
theorem EO.sorted {w : World} {base g cap : Nat} {l : List E2} (h : EO w base (.slice (some ⟨g, 0, none⟩) l.length cap) l) (n : Nat) (d : Array E2) (os : Array Obj) (hd : d.size = l.length) :
    EO (sortWorldK enc 2 w g 0 n d os) base (.slice (some ⟨g, 0, none⟩) d.toList.length cap) d.toList ∧ w.grownBy (sortWorldK enc 2 w g 0 n d os) (some g) := by
  obtain ⟨h1, h2⟩ := h
  rcases h2 with ⟨h', _⟩ | ⟨g', cap', cur, h', hb, hg, hnc, hcm, hcs, htk⟩
  · simp at h'
  · injection h' with h3 _ h4
    injection h3 with h3
    injection h3 with h3
    subst h3 h4
    have hgl := (Array.getElem?_eq_some_iff.1 hg).1
    have hheap : (sortWorldK enc 2 w g 0 n d os).heap = w.heap.modify g (onCells (putCells id 0 (flatK enc 2 d))) ++ os := rfl
    have hget : (sortWorldK enc 2 w g 0 n d os).heap[g]? = some (.cells (putCells id 0 (flatK enc 2 d) cur) 68 (0, 0)) := by
      rw [hheap, Array.getElem?_append, if_pos (by simpa using hgl), Array.getElem?_modify, if_pos rfl, hg]
      rfl
    have hdl : d.toList.length = l.length := by rw [Array.length_toList, hd]
    have hsz : cur.size = cap * 2 := hcs
    refine ⟨⟨ecells_length _, .inr ⟨g, cap, _, rfl, hb, hget, by rw [hdl]; exact hnc, hcm, by simpa [putCells] using hcs, ?_⟩⟩, ⟨rfl, rfl, rfl, ?_, ?_⟩⟩
    · rw [← flatK_toList]
      apply List.ext_getElem?
      intro j
      rw [List.getElem?_take]
      by_cases hj : j < d.toList.length * 2
      · have hj2 : j < (flatK enc 2 d).size := by rw [size_flatK]; simpa using hj
        have hjc : j < cur.size := by omega
        rw [if_pos hj, Array.getElem?_toList, Array.getElem?_toList, putCells, Array.getElem?_mapIdx, Array.getElem?_eq_getElem hjc, Option.map_some, if_pos ⟨by omega, by omega⟩, Nat.sub_zero, getElem!_pos _ j hj2, Array.getElem?_eq_getElem hj2]
        rfl
      · rw [if_neg hj, List.getElem?_eq_none]
        rw [Array.length_toList, size_flatK]
        rw [Array.length_toList] at hj
        omega
    · rw [hheap, Array.size_append, Array.size_modify]; omega
    · intro k hk hne
      rw [hheap, Array.getElem?_append, if_pos (by simpa using hk), Array.getElem?_modify, if_neg (fun e => hne (by rw [e]))]
end Go.Proofs.YtjokfllldcjheaaGreatDoor.Ed
