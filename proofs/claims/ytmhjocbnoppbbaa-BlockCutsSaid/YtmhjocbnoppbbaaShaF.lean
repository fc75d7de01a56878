/- SHA-256: the state in memory; sha.k, sha.New, Len. -/
import Derived.Test.YtmhjocbnoppbbaaShaE
namespace Go.Proofs.Ytmhjocbnoppbbaa.Sha
open Go.RowKit
set_option linter.unusedVariables false
set_option linter.unusedSimpArgs false

/-- the words of the rounds, and of the first state -/
def K64 : List Nat := [1116352408, 1899447441, 3049323471, 3921009573, 961987163, 1508970993, 2453635748, 2870763221,
  3624381080, 310598401, 607225278, 1426881987, 1925078388, 2162078206, 2614888103, 3248222580,
  3835390401, 4022224774, 264347078, 604807628, 770255983, 1249150122, 1555081692, 1996064986,
  2554220882, 2821834349, 2952996808, 3210313671, 3336571891, 3584528711, 113926993, 338241895,
  666307205, 773529912, 1294757372, 1396182291, 1695183700, 1986661051, 2177026350, 2456956037,
  2730485921, 2820302411, 3259730800, 3345764771, 3516065817, 3600352804, 4094571909, 275423344,
  430227734, 506948616, 659060556, 883997877, 958139571, 1322822218, 1537002063, 1747873779,
  1955562222, 2024104815, 2227730452, 2361852424, 2428436474, 2756734187, 3204031479, 3329325298]
def H8 : List Nat := [1779033703, 3144134277, 1013904242, 2773480762, 1359893119, 2600822924, 528734635, 1541459225]
theorem K64_length : K64.length = 64 := by decide
theorem K64_words : Words K64 := by unfold Words; decide
theorem H8_words : Words H8 := by unfold Words; decide

/-- v is nil and has no bytes, or it has just the bytes of block rb -/
def RestAt (w : World) (sb rb : Nat) (v : Value) (rest : List UInt8) : Prop :=
  (v = .slice none 0 0 ∧ rest = []) ∨ (v = .slice (some ⟨rb, 0, none⟩) rest.length rest.length ∧ w.heap[rb]? = some (.cells (bcells rest).toArray 5 (0, 0)) ∧ rb ≠ sb)
/-- a state's cells -/
def stCells (c : List Nat) (kb : Nat) (v : Value) (m : Nat) : List Value := c.map wv ++ [.pointer (some ⟨kb, 0, none⟩), v, .int .i64 (m : Int)]
/-- block sb is a state -/
structure St (w : World) (sb kb rb : Nat) (v : Value) (c : List Nat) (rest : List UInt8) (m : Nat) : Prop where
  len : c.length = 8
  words : Words c
  blk : w.heap[sb]? = some (.cells (stCells c kb v m).toArray 66 (0, 0))
  tab : Arr w kb 87 K64
  row : RestAt w sb rb v rest
  ne : kb ≠ sb

theorem RestAt.other {w w' : World} {sb rb : Nat} {v : Value} {rest : List UInt8} (h : RestAt w sb rb v rest) (hb : rb < w.heap.size → w'.heap[rb]? = w.heap[rb]?) : RestAt w' sb rb v rest := by
  rcases h with h | ⟨h1, h2, h3⟩
  · exact .inl h
  · exact .inr ⟨h1, by rw [hb (Array.getElem?_eq_some_iff.1 h2).1]; exact h2, h3⟩
theorem RestAt.reads {w : World} {sb rb : Nat} {v : Value} {rest : List UInt8} (h : RestAt w sb rb v rest) (hl : rest.length ≤ 9223372036854775807) : RB w rb v rest := by
  rcases h with ⟨rfl, rfl⟩ | ⟨rfl, h2, _⟩
  · exact ⟨none, 0, 0, rfl, by simp, by simp, fun h => by simp at h⟩
  · refine ⟨_, _, 0, rfl, Nat.le_refl _, hl, fun _ => ⟨rfl, (Array.getElem?_eq_some_iff.1 h2).1, fun i hi => ?_⟩⟩
    rw [cell_of_row w rb (0 + i) _ 5 (0, 0) h2]
    simpa using bcells_get rest i hi
theorem St.lt {w : World} {sb kb rb : Nat} {v : Value} {c : List Nat} {rest : List UInt8} {m : Nat} (h : St w sb kb rb v c rest m) : sb < w.heap.size := (Array.getElem?_eq_some_iff.1 h.blk).1
/-- what turns neither the state, nor its table, nor its rest, keeps it -/
theorem St.other {w w' : World} {sb kb rb : Nat} {v : Value} {c : List Nat} {rest : List UInt8} {m : Nat} (h : St w sb kb rb v c rest m) (h1 : w'.heap[sb]? = w.heap[sb]?) (h2 : w'.heap[kb]? = w.heap[kb]?) (h3 : rb < w.heap.size → w'.heap[rb]? = w.heap[rb]?) : St w' sb kb rb v c rest m :=
  ⟨h.len, h.words, by rw [h1]; exact h.blk, h.tab.other h2, h.row.other h3, h.ne⟩
theorem St.later {w w' : World} {sb kb rb : Nat} {v : Value} {c : List Nat} {rest : List UInt8} {m : Nat} (h : St w sb kb rb v c rest m) (hb : Below w.heap.size w w') : St w' sb kb rb v c rest m :=
  h.other (hb.block sb h.lt) (hb.block kb h.tab.lt) (fun hr => hb.block rb hr)
theorem St.cell {w : World} {sb kb rb : Nat} {v : Value} {c : List Nat} {rest : List UInt8} {m : Nat} (h : St w sb kb rb v c rest m) (i : Nat) (u : Value) (hu : (stCells c kb v m)[i]? = some u) : w.cell? ⟨sb, i, none⟩ = some u := by
  rw [cell_of_row w sb i _ 66 (0, 0) h.blk]
  simpa using hu
theorem St.frozen {w : World} {sb kb rb : Nat} {v : Value} {c : List Nat} {rest : List UInt8} {m : Nat} (h : St w sb kb rb v c rest m) (i : Nat) : w.frozen? ⟨sb, i, none⟩ = false := by
  simp [World.frozen?, h.blk]

set_option maxHeartbeats 8000000 in
set_option maxRecDepth 100000 in
theorem k_calls (w : World) :
    Calls Try.prog 40 #[] w fun e w' => e = .returned (.pointer (some ⟨w.heap.size, 0, none⟩)) ∧ w' = w.alloc (.cells (K64.map wv).toArray 87) := by
  go_enter Try.func40, Try.ntmps40
  go_wp2
  go_ret
  exact ⟨rfl, rfl⟩

set_option maxRecDepth 100000 in
theorem new_calls (w : World) :
    Calls Try.prog 18 #[] w fun e w' => e = .returned (.pointer (some ⟨w.heap.size + 1, 0, none⟩)) ∧ St w' (w.heap.size + 1) w.heap.size 0 (.slice none 0 0) H8 [] 0 ∧ Below w.heap.size w w' := by
  go_enter Try.func18, Try.ntmps18
  go_wp2_with (go_at_call 40; refine (k_calls w).mono ?_; rintro e w' ⟨rfl, rfl⟩)
  go_ret
  refine ⟨rfl, ⟨rfl, H8_words, ?_, ?_, .inl ⟨rfl, rfl⟩, by omega⟩, ((Below.refl _ _).alloc (Nat.le_refl _) _).alloc (by simp) _⟩
  · have := heap_alloc_new (w.alloc (.cells (K64.map wv).toArray 87)) (.cells (stCells H8 w.heap.size (.slice none 0 0) 0).toArray 66)
    rw [show (w.alloc (.cells (K64.map wv).toArray 87)).heap.size = w.heap.size + 1 by simp] at this
    exact this
  · exact Arr.alloc (heap_alloc_new w _) _

set_option maxRecDepth 100000 in
theorem len_calls {w : World} {sb kb rb : Nat} {v : Value} {c : List Nat} {rest : List UInt8} {m : Nat} (h : St w sb kb rb v c rest m) :
    Calls Try.prog 22 #[.pointer (some ⟨sb, 0, none⟩)] w fun e w' => e = .returned (.int .i64 (m : Int)) ∧ w = w' := by
  have c10 := h.cell 10 (.int .i64 (m : Int)) (by rw [stCells, List.getElem?_append_right (by simp [h.len])]; simp [h.len])
  clear h
  go_enter Try.func22, Try.ntmps22
  go_wp2
  go_ret
  exact ⟨rfl, rfl⟩
theorem len_nil_calls (w : World) :
    Calls Try.prog 22 #[.pointer none] w fun e w' => e = .returned (.int .i64 0) ∧ w = w' := by
  go_enter Try.func22, Try.ntmps22
  go_wp2
  go_ret
  exact ⟨rfl, rfl⟩
end Go.Proofs.Ytmhjocbnoppbbaa.Sha
