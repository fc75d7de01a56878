/- Arrays of words of 32 bits in memory: read, stored into, loaded and stored as a whole. -/
import Derived.WalkKit
import Derived.Deep.Draws
namespace Go.Proofs.Ytmhjocbnoppbbaa.Sha
open Go.RowKit
set_option linter.unusedVariables false
set_option linter.unusedSimpArgs false

/-- a callee that leaves the world as it was, in a region that draws -/
theorem quiet_left {P : Program} {f : FuncId} {args : Array Value} {w : World} {n : Nat} {v : Value}
    (h : Calls P f args (w.drewN n) fun e w' => e = .returned v ∧ w.drewN n = w') : Calls P f args (w.drewN n) fun e w'' => e = .returned v ∧ ∃ m, w'' = w.drewN m :=
  h.mono fun _ _ ⟨he, hm⟩ => ⟨he, n, hm.symm⟩
theorem quiet_add_left {P : Program} {f : FuncId} {args : Array Value} {w : World} {a n : Nat} {v : Value}
    (h : Calls P f args (w.drewN (a + n)) fun e w' => e = .returned v ∧ w.drewN (a + n) = w') :
    Calls P f args (w.drewN (a + n)) fun e w'' => e = .returned v ∧ ∃ m, w'' = w.drewN (a + m) :=
  h.mono fun _ _ ⟨he, hm⟩ => ⟨he, n, hm.symm⟩

/-- a word as a value -/
def wv (x : Nat) : Value := .int .u32 (x : Int)
/-- block b is an array that holds the words ws -/
def Arr (w : World) (b : Nat) (t : TypeId) (ws : List Nat) : Prop := w.heap[b]? = some (.cells (ws.map wv).toArray t (0, 0))
theorem Arr.cell {w : World} {b : Nat} {t : TypeId} {ws : List Nat} (h : Arr w b t ws) (i : Nat) (hi : i < ws.length) : w.cell? ⟨b, i, none⟩ = some (.int .u32 ((ws.getD i 0 : Nat) : Int)) := by
  unfold Arr at h
  rw [cell_of_row w b i _ t (0, 0) h]
  simp [wv, hi]
theorem Arr.frozen {w : World} {b : Nat} {t : TypeId} {ws : List Nat} (h : Arr w b t ws) (i : Nat) : w.frozen? ⟨b, i, none⟩ = false := by
  unfold Arr at h
  simp [World.frozen?, h]
theorem Arr.set {w : World} {b : Nat} {t : TypeId} {ws : List Nat} (h : Arr w b t ws) (i x : Nat) : Arr (w.setCell ⟨b, i, none⟩ (.int .u32 (x : Int))) b t (ws.set i x) := by
  unfold Arr at h ⊢
  have : (ws.set i x).map wv = (ws.map wv).set i (wv x) := by rw [List.map_set]
  rw [this]
  simp [World.setCell, Array.getElem?_modify, h, wv]
theorem Arr.other {w w' : World} {b : Nat} {t : TypeId} {ws : List Nat} (h : Arr w b t ws) (hb : w'.heap[b]? = w.heap[b]?) : Arr w' b t ws := by
  unfold Arr at h ⊢
  rw [hb]; exact h
theorem Arr.set_other {w : World} {b : Nat} {t : TypeId} {ws : List Nat} (h : Arr w b t ws) (p : Addr) (v : Value) (hp : b ≠ p.block) : Arr (w.setCell p v) b t ws :=
  h.other (Below.heap_setCell w p v b hp)
theorem Arr.drew {w : World} {b : Nat} {t : TypeId} {ws : List Nat} (h : Arr w b t ws) : Arr w.drew b t ws := h
theorem Arr.drewN {w : World} {b : Nat} {t : TypeId} {ws : List Nat} (h : Arr w b t ws) (n : Nat) : Arr (w.drewN n) b t ws := h
theorem Arr.lt {w : World} {b : Nat} {t : TypeId} {ws : List Nat} (h : Arr w b t ws) : b < w.heap.size := (Array.getElem?_eq_some_iff.1 h).1
theorem Arr.alloc {w : World} {b : Nat} {t : TypeId} {ws : List Nat} (h : Arr w b t ws) (o : Obj) : Arr (w.alloc o) b t ws := h.other (Below.heap_alloc w o b h.lt)


theorem Arr.setRow {w : World} {b : Nat} {t : TypeId} {ws : List Nat} (h : Arr w b t ws) (ws' : List Nat) : Arr (w.setRow b (ws'.map wv).toArray) b t ws' := by
  unfold Arr at h ⊢
  exact setRow_heap w b _ _ t _ h
theorem heap_setRow_ne (w : World) (g : Nat) (cs : Array Value) (k : Nat) (h : k ≠ g) : (w.setRow g cs).heap[k]? = w.heap[k]? := by
  simp [World.setRow, Array.getElem?_modify, Ne.symm h]
theorem Arr.setRow_other {w : World} {b : Nat} {t : TypeId} {ws : List Nat} (h : Arr w b t ws) (g : Nat) (cs : Array Value) (hg : b ≠ g) : Arr (w.setRow g cs) b t ws :=
  h.other (heap_setRow_ne w g cs b hg)
theorem below_setRow {B : Nat} {w0 w : World} (h : Below B w0 w) (g : Nat) (hg : B ≤ g) (cs : Array Value) : Below B w0 (w.setRow g cs) :=
  h.trans ⟨rfl, rfl, rfl, by simp, fun k hk => heap_setRow_ne w g cs k (by omega)⟩
theorem wv_one (ws : List Nat) : (ws.map wv).toArray.all (·.oneCell') = true := by simp [wv, Value.oneCell']

section
variable {P : Program} {ops : Array Oper} {rest : List Oper} {o : Oper} {a : Act} {w : World} {Q : Exit → Act → World → Prop}
theorem Arr.load_step {b : Nat} {t : TypeId} {ws : List Nat} (h : Arr w b t ws) (hgd : o.guard = none) (ty n e : TypeId) (x : Operand) (ho : o.op = .load ty x) (hx : a.eval x = .pointer (some ⟨b, 0, none⟩))
    (hu : P.underlying ty = some (.array n e)) (hi : (P.info? ty).map (·.size) = some n) (hl : ws.length = n)
    (k : wpList P ops Q rest (a.put o.dst (.agg (ws.map wv).toArray)) w) : wpList P ops Q (o :: rest) a w :=
  wpList_load_row hgd ty x ho b hx t _ (0, 0) _ h hu rfl (by rw [hi]; simp [hl]) k
theorem Arr.store_step {b : Nat} {t : TypeId} {ws ws' : List Nat} (h : Arr w b t ws) (hgd : o.guard = none) (ty n : TypeId) (x y : Operand) (ho : o.op = .store ty x y) (hx : a.eval x = .pointer (some ⟨b, 0, none⟩))
    (hy : a.eval y = .agg (ws'.map wv).toArray) (hi : (P.info? ty).map (·.size) = some n) (hl : ws.length = n) (hl' : ws'.length = n)
    (k : wpList P ops Q rest (a.put o.dst undef) (w.setRow b (ws'.map wv).toArray)) : wpList P ops Q (o :: rest) a w :=
  wpList_store_row hgd ty x y ho b _ hx hy t _ h (by rw [hi]; simp [hl']) (by simp [hl, hl']) (wv_one ws') k
theorem Arr.result {b : Nat} {t : TypeId} {ws : List Nat} (h : Arr w b t ws) {fn : Func} {p : Tmp} {ty n e : TypeId} (hr : fn.results = #[.cell p ty]) (tmps : Array Value) (hp : tmps.getD p undef = .pointer (some ⟨b, 0, none⟩))
    (hu : P.underlying ty = some (.array n e)) (hi : (P.info? ty).map (·.size) = some n) (hl : ws.length = n) : (results fn tmps).run P w = .ok (.agg (ws.map wv).toArray) w :=
  results_cell_row hr tmps w b t _ (0, 0) _ hp h hu rfl (by rw [hi]; simp [hl])
theorem grown_setRow (w : World) (b : Nat) (cs : Array Value) : w.grownBy (w.setRow b cs) (some b) :=
  ⟨rfl, rfl, rfl, by simp, fun k _ hk => heap_setRow_ne w b cs k (fun e => hk (by rw [e]))⟩
theorem grown_setCell (w : World) (p : Addr) (v : Value) : w.grownBy (w.setCell p v) (some p.block) :=
  ⟨rfl, rfl, rfl, by simp, fun k _ hk => Below.heap_setCell w p v k (fun e => hk (by rw [e]))⟩
theorem Arr.kept {w w' : World} {b : Nat} {t : TypeId} {ws : List Nat} {row : Option Nat} (h : Arr w b t ws) (hg : w.grownBy w' row) (hr : some b ≠ row) : Arr w' b t ws := h.other (hg.block b h.lt hr)
theorem Arr.below {B : Nat} {w w' : World} {b : Nat} {t : TypeId} {ws : List Nat} (h : Arr w b t ws) (hb : Below B w w') (hB : b < B) : Arr w' b t ws := h.other (hb.block b hB)
theorem Arr.store_on {b : Nat} {t : TypeId} {ws ws' : List Nat} (h : Arr w b t ws) (hgd : o.guard = none) (ty n : TypeId) (x y : Operand) (ho : o.op = .store ty x y) (hx : a.eval x = .pointer (some ⟨b, 0, none⟩))
    (hy : a.eval y = .agg (ws'.map wv).toArray) (hi : (P.info? ty).map (·.size) = some n) (hl : ws.length = n) (hl' : ws'.length = n)
    (k : ∀ w2, Arr w2 b t ws' → w.grownBy w2 (some b) → w2.heap.size = w.heap.size → wpList P ops Q rest (a.put o.dst undef) w2) : wpList P ops Q (o :: rest) a w :=
  h.store_step hgd ty n x y ho hx hy hi hl hl' (k _ (h.setRow ws') (grown_setRow w b _) (by simp))
theorem Arr.result2 {b : Nat} {t : TypeId} {ws : List Nat} (h : Arr w b t ws) {fn : Func} {p q : Tmp} {ty n e : TypeId} (hr : fn.results = #[.cell p ty, .tmp q]) (tmps : Array Value) (hp : tmps.getD p undef = .pointer (some ⟨b, 0, none⟩))
    (hu : P.underlying ty = some (.array n e)) (hi : (P.info? ty).map (·.size) = some n) (hl : ws.length = n) : (results fn tmps).run P w = .ok (.tuple #[.agg (ws.map wv).toArray, tmps.getD q undef]) w := by
  have hp' : tmps[p]?.getD undef = .pointer (some ⟨b, 0, none⟩) := by simpa using hp
  simp [results, hr, hp', asAddr, run_loadVar_row w b t ty _ (0, 0) _ h hu rfl (by rw [hi]; simp [hl])]
end
end Go.Proofs.Ytmhjocbnoppbbaa.Sha
