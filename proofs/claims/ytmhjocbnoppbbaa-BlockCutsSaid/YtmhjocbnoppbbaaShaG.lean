/- SHA-256: the method Write of sha.State writes texts. -/
import Derived.Test.YtmhjocbnoppbbaaShaF
import Derived.Laws.CopyOwn
namespace Go.Proofs.Ytmhjocbnoppbbaa.Sha
open Go.RowKit
set_option linter.unusedVariables false
set_option linter.unusedSimpArgs false

/-! ### plain facts on pieces -/
theorem word4_congr {xs ys : List UInt8} (h : ∀ i, i < 64 → byt xs i = byt ys i) (i : Nat) (hi : i < 16) : word4 xs i = word4 ys i := by
  unfold word4
  rw [h _ (by omega), h _ (by omega), h _ (by omega), h _ (by omega)]
theorem sched_congr {xs ys : List UInt8} (h : ∀ i, i < 64 → byt xs i = byt ys i) (n : Nat) : sched xs n = sched ys n := by
  induction n with
  | zero =>
    simp only [sched]
    exact List.map_congr_left fun i hi => word4_congr h i (List.mem_range.1 hi)
  | succ n ih => simp only [sched, ih]
theorem takeW_congr (c ks : List Nat) {xs ys : List UInt8} (h : ∀ i, i < 64 → byt xs i = byt ys i) : takeW c ks xs = takeW c ks ys := by
  unfold takeW
  rw [sched_congr h]
theorem byt_append (xs ys : List UInt8) (i : Nat) (h : i < xs.length) : byt (xs ++ ys) i = byt xs i := by
  simp [byt, List.getD_eq_getElem?_getD, List.getElem?_append_left h]
theorem piecesW_append (c ks : List Nat) (xs ys : List UInt8) (n : Nat) (h : 64 * n ≤ xs.length) : piecesW c ks (xs ++ ys) n = piecesW c ks xs n := by
  induction n with
  | zero => rfl
  | succ n ih =>
    simp only [piecesW]
    rw [ih (by omega)]
    exact takeW_congr _ _ fun i hi => by rw [byt_drop, byt_drop, byt_append _ _ _ (by omega)]
theorem piecesW_add (c ks : List Nat) (xs : List UInt8) (a b : Nat) : piecesW c ks xs (a + b) = piecesW (piecesW c ks xs a) ks (xs.drop (64 * a)) b := by
  induction b with
  | zero => rfl
  | succ b ih =>
    rw [← Nat.add_assoc]
    simp only [piecesW]
    rw [ih, List.drop_drop, Nat.mul_add]
/-- the state behind a text, and what is left of it -/
def cW (txt : List UInt8) : List Nat := piecesW H8 K64 txt (txt.length / 64)
def restW (txt : List UInt8) : List UInt8 := txt.drop (64 * (txt.length / 64))
theorem restW_length (txt : List UInt8) : (restW txt).length = txt.length % 64 := by
  unfold restW; rw [List.length_drop]; omega
theorem cW_words (txt : List UInt8) : Words (cW txt) := piecesW_words H8_words _ _ _
theorem cW_length (txt : List UInt8) : (cW txt).length = 8 := piecesW_length rfl _ _ _
theorem cW_append (txt t : List UInt8) : cW (txt ++ t) = piecesW (cW txt) K64 (restW txt ++ t) ((restW txt ++ t).length / 64) := by
  have e : restW txt ++ t = (txt ++ t).drop (64 * (txt.length / 64)) := by
    unfold restW
    rw [List.drop_append_of_le_length (by omega)]
  have e1 : cW txt = piecesW H8 K64 (txt ++ t) (txt.length / 64) := by
    unfold cW
    rw [piecesW_append _ _ _ _ _ (by omega)]
  have e2 : (txt ++ t).length / 64 = txt.length / 64 + (restW txt ++ t).length / 64 := by
    rw [List.length_append, List.length_append, restW_length]; omega
  rw [e1, e, ← piecesW_add, ← e, ← e2]
  rfl
theorem restW_append (txt t : List UInt8) : restW (txt ++ t) = (restW txt ++ t).drop (64 * ((restW txt ++ t).length / 64)) := by
  have e : restW txt ++ t = (txt ++ t).drop (64 * (txt.length / 64)) := by
    unfold restW
    rw [List.drop_append_of_le_length (by omega)]
  have e2 : (txt ++ t).length / 64 = txt.length / 64 + (restW txt ++ t).length / 64 := by
    rw [List.length_append, List.length_append, restW_length]; omega
  rw [e, List.drop_drop]
  unfold restW
  rw [e2, Nat.mul_add, ← e]

/-! ### what a store into a state does -/
theorem block_setCell {w : World} {b i : Nat} {cs : List Value} {t : TypeId} {v : Value} (h : w.heap[b]? = some (.cells cs.toArray t (0, 0))) : (w.setCell ⟨b, i, none⟩ v).heap[b]? = some (.cells (cs.set i v).toArray t (0, 0)) := by
  simp [World.setCell, Array.getElem?_modify, h]
theorem St.setM {w : World} {sb kb rb : Nat} {v : Value} {c : List Nat} {rest : List UInt8} {m : Nat} (h : St w sb kb rb v c rest m) (hr : rb ≠ sb ∨ v = .slice none 0 0) (m' : Nat) : St (w.setCell ⟨sb, 10, none⟩ (.int .i64 (m' : Int))) sb kb rb v c rest m' := by
  refine ⟨h.len, h.words, ?_, h.tab.set_other _ _ h.ne, ?_, h.ne⟩
  · rw [block_setCell h.blk]
    have e : (stCells c kb v m).set 10 (.int .i64 (m' : Int)) = stCells c kb v m' := by
      unfold stCells
      rw [List.set_append_right _ _ (by simp [h.len])]
      simp [h.len]
    rw [e]
  · rcases h.row with hn | ⟨h1, h2, h3⟩
    · exact .inl hn
    · exact .inr ⟨h1, by rw [Below.heap_setCell w _ _ rb h3]; exact h2, h3⟩
theorem St.ne_row {w : World} {sb kb rb : Nat} {v : Value} {c : List Nat} {rest : List UInt8} {m : Nat} (h : St w sb kb rb v c rest m) : rb ≠ sb ∨ v = .slice none 0 0 := by
  rcases h.row with ⟨h1, _⟩ | ⟨_, _, h3⟩
  · exact .inr h1
  · exact .inl h3

/-- the cells of a state, as the walk asks them -/
def S10 (w : World) (sb kb : Nat) (v : Value) (a0 a1 a2 a3 a4 a5 a6 a7 : Nat) : Prop :=
  w.cell? ⟨sb, 0, none⟩ = some (.int .u32 (a0 : Int)) ∧ w.cell? ⟨sb, 1, none⟩ = some (.int .u32 (a1 : Int)) ∧ w.cell? ⟨sb, 2, none⟩ = some (.int .u32 (a2 : Int)) ∧ w.cell? ⟨sb, 3, none⟩ = some (.int .u32 (a3 : Int)) ∧ w.cell? ⟨sb, 4, none⟩ = some (.int .u32 (a4 : Int)) ∧ w.cell? ⟨sb, 5, none⟩ = some (.int .u32 (a5 : Int)) ∧ w.cell? ⟨sb, 6, none⟩ = some (.int .u32 (a6 : Int)) ∧ w.cell? ⟨sb, 7, none⟩ = some (.int .u32 (a7 : Int)) ∧ w.cell? ⟨sb, 8, none⟩ = some (.pointer (some ⟨kb, 0, none⟩)) ∧ w.cell? ⟨sb, 9, none⟩ = some v
theorem St.cells {w : World} {sb kb rb : Nat} {v : Value} {c : List Nat} {rest : List UInt8} {m : Nat} (h : St w sb kb rb v c rest m) {a0 a1 a2 a3 a4 a5 a6 a7 : Nat} (hce : c = [a0, a1, a2, a3, a4, a5, a6, a7]) : S10 w sb kb v a0 a1 a2 a3 a4 a5 a6 a7 :=
  ⟨h.cell 0 _ (by rw [hce]; rfl), h.cell 1 _ (by rw [hce]; rfl), h.cell 2 _ (by rw [hce]; rfl), h.cell 3 _ (by rw [hce]; rfl), h.cell 4 _ (by rw [hce]; rfl), h.cell 5 _ (by rw [hce]; rfl), h.cell 6 _ (by rw [hce]; rfl), h.cell 7 _ (by rw [hce]; rfl), h.cell 8 _ (by rw [hce]; rfl), h.cell 9 _ (by rw [hce]; rfl)⟩
theorem S10.later {w w' : World} {sb kb : Nat} {v : Value} {a0 a1 a2 a3 a4 a5 a6 a7 : Nat} (h : S10 w sb kb v a0 a1 a2 a3 a4 a5 a6 a7) (hb : w'.heap[sb]? = w.heap[sb]?) : S10 w' sb kb v a0 a1 a2 a3 a4 a5 a6 a7 := by
  have e : ∀ i, w'.cell? ⟨sb, i, none⟩ = w.cell? ⟨sb, i, none⟩ := fun i => World.cell?_of_block (a := ⟨sb, i, none⟩) hb
  unfold S10 at h ⊢
  simp only [e]
  exact h

/-- the call of all, its words written out -/
theorem all_calls8 (c : List Nat) (kb g : Nat) (v : Value) (bs : List UInt8) (w : World) {a0 a1 a2 a3 a4 a5 a6 a7 : Nat} (hce : c = [a0, a1, a2, a3, a4, a5, a6, a7]) (hcw : Words c) (hks : Arr w kb 87 K64) (hv : RB w g v bs) :
    Calls Try.prog 41 #[.agg #[.int .u32 (a0 : Int), .int .u32 (a1 : Int), .int .u32 (a2 : Int), .int .u32 (a3 : Int), .int .u32 (a4 : Int), .int .u32 (a5 : Int), .int .u32 (a6 : Int), .int .u32 (a7 : Int)], .pointer (some ⟨kb, 0, none⟩), v] w fun e w' => ∃ (b0 b1 b2 b3 b4 b5 b6 b7 : Nat) (v' : Value),
      e = .returned (.tuple #[.agg #[.int .u32 (b0 : Int), .int .u32 (b1 : Int), .int .u32 (b2 : Int), .int .u32 (b3 : Int), .int .u32 (b4 : Int), .int .u32 (b5 : Int), .int .u32 (b6 : Int), .int .u32 (b7 : Int)], v']) ∧ Hid (piecesW c K64 bs (bs.length / 64) = [b0, b1, b2, b3, b4, b5, b6, b7]) ∧ Hid (RB w' g v' (bs.drop (64 * (bs.length / 64)))) ∧ Hid (Below w.heap.size w w') := by
  have h := all_calls c K64 kb g v bs w (by rw [hce]; rfl) hcw hks K64_length K64_words hv
  have e : w8 c = .agg #[.int .u32 (a0 : Int), .int .u32 (a1 : Int), .int .u32 (a2 : Int), .int .u32 (a3 : Int), .int .u32 (a4 : Int), .int .u32 (a5 : Int), .int .u32 (a6 : Int), .int .u32 (a7 : Int)] := by rw [hce]; rfl
  rw [e] at h
  refine h.mono ?_
  rintro r w' ⟨v', rfl, h1, h2⟩
  obtain ⟨b0, b1, b2, b3, b4, b5, b6, b7, hb, -⟩ := eight (piecesW_length (by rw [hce]; rfl) K64 bs (bs.length / 64)) (piecesW_words hcw K64 bs (bs.length / 64))
  exact ⟨b0, b1, b2, b3, b4, b5, b6, b7, v', by rw [hb]; rfl, hb, h1, h2⟩

/-! ### append of a string onto a row that has just its bytes -/
theorem exact_append_gen {P : Program} (t u : TypeId) (ht : P.underlying t = some (.slice 5)) (hu : P.underlying u = some .string) (hinfo : (P.info? 5).map (fun i => (i.zero, i.size, i.bytes)) = some (some (.int .u8 0), 1, 1))
    {w : World} {sb rb : Nat} {v : Value} {rest : List UInt8} (h : RestAt w sb rb v rest) (s : ByteArray) (ty : TypeId) (hl : rest.length + s.size ≤ 140737488355328) :
    ∃ g v1 w1, (Builtin.append_ #[t, u] ty #[v, .string s]).run P w = .ok v1 w1 ∧ RB w1 g v1 (rest ++ s.data.toList) ∧ Below w.heap.size w w1 ∧ (rest ++ s.data.toList = [] ∨ (g = rb ∧ rest ≠ []) ∨ w.heap.size ≤ g) := by
  obtain ⟨i0, hi, hzz⟩ := Option.map_eq_some_iff.1 hinfo
  simp only [Prod.mk.injEq] at hzz
  obtain ⟨hz0, hz1, hz2⟩ := hzz
  have hsl : s.data.toList.length = s.size := by rw [Array.length_toList]; rfl
  rcases h with ⟨rfl, rfl⟩ | ⟨rfl, h2, h3⟩
  · obtain ⟨v1, w1, hr, k2, k3, k4⟩ := Lib.run_append_own_string (P := P) w w.heap.size t u ty 5 i0 ht hu hi hz0 hz1 hz2 (.slice none 0 0) 0 [] (World.ownsRow_nil w w.heap.size 5 1) s (by simp only [maxLen]; simp at hl; omega) (by simpa using hl) (Nat.le_refl _)
    have ho : OB w1 w.heap.size v1 s.data.toList := by
      unfold OB
      rw [hsl]
      simpa [strCells_eq] using k2
    obtain ⟨g, hg1, hg2⟩ := ho.reads
    by_cases h0 : s.data.toList = []
    · refine ⟨rb, v1, w1, hr, ?_, ⟨k3.os, k3.tape, k3.output, k3.size, fun i hi => k3.block i hi (by simp [Value.ownBlock])⟩, .inl (by rw [List.nil_append, h0])⟩
      rw [List.nil_append, h0]
      rw [h0] at hg1
      obtain ⟨A, c, o, hv, q1, q2, q3⟩ := hg1
      exact ⟨A, c, o, hv, q1, q2, fun h => by simp at h⟩
    · exact ⟨g, v1, w1, hr, by simpa using hg1, ⟨k3.os, k3.tape, k3.output, k3.size, fun i hi => k3.block i hi (by simp [Value.ownBlock])⟩, .inr (.inr (hg2 (List.length_pos_iff.2 h0)))⟩
  · by_cases h0 : s.size = 0
    · have he : s.data.toList = [] := List.eq_nil_of_length_eq_zero (by rw [hsl]; exact h0)
      have hr := Lib.run_append_room_string (P := P) w t u ty 5 i0 ht hu hi hz1 rb rest.length rest.length (bcells rest).toArray h2 s (by omega) (by simp [bcells_length, h0])
      have hw : w.setRow rb ((bcells rest).toArray.toList.take rest.length ++ Lib.strCells s ++ (bcells rest).toArray.toList.drop (rest.length + s.size)).toArray = w.setRow rb (bcells rest).toArray := by
        congr 2
        have l1 : (bcells rest).take rest.length = bcells rest := List.take_of_length_le (by rw [bcells_length]; exact Nat.le_refl _)
        have l2 : Lib.strCells s = [] := by rw [strCells_eq, he]; rfl
        have l3 : (bcells rest).drop (rest.length + s.size) = [] := List.drop_eq_nil_of_le (by rw [bcells_length]; omega)
        simp only [List.toList_toArray, l1, l2, l3, List.append_nil]
      rw [hw] at hr
      have hbl : (w.setRow rb (bcells rest).toArray).heap[rb]? = some (.cells (bcells rest).toArray 5 (0, 0)) := setRow_heap w rb _ _ _ _ h2
      refine ⟨rb, _, _, hr, ?_, ⟨rfl, rfl, rfl, by simp, fun k hk => ?_⟩, (by by_cases e : rest = []; exact .inl (by rw [e, he]; rfl); exact .inr (.inl ⟨rfl, e⟩))⟩
      · rw [he, List.append_nil, h0, Nat.add_zero]
        exact RestAt.reads (sb := sb) (.inr ⟨rfl, hbl, h3⟩) (by omega)
      · by_cases e : k = rb
        · subst e
          rw [hbl, h2]
        · exact heap_setRow_ne w rb _ k e
    · have hr := Lib.run_append_grow_string (P := P) w t u ty 5 i0 (.int .u8 0) ht hu hi hz0 ⟨rb, 0, none⟩ rest.length rest.length (bcells rest) (by rw [hz1, bcells_length, Nat.mul_one]) (fun j v hv => by
        rw [show (⟨rb, 0, none⟩ : Addr).add j = ⟨rb, j, none⟩ by unfold Addr.add; split <;> simp_all, cell_of_row w rb j _ 5 (0, 0) h2]
        simpa using hv) s (by omega) (by omega) (by rw [hz2]; exact growslice_fits (by omega) (by omega))
      refine ⟨w.heap.size, _, _, hr, ?_, (Below.refl _ _).drew.alloc (Nat.le_refl _) _, .inr (.inr (Nat.le_refl _))⟩
      have hlen : (rest ++ s.data.toList).length = rest.length + s.size := by rw [List.length_append, hsl]
      have hc := grownCap_ge w (rest.length + s.size) rest.length 5
      have hc2 := grownCap_le_maxLen w (rest.length + s.size) rest.length 5 (by simp only [maxLen]; omega)
      refine ⟨some ⟨w.heap.size, 0, none⟩, grownCap w (rest.length + s.size) rest.length 5, 0, by rw [hlen], by rw [hlen]; exact hc, by simpa [maxLen] using hc2, fun _ => ⟨rfl, by simp, fun i hi => ?_⟩⟩
      rw [cell_of_row _ w.heap.size (0 + i) _ 5 (0, 0) (heap_alloc_new w.drew _), strCells_eq]
      have hb := bcells_get (rest ++ s.data.toList) i hi
      rw [bcells_append] at hb
      have hil : i < (bcells rest ++ bcells s.data.toList).length := by rw [← bcells_append, bcells_length]; exact hi
      rw [Nat.zero_add]
      have e : (bcells rest).toArray ++ (bcells s.data.toList).toArray = (bcells rest ++ bcells s.data.toList).toArray := by simp
      rw [e, Array.getElem?_append_left (by simpa using hil)]
      simpa using hb

theorem exact_append {w : World} {sb rb : Nat} {v : Value} {rest : List UInt8} (h : RestAt w sb rb v rest) (s : ByteArray) (ty : TypeId) (hl : rest.length + s.size ≤ 140737488355328) :
    ∃ g v1 w1, (Builtin.append_ #[64, 9] ty #[v, .string s]).run Try.prog w = .ok v1 w1 ∧ RB w1 g v1 (rest ++ s.data.toList) ∧ Below w.heap.size w w1 ∧ (rest ++ s.data.toList = [] ∨ (g = rb ∧ rest ≠ []) ∨ w.heap.size ≤ g) :=
  exact_append_gen 64 9 Try.underlying64 Try.underlying9 infoU8 h s ty hl

/-- at a step of a region that draws -/
theorem append_wp {P : Program} {o : Oper} {a : Act} {w : World} {K : Act → World → Prop} {Q : Exit → Act → World → Prop} {E : Prop} {ops : Array Oper} (hgd : o.guard = none) (s x : Operand) (t t' : TypeId)
    (ho : o.op = .call { callee := .builtin .append, args := #[s, x], argTypes := #[t, t'] }) {v y v1 : Value} {w1 : World} (hs : a.eval s = v) (hx : a.eval x = y)
    (hr : (Builtin.append_ #[t, t'] o.type #[v, y]).run P w = .ok v1 w1) (k : K (a.put o.dst v1) w1) : if Region.wanted o (yielded ops a.tmps) = true then Oper.wp P o a w K Q else E := by
  have hw : Region.wanted o (yielded ops a.tmps) = true := by simp [Region.wanted, hgd]
  rw [if_pos hw]
  unfold Oper.wp execOp
  simp only [ho, resolve, invoke, builtin, Sem.run_bind, Sem.run_pure, Result.andThen_ok, List.map_toArray, List.map_cons, List.map_nil, hs, hx, hr]
  exact k
theorem RestAt.alloc {w : World} {sb rb : Nat} {v : Value} {rest : List UInt8} (h : RestAt w sb rb v rest) (o : Obj) : RestAt (w.alloc o) sb rb v rest := h.other fun hr => Below.heap_alloc w o rb hr
theorem St.alloc {w : World} {sb kb rb : Nat} {v : Value} {c : List Nat} {rest : List UInt8} {m : Nat} (h : St w sb kb rb v c rest m) (o : Obj) : St (w.alloc o) sb kb rb v c rest m := h.later ((Below.refl _ _).alloc (Nat.le_refl _) o)
theorem RB.alloc {w : World} {g : Nat} {v : Value} {bs : List UInt8} (h : RB w g v bs) (o : Obj) : RB (w.alloc o) g v bs := h.later ((Below.refl _ _).alloc (Nat.le_refl _) o)
/-- the append of a string, at a step of a region that draws, at whatever world the region has come to -/
theorem exact_append_wp {o : Oper} {a : Act} {w : World} {K : Act → World → Prop} {Q : Exit → Act → World → Prop} {E : Prop} {ops : Array Oper} (hgd : o.guard = none) (s x : Operand)
    (ho : o.op = .call { callee := .builtin .append, args := #[s, x], argTypes := #[64, 9] }) (v : Value) (sb rb : Nat) (rest : List UInt8) (b : ByteArray) (hs : a.eval s = v) (hx : a.eval x = .string b)
    (hl : rest.length + b.size ≤ 140737488355328) (h : RestAt w sb rb v rest)
    (k : ∀ g v1 w1, Hid (RB w1 g v1 (rest ++ b.data.toList)) → Hid (Below w.heap.size w w1) → Hid (rest ++ b.data.toList = [] ∨ (g = rb ∧ rest ≠ []) ∨ w.heap.size ≤ g) → K (a.put o.dst v1) w1) : if Region.wanted o (yielded ops a.tmps) = true then Oper.wp Try.prog o a w K Q else E := by
  obtain ⟨g, v1, w1, hr, h1, h2, h3⟩ := exact_append h b o.type hl
  exact append_wp hgd s x _ _ ho hs hx hr (k g v1 w1 h1 h2 h3)
/-- the eight cells of an array, as the walk asks them -/
theorem Arr.cells8 {w : World} {b : Nat} {t : TypeId} (h : Arr w b t (List.replicate 8 0)) : w.cell? ⟨b, 0, none⟩ = some (.int .u32 0) ∧ w.cell? ⟨b, 1, none⟩ = some (.int .u32 0) ∧ w.cell? ⟨b, 2, none⟩ = some (.int .u32 0) ∧ w.cell? ⟨b, 3, none⟩ = some (.int .u32 0) ∧ w.cell? ⟨b, 4, none⟩ = some (.int .u32 0) ∧ w.cell? ⟨b, 5, none⟩ = some (.int .u32 0) ∧ w.cell? ⟨b, 6, none⟩ = some (.int .u32 0) ∧ w.cell? ⟨b, 7, none⟩ = some (.int .u32 0) ∧
    w.frozen? ⟨b, 0, none⟩ = false ∧ w.frozen? ⟨b, 1, none⟩ = false ∧ w.frozen? ⟨b, 2, none⟩ = false ∧ w.frozen? ⟨b, 3, none⟩ = false ∧ w.frozen? ⟨b, 4, none⟩ = false ∧ w.frozen? ⟨b, 5, none⟩ = false ∧ w.frozen? ⟨b, 6, none⟩ = false ∧ w.frozen? ⟨b, 7, none⟩ = false :=
  ⟨h.cell 0 (by decide), h.cell 1 (by decide), h.cell 2 (by decide), h.cell 3 (by decide), h.cell 4 (by decide), h.cell 5 (by decide), h.cell 6 (by decide), h.cell 7 (by decide), h.frozen 0, h.frozen 1, h.frozen 2, h.frozen 3, h.frozen 4, h.frozen 5, h.frozen 6, h.frozen 7⟩
theorem Arr.set8 {w : World} {b : Nat} {t : TypeId} (h : Arr w b t (List.replicate 8 0)) (b0 b1 b2 b3 b4 b5 b6 b7 : Nat) :
    Arr ((((((((w.setCell ⟨b, 0, none⟩ (.int .u32 (b0 : Int))).setCell ⟨b, 1, none⟩ (.int .u32 (b1 : Int))).setCell ⟨b, 2, none⟩ (.int .u32 (b2 : Int))).setCell ⟨b, 3, none⟩ (.int .u32 (b3 : Int))).setCell ⟨b, 4, none⟩ (.int .u32 (b4 : Int))).setCell ⟨b, 5, none⟩ (.int .u32 (b5 : Int))).setCell ⟨b, 6, none⟩ (.int .u32 (b6 : Int))).setCell ⟨b, 7, none⟩ (.int .u32 (b7 : Int))) b t [b0, b1, b2, b3, b4, b5, b6, b7] :=
  (((((((h.set 0 b0).set 1 b1).set 2 b2).set 3 b3).set 4 b4).set 5 b5).set 6 b6).set 7 b7

/-- eight stores into a block of one's own -/
def set8w (w : World) (b : Nat) (b0 b1 b2 b3 b4 b5 b6 b7 : Nat) : World :=
  ((((((((w.setCell ⟨b, 0, none⟩ (.int .u32 (b0 : Int))).setCell ⟨b, 1, none⟩ (.int .u32 (b1 : Int))).setCell ⟨b, 2, none⟩ (.int .u32 (b2 : Int))).setCell ⟨b, 3, none⟩ (.int .u32 (b3 : Int))).setCell ⟨b, 4, none⟩ (.int .u32 (b4 : Int))).setCell ⟨b, 5, none⟩ (.int .u32 (b5 : Int))).setCell ⟨b, 6, none⟩ (.int .u32 (b6 : Int))).setCell ⟨b, 7, none⟩ (.int .u32 (b7 : Int)))
theorem set8_grown (w : World) (b b0 b1 b2 b3 b4 b5 b6 b7 : Nat) : w.grownBy (set8w w b b0 b1 b2 b3 b4 b5 b6 b7) (some b) := by
  unfold set8w
  exact ((((((((grown_setCell _ ⟨b, 0, none⟩ _).trans (grown_setCell _ ⟨b, 1, none⟩ _)).trans (grown_setCell _ ⟨b, 2, none⟩ _)).trans (grown_setCell _ ⟨b, 3, none⟩ _)).trans (grown_setCell _ ⟨b, 4, none⟩ _)).trans (grown_setCell _ ⟨b, 5, none⟩ _)).trans (grown_setCell _ ⟨b, 6, none⟩ _)).trans (grown_setCell _ ⟨b, 7, none⟩ _))
theorem set8_size (w : World) (b b0 b1 b2 b3 b4 b5 b6 b7 : Nat) : (set8w w b b0 b1 b2 b3 b4 b5 b6 b7).heap.size = w.heap.size := by simp [set8w]
theorem RB.grown {w w' : World} {g : Nat} {v : Value} {bs : List UInt8} (h : RB w g v bs) {row : Option Nat} (hg : w.grownBy w' row) (hr : bs = [] ∨ some g ≠ row) : RB w' g v bs := by
  obtain ⟨A, c, o, hv, h1, h2, h3⟩ := h
  refine ⟨A, c, o, hv, h1, h2, fun hp => ?_⟩
  obtain ⟨q1, q2, q3⟩ := h3 hp
  rcases hr with rfl | hr
  · simp at hp
  · exact ⟨q1, Nat.lt_of_lt_of_le q2 hg.size, fun i hi => hg.cell (q3 i hi) hr⟩
theorem RB.lt {w : World} {g : Nat} {v : Value} {bs : List UInt8} (h : RB w g v bs) : bs = [] ∨ g < w.heap.size := by
  obtain ⟨A, c, o, hv, h1, h2, h3⟩ := h
  by_cases e : bs = []
  · exact .inl e
  · exact .inr (h3 (List.length_pos_iff.2 e)).2.1
theorem RestAt.lt {w : World} {sb rb : Nat} {v : Value} {rest : List UInt8} (h : RestAt w sb rb v rest) (hne : rest ≠ []) : rb < w.heap.size := by
  rcases h with ⟨_, h2⟩ | ⟨_, h2, _⟩
  · exact (hne h2).elim
  · exact (Array.getElem?_eq_some_iff.1 h2).1

/-- what is left of one that was drawn of: the rest, the new words, and what they are -/
def Piece (sb : Nat) (w4 w' : World) (tx t : List UInt8) (n6 g : Nat) (q : Value) (b0 b1 b2 b3 b4 b5 b6 b7 : Nat) : Prop :=
  (restW (tx ++ t) = [] ∨ g ≠ sb) ∧ w4.heap.size ≤ n6 ∧ cW (tx ++ t) = [b0, b1, b2, b3, b4, b5, b6, b7] ∧ Arr w' n6 61 [b0, b1, b2, b3, b4, b5, b6, b7] ∧ RB w' g q (restW (tx ++ t)) ∧ Below w4.heap.size w4 w'
section
variable {w4 w1 w2 : World} {tx t : List UInt8} {g rb sb : Nat} {v v' : Value} {b0 b1 b2 b3 b4 b5 b6 b7 : Nat}
theorem gne {B : Nat} (hra : RestAt w4 sb rb v (restW tx)) (hsb : sb < w4.heap.size) (hle : w4.heap.size ≤ B) (h1 : restW tx ++ t = [] ∨ (g = rb ∧ restW tx ≠ []) ∨ B ≤ g) : restW (tx ++ t) = [] ∨ g ≠ sb := by
  rcases h1 with h1 | ⟨rfl, h1⟩ | h1
  · left; rw [restW_append, h1]; rfl
  · right
    rcases hra with ⟨_, h2⟩ | ⟨_, _, h3⟩
    · exact (h1 h2).elim
    · exact h3
  · right; omega
theorem pieceA (hsb : sb < w4.heap.size) (hra : RestAt w4 sb rb v (restW tx)) (hg1 : restW tx ++ t = [] ∨ (g = rb ∧ restW tx ≠ []) ∨ w4.drew.heap.size ≤ g) (HP : piecesW (cW tx) K64 (restW tx ++ t) ((restW tx ++ t).length / 64) = [b0, b1, b2, b3, b4, b5, b6, b7]) (h2 : RB w2 g v' ((restW tx ++ t).drop (64 * ((restW tx ++ t).length / 64))))
    (hb1 : Below w4.drew.heap.size w4.drew w1) (hb2 : Below w1.heap.size w1 w2) : Piece sb w4 (w2.alloc (.cells ([b0, b1, b2, b3, b4, b5, b6, b7].map wv).toArray 61 (0, 0))) tx t w2.heap.size g v' b0 b1 b2 b3 b4 b5 b6 b7 := by
  have hb : Below w4.heap.size w4 w2 := Below.trans (a := w4) (b := w1) ⟨hb1.os, hb1.tape, hb1.output, hb1.size, hb1.block⟩ (hb2.mono hb1.size)
  exact ⟨gne hra hsb (Nat.le_refl _) hg1, hb.size, by rw [cW_append]; exact HP, heap_alloc_new w2 _, by rw [restW_append]; exact h2.alloc _, hb.alloc hb.size _⟩
theorem pieceB {o : Obj} {rest1 : List UInt8} (hsb : sb < w4.heap.size) (hra : RestAt w4 sb rb v (restW tx)) (hg1 : restW tx ++ t = [] ∨ (g = rb ∧ restW tx ≠ []) ∨ w4.drew.heap.size ≤ g) (HP : piecesW (cW tx) K64 (restW tx ++ t) ((restW tx ++ t).length / 64) = [b0, b1, b2, b3, b4, b5, b6, b7]) (h1 : rest1 = [] ∨ g < w1.heap.size) (hr1 : rest1 = restW tx ++ t) (h2 : RB w2 g v' ((restW tx ++ t).drop (64 * ((restW tx ++ t).length / 64))))
    (hz : Arr w2 w1.heap.size 61 (List.replicate 8 0))
    (hb1 : Below w4.drew.heap.size w4.drew w1) (hb2 : Below (w1.alloc o).heap.size (w1.alloc o) w2) : Piece sb w4 (set8w w2 w1.heap.size b0 b1 b2 b3 b4 b5 b6 b7) tx t w1.heap.size g v' b0 b1 b2 b3 b4 b5 b6 b7 := by
  have hb1' : Below w4.heap.size w4 w1 := ⟨hb1.os, hb1.tape, hb1.output, hb1.size, hb1.block⟩
  have hb : Below w4.heap.size w4 w2 := (hb1'.alloc hb1'.size o).trans (hb2.mono (by have := hb1'.size; simp; omega))
  refine ⟨gne hra hsb (Nat.le_refl _) hg1, hb1'.size, by rw [cW_append]; exact HP, hz.set8 _ _ _ _ _ _ _ _, ?_, hb.grown (set8_grown _ _ _ _ _ _ _ _ _ _) hb.size (fun k hk => by injection hk with hk; have := hb1'.size; omega)⟩
  rw [restW_append]
  refine h2.grown (set8_grown _ _ _ _ _ _ _ _ _ _) ?_
  rcases h1 with h1 | h1
  · left; rw [← hr1, h1]; rfl
  · right; intro e; injection e with e; omega
theorem pieceC {o : Obj} (hsb : sb < w4.heap.size) (HP : piecesW (cW tx) K64 (restW tx ++ t) ((restW tx ++ t).length / 64) = [b0, b1, b2, b3, b4, b5, b6, b7]) (h1 : restW tx ++ t = [] ∨ (g = rb ∧ restW tx ≠ []) ∨ (w4.drew.alloc o).heap.size ≤ g) (hra : RestAt w4 sb rb v (restW tx)) (h2 : RB w2 g v' ((restW tx ++ t).drop (64 * ((restW tx ++ t).length / 64))))
    (hz : Arr w2 w4.heap.size 61 (List.replicate 8 0))
    (hb1 : Below (w4.drew.alloc o).heap.size (w4.drew.alloc o) w1) (hb2 : Below w1.heap.size w1 w2) : Piece sb w4 (set8w w2 w4.heap.size b0 b1 b2 b3 b4 b5 b6 b7) tx t w4.heap.size g v' b0 b1 b2 b3 b4 b5 b6 b7 := by
  have hb0 : Below w4.heap.size w4 (w4.drew.alloc o) := (Below.refl _ _).drew.alloc (Nat.le_refl _) o
  have hb1' : Below w4.heap.size w4 w1 := hb0.trans (hb1.mono (by simp))
  have hb : Below w4.heap.size w4 w2 := hb1'.trans (hb2.mono hb1'.size)
  refine ⟨gne hra hsb (by simp) h1, Nat.le_refl _, by rw [cW_append]; exact HP, hz.set8 _ _ _ _ _ _ _ _, ?_, hb.grown (set8_grown _ _ _ _ _ _ _ _ _ _) hb.size (fun k hk => by injection hk with hk; omega)⟩
  rw [restW_append]
  refine h2.grown (set8_grown _ _ _ _ _ _ _ _ _ _) ?_
  rcases h1 with h1 | ⟨rfl, h1⟩ | h1
  · left; rw [h1]; rfl
  · right; intro e; injection e with e; have := hra.lt h1; omega
  · right; intro e; injection e with e; simp at h1; omega
end

/-! ### the state takes its new words and its new rest -/
theorem St.setV {w : World} {sb kb rb nb : Nat} {v v' : Value} {c : List Nat} {rest rest' : List UInt8} {m : Nat} (h : St w sb kb rb v c rest m) (hr : RestAt w sb nb v' rest') (hn : nb ≠ sb) : St (w.setCell ⟨sb, 9, none⟩ v') sb kb nb v' c rest' m := by
  refine ⟨h.len, h.words, ?_, h.tab.set_other _ _ h.ne, hr.other fun _ => Below.heap_setCell w _ _ nb hn, h.ne⟩
  rw [block_setCell h.blk]
  have e : (stCells c kb v m).set 9 v' = stCells c kb v' m := by
    unfold stCells
    rw [List.set_append_right _ _ (by simp [h.len])]
    simp [h.len]
  rw [e]
theorem St.set1 {w : World} {sb kb rb : Nat} {v : Value} {c : List Nat} {rest : List UInt8} {m : Nat} (h : St w sb kb rb v c rest m) (hr : rb ≠ sb ∨ v = .slice none 0 0) (i x : Nat) (hi : i < 8) (hw : Words (c.set i x)) : St (w.setCell ⟨sb, i, none⟩ (.int .u32 (x : Int))) sb kb rb v (c.set i x) rest m := by
  refine ⟨by simp [h.len], hw, ?_, h.tab.set_other _ _ h.ne, ?_, h.ne⟩
  · rw [block_setCell h.blk]
    have e : (stCells c kb v m).set i (.int .u32 (x : Int)) = stCells (c.set i x) kb v m := by
      unfold stCells
      rw [List.set_append_left _ _ (by simp [h.len, hi]), List.map_set]
      rfl
    rw [e]
  · rcases h.row with hn | ⟨h1, h2, h3⟩
    · exact .inl hn
    · exact .inr ⟨h1, by rw [Below.heap_setCell w _ _ rb h3]; exact h2, h3⟩
theorem Words.set {c : List Nat} (h : Words c) (i x : Nat) (hx : x < 4294967296) : Words (c.set i x) := by
  intro y hy
  rcases List.mem_or_eq_of_mem_set hy with hy | rfl
  · exact h y hy
  · exact hx
theorem St.set8 {w : World} {sb kb rb : Nat} {v : Value} {c : List Nat} {rest : List UInt8} {m : Nat} (h : St w sb kb rb v c rest m) {b0 b1 b2 b3 b4 b5 b6 b7 : Nat} (hw : Words [b0, b1, b2, b3, b4, b5, b6, b7]) : St (set8w w sb b0 b1 b2 b3 b4 b5 b6 b7) sb kb rb v [b0, b1, b2, b3, b4, b5, b6, b7] rest m := by
  have hr := h.ne_row
  obtain ⟨a0, a1, a2, a3, a4, a5, a6, a7, rfl, -⟩ := eight h.len h.words
  have lt : ∀ x, x ∈ [b0, b1, b2, b3, b4, b5, b6, b7] → x < 4294967296 := hw
  simp only [List.mem_cons, List.not_mem_nil, or_false, forall_eq_or_imp, forall_eq] at lt
  obtain ⟨l0, l1, l2, l3, l4, l5, l6, l7⟩ := lt
  have w0 := h.words
  have h0 := h.set1 hr 0 b0 (by omega) (w0.set 0 b0 l0)
  have h1 := h0.set1 hr 1 b1 (by omega) (h0.words.set 1 b1 l1)
  have h2 := h1.set1 hr 2 b2 (by omega) (h1.words.set 2 b2 l2)
  have h3 := h2.set1 hr 3 b3 (by omega) (h2.words.set 3 b3 l3)
  have h4 := h3.set1 hr 4 b4 (by omega) (h3.words.set 4 b4 l4)
  have h5 := h4.set1 hr 5 b5 (by omega) (h4.words.set 5 b5 l5)
  have h6 := h5.set1 hr 6 b6 (by omega) (h5.words.set 6 b6 l6)
  exact h6.set1 hr 7 b7 (by omega) (h6.words.set 7 b7 l7)
theorem bcells_zeros (n : Nat) : bcells (List.replicate n 0) = List.replicate n (.int .u8 0) := by simp [bcells]
theorem infoU8s : (Try.prog.info? 5).map (·.size) = some 1 := by kernel_rfl
/-- a new row of zeros, at whatever world -/
theorem RestAt.new (w : World) (sb n : Nat) (h : w.heap.size ≠ sb) : RestAt (w.alloc (.cells (madeCells #[.int .u8 0] n) 5)) sb w.heap.size (.slice (some ⟨w.heap.size, 0, none⟩) n n) (List.replicate n 0) := by
  refine .inr ⟨by simp, ?_, h⟩
  rw [heap_alloc_new, bcells_zeros]
  congr 2
  apply Array.ext
  · simp [madeCells]
  · intro i h1 h2
    simp [madeCells]
    rw [Nat.mod_one]; rfl
section
variable {P : Program} {ops : Array Oper} {rest : List Oper} {o : Oper} {a : Act} {w : World} {Q : Exit → Act → World → Prop}
theorem St.copy_step {sb kb nb g m n : Nat} {c : List Nat} {q : Value} {bs : List UInt8} (h : St w sb kb nb (.slice (some ⟨nb, 0, none⟩) n n) c (List.replicate n 0) m) (hR : RB w g q bs) (hl : bs.length = n) (hgd : o.guard = none) (d s : Operand) (dT sT : TypeId)
    (ho : o.op = .call { callee := .builtin .copy, args := #[d, s], argTypes := #[dT, sT] }) (hu : P.underlying dT = some (.slice 5)) (hsz : (P.info? 5).map (·.size) = some 1)
    (hd : a.eval d = .slice (some ⟨nb, 0, none⟩) n n) (hs : a.eval s = q)
    (k : ∀ w2, Hid (St w2 sb kb nb (.slice (some ⟨nb, 0, none⟩) n n) c bs m) → Hid (w.grownBy w2 (some nb)) → wpList P ops Q rest (a.put o.dst (.int .i64 (n : Int))) w2) : wpList P ops Q (o :: rest) a w := by
  obtain ⟨A, cp, off, rfl, h1, h2, h3⟩ := hR
  by_cases h0 : n = 0
  · subst h0
    obtain rfl : bs = [] := List.eq_nil_of_length_eq_zero hl
    refine wpList_copy_nothing hgd d s dT sT ho _ hu hsz _ _ _ _ _ _ hd hs (by simp) ?_
    exact k w (Lib.hid h) (Lib.hid (World.grownBy.refl w _))
  · obtain ⟨rfl, h4, h5⟩ := h3 (by omega)
    rcases h.row with ⟨hn, _⟩ | ⟨_, hb, hne⟩
    · cases hn
    refine wpList_copy_own hgd d s dT sT ho _ hu hsz nb 0 n n _ _ _ hd hs _ _ hb (bcells bs) (by rw [bcells_length, hl]; exact (Nat.min_self n).symm) (fun j v hv => ?_) (by simp [bcells_length, hl]) (bcells_one bs) ?_
    · have hj : j < bs.length := by
        have := (List.getElem?_eq_some_iff.1 hv).1
        rwa [bcells_length] at this
      rw [bcells_get bs j hj] at hv
      injection hv with hv
      rw [show (⟨g, off, none⟩ : Addr).add j = ⟨g, off + j, none⟩ by unfold Addr.add; split <;> simp_all, h5 j hj, hv]
    · rw [bcells_length, hl]
      have e : ((bcells (List.replicate n 0)).toArray.toList.take 0 ++ (bcells bs ++ (bcells (List.replicate n 0)).toArray.toList.drop (0 + n))) = bcells bs := by
        simp [bcells]
      rw [e]
      refine k _ (Lib.hid ⟨h.len, h.words, by rw [heap_setRow_ne w nb _ sb (Ne.symm hne)]; exact h.blk, h.tab.setRow_other nb _ ?_, .inr ⟨by rw [hl], setRow_heap w nb _ _ _ _ hb, hne⟩, h.ne⟩) (Lib.hid (grown_setRow w nb _))
      intro e
      have ht := h.tab
      unfold Arr at ht
      rw [e, hb] at ht
      injection ht with ht
      injection ht with _ ht _
      exact absurd ht (by decide)
end
theorem grown_row_new {w w1 w2 : World} {row : Option Nat} (h : w.grownBy w1 row) {nb : Nat} (hk : w1.grownBy w2 (some nb)) (hn : w.heap.size ≤ nb) : w.grownBy w2 row := by
  refine ⟨hk.os.trans h.os, hk.tape.trans h.tape, hk.output.trans h.output, Nat.le_trans h.size hk.size, fun k hk1 hk2 => ?_⟩
  rw [hk.block k (Nat.lt_of_lt_of_le hk1 h.size) (by intro e; injection e with e; omega), h.block k hk1 hk2]
theorem Arr.cellsL {w : World} {b : Nat} {t : TypeId} {b0 b1 b2 b3 b4 b5 b6 b7 : Nat} (h : Arr w b t [b0, b1, b2, b3, b4, b5, b6, b7]) : w.cell? ⟨b, 0, none⟩ = some (.int .u32 (b0 : Int)) ∧ w.cell? ⟨b, 1, none⟩ = some (.int .u32 (b1 : Int)) ∧ w.cell? ⟨b, 2, none⟩ = some (.int .u32 (b2 : Int)) ∧ w.cell? ⟨b, 3, none⟩ = some (.int .u32 (b3 : Int)) ∧ w.cell? ⟨b, 4, none⟩ = some (.int .u32 (b4 : Int)) ∧ w.cell? ⟨b, 5, none⟩ = some (.int .u32 (b5 : Int)) ∧ w.cell? ⟨b, 6, none⟩ = some (.int .u32 (b6 : Int)) ∧ w.cell? ⟨b, 7, none⟩ = some (.int .u32 (b7 : Int)) :=
  ⟨h.cell 0 (by simp), h.cell 1 (by simp), h.cell 2 (by simp), h.cell 3 (by simp), h.cell 4 (by simp), h.cell 5 (by simp), h.cell 6 (by simp), h.cell 7 (by simp)⟩
/-- what the second statement leaves -/
def Laid (w w' : World) (sb kb g n m : Nat) (c : List Nat) (q : Value) (rest : List UInt8) : Prop :=
  ∃ nb, St w' sb kb nb (.slice (some ⟨nb, 0, none⟩) n n) c (List.replicate n 0) m ∧ RB w' g q rest ∧ w.grownBy w' (some sb) ∧ w.heap.size ≤ nb
section
variable {w w6 : World} {sb kb rb g n m : Nat} {v q : Value} {c : List Nat} {rest0 rest : List UInt8} {b0 b1 b2 b3 b4 b5 b6 b7 : Nat}
theorem laidA (h : St w6 sb kb rb v c rest0 m) (hw : Words [b0, b1, b2, b3, b4, b5, b6, b7]) (hR : RB w6 g q rest) (hne : rest = [] ∨ g ≠ sb) (hG : w.grownBy w6 (some sb)) :
    Laid w ((set8w (w6.alloc (.cells (madeCells #[.int .u8 0] n) 5)) sb b0 b1 b2 b3 b4 b5 b6 b7).setCell ⟨sb, 9, none⟩ (.slice (some ⟨w6.heap.size, 0, none⟩) n n)) sb kb g n m [b0, b1, b2, b3, b4, b5, b6, b7] q rest := by
  have hlt := h.lt
  have hne' : rest = [] ∨ some g ≠ some sb := hne.imp id (fun h e => h (by injection e))
  have hs := set8_grown (w6.alloc (.cells (madeCells #[.int .u8 0] n) 5)) sb b0 b1 b2 b3 b4 b5 b6 b7
  refine ⟨w6.heap.size, ((h.alloc _).set8 hw).setV ((RestAt.new w6 sb n (by omega)).other fun hl => hs.block _ hl (by intro e; injection e with e; omega)) (by omega), (((hR.alloc _).grown hs hne').grown (grown_setCell _ ⟨sb, 9, none⟩ _) hne'), (hG.trans ((grown_below ((Below.refl _ _).alloc (Nat.le_refl _) _) _).trans (hs.trans (grown_setCell _ ⟨sb, 9, none⟩ _)))), hG.size⟩
theorem laidB (h : St w6 sb kb rb v c rest0 m) (hw : Words [b0, b1, b2, b3, b4, b5, b6, b7]) (hR : RB w6 g q rest) (hne : rest = [] ∨ g ≠ sb) (hG : w.grownBy w6 (some sb)) :
    Laid w (((set8w w6 sb b0 b1 b2 b3 b4 b5 b6 b7).alloc (.cells (madeCells #[.int .u8 0] n) 5)).setCell ⟨sb, 9, none⟩ (.slice (some ⟨w6.heap.size, 0, none⟩) n n)) sb kb g n m [b0, b1, b2, b3, b4, b5, b6, b7] q rest := by
  have hlt := h.lt
  have hne' : rest = [] ∨ some g ≠ some sb := hne.imp id (fun h e => h (by injection e))
  have hs := set8_grown w6 sb b0 b1 b2 b3 b4 b5 b6 b7
  have hz := set8_size w6 sb b0 b1 b2 b3 b4 b5 b6 b7
  have hn := RestAt.new (set8w w6 sb b0 b1 b2 b3 b4 b5 b6 b7) sb n (by omega)
  rw [hz] at hn
  refine ⟨w6.heap.size, ((h.set8 hw).alloc _).setV hn (by omega), (((hR.grown hs hne').alloc _).grown (grown_setCell _ ⟨sb, 9, none⟩ _) hne'), (hG.trans (hs.trans ((grown_below ((Below.refl _ _).alloc (Nat.le_refl _) _) _).trans (grown_setCell _ ⟨sb, 9, none⟩ _)))), hG.size⟩
theorem Laid.drew {w w' : World} {q : Value} {rest : List UInt8} (h : Laid w w' sb kb g n m c q rest) : Laid w w'.drew sb kb g n m c q rest := by
  obtain ⟨nb, h1, h2, h3, h4⟩ := h
  exact ⟨nb, h1.other rfl rfl (fun _ => rfl), h2, ⟨h3.os, h3.tape, h3.output, h3.size, h3.block⟩, h4⟩
theorem laidD (h : St w6 sb kb rb v c rest0 m) (hw : Words [b0, b1, b2, b3, b4, b5, b6, b7]) (hR : RB w6 g q rest) (hne : rest = [] ∨ g ≠ sb) (hG : w.grownBy w6 (some sb)) :
    Laid w (((set8w w6 sb b0 b1 b2 b3 b4 b5 b6 b7).setCell ⟨sb, 9, none⟩ (.slice (some ⟨w6.heap.size, 0, none⟩) n n)).alloc (.cells (madeCells #[.int .u8 0] n) 5)).drew sb kb g n m [b0, b1, b2, b3, b4, b5, b6, b7] q rest := by
  have := laidB (n := n) h hw hR hne hG
  rw [World.setCell_alloc_past _ _ _ _ (by rw [set8_size]; exact h.lt)] at this
  exact this.drew
theorem laidC (h : St w6 sb kb rb v c rest0 m) (hw : Words [b0, b1, b2, b3, b4, b5, b6, b7]) (hR : RB w6 g q rest) (hne : rest = [] ∨ g ≠ sb) (hG : w.grownBy w6 (some sb)) :
    Laid w (set8w ((w6.alloc (.cells (madeCells #[.int .u8 0] n) 5)).setCell ⟨sb, 9, none⟩ (.slice (some ⟨w6.heap.size, 0, none⟩) n n)) sb b0 b1 b2 b3 b4 b5 b6 b7) sb kb g n m [b0, b1, b2, b3, b4, b5, b6, b7] q rest := by
  have hlt := h.lt
  have hne' : rest = [] ∨ some g ≠ some sb := hne.imp id (fun h e => h (by injection e))
  have hs := set8_grown ((w6.alloc (.cells (madeCells #[.int .u8 0] n) 5)).setCell ⟨sb, 9, none⟩ (.slice (some ⟨w6.heap.size, 0, none⟩) n n)) sb b0 b1 b2 b3 b4 b5 b6 b7
  exact ⟨w6.heap.size, (((h.alloc _).setV (RestAt.new w6 sb n (by omega)) (by omega)).set8 hw), (((hR.alloc _).grown (grown_setCell _ ⟨sb, 9, none⟩ _) hne').grown hs hne'), (hG.trans ((grown_below ((Below.refl _ _).alloc (Nat.le_refl _) _) _).trans ((grown_setCell _ ⟨sb, 9, none⟩ _).trans hs))), hG.size⟩
end
end Go.Proofs.Ytmhjocbnoppbbaa.Sha
