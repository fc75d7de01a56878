/- block.Of and the source that it hands back. -/
import Derived.Test.YtmhjocbnoppbbaaDoorTxt
import Derived.Test.YtmhjocbnoppbbaaDoorErr
import Derived.Deep.Upon
namespace Go.Proofs.YtmhjocbnoppbbaaDoor.Sha
open Go.RowKit
set_option linter.unusedVariables false
set_option linter.unusedSimpArgs false

theorem OT.shape {w : World} {base : Nat} {v : Value} {xs : List ByteArray} (HO : OT w base v xs) : ∃ A n c, v = .slice A n c ∧ n ≤ c := by
  rcases HO.2 with ⟨rfl, -⟩ | ⟨g, cap, cur, rfl, -, -, hn, -⟩
  · exact ⟨_, _, _, rfl, Nat.le_refl _⟩
  · exact ⟨_, _, _, rfl, hn⟩
theorem OT.appendA_run {w : World} {base : Nat} {v : Value} {xs : List ByteArray} (HO : OT w base v xs) {g : Nat} {y : Value} {ys : List ByteArray} (HR : SR w g y ys) (ty : TypeId) (hbase : base ≤ w.heap.size) (hl : xs.length + ys.length ≤ 1000000000) :
    ∃ v1 w1, (Builtin.append_ #[22, 22] ty #[v, y]).run Tryd.prog w = .ok v1 w1 ∧ OT w1 base v1 (xs ++ ys) ∧ w.grownBy w1 v.ownBlock := by
  by_cases hp : 0 < ys.length
  · exact HO.append_run HR hp ty hbase hl
  · obtain rfl : ys = [] := List.length_eq_zero_iff.1 (by omega)
    obtain ⟨i0, hi, hzz⟩ := Option.map_eq_some_iff.1 infoStr
    obtain ⟨A, c, rfl, -, -, -⟩ := HR
    obtain ⟨A', n', c', rfl, hle⟩ := HO.shape
    refine ⟨_, w, run_append_nothing w _ _ _ _ i0 Tryd.underlying22 hi A' n' c' hle _ ⟨.inl ⟨_, Tryd.underlying22⟩, fun w' => by simp [Builtin.lenOf], by cases A <;> simp [Builtin.firstCells, loadCells, loadCellsFrom], by cases A <;> simp [Builtin.firstCells, loadCells, loadCellsFrom], by simp, by simp⟩, by simpa using HO, ⟨rfl, rfl, rfl, Nat.le_refl _, fun _ _ _ => rfl⟩⟩
section
variable {ops : Array Oper} {rest : List Oper} {o : Oper} {a : Act} {w : World} {Q : Exit → Act → World → Prop}
theorem OT.appendA_on {base : Nat} {v : Value} {xs : List ByteArray} (HO : OT w base v xs) {g : Nat} {y : Value} {ys : List ByteArray} (HR : SR w g y ys) (hgd : o.guard = none) (s x : Operand)
    (ho : o.op = .call { callee := .builtin .append, args := #[s, x], argTypes := #[22, 22] }) (hs : a.eval s = v) (hx : a.eval x = y)
    (hbase : base ≤ w.heap.size) (hl : xs.length + ys.length ≤ 1000000000)
    (k : ∀ v1 w1, OT w1 base v1 (xs ++ ys) → w.grownBy w1 v.ownBlock → wpList Tryd.prog ops Q rest (a.put o.dst v1) w1) : wpList Tryd.prog ops Q (o :: rest) a w := by
  obtain ⟨v1, w1, hr, k2, k3⟩ := OT.appendA_run HO HR o.type hbase hl
  exact append_step hgd s x _ _ ho hs hx hr (k v1 w1 k2 k3)
end
/-- a row of no texts, laid for a call -/
theorem OT.lit0 (w : World) (base : Nat) (hb : base ≤ w.heap.size) : OT (w.alloc (.cells #[] 9)) base (.slice (some ⟨w.heap.size, 0, none⟩) 0 0) [] :=
  ⟨rfl, .inr ⟨w.heap.size, 0, #[], rfl, hb, heap_alloc_new w _, Nat.le_refl _, by simp [maxLen], rfl, rfl⟩⟩

/-- the box of a source of blocks, and its row -/
def OfS (w : World) (B g : Nat) (ss : List ByteArray) : Prop := ∃ v, w.heap[B]? = some (.cells #[v] 22 (0, 0)) ∧ SR w g v ss ∧ TagS w g ss
theorem OfS.later {w w' : World} {B g : Nat} {ss : List ByteArray} (h : OfS w B g ss) (hb : Below w.heap.size w w') : OfS w' B g ss := by
  obtain ⟨v, h1, h2, h3⟩ := h
  exact ⟨v, (hb.block B (by have := (Array.getElem?_eq_some_iff.1 h1).1; exact this)).trans h1, h2.later hb, h3.kept (fun o ho => (hb.block g (Array.getElem?_eq_some_iff.1 ho).1).trans ho)⟩
/-- the source's value -/
abbrev ofV (B : Nat) : Value := .func (.func 37) #[] #[.pointer (some ⟨B, 0, none⟩)]

theorem of_calls (lb : Nat) (lv : Value) (ss : List ByteArray) (w : World) (hl : SR w lb lv ss) (hn : ss.length ≤ 1000000) :
    Calls Tryd.prog 10 #[lv] w fun e w' => ∃ g, e = .returned (ofV w.heap.size) ∧ Hid (OfS w' w.heap.size g ss) ∧ Hid (w.heap.size < g) ∧ Hid (Below w.heap.size w w') := by
  have hl' := hl
  obtain ⟨A, c, rfl, -, -, -⟩ := hl
  have HL := Lib.hid (SR.later hl' ((Below.refl _ _).alloc (Nat.le_refl _) (.cells #[.slice A ss.length c] 22)))
  have hO := OT.nil (w.alloc (.cells #[.slice A ss.length c] 22)) (w.heap.size + 1)
  have HO := Lib.hid hO
  clear hl' hO
  go_enter Tryd.func10, Tryd.ntmps10
  go_wp2_with ((at_builtin; refine OT.appendA_on HO.out HL.out rfl _ _ rfl rfl rfl (by simp) (by simp; omega) ?_; intro v1 w1 h1 hg1; have H1 := Lib.hid h1; clear h1; have HG := Lib.hid hg1; clear hg1; have hh1 : w1.heap[w.heap.size]? = some (.cells #[.slice A ss.length c] 22 (0, 0)) := (HG.out.block _ (by simp) (by simp [Value.ownBlock])).trans (heap_alloc_new w _); have hc1 := cell_of_one hh1; have hf1 := free_of_one hh1; have HH1 := Lib.hid hh1; clear hh1; obtain ⟨A1, n1, c1, hv1, -⟩ := H1.out.shape; subst hv1))
  go_ret
  obtain ⟨g, hg, hbg, htg⟩ := OT.readsAt H1.out
  have hb1 : Below (w.heap.size + 1) (w.alloc (.cells #[.slice A ss.length c] 22)) w1 := (Below.refl _ _).grown HG.out (by simp) (fun k hk => by simp [Value.ownBlock] at hk)
  refine ⟨g, rfl, Lib.hid ⟨_, one_setCell HH1.out, ?_, htg.kept (fun o ho => by rw [Below.heap_setCell _ _ _ _ (by show g ≠ w.heap.size; omega)]; exact ho)⟩, Lib.hid hbg, Lib.hid ((((Below.refl w.heap.size w).alloc (Nat.le_refl _) _).trans (hb1.mono (by omega))).setCell (Nat.le_refl _) _)⟩
  exact hg.kept (row := some w.heap.size) ⟨rfl, rfl, rfl, by simp [World.setCell], fun k hk hne => Below.heap_setCell _ _ _ _ (fun e => hne (by rw [e]))⟩ (by simp; omega)

/-- what the source tells of the i-th block -/
def ofT (ss : List ByteArray) (i : Int) : ByteArray := if 0 ≤ i ∧ i < ss.length then ss.getD i.toNat ByteArray.empty else ⟨#[]⟩
def ofE (ss : List ByteArray) (i : Int) : Er.Er := if 0 ≤ i ∧ i < ss.length then .nil else .no 9
theorem of1_calls (B g : Nat) (ss : List ByteArray) (i : Int) (w : World) (h : OfS w B g ss) (hn : ss.length ≤ 1000000) :
    Calls Tryd.prog 37 #[.int .i64 i, .pointer (some ⟨B, 0, none⟩)] w fun e w' => e = .returned (.tuple #[.string (ofT ss i), (ofE ss i).val]) ∧ w = w' := by
  obtain ⟨v, hb, hv, -⟩ := h
  have hc := cell_of_one hb
  obtain ⟨A, c, rfl, -, -, hread⟩ := hv
  clear hb
  by_cases h1 : i < 0
  · have ht : ofT ss i = ⟨#[]⟩ := by unfold ofT; rw [if_neg (by omega)]
    have he : ofE ss i = .no 9 := by unfold ofE; rw [if_neg (by omega)]
    rw [ht, he]
    clear ht he hread
    go_enter Tryd.func37, Tryd.ntmps37
    go_wp2
    go_ret2
    exact ⟨rfl, rfl⟩
  · obtain ⟨j, rfl⟩ := Int.eq_ofNat_of_zero_le (show 0 ≤ i by omega)
    by_cases h2 : j < ss.length
    · have ht : ofT ss j = ss.getD j ByteArray.empty := by unfold ofT; rw [if_pos (by omega)]; rfl
      have he : ofE ss j = .nil := by unfold ofE; rw [if_pos (by omega)]
      rw [ht, he]
      obtain ⟨ad, rfl, -, hcell⟩ := hread (by omega)
      have cc := hcell j h2
      generalize ss.getD j ByteArray.empty = s at cc ⊢
      generalize ss.length = n at hc h2 hn
      clear ht he hread hcell
      go_enter Tryd.func37, Tryd.ntmps37
      go_wp2
      go_ret2
      exact ⟨rfl, rfl⟩
    · have ht : ofT ss j = ⟨#[]⟩ := by unfold ofT; rw [if_neg (by omega)]
      have he : ofE ss j = .no 9 := by unfold ofE; rw [if_neg (by omega)]
      rw [ht, he]
      generalize ss.length = n at hc h2 hn
      clear ht he hread
      go_enter Tryd.func37, Tryd.ntmps37
      go_wp2
      go_ret2
      exact ⟨rfl, rfl⟩
end Go.Proofs.YtmhjocbnoppbbaaDoor.Sha
