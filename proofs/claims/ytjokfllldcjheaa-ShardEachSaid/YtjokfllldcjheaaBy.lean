/- Slices of bytes: read (RB), owned (OB); a byte of a text. -/
import Derived.Test.YtjokfllldcjheaaProg
import Derived.WalkKit
import Derived.Maps.AppendAt
import Derived.Lib.AppendStr
import Derived.Laws.BytesArg
import Derived.Lib.Hide
import Derived.Laws.BitsAllLaws
import Derived.WalkSpells
import Derived.WalkLawsBesides
import Derived.Deep.Draws
import Derived.BigRegion
import Derived.IntWalk
import Derived.Deep.RegionHeld3
import Derived.Deep.QuietTactic
import Derived.BigQuiet
import Derived.Deep.DeepCutAuto
import Derived.Deep.CutBlock
import Derived.Laws.CopyOwn
namespace Go.Proofs.Ytjokfllldcjheaa.Sha
open Go.RowKit
set_option linter.unusedVariables false
set_option linter.unusedSimpArgs false

/-- a piece's i-th byte -/
def byt (bs : List UInt8) (i : Nat) : Nat := (bs.getD i 0).toNat
theorem byt_lt (bs : List UInt8) (i : Nat) : byt bs i < 256 := UInt8.toNat_lt _
theorem byt_drop (bs : List UInt8) (m i : Nat) : byt (bs.drop m) i = byt bs (m + i) := by
  simp [byt, List.getD_eq_getElem?_getD]
/-- bytes as cells -/
def bcells (bs : List UInt8) : List Value := bs.map fun b => .int .u8 ((b.toNat : Nat) : Int)
theorem bcells_length (bs : List UInt8) : (bcells bs).length = bs.length := by simp [bcells]
theorem bcells_append (xs ys : List UInt8) : bcells (xs ++ ys) = bcells xs ++ bcells ys := by simp [bcells]
theorem bcells_get (bs : List UInt8) (i : Nat) (h : i < bs.length) : (bcells bs)[i]? = some (.int .u8 ((byt bs i : Nat) : Int)) := by
  simp [bcells, byt, h]
theorem bcells_one (bs : List UInt8) : ∀ u ∈ bcells bs, u.oneCell' = true := by
  intro u hu
  simp only [bcells, List.mem_map] at hu
  obtain ⟨b, _, rfl⟩ := hu
  rfl
theorem strCells_eq (s : ByteArray) : Lib.strCells s = bcells s.data.toList := rfl

/-- v is a slice, in block g, that reads as the bytes bs -/
def RB (w : World) (g : Nat) (v : Value) (bs : List UInt8) : Prop :=
  ∃ A c o, v = .slice A bs.length c ∧ bs.length ≤ c ∧ c ≤ 9223372036854775807 ∧ (0 < bs.length → A = some ⟨g, o, none⟩ ∧ g < w.heap.size ∧ ∀ i, i < bs.length → w.cell? ⟨g, o + i, none⟩ = some (.int .u8 ((byt bs i : Nat) : Int)))
theorem RB.kept {w w' : World} {g : Nat} {v : Value} {bs : List UInt8} (h : RB w g v bs) {row : Option Nat} (hg : w.grownBy w' row) (hr : some g ≠ row) : RB w' g v bs := by
  obtain ⟨A, c, o, hv, h1, h2, h3⟩ := h
  refine ⟨A, c, o, hv, h1, h2, fun h => ?_⟩
  obtain ⟨ha, hl, hc⟩ := h3 h
  exact ⟨ha, Nat.lt_of_lt_of_le hl hg.size, fun i hi => hg.cell (hc i hi) hr⟩
theorem RB.below {w w' : World} {g : Nat} {v : Value} {bs : List UInt8} (h : RB w g v bs) {B : Nat} (hb : Below B w w') (hB : g < B) : RB w' g v bs := by
  obtain ⟨A, c, o, hv, h1, h2, h3⟩ := h
  refine ⟨A, c, o, hv, h1, h2, fun h => ?_⟩
  obtain ⟨ha, hl, hc⟩ := h3 h
  exact ⟨ha, Nat.lt_of_lt_of_le hl hb.size, fun i hi => (hb.cell (p := ⟨g, o + i, none⟩) hB).trans (hc i hi)⟩
/-- whatever lay in the world lies in a later one -/
theorem RB.later {w w' : World} {g : Nat} {v : Value} {bs : List UInt8} (h : RB w g v bs) (hb : Below w.heap.size w w') : RB w' g v bs := by
  obtain ⟨A, c, o, hv, h1, h2, h3⟩ := h
  refine ⟨A, c, o, hv, h1, h2, fun h => ?_⟩
  obtain ⟨ha, hl, hc⟩ := h3 h
  exact ⟨ha, Nat.lt_of_lt_of_le hl hb.size, fun i hi => (hb.cell (p := ⟨g, o + i, none⟩) hl).trans (hc i hi)⟩

/-- v is a row of bytes of the call's own -/
def OB (w : World) (base : Nat) (v : Value) (bs : List UInt8) : Prop := w.ownsRow base 5 1 v bs.length (bcells bs)
theorem OB.nil (w : World) (base : Nat) : OB w base (.slice none 0 0) [] := World.ownsRow_nil w base 5 1
theorem OB.kept {w w' : World} {base : Nat} {v : Value} {bs : List UInt8} (h : OB w base v bs) {row : Option Nat} (hg : w.grownBy w' row) (hr : v.ownBlock = none ∨ v.ownBlock ≠ row) : OB w' base v bs := World.ownsRow.kept h hg hr
theorem grown_below {w w1 : World} (h : Below w.heap.size w w1) (row : Option Nat) : w.grownBy w1 row := ⟨h.os, h.tape, h.output, h.size, fun i hi _ => h.block i hi⟩
theorem OB.later {w w' : World} {base : Nat} {v : Value} {bs : List UInt8} (h : OB w base v bs) (hb : Below w.heap.size w w') : OB w' base v bs :=
  h.kept (grown_below hb none) (by cases v.ownBlock <;> simp)
theorem OB.alloc {w : World} {base : Nat} {v : Value} {bs : List UInt8} (h : OB w base v bs) (o : Obj) : OB (w.alloc o) base v bs := World.ownsRow.alloc h o
theorem OB.base {w : World} {base : Nat} {v : Value} {bs : List UInt8} (h : OB w base v bs) : ∀ k, v.ownBlock = some k → base ≤ k := fun k hk => (World.ownsRow.lt h k hk).1
theorem OB.lt {w : World} {base : Nat} {v : Value} {bs : List UInt8} (h : OB w base v bs) : ∀ k, v.ownBlock = some k → k < w.heap.size := fun k hk => (World.ownsRow.lt h k hk).2
/-- what is owned reads -/
theorem OB.reads {w : World} {base : Nat} {v : Value} {bs : List UInt8} (h : OB w base v bs) : ∃ g, RB w g v bs ∧ (0 < bs.length → base ≤ g) := by
  rcases h.2 with ⟨hv, hn⟩ | ⟨g, cap, cur, hv, hb, hh, hnc, hcm, hcs, htk⟩
  · exact ⟨0, ⟨none, 0, 0, by rw [hv, hn], by omega, by omega, fun h => by omega⟩, fun h => by omega⟩
  · refine ⟨g, ⟨some ⟨g, 0, none⟩, cap, 0, hv, hnc, by simp only [maxLen] at hcm; omega, fun _ => ⟨rfl, (Array.getElem?_eq_some_iff.1 hh).1, fun i hi => ?_⟩⟩, fun _ => hb⟩
    have := World.ownsRow.cells h (g := g) (by rw [hv]; rfl) i _ (bcells_get bs i hi)
    rwa [show (⟨g, 0, none⟩ : Addr).add i = ⟨g, 0 + i, none⟩ by unfold Addr.add; split <;> simp_all] at this

/-- a slice's length -/
def sliceLen : Value → Nat
  | .slice _ n _ => n
  | _ => 0
theorem OB.len {w : World} {base : Nat} {v : Value} {bs : List UInt8} (h : OB w base v bs) : sliceLen v = bs.length := by
  obtain ⟨g, ⟨A, c, o, rfl, _⟩, _⟩ := h.reads
  rfl

theorem infoU8 : (Try.prog.info? 5).map (fun i => (i.zero, i.size, i.bytes)) = some (some (.int .u8 0), 1, 1) := by kernel_rfl

/-- append(v, ys...) -/
theorem append_run_gen {P : Program} (t : TypeId) (ht : P.underlying t = some (.slice 5)) (hinfo : (P.info? 5).map (fun i => (i.zero, i.size, i.bytes)) = some (some (.int .u8 0), 1, 1)) {w : World} {base : Nat} {v : Value} {xs : List UInt8} (HO : OB w base v xs) {g : Nat} {y : Value} {ys : List UInt8} (HR : RB w g y ys) (ty : TypeId) (hbase : base ≤ w.heap.size) (hl : xs.length + ys.length ≤ 140737488355328) :
    ∃ v1 w1, (Builtin.append_ #[t, t] ty #[v, y]).run P w = .ok v1 w1 ∧ OB w1 base v1 (xs ++ ys) ∧ w.grownBy w1 v.ownBlock ∧ (v1.ownBlock = v.ownBlock ∨ v1.ownBlock = some w.heap.size) := by
  obtain ⟨i0, hi, hzz⟩ := Option.map_eq_some_iff.1 hinfo
  simp only [Prod.mk.injEq] at hzz
  obtain ⟨hz0, hz1, hz2⟩ := hzz
  obtain ⟨A, c, o, rfl, h1, h2, h3⟩ := HR
  have go : ∀ ad : Addr, A = some ad → (∀ j u, (bcells ys)[j]? = some u → w.cell? (ad.add j) = some u) → ∃ v1 w1, (Builtin.append_ #[t, t] ty #[v, .slice A ys.length c]).run P w = .ok v1 w1 ∧ OB w1 base v1 (xs ++ ys) ∧ w.grownBy w1 v.ownBlock ∧ (v1.ownBlock = v.ownBlock ∨ v1.ownBlock = some w.heap.size) := by
    rintro ad rfl hc
    obtain ⟨v1, w1, hr, k2, k3, _, k5⟩ := run_append_own_at (P := P) w base t ty 5 i0 (.int .u8 0) 1 1 ht hi hz0 hz1 hz2 rfl (by omega) v xs.length (bcells xs) HO ad ys.length c (bcells ys) (by rw [bcells_length]; omega) hc (bcells_one ys) (by simp only [maxLen]; omega) (by omega) hbase
    refine ⟨v1, w1, hr, ?_, k3, k5⟩
    unfold OB
    rw [bcells_append, List.length_append]
    exact k2
  by_cases hn : ys = []
  · subst hn
    rcases A with _ | ad
    · refine ⟨v, w, ?_, by simpa using HO, World.grownBy.refl w _, .inl rfl⟩
      rcases HO.2 with ⟨rfl, hn⟩ | ⟨g, cap, cur, rfl, _, _, hnc, _⟩
      · simp [Builtin.append_, run_underlying ht, sizeOf, typeInfo, hi, Builtin.lenOf, Builtin.firstCells]
      · simp [Builtin.append_, run_underlying ht, sizeOf, typeInfo, hi, Builtin.lenOf, Builtin.firstCells, hnc, storeCells]
    · exact go ad rfl (fun j u hu => by simp [bcells] at hu)
  · obtain ⟨ha, hlt, hcell⟩ := h3 (List.length_pos_iff.2 hn)
    refine go ⟨g, o, none⟩ ha (fun j u hu => ?_)
    have hj : j < ys.length := by
      rcases Nat.lt_or_ge j ys.length with h | h
      · exact h
      · rw [List.getElem?_eq_none (by rw [bcells_length]; exact h)] at hu
        cases hu
    rw [bcells_get ys j hj] at hu
    injection hu with hu
    subst hu
    rw [show (⟨g, o, none⟩ : Addr).add j = ⟨g, o + j, none⟩ by unfold Addr.add; split <;> simp_all]
    exact hcell j hj

theorem OB.append_run {w : World} {base : Nat} {v : Value} {xs : List UInt8} (HO : OB w base v xs) {g : Nat} {y : Value} {ys : List UInt8} (HR : RB w g y ys) (ty : TypeId) (hbase : base ≤ w.heap.size) (hl : xs.length + ys.length ≤ 140737488355328) :
    ∃ v1 w1, (Builtin.append_ #[83, 83] ty #[v, y]).run Try.prog w = .ok v1 w1 ∧ OB w1 base v1 (xs ++ ys) ∧ w.grownBy w1 v.ownBlock ∧ (v1.ownBlock = v.ownBlock ∨ v1.ownBlock = some w.heap.size) :=
  append_run_gen 83 Try.underlying83 infoU8 HO HR ty hbase hl

theorem append_step {P : Program} {ops : Array Oper} {rest : List Oper} {o : Oper} {a : Act} {w : World} {Q : Exit → Act → World → Prop} (hgd : o.guard = none) (s x : Operand) (t t' : TypeId)
    (ho : o.op = .call { callee := .builtin .append, args := #[s, x], argTypes := #[t, t'] }) {v y v1 : Value} {w1 : World} (hs : a.eval s = v) (hx : a.eval x = y)
    (hr : (Builtin.append_ #[t, t'] o.type #[v, y]).run P w = .ok v1 w1) (k : wpList P ops Q rest (a.put o.dst v1) w1) : wpList P ops Q (o :: rest) a w := by
  refine wpList_plain hgd fun K hK => ?_
  unfold Oper.wp execOp
  simp only [ho, resolve, invoke, builtin, Sem.run_bind, Sem.run_pure, Result.andThen_ok, List.map_toArray, List.map_cons, List.map_nil, hs, hx, hr]
  exact hK _ _ k
section
variable {ops : Array Oper} {rest : List Oper} {o : Oper} {a : Act} {w : World} {Q : Exit → Act → World → Prop}
/-- append(v, ys...), at a list of operations -/
theorem OB.append_on {base : Nat} {v : Value} {xs : List UInt8} (HO : OB w base v xs) {g : Nat} {y : Value} {ys : List UInt8} (HR : RB w g y ys) (hgd : o.guard = none) (s x : Operand)
    (ho : o.op = .call { callee := .builtin .append, args := #[s, x], argTypes := #[83, 83] }) (hs : a.eval s = v) (hx : a.eval x = y)
    (hbase : base ≤ w.heap.size) (hl : xs.length + ys.length ≤ 140737488355328)
    (k : ∀ v1 w1, OB w1 base v1 (xs ++ ys) → w.grownBy w1 v.ownBlock → (v1.ownBlock = v.ownBlock ∨ v1.ownBlock = some w.heap.size) → wpList Try.prog ops Q rest (a.put o.dst v1) w1) : wpList Try.prog ops Q (o :: rest) a w := by
  obtain ⟨v1, w1, hr, k2, k3, k5⟩ := OB.append_run HO HR o.type hbase hl
  exact append_step hgd s x _ _ ho hs hx hr (k v1 w1 k2 k3 k5)
end

/-- a literal's bytes, in the block that they were laid into -/
theorem RB.lit (w : World) (bs : List UInt8) (cs : Array Value) (hcs : cs = (bcells bs).toArray) (n : Nat) (hn : n = bs.length) (h : bs.length ≤ 9223372036854775807) : RB (w.alloc (.cells cs 5)) w.heap.size (.slice (some ⟨w.heap.size, 0, none⟩) n n) bs := by
  subst hcs hn
  refine ⟨some ⟨w.heap.size, 0, none⟩, bs.length, 0, rfl, Nat.le_refl _, h, fun _ => ⟨rfl, by simp, fun i hi => ?_⟩⟩
  rw [cell_of_row _ w.heap.size (0 + i) _ 5 (0, 0) (heap_alloc_new w _)]
  simpa using bcells_get bs i hi

/-- string(v) -/
theorem RB.string_run {w : World} {g : Nat} {v : Value} {bs : List UInt8} (h : RB w g v bs) : (convert 83 9 v).run Try.prog w = .ok (.string ⟨bs.toArray⟩) w := by
  obtain ⟨A, c, o, rfl, h1, h2, h3⟩ := h
  have e : strOfNums (bs.map fun b => ((b.toNat : Nat) : Int)) = ⟨bs.toArray⟩ := by
    unfold strOfNums
    congr 2
    rw [List.map_map]
    conv => rhs; rw [← List.map_id bs]
    refine List.map_congr_left fun b _ => ?_
    simp
  by_cases hn : bs = []
  · subst hn
    rcases A with _ | ⟨b, off, sp⟩
    · exact run_convert_bytes_nil w 83 5 Try.underlying83 Try.underlying5 0 c 9 Try.underlying9
    · simp only [List.length_nil]
      rw [run_convert_bytes_string w 83 9 5 _ 0 c Try.underlying83 Try.underlying5 Try.underlying9]
      simp [Conv.bytesToString, loadCells, loadCellsFrom]
      rfl
  · obtain ⟨ha, _, hc⟩ := h3 (List.length_pos_iff.2 hn)
    subst ha
    rw [← e]
    refine run_convert_bytes_arg w 83 5 Try.underlying83 Try.underlying5 g o bs.length c _ (by simp) (fun i hi => ?_) 9 Try.underlying9
    rw [hc i hi]
    simp [byt, List.getD_eq_getElem?_getD, hi]
/-- a byte of a text -/
theorem run_index_byte {P : Program} (t : TypeId) (h : P.underlying t = some .string) (s : ByteArray) (j : Nat) (hj : j < s.size) (k : IntKind) (w : World) :
    (Instr.index t (.string s) (.int k (j : Int))).run P w = .ok (.int .u8 ((byt s.data.toList j : Nat) : Int)) w := by
  have hj2 : j < s.data.size := hj
  rw [run_index_string w t s k j h]
  rw [dif_pos (by omega)]
  have e : s[(j : Int).toNat]'(by simpa using hj) = s.data.toList.getD j 0 := by
    simp [List.getD_eq_getElem?_getD, hj2, ByteArray.getElem_eq_getElem_data]
    rw [Array.getElem?_eq_getElem hj2]; rfl
  rw [e]; rfl
end Go.Proofs.Ytjokfllldcjheaa.Sha
