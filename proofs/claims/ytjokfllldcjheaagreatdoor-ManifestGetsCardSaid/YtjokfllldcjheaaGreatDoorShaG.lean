/- Slices of bytes: read (RB), owned (OB); append of bytes and of a string, conversion to a string. · SHA-256 in plain numbers: words as Nat below 2^32; no program in sight. · SHA-256's turning of words: sha.right turns a word right. · Arrays of words of 32 bits in memory: read, stored into, loaded and stored as a whole. · SHA-256: sha.spread lays a piece's 64 words. · SHA-256: the method take of sha.chain takes a piece. · SHA-256: the method all of sha.chain takes all whole pieces. · SHA-256: sha.end lays what stands behind a text. · SHA-256: the state in memory; sha.k, sha.New, Len. · SHA-256: the method Write of sha.State writes texts. -/
import Derived.Test.YtjokfllldcjheaaGreatDoorProg
import Derived.WalkKit
import Derived.Maps.AppendAt
import Derived.Lib.AppendStr
import Derived.Laws.BytesArg
import Derived.Lib.Hide
import Derived.Laws.BitsAllLaws
import Derived.WalkSpells
import Derived.WalkLawsBesides
import Derived.Deep.Draws
import Derived.BigRegion
import Derived.IntWalk
import Derived.Deep.RegionHeld3
import Derived.Deep.QuietTactic
import Derived.BigQuiet
import Derived.Deep.DeepCutAuto
import Derived.Deep.CutBlock
import Derived.Laws.CopyOwn
/- Slices of bytes: read (RB), owned (OB); append of bytes and of a string, conversion to a string. -/
namespace Go.Proofs.YtjokfllldcjheaaGreatDoor.Sha
open Go.RowKit
set_option linter.unusedVariables false
set_option linter.unusedSimpArgs false

/-- a piece's i-th byte -/
def byt (bs : List UInt8) (i : Nat) : Nat := (bs.getD i 0).toNat
theorem byt_lt (bs : List UInt8) (i : Nat) : byt bs i < 256 := UInt8.toNat_lt _
theorem byt_drop (bs : List UInt8) (m i : Nat) : byt (bs.drop m) i = byt bs (m + i) := by
  simp [byt, List.getD_eq_getElem?_getD]
/-- bytes as cells -/
def bcells (bs : List UInt8) : List Value := bs.map fun b => .int .u8 ((b.toNat : Nat) : Int)
theorem bcells_length (bs : List UInt8) : (bcells bs).length = bs.length := by simp [bcells]
theorem bcells_append (xs ys : List UInt8) : bcells (xs ++ ys) = bcells xs ++ bcells ys := by simp [bcells]
theorem bcells_get (bs : List UInt8) (i : Nat) (h : i < bs.length) : (bcells bs)[i]? = some (.int .u8 ((byt bs i : Nat) : Int)) := by
  simp [bcells, byt, h]
theorem bcells_one (bs : List UInt8) : ∀ u ∈ bcells bs, u.oneCell' = true := by
  intro u hu
  simp only [bcells, List.mem_map] at hu
  obtain ⟨b, _, rfl⟩ := hu
  rfl
theorem strCells_eq (s : ByteArray) : Lib.strCells s = bcells s.data.toList := rfl

/-- v is a slice, in block g, that reads as the bytes bs -/
def RB (w : World) (g : Nat) (v : Value) (bs : List UInt8) : Prop :=
  ∃ A c o, v = .slice A bs.length c ∧ bs.length ≤ c ∧ c ≤ 9223372036854775807 ∧ (0 < bs.length → A = some ⟨g, o, none⟩ ∧ g < w.heap.size ∧ ∀ i, i < bs.length → w.cell? ⟨g, o + i, none⟩ = some (.int .u8 ((byt bs i : Nat) : Int)))
theorem RB.kept {w w' : World} {g : Nat} {v : Value} {bs : List UInt8} (h : RB w g v bs) {row : Option Nat} (hg : w.grownBy w' row) (hr : some g ≠ row) : RB w' g v bs := by
  obtain ⟨A, c, o, hv, h1, h2, h3⟩ := h
  refine ⟨A, c, o, hv, h1, h2, fun h => ?_⟩
  obtain ⟨ha, hl, hc⟩ := h3 h
  exact ⟨ha, Nat.lt_of_lt_of_le hl hg.size, fun i hi => hg.cell (hc i hi) hr⟩
theorem RB.below {w w' : World} {g : Nat} {v : Value} {bs : List UInt8} (h : RB w g v bs) {B : Nat} (hb : Below B w w') (hB : g < B) : RB w' g v bs := by
  obtain ⟨A, c, o, hv, h1, h2, h3⟩ := h
  refine ⟨A, c, o, hv, h1, h2, fun h => ?_⟩
  obtain ⟨ha, hl, hc⟩ := h3 h
  exact ⟨ha, Nat.lt_of_lt_of_le hl hb.size, fun i hi => (hb.cell (p := ⟨g, o + i, none⟩) hB).trans (hc i hi)⟩
/-- whatever lay in the world lies in a later one -/
theorem RB.later {w w' : World} {g : Nat} {v : Value} {bs : List UInt8} (h : RB w g v bs) (hb : Below w.heap.size w w') : RB w' g v bs := by
  obtain ⟨A, c, o, hv, h1, h2, h3⟩ := h
  refine ⟨A, c, o, hv, h1, h2, fun h => ?_⟩
  obtain ⟨ha, hl, hc⟩ := h3 h
  exact ⟨ha, Nat.lt_of_lt_of_le hl hb.size, fun i hi => (hb.cell (p := ⟨g, o + i, none⟩) hl).trans (hc i hi)⟩

/-- v is a row of bytes of the call's own -/
def OB (w : World) (base : Nat) (v : Value) (bs : List UInt8) : Prop := w.ownsRow base 5 1 v bs.length (bcells bs)
theorem OB.nil (w : World) (base : Nat) : OB w base (.slice none 0 0) [] := World.ownsRow_nil w base 5 1
theorem OB.kept {w w' : World} {base : Nat} {v : Value} {bs : List UInt8} (h : OB w base v bs) {row : Option Nat} (hg : w.grownBy w' row) (hr : v.ownBlock = none ∨ v.ownBlock ≠ row) : OB w' base v bs := World.ownsRow.kept h hg hr
theorem grown_below {w w1 : World} (h : Below w.heap.size w w1) (row : Option Nat) : w.grownBy w1 row := ⟨h.os, h.tape, h.output, h.size, fun i hi _ => h.block i hi⟩
theorem OB.later {w w' : World} {base : Nat} {v : Value} {bs : List UInt8} (h : OB w base v bs) (hb : Below w.heap.size w w') : OB w' base v bs :=
  h.kept (grown_below hb none) (by cases v.ownBlock <;> simp)
theorem OB.alloc {w : World} {base : Nat} {v : Value} {bs : List UInt8} (h : OB w base v bs) (o : Obj) : OB (w.alloc o) base v bs := World.ownsRow.alloc h o
theorem OB.base {w : World} {base : Nat} {v : Value} {bs : List UInt8} (h : OB w base v bs) : ∀ k, v.ownBlock = some k → base ≤ k := fun k hk => (World.ownsRow.lt h k hk).1
theorem OB.lt {w : World} {base : Nat} {v : Value} {bs : List UInt8} (h : OB w base v bs) : ∀ k, v.ownBlock = some k → k < w.heap.size := fun k hk => (World.ownsRow.lt h k hk).2
/-- what is owned reads -/
theorem OB.reads {w : World} {base : Nat} {v : Value} {bs : List UInt8} (h : OB w base v bs) : ∃ g, RB w g v bs ∧ (0 < bs.length → base ≤ g) := by
  rcases h.2 with ⟨hv, hn⟩ | ⟨g, cap, cur, hv, hb, hh, hnc, hcm, hcs, htk⟩
  · exact ⟨0, ⟨none, 0, 0, by rw [hv, hn], by omega, by omega, fun h => by omega⟩, fun h => by omega⟩
  · refine ⟨g, ⟨some ⟨g, 0, none⟩, cap, 0, hv, hnc, by simp only [maxLen] at hcm; omega, fun _ => ⟨rfl, (Array.getElem?_eq_some_iff.1 hh).1, fun i hi => ?_⟩⟩, fun _ => hb⟩
    have := World.ownsRow.cells h (g := g) (by rw [hv]; rfl) i _ (bcells_get bs i hi)
    rwa [show (⟨g, 0, none⟩ : Addr).add i = ⟨g, 0 + i, none⟩ by unfold Addr.add; split <;> simp_all] at this

/-- a slice's length -/
def sliceLen : Value → Nat
  | .slice _ n _ => n
  | _ => 0
theorem OB.len {w : World} {base : Nat} {v : Value} {bs : List UInt8} (h : OB w base v bs) : sliceLen v = bs.length := by
  obtain ⟨g, ⟨A, c, o, rfl, _⟩, _⟩ := h.reads
  rfl

theorem infoU8 : (Tryz.prog.info? 5).map (fun i => (i.zero, i.size, i.bytes)) = some (some (.int .u8 0), 1, 1) := by kernel_rfl

/-- append(v, ys...) -/
theorem append_run_gen {P : Program} (t : TypeId) (ht : P.underlying t = some (.slice 5)) (hinfo : (P.info? 5).map (fun i => (i.zero, i.size, i.bytes)) = some (some (.int .u8 0), 1, 1)) {w : World} {base : Nat} {v : Value} {xs : List UInt8} (HO : OB w base v xs) {g : Nat} {y : Value} {ys : List UInt8} (HR : RB w g y ys) (ty : TypeId) (hbase : base ≤ w.heap.size) (hl : xs.length + ys.length ≤ 140737488355328) :
    ∃ v1 w1, (Builtin.append_ #[t, t] ty #[v, y]).run P w = .ok v1 w1 ∧ OB w1 base v1 (xs ++ ys) ∧ w.grownBy w1 v.ownBlock ∧ (v1.ownBlock = v.ownBlock ∨ v1.ownBlock = some w.heap.size) := by
  obtain ⟨i0, hi, hzz⟩ := Option.map_eq_some_iff.1 hinfo
  simp only [Prod.mk.injEq] at hzz
  obtain ⟨hz0, hz1, hz2⟩ := hzz
  obtain ⟨A, c, o, rfl, h1, h2, h3⟩ := HR
  have go : ∀ ad : Addr, A = some ad → (∀ j u, (bcells ys)[j]? = some u → w.cell? (ad.add j) = some u) → ∃ v1 w1, (Builtin.append_ #[t, t] ty #[v, .slice A ys.length c]).run P w = .ok v1 w1 ∧ OB w1 base v1 (xs ++ ys) ∧ w.grownBy w1 v.ownBlock ∧ (v1.ownBlock = v.ownBlock ∨ v1.ownBlock = some w.heap.size) := by
    rintro ad rfl hc
    obtain ⟨v1, w1, hr, k2, k3, _, k5⟩ := run_append_own_at (P := P) w base t ty 5 i0 (.int .u8 0) 1 1 ht hi hz0 hz1 hz2 rfl (by omega) v xs.length (bcells xs) HO ad ys.length c (bcells ys) (by rw [bcells_length]; omega) hc (bcells_one ys) (by simp only [maxLen]; omega) (by omega) hbase
    refine ⟨v1, w1, hr, ?_, k3, k5⟩
    unfold OB
    rw [bcells_append, List.length_append]
    exact k2
  by_cases hn : ys = []
  · subst hn
    rcases A with _ | ad
    · refine ⟨v, w, ?_, by simpa using HO, World.grownBy.refl w _, .inl rfl⟩
      rcases HO.2 with ⟨rfl, hn⟩ | ⟨g, cap, cur, rfl, _, _, hnc, _⟩
      · simp [Builtin.append_, run_underlying ht, sizeOf, typeInfo, hi, Builtin.lenOf, Builtin.firstCells]
      · simp [Builtin.append_, run_underlying ht, sizeOf, typeInfo, hi, Builtin.lenOf, Builtin.firstCells, hnc, storeCells]
    · exact go ad rfl (fun j u hu => by simp [bcells] at hu)
  · obtain ⟨ha, hlt, hcell⟩ := h3 (List.length_pos_iff.2 hn)
    refine go ⟨g, o, none⟩ ha (fun j u hu => ?_)
    have hj : j < ys.length := by
      rcases Nat.lt_or_ge j ys.length with h | h
      · exact h
      · rw [List.getElem?_eq_none (by rw [bcells_length]; exact h)] at hu
        cases hu
    rw [bcells_get ys j hj] at hu
    injection hu with hu
    subst hu
    rw [show (⟨g, o, none⟩ : Addr).add j = ⟨g, o + j, none⟩ by unfold Addr.add; split <;> simp_all]
    exact hcell j hj

theorem OB.append_run {w : World} {base : Nat} {v : Value} {xs : List UInt8} (HO : OB w base v xs) {g : Nat} {y : Value} {ys : List UInt8} (HR : RB w g y ys) (ty : TypeId) (hbase : base ≤ w.heap.size) (hl : xs.length + ys.length ≤ 140737488355328) :
    ∃ v1 w1, (Builtin.append_ #[128, 128] ty #[v, y]).run Tryz.prog w = .ok v1 w1 ∧ OB w1 base v1 (xs ++ ys) ∧ w.grownBy w1 v.ownBlock ∧ (v1.ownBlock = v.ownBlock ∨ v1.ownBlock = some w.heap.size) :=
  append_run_gen 128 Tryz.underlying128 infoU8 HO HR ty hbase hl

theorem append_step {P : Program} {ops : Array Oper} {rest : List Oper} {o : Oper} {a : Act} {w : World} {Q : Exit → Act → World → Prop} (hgd : o.guard = none) (s x : Operand) (t t' : TypeId)
    (ho : o.op = .call { callee := .builtin .append, args := #[s, x], argTypes := #[t, t'] }) {v y v1 : Value} {w1 : World} (hs : a.eval s = v) (hx : a.eval x = y)
    (hr : (Builtin.append_ #[t, t'] o.type #[v, y]).run P w = .ok v1 w1) (k : wpList P ops Q rest (a.put o.dst v1) w1) : wpList P ops Q (o :: rest) a w := by
  refine wpList_plain hgd fun K hK => ?_
  unfold Oper.wp execOp
  simp only [ho, resolve, invoke, builtin, Sem.run_bind, Sem.run_pure, Result.andThen_ok, List.map_toArray, List.map_cons, List.map_nil, hs, hx, hr]
  exact hK _ _ k
section
variable {ops : Array Oper} {rest : List Oper} {o : Oper} {a : Act} {w : World} {Q : Exit → Act → World → Prop}
/-- append(v, ys...), at a list of operations -/
theorem OB.append_on {base : Nat} {v : Value} {xs : List UInt8} (HO : OB w base v xs) {g : Nat} {y : Value} {ys : List UInt8} (HR : RB w g y ys) (hgd : o.guard = none) (s x : Operand)
    (ho : o.op = .call { callee := .builtin .append, args := #[s, x], argTypes := #[128, 128] }) (hs : a.eval s = v) (hx : a.eval x = y)
    (hbase : base ≤ w.heap.size) (hl : xs.length + ys.length ≤ 140737488355328)
    (k : ∀ v1 w1, OB w1 base v1 (xs ++ ys) → w.grownBy w1 v.ownBlock → (v1.ownBlock = v.ownBlock ∨ v1.ownBlock = some w.heap.size) → wpList Tryz.prog ops Q rest (a.put o.dst v1) w1) : wpList Tryz.prog ops Q (o :: rest) a w := by
  obtain ⟨v1, w1, hr, k2, k3, k5⟩ := OB.append_run HO HR o.type hbase hl
  exact append_step hgd s x _ _ ho hs hx hr (k v1 w1 k2 k3 k5)
end

/-- a literal's bytes, in the block that they were laid into -/
theorem RB.lit (w : World) (bs : List UInt8) (cs : Array Value) (hcs : cs = (bcells bs).toArray) (n : Nat) (hn : n = bs.length) (h : bs.length ≤ 9223372036854775807) : RB (w.alloc (.cells cs 5)) w.heap.size (.slice (some ⟨w.heap.size, 0, none⟩) n n) bs := by
  subst hcs hn
  refine ⟨some ⟨w.heap.size, 0, none⟩, bs.length, 0, rfl, Nat.le_refl _, h, fun _ => ⟨rfl, by simp, fun i hi => ?_⟩⟩
  rw [cell_of_row _ w.heap.size (0 + i) _ 5 (0, 0) (heap_alloc_new w _)]
  simpa using bcells_get bs i hi

/-- string(v) -/
theorem RB.string_run {w : World} {g : Nat} {v : Value} {bs : List UInt8} (h : RB w g v bs) : (convert 128 9 v).run Tryz.prog w = .ok (.string ⟨bs.toArray⟩) w := by
  obtain ⟨A, c, o, rfl, h1, h2, h3⟩ := h
  have e : strOfNums (bs.map fun b => ((b.toNat : Nat) : Int)) = ⟨bs.toArray⟩ := by
    unfold strOfNums
    congr 2
    rw [List.map_map]
    conv => rhs; rw [← List.map_id bs]
    refine List.map_congr_left fun b _ => ?_
    simp
  by_cases hn : bs = []
  · subst hn
    rcases A with _ | ⟨b, off, sp⟩
    · exact run_convert_bytes_nil w 128 5 Tryz.underlying128 Tryz.underlying5 0 c 9 Tryz.underlying9
    · simp only [List.length_nil]
      rw [run_convert_bytes_string w 128 9 5 _ 0 c Tryz.underlying128 Tryz.underlying5 Tryz.underlying9]
      simp [Conv.bytesToString, loadCells, loadCellsFrom]
      rfl
  · obtain ⟨ha, _, hc⟩ := h3 (List.length_pos_iff.2 hn)
    subst ha
    rw [← e]
    refine run_convert_bytes_arg w 128 5 Tryz.underlying128 Tryz.underlying5 g o bs.length c _ (by simp) (fun i hi => ?_) 9 Tryz.underlying9
    rw [hc i hi]
    simp [byt, List.getD_eq_getElem?_getD, hi]
end Go.Proofs.YtjokfllldcjheaaGreatDoor.Sha
/- SHA-256 in plain numbers: words as Nat below 2^32; no program in sight. -/
namespace Go.Proofs.YtjokfllldcjheaaGreatDoor.Sha
set_option linter.unusedVariables false
set_option linter.unusedSimpArgs false

/-- x turned right by the exponent of p (p a power of two, at most 2^31) -/
def turnP (x p : Nat) : Nat := x / p + x % p * (4294967296 / p)
/-- x turned right by n places -/
def rotr (x : Nat) (n : Int) : Nat := turnP x (2 ^ n.toNat)

theorem rot_val (x : Nat) (i j : Nat) (hx : x < 4294967296) (hij : i + j = 32) :
    bits .or .u32 ((x : Int) * (2 ^ j : Nat) % 4294967296) ((x : Int) / (2 ^ i : Nat)) = ((turnP x (2 ^ i) : Nat) : Int) := by
  have hp : 2 ^ i * 2 ^ j = 4294967296 := by rw [← Nat.pow_add, hij]
  have hpos : 0 < 2 ^ i := Nat.pow_pos (by omega)
  have hposj : 0 < 2 ^ j := Nat.pow_pos (by omega)
  have e1 : (x : Int) * (2 ^ j : Nat) % 4294967296 = ((x * 2 ^ j % 4294967296 : Nat) : Int) := by simp
  have e2 : (x : Int) / (2 ^ i : Nat) = ((x / 2 ^ i : Nat) : Int) := by simp
  have l2 : x / 2 ^ i < 2 ^ j := Nat.div_lt_of_lt_mul (by rw [hp]; exact hx)
  have e3 : x * 2 ^ j % 4294967296 = x % 2 ^ i * 2 ^ j := by rw [← hp, Nat.mul_mod_mul_right]
  have l3 : x % 2 ^ i * 2 ^ j < 4294967296 := by rw [← hp]; exact Nat.mul_lt_mul_of_pos_right (Nat.mod_lt _ hpos) hposj
  have l4 : 2 ^ j ≤ 4294967296 := by rw [← hp]; exact Nat.le_mul_of_pos_left _ hpos
  rw [e1, e2, u32_or_nat _ _ (by omega) (by omega), e3, nat_join j _ _ (Nat.mul_mod_left _ _) l2]
  unfold turnP
  have e4 : 4294967296 / 2 ^ i = 2 ^ j := by rw [← hp]; exact Nat.mul_div_cancel_left _ hpos
  rw [e4, Nat.add_comm]

theorem rotr_lt (x : Nat) (n : Int) (hx : x < 4294967296) (h0 : 0 ≤ n) (h1 : n ≤ 32) : rotr x n < 4294967296 := by
  unfold rotr turnP
  obtain ⟨i, rfl⟩ := Int.eq_ofNat_of_zero_le h0
  rw [Int.toNat_natCast]
  have hp : 2 ^ i * 2 ^ (32 - i) = 4294967296 := by rw [← Nat.pow_add, show i + (32 - i) = 32 by omega]
  have hpos : 0 < 2 ^ i := Nat.pow_pos (by omega)
  have e4 : 4294967296 / 2 ^ i = 2 ^ (32 - i) := by rw [← hp]; exact Nat.mul_div_cancel_left _ hpos
  rw [e4]
  have l2 : x / 2 ^ i < 2 ^ (32 - i) := Nat.div_lt_of_lt_mul (by rw [hp]; exact hx)
  have l3 : x % 2 ^ i + 1 ≤ 2 ^ i := Nat.mod_lt _ hpos
  have l4 : (x % 2 ^ i + 1) * 2 ^ (32 - i) ≤ 2 ^ i * 2 ^ (32 - i) := Nat.mul_le_mul_right _ l3
  rw [hp, Nat.add_mul, Nat.one_mul] at l4
  omega

/-- s0, s1 of the words; S0, S1 of the state -/
def sml0 (x : Nat) : Nat := rotr x 7 ^^^ rotr x 18 ^^^ x / 8
def sml1 (x : Nat) : Nat := rotr x 17 ^^^ rotr x 19 ^^^ x / 1024
def big0 (x : Nat) : Nat := rotr x 2 ^^^ rotr x 13 ^^^ rotr x 22
def big1 (x : Nat) : Nat := rotr x 6 ^^^ rotr x 11 ^^^ rotr x 25

theorem xor_lt32 {a b : Nat} (ha : a < 4294967296) (hb : b < 4294967296) : a ^^^ b < 4294967296 := Nat.xor_lt_two_pow (n := 32) ha hb
theorem and_lt32 {a b : Nat} (ha : a < 4294967296) : a &&& b < 4294967296 := Nat.lt_of_le_of_lt Nat.and_le_left ha
theorem sml0_lt {x : Nat} (h : x < 4294967296) : sml0 x < 4294967296 :=
  xor_lt32 (xor_lt32 (rotr_lt x 7 h (by omega) (by omega)) (rotr_lt x 18 h (by omega) (by omega))) (by omega)
theorem sml1_lt {x : Nat} (h : x < 4294967296) : sml1 x < 4294967296 :=
  xor_lt32 (xor_lt32 (rotr_lt x 17 h (by omega) (by omega)) (rotr_lt x 19 h (by omega) (by omega))) (by omega)
theorem big0_lt {x : Nat} (h : x < 4294967296) : big0 x < 4294967296 :=
  xor_lt32 (xor_lt32 (rotr_lt x 2 h (by omega) (by omega)) (rotr_lt x 13 h (by omega) (by omega))) (rotr_lt x 22 h (by omega) (by omega))
theorem big1_lt {x : Nat} (h : x < 4294967296) : big1 x < 4294967296 :=
  xor_lt32 (xor_lt32 (rotr_lt x 6 h (by omega) (by omega)) (rotr_lt x 11 h (by omega) (by omega))) (rotr_lt x 25 h (by omega) (by omega))

theorem next_bits (x0 x1 x7 x2 : Nat) (h0 : x0 < 4294967296) (h1 : x1 < 4294967296) (h7 : x7 < 4294967296) (h2 : x2 < 4294967296) :
    ((((x0 : Int) + bits .xor .u32 (bits .xor .u32 ((rotr x1 7 : Nat) : Int) ((rotr x1 18 : Nat) : Int)) ((x1 : Int) / 8)) % 4294967296 + (x7 : Int)) % 4294967296 +
      bits .xor .u32 (bits .xor .u32 ((rotr x2 17 : Nat) : Int) ((rotr x2 19 : Nat) : Int)) ((x2 : Int) / 1024)) % 4294967296 = (((x0 + sml0 x1 + x7 + sml1 x2) % 4294967296 : Nat) : Int) := by
  have a1 := rotr_lt x1 7 h1 (by omega) (by omega)
  have a2 := rotr_lt x1 18 h1 (by omega) (by omega)
  have a3 := rotr_lt x2 17 h2 (by omega) (by omega)
  have a4 := rotr_lt x2 19 h2 (by omega) (by omega)
  rw [u32_xor_nat _ _ a1 a2, u32_xor_nat _ _ a3 a4, show ((x1 : Int) / 8) = ((x1 / 8 : Nat) : Int) by simp, show ((x2 : Int) / 1024) = ((x2 / 1024 : Nat) : Int) by simp,
    u32_xor_nat _ _ (xor_lt32 a1 a2) (by omega), u32_xor_nat _ _ (xor_lt32 a3 a4) (by omega)]
  unfold sml0 sml1
  omega

/-- a piece's i-th word -/
def word4 (bs : List UInt8) (i : Nat) : Nat := byt bs (4 * i) * 16777216 + byt bs (4 * i + 1) * 65536 + byt bs (4 * i + 2) * 256 + byt bs (4 * i + 3)
theorem word4_lt (bs : List UInt8) (i : Nat) : word4 bs i < 4294967296 := by
  have h0 := byt_lt bs (4 * i)
  have h1 := byt_lt bs (4 * i + 1)
  have h2 := byt_lt bs (4 * i + 2)
  have h3 := byt_lt bs (4 * i + 3)
  unfold word4
  omega

theorem word_bits (b0 b1 b2 b3 : Nat) (h0 : b0 < 256) (h1 : b1 < 256) (h2 : b2 < 256) (h3 : b3 < 256) :
    bits .or .u32 (bits .or .u32 (bits .or .u32 ((b0 : Int) * 16777216) ((b1 : Int) * 65536)) ((b2 : Int) * 256)) (b3 : Int) = ((b0 * 16777216 + b1 * 65536 + b2 * 256 + b3 : Nat) : Int) := by
  have e1 : bits .or .u32 ((b0 : Int) * 16777216) ((b1 : Int) * 65536) = ((b0 * 16777216 + b1 * 65536 : Nat) : Int) := by
    have := u32_or_nat (b0 * 16777216) (b1 * 65536) (by omega) (by omega)
    rw [nat_join 24 _ _ (by omega) (by omega)] at this
    simpa using this
  rw [e1]
  have e2 : bits .or .u32 ((b0 * 16777216 + b1 * 65536 : Nat) : Int) ((b2 : Int) * 256) = ((b0 * 16777216 + b1 * 65536 + b2 * 256 : Nat) : Int) := by
    have := u32_or_nat (b0 * 16777216 + b1 * 65536) (b2 * 256) (by omega) (by omega)
    rw [nat_join 16 _ _ (by omega) (by omega)] at this
    simpa using this
  rw [e2, u32_or_nat _ _ (by omega) (by omega), nat_join 8 _ _ (by omega) (by omega)]

/-- the next word of a row of words -/
def nextW (l : List Nat) : Nat := (l.getD (l.length - 16) 0 + sml0 (l.getD (l.length - 15) 0) + l.getD (l.length - 7) 0 + sml1 (l.getD (l.length - 2) 0)) % 4294967296
/-- a piece's first 16 + n words -/
def sched (bs : List UInt8) : Nat → List Nat
  | 0 => (List.range 16).map (word4 bs)
  | n + 1 => sched bs n ++ [nextW (sched bs n)]
theorem sched_length (bs : List UInt8) (n : Nat) : (sched bs n).length = 16 + n := by
  induction n with
  | zero => simp [sched]
  | succ n ih => simp [sched, ih]; omega
theorem sched_lt (bs : List UInt8) (n : Nat) : ∀ x ∈ sched bs n, x < 4294967296 := by
  induction n with
  | zero =>
    intro x hx
    simp only [sched, List.mem_map] at hx
    obtain ⟨i, _, rfl⟩ := hx
    exact word4_lt bs i
  | succ n ih =>
    intro x hx
    simp only [sched, List.mem_append, List.mem_singleton] at hx
    rcases hx with hx | rfl
    · exact ih x hx
    · exact Nat.mod_lt _ (by omega)
theorem getD_lt32 {l : List Nat} (h : ∀ x ∈ l, x < 4294967296) (i : Nat) : l.getD i 0 < 4294967296 := by
  by_cases hi : i < l.length
  · rw [List.getD_eq_getElem?_getD, List.getElem?_eq_getElem hi]
    exact h _ (List.getElem_mem hi)
  · rw [List.getD_eq_getElem?_getD, List.getElem?_eq_none (by omega)]
    decide

/-- what the array holds behind k rounds of the first loop, and behind n of the second -/
def fill1 (bs : List UInt8) (k : Nat) : List Nat := (List.range k).map (word4 bs) ++ List.replicate (64 - k) 0
def fill2 (bs : List UInt8) (n : Nat) : List Nat := sched bs n ++ List.replicate (48 - n) 0
theorem fill1_length (bs : List UInt8) (k : Nat) (h : k ≤ 64) : (fill1 bs k).length = 64 := by simp [fill1]; omega
theorem fill2_length (bs : List UInt8) (n : Nat) (h : n ≤ 48) : (fill2 bs n).length = 64 := by simp [fill2, sched_length]; omega
theorem set_snoc (l : List Nat) (m x : Nat) : (l ++ List.replicate (m + 1) 0).set l.length x = l ++ [x] ++ List.replicate m 0 := by
  rw [List.set_append_right _ _ (Nat.le_refl _)]
  simp [List.replicate_succ]
theorem fill1_set (bs : List UInt8) (k : Nat) (h : k < 16) : (fill1 bs k).set k (word4 bs k) = fill1 bs (k + 1) := by
  unfold fill1
  have := set_snoc ((List.range k).map (word4 bs)) (63 - k) (word4 bs k)
  rw [List.length_map, List.length_range, show 63 - k + 1 = 64 - k by omega] at this
  rw [this, List.range_succ, List.map_append, show 64 - (k + 1) = 63 - k by omega]
  rfl
theorem fill1_16 (bs : List UInt8) : fill1 bs 16 = fill2 bs 0 := rfl
theorem fill2_set (bs : List UInt8) (n : Nat) (h : n < 48) : (fill2 bs n).set (16 + n) (nextW (sched bs n)) = fill2 bs (n + 1) := by
  unfold fill2
  have := set_snoc (sched bs n) (47 - n) (nextW (sched bs n))
  rw [sched_length, show 47 - n + 1 = 48 - n by omega] at this
  rw [this, show 48 - (n + 1) = 47 - n by omega]
  rfl
theorem fill2_get (bs : List UInt8) (n i : Nat) (h : i < 16 + n) : (fill2 bs n).getD i 0 = (sched bs n).getD i 0 := by
  unfold fill2
  rw [List.getD_eq_getElem?_getD, List.getD_eq_getElem?_getD, List.getElem?_append_left (by rw [sched_length]; exact h)]

/-- the round's choice and majority -/
def chW (e f g : Nat) : Nat := (e &&& f) ^^^ ((4294967295 - e) &&& g)
def majW (a b c : Nat) : Nat := (a &&& b) ^^^ (a &&& c) ^^^ (b &&& c)
theorem chW_lt {e f g : Nat} (he : e < 4294967296) : chW e f g < 4294967296 := xor_lt32 (and_lt32 he) (and_lt32 (by omega))
theorem majW_lt {a b c : Nat} (ha : a < 4294967296) (hb : b < 4294967296) : majW a b c < 4294967296 := xor_lt32 (xor_lt32 (and_lt32 ha) (and_lt32 ha)) (and_lt32 hb)
def t1W (e f g h k w : Nat) : Nat := (h + big1 e + chW e f g + k + w) % 4294967296
def t2W (a b c : Nat) : Nat := (big0 a + majW a b c) % 4294967296
theorem not32 (e : Nat) (he : e < 4294967296) : 4294967295 ^^^ e = 4294967295 - e := by
  have h : (BitVec.allOnes 32 ^^^ BitVec.ofNat 32 e).toNat = (~~~ (BitVec.ofNat 32 e)).toNat := by
    congr 1
  rw [BitVec.toNat_xor, BitVec.toNat_not, BitVec.toNat_allOnes, BitVec.toNat_ofNat, Nat.mod_eq_of_lt he] at h
  exact h
theorem ch_bits (e f g : Nat) (he : e < 4294967296) (hf : f < 4294967296) (hg : g < 4294967296) :
    bits .xor .u32 (bits .and .u32 (e : Int) (f : Int)) (bits .and .u32 (bits .xor .u32 (if IntKind.u32.signed = true then -1 else IntKind.u32.max) (e : Int)) (g : Int)) = ((chW e f g : Nat) : Int) := by
  have e1 : (if IntKind.u32.signed = true then (-1 : Int) else IntKind.u32.max) = ((4294967295 : Nat) : Int) := by decide
  rw [e1, u32_and_nat e f he hf, u32_xor_nat 4294967295 e (by omega) he, not32 e he, u32_and_nat _ g (by omega) hg, u32_xor_nat _ _ (and_lt32 he) (and_lt32 (by omega))]
  rfl
theorem big1_bits (e : Nat) (he : e < 4294967296) :
    bits .xor .u32 (bits .xor .u32 ((rotr e 6 : Nat) : Int) ((rotr e 11 : Nat) : Int)) ((rotr e 25 : Nat) : Int) = ((big1 e : Nat) : Int) := by
  have a1 := rotr_lt e 6 he (by omega) (by omega)
  have a2 := rotr_lt e 11 he (by omega) (by omega)
  have a3 := rotr_lt e 25 he (by omega) (by omega)
  rw [u32_xor_nat _ _ a1 a2, u32_xor_nat _ _ (xor_lt32 a1 a2) a3]
  rfl
theorem big0_bits (e : Nat) (he : e < 4294967296) :
    bits .xor .u32 (bits .xor .u32 ((rotr e 2 : Nat) : Int) ((rotr e 13 : Nat) : Int)) ((rotr e 22 : Nat) : Int) = ((big0 e : Nat) : Int) := by
  have a1 := rotr_lt e 2 he (by omega) (by omega)
  have a2 := rotr_lt e 13 he (by omega) (by omega)
  have a3 := rotr_lt e 22 he (by omega) (by omega)
  rw [u32_xor_nat _ _ a1 a2, u32_xor_nat _ _ (xor_lt32 a1 a2) a3]
  rfl
theorem maj_bits (a b c : Nat) (ha : a < 4294967296) (hb : b < 4294967296) (hc : c < 4294967296) :
    bits .xor .u32 (bits .xor .u32 (bits .and .u32 (a : Int) (b : Int)) (bits .and .u32 (a : Int) (c : Int))) (bits .and .u32 (b : Int) (c : Int)) = ((majW a b c : Nat) : Int) := by
  rw [u32_and_nat a b ha hb, u32_and_nat a c ha hc, u32_and_nat b c hb hc, u32_xor_nat _ _ (and_lt32 ha) (and_lt32 ha), u32_xor_nat _ _ (xor_lt32 (and_lt32 ha) (and_lt32 ha)) (and_lt32 hb)]
  rfl
/-- the two sums of a round, as the walk spells them -/
theorem t1_bits (e f g h k w : Nat) (he : e < 4294967296) (hf : f < 4294967296) (hg : g < 4294967296) :
    (((h : Int) + bits .xor .u32 (bits .xor .u32 ((rotr e 6 : Nat) : Int) ((rotr e 11 : Nat) : Int)) ((rotr e 25 : Nat) : Int) +
        bits .xor .u32 (bits .and .u32 (e : Int) (f : Int)) (bits .and .u32 (bits .xor .u32 (if IntKind.u32.signed = true then -1 else IntKind.u32.max) (e : Int)) (g : Int)) + (k : Int)) % 4294967296 + (w : Int)) % 4294967296 = ((t1W e f g h k w : Nat) : Int) := by
  rw [ch_bits e f g he hf hg, big1_bits e he]
  unfold t1W
  omega
theorem t2_bits (a b c : Nat) (ha : a < 4294967296) (hb : b < 4294967296) (hc : c < 4294967296) :
    (bits .xor .u32 (bits .xor .u32 ((rotr a 2 : Nat) : Int) ((rotr a 13 : Nat) : Int)) ((rotr a 22 : Nat) : Int) +
        bits .xor .u32 (bits .xor .u32 (bits .and .u32 (a : Int) (b : Int)) (bits .and .u32 (a : Int) (c : Int))) (bits .and .u32 (b : Int) (c : Int))) % 4294967296 = ((t2W a b c : Nat) : Int) := by
  rw [maj_bits a b c ha hb hc, big0_bits a ha]
  unfold t2W
  omega
theorem t1W_lt (e f g h k w : Nat) : t1W e f g h k w < 4294967296 := Nat.mod_lt _ (by omega)
theorem t2W_lt (a b c : Nat) : t2W a b c < 4294967296 := Nat.mod_lt _ (by omega)
/-- a round -/
def roundW (s : List Nat) (k w : Nat) : List Nat :=
  [(t1W (s.getD 4 0) (s.getD 5 0) (s.getD 6 0) (s.getD 7 0) k w + t2W (s.getD 0 0) (s.getD 1 0) (s.getD 2 0)) % 4294967296, s.getD 0 0, s.getD 1 0, s.getD 2 0,
   (s.getD 3 0 + t1W (s.getD 4 0) (s.getD 5 0) (s.getD 6 0) (s.getD 7 0) k w) % 4294967296, s.getD 4 0, s.getD 5 0, s.getD 6 0]
/-- the state behind i rounds -/
def roundsW (s ks ws : List Nat) : Nat → List Nat
  | 0 => s
  | i + 1 => roundW (roundsW s ks ws i) (ks.getD i 0) (ws.getD i 0)
/-- words added one by one, the first j of them -/
def addW (s c : List Nat) (j : Nat) : List Nat := (List.range 8).map fun i => if i < j then (s.getD i 0 + c.getD i 0) % 4294967296 else s.getD i 0
/-- the state behind a piece -/
def takeW (c ks : List Nat) (bs : List UInt8) : List Nat := addW (roundsW c ks (sched bs 48) 64) c 8
def Words (l : List Nat) : Prop := ∀ x ∈ l, x < 4294967296
theorem roundW_words {s : List Nat} (h : Words s) (k w : Nat) : Words (roundW s k w) := by
  have g := fun i => getD_lt32 h i
  intro x hx
  simp only [roundW, List.mem_cons, List.not_mem_nil, or_false] at hx
  rcases hx with rfl | rfl | rfl | rfl | rfl | rfl | rfl | rfl
  · exact Nat.mod_lt _ (by omega)
  · exact g 0
  · exact g 1
  · exact g 2
  · exact Nat.mod_lt _ (by omega)
  · exact g 4
  · exact g 5
  · exact g 6
theorem roundsW_words {s : List Nat} (h : Words s) (ks ws : List Nat) (i : Nat) : Words (roundsW s ks ws i) := by
  induction i with
  | zero => exact h
  | succ i ih => exact roundW_words ih _ _
theorem roundsW_length {s : List Nat} (h : s.length = 8) (ks ws : List Nat) (i : Nat) : (roundsW s ks ws i).length = 8 := by
  cases i with
  | zero => exact h
  | succ i => rfl
theorem addW_length (s c : List Nat) (j : Nat) : (addW s c j).length = 8 := by simp [addW]
theorem takeW_length (c ks : List Nat) (bs : List UInt8) : (takeW c ks bs).length = 8 := addW_length _ _ _
theorem takeW_words (c ks : List Nat) (bs : List UInt8) : Words (takeW c ks bs) := by
  intro x hx
  simp only [takeW, addW, List.mem_map, List.mem_range] at hx
  obtain ⟨i, hi, rfl⟩ := hx
  rw [if_pos hi]
  exact Nat.mod_lt _ (by omega)
theorem addW_zero {s : List Nat} (h : s.length = 8) (c : List Nat) : addW s c 0 = s := by
  apply List.ext_getElem
  · simp [addW, h]
  · intro i h1 h2
    simp [addW, h2]
theorem addW_get (s c : List Nat) (i j : Nat) (h : j < 8) : (addW s c i).getD j 0 = if j < i then (s.getD j 0 + c.getD j 0) % 4294967296 else s.getD j 0 := by
  simp [addW, h]
theorem addW_set (s c : List Nat) (j : Nat) (h : j < 8) : (addW s c j).set j ((s.getD j 0 + c.getD j 0) % 4294967296) = addW s c (j + 1) := by
  apply List.ext_getElem
  · simp [addW]
  · intro i h1 h2
    rw [List.getElem_set]
    simp only [addW, List.getElem_map, List.getElem_range]
    by_cases e : j = i
    · subst e
      simp
    · rw [if_neg e]
      by_cases e2 : i < j
      · rw [if_pos e2, if_pos (by omega)]
      · rw [if_neg e2, if_neg (by omega)]
end Go.Proofs.YtjokfllldcjheaaGreatDoor.Sha
/- SHA-256's turning of words: sha.right turns a word right. -/
namespace Go.Proofs.YtjokfllldcjheaaGreatDoor.Sha
open Go.RowKit
set_option linter.unusedVariables false
set_option linter.unusedSimpArgs false

theorem right2 (x : Nat) (w : World) (hx : x < 4294967296) :
    Calls Tryz.prog 152 #[.int .u32 (x : Int), .int .i64 2] w fun e w' => e = .returned (.int .u32 ((rotr x 2 : Nat) : Int)) ∧ w = w' := by
  have hx' : (x : Int) < 4294967296 := by omega
  have e7 : bits .and .u64 (IntKind.u64.wrap (-2)) 31 = 30 := by decide +kernel
  have HV := Lib.hid (rot_val x 2 30 hx rfl)
  go_enter Tryz.func152, Tryz.ntmps152
  go_wp2
  go_ret
  refine ⟨?_, rfl⟩
  exact congrArg (fun z => Ending.returned (.int .u32 z)) HV.out

theorem right6 (x : Nat) (w : World) (hx : x < 4294967296) :
    Calls Tryz.prog 152 #[.int .u32 (x : Int), .int .i64 6] w fun e w' => e = .returned (.int .u32 ((rotr x 6 : Nat) : Int)) ∧ w = w' := by
  have hx' : (x : Int) < 4294967296 := by omega
  have e7 : bits .and .u64 (IntKind.u64.wrap (-6)) 31 = 26 := by decide +kernel
  have HV := Lib.hid (rot_val x 6 26 hx rfl)
  go_enter Tryz.func152, Tryz.ntmps152
  go_wp2
  go_ret
  refine ⟨?_, rfl⟩
  exact congrArg (fun z => Ending.returned (.int .u32 z)) HV.out

theorem right7 (x : Nat) (w : World) (hx : x < 4294967296) :
    Calls Tryz.prog 152 #[.int .u32 (x : Int), .int .i64 7] w fun e w' => e = .returned (.int .u32 ((rotr x 7 : Nat) : Int)) ∧ w = w' := by
  have hx' : (x : Int) < 4294967296 := by omega
  have e7 : bits .and .u64 (IntKind.u64.wrap (-7)) 31 = 25 := by decide +kernel
  have HV := Lib.hid (rot_val x 7 25 hx rfl)
  go_enter Tryz.func152, Tryz.ntmps152
  go_wp2
  go_ret
  refine ⟨?_, rfl⟩
  exact congrArg (fun z => Ending.returned (.int .u32 z)) HV.out

theorem right11 (x : Nat) (w : World) (hx : x < 4294967296) :
    Calls Tryz.prog 152 #[.int .u32 (x : Int), .int .i64 11] w fun e w' => e = .returned (.int .u32 ((rotr x 11 : Nat) : Int)) ∧ w = w' := by
  have hx' : (x : Int) < 4294967296 := by omega
  have e7 : bits .and .u64 (IntKind.u64.wrap (-11)) 31 = 21 := by decide +kernel
  have HV := Lib.hid (rot_val x 11 21 hx rfl)
  go_enter Tryz.func152, Tryz.ntmps152
  go_wp2
  go_ret
  refine ⟨?_, rfl⟩
  exact congrArg (fun z => Ending.returned (.int .u32 z)) HV.out

theorem right13 (x : Nat) (w : World) (hx : x < 4294967296) :
    Calls Tryz.prog 152 #[.int .u32 (x : Int), .int .i64 13] w fun e w' => e = .returned (.int .u32 ((rotr x 13 : Nat) : Int)) ∧ w = w' := by
  have hx' : (x : Int) < 4294967296 := by omega
  have e7 : bits .and .u64 (IntKind.u64.wrap (-13)) 31 = 19 := by decide +kernel
  have HV := Lib.hid (rot_val x 13 19 hx rfl)
  go_enter Tryz.func152, Tryz.ntmps152
  go_wp2
  go_ret
  refine ⟨?_, rfl⟩
  exact congrArg (fun z => Ending.returned (.int .u32 z)) HV.out

theorem right17 (x : Nat) (w : World) (hx : x < 4294967296) :
    Calls Tryz.prog 152 #[.int .u32 (x : Int), .int .i64 17] w fun e w' => e = .returned (.int .u32 ((rotr x 17 : Nat) : Int)) ∧ w = w' := by
  have hx' : (x : Int) < 4294967296 := by omega
  have e7 : bits .and .u64 (IntKind.u64.wrap (-17)) 31 = 15 := by decide +kernel
  have HV := Lib.hid (rot_val x 17 15 hx rfl)
  go_enter Tryz.func152, Tryz.ntmps152
  go_wp2
  go_ret
  refine ⟨?_, rfl⟩
  exact congrArg (fun z => Ending.returned (.int .u32 z)) HV.out

theorem right18 (x : Nat) (w : World) (hx : x < 4294967296) :
    Calls Tryz.prog 152 #[.int .u32 (x : Int), .int .i64 18] w fun e w' => e = .returned (.int .u32 ((rotr x 18 : Nat) : Int)) ∧ w = w' := by
  have hx' : (x : Int) < 4294967296 := by omega
  have e7 : bits .and .u64 (IntKind.u64.wrap (-18)) 31 = 14 := by decide +kernel
  have HV := Lib.hid (rot_val x 18 14 hx rfl)
  go_enter Tryz.func152, Tryz.ntmps152
  go_wp2
  go_ret
  refine ⟨?_, rfl⟩
  exact congrArg (fun z => Ending.returned (.int .u32 z)) HV.out

theorem right19 (x : Nat) (w : World) (hx : x < 4294967296) :
    Calls Tryz.prog 152 #[.int .u32 (x : Int), .int .i64 19] w fun e w' => e = .returned (.int .u32 ((rotr x 19 : Nat) : Int)) ∧ w = w' := by
  have hx' : (x : Int) < 4294967296 := by omega
  have e7 : bits .and .u64 (IntKind.u64.wrap (-19)) 31 = 13 := by decide +kernel
  have HV := Lib.hid (rot_val x 19 13 hx rfl)
  go_enter Tryz.func152, Tryz.ntmps152
  go_wp2
  go_ret
  refine ⟨?_, rfl⟩
  exact congrArg (fun z => Ending.returned (.int .u32 z)) HV.out

theorem right22 (x : Nat) (w : World) (hx : x < 4294967296) :
    Calls Tryz.prog 152 #[.int .u32 (x : Int), .int .i64 22] w fun e w' => e = .returned (.int .u32 ((rotr x 22 : Nat) : Int)) ∧ w = w' := by
  have hx' : (x : Int) < 4294967296 := by omega
  have e7 : bits .and .u64 (IntKind.u64.wrap (-22)) 31 = 10 := by decide +kernel
  have HV := Lib.hid (rot_val x 22 10 hx rfl)
  go_enter Tryz.func152, Tryz.ntmps152
  go_wp2
  go_ret
  refine ⟨?_, rfl⟩
  exact congrArg (fun z => Ending.returned (.int .u32 z)) HV.out

theorem right25 (x : Nat) (w : World) (hx : x < 4294967296) :
    Calls Tryz.prog 152 #[.int .u32 (x : Int), .int .i64 25] w fun e w' => e = .returned (.int .u32 ((rotr x 25 : Nat) : Int)) ∧ w = w' := by
  have hx' : (x : Int) < 4294967296 := by omega
  have e7 : bits .and .u64 (IntKind.u64.wrap (-25)) 31 = 7 := by decide +kernel
  have HV := Lib.hid (rot_val x 25 7 hx rfl)
  go_enter Tryz.func152, Tryz.ntmps152
  go_wp2
  go_ret
  refine ⟨?_, rfl⟩
  exact congrArg (fun z => Ending.returned (.int .u32 z)) HV.out

/-- is n one of the numbers by which words are turned? -/
def turnable (n : Int) : Bool := n == 2 || n == 6 || n == 7 || n == 11 || n == 13 || n == 17 || n == 18 || n == 19 || n == 22 || n == 25

theorem right_calls (x : Nat) (n : Int) (w : World) (hx : x < 4294967296) (hn : turnable n = true) :
    Calls Tryz.prog 152 #[.int .u32 (x : Int), .int .i64 n] w fun e w' => e = .returned (.int .u32 ((rotr x n : Nat) : Int)) ∧ w = w' := by
  simp only [turnable, Bool.or_eq_true, beq_iff_eq] at hn
  rcases hn with (((((((((rfl | rfl) | rfl) | rfl) | rfl) | rfl) | rfl) | rfl) | rfl) | rfl)
  · exact right2 x w hx
  · exact right6 x w hx
  · exact right7 x w hx
  · exact right11 x w hx
  · exact right13 x w hx
  · exact right17 x w hx
  · exact right18 x w hx
  · exact right19 x w hx
  · exact right22 x w hx
  · exact right25 x w hx
end Go.Proofs.YtjokfllldcjheaaGreatDoor.Sha
/- Arrays of words of 32 bits in memory: read, stored into, loaded and stored as a whole. -/
namespace Go.Proofs.YtjokfllldcjheaaGreatDoor.Sha
open Go.RowKit
set_option linter.unusedVariables false
set_option linter.unusedSimpArgs false

/-- a callee that leaves the world as it was, in a region that draws -/
theorem quiet_left {P : Program} {f : FuncId} {args : Array Value} {w : World} {n : Nat} {v : Value}
    (h : Calls P f args (w.drewN n) fun e w' => e = .returned v ∧ w.drewN n = w') : Calls P f args (w.drewN n) fun e w'' => e = .returned v ∧ ∃ m, w'' = w.drewN m :=
  h.mono fun _ _ ⟨he, hm⟩ => ⟨he, n, hm.symm⟩
theorem quiet_add_left {P : Program} {f : FuncId} {args : Array Value} {w : World} {a n : Nat} {v : Value}
    (h : Calls P f args (w.drewN (a + n)) fun e w' => e = .returned v ∧ w.drewN (a + n) = w') :
    Calls P f args (w.drewN (a + n)) fun e w'' => e = .returned v ∧ ∃ m, w'' = w.drewN (a + m) :=
  h.mono fun _ _ ⟨he, hm⟩ => ⟨he, n, hm.symm⟩

/-- a word as a value -/
def wv (x : Nat) : Value := .int .u32 (x : Int)
/-- block b is an array that holds the words ws -/
def Arr (w : World) (b : Nat) (t : TypeId) (ws : List Nat) : Prop := w.heap[b]? = some (.cells (ws.map wv).toArray t (0, 0))
theorem Arr.cell {w : World} {b : Nat} {t : TypeId} {ws : List Nat} (h : Arr w b t ws) (i : Nat) (hi : i < ws.length) : w.cell? ⟨b, i, none⟩ = some (.int .u32 ((ws.getD i 0 : Nat) : Int)) := by
  unfold Arr at h
  rw [cell_of_row w b i _ t (0, 0) h]
  simp [wv, hi]
theorem Arr.frozen {w : World} {b : Nat} {t : TypeId} {ws : List Nat} (h : Arr w b t ws) (i : Nat) : w.frozen? ⟨b, i, none⟩ = false := by
  unfold Arr at h
  simp [World.frozen?, h]
theorem Arr.set {w : World} {b : Nat} {t : TypeId} {ws : List Nat} (h : Arr w b t ws) (i x : Nat) : Arr (w.setCell ⟨b, i, none⟩ (.int .u32 (x : Int))) b t (ws.set i x) := by
  unfold Arr at h ⊢
  have : (ws.set i x).map wv = (ws.map wv).set i (wv x) := by rw [List.map_set]
  rw [this]
  simp [World.setCell, Array.getElem?_modify, h, wv]
theorem Arr.other {w w' : World} {b : Nat} {t : TypeId} {ws : List Nat} (h : Arr w b t ws) (hb : w'.heap[b]? = w.heap[b]?) : Arr w' b t ws := by
  unfold Arr at h ⊢
  rw [hb]; exact h
theorem Arr.set_other {w : World} {b : Nat} {t : TypeId} {ws : List Nat} (h : Arr w b t ws) (p : Addr) (v : Value) (hp : b ≠ p.block) : Arr (w.setCell p v) b t ws :=
  h.other (Below.heap_setCell w p v b hp)
theorem Arr.drew {w : World} {b : Nat} {t : TypeId} {ws : List Nat} (h : Arr w b t ws) : Arr w.drew b t ws := h
theorem Arr.drewN {w : World} {b : Nat} {t : TypeId} {ws : List Nat} (h : Arr w b t ws) (n : Nat) : Arr (w.drewN n) b t ws := h
theorem Arr.lt {w : World} {b : Nat} {t : TypeId} {ws : List Nat} (h : Arr w b t ws) : b < w.heap.size := (Array.getElem?_eq_some_iff.1 h).1
theorem Arr.alloc {w : World} {b : Nat} {t : TypeId} {ws : List Nat} (h : Arr w b t ws) (o : Obj) : Arr (w.alloc o) b t ws := h.other (Below.heap_alloc w o b h.lt)


theorem Arr.setRow {w : World} {b : Nat} {t : TypeId} {ws : List Nat} (h : Arr w b t ws) (ws' : List Nat) : Arr (w.setRow b (ws'.map wv).toArray) b t ws' := by
  unfold Arr at h ⊢
  exact setRow_heap w b _ _ t _ h
theorem heap_setRow_ne (w : World) (g : Nat) (cs : Array Value) (k : Nat) (h : k ≠ g) : (w.setRow g cs).heap[k]? = w.heap[k]? := by
  simp [World.setRow, Array.getElem?_modify, Ne.symm h]
theorem Arr.setRow_other {w : World} {b : Nat} {t : TypeId} {ws : List Nat} (h : Arr w b t ws) (g : Nat) (cs : Array Value) (hg : b ≠ g) : Arr (w.setRow g cs) b t ws :=
  h.other (heap_setRow_ne w g cs b hg)
theorem below_setRow {B : Nat} {w0 w : World} (h : Below B w0 w) (g : Nat) (hg : B ≤ g) (cs : Array Value) : Below B w0 (w.setRow g cs) :=
  h.trans ⟨rfl, rfl, rfl, by simp, fun k hk => heap_setRow_ne w g cs k (by omega)⟩
theorem wv_one (ws : List Nat) : (ws.map wv).toArray.all (·.oneCell') = true := by simp [wv, Value.oneCell']

section
variable {P : Program} {ops : Array Oper} {rest : List Oper} {o : Oper} {a : Act} {w : World} {Q : Exit → Act → World → Prop}
theorem Arr.load_step {b : Nat} {t : TypeId} {ws : List Nat} (h : Arr w b t ws) (hgd : o.guard = none) (ty n e : TypeId) (x : Operand) (ho : o.op = .load ty x) (hx : a.eval x = .pointer (some ⟨b, 0, none⟩))
    (hu : P.underlying ty = some (.array n e)) (hi : (P.info? ty).map (·.size) = some n) (hl : ws.length = n)
    (k : wpList P ops Q rest (a.put o.dst (.agg (ws.map wv).toArray)) w) : wpList P ops Q (o :: rest) a w :=
  wpList_load_row hgd ty x ho b hx t _ (0, 0) _ h hu rfl (by rw [hi]; simp [hl]) k
theorem Arr.store_step {b : Nat} {t : TypeId} {ws ws' : List Nat} (h : Arr w b t ws) (hgd : o.guard = none) (ty n : TypeId) (x y : Operand) (ho : o.op = .store ty x y) (hx : a.eval x = .pointer (some ⟨b, 0, none⟩))
    (hy : a.eval y = .agg (ws'.map wv).toArray) (hi : (P.info? ty).map (·.size) = some n) (hl : ws.length = n) (hl' : ws'.length = n)
    (k : wpList P ops Q rest (a.put o.dst undef) (w.setRow b (ws'.map wv).toArray)) : wpList P ops Q (o :: rest) a w :=
  wpList_store_row hgd ty x y ho b _ hx hy t _ h (by rw [hi]; simp [hl']) (by simp [hl, hl']) (wv_one ws') k
theorem Arr.result {b : Nat} {t : TypeId} {ws : List Nat} (h : Arr w b t ws) {fn : Func} {p : Tmp} {ty n e : TypeId} (hr : fn.results = #[.cell p ty]) (tmps : Array Value) (hp : tmps.getD p undef = .pointer (some ⟨b, 0, none⟩))
    (hu : P.underlying ty = some (.array n e)) (hi : (P.info? ty).map (·.size) = some n) (hl : ws.length = n) : (results fn tmps).run P w = .ok (.agg (ws.map wv).toArray) w :=
  results_cell_row hr tmps w b t _ (0, 0) _ hp h hu rfl (by rw [hi]; simp [hl])
theorem grown_setRow (w : World) (b : Nat) (cs : Array Value) : w.grownBy (w.setRow b cs) (some b) :=
  ⟨rfl, rfl, rfl, by simp, fun k _ hk => heap_setRow_ne w b cs k (fun e => hk (by rw [e]))⟩
theorem grown_setCell (w : World) (p : Addr) (v : Value) : w.grownBy (w.setCell p v) (some p.block) :=
  ⟨rfl, rfl, rfl, by simp, fun k _ hk => Below.heap_setCell w p v k (fun e => hk (by rw [e]))⟩
theorem Arr.kept {w w' : World} {b : Nat} {t : TypeId} {ws : List Nat} {row : Option Nat} (h : Arr w b t ws) (hg : w.grownBy w' row) (hr : some b ≠ row) : Arr w' b t ws := h.other (hg.block b h.lt hr)
theorem Arr.below {B : Nat} {w w' : World} {b : Nat} {t : TypeId} {ws : List Nat} (h : Arr w b t ws) (hb : Below B w w') (hB : b < B) : Arr w' b t ws := h.other (hb.block b hB)
theorem Arr.store_on {b : Nat} {t : TypeId} {ws ws' : List Nat} (h : Arr w b t ws) (hgd : o.guard = none) (ty n : TypeId) (x y : Operand) (ho : o.op = .store ty x y) (hx : a.eval x = .pointer (some ⟨b, 0, none⟩))
    (hy : a.eval y = .agg (ws'.map wv).toArray) (hi : (P.info? ty).map (·.size) = some n) (hl : ws.length = n) (hl' : ws'.length = n)
    (k : ∀ w2, Arr w2 b t ws' → w.grownBy w2 (some b) → w2.heap.size = w.heap.size → wpList P ops Q rest (a.put o.dst undef) w2) : wpList P ops Q (o :: rest) a w :=
  h.store_step hgd ty n x y ho hx hy hi hl hl' (k _ (h.setRow ws') (grown_setRow w b _) (by simp))
theorem Arr.result2 {b : Nat} {t : TypeId} {ws : List Nat} (h : Arr w b t ws) {fn : Func} {p q : Tmp} {ty n e : TypeId} (hr : fn.results = #[.cell p ty, .tmp q]) (tmps : Array Value) (hp : tmps.getD p undef = .pointer (some ⟨b, 0, none⟩))
    (hu : P.underlying ty = some (.array n e)) (hi : (P.info? ty).map (·.size) = some n) (hl : ws.length = n) : (results fn tmps).run P w = .ok (.tuple #[.agg (ws.map wv).toArray, tmps.getD q undef]) w := by
  have hp' : tmps[p]?.getD undef = .pointer (some ⟨b, 0, none⟩) := by simpa using hp
  simp [results, hr, hp', asAddr, run_loadVar_row w b t ty _ (0, 0) _ h hu rfl (by rw [hi]; simp [hl])]
end
end Go.Proofs.YtjokfllldcjheaaGreatDoor.Sha
/- SHA-256: sha.spread lays a piece's 64 words. -/
namespace Go.Proofs.YtjokfllldcjheaaGreatDoor.Sha
open Go.RowKit
set_option linter.unusedVariables false
set_option linter.unusedSimpArgs false

theorem right_w (x : Nat) (n : Int) (w : World) (hx : x < 4294967296) (hn : turnable n = true) :
    Calls Tryz.prog 152 #[.int .u32 (x : Int), .int .i64 n] w fun e w' => e = .returned (.int .u32 ((rotr x n : Nat) : Int)) ∧ w' = w :=
  (right_calls x n w hx hn).mono fun e w' h => ⟨h.1, h.2.symm⟩

theorem cell_keep {wr : World} {b i j : Nat} {v u : Value} (h : wr.cell? ⟨b, i, none⟩ = some u) (hne : ¬ j = i) : ((wr.setCell ⟨b, j, none⟩ v).drew.drew).cell? ⟨b, i, none⟩ = some u :=
  (World.cell?_setCell_other (w := wr) (a := ⟨b, j, none⟩) (b := ⟨b, i, none⟩) (v := v) (fun e => hne (congrArg Addr.off e))).trans h

set_option maxHeartbeats 4000000 in
set_option maxRecDepth 100000 in
theorem spread_calls (g o n c : Nat) (bs : List UInt8) (w : World) (hn : 64 ≤ n) (hb : ∀ i, i < 64 → w.cell? ⟨g, o + i, none⟩ = some (.int .u8 ((byt bs i : Nat) : Int))) (hg : g < w.heap.size) :
    Calls Tryz.prog 151 #[.slice (some ⟨g, o, none⟩) n c] w fun e w' => e = .returned (.agg ((sched bs 48).map wv).toArray) ∧ Below w.heap.size w w' := by
  have hb' := Lib.hid hb
  clear hb
  go_enter Tryz.func151, Tryz.ntmps151
  go_wp2
  go_loopw [8] (fun i wr => ∃ k : Nat, k ≤ 16 ∧ i = .int .i64 k ∧ Hid (Arr wr w.heap.size 224 (List.replicate 64 0)) ∧ Hid (Arr wr (w.heap.size + 1) 224 (fill1 bs k)) ∧ Hid (Below w.heap.size w wr)) (fun i _ => 16 - (intOf i).toNat)
  case atStart =>
    refine ⟨0, by omega, rfl, ?_, ?_, ((Below.refl _ _).alloc (Nat.le_refl _) _).alloc (by simp) _⟩
    · exact Lib.hid (Arr.alloc (ws := List.replicate 64 0) (show (w.alloc (.cells ((List.replicate 64 0).map wv).toArray 224)).heap[w.heap.size]? = some _ from heap_alloc_new w _) _)
    · have := heap_alloc_new (w.alloc (.cells ((List.replicate 64 0).map wv).toArray 224)) (.cells ((List.replicate 64 0).map wv).toArray 224)
      rw [show (w.alloc (.cells ((List.replicate 64 0).map wv).toArray 224)).heap.size = w.heap.size + 1 by simp] at this
      exact this
  case round =>
    obtain ⟨k, hk, rfl, H1, H2, HB⟩ := hrel
    by_cases hlt : k < 16
    · have e0 : (0 : Int) ≤ (k : Int) := by omega
      have e1 : (k : Int) < 64 := by omega
      have e2 : (4 : Int) * (k : Int) + 3 < (n : Int) := by omega
      have cb : ∀ i, i < 64 → wr.cell? ⟨g, o + i, none⟩ = some (.int .u8 ((byt bs i : Nat) : Int)) := fun i hi => (HB.out.cell (p := ⟨g, o + i, none⟩) hg).trans (hb'.out i hi)
      have c0 := cb (4 * k) (by omega)
      have c1 := cb (4 * k + 1) (by omega)
      have c2 := cb (4 * k + 2) (by omega)
      have c3 := cb (4 * k + 3) (by omega)
      have hw := word_bits _ _ _ _ (byt_lt bs (4 * k)) (byt_lt bs (4 * k + 1)) (byt_lt bs (4 * k + 2)) (byt_lt bs (4 * k + 3))
      have HW := Lib.hid hw
      have hset := Lib.hid (fill1_set bs k hlt)
      have hl := fill1_length bs k (by omega)
      have l := H2.out.cell k (by rw [hl]; omega)
      have f := H2.out.frozen k
      have d0 := byt_lt bs (4 * k)
      have d1 := byt_lt bs (4 * k + 1)
      have d2 := byt_lt bs (4 * k + 2)
      have d3 := byt_lt bs (4 * k + 3)
      clear cb hw hl
      go_wp2
      go_region
      go_wp2
      go_roundw
      case rel =>
        rw [HW.out]
        refine ⟨k + 1, by omega, by go_num, (H1.out.set_other _ _ (by simp)).drew, ?_, (HB.out.setCell (by simp) _).drew⟩
        have := (H2.out.set k (word4 bs k)).drew
        rw [hset.out] at this
        exact this
      case measure => simp [intOf]; omega
    · obtain rfl : k = 16 := by omega
      rw [fill1_16] at H2
      rw [show (((16 : Nat) : Int)) = 16 from rfl]
      clear hk hlt
      go_wp2
      go_loopw [5] (fun i wr => ∃ k : Nat, k ≤ 48 ∧ i = .int .i64 ((16 + k : Nat) : Int) ∧ Hid (Arr wr w.heap.size 224 (List.replicate 64 0)) ∧ Hid (Arr wr (w.heap.size + 1) 224 (fill2 bs k)) ∧ Hid (Below w.heap.size w wr)) (fun i _ => 64 - (intOf i).toNat)
      case atStart =>
        exact ⟨0, by omega, rfl, H1, H2, HB⟩
      case round =>
        obtain ⟨k, hk, rfl, H1, H2, HB⟩ := hrel
        by_cases hlt : k < 48
        · have e0 : (0 : Int) ≤ 16 + (k : Int) := by omega
          have e1 : 16 + (k : Int) < 64 := by omega
          have hl := fill2_length bs k (by omega)
          have hs := sched_lt bs k
          have q0 : (sched bs k).getD k 0 < 4294967296 := getD_lt32 hs _
          have q1 : (sched bs k).getD (16 + k - 15) 0 < 4294967296 := getD_lt32 hs _
          have q7 : (sched bs k).getD (16 + k - 7) 0 < 4294967296 := getD_lt32 hs _
          have q2 : (sched bs k).getD (16 + k - 2) 0 < 4294967296 := getD_lt32 hs _
          have c0 := H2.out.cell k (by omega)
          have c1 := H2.out.cell (16 + k - 15) (by omega)
          have c7 := H2.out.cell (16 + k - 7) (by omega)
          have c2 := H2.out.cell (16 + k - 2) (by omega)
          have l := H2.out.cell (16 + k) (by omega)
          have f := H2.out.frozen (16 + k)
          rw [fill2_get bs k _ (by omega)] at c0 c1 c7 c2
          have hn : nextW (sched bs k) = ((sched bs k).getD k 0 + sml0 ((sched bs k).getD (16 + k - 15) 0) + (sched bs k).getD (16 + k - 7) 0 + sml1 ((sched bs k).getD (16 + k - 2) 0)) % 4294967296 := by
            unfold nextW; rw [sched_length, show 16 + k - 16 = k by omega]
          have hset := fill2_set bs k hlt
          rw [hn] at hset
          clear hs hl hn
          generalize (sched bs k).getD k 0 = x0 at *
          generalize (sched bs k).getD (16 + k - 15) 0 = x1 at *
          generalize (sched bs k).getD (16 + k - 7) 0 = x7 at *
          generalize (sched bs k).getD (16 + k - 2) 0 = x2 at *
          have HS := Lib.hid hset
          have HX := Lib.hid (next_bits x0 x1 x7 x2 q0 q1 q7 q2)
          clear hset
          go_wp2
          go_region
          go_wp2
          have z16 : IntKind.i64.wrap (16 + (k : Int) - 16) = (k : Int) := by rw [IntWalk.i64_in _ (by omega)]; omega
          have z7 : IntKind.i64.wrap (16 + (k : Int) - 7) = 9 + (k : Int) := by rw [IntWalk.i64_in _ (by omega)]; omega
          have y0 : (0 : Int) ≤ (k : Int) := by omega
          have y1 : (k : Int) < 64 := by omega
          have y2 : (0 : Int) ≤ 9 + (k : Int) := by omega
          have y3 : 9 + (k : Int) < 64 := by omega
          have y4 : (9 + (k : Int)).toNat = 9 + k := by omega
          have c7' : wr.cell? ⟨w.heap.size + 1, 9 + k, none⟩ = some (.int .u32 (x7 : Int)) := by rw [show 9 + k = 16 + k - 7 by omega]; exact c7
          have y5 : (16 + (k : Int)).toNat = 16 + k := by omega
          generalize (fill2 bs k).getD (16 + k) 0 = yl at l
          have n1 : ¬ (16 + k = k) := by omega
          have n2 : ¬ (16 + k = 9 + k) := by omega
          have n3 : ¬ (k = 16 + k) := by omega
          have n4 : ¬ (9 + k = 16 + k) := by omega
          go_region_held3 (fun w' => w'.cell? ⟨w.heap.size + 1, k, none⟩ = some (.int .u32 (x0 : Int)) ∧ w'.cell? ⟨w.heap.size + 1, 9 + k, none⟩ = some (.int .u32 (x7 : Int))) (first | (go_keep; done) | exact ⟨cell_keep c0 n1, cell_keep c7' n2⟩)
            (first | (go_at_call 152; refine (right_w _ _ _ ?_ rfl).mono ?_; assumption; rintro e w' ⟨rfl, rfl⟩))
          go_wp2
          go_roundw
          case rel =>
            rw [HX.out]
            refine ⟨k + 1, by omega, by go_num, (H1.out.set_other _ _ (by simp)).drew.drew, ?_, (HB.out.setCell (by simp) _).drew.drew⟩
            have := (H2.out.set (16 + k) ((x0 + sml0 x1 + x7 + sml1 x2) % 4294967296)).drew.drew
            rw [HS.out] at this
            exact this
          case measure => simp [intOf]; omega
        · obtain rfl : k = 48 := by omega
          have hl := Lib.hid (fill2_length bs 48 (by omega))
          have he : fill2 bs 48 = sched bs 48 := by simp [fill2]
          rw [he] at H2 hl
          clear hk hlt he
          go_wp2_with (first
            | (refine Arr.load_step H2.out rfl 224 64 200 _ rfl rfl Tryz.underlying224 (by kernel_rfl) hl.out ?_)
            | (refine Arr.store_step H1.out rfl 224 64 _ _ rfl rfl rfl (by kernel_rfl) (by simp) hl.out ?_))
          exact bodyPost_ret (v := .agg ((sched bs 48).map wv).toArray) (Arr.result (H1.out.setRow _) rfl _ rfl Tryz.underlying224 (by kernel_rfl) hl.out) rfl ⟨rfl, below_setRow HB.out _ (Nat.le_refl _) _⟩
end Go.Proofs.YtjokfllldcjheaaGreatDoor.Sha
/- SHA-256: the method take of sha.chain takes a piece. -/
namespace Go.Proofs.YtjokfllldcjheaaGreatDoor.Sha
open Go.RowKit
set_option linter.unusedVariables false
set_option linter.unusedSimpArgs false

/-- an array of eight words -/
def w8 (ws : List Nat) : Value := .agg (ws.map wv).toArray

theorem eight {l : List Nat} (hl : l.length = 8) (hw : Words l) : ∃ a b c d e f g h, l = [a, b, c, d, e, f, g, h] ∧ a < 4294967296 ∧ b < 4294967296 ∧ c < 4294967296 ∧ d < 4294967296 ∧ e < 4294967296 ∧ f < 4294967296 ∧ g < 4294967296 ∧ h < 4294967296 := by
  match l, hl, hw with
  | [a, b, c, d, e, f, g, h], _, hw => exact ⟨a, b, c, d, e, f, g, h, rfl, hw a (by simp), hw b (by simp), hw c (by simp), hw d (by simp), hw e (by simp), hw f (by simp), hw g (by simp), hw h (by simp)⟩

theorem round_val (a b c d e f g h k w : Nat) :
    Value.agg #[.int .u32 ((((t1W e f g h k w : Nat) : Int) + ((t2W a b c : Nat) : Int)) % 4294967296), .int .u32 (a : Int), .int .u32 (b : Int), .int .u32 (c : Int), .int .u32 (((d : Int) + ((t1W e f g h k w : Nat) : Int)) % 4294967296), .int .u32 (e : Int), .int .u32 (f : Int), .int .u32 (g : Int)] =
      .agg ((roundW [a, b, c, d, e, f, g, h] k w).map wv).toArray := by
  simp [roundW, wv]
theorem below_drewN {B : Nat} {w W : World} (h : Below B w W) (n : Nat) : Below B w (W.drewN n) := ⟨h.os, h.tape, h.output, h.size, h.block⟩

set_option maxHeartbeats 2000000 in
set_option maxRecDepth 100000 in
theorem take_calls (c ks : List Nat) (kb : Nat) (g o n cp : Nat) (bs : List UInt8) (w : World) (hc8 : c.length = 8) (hcw : Words c) (hks : Arr w kb 224 ks) (hk64 : ks.length = 64) (hkw : Words ks) (hn : 64 ≤ n)
    (hb : ∀ i, i < 64 → w.cell? ⟨g, o + i, none⟩ = some (.int .u8 ((byt bs i : Nat) : Int))) (hg : g < w.heap.size) :
    Calls Tryz.prog 145 #[w8 c, .pointer (some ⟨kb, 0, none⟩), .slice (some ⟨g, o, none⟩) n cp] w fun e w' => e = .returned (w8 (takeW c ks bs)) ∧ Below w.heap.size w w' := by
  obtain ⟨c0, c1, c2, c3, c4, c5, c6, c7, rfl, -⟩ := eight hc8 hcw
  have HB0 := Lib.hid hb
  have HK := Lib.hid hks
  have HK64 := Lib.hid hk64
  have HC := Lib.hid hcw
  clear hb hks hk64 hc8 hcw
  show Calls Tryz.prog 145 #[.agg #[.int .u32 c0, .int .u32 c1, .int .u32 c2, .int .u32 c3, .int .u32 c4, .int .u32 c5, .int .u32 c6, .int .u32 c7], _, _] w _
  go_enter Tryz.func145, Tryz.ntmps145
  go_wp2_with fail
  have hB2 : Below w.heap.size w ((w.alloc (.cells #[.int .u32 c0, .int .u32 c1, .int .u32 c2, .int .u32 c3, .int .u32 c4, .int .u32 c5, .int .u32 c6, .int .u32 c7] 202)).alloc (.cells #[.int .u32 0, .int .u32 0, .int .u32 0, .int .u32 0, .int .u32 0, .int .u32 0, .int .u32 0, .int .u32 0] 202)) :=
    ((Below.refl _ _).alloc (Nat.le_refl _) _).alloc (by simp) _
  refine (spread_calls g o n cp bs _ hn (fun i hi => (hB2.cell (p := ⟨g, o + i, none⟩) hg).trans (HB0.out i hi)) (by simp; omega)).mono ?_
  rintro e w1 ⟨rfl, hb1⟩
  have H3 : Arr w1 w.heap.size 202 [c0, c1, c2, c3, c4, c5, c6, c7] := Arr.below (Arr.alloc (ws := [c0, c1, c2, c3, c4, c5, c6, c7]) (heap_alloc_new w _) _) hb1 (by simp; omega)
  have H6 : Arr w1 (w.heap.size + 1) 202 (List.replicate 8 0) := by
    refine Arr.below (B := w.heap.size + 1 + 1) (w := (w.alloc _).alloc _) ?_ (by simpa using hb1) (by omega)
    have := heap_alloc_new (w.alloc (.cells #[.int .u32 c0, .int .u32 c1, .int .u32 c2, .int .u32 c3, .int .u32 c4, .int .u32 c5, .int .u32 c6, .int .u32 c7] 202)) (.cells #[.int .u32 0, .int .u32 0, .int .u32 0, .int .u32 0, .int .u32 0, .int .u32 0, .int .u32 0, .int .u32 0] 202)
    rw [show (w.alloc (.cells #[.int .u32 c0, .int .u32 c1, .int .u32 c2, .int .u32 c3, .int .u32 c4, .int .u32 c5, .int .u32 c6, .int .u32 c7] 202)).heap.size = w.heap.size + 1 by simp] at this
    exact this
  have hz : w.heap.size + 2 ≤ w1.heap.size := by have := hb1.size; simpa using this
  have HB1 : Below w.heap.size w w1 := hB2.trans (hb1.mono (by simp; omega))
  clear hb1 hB2
  have H3' := Lib.hid H3
  have H6' := Lib.hid H6
  have HB1' := Lib.hid HB1
  clear H3 H6 HB1
  have hsl := Lib.hid (sched_length bs 48)
  have HN : Arr (w1.alloc (.cells ((List.replicate 64 0).map wv).toArray 224)) w1.heap.size 224 (List.replicate 64 0) := heap_alloc_new w1 _
  have HN' := Lib.hid HN
  clear HN
  go_upto_region 2 with (((with_reducible show wpList _ _ _ ({ dst := _, op := Op.store _ _ _, type := _, pos := _, after := _, guard := _ } :: _) _ _); refine Arr.store_on (ws := List.replicate 64 0) (ws' := sched bs 48) (b := w1.heap.size) (t := 224) HN'.out rfl 224 64 _ _ rfl rfl rfl (by kernel_rfl) (by simp) hsl.out ?_; intro w2 h7 hg2 hz2))
  have h3 : Arr w2 w.heap.size 202 [c0, c1, c2, c3, c4, c5, c6, c7] := (H3'.out.alloc _).kept hg2 (by simp; omega)
  have h6 : Arr w2 (w.heap.size + 1) 202 (List.replicate 8 0) := (H6'.out.alloc _).kept hg2 (by simp; omega)
  have hb2 : Below w.heap.size w w2 := (HB1'.out.alloc (by omega) _).grown hg2 (by simp; omega) (fun k hk => by injection hk with hk; omega)
  have hz2' : w2.heap.size = w1.heap.size + 1 := by simpa using hz2
  have H7 := Lib.hid h7
  have H3 := Lib.hid h3
  have H6 := Lib.hid h6
  have HB2 := Lib.hid hb2
  have HZ2 := Lib.hid hz2'
  clear HN' H3' H6' HB1' h7 h3 h6 hb2 hg2 hz2 hz2' hsl
  obtain ⟨b7, hb7⟩ : ∃ b7, w1.heap.size = b7 := ⟨_, rfl⟩
  rw [hb7] at hz H7 HZ2 ⊢
  go_upto_region 3 with (first
    | ((with_reducible show wpList _ _ _ ({ dst := _, op := Op.load 202 _, type := _, pos := _, after := _, guard := _ } :: _) _ _); refine Arr.load_step (ws := [c0, c1, c2, c3, c4, c5, c6, c7]) (t := 202) H3.out rfl 202 8 200 _ rfl rfl Tryz.underlying202 (by kernel_rfl) rfl ?_)
    | ((with_reducible show wpList _ _ _ ({ dst := _, op := Op.store 202 _ _, type := _, pos := _, after := _, guard := _ } :: _) _ _); refine Arr.store_on (ws := List.replicate 8 0) (ws' := [c0, c1, c2, c3, c4, c5, c6, c7]) (b := w2.heap.size) (t := 202) (heap_alloc_new w2 _) rfl 202 8 _ _ rfl rfl rfl (by kernel_rfl) rfl rfl ?_; intro w3 h8 hg3 hz3))
  have HZ2' := HZ2.out
  have h3 : Arr w3 w.heap.size 202 [c0, c1, c2, c3, c4, c5, c6, c7] := (H3.out.alloc _).kept hg3 (by simp; omega)
  have h6 : Arr w3 (w.heap.size + 1) 202 (List.replicate 8 0) := (H6.out.alloc _).kept hg3 (by simp; omega)
  have h7 : Arr w3 b7 224 (sched bs 48) := (H7.out.alloc _).kept hg3 (by simp; omega)
  have hb3 : Below w.heap.size w w3 := (HB2.out.alloc (by omega) _).grown hg3 (by simp; omega) (fun k hk => by injection hk with hk; omega)
  have hb8 : w2.heap.size = b7 + 1 := HZ2'
  rw [hb8] at h8 ⊢
  have H3' := Lib.hid h3
  have H6' := Lib.hid h6
  have H7' := Lib.hid h7
  have H8' := Lib.hid h8
  have HB3 := Lib.hid hb3
  clear h3 h6 h7 h8 hb3 hb8 HZ2' hz3 hg3 H3 H6 H7 HB2 HZ2 w2
  have hz' : w.heap.size + 2 ≤ b7 := by omega
  clear hz hb7 w1
  go_wp2
  go_loopw [18] (fun i wr => ∃ k : Nat, k ≤ 64 ∧ i = .int .i64 k ∧ Hid (Arr wr w.heap.size 202 [c0, c1, c2, c3, c4, c5, c6, c7]) ∧ Hid (Arr wr (w.heap.size + 1) 202 (List.replicate 8 0)) ∧ Hid (Arr wr b7 224 (sched bs 48)) ∧ Hid (Arr wr (b7 + 1) 202 (roundsW [c0, c1, c2, c3, c4, c5, c6, c7] ks (sched bs 48) k)) ∧ Hid (Below w.heap.size w wr)) (fun i _ => 64 - (intOf i).toNat)
  case atStart => exact ⟨0, by omega, rfl, H3', H6', H7', H8', HB3⟩
  case round =>
    clear H3' H6' H7' H8' HB3
    obtain ⟨k, hk, rfl, H3, H6, H7, H8, HB⟩ := hrel
    by_cases hlt : k < 64
    · have e0 : (0 : Int) ≤ (k : Int) := by omega
      have e1 : (k : Int) < 64 := by omega
      have hsl := sched_length bs 48
      have hks : Arr wr kb 224 ks := HK.out.below HB.out HK.out.lt
      have hl8 := roundsW_length (s := [c0, c1, c2, c3, c4, c5, c6, c7]) rfl ks (sched bs 48) k
      have hw8 := roundsW_words HC.out ks (sched bs 48) k
      have hnext : roundsW [c0, c1, c2, c3, c4, c5, c6, c7] ks (sched bs 48) (k + 1) = roundW (roundsW [c0, c1, c2, c3, c4, c5, c6, c7] ks (sched bs 48) k) (ks.getD k 0) ((sched bs 48).getD k 0) := rfl
      generalize roundsW [c0, c1, c2, c3, c4, c5, c6, c7] ks (sched bs 48) k = st at H8 hl8 hw8 hnext
      obtain ⟨a, b, c, d, e, f, g', hh, rfl, la, lb, lc, ld, le, lf, lg, lh⟩ := eight hl8 hw8
      have lk : ks.getD k 0 < 4294967296 := getD_lt32 hkw k
      have lw : (sched bs 48).getD k 0 < 4294967296 := getD_lt32 (sched_lt bs 48) k
      have q0 := H8.out.cell 0 (by simp)
      have q1 := H8.out.cell 1 (by simp)
      have q2 := H8.out.cell 2 (by simp)
      have q3 := H8.out.cell 3 (by simp)
      have q4 := H8.out.cell 4 (by simp)
      have q5 := H8.out.cell 5 (by simp)
      have q6 := H8.out.cell 6 (by simp)
      have q7 := H8.out.cell 7 (by simp)
      simp only [List.getD_cons_zero, List.getD_cons_succ] at q0 q1 q2 q3 q4 q5 q6 q7
      have qk := hks.cell k (by rw [HK64.out]; exact hlt)
      have qw := H7.out.cell k (by omega)
      generalize ks.getD k 0 = kk at lk qk hnext
      generalize (sched bs 48).getD k 0 = ww at lw qw hnext
      have HN := Lib.hid hnext
      have HT1 := Lib.hid (t1_bits e f g' hh kk ww le lf lg)
      have HT2 := Lib.hid (t2_bits a b c la lb lc)
      clear hnext hw8 hl8 hsl hks
      go_wp2
      go_region
      go_wp2
      go_quiet ((go_at_call 152; first | exact quiet_left (right_calls _ _ _ (by assumption) rfl) | exact quiet_add_left (right_calls _ _ _ (by assumption) rfl)))
      rw [HT1.out]
      have lt1 := t1W_lt e f g' hh kk ww
      go_wp2
      go_quiet ((go_at_call 152; first | exact quiet_left (right_calls _ _ _ (by assumption) rfl) | exact quiet_add_left (right_calls _ _ _ (by assumption) rfl)))
      rw [HT2.out]
      have lt2 := t2W_lt a b c
      have HV := Lib.hid (round_val a b c d e f g' hh kk ww)
      go_wp2_with ((with_reducible show wpList _ _ _ ({ dst := _, op := Op.store 202 _ _, type := _, pos := _, after := _, guard := _ } :: _) _ _); refine Arr.store_on (w := wr.drewN _) (ws := [a, b, c, d, e, f, g', hh]) (ws' := roundW [a, b, c, d, e, f, g', hh] kk ww) (b := b7 + 1) (t := 202) (H8.out.drewN _) rfl 202 8 _ _ rfl rfl (by exact HV.out) (by kernel_rfl) rfl rfl ?_; intro w4 h8 hg4 hz4)
      go_roundw
      case rel =>
        refine ⟨k + 1, by omega, by go_num, (H3.out.drewN _).kept hg4 (by simp; omega), (H6.out.drewN _).kept hg4 (by simp; omega), (H7.out.drewN _).kept hg4 (by simp), ?_, ?_⟩
        · rw [HN.out]; exact h8
        · exact (below_drewN HB.out _).grown hg4 (by have := HB.out.size; simpa using this) (fun k hk => by injection hk with hk; omega)
      case measure => simp [intOf]; omega
    · obtain rfl : k = 64 := by omega
      rw [show (((64 : Nat) : Int)) = 64 from rfl]
      have hl8 := roundsW_length (s := [c0, c1, c2, c3, c4, c5, c6, c7]) rfl ks (sched bs 48) 64
      have hw8 := roundsW_words HC.out ks (sched bs 48) 64
      have hT : takeW [c0, c1, c2, c3, c4, c5, c6, c7] ks bs = addW (roundsW [c0, c1, c2, c3, c4, c5, c6, c7] ks (sched bs 48) 64) [c0, c1, c2, c3, c4, c5, c6, c7] 8 := rfl
      have hz0 := addW_zero hl8 [c0, c1, c2, c3, c4, c5, c6, c7]
      generalize hcs : [c0, c1, c2, c3, c4, c5, c6, c7] = cs at H3 H8 hl8 hw8 hT hz0 HC ⊢
      have hcl : cs.length = 8 := by rw [← hcs]; rfl
      generalize roundsW cs ks (sched bs 48) 64 = st at H8 hl8 hw8 hT hz0
      have HT := Lib.hid hT
      have HCS := Lib.hid hcs
      have HL8 := Lib.hid hl8
      have HCL := Lib.hid hcl
      rw [← hz0] at H8
      have HZ0 := Lib.hid hz0
      clear hT hl8 hcl hcs hk hlt hz0
      go_wp2
      go_loopw [100] (fun i wr => ∃ k : Nat, k ≤ 8 ∧ i = .int .i64 k ∧ Hid (Arr wr w.heap.size 202 cs) ∧ Hid (Arr wr (w.heap.size + 1) 202 (List.replicate 8 0)) ∧ Hid (Arr wr (b7 + 1) 202 (addW st cs k)) ∧ Hid (Below w.heap.size w wr)) (fun i _ => 8 - (intOf i).toNat)
      case atStart => exact ⟨0, by omega, rfl, H3, H6, H8, HB⟩
      case round =>
        clear H3 H6 H7 H8 HB
        obtain ⟨k, hk, rfl, H3, H6, H8, HB⟩ := hrel
        by_cases hlt : k < 8
        · have e0 : (0 : Int) ≤ (k : Int) := by omega
          have e1 : (k : Int) < 8 := by omega
          have q0 := H8.out.cell k (by rw [addW_length]; exact hlt)
          have q1 := H3.out.cell k (by rw [HCL.out]; exact hlt)
          have f := H8.out.frozen k
          rw [addW_get st cs k k hlt, if_neg (by omega)] at q0
          have l0 : st.getD k 0 < 4294967296 := getD_lt32 hw8 k
          have l1 : cs.getD k 0 < 4294967296 := getD_lt32 HC.out k
          have HS := Lib.hid (addW_set st cs k hlt)
          go_wp2
          go_region
          go_wp2
          go_roundw
          case rel =>
            refine ⟨k + 1, by omega, by go_num, (H3.out.set_other _ _ (by simp; omega)).drew, (H6.out.set_other _ _ (by simp; omega)).drew, ?_, (HB.out.setCell (by simp; omega) _).drew⟩
            have := (H8.out.set k ((st.getD k 0 + cs.getD k 0) % 4294967296)).drew
            rw [HS.out] at this
            exact Lib.hid (by simpa using this)
          case measure => simp [intOf]; omega
        · obtain rfl : k = 8 := by omega
          have hl := Lib.hid (addW_length st cs 8)
          clear hk hlt
          go_wp2_with (first
            | ((with_reducible show wpList _ _ _ ({ dst := _, op := Op.load 202 _, type := _, pos := _, after := _, guard := _ } :: _) _ _); refine Arr.load_step (ws := addW st cs 8) (t := 202) H8.out rfl 202 8 200 _ rfl rfl Tryz.underlying202 (by kernel_rfl) hl.out ?_)
            | ((with_reducible show wpList _ _ _ ({ dst := _, op := Op.store 202 _ _, type := _, pos := _, after := _, guard := _ } :: _) _ _); refine Arr.store_step (ws := List.replicate 8 0) (ws' := addW st cs 8) (t := 202) H6.out rfl 202 8 _ _ rfl rfl rfl (by kernel_rfl) rfl hl.out ?_))
          exact bodyPost_ret (v := w8 (addW st cs 8)) (Arr.result (H6.out.setRow _) rfl _ rfl Tryz.underlying202 (by kernel_rfl) hl.out) rfl ⟨by rw [HCS.out, HT.out], below_setRow HB.out _ (by omega) _⟩
end Go.Proofs.YtjokfllldcjheaaGreatDoor.Sha
/- SHA-256: the method all of sha.chain takes all whole pieces. -/
namespace Go.Proofs.YtjokfllldcjheaaGreatDoor.Sha
open Go.RowKit
set_option linter.unusedVariables false
set_option linter.unusedSimpArgs false

/-- the state behind n pieces -/
def piecesW (c ks : List Nat) (bs : List UInt8) : Nat → List Nat
  | 0 => c
  | n + 1 => takeW (piecesW c ks bs n) ks (bs.drop (64 * n))
theorem piecesW_words {c : List Nat} (h : Words c) (ks : List Nat) (bs : List UInt8) (n : Nat) : Words (piecesW c ks bs n) := by
  cases n with
  | zero => exact h
  | succ n => exact takeW_words _ _ _
theorem piecesW_length {c : List Nat} (h : c.length = 8) (ks : List Nat) (bs : List UInt8) (n : Nat) : (piecesW c ks bs n).length = 8 := by
  cases n with
  | zero => exact h
  | succ n => exact takeW_length _ _ _
theorem cut_run {P : Program} (t e : TypeId) {i : TypeInfo} (ht : P.underlying t = some (.slice e)) (hi : P.info? e = some i) (hsz : i.size = 1) (A : Option Addr) (n c m : Nat) (z : Int) (hz : z = (m : Int)) (hm : m ≤ n) :
    ∃ A' : Option Addr, (∀ W : World, (Instr.slice t (.slice A n c) (some (.int .i64 z)) none none).run P W = .ok (.slice A' (n - m) (c - m)) W) ∧ (c ≠ m → A' = A.map (·.add m)) := by
  subst hz
  refine ⟨if c = m then A else A.map (·.add m), fun W => ?_, fun h => if_neg h⟩
  have hel : P.elem t = e := by simp [Program.elem, ht]
  have hu : P.underlying t = some (.slice (P.elem t)) := by rw [hel]; exact ht
  rw [run_slice_l W t A n c hu .i64 (m : Int) (Int.natCast_nonneg _) (by omega), hel]
  simp [sizeOf, typeInfo, hi, hsz, sliced, Result.andThen]

theorem info_u8 : (Tryz.prog.info? 5).map (fun i => (i.size)) = some 1 := by kernel_rfl
theorem info_parts1 {t : TypeId} (h : (Tryz.prog.info? t).map (fun i => (i.size)) = some 1) : ∃ i, Tryz.prog.info? t = some i ∧ i.size = 1 := by
  obtain ⟨i, hi, hs⟩ := Option.map_eq_some_iff.1 h
  exact ⟨i, hi, hs⟩

set_option maxHeartbeats 2000000 in
set_option maxRecDepth 100000 in
theorem all_calls (c ks : List Nat) (kb g : Nat) (v : Value) (bs : List UInt8) (w : World) (hc8 : c.length = 8) (hcw : Words c) (hks : Arr w kb 224 ks) (hk64 : ks.length = 64) (hkw : Words ks) (hv : RB w g v bs) :
    Calls Tryz.prog 129 #[w8 c, .pointer (some ⟨kb, 0, none⟩), v] w fun e w' => ∃ v', e = .returned (.tuple #[w8 (piecesW c ks bs (bs.length / 64)), v']) ∧ RB w' g v' (bs.drop (64 * (bs.length / 64))) ∧ Below w.heap.size w w' := by
  obtain ⟨A, cp, o, rfl, hcap, hcm, hread⟩ := hv
  obtain ⟨iu, hiu, hsu⟩ := info_parts1 info_u8
  have HR := Lib.hid hread
  have HK := Lib.hid hks
  have HC8 := Lib.hid hc8
  have HK64 := Lib.hid hk64
  have HIU := Lib.hid hiu
  have HSU := Lib.hid hsu
  clear hread hks hk64 hiu hsu hc8
  obtain ⟨len, hlen⟩ : ∃ len, bs.length = len := ⟨_, rfl⟩
  rw [hlen] at hcap HR ⊢
  have HL := Lib.hid hlen
  clear hlen
  obtain ⟨c0, c1, c2, c3, c4, c5, c6, c7, hce, -⟩ := eight HC8.out hcw
  have hshow : w8 c = .agg #[.int .u32 c0, .int .u32 c1, .int .u32 c2, .int .u32 c3, .int .u32 c4, .int .u32 c5, .int .u32 c6, .int .u32 c7] := by rw [hce]; rfl
  rw [hshow]
  have H3 : Arr (w.alloc (.cells #[.int .u32 c0, .int .u32 c1, .int .u32 c2, .int .u32 c3, .int .u32 c4, .int .u32 c5, .int .u32 c6, .int .u32 c7] 202)) w.heap.size 202 c := by rw [hce]; exact heap_alloc_new w _
  have HCE := Lib.hid hce
  have H3' := Lib.hid H3
  clear hshow hce H3
  go_enter Tryz.func129, Tryz.ntmps129
  go_wp2
  go_loopw [2] (fun v wr => ∃ (k : Nat) (A : Option Addr) (n cp : Nat), v = .slice A n cp ∧ Hid (n + 64 * k = len) ∧ n ≤ cp ∧ cp ≤ 9223372036854775807 ∧ Hid (0 < n → A = some ⟨g, o + 64 * k, none⟩) ∧ Hid (Arr wr w.heap.size 202 (piecesW c ks bs k)) ∧ Hid (Arr wr (w.heap.size + 1) 202 (List.replicate 8 0)) ∧ Hid (Below w.heap.size w wr)) (fun v _ => sliceLen v)
  case atStart =>
    refine ⟨0, A, len, cp, rfl, by simp [Hid], hcap, hcm, fun h => (HR.out h).1, H3'.out.alloc _, ?_, ((Below.refl _ _).alloc (Nat.le_refl _) _).alloc (by simp) _⟩
    have := heap_alloc_new (w.alloc (.cells #[.int .u32 c0, .int .u32 c1, .int .u32 c2, .int .u32 c3, .int .u32 c4, .int .u32 c5, .int .u32 c6, .int .u32 c7] 202)) (.cells #[.int .u32 0, .int .u32 0, .int .u32 0, .int .u32 0, .int .u32 0, .int .u32 0, .int .u32 0, .int .u32 0] 202)
    rw [show (w.alloc (.cells #[.int .u32 c0, .int .u32 c1, .int .u32 c2, .int .u32 c3, .int .u32 c4, .int .u32 c5, .int .u32 c6, .int .u32 c7] 202)).heap.size = w.heap.size + 1 by simp] at this
    exact this
  case round =>
    obtain ⟨k, A, n, cp, rfl, HN, hncp, hcpm, HA, H3, H6, HB⟩ := hrel
    by_cases hlt : 64 ≤ n
    · have e0 : (64 : Int) ≤ (n : Int) := by omega
      obtain rfl := HA.out (by omega)
      have hn := HN.out
      have HD : (bs.drop (64 * k)).length = n := by rw [List.length_drop, HL.out]; omega
      have hgl := (HR.out (by omega)).2.1
      have hrd : ∀ i, i < 64 → wr.cell? ⟨g, (o + 64 * k) + i, none⟩ = some (.int .u8 ((byt (bs.drop (64 * k)) i : Nat) : Int)) := fun i hi => by
        rw [byt_drop, HB.out.cell (p := ⟨g, (o + 64 * k) + i, none⟩) hgl, Nat.add_assoc]
        exact (HR.out (by omega)).2.2 (64 * k + i) (by omega)
      have hB1 := HB.out.size
      have hB2 := H6.out.lt
      obtain ⟨A', hcut, hA'⟩ := cut_run (P := Tryz.prog) 128 5 Tryz.underlying128 HIU.out HSU.out (some ⟨g, o + 64 * k, none⟩) n cp 64 64 rfl hlt
      have HA' := Lib.hid hA'
      have HRD := Lib.hid hrd
      have hgl' : g < wr.heap.size := by omega
      have hks : Arr wr kb 224 ks := HK.out.below HB.out HK.out.lt
      have HKS := Lib.hid hks
      have hl8 := Lib.hid (piecesW_length HC8.out ks bs k)
      have hw8 := Lib.hid (piecesW_words hcw ks bs k)
      clear hn HD hrd hA' hks
      go_wp2_with (first
        | ((with_reducible show wpList _ _ _ ({ dst := _, op := Op.load 202 _, type := _, pos := _, after := _, guard := _ } :: _) _ _); refine Arr.load_step (ws := piecesW c ks bs k) (t := 202) H3.out rfl 202 8 200 _ rfl rfl Tryz.underlying202 (by kernel_rfl) hl8.out ?_)
        | (go_at_call 145; refine (take_calls (piecesW c ks bs k) ks kb g (o + 64 * k) n cp (bs.drop (64 * k)) wr hl8.out hw8.out HKS.out HK64.out hkw hlt HRD.out hgl').mono ?_; rintro e w1 ⟨rfl, hb1⟩)
        | ((with_reducible show wpList _ _ _ ({ dst := _, op := Op.store 202 _ _, type := _, pos := _, after := _, guard := _ } :: _) _ _); refine Arr.store_on (ws := piecesW c ks bs k) (ws' := takeW (piecesW c ks bs k) ks (bs.drop (64 * k))) (t := 202) (H3.out.below hb1 (by omega)) rfl 202 8 _ _ rfl rfl rfl (by kernel_rfl) hl8.out (takeW_length _ _ _) ?_; intro w4 h8 hg4 hz4))
      go_roundw
      case rel =>
        refine ⟨k + 1, A', n - 64, cp - 64, rfl, ?_, by omega, by omega, ?_, h8, (H6.out.below hb1 (by omega)).kept hg4 (by simp), ?_⟩
        · have := HN.out
          exact Lib.hid (by omega)
        · refine Lib.hid fun h => ?_
          rw [HA'.out (by omega)]
          simp [Addr.add, Nat.mul_add, Nat.add_assoc]
        · exact (HB.out.trans (hb1.mono hB1)).grown hg4 (by have := hb1.size; omega) (fun k hk => by injection hk with hk; omega)
      case measure => simp [sliceLen]; omega
    · have e0 : ¬ (64 : Int) ≤ (n : Int) := by omega
      have hk : k = len / 64 := by have := HN.out; omega
      have hl8 := Lib.hid (piecesW_length HC8.out ks bs k)
      have HK2 := Lib.hid hk
      clear hk
      go_wp2_with (first
        | ((with_reducible show wpList _ _ _ ({ dst := _, op := Op.load 202 _, type := _, pos := _, after := _, guard := _ } :: _) _ _); refine Arr.load_step (ws := piecesW c ks bs k) (t := 202) H3.out rfl 202 8 200 _ rfl rfl Tryz.underlying202 (by kernel_rfl) hl8.out ?_)
        | ((with_reducible show wpList _ _ _ ({ dst := _, op := Op.store 202 _ _, type := _, pos := _, after := _, guard := _ } :: _) _ _); refine Arr.store_step (ws := List.replicate 8 0) (ws' := piecesW c ks bs k) (t := 202) H6.out rfl 202 8 _ _ rfl rfl rfl (by kernel_rfl) rfl hl8.out ?_))
      refine bodyPost_ret (v := .tuple #[.agg ((piecesW c ks bs k).map wv).toArray, .slice A n cp]) (Arr.result2 (fn := Tryz.f129) (p := 6) (q := 7) (ty := 202) (H6.out.setRow _) rfl _ rfl Tryz.underlying202 (by kernel_rfl) hl8.out) rfl ⟨.slice A n cp, by rw [← HK2.out]; rfl, ?_, below_setRow HB.out _ (by omega) _⟩
      have hn := HN.out
      have hk2 := HK2.out
      have hl := HL.out
      have hd : (bs.drop (64 * (len / 64))).length = n := by rw [List.length_drop, hl]; omega
      refine ⟨A, cp, o + 64 * k, by rw [hd], by omega, hcpm, fun h => ?_⟩
      rw [hd] at h ⊢
      have hgl := (HR.out (by omega)).2.1
      have hB1 := HB.out.size
      refine ⟨HA.out h, by simp; omega, fun i hi => ?_⟩
      have e1 : ((wr.setRow (w.heap.size + 1) ((piecesW c ks bs k).map wv).toArray)).cell? ⟨g, o + 64 * k + i, none⟩ = w.cell? ⟨g, o + 64 * k + i, none⟩ :=
        (below_setRow HB.out (w.heap.size + 1) (by omega) _).cell (p := ⟨g, o + 64 * k + i, none⟩) hgl
      rw [e1, byt_drop, ← hk2, Nat.add_assoc]
      exact (HR.out (by omega)).2.2 (64 * k + i) (by omega)
end Go.Proofs.YtjokfllldcjheaaGreatDoor.Sha
/- SHA-256: sha.end lays what stands behind a text. -/
namespace Go.Proofs.YtjokfllldcjheaaGreatDoor.Sha
open Go.RowKit
set_option linter.unusedVariables false
set_option linter.unusedSimpArgs false

/-- zeros behind the mark -/
def padZ (n : Nat) : Nat := (120 - n % 64) % 64
/-- a number's eight bytes, the highest first -/
def be8 (x : Nat) : List UInt8 := [UInt8.ofNat (x / 2 ^ 56), UInt8.ofNat (x / 2 ^ 48), UInt8.ofNat (x / 2 ^ 40), UInt8.ofNat (x / 2 ^ 32), UInt8.ofNat (x / 2 ^ 24), UInt8.ofNat (x / 2 ^ 16), UInt8.ofNat (x / 2 ^ 8), UInt8.ofNat x]
def be8to (x j : Nat) : List UInt8 := (be8 x).take j
/-- what stands behind the pieces -/
def endW (bs : List UInt8) (m : Nat) : List UInt8 := bs ++ [128] ++ List.replicate (padZ (bs.length + 1)) 0 ++ be8 (8 * m)

theorem be8_shift (x j : Nat) (hx : x < 1000000000000) (hj : j < 8) :
    8 * (x : Int) / 2 ^ (8 * (7 - j)) % 256 = (((be8 (8 * x)).getD j 0).toNat : Int) := by
  have h : j = 0 ∨ j = 1 ∨ j = 2 ∨ j = 3 ∨ j = 4 ∨ j = 5 ∨ j = 6 ∨ j = 7 := by omega
  rcases h with rfl | rfl | rfl | rfl | rfl | rfl | rfl | rfl <;> simp [be8]
theorem be8_snoc (x j : Nat) (hj : j < 8) : (be8 x).take j ++ [(be8 x).getD j 0] = (be8 x).take (j + 1) := by
  have h : j = 0 ∨ j = 1 ∨ j = 2 ∨ j = 3 ∨ j = 4 ∨ j = 5 ∨ j = 6 ∨ j = 7 := by omega
  rcases h with rfl | rfl | rfl | rfl | rfl | rfl | rfl | rfl <;> rfl

set_option maxHeartbeats 2000000 in
set_option maxRecDepth 100000 in
theorem end_calls (g : Nat) (v : Value) (bs : List UInt8) (m : Nat) (w : World) (hv : RB w g v bs) (hl : bs.length ≤ 1000000) (hm : m ≤ 1000000000) :
    Calls Tryz.prog 130 #[v, .int .i64 (m : Int)] w fun e w' => ∃ v' g', e = .returned v' ∧ RB w' g' v' (endW bs m) ∧ Below w.heap.size w w' := by
  have HV := Lib.hid hv
  have HN := Lib.hid (OB.nil w w.heap.size)
  clear hv
  go_enter Tryz.func130, Tryz.ntmps130
  go_upto_region 2 with (first
    | (at_builtin; refine OB.append_on (base := w.heap.size) HN.out HV.out rfl _ _ rfl rfl rfl (Nat.le_refl _) (by simp; omega) ?_; intro v1 w1 h1 hg1 hat1; clear HN)
    | (at_builtin; refine OB.append_on (base := w.heap.size) (w := w1.alloc _) (OB.alloc h1 _) (RB.lit w1 [128] _ rfl _ rfl (by decide)) rfl _ _ rfl rfl rfl (by simp; have := hg1.size; omega) (by simp; omega) ?_; intro v2 w2 h2 hg2 hat2))
  have hsz1 := hg1.size
  have hsz2 : w.heap.size ≤ w2.heap.size := by have := hg2.size; simp at this; omega
  have hb1 : Below w.heap.size w w1 := (Below.refl _ _).grown hg1 (Nat.le_refl _) (fun k hk => by simp [Value.ownBlock] at hk)
  have hb2 : Below w.heap.size w w2 := (hb1.alloc hsz1 _).grown hg2 (by simp; omega) (OB.base h1)
  have H2 : Hid (OB w2 w.heap.size v2 (bs ++ [128] ++ List.replicate 0 0)) := by simpa [Hid] using h2
  have HB2 := Lib.hid hb2
  clear h1 hg1 hat1 h2 hg2 hat2 hb1 hb2 hsz1 hsz2
  go_loopw [5] (fun u wr => ∃ z : Nat, Hid (z ≤ padZ (bs.length + 1)) ∧ Hid (OB wr w.heap.size u (bs ++ [128] ++ List.replicate z 0)) ∧ Hid (Below w.heap.size w wr)) (fun u _ => bs.length + 1 + padZ (bs.length + 1) - sliceLen u)
  case atStart => exact ⟨0, Nat.zero_le _, H2, HB2⟩
  case round =>
    clear H2 HB2
    obtain ⟨z, hz, HO, HB⟩ := hrel
    obtain ⟨g1, hr1, -⟩ := HO.out.reads
    obtain ⟨A, c, o, hu, hc1, hc2, -⟩ := hr1
    have hlen : (bs ++ [128] ++ List.replicate z (0 : UInt8)).length = bs.length + 1 + z := by simp; omega
    rw [hlen] at hu hc1
    subst hu
    have hzb : padZ (bs.length + 1) < 64 := Nat.mod_lt _ (by omega)
    have hbw := HB.out.size
    by_cases hlt : z < padZ (bs.length + 1)
    · have ht : (((bs.length : Int) + 1 + (z : Int)) % 64 == 56) = false := by
        rw [beq_eq_false_iff_ne]
        unfold padZ at hlt
        omega
      have ht2 : (((bs.length : Int) + 1 + (z : Int)) % 64 != 56) = true := by rw [bne, ht]; rfl
      have HZ := Lib.hid hlt
      have hzl : z ≤ 100 := by omega
      clear hlt hlen
      go_wp2_with (at_builtin; refine OB.append_on (base := w.heap.size) (w := wr.alloc _) (OB.alloc HO.out _) (RB.lit wr [0] _ rfl _ rfl (by decide)) rfl _ _ rfl rfl rfl (by simp; omega) (by simp; omega) ?_; intro v1 w1 h1 hg1 hat1)
      have hz1 := HZ.out
      refine ⟨⟨z + 1, Lib.hid (by omega), ?_, Lib.hid ((HB.out.alloc hbw _).grown hg1 (by simp; omega) (OB.base HO.out))⟩, ?_⟩
      · have e : bs ++ [128] ++ List.replicate (z + 1) (0 : UInt8) = bs ++ [128] ++ List.replicate z 0 ++ [0] := by
          rw [List.replicate_succ', ← List.append_assoc]
        rw [e]
        exact h1
      · rw [h1.len]
        simp [sliceLen]
        omega
    · have hz1 := hz.out
      have ht : (((bs.length : Int) + 1 + (z : Int)) % 64 == 56) = true := by
        rw [beq_iff_eq]
        have : z = padZ (bs.length + 1) := by omega
        rw [this]
        unfold padZ
        omega
      have ht2 : (((bs.length : Int) + 1 + (z : Int)) % 64 != 56) = false := by rw [bne, ht]; rfl
      have hze : z = padZ (bs.length + 1) := by omega
      have HZ := Lib.hid hze
      have hzl : z ≤ 100 := by omega
      have hmI : (m : Int) ≤ 1000000000 := by omega
      clear hlt hlen hze hz1 hz
      go_wp2
      obtain ⟨u, hu⟩ : ∃ u, Value.slice A (bs.length + 1 + z) c = u := ⟨_, rfl⟩
      rw [hu] at HO ⊢
      clear hu hc1 hc2
      go_loopw [5, 6] (fun u i wr => ∃ (j : Nat), i = .int .i64 (7 - (j : Int)) ∧ j ≤ 8 ∧ Hid (OB wr w.heap.size u (bs ++ [128] ++ List.replicate z 0 ++ (be8 (8 * m)).take j)) ∧ Hid (Below w.heap.size w wr)) (fun _ i _ => (intOf i + 1).toNat)
      case atStart => exact ⟨0, rfl, by omega, by simpa [Hid] using HO, HB⟩
      case round =>
        clear HO HB hbw
        obtain ⟨j, rfl, hj, HO, HB⟩ := hrel
        have hbw := HB.out.size
        by_cases hlt : j < 8
        · have e1 : (0 : Int) ≤ 7 - (j : Int) := by omega
          have hlen : (bs ++ [128] ++ List.replicate z (0 : UInt8) ++ (be8 (8 * m)).take j).length = bs.length + 1 + z + j := by simp [be8]; omega
          have HLEN := Lib.hid hlen
          clear hlen
          have HBE := Lib.hid (be8_shift m j (by omega) hlt)
          have HRL := Lib.hid (RB.lit wr [(be8 (8 * m)).getD j 0] #[.int .u8 (8 * (m : Int) / 2 ^ (8 * (7 - j)) % 256)] (by rw [HBE.out]; rfl) 1 rfl (by simp))
          have HSN := Lib.hid (be8_snoc (8 * m) j hlt)
          go_wp2_with (at_builtin; refine OB.append_on (base := w.heap.size) (w := wr.alloc _) (OB.alloc HO.out _) HRL.out rfl _ _ rfl rfl rfl (by simp; omega) (by rw [HLEN.out]; simp; omega) ?_; intro v1 w1 h1 hg1 hat1)
          go_roundw
          case rel =>
            refine ⟨j + 1, by go_num, by omega, ?_, Lib.hid ((HB.out.alloc hbw _).grown hg1 (by simp; omega) (OB.base HO.out))⟩
            rw [← HSN.out, ← List.append_assoc]
            exact h1
          case measure => simp [intOf]; omega
        · obtain rfl : j = 8 := by omega
          clear hlt hj
          have e1 : ¬ (0 : Int) ≤ 7 - ((8 : Nat) : Int) := by omega
          have e2 : ¬ (0 : Int) ≤ -1 := by omega
          go_wp2
          go_ret
          obtain ⟨g2, hr2, -⟩ := HO.out.reads
          refine ⟨_, rfl, ⟨g2, ?_⟩, HB.out⟩
          unfold endW
          rw [← HZ.out]
          exact hr2
end Go.Proofs.YtjokfllldcjheaaGreatDoor.Sha
/- SHA-256: the state in memory; sha.k, sha.New, Len. -/
namespace Go.Proofs.YtjokfllldcjheaaGreatDoor.Sha
open Go.RowKit
set_option linter.unusedVariables false
set_option linter.unusedSimpArgs false

/-- the words of the rounds, and of the first state -/
def K64 : List Nat := [1116352408, 1899447441, 3049323471, 3921009573, 961987163, 1508970993, 2453635748, 2870763221,
  3624381080, 310598401, 607225278, 1426881987, 1925078388, 2162078206, 2614888103, 3248222580,
  3835390401, 4022224774, 264347078, 604807628, 770255983, 1249150122, 1555081692, 1996064986,
  2554220882, 2821834349, 2952996808, 3210313671, 3336571891, 3584528711, 113926993, 338241895,
  666307205, 773529912, 1294757372, 1396182291, 1695183700, 1986661051, 2177026350, 2456956037,
  2730485921, 2820302411, 3259730800, 3345764771, 3516065817, 3600352804, 4094571909, 275423344,
  430227734, 506948616, 659060556, 883997877, 958139571, 1322822218, 1537002063, 1747873779,
  1955562222, 2024104815, 2227730452, 2361852424, 2428436474, 2756734187, 3204031479, 3329325298]
def H8 : List Nat := [1779033703, 3144134277, 1013904242, 2773480762, 1359893119, 2600822924, 528734635, 1541459225]
theorem K64_length : K64.length = 64 := by decide
theorem K64_words : Words K64 := by unfold Words; decide
theorem H8_words : Words H8 := by unfold Words; decide

/-- v is nil and has no bytes, or it has just the bytes of block rb -/
def RestAt (w : World) (sb rb : Nat) (v : Value) (rest : List UInt8) : Prop :=
  (v = .slice none 0 0 ∧ rest = []) ∨ (v = .slice (some ⟨rb, 0, none⟩) rest.length rest.length ∧ w.heap[rb]? = some (.cells (bcells rest).toArray 5 (0, 0)) ∧ rb ≠ sb)
/-- a state's cells -/
def stCells (c : List Nat) (kb : Nat) (v : Value) (m : Nat) : List Value := c.map wv ++ [.pointer (some ⟨kb, 0, none⟩), v, .int .i64 (m : Int)]
/-- block sb is a state -/
structure St (w : World) (sb kb rb : Nat) (v : Value) (c : List Nat) (rest : List UInt8) (m : Nat) : Prop where
  len : c.length = 8
  words : Words c
  blk : w.heap[sb]? = some (.cells (stCells c kb v m).toArray 206 (0, 0))
  tab : Arr w kb 224 K64
  row : RestAt w sb rb v rest
  ne : kb ≠ sb

theorem RestAt.other {w w' : World} {sb rb : Nat} {v : Value} {rest : List UInt8} (h : RestAt w sb rb v rest) (hb : rb < w.heap.size → w'.heap[rb]? = w.heap[rb]?) : RestAt w' sb rb v rest := by
  rcases h with h | ⟨h1, h2, h3⟩
  · exact .inl h
  · exact .inr ⟨h1, by rw [hb (Array.getElem?_eq_some_iff.1 h2).1]; exact h2, h3⟩
theorem RestAt.reads {w : World} {sb rb : Nat} {v : Value} {rest : List UInt8} (h : RestAt w sb rb v rest) (hl : rest.length ≤ 9223372036854775807) : RB w rb v rest := by
  rcases h with ⟨rfl, rfl⟩ | ⟨rfl, h2, _⟩
  · exact ⟨none, 0, 0, rfl, by simp, by simp, fun h => by simp at h⟩
  · refine ⟨_, _, 0, rfl, Nat.le_refl _, hl, fun _ => ⟨rfl, (Array.getElem?_eq_some_iff.1 h2).1, fun i hi => ?_⟩⟩
    rw [cell_of_row w rb (0 + i) _ 5 (0, 0) h2]
    simpa using bcells_get rest i hi
theorem St.lt {w : World} {sb kb rb : Nat} {v : Value} {c : List Nat} {rest : List UInt8} {m : Nat} (h : St w sb kb rb v c rest m) : sb < w.heap.size := (Array.getElem?_eq_some_iff.1 h.blk).1
/-- what turns neither the state, nor its table, nor its rest, keeps it -/
theorem St.other {w w' : World} {sb kb rb : Nat} {v : Value} {c : List Nat} {rest : List UInt8} {m : Nat} (h : St w sb kb rb v c rest m) (h1 : w'.heap[sb]? = w.heap[sb]?) (h2 : w'.heap[kb]? = w.heap[kb]?) (h3 : rb < w.heap.size → w'.heap[rb]? = w.heap[rb]?) : St w' sb kb rb v c rest m :=
  ⟨h.len, h.words, by rw [h1]; exact h.blk, h.tab.other h2, h.row.other h3, h.ne⟩
theorem St.later {w w' : World} {sb kb rb : Nat} {v : Value} {c : List Nat} {rest : List UInt8} {m : Nat} (h : St w sb kb rb v c rest m) (hb : Below w.heap.size w w') : St w' sb kb rb v c rest m :=
  h.other (hb.block sb h.lt) (hb.block kb h.tab.lt) (fun hr => hb.block rb hr)
theorem St.cell {w : World} {sb kb rb : Nat} {v : Value} {c : List Nat} {rest : List UInt8} {m : Nat} (h : St w sb kb rb v c rest m) (i : Nat) (u : Value) (hu : (stCells c kb v m)[i]? = some u) : w.cell? ⟨sb, i, none⟩ = some u := by
  rw [cell_of_row w sb i _ 206 (0, 0) h.blk]
  simpa using hu
theorem St.frozen {w : World} {sb kb rb : Nat} {v : Value} {c : List Nat} {rest : List UInt8} {m : Nat} (h : St w sb kb rb v c rest m) (i : Nat) : w.frozen? ⟨sb, i, none⟩ = false := by
  simp [World.frozen?, h.blk]

set_option maxHeartbeats 8000000 in
set_option maxRecDepth 100000 in
theorem k_calls (w : World) :
    Calls Tryz.prog 128 #[] w fun e w' => e = .returned (.pointer (some ⟨w.heap.size, 0, none⟩)) ∧ w' = w.alloc (.cells (K64.map wv).toArray 224) := by
  go_enter Tryz.func128, Tryz.ntmps128
  go_wp2
  go_ret
  exact ⟨rfl, rfl⟩

set_option maxRecDepth 100000 in
theorem new_calls (w : World) :
    Calls Tryz.prog 101 #[] w fun e w' => e = .returned (.pointer (some ⟨w.heap.size + 1, 0, none⟩)) ∧ St w' (w.heap.size + 1) w.heap.size 0 (.slice none 0 0) H8 [] 0 ∧ Below w.heap.size w w' := by
  go_enter Tryz.func101, Tryz.ntmps101
  go_wp2_with (go_at_call 128; refine (k_calls w).mono ?_; rintro e w' ⟨rfl, rfl⟩)
  go_ret
  refine ⟨rfl, ⟨rfl, H8_words, ?_, ?_, .inl ⟨rfl, rfl⟩, by omega⟩, ((Below.refl _ _).alloc (Nat.le_refl _) _).alloc (by simp) _⟩
  · have := heap_alloc_new (w.alloc (.cells (K64.map wv).toArray 224)) (.cells (stCells H8 w.heap.size (.slice none 0 0) 0).toArray 206)
    rw [show (w.alloc (.cells (K64.map wv).toArray 224)).heap.size = w.heap.size + 1 by simp] at this
    exact this
  · exact Arr.alloc (heap_alloc_new w _) _

end Go.Proofs.YtjokfllldcjheaaGreatDoor.Sha
/- SHA-256: the method Write of sha.State writes texts. -/
namespace Go.Proofs.YtjokfllldcjheaaGreatDoor.Sha
open Go.RowKit
set_option linter.unusedVariables false
set_option linter.unusedSimpArgs false

/-! ### plain facts on pieces -/
theorem word4_congr {xs ys : List UInt8} (h : ∀ i, i < 64 → byt xs i = byt ys i) (i : Nat) (hi : i < 16) : word4 xs i = word4 ys i := by
  unfold word4
  rw [h _ (by omega), h _ (by omega), h _ (by omega), h _ (by omega)]
theorem sched_congr {xs ys : List UInt8} (h : ∀ i, i < 64 → byt xs i = byt ys i) (n : Nat) : sched xs n = sched ys n := by
  induction n with
  | zero =>
    simp only [sched]
    exact List.map_congr_left fun i hi => word4_congr h i (List.mem_range.1 hi)
  | succ n ih => simp only [sched, ih]
theorem takeW_congr (c ks : List Nat) {xs ys : List UInt8} (h : ∀ i, i < 64 → byt xs i = byt ys i) : takeW c ks xs = takeW c ks ys := by
  unfold takeW
  rw [sched_congr h]
theorem byt_append (xs ys : List UInt8) (i : Nat) (h : i < xs.length) : byt (xs ++ ys) i = byt xs i := by
  simp [byt, List.getD_eq_getElem?_getD, List.getElem?_append_left h]
theorem piecesW_append (c ks : List Nat) (xs ys : List UInt8) (n : Nat) (h : 64 * n ≤ xs.length) : piecesW c ks (xs ++ ys) n = piecesW c ks xs n := by
  induction n with
  | zero => rfl
  | succ n ih =>
    simp only [piecesW]
    rw [ih (by omega)]
    exact takeW_congr _ _ fun i hi => by rw [byt_drop, byt_drop, byt_append _ _ _ (by omega)]
theorem piecesW_add (c ks : List Nat) (xs : List UInt8) (a b : Nat) : piecesW c ks xs (a + b) = piecesW (piecesW c ks xs a) ks (xs.drop (64 * a)) b := by
  induction b with
  | zero => rfl
  | succ b ih =>
    rw [← Nat.add_assoc]
    simp only [piecesW]
    rw [ih, List.drop_drop, Nat.mul_add]
/-- the state behind a text, and what is left of it -/
def cW (txt : List UInt8) : List Nat := piecesW H8 K64 txt (txt.length / 64)
def restW (txt : List UInt8) : List UInt8 := txt.drop (64 * (txt.length / 64))
theorem restW_length (txt : List UInt8) : (restW txt).length = txt.length % 64 := by
  unfold restW; rw [List.length_drop]; omega
theorem cW_words (txt : List UInt8) : Words (cW txt) := piecesW_words H8_words _ _ _
theorem cW_length (txt : List UInt8) : (cW txt).length = 8 := piecesW_length rfl _ _ _
theorem cW_append (txt t : List UInt8) : cW (txt ++ t) = piecesW (cW txt) K64 (restW txt ++ t) ((restW txt ++ t).length / 64) := by
  have e : restW txt ++ t = (txt ++ t).drop (64 * (txt.length / 64)) := by
    unfold restW
    rw [List.drop_append_of_le_length (by omega)]
  have e1 : cW txt = piecesW H8 K64 (txt ++ t) (txt.length / 64) := by
    unfold cW
    rw [piecesW_append _ _ _ _ _ (by omega)]
  have e2 : (txt ++ t).length / 64 = txt.length / 64 + (restW txt ++ t).length / 64 := by
    rw [List.length_append, List.length_append, restW_length]; omega
  rw [e1, e, ← piecesW_add, ← e, ← e2]
  rfl
theorem restW_append (txt t : List UInt8) : restW (txt ++ t) = (restW txt ++ t).drop (64 * ((restW txt ++ t).length / 64)) := by
  have e : restW txt ++ t = (txt ++ t).drop (64 * (txt.length / 64)) := by
    unfold restW
    rw [List.drop_append_of_le_length (by omega)]
  have e2 : (txt ++ t).length / 64 = txt.length / 64 + (restW txt ++ t).length / 64 := by
    rw [List.length_append, List.length_append, restW_length]; omega
  rw [e, List.drop_drop]
  unfold restW
  rw [e2, Nat.mul_add, ← e]

/-! ### what a store into a state does -/
theorem block_setCell {w : World} {b i : Nat} {cs : List Value} {t : TypeId} {v : Value} (h : w.heap[b]? = some (.cells cs.toArray t (0, 0))) : (w.setCell ⟨b, i, none⟩ v).heap[b]? = some (.cells (cs.set i v).toArray t (0, 0)) := by
  simp [World.setCell, Array.getElem?_modify, h]
theorem St.setM {w : World} {sb kb rb : Nat} {v : Value} {c : List Nat} {rest : List UInt8} {m : Nat} (h : St w sb kb rb v c rest m) (hr : rb ≠ sb ∨ v = .slice none 0 0) (m' : Nat) : St (w.setCell ⟨sb, 10, none⟩ (.int .i64 (m' : Int))) sb kb rb v c rest m' := by
  refine ⟨h.len, h.words, ?_, h.tab.set_other _ _ h.ne, ?_, h.ne⟩
  · rw [block_setCell h.blk]
    have e : (stCells c kb v m).set 10 (.int .i64 (m' : Int)) = stCells c kb v m' := by
      unfold stCells
      rw [List.set_append_right _ _ (by simp [h.len])]
      simp [h.len]
    rw [e]
  · rcases h.row with hn | ⟨h1, h2, h3⟩
    · exact .inl hn
    · exact .inr ⟨h1, by rw [Below.heap_setCell w _ _ rb h3]; exact h2, h3⟩
theorem St.ne_row {w : World} {sb kb rb : Nat} {v : Value} {c : List Nat} {rest : List UInt8} {m : Nat} (h : St w sb kb rb v c rest m) : rb ≠ sb ∨ v = .slice none 0 0 := by
  rcases h.row with ⟨h1, _⟩ | ⟨_, _, h3⟩
  · exact .inr h1
  · exact .inl h3

/-- the cells of a state, as the walk asks them -/
def S10 (w : World) (sb kb : Nat) (v : Value) (a0 a1 a2 a3 a4 a5 a6 a7 : Nat) : Prop :=
  w.cell? ⟨sb, 0, none⟩ = some (.int .u32 (a0 : Int)) ∧ w.cell? ⟨sb, 1, none⟩ = some (.int .u32 (a1 : Int)) ∧ w.cell? ⟨sb, 2, none⟩ = some (.int .u32 (a2 : Int)) ∧ w.cell? ⟨sb, 3, none⟩ = some (.int .u32 (a3 : Int)) ∧ w.cell? ⟨sb, 4, none⟩ = some (.int .u32 (a4 : Int)) ∧ w.cell? ⟨sb, 5, none⟩ = some (.int .u32 (a5 : Int)) ∧ w.cell? ⟨sb, 6, none⟩ = some (.int .u32 (a6 : Int)) ∧ w.cell? ⟨sb, 7, none⟩ = some (.int .u32 (a7 : Int)) ∧ w.cell? ⟨sb, 8, none⟩ = some (.pointer (some ⟨kb, 0, none⟩)) ∧ w.cell? ⟨sb, 9, none⟩ = some v
theorem St.cells {w : World} {sb kb rb : Nat} {v : Value} {c : List Nat} {rest : List UInt8} {m : Nat} (h : St w sb kb rb v c rest m) {a0 a1 a2 a3 a4 a5 a6 a7 : Nat} (hce : c = [a0, a1, a2, a3, a4, a5, a6, a7]) : S10 w sb kb v a0 a1 a2 a3 a4 a5 a6 a7 :=
  ⟨h.cell 0 _ (by rw [hce]; rfl), h.cell 1 _ (by rw [hce]; rfl), h.cell 2 _ (by rw [hce]; rfl), h.cell 3 _ (by rw [hce]; rfl), h.cell 4 _ (by rw [hce]; rfl), h.cell 5 _ (by rw [hce]; rfl), h.cell 6 _ (by rw [hce]; rfl), h.cell 7 _ (by rw [hce]; rfl), h.cell 8 _ (by rw [hce]; rfl), h.cell 9 _ (by rw [hce]; rfl)⟩
theorem S10.later {w w' : World} {sb kb : Nat} {v : Value} {a0 a1 a2 a3 a4 a5 a6 a7 : Nat} (h : S10 w sb kb v a0 a1 a2 a3 a4 a5 a6 a7) (hb : w'.heap[sb]? = w.heap[sb]?) : S10 w' sb kb v a0 a1 a2 a3 a4 a5 a6 a7 := by
  have e : ∀ i, w'.cell? ⟨sb, i, none⟩ = w.cell? ⟨sb, i, none⟩ := fun i => World.cell?_of_block (a := ⟨sb, i, none⟩) hb
  unfold S10 at h ⊢
  simp only [e]
  exact h

/-- the call of all, its words written out -/
theorem all_calls8 (c : List Nat) (kb g : Nat) (v : Value) (bs : List UInt8) (w : World) {a0 a1 a2 a3 a4 a5 a6 a7 : Nat} (hce : c = [a0, a1, a2, a3, a4, a5, a6, a7]) (hcw : Words c) (hks : Arr w kb 224 K64) (hv : RB w g v bs) :
    Calls Tryz.prog 129 #[.agg #[.int .u32 (a0 : Int), .int .u32 (a1 : Int), .int .u32 (a2 : Int), .int .u32 (a3 : Int), .int .u32 (a4 : Int), .int .u32 (a5 : Int), .int .u32 (a6 : Int), .int .u32 (a7 : Int)], .pointer (some ⟨kb, 0, none⟩), v] w fun e w' => ∃ (b0 b1 b2 b3 b4 b5 b6 b7 : Nat) (v' : Value),
      e = .returned (.tuple #[.agg #[.int .u32 (b0 : Int), .int .u32 (b1 : Int), .int .u32 (b2 : Int), .int .u32 (b3 : Int), .int .u32 (b4 : Int), .int .u32 (b5 : Int), .int .u32 (b6 : Int), .int .u32 (b7 : Int)], v']) ∧ Hid (piecesW c K64 bs (bs.length / 64) = [b0, b1, b2, b3, b4, b5, b6, b7]) ∧ Hid (RB w' g v' (bs.drop (64 * (bs.length / 64)))) ∧ Hid (Below w.heap.size w w') := by
  have h := all_calls c K64 kb g v bs w (by rw [hce]; rfl) hcw hks K64_length K64_words hv
  have e : w8 c = .agg #[.int .u32 (a0 : Int), .int .u32 (a1 : Int), .int .u32 (a2 : Int), .int .u32 (a3 : Int), .int .u32 (a4 : Int), .int .u32 (a5 : Int), .int .u32 (a6 : Int), .int .u32 (a7 : Int)] := by rw [hce]; rfl
  rw [e] at h
  refine h.mono ?_
  rintro r w' ⟨v', rfl, h1, h2⟩
  obtain ⟨b0, b1, b2, b3, b4, b5, b6, b7, hb, -⟩ := eight (piecesW_length (by rw [hce]; rfl) K64 bs (bs.length / 64)) (piecesW_words hcw K64 bs (bs.length / 64))
  exact ⟨b0, b1, b2, b3, b4, b5, b6, b7, v', by rw [hb]; rfl, hb, h1, h2⟩

/-! ### append of a string onto a row that has just its bytes -/
theorem exact_append_gen {P : Program} (t u : TypeId) (ht : P.underlying t = some (.slice 5)) (hu : P.underlying u = some .string) (hinfo : (P.info? 5).map (fun i => (i.zero, i.size, i.bytes)) = some (some (.int .u8 0), 1, 1))
    {w : World} {sb rb : Nat} {v : Value} {rest : List UInt8} (h : RestAt w sb rb v rest) (s : ByteArray) (ty : TypeId) (hl : rest.length + s.size ≤ 140737488355328) :
    ∃ g v1 w1, (Builtin.append_ #[t, u] ty #[v, .string s]).run P w = .ok v1 w1 ∧ RB w1 g v1 (rest ++ s.data.toList) ∧ Below w.heap.size w w1 ∧ (rest ++ s.data.toList = [] ∨ (g = rb ∧ rest ≠ []) ∨ w.heap.size ≤ g) := by
  obtain ⟨i0, hi, hzz⟩ := Option.map_eq_some_iff.1 hinfo
  simp only [Prod.mk.injEq] at hzz
  obtain ⟨hz0, hz1, hz2⟩ := hzz
  have hsl : s.data.toList.length = s.size := by rw [Array.length_toList]; rfl
  rcases h with ⟨rfl, rfl⟩ | ⟨rfl, h2, h3⟩
  · obtain ⟨v1, w1, hr, k2, k3, k4⟩ := Lib.run_append_own_string (P := P) w w.heap.size t u ty 5 i0 ht hu hi hz0 hz1 hz2 (.slice none 0 0) 0 [] (World.ownsRow_nil w w.heap.size 5 1) s (by simp only [maxLen]; simp at hl; omega) (by simpa using hl) (Nat.le_refl _)
    have ho : OB w1 w.heap.size v1 s.data.toList := by
      unfold OB
      rw [hsl]
      simpa [strCells_eq] using k2
    obtain ⟨g, hg1, hg2⟩ := ho.reads
    by_cases h0 : s.data.toList = []
    · refine ⟨rb, v1, w1, hr, ?_, ⟨k3.os, k3.tape, k3.output, k3.size, fun i hi => k3.block i hi (by simp [Value.ownBlock])⟩, .inl (by rw [List.nil_append, h0])⟩
      rw [List.nil_append, h0]
      rw [h0] at hg1
      obtain ⟨A, c, o, hv, q1, q2, q3⟩ := hg1
      exact ⟨A, c, o, hv, q1, q2, fun h => by simp at h⟩
    · exact ⟨g, v1, w1, hr, by simpa using hg1, ⟨k3.os, k3.tape, k3.output, k3.size, fun i hi => k3.block i hi (by simp [Value.ownBlock])⟩, .inr (.inr (hg2 (List.length_pos_iff.2 h0)))⟩
  · by_cases h0 : s.size = 0
    · have he : s.data.toList = [] := List.eq_nil_of_length_eq_zero (by rw [hsl]; exact h0)
      have hr := Lib.run_append_room_string (P := P) w t u ty 5 i0 ht hu hi hz1 rb rest.length rest.length (bcells rest).toArray h2 s (by omega) (by simp [bcells_length, h0])
      have hw : w.setRow rb ((bcells rest).toArray.toList.take rest.length ++ Lib.strCells s ++ (bcells rest).toArray.toList.drop (rest.length + s.size)).toArray = w.setRow rb (bcells rest).toArray := by
        congr 2
        have l1 : (bcells rest).take rest.length = bcells rest := List.take_of_length_le (by rw [bcells_length]; exact Nat.le_refl _)
        have l2 : Lib.strCells s = [] := by rw [strCells_eq, he]; rfl
        have l3 : (bcells rest).drop (rest.length + s.size) = [] := List.drop_eq_nil_of_le (by rw [bcells_length]; omega)
        simp only [List.toList_toArray, l1, l2, l3, List.append_nil]
      rw [hw] at hr
      have hbl : (w.setRow rb (bcells rest).toArray).heap[rb]? = some (.cells (bcells rest).toArray 5 (0, 0)) := setRow_heap w rb _ _ _ _ h2
      refine ⟨rb, _, _, hr, ?_, ⟨rfl, rfl, rfl, by simp, fun k hk => ?_⟩, (by by_cases e : rest = []; exact .inl (by rw [e, he]; rfl); exact .inr (.inl ⟨rfl, e⟩))⟩
      · rw [he, List.append_nil, h0, Nat.add_zero]
        exact RestAt.reads (sb := sb) (.inr ⟨rfl, hbl, h3⟩) (by omega)
      · by_cases e : k = rb
        · subst e
          rw [hbl, h2]
        · exact heap_setRow_ne w rb _ k e
    · have hr := Lib.run_append_grow_string (P := P) w t u ty 5 i0 (.int .u8 0) ht hu hi hz0 ⟨rb, 0, none⟩ rest.length rest.length (bcells rest) (by rw [hz1, bcells_length, Nat.mul_one]) (fun j v hv => by
        rw [show (⟨rb, 0, none⟩ : Addr).add j = ⟨rb, j, none⟩ by unfold Addr.add; split <;> simp_all, cell_of_row w rb j _ 5 (0, 0) h2]
        simpa using hv) s (by omega) (by omega) (by rw [hz2]; exact growslice_fits (by omega) (by omega))
      refine ⟨w.heap.size, _, _, hr, ?_, (Below.refl _ _).drew.alloc (Nat.le_refl _) _, .inr (.inr (Nat.le_refl _))⟩
      have hlen : (rest ++ s.data.toList).length = rest.length + s.size := by rw [List.length_append, hsl]
      have hc := grownCap_ge w (rest.length + s.size) rest.length 5
      have hc2 := grownCap_le_maxLen w (rest.length + s.size) rest.length 5 (by simp only [maxLen]; omega)
      refine ⟨some ⟨w.heap.size, 0, none⟩, grownCap w (rest.length + s.size) rest.length 5, 0, by rw [hlen], by rw [hlen]; exact hc, by simpa [maxLen] using hc2, fun _ => ⟨rfl, by simp, fun i hi => ?_⟩⟩
      rw [cell_of_row _ w.heap.size (0 + i) _ 5 (0, 0) (heap_alloc_new w.drew _), strCells_eq]
      have hb := bcells_get (rest ++ s.data.toList) i hi
      rw [bcells_append] at hb
      have hil : i < (bcells rest ++ bcells s.data.toList).length := by rw [← bcells_append, bcells_length]; exact hi
      rw [Nat.zero_add]
      have e : (bcells rest).toArray ++ (bcells s.data.toList).toArray = (bcells rest ++ bcells s.data.toList).toArray := by simp
      rw [e, Array.getElem?_append_left (by simpa using hil)]
      simpa using hb

theorem exact_append {w : World} {sb rb : Nat} {v : Value} {rest : List UInt8} (h : RestAt w sb rb v rest) (s : ByteArray) (ty : TypeId) (hl : rest.length + s.size ≤ 140737488355328) :
    ∃ g v1 w1, (Builtin.append_ #[128, 9] ty #[v, .string s]).run Tryz.prog w = .ok v1 w1 ∧ RB w1 g v1 (rest ++ s.data.toList) ∧ Below w.heap.size w w1 ∧ (rest ++ s.data.toList = [] ∨ (g = rb ∧ rest ≠ []) ∨ w.heap.size ≤ g) :=
  exact_append_gen 128 9 Tryz.underlying128 Tryz.underlying9 infoU8 h s ty hl

/-- at a step of a region that draws -/
theorem append_wp {P : Program} {o : Oper} {a : Act} {w : World} {K : Act → World → Prop} {Q : Exit → Act → World → Prop} {E : Prop} {ops : Array Oper} (hgd : o.guard = none) (s x : Operand) (t t' : TypeId)
    (ho : o.op = .call { callee := .builtin .append, args := #[s, x], argTypes := #[t, t'] }) {v y v1 : Value} {w1 : World} (hs : a.eval s = v) (hx : a.eval x = y)
    (hr : (Builtin.append_ #[t, t'] o.type #[v, y]).run P w = .ok v1 w1) (k : K (a.put o.dst v1) w1) : if Region.wanted o (yielded ops a.tmps) = true then Oper.wp P o a w K Q else E := by
  have hw : Region.wanted o (yielded ops a.tmps) = true := by simp [Region.wanted, hgd]
  rw [if_pos hw]
  unfold Oper.wp execOp
  simp only [ho, resolve, invoke, builtin, Sem.run_bind, Sem.run_pure, Result.andThen_ok, List.map_toArray, List.map_cons, List.map_nil, hs, hx, hr]
  exact k
theorem RestAt.alloc {w : World} {sb rb : Nat} {v : Value} {rest : List UInt8} (h : RestAt w sb rb v rest) (o : Obj) : RestAt (w.alloc o) sb rb v rest := h.other fun hr => Below.heap_alloc w o rb hr
theorem St.alloc {w : World} {sb kb rb : Nat} {v : Value} {c : List Nat} {rest : List UInt8} {m : Nat} (h : St w sb kb rb v c rest m) (o : Obj) : St (w.alloc o) sb kb rb v c rest m := h.later ((Below.refl _ _).alloc (Nat.le_refl _) o)
theorem RB.alloc {w : World} {g : Nat} {v : Value} {bs : List UInt8} (h : RB w g v bs) (o : Obj) : RB (w.alloc o) g v bs := h.later ((Below.refl _ _).alloc (Nat.le_refl _) o)
/-- the append of a string, at a step of a region that draws, at whatever world the region has come to -/
theorem exact_append_wp {o : Oper} {a : Act} {w : World} {K : Act → World → Prop} {Q : Exit → Act → World → Prop} {E : Prop} {ops : Array Oper} (hgd : o.guard = none) (s x : Operand)
    (ho : o.op = .call { callee := .builtin .append, args := #[s, x], argTypes := #[128, 9] }) (v : Value) (sb rb : Nat) (rest : List UInt8) (b : ByteArray) (hs : a.eval s = v) (hx : a.eval x = .string b)
    (hl : rest.length + b.size ≤ 140737488355328) (h : RestAt w sb rb v rest)
    (k : ∀ g v1 w1, Hid (RB w1 g v1 (rest ++ b.data.toList)) → Hid (Below w.heap.size w w1) → Hid (rest ++ b.data.toList = [] ∨ (g = rb ∧ rest ≠ []) ∨ w.heap.size ≤ g) → K (a.put o.dst v1) w1) : if Region.wanted o (yielded ops a.tmps) = true then Oper.wp Tryz.prog o a w K Q else E := by
  obtain ⟨g, v1, w1, hr, h1, h2, h3⟩ := exact_append h b o.type hl
  exact append_wp hgd s x _ _ ho hs hx hr (k g v1 w1 h1 h2 h3)
/-- the eight cells of an array, as the walk asks them -/
theorem Arr.cells8 {w : World} {b : Nat} {t : TypeId} (h : Arr w b t (List.replicate 8 0)) : w.cell? ⟨b, 0, none⟩ = some (.int .u32 0) ∧ w.cell? ⟨b, 1, none⟩ = some (.int .u32 0) ∧ w.cell? ⟨b, 2, none⟩ = some (.int .u32 0) ∧ w.cell? ⟨b, 3, none⟩ = some (.int .u32 0) ∧ w.cell? ⟨b, 4, none⟩ = some (.int .u32 0) ∧ w.cell? ⟨b, 5, none⟩ = some (.int .u32 0) ∧ w.cell? ⟨b, 6, none⟩ = some (.int .u32 0) ∧ w.cell? ⟨b, 7, none⟩ = some (.int .u32 0) ∧
    w.frozen? ⟨b, 0, none⟩ = false ∧ w.frozen? ⟨b, 1, none⟩ = false ∧ w.frozen? ⟨b, 2, none⟩ = false ∧ w.frozen? ⟨b, 3, none⟩ = false ∧ w.frozen? ⟨b, 4, none⟩ = false ∧ w.frozen? ⟨b, 5, none⟩ = false ∧ w.frozen? ⟨b, 6, none⟩ = false ∧ w.frozen? ⟨b, 7, none⟩ = false :=
  ⟨h.cell 0 (by decide), h.cell 1 (by decide), h.cell 2 (by decide), h.cell 3 (by decide), h.cell 4 (by decide), h.cell 5 (by decide), h.cell 6 (by decide), h.cell 7 (by decide), h.frozen 0, h.frozen 1, h.frozen 2, h.frozen 3, h.frozen 4, h.frozen 5, h.frozen 6, h.frozen 7⟩
theorem Arr.set8 {w : World} {b : Nat} {t : TypeId} (h : Arr w b t (List.replicate 8 0)) (b0 b1 b2 b3 b4 b5 b6 b7 : Nat) :
    Arr ((((((((w.setCell ⟨b, 0, none⟩ (.int .u32 (b0 : Int))).setCell ⟨b, 1, none⟩ (.int .u32 (b1 : Int))).setCell ⟨b, 2, none⟩ (.int .u32 (b2 : Int))).setCell ⟨b, 3, none⟩ (.int .u32 (b3 : Int))).setCell ⟨b, 4, none⟩ (.int .u32 (b4 : Int))).setCell ⟨b, 5, none⟩ (.int .u32 (b5 : Int))).setCell ⟨b, 6, none⟩ (.int .u32 (b6 : Int))).setCell ⟨b, 7, none⟩ (.int .u32 (b7 : Int))) b t [b0, b1, b2, b3, b4, b5, b6, b7] :=
  (((((((h.set 0 b0).set 1 b1).set 2 b2).set 3 b3).set 4 b4).set 5 b5).set 6 b6).set 7 b7

/-- eight stores into a block of one's own -/
def set8w (w : World) (b : Nat) (b0 b1 b2 b3 b4 b5 b6 b7 : Nat) : World :=
  ((((((((w.setCell ⟨b, 0, none⟩ (.int .u32 (b0 : Int))).setCell ⟨b, 1, none⟩ (.int .u32 (b1 : Int))).setCell ⟨b, 2, none⟩ (.int .u32 (b2 : Int))).setCell ⟨b, 3, none⟩ (.int .u32 (b3 : Int))).setCell ⟨b, 4, none⟩ (.int .u32 (b4 : Int))).setCell ⟨b, 5, none⟩ (.int .u32 (b5 : Int))).setCell ⟨b, 6, none⟩ (.int .u32 (b6 : Int))).setCell ⟨b, 7, none⟩ (.int .u32 (b7 : Int)))
theorem set8_grown (w : World) (b b0 b1 b2 b3 b4 b5 b6 b7 : Nat) : w.grownBy (set8w w b b0 b1 b2 b3 b4 b5 b6 b7) (some b) := by
  unfold set8w
  exact ((((((((grown_setCell _ ⟨b, 0, none⟩ _).trans (grown_setCell _ ⟨b, 1, none⟩ _)).trans (grown_setCell _ ⟨b, 2, none⟩ _)).trans (grown_setCell _ ⟨b, 3, none⟩ _)).trans (grown_setCell _ ⟨b, 4, none⟩ _)).trans (grown_setCell _ ⟨b, 5, none⟩ _)).trans (grown_setCell _ ⟨b, 6, none⟩ _)).trans (grown_setCell _ ⟨b, 7, none⟩ _))
theorem set8_size (w : World) (b b0 b1 b2 b3 b4 b5 b6 b7 : Nat) : (set8w w b b0 b1 b2 b3 b4 b5 b6 b7).heap.size = w.heap.size := by simp [set8w]
theorem RB.grown {w w' : World} {g : Nat} {v : Value} {bs : List UInt8} (h : RB w g v bs) {row : Option Nat} (hg : w.grownBy w' row) (hr : bs = [] ∨ some g ≠ row) : RB w' g v bs := by
  obtain ⟨A, c, o, hv, h1, h2, h3⟩ := h
  refine ⟨A, c, o, hv, h1, h2, fun hp => ?_⟩
  obtain ⟨q1, q2, q3⟩ := h3 hp
  rcases hr with rfl | hr
  · simp at hp
  · exact ⟨q1, Nat.lt_of_lt_of_le q2 hg.size, fun i hi => hg.cell (q3 i hi) hr⟩
theorem RB.lt {w : World} {g : Nat} {v : Value} {bs : List UInt8} (h : RB w g v bs) : bs = [] ∨ g < w.heap.size := by
  obtain ⟨A, c, o, hv, h1, h2, h3⟩ := h
  by_cases e : bs = []
  · exact .inl e
  · exact .inr (h3 (List.length_pos_iff.2 e)).2.1
theorem RestAt.lt {w : World} {sb rb : Nat} {v : Value} {rest : List UInt8} (h : RestAt w sb rb v rest) (hne : rest ≠ []) : rb < w.heap.size := by
  rcases h with ⟨_, h2⟩ | ⟨_, h2, _⟩
  · exact (hne h2).elim
  · exact (Array.getElem?_eq_some_iff.1 h2).1

/-- what is left of one that was drawn of: the rest, the new words, and what they are -/
def Piece (sb : Nat) (w4 w' : World) (tx t : List UInt8) (n6 g : Nat) (q : Value) (b0 b1 b2 b3 b4 b5 b6 b7 : Nat) : Prop :=
  (restW (tx ++ t) = [] ∨ g ≠ sb) ∧ w4.heap.size ≤ n6 ∧ cW (tx ++ t) = [b0, b1, b2, b3, b4, b5, b6, b7] ∧ Arr w' n6 202 [b0, b1, b2, b3, b4, b5, b6, b7] ∧ RB w' g q (restW (tx ++ t)) ∧ Below w4.heap.size w4 w'
section
variable {w4 w1 w2 : World} {tx t : List UInt8} {g rb sb : Nat} {v v' : Value} {b0 b1 b2 b3 b4 b5 b6 b7 : Nat}
theorem gne {B : Nat} (hra : RestAt w4 sb rb v (restW tx)) (hsb : sb < w4.heap.size) (hle : w4.heap.size ≤ B) (h1 : restW tx ++ t = [] ∨ (g = rb ∧ restW tx ≠ []) ∨ B ≤ g) : restW (tx ++ t) = [] ∨ g ≠ sb := by
  rcases h1 with h1 | ⟨rfl, h1⟩ | h1
  · left; rw [restW_append, h1]; rfl
  · right
    rcases hra with ⟨_, h2⟩ | ⟨_, _, h3⟩
    · exact (h1 h2).elim
    · exact h3
  · right; omega
theorem pieceA (hsb : sb < w4.heap.size) (hra : RestAt w4 sb rb v (restW tx)) (hg1 : restW tx ++ t = [] ∨ (g = rb ∧ restW tx ≠ []) ∨ w4.drew.heap.size ≤ g) (HP : piecesW (cW tx) K64 (restW tx ++ t) ((restW tx ++ t).length / 64) = [b0, b1, b2, b3, b4, b5, b6, b7]) (h2 : RB w2 g v' ((restW tx ++ t).drop (64 * ((restW tx ++ t).length / 64))))
    (hb1 : Below w4.drew.heap.size w4.drew w1) (hb2 : Below w1.heap.size w1 w2) : Piece sb w4 (w2.alloc (.cells ([b0, b1, b2, b3, b4, b5, b6, b7].map wv).toArray 202 (0, 0))) tx t w2.heap.size g v' b0 b1 b2 b3 b4 b5 b6 b7 := by
  have hb : Below w4.heap.size w4 w2 := Below.trans (a := w4) (b := w1) ⟨hb1.os, hb1.tape, hb1.output, hb1.size, hb1.block⟩ (hb2.mono hb1.size)
  exact ⟨gne hra hsb (Nat.le_refl _) hg1, hb.size, by rw [cW_append]; exact HP, heap_alloc_new w2 _, by rw [restW_append]; exact h2.alloc _, hb.alloc hb.size _⟩
theorem pieceB {o : Obj} {rest1 : List UInt8} (hsb : sb < w4.heap.size) (hra : RestAt w4 sb rb v (restW tx)) (hg1 : restW tx ++ t = [] ∨ (g = rb ∧ restW tx ≠ []) ∨ w4.drew.heap.size ≤ g) (HP : piecesW (cW tx) K64 (restW tx ++ t) ((restW tx ++ t).length / 64) = [b0, b1, b2, b3, b4, b5, b6, b7]) (h1 : rest1 = [] ∨ g < w1.heap.size) (hr1 : rest1 = restW tx ++ t) (h2 : RB w2 g v' ((restW tx ++ t).drop (64 * ((restW tx ++ t).length / 64))))
    (hz : Arr w2 w1.heap.size 202 (List.replicate 8 0))
    (hb1 : Below w4.drew.heap.size w4.drew w1) (hb2 : Below (w1.alloc o).heap.size (w1.alloc o) w2) : Piece sb w4 (set8w w2 w1.heap.size b0 b1 b2 b3 b4 b5 b6 b7) tx t w1.heap.size g v' b0 b1 b2 b3 b4 b5 b6 b7 := by
  have hb1' : Below w4.heap.size w4 w1 := ⟨hb1.os, hb1.tape, hb1.output, hb1.size, hb1.block⟩
  have hb : Below w4.heap.size w4 w2 := (hb1'.alloc hb1'.size o).trans (hb2.mono (by have := hb1'.size; simp; omega))
  refine ⟨gne hra hsb (Nat.le_refl _) hg1, hb1'.size, by rw [cW_append]; exact HP, hz.set8 _ _ _ _ _ _ _ _, ?_, hb.grown (set8_grown _ _ _ _ _ _ _ _ _ _) hb.size (fun k hk => by injection hk with hk; have := hb1'.size; omega)⟩
  rw [restW_append]
  refine h2.grown (set8_grown _ _ _ _ _ _ _ _ _ _) ?_
  rcases h1 with h1 | h1
  · left; rw [← hr1, h1]; rfl
  · right; intro e; injection e with e; omega
theorem pieceC {o : Obj} (hsb : sb < w4.heap.size) (HP : piecesW (cW tx) K64 (restW tx ++ t) ((restW tx ++ t).length / 64) = [b0, b1, b2, b3, b4, b5, b6, b7]) (h1 : restW tx ++ t = [] ∨ (g = rb ∧ restW tx ≠ []) ∨ (w4.drew.alloc o).heap.size ≤ g) (hra : RestAt w4 sb rb v (restW tx)) (h2 : RB w2 g v' ((restW tx ++ t).drop (64 * ((restW tx ++ t).length / 64))))
    (hz : Arr w2 w4.heap.size 202 (List.replicate 8 0))
    (hb1 : Below (w4.drew.alloc o).heap.size (w4.drew.alloc o) w1) (hb2 : Below w1.heap.size w1 w2) : Piece sb w4 (set8w w2 w4.heap.size b0 b1 b2 b3 b4 b5 b6 b7) tx t w4.heap.size g v' b0 b1 b2 b3 b4 b5 b6 b7 := by
  have hb0 : Below w4.heap.size w4 (w4.drew.alloc o) := (Below.refl _ _).drew.alloc (Nat.le_refl _) o
  have hb1' : Below w4.heap.size w4 w1 := hb0.trans (hb1.mono (by simp))
  have hb : Below w4.heap.size w4 w2 := hb1'.trans (hb2.mono hb1'.size)
  refine ⟨gne hra hsb (by simp) h1, Nat.le_refl _, by rw [cW_append]; exact HP, hz.set8 _ _ _ _ _ _ _ _, ?_, hb.grown (set8_grown _ _ _ _ _ _ _ _ _ _) hb.size (fun k hk => by injection hk with hk; omega)⟩
  rw [restW_append]
  refine h2.grown (set8_grown _ _ _ _ _ _ _ _ _ _) ?_
  rcases h1 with h1 | ⟨rfl, h1⟩ | h1
  · left; rw [h1]; rfl
  · right; intro e; injection e with e; have := hra.lt h1; omega
  · right; intro e; injection e with e; simp at h1; omega
end

/-! ### the state takes its new words and its new rest -/
theorem St.setV {w : World} {sb kb rb nb : Nat} {v v' : Value} {c : List Nat} {rest rest' : List UInt8} {m : Nat} (h : St w sb kb rb v c rest m) (hr : RestAt w sb nb v' rest') (hn : nb ≠ sb) : St (w.setCell ⟨sb, 9, none⟩ v') sb kb nb v' c rest' m := by
  refine ⟨h.len, h.words, ?_, h.tab.set_other _ _ h.ne, hr.other fun _ => Below.heap_setCell w _ _ nb hn, h.ne⟩
  rw [block_setCell h.blk]
  have e : (stCells c kb v m).set 9 v' = stCells c kb v' m := by
    unfold stCells
    rw [List.set_append_right _ _ (by simp [h.len])]
    simp [h.len]
  rw [e]
theorem St.set1 {w : World} {sb kb rb : Nat} {v : Value} {c : List Nat} {rest : List UInt8} {m : Nat} (h : St w sb kb rb v c rest m) (hr : rb ≠ sb ∨ v = .slice none 0 0) (i x : Nat) (hi : i < 8) (hw : Words (c.set i x)) : St (w.setCell ⟨sb, i, none⟩ (.int .u32 (x : Int))) sb kb rb v (c.set i x) rest m := by
  refine ⟨by simp [h.len], hw, ?_, h.tab.set_other _ _ h.ne, ?_, h.ne⟩
  · rw [block_setCell h.blk]
    have e : (stCells c kb v m).set i (.int .u32 (x : Int)) = stCells (c.set i x) kb v m := by
      unfold stCells
      rw [List.set_append_left _ _ (by simp [h.len, hi]), List.map_set]
      rfl
    rw [e]
  · rcases h.row with hn | ⟨h1, h2, h3⟩
    · exact .inl hn
    · exact .inr ⟨h1, by rw [Below.heap_setCell w _ _ rb h3]; exact h2, h3⟩
theorem Words.set {c : List Nat} (h : Words c) (i x : Nat) (hx : x < 4294967296) : Words (c.set i x) := by
  intro y hy
  rcases List.mem_or_eq_of_mem_set hy with hy | rfl
  · exact h y hy
  · exact hx
theorem St.set8 {w : World} {sb kb rb : Nat} {v : Value} {c : List Nat} {rest : List UInt8} {m : Nat} (h : St w sb kb rb v c rest m) {b0 b1 b2 b3 b4 b5 b6 b7 : Nat} (hw : Words [b0, b1, b2, b3, b4, b5, b6, b7]) : St (set8w w sb b0 b1 b2 b3 b4 b5 b6 b7) sb kb rb v [b0, b1, b2, b3, b4, b5, b6, b7] rest m := by
  have hr := h.ne_row
  obtain ⟨a0, a1, a2, a3, a4, a5, a6, a7, rfl, -⟩ := eight h.len h.words
  have lt : ∀ x, x ∈ [b0, b1, b2, b3, b4, b5, b6, b7] → x < 4294967296 := hw
  simp only [List.mem_cons, List.not_mem_nil, or_false, forall_eq_or_imp, forall_eq] at lt
  obtain ⟨l0, l1, l2, l3, l4, l5, l6, l7⟩ := lt
  have w0 := h.words
  have h0 := h.set1 hr 0 b0 (by omega) (w0.set 0 b0 l0)
  have h1 := h0.set1 hr 1 b1 (by omega) (h0.words.set 1 b1 l1)
  have h2 := h1.set1 hr 2 b2 (by omega) (h1.words.set 2 b2 l2)
  have h3 := h2.set1 hr 3 b3 (by omega) (h2.words.set 3 b3 l3)
  have h4 := h3.set1 hr 4 b4 (by omega) (h3.words.set 4 b4 l4)
  have h5 := h4.set1 hr 5 b5 (by omega) (h4.words.set 5 b5 l5)
  have h6 := h5.set1 hr 6 b6 (by omega) (h5.words.set 6 b6 l6)
  exact h6.set1 hr 7 b7 (by omega) (h6.words.set 7 b7 l7)
theorem bcells_zeros (n : Nat) : bcells (List.replicate n 0) = List.replicate n (.int .u8 0) := by simp [bcells]
theorem infoU8s : (Tryz.prog.info? 5).map (·.size) = some 1 := by kernel_rfl
/-- a new row of zeros, at whatever world -/
theorem RestAt.new (w : World) (sb n : Nat) (h : w.heap.size ≠ sb) : RestAt (w.alloc (.cells (madeCells #[.int .u8 0] n) 5)) sb w.heap.size (.slice (some ⟨w.heap.size, 0, none⟩) n n) (List.replicate n 0) := by
  refine .inr ⟨by simp, ?_, h⟩
  rw [heap_alloc_new, bcells_zeros]
  congr 2
  apply Array.ext
  · simp [madeCells]
  · intro i h1 h2
    simp [madeCells]
    rw [Nat.mod_one]; rfl
section
variable {P : Program} {ops : Array Oper} {rest : List Oper} {o : Oper} {a : Act} {w : World} {Q : Exit → Act → World → Prop}
theorem St.copy_step {sb kb nb g m n : Nat} {c : List Nat} {q : Value} {bs : List UInt8} (h : St w sb kb nb (.slice (some ⟨nb, 0, none⟩) n n) c (List.replicate n 0) m) (hR : RB w g q bs) (hl : bs.length = n) (hgd : o.guard = none) (d s : Operand) (dT sT : TypeId)
    (ho : o.op = .call { callee := .builtin .copy, args := #[d, s], argTypes := #[dT, sT] }) (hu : P.underlying dT = some (.slice 5)) (hsz : (P.info? 5).map (·.size) = some 1)
    (hd : a.eval d = .slice (some ⟨nb, 0, none⟩) n n) (hs : a.eval s = q)
    (k : ∀ w2, Hid (St w2 sb kb nb (.slice (some ⟨nb, 0, none⟩) n n) c bs m) → Hid (w.grownBy w2 (some nb)) → wpList P ops Q rest (a.put o.dst (.int .i64 (n : Int))) w2) : wpList P ops Q (o :: rest) a w := by
  obtain ⟨A, cp, off, rfl, h1, h2, h3⟩ := hR
  by_cases h0 : n = 0
  · subst h0
    obtain rfl : bs = [] := List.eq_nil_of_length_eq_zero hl
    refine wpList_copy_nothing hgd d s dT sT ho _ hu hsz _ _ _ _ _ _ hd hs (by simp) ?_
    exact k w (Lib.hid h) (Lib.hid (World.grownBy.refl w _))
  · obtain ⟨rfl, h4, h5⟩ := h3 (by omega)
    rcases h.row with ⟨hn, _⟩ | ⟨_, hb, hne⟩
    · cases hn
    refine wpList_copy_own hgd d s dT sT ho _ hu hsz nb 0 n n _ _ _ hd hs _ _ hb (bcells bs) (by rw [bcells_length, hl]; exact (Nat.min_self n).symm) (fun j v hv => ?_) (by simp [bcells_length, hl]) (bcells_one bs) ?_
    · have hj : j < bs.length := by
        have := (List.getElem?_eq_some_iff.1 hv).1
        rwa [bcells_length] at this
      rw [bcells_get bs j hj] at hv
      injection hv with hv
      rw [show (⟨g, off, none⟩ : Addr).add j = ⟨g, off + j, none⟩ by unfold Addr.add; split <;> simp_all, h5 j hj, hv]
    · rw [bcells_length, hl]
      have e : ((bcells (List.replicate n 0)).toArray.toList.take 0 ++ (bcells bs ++ (bcells (List.replicate n 0)).toArray.toList.drop (0 + n))) = bcells bs := by
        simp [bcells]
      rw [e]
      refine k _ (Lib.hid ⟨h.len, h.words, by rw [heap_setRow_ne w nb _ sb (Ne.symm hne)]; exact h.blk, h.tab.setRow_other nb _ ?_, .inr ⟨by rw [hl], setRow_heap w nb _ _ _ _ hb, hne⟩, h.ne⟩) (Lib.hid (grown_setRow w nb _))
      intro e
      have ht := h.tab
      unfold Arr at ht
      rw [e, hb] at ht
      injection ht with ht
      injection ht with _ ht _
      exact absurd ht (by decide)
end
theorem grown_row_new {w w1 w2 : World} {row : Option Nat} (h : w.grownBy w1 row) {nb : Nat} (hk : w1.grownBy w2 (some nb)) (hn : w.heap.size ≤ nb) : w.grownBy w2 row := by
  refine ⟨hk.os.trans h.os, hk.tape.trans h.tape, hk.output.trans h.output, Nat.le_trans h.size hk.size, fun k hk1 hk2 => ?_⟩
  rw [hk.block k (Nat.lt_of_lt_of_le hk1 h.size) (by intro e; injection e with e; omega), h.block k hk1 hk2]
theorem Arr.cellsL {w : World} {b : Nat} {t : TypeId} {b0 b1 b2 b3 b4 b5 b6 b7 : Nat} (h : Arr w b t [b0, b1, b2, b3, b4, b5, b6, b7]) : w.cell? ⟨b, 0, none⟩ = some (.int .u32 (b0 : Int)) ∧ w.cell? ⟨b, 1, none⟩ = some (.int .u32 (b1 : Int)) ∧ w.cell? ⟨b, 2, none⟩ = some (.int .u32 (b2 : Int)) ∧ w.cell? ⟨b, 3, none⟩ = some (.int .u32 (b3 : Int)) ∧ w.cell? ⟨b, 4, none⟩ = some (.int .u32 (b4 : Int)) ∧ w.cell? ⟨b, 5, none⟩ = some (.int .u32 (b5 : Int)) ∧ w.cell? ⟨b, 6, none⟩ = some (.int .u32 (b6 : Int)) ∧ w.cell? ⟨b, 7, none⟩ = some (.int .u32 (b7 : Int)) :=
  ⟨h.cell 0 (by simp), h.cell 1 (by simp), h.cell 2 (by simp), h.cell 3 (by simp), h.cell 4 (by simp), h.cell 5 (by simp), h.cell 6 (by simp), h.cell 7 (by simp)⟩
/-- what the second statement leaves -/
def Laid (w w' : World) (sb kb g n m : Nat) (c : List Nat) (q : Value) (rest : List UInt8) : Prop :=
  ∃ nb, St w' sb kb nb (.slice (some ⟨nb, 0, none⟩) n n) c (List.replicate n 0) m ∧ RB w' g q rest ∧ w.grownBy w' (some sb) ∧ w.heap.size ≤ nb
section
variable {w w6 : World} {sb kb rb g n m : Nat} {v q : Value} {c : List Nat} {rest0 rest : List UInt8} {b0 b1 b2 b3 b4 b5 b6 b7 : Nat}
theorem laidA (h : St w6 sb kb rb v c rest0 m) (hw : Words [b0, b1, b2, b3, b4, b5, b6, b7]) (hR : RB w6 g q rest) (hne : rest = [] ∨ g ≠ sb) (hG : w.grownBy w6 (some sb)) :
    Laid w ((set8w (w6.alloc (.cells (madeCells #[.int .u8 0] n) 5)) sb b0 b1 b2 b3 b4 b5 b6 b7).setCell ⟨sb, 9, none⟩ (.slice (some ⟨w6.heap.size, 0, none⟩) n n)) sb kb g n m [b0, b1, b2, b3, b4, b5, b6, b7] q rest := by
  have hlt := h.lt
  have hne' : rest = [] ∨ some g ≠ some sb := hne.imp id (fun h e => h (by injection e))
  have hs := set8_grown (w6.alloc (.cells (madeCells #[.int .u8 0] n) 5)) sb b0 b1 b2 b3 b4 b5 b6 b7
  refine ⟨w6.heap.size, ((h.alloc _).set8 hw).setV ((RestAt.new w6 sb n (by omega)).other fun hl => hs.block _ hl (by intro e; injection e with e; omega)) (by omega), (((hR.alloc _).grown hs hne').grown (grown_setCell _ ⟨sb, 9, none⟩ _) hne'), (hG.trans ((grown_below ((Below.refl _ _).alloc (Nat.le_refl _) _) _).trans (hs.trans (grown_setCell _ ⟨sb, 9, none⟩ _)))), hG.size⟩
theorem laidB (h : St w6 sb kb rb v c rest0 m) (hw : Words [b0, b1, b2, b3, b4, b5, b6, b7]) (hR : RB w6 g q rest) (hne : rest = [] ∨ g ≠ sb) (hG : w.grownBy w6 (some sb)) :
    Laid w (((set8w w6 sb b0 b1 b2 b3 b4 b5 b6 b7).alloc (.cells (madeCells #[.int .u8 0] n) 5)).setCell ⟨sb, 9, none⟩ (.slice (some ⟨w6.heap.size, 0, none⟩) n n)) sb kb g n m [b0, b1, b2, b3, b4, b5, b6, b7] q rest := by
  have hlt := h.lt
  have hne' : rest = [] ∨ some g ≠ some sb := hne.imp id (fun h e => h (by injection e))
  have hs := set8_grown w6 sb b0 b1 b2 b3 b4 b5 b6 b7
  have hz := set8_size w6 sb b0 b1 b2 b3 b4 b5 b6 b7
  have hn := RestAt.new (set8w w6 sb b0 b1 b2 b3 b4 b5 b6 b7) sb n (by omega)
  rw [hz] at hn
  refine ⟨w6.heap.size, ((h.set8 hw).alloc _).setV hn (by omega), (((hR.grown hs hne').alloc _).grown (grown_setCell _ ⟨sb, 9, none⟩ _) hne'), (hG.trans (hs.trans ((grown_below ((Below.refl _ _).alloc (Nat.le_refl _) _) _).trans (grown_setCell _ ⟨sb, 9, none⟩ _)))), hG.size⟩
theorem Laid.drew {w w' : World} {q : Value} {rest : List UInt8} (h : Laid w w' sb kb g n m c q rest) : Laid w w'.drew sb kb g n m c q rest := by
  obtain ⟨nb, h1, h2, h3, h4⟩ := h
  exact ⟨nb, h1.other rfl rfl (fun _ => rfl), h2, ⟨h3.os, h3.tape, h3.output, h3.size, h3.block⟩, h4⟩
theorem laidD (h : St w6 sb kb rb v c rest0 m) (hw : Words [b0, b1, b2, b3, b4, b5, b6, b7]) (hR : RB w6 g q rest) (hne : rest = [] ∨ g ≠ sb) (hG : w.grownBy w6 (some sb)) :
    Laid w (((set8w w6 sb b0 b1 b2 b3 b4 b5 b6 b7).setCell ⟨sb, 9, none⟩ (.slice (some ⟨w6.heap.size, 0, none⟩) n n)).alloc (.cells (madeCells #[.int .u8 0] n) 5)).drew sb kb g n m [b0, b1, b2, b3, b4, b5, b6, b7] q rest := by
  have := laidB (n := n) h hw hR hne hG
  rw [World.setCell_alloc_past _ _ _ _ (by rw [set8_size]; exact h.lt)] at this
  exact this.drew
theorem laidC (h : St w6 sb kb rb v c rest0 m) (hw : Words [b0, b1, b2, b3, b4, b5, b6, b7]) (hR : RB w6 g q rest) (hne : rest = [] ∨ g ≠ sb) (hG : w.grownBy w6 (some sb)) :
    Laid w (set8w ((w6.alloc (.cells (madeCells #[.int .u8 0] n) 5)).setCell ⟨sb, 9, none⟩ (.slice (some ⟨w6.heap.size, 0, none⟩) n n)) sb b0 b1 b2 b3 b4 b5 b6 b7) sb kb g n m [b0, b1, b2, b3, b4, b5, b6, b7] q rest := by
  have hlt := h.lt
  have hne' : rest = [] ∨ some g ≠ some sb := hne.imp id (fun h e => h (by injection e))
  have hs := set8_grown ((w6.alloc (.cells (madeCells #[.int .u8 0] n) 5)).setCell ⟨sb, 9, none⟩ (.slice (some ⟨w6.heap.size, 0, none⟩) n n)) sb b0 b1 b2 b3 b4 b5 b6 b7
  exact ⟨w6.heap.size, (((h.alloc _).setV (RestAt.new w6 sb n (by omega)) (by omega)).set8 hw), (((hR.alloc _).grown (grown_setCell _ ⟨sb, 9, none⟩ _) hne').grown hs hne'), (hG.trans ((grown_below ((Below.refl _ _).alloc (Nat.le_refl _) _) _).trans ((grown_setCell _ ⟨sb, 9, none⟩ _).trans hs))), hG.size⟩
end
end Go.Proofs.YtjokfllldcjheaaGreatDoor.Sha
