/- errors.As at the targets *api.Errno and *api.Fault, at errors that are chains of Faults around an Errno or nil: facts on the model's entries for reflectlite. -/
import Derived.Test.YtjokfllldcjheaaGreatDoorProg
import Derived.WalkKit
import Derived.LaidEql
import Derived.Stop.Asserts
import Derived.RowKitTokens
import Derived.Below
import Derived.Lib.Hide
namespace Go.Proofs.YtjokfllldcjheaaGreatDoor.Er
open Go.RowKit Go.Extern.Stop Go.Stop Go.Extern
set_option linter.unusedVariables false
set_option linter.unusedSimpArgs false
set_option maxRecDepth 100000

/-- an error: none, a bare number, or one at a place -/
inductive Er where
  | nil
  | no (n : Int)
  | at (k : Int) (e : Er)
/-- its value -/
def Er.val : Er → Value
  | .nil => .nilIface
  | .no n => .iface 96 (.int .i64 n)
  | .at k e => .iface 106 (.agg #[.int .i64 k, e.val])
/-- the number inside -/
def Er.find : Er → Option Int
  | .nil => none
  | .no n => some n
  | .at _ e => e.find
/-- how deep it is -/
def Er.deep : Er → Nat
  | .nil => 0
  | .no _ => 0
  | .at _ e => e.deep + 1
/-- api.Code of it -/
def Er.code : Er → Int
  | .nil => 0
  | .no n => n
  | .at _ e => e.find.getD (-1)
/-- api.Place of it -/
def Er.place : Er → Int
  | .at k _ => k
  | _ => -1
theorem Er.val_nil {e : Er} (h : e.val = .nilIface) : e = .nil := by
  cases e with
  | nil => rfl
  | no n => exact absurd h (by simp [Er.val])
  | «at» k e => exact absurd h (by simp [Er.val])

/-- the handle of a type -/
abbrev hd (t : Nat) : Value := .pointer (some ⟨2, t, none⟩)
/-- the package-level variable errors.errorType is laid -/
def G0 (w : World) : Prop := w.cell? ⟨0, 0, none⟩ = some (.iface 182 (.agg #[hd 28]))

theorem rlm (z : Sem Value) (f : TypeId → Addr → Nat → Nat → Sem Value) (v : Value) :
    ReflectliteValue.method z f #[v] = (do match ← ReflectliteValue.parts v with | none => z | some (t, a, fl) => f t a fl (fl % 32)) := rfl
theorem rls (v x : Value) : ReflectliteValue.set #[v, x] = (do
    let (some (dst, a, fl), some (src, b, _)) := (← ReflectliteValue.parts v, ← ReflectliteValue.parts x)
      | unsupported (.noEntry "extern/(internal/reflectlite.Value).Set.zeroValue")
    if fl / ReflectliteValue.flagAddr % 2 == 0 then unsupported (.noEntry "extern/(internal/reflectlite.Value).Set.unaddressable")
    let val ← loadVar src b
    if ← Rtype.directlyAssignable dst src then storeVar dst a val
    else if ← Rtype.implements dst src then
      if (← Rtype.kind src) == 20 then
        match val with
        | .nilIface => unsupported (.noEntry "extern/reflectlite: a nil value of one interface type handed on as a value of another")
        | _ => storeVar dst a val
      else storeVar dst a (.iface src val)
    else panicString ("reflectlite.Set: value of type " ++ (← Rtype.spelt src) ++ " is not assignable to type " ++ (← Rtype.spelt dst))
    pure (.tuple #[])) := rfl
theorem methodKind (h : Value) (w : World) : (Go.method 363 182 (.agg #[h]) "Kind").run Tryz.prog w = .ok (169, h) w := by kernel_rfl
theorem methodElem (h : Value) (w : World) : (Go.method 363 182 (.agg #[h]) "Elem").run Tryz.prog w = .ok (184, .agg #[h]) w := by kernel_rfl
theorem methodImplements (h : Value) (w : World) : (Go.method 363 182 (.agg #[h]) "Implements").run Tryz.prog w = .ok (185, .agg #[h]) w := by kernel_rfl
theorem methodAssignableTo (h : Value) (w : World) : (Go.method 363 182 (.agg #[h]) "AssignableTo").run Tryz.prog w = .ok (182, .agg #[h]) w := by kernel_rfl

theorem valueOfPE (t : Addr) (w : World) : (ReflectliteValue.unpack (.iface 98 (.pointer (some t)))).run Tryz.prog w
    = .ok (.agg #[hd 98, .pointer (some ⟨w.heap.size, 0, none⟩), .int .u64 150]) (w.alloc (.cells #[.pointer (some t)] 98)) := by kernel_rfl
theorem typePE (a : Addr) (w : World) : (ReflectliteValue.methodAny (ReflectliteValue.valueError "reflectlite.Value.Type" 0) (fun t _ _ _ => ReflectliteType.toType t) #[.agg #[hd 98, .pointer (some a), .int .u64 150]]).run Tryz.prog w
    = .ok (.iface 182 (.agg #[hd 98])) w := by kernel_rfl
theorem kindPE (w : World) : ((ReflectliteType.abiMethod fun t => (fun a : Nat => Value.int IntKind.u8 (a : Int)) <$> Rtype.kind t) #[hd 98]).run Tryz.prog w = .ok (.int .u8 22) w := by kernel_rfl
theorem kindE (w : World) : ((ReflectliteType.abiMethod fun t => (fun a : Nat => Value.int IntKind.u8 (a : Int)) <$> Rtype.kind t) #[hd 96]).run Tryz.prog w = .ok (.int .u8 2) w := by kernel_rfl
theorem partsPE (a : Addr) (w : World) : (ReflectliteValue.parts (.agg #[hd 98, .pointer (some a), .int .u64 150])).run Tryz.prog w = .ok (some (98, a, 150)) w := by kernel_rfl
theorem isNilPE (a p : Addr) (W : World) (ha : W.cell? a = some (.pointer (some p))) :
    (ReflectliteValue.method (ReflectliteValue.valueError "reflectlite.Value.IsNil" 0) ReflectliteValue.isNil #[.agg #[hd 98, .pointer (some a), .int .u64 150]]).run Tryz.prog W = .ok (.bool false) W := by
  rw [rlm]
  simp only [Sem.run_bind, partsPE, Result.andThen]
  simp [ReflectliteValue.isNil, loadVar, isAgg, underlying, Tryz.underlying98, ha, Result.andThen]
theorem elemPE (w : World) : (ReflectliteType.method ReflectliteType.elem #[.agg #[hd 98]]).run Tryz.prog w = .ok (.iface 182 (.agg #[hd 96])) w := by kernel_rfl
theorem implementsE (w : World) : (ReflectliteType.relation "Implements" ReflectliteType.implements_ #[.agg #[hd 96], .iface 182 (.agg #[hd 28])]).run Tryz.prog w = .ok (.bool true) w := by kernel_rfl
theorem typeOfE (v : Value) (w : World) : (ReflectliteType.typeOf #[.iface 96 v]).run Tryz.prog w = .ok (.iface 182 (.agg #[hd 96])) w := by kernel_rfl
theorem assignableE (w : World) : (ReflectliteType.relation "AssignableTo" ReflectliteType.assignableTo #[.agg #[hd 96], .iface 182 (.agg #[hd 96])]).run Tryz.prog w = .ok (.bool true) w := by kernel_rfl
theorem assignableNotE (w : World) : (ReflectliteType.relation "AssignableTo" ReflectliteType.assignableTo #[.agg #[hd 96], .iface 182 (.agg #[hd 106])]).run Tryz.prog w = .ok (.bool false) w := by kernel_rfl
theorem elemOfPE (w : World) : (Rtype.elem? 98).run Tryz.prog w = .ok (some 96) w := by kernel_rfl
theorem mkE (p : Addr) (w : World) : (ReflectliteValue.mk 96 p ReflectliteValue.flagAddr).run Tryz.prog w = .ok (.agg #[hd 96, .pointer (some p), .int .u64 386]) w := by kernel_rfl
theorem elemVPE (a p : Addr) (W : World) (ha : W.cell? a = some (.pointer (some p))) :
    (ReflectliteValue.method (ReflectliteValue.valueError "reflectlite.Value.Elem" 0) ReflectliteValue.elem #[.agg #[hd 98, .pointer (some a), .int .u64 150]]).run Tryz.prog W
      = .ok (.agg #[hd 96, .pointer (some p), .int .u64 386]) W := by
  rw [rlm]
  simp only [Sem.run_bind, partsPE, Result.andThen]
  simp [ReflectliteValue.elem, loadVar, isAgg, underlying, Tryz.underlying98, ha, Result.andThen, elemOfPE, mkE]
theorem partsAE (a : Addr) (w : World) : (ReflectliteValue.parts (.agg #[hd 96, .pointer (some a), .int .u64 386])).run Tryz.prog w = .ok (some (96, a, 386)) w := by kernel_rfl
theorem partsVE (a : Addr) (w : World) : (ReflectliteValue.parts (.agg #[hd 96, .pointer (some a), .int .u64 130])).run Tryz.prog w = .ok (some (96, a, 130)) w := by kernel_rfl
theorem directE (w : World) : (Rtype.directlyAssignable 96 96).run Tryz.prog w = .ok true w := by kernel_rfl
theorem noAsE (v : Value) (xT : TypeId) (w : World) : (Instr.typeAssert (.iface 96 v) xT 187 true).run Tryz.prog w = .ok (.tuple #[.nilIface, .bool false]) w := run_typeAssert_lacksB Tryz.underlying187 (by kernel_rfl) (by kernel_rfl) v xT w

theorem valueOfPF (t : Addr) (w : World) : (ReflectliteValue.unpack (.iface 107 (.pointer (some t)))).run Tryz.prog w
    = .ok (.agg #[hd 107, .pointer (some ⟨w.heap.size, 0, none⟩), .int .u64 150]) (w.alloc (.cells #[.pointer (some t)] 107)) := by kernel_rfl
theorem typePF (a : Addr) (w : World) : (ReflectliteValue.methodAny (ReflectliteValue.valueError "reflectlite.Value.Type" 0) (fun t _ _ _ => ReflectliteType.toType t) #[.agg #[hd 107, .pointer (some a), .int .u64 150]]).run Tryz.prog w
    = .ok (.iface 182 (.agg #[hd 107])) w := by kernel_rfl
theorem kindPF (w : World) : ((ReflectliteType.abiMethod fun t => (fun a : Nat => Value.int IntKind.u8 (a : Int)) <$> Rtype.kind t) #[hd 107]).run Tryz.prog w = .ok (.int .u8 22) w := by kernel_rfl
theorem kindF (w : World) : ((ReflectliteType.abiMethod fun t => (fun a : Nat => Value.int IntKind.u8 (a : Int)) <$> Rtype.kind t) #[hd 106]).run Tryz.prog w = .ok (.int .u8 25) w := by kernel_rfl
theorem partsPF (a : Addr) (w : World) : (ReflectliteValue.parts (.agg #[hd 107, .pointer (some a), .int .u64 150])).run Tryz.prog w = .ok (some (107, a, 150)) w := by kernel_rfl
theorem isNilPF (a p : Addr) (W : World) (ha : W.cell? a = some (.pointer (some p))) :
    (ReflectliteValue.method (ReflectliteValue.valueError "reflectlite.Value.IsNil" 0) ReflectliteValue.isNil #[.agg #[hd 107, .pointer (some a), .int .u64 150]]).run Tryz.prog W = .ok (.bool false) W := by
  rw [rlm]
  simp only [Sem.run_bind, partsPF, Result.andThen]
  simp [ReflectliteValue.isNil, loadVar, isAgg, underlying, Tryz.underlying107, ha, Result.andThen]
theorem elemPF (w : World) : (ReflectliteType.method ReflectliteType.elem #[.agg #[hd 107]]).run Tryz.prog w = .ok (.iface 182 (.agg #[hd 106])) w := by kernel_rfl
theorem implementsF (w : World) : (ReflectliteType.relation "Implements" ReflectliteType.implements_ #[.agg #[hd 106], .iface 182 (.agg #[hd 28])]).run Tryz.prog w = .ok (.bool true) w := by kernel_rfl
theorem typeOfF (v : Value) (w : World) : (ReflectliteType.typeOf #[.iface 106 v]).run Tryz.prog w = .ok (.iface 182 (.agg #[hd 106])) w := by kernel_rfl
theorem assignableF (w : World) : (ReflectliteType.relation "AssignableTo" ReflectliteType.assignableTo #[.agg #[hd 106], .iface 182 (.agg #[hd 106])]).run Tryz.prog w = .ok (.bool true) w := by kernel_rfl
theorem assignableNotF (w : World) : (ReflectliteType.relation "AssignableTo" ReflectliteType.assignableTo #[.agg #[hd 106], .iface 182 (.agg #[hd 96])]).run Tryz.prog w = .ok (.bool false) w := by kernel_rfl
theorem elemOfPF (w : World) : (Rtype.elem? 107).run Tryz.prog w = .ok (some 106) w := by kernel_rfl
theorem mkF (p : Addr) (w : World) : (ReflectliteValue.mk 106 p ReflectliteValue.flagAddr).run Tryz.prog w = .ok (.agg #[hd 106, .pointer (some p), .int .u64 409]) w := by kernel_rfl
theorem elemVPF (a p : Addr) (W : World) (ha : W.cell? a = some (.pointer (some p))) :
    (ReflectliteValue.method (ReflectliteValue.valueError "reflectlite.Value.Elem" 0) ReflectliteValue.elem #[.agg #[hd 107, .pointer (some a), .int .u64 150]]).run Tryz.prog W
      = .ok (.agg #[hd 106, .pointer (some p), .int .u64 409]) W := by
  rw [rlm]
  simp only [Sem.run_bind, partsPF, Result.andThen]
  simp [ReflectliteValue.elem, loadVar, isAgg, underlying, Tryz.underlying107, ha, Result.andThen, elemOfPF, mkF]
theorem partsAF (a : Addr) (w : World) : (ReflectliteValue.parts (.agg #[hd 106, .pointer (some a), .int .u64 409])).run Tryz.prog w = .ok (some (106, a, 409)) w := by kernel_rfl
theorem partsVF (a : Addr) (w : World) : (ReflectliteValue.parts (.agg #[hd 106, .pointer (some a), .int .u64 153])).run Tryz.prog w = .ok (some (106, a, 153)) w := by kernel_rfl
theorem directF (w : World) : (Rtype.directlyAssignable 106 106).run Tryz.prog w = .ok true w := by kernel_rfl
theorem noAsF (v : Value) (xT : TypeId) (w : World) : (Instr.typeAssert (.iface 106 v) xT 187 true).run Tryz.prog w = .ok (.tuple #[.nilIface, .bool false]) w := run_typeAssert_lacksB Tryz.underlying187 (by kernel_rfl) (by kernel_rfl) v xT w

theorem noUnwrapE (v : Value) (xT : TypeId) (w : World) : (Instr.typeAssert (.iface 96 v) xT 190 true).run Tryz.prog w = .ok (.tuple #[.nilIface, .bool false]) w := run_typeAssert_lacksB Tryz.underlying190 (by kernel_rfl) (by kernel_rfl) v xT w
theorem noUnwrapsE (v : Value) (xT : TypeId) (w : World) : (Instr.typeAssert (.iface 96 v) xT 192 true).run Tryz.prog w = .ok (.tuple #[.nilIface, .bool false]) w := run_typeAssert_lacksB Tryz.underlying192 (by kernel_rfl) (by kernel_rfl) v xT w
theorem unwrapF (v : Value) (xT : TypeId) (w : World) : (Instr.typeAssert (.iface 106 v) xT 190 true).run Tryz.prog w = .ok (.tuple #[.iface 106 v, .bool true]) w := run_typeAssert_hasB Tryz.underlying190 (by kernel_rfl) v xT w
theorem methodUnwrap (v : Value) (w : World) : (Go.method 363 106 v "Unwrap").run Tryz.prog w = .ok (175, v) w := by kernel_rfl
theorem sizeE (w : World) : (sizeOf 96).run Tryz.prog w = .ok 1 w := by kernel_rfl
theorem sizeF (w : World) : (sizeOf 106).run Tryz.prog w = .ok 2 w := by kernel_rfl
theorem valueOfE (n : Int) (w : World) : (ReflectliteValue.unpack (.iface 96 (.int .i64 n))).run Tryz.prog w
    = .ok (.agg #[hd 96, .pointer (some ⟨w.heap.size, 0, none⟩), .int .u64 130]) (w.alloc (.cells #[.int .i64 n] 96)) := by kernel_rfl
theorem valueOfF (k : Int) (v : Value) (w : World) : (ReflectliteValue.unpack (.iface 106 (.agg #[.int .i64 k, v]))).run Tryz.prog w
    = .ok (.agg #[hd 106, .pointer (some ⟨w.heap.size, 0, none⟩), .int .u64 153]) (w.alloc (.cells #[.int .i64 k, v] 106)) := by kernel_rfl
theorem setE (ta b : Addr) (n : Int) (old : Value) (W : World) (hb : W.cell? b = some (.int .i64 n)) (ht : W.cell? ta = some old) (hf : W.frozen? ta = false) :
    (ReflectliteValue.set #[.agg #[hd 96, .pointer (some ta), .int .u64 386], .agg #[hd 96, .pointer (some b), .int .u64 130]]).run Tryz.prog W
      = .ok (.tuple #[]) (W.setCell ta (.int .i64 n)) := by
  rw [rls]
  simp only [Sem.run_bind, partsAE, partsVE, Result.andThen]
  simp [ReflectliteValue.flagAddr, loadVar, isAgg, underlying, Tryz.underlying96, hb, Result.andThen, directE, storeVar, Value.cells, storeCells, Addr.add, sizeE]
  rw [run_store Tryz.prog W ta _ _ (by rfl)]
  simp [ht, hf]
theorem setF (g bb : Nat) (k : Int) (v o1 o2 : Value) (hv : v.oneCell' = true) (W : World) (hb0 : W.cell? ⟨bb, 0, none⟩ = some (.int .i64 k)) (hb1 : W.cell? ⟨bb, 1, none⟩ = some v)
    (ht0 : W.cell? ⟨g, 0, none⟩ = some o1) (hf0 : W.frozen? ⟨g, 0, none⟩ = false) (ht1 : W.cell? ⟨g, 1, none⟩ = some o2) (hf1 : W.frozen? ⟨g, 1, none⟩ = false) :
    (ReflectliteValue.set #[.agg #[hd 106, .pointer (some ⟨g, 0, none⟩), .int .u64 409], .agg #[hd 106, .pointer (some ⟨bb, 0, none⟩), .int .u64 153]]).run Tryz.prog W
      = .ok (.tuple #[]) ((W.setCell ⟨g, 0, none⟩ (.int .i64 k)).setCell ⟨g, 1, none⟩ v) := by
  rw [rls]
  simp only [Sem.run_bind, partsAF, partsVF, Result.andThen]
  simp [ReflectliteValue.flagAddr, loadVar, loadCells, loadCellsFrom, isAgg, underlying, Tryz.underlying106, hb0, hb1, Result.andThen, directF, storeVar, Value.cells, storeCells, Addr.add, sizeF]
  rw [run_store Tryz.prog W ⟨g, 0, none⟩ _ _ (by rfl)]
  simp only [ht0, hf0]
  simp
  rw [run_store Tryz.prog _ ⟨g, 1, none⟩ _ _ hv]
  have hc : (W.setCell ⟨g, 0, none⟩ (.int .i64 k)).cell? ⟨g, 1, none⟩ = some o2 := (World.cell?_setCell_other W _ _ _ (by simp)).trans ht1
  simp [hc, hf1]
end Go.Proofs.YtjokfllldcjheaaGreatDoor.Er
