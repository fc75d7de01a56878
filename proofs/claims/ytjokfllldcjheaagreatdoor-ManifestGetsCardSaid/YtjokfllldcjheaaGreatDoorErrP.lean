/- errors.As at *api.Fault; api.Place: contracts. -/
import Derived.Test.YtjokfllldcjheaaGreatDoorErr
namespace Go.Proofs.YtjokfllldcjheaaGreatDoor.Er
open Go.RowKit Go.Extern.Stop Go.Stop Go.Extern
set_option linter.unusedVariables false
set_option linter.unusedSimpArgs false
set_option maxRecDepth 100000

set_option maxHeartbeats 4000000 in
theorem as_F_no (n : Int) (g : Nat) (va : Addr) (w : World) :
    Calls Tryz.prog 81 #[.iface 96 (.int .i64 n), .iface 107 (.pointer (some ⟨g, 0, none⟩)), .agg #[hd 107, .pointer (some va), .int .u64 150], .iface 182 (.agg #[hd 106])] w
      fun r w' => r = .returned (.bool false) ∧ Hid (Below w.heap.size w w') := by
  have h67 := @run_callFunc_extern Tryz.prog 111 _ ReflectliteType.typeOf Tryz.func111 (by kernel_rfl) (by kernel_rfl) (by kernel_rfl) (by kernel_rfl)
  have h114 := @run_callFunc_extern Tryz.prog 182 _ (ReflectliteType.relation "AssignableTo" ReflectliteType.assignableTo) Tryz.func182 (by kernel_rfl) (by kernel_rfl) (by kernel_rfl) (by kernel_rfl)
  have mA := methodAssignableTo
  have tE := typeOfE
  have aE := assignableNotE
  have nE := noAsE
  have uE := noUnwrapE
  have uuE := noUnwrapsE
  go_enter Tryz.func81, Tryz.ntmps81
  go_wp2
  refine wp_loop_rounds 1 ?_
  rw [rounds_succ]
  go_wp2
  go_ret
  exact ⟨rfl, Lib.hid ((Below.refl _ _).alloc (Nat.le_refl _) _)⟩

set_option maxHeartbeats 4000000 in
theorem as_F_at (k : Int) (v : Value) (hv1 : v.oneCell' = true) (g : Nat) (va : Addr) (o1 o2 : Value) (w : World) (ht : w.cell? ⟨g, 0, none⟩ = some o1) (hf : w.frozen? ⟨g, 0, none⟩ = false)
    (ht1 : w.cell? ⟨g, 1, none⟩ = some o2) (hf1 : w.frozen? ⟨g, 1, none⟩ = false) (hva : w.cell? va = some (.pointer (some ⟨g, 0, none⟩))) :
    Calls Tryz.prog 81 #[.iface 106 (.agg #[.int .i64 k, v]), .iface 107 (.pointer (some ⟨g, 0, none⟩)), .agg #[hd 107, .pointer (some va), .int .u64 150], .iface 182 (.agg #[hd 106])] w
      fun r w' => r = .returned (.bool true) ∧ Hid (Below g w w') ∧ Hid (w'.cell? ⟨g, 0, none⟩ = some (.int .i64 k)) := by
  have hgl : g < w.heap.size := World.block_lt_of_cell? _ _ ht
  have hval : va.block < w.heap.size := World.block_lt_of_cell? _ _ hva
  have h54 := @run_callFunc_extern Tryz.prog 78 _ (fun args => ReflectliteValue.unpack (args.getD 0 (.tuple #[]))) Tryz.func78 (by kernel_rfl) (by kernel_rfl) (by kernel_rfl) (by kernel_rfl)
  have h67 := @run_callFunc_extern Tryz.prog 111 _ ReflectliteType.typeOf Tryz.func111 (by kernel_rfl) (by kernel_rfl) (by kernel_rfl) (by kernel_rfl)
  have h114 := @run_callFunc_extern Tryz.prog 182 _ (ReflectliteType.relation "AssignableTo" ReflectliteType.assignableTo) Tryz.func182 (by kernel_rfl) (by kernel_rfl) (by kernel_rfl) (by kernel_rfl)
  have h68 := @run_callFunc_extern Tryz.prog 112 _ (ReflectliteValue.method (ReflectliteValue.valueError "reflectlite.Value.Elem" 0) ReflectliteValue.elem) Tryz.func112 (by kernel_rfl) (by kernel_rfl) (by kernel_rfl) (by kernel_rfl)
  have h69 := @run_callFunc_extern Tryz.prog 113 _ ReflectliteValue.set Tryz.func113 (by kernel_rfl) (by kernel_rfl) (by kernel_rfl) (by kernel_rfl)
  have mA := methodAssignableTo
  have tF := typeOfF
  have aF := assignableF
  have vF := valueOfF
  obtain ⟨w1, hw1⟩ : ∃ w1, w.alloc (.cells #[hd 107, .pointer (some va), .int .u64 150] 151) = w1 := ⟨_, rfl⟩
  have hs1 : w1.heap.size = w.heap.size + 1 := by rw [← hw1]; simp
  have el := elemVPF va ⟨g, 0, none⟩ w1 (by rw [← hw1, World.cell?_alloc_lt _ _ _ hval]; exact hva)
  have c0 : w1.cell? ⟨g, 0, none⟩ = some o1 := by rw [← hw1, World.cell?_alloc_lt _ _ _ hgl]; exact ht
  have c1 : w1.cell? ⟨g, 1, none⟩ = some o2 := by rw [← hw1, World.cell?_alloc_lt _ _ _ hgl]; exact ht1
  have f0 : w1.frozen? ⟨g, 0, none⟩ = false := by rw [← hw1, World.frozen?_alloc_old _ _ _ (Nat.ne_of_lt hgl)]; exact hf
  have f1 : w1.frozen? ⟨g, 1, none⟩ = false := by rw [← hw1, World.frozen?_alloc_old _ _ _ (Nat.ne_of_lt hgl)]; exact hf1
  have hg1 : g < w1.heap.size := by omega
  have st := setF g (w.heap.size + 1) k v o1 o2 hv1 (w1.alloc (.cells #[.int .i64 k, v] 106)) (by rw [← hs1]; simp) (by rw [← hs1]; simp)
    ((World.cell?_alloc_lt _ _ _ hg1).trans c0) ((World.frozen?_alloc_old _ _ _ (Nat.ne_of_lt hg1)).trans f0) ((World.cell?_alloc_lt _ _ _ hg1).trans c1) ((World.frozen?_alloc_old _ _ _ (Nat.ne_of_lt hg1)).trans f1)
  have HT := Lib.hid ht
  subst hw1
  have cb0 : (w.alloc (.cells #[hd 107, .pointer (some va), .int .u64 150] 151)).cell? ⟨w.heap.size, 0, none⟩ = some (hd 107) := by simp
  clear ht hf ht1 hf1 hva c0 c1 f0 f1 hs1 hg1
  go_enter Tryz.func81, Tryz.ntmps81
  go_wp2
  refine wp_loop_rounds 1 ?_
  rw [rounds_succ]
  go_wp2
  go_ret
  refine ⟨rfl, Lib.hid (((((Below.refl g w).setCell (Nat.le_refl _) _).setCell (Nat.le_refl _) _).alloc (by simp; omega) _).alloc (by simp; omega) _), Lib.hid ?_⟩
  rw [World.cell?_alloc_lt _ _ _ (by simp; omega), World.cell?_alloc_lt _ _ _ (by simp; omega), World.cell?_setCell_other _ _ _ _ (by simp)]
  exact World.cell?_setCell_same _ _ _ (u := o1) HT.out

set_option maxHeartbeats 4000000 in
theorem as_to_F_no (n : Int) (g : Nat) (o1 : Value) (w : World) (h0 : G0 w) (ht : w.cell? ⟨g, 0, none⟩ = some o1) :
    Calls Tryz.prog 44 #[.iface 96 (.int .i64 n), .iface 107 (.pointer (some ⟨g, 0, none⟩))] w
      fun r w' => r = .returned (.bool false) ∧ Hid (Below w.heap.size w w') := by
  have hgl : g < w.heap.size := World.block_lt_of_cell? _ _ ht
  have h54 := @run_callFunc_extern Tryz.prog 78 _ (fun args => ReflectliteValue.unpack (args.getD 0 (.tuple #[]))) Tryz.func78 (by kernel_rfl) (by kernel_rfl) (by kernel_rfl) (by kernel_rfl)
  have h55 := @run_callFunc_extern Tryz.prog 79 _ (ReflectliteValue.methodAny (ReflectliteValue.valueError "reflectlite.Value.Type" 0) (fun t _ _ _ => ReflectliteType.toType t)) Tryz.func79 (by kernel_rfl) (by kernel_rfl) (by kernel_rfl) (by kernel_rfl)
  have h56 := @run_callFunc_extern Tryz.prog 80 _ (ReflectliteValue.method (ReflectliteValue.valueError "reflectlite.Value.IsNil" 0) ReflectliteValue.isNil) Tryz.func80 (by kernel_rfl) (by kernel_rfl) (by kernel_rfl) (by kernel_rfl)
  have h102 := @run_callFunc_extern Tryz.prog 169 _ (ReflectliteType.abiMethod fun t => do pure (.int .u8 (← Rtype.kind t))) Tryz.func169 (by kernel_rfl) (by kernel_rfl) (by kernel_rfl) (by kernel_rfl)
  have h116 := @run_callFunc_extern Tryz.prog 184 _ (ReflectliteType.method ReflectliteType.elem) Tryz.func184 (by kernel_rfl) (by kernel_rfl) (by kernel_rfl) (by kernel_rfl)
  have h117 := @run_callFunc_extern Tryz.prog 185 _ (ReflectliteType.relation "Implements" ReflectliteType.implements_) Tryz.func185 (by kernel_rfl) (by kernel_rfl) (by kernel_rfl) (by kernel_rfl)
  have f54 := valueOfPF
  have f55 := typePF
  have mK := methodKind
  have mE := methodElem
  have mI := methodImplements
  have kP := kindPF
  have kE := kindF
  have eP := elemPF
  have iE := implementsF
  have n8 := isNilPF ⟨w.heap.size, 0, none⟩ ⟨g, 0, none⟩ ((w.alloc (.cells #[.pointer (some ⟨g, 0, none⟩)] 107)).alloc (.cells #[hd 107, .pointer (some ⟨w.heap.size, 0, none⟩), .int .u64 150] 151)) (by simp)
  have hlt : 0 < w.heap.size := World.block_lt_of_cell? _ _ h0
  have hg2 : ((w.alloc (.cells #[.pointer (some ⟨g, 0, none⟩)] 107)).alloc (.cells #[hd 107, .pointer (some ⟨w.heap.size, 0, none⟩), .int .u64 150] 151)).cell? ⟨0, 0, none⟩ = some (.iface 182 (.agg #[hd 28])) := by
    rw [World.cell?_alloc_lt _ _ _ (by simp), World.cell?_alloc_lt _ _ _ hlt]; exact h0
  have hAs := Lib.hid (as_F_no n g ⟨w.heap.size, 0, none⟩ ((w.alloc (.cells #[.pointer (some ⟨g, 0, none⟩)] 107)).alloc (.cells #[hd 107, .pointer (some ⟨w.heap.size, 0, none⟩), .int .u64 150] 151)))
  clear ht h0
  go_enter Tryz.func44, Tryz.ntmps44
  go_wp2_with (go_at_call 81; refine hAs.out.mono ?_; rintro r w2 ⟨rfl, HB2⟩)
  go_ret
  exact ⟨rfl, Lib.hid ((((Below.refl _ w).alloc (by omega) _).alloc (by simp) _).trans (HB2.out.mono (by simp; omega)))⟩

set_option maxHeartbeats 4000000 in
theorem as_to_F_at (k : Int) (v : Value) (hv1 : v.oneCell' = true) (g : Nat) (o1 o2 : Value) (w : World) (h0 : G0 w) (ht : w.cell? ⟨g, 0, none⟩ = some o1) (hf : w.frozen? ⟨g, 0, none⟩ = false)
    (ht1 : w.cell? ⟨g, 1, none⟩ = some o2) (hf1 : w.frozen? ⟨g, 1, none⟩ = false) :
    Calls Tryz.prog 44 #[.iface 106 (.agg #[.int .i64 k, v]), .iface 107 (.pointer (some ⟨g, 0, none⟩))] w
      fun r w' => r = .returned (.bool true) ∧ Hid (Below g w w') ∧ Hid (w'.cell? ⟨g, 0, none⟩ = some (.int .i64 k)) := by
  have hgl : g < w.heap.size := World.block_lt_of_cell? _ _ ht
  have h54 := @run_callFunc_extern Tryz.prog 78 _ (fun args => ReflectliteValue.unpack (args.getD 0 (.tuple #[]))) Tryz.func78 (by kernel_rfl) (by kernel_rfl) (by kernel_rfl) (by kernel_rfl)
  have h55 := @run_callFunc_extern Tryz.prog 79 _ (ReflectliteValue.methodAny (ReflectliteValue.valueError "reflectlite.Value.Type" 0) (fun t _ _ _ => ReflectliteType.toType t)) Tryz.func79 (by kernel_rfl) (by kernel_rfl) (by kernel_rfl) (by kernel_rfl)
  have h56 := @run_callFunc_extern Tryz.prog 80 _ (ReflectliteValue.method (ReflectliteValue.valueError "reflectlite.Value.IsNil" 0) ReflectliteValue.isNil) Tryz.func80 (by kernel_rfl) (by kernel_rfl) (by kernel_rfl) (by kernel_rfl)
  have h102 := @run_callFunc_extern Tryz.prog 169 _ (ReflectliteType.abiMethod fun t => do pure (.int .u8 (← Rtype.kind t))) Tryz.func169 (by kernel_rfl) (by kernel_rfl) (by kernel_rfl) (by kernel_rfl)
  have h116 := @run_callFunc_extern Tryz.prog 184 _ (ReflectliteType.method ReflectliteType.elem) Tryz.func184 (by kernel_rfl) (by kernel_rfl) (by kernel_rfl) (by kernel_rfl)
  have h117 := @run_callFunc_extern Tryz.prog 185 _ (ReflectliteType.relation "Implements" ReflectliteType.implements_) Tryz.func185 (by kernel_rfl) (by kernel_rfl) (by kernel_rfl) (by kernel_rfl)
  have f54 := valueOfPF
  have f55 := typePF
  have mK := methodKind
  have mE := methodElem
  have mI := methodImplements
  have kP := kindPF
  have kE := kindF
  have eP := elemPF
  have iE := implementsF
  have n8 := isNilPF ⟨w.heap.size, 0, none⟩ ⟨g, 0, none⟩ ((w.alloc (.cells #[.pointer (some ⟨g, 0, none⟩)] 107)).alloc (.cells #[hd 107, .pointer (some ⟨w.heap.size, 0, none⟩), .int .u64 150] 151)) (by simp)
  have hlt : 0 < w.heap.size := World.block_lt_of_cell? _ _ h0
  have hg2 : ((w.alloc (.cells #[.pointer (some ⟨g, 0, none⟩)] 107)).alloc (.cells #[hd 107, .pointer (some ⟨w.heap.size, 0, none⟩), .int .u64 150] 151)).cell? ⟨0, 0, none⟩ = some (.iface 182 (.agg #[hd 28])) := by
    rw [World.cell?_alloc_lt _ _ _ (by simp), World.cell?_alloc_lt _ _ _ hlt]; exact h0
  have hAs := Lib.hid (as_F_at k v hv1 g ⟨w.heap.size, 0, none⟩ o1 o2 ((w.alloc (.cells #[.pointer (some ⟨g, 0, none⟩)] 107)).alloc (.cells #[hd 107, .pointer (some ⟨w.heap.size, 0, none⟩), .int .u64 150] 151))
    (by rw [World.cell?_alloc_lt _ _ _ (by simp; omega), World.cell?_alloc_lt _ _ _ hgl]; exact ht)
    (by rw [World.frozen?_alloc_old _ _ _ (by simp; omega), World.frozen?_alloc_old _ _ _ (Nat.ne_of_lt hgl)]; exact hf)
    (by rw [World.cell?_alloc_lt _ _ _ (by simp; omega), World.cell?_alloc_lt _ _ _ hgl]; exact ht1)
    (by rw [World.frozen?_alloc_old _ _ _ (by simp; omega), World.frozen?_alloc_old _ _ _ (Nat.ne_of_lt hgl)]; exact hf1)
    (by simp))
  clear ht h0 hf ht1 hf1
  go_enter Tryz.func44, Tryz.ntmps44
  go_wp2_with (go_at_call 81; refine hAs.out.mono ?_; rintro r w2 ⟨rfl, HB2, HC2⟩)
  go_ret
  exact ⟨rfl, Lib.hid ((((Below.refl g w).alloc (by omega) _).alloc (by simp; omega) _).trans HB2.out), HC2⟩

set_option maxHeartbeats 4000000 in
/-- api.Place -/
theorem place_calls (e : Er) (w : World) (h0 : G0 w) : Calls Tryz.prog 18 #[e.val] w fun r w' => r = .returned (.int .i64 e.place) ∧ Hid (Below w.heap.size w w') := by
  have hlt : 0 < w.heap.size := World.block_lt_of_cell? _ _ h0
  have hG : G0 (w.alloc (.cells #[.int .i64 0, .nilIface] 106)) := (World.cell?_alloc_lt _ _ _ hlt).trans h0
  cases e with
  | nil =>
    simp only [Er.val]
    clear h0 hG
    go_enter Tryz.func18, Tryz.ntmps18
    go_wp2
    go_ret
    exact ⟨rfl, Lib.hid ((Below.refl _ _).alloc (Nat.le_refl _) _)⟩
  | no n =>
    have hAs := Lib.hid (as_to_F_no n w.heap.size (.int .i64 0) (w.alloc (.cells #[.int .i64 0, .nilIface] 106)) hG (by simp))
    clear h0 hG
    simp only [Er.val]
    go_enter Tryz.func18, Tryz.ntmps18
    go_wp2_with (go_at_call 44; refine hAs.out.mono ?_; rintro r w2 ⟨rfl, HB2⟩)
    go_ret
    exact ⟨rfl, Lib.hid (((Below.refl _ _).alloc (Nat.le_refl _) _).trans (HB2.out.mono (by simp)))⟩
  | «at» k e =>
    have hone := e.one
    have hAs := Lib.hid (as_to_F_at k e.val hone w.heap.size (.int .i64 0) .nilIface (w.alloc (.cells #[.int .i64 0, .nilIface] 106)) hG (by simp) (by simp) (by simp) (by simp))
    clear h0 hG
    simp only [Er.val]
    generalize e.val = v at hone hAs ⊢
    show Calls _ _ _ _ fun r w' => r = .returned (.int .i64 k) ∧ _
    go_enter Tryz.func18, Tryz.ntmps18
    go_wp2_with (go_at_call 44; refine hAs.out.mono ?_; rintro r w2 ⟨rfl, HB2, HC2⟩; have hc2 := HC2.out)
    go_ret
    exact ⟨rfl, Lib.hid (((Below.refl _ _).alloc (Nat.le_refl _) _).trans HB2.out)⟩
end Go.Proofs.YtjokfllldcjheaaGreatDoor.Er
