/- errors.As at the targets *api.Errno and *api.Fault; api.Code and api.Place: contracts at errors that are chains of Faults around an Errno or nil. -/
import Derived.Test.YtjokfllldcjheaaGreatDoorErrF
namespace Go.Proofs.YtjokfllldcjheaaGreatDoor.Er
open Go.RowKit Go.Extern.Stop Go.Stop Go.Extern
set_option linter.unusedVariables false
set_option linter.unusedSimpArgs false
set_option maxRecDepth 100000


/-- (api.Fault).Unwrap -/
theorem unwrap_calls (k : Int) (v : Value) (hv : v.oneCell' = true) (w : World) : Calls Tryz.prog 175 #[.agg #[.int .i64 k, v]] w fun r w' => r = .returned v ∧ Below w.heap.size w w' := by
  go_enter Tryz.func175, Tryz.ntmps175
  go_wp2
  go_ret
  exact ⟨rfl, (Below.refl _ _).alloc (Nat.le_refl _) _⟩

theorem Er.val_inj : ∀ {a b : Er}, a.val = b.val → a = b := by
  intro a
  induction a with
  | nil => intro b h; exact (Er.val_nil h.symm).symm
  | no n =>
    intro b h
    cases b with
    | nil => simp [Er.val] at h
    | no m => simp [Er.val] at h; rw [h]
    | «at» k e => simp [Er.val] at h
  | «at» k e ih =>
    intro b h
    cases b with
    | nil => simp [Er.val] at h
    | no m => simp [Er.val] at h
    | «at» k' e' =>
      simp [Er.val] at h
      rw [h.1, ih h.2]
open Classical in
/-- how deep an error's value is -/
noncomputable def vd (v : Value) : Nat := if h : ∃ e : Er, e.val = v then (Classical.choose h).deep else 0
theorem vd_val (e : Er) : vd e.val = e.deep := by
  unfold vd
  have hx : ∃ a : Er, a.val = e.val := ⟨e, rfl⟩
  rw [dif_pos hx, Er.val_inj (Classical.choose_spec hx)]
theorem vd_step (k : Int) (e : Er) : vd e.val < vd (.iface 106 (.agg #[.int .i64 k, e.val])) := by
  show _ < vd (Er.at k e).val
  rw [vd_val, vd_val]
  exact Nat.lt_succ_self _
theorem Er.one (e : Er) : e.val.oneCell' = true := by cases e <;> rfl

/-- the number at a target -/
theorem set_E (g : Nat) (n : Int) (old : Value) (W : World) (ht : W.cell? ⟨g, 0, none⟩ = some old) (hf : W.frozen? ⟨g, 0, none⟩ = false) :
    (ReflectliteValue.set #[.agg #[hd 96, .pointer (some ⟨g, 0, none⟩), .int .u64 386], .agg #[hd 96, .pointer (some ⟨W.heap.size, 0, none⟩), .int .u64 130]]).run Tryz.prog (W.alloc (.cells #[.int .i64 n] 96))
      = .ok (.tuple #[]) ((W.alloc (.cells #[.int .i64 n] 96)).setCell ⟨g, 0, none⟩ (.int .i64 n)) := by
  have hl := World.block_lt_of_cell? _ _ ht
  refine setE _ _ _ old _ (by simp) ?_ ?_
  · rw [World.cell?_alloc_lt _ _ _ hl]; exact ht
  · rw [World.frozen?_alloc_old _ _ _ (Nat.ne_of_lt hl)]; exact hf

set_option maxHeartbeats 4000000 in
theorem as_E (e : Er) (he : e ≠ .nil) (g : Nat) (va : Addr) (old : Int) (w : World) (ht : w.cell? ⟨g, 0, none⟩ = some (.int .i64 old)) (hf : w.frozen? ⟨g, 0, none⟩ = false) (hva : w.cell? va = some (.pointer (some ⟨g, 0, none⟩))) :
    Calls Tryz.prog 81 #[e.val, .iface 98 (.pointer (some ⟨g, 0, none⟩)), .agg #[hd 98, .pointer (some va), .int .u64 150], .iface 182 (.agg #[hd 96])] w
      fun r w' => r = .returned (.bool e.find.isSome) ∧ Hid (Below g w w') ∧ Hid (w'.cell? ⟨g, 0, none⟩ = some (.int .i64 (e.find.getD old))) := by
  have hgl : g < w.heap.size := World.block_lt_of_cell? _ _ ht
  have hval : va.block < w.heap.size := World.block_lt_of_cell? _ _ hva
  have HT := Lib.hid ht
  have HF := Lib.hid hf
  have HVA := Lib.hid hva
  have HNE := Lib.hid he
  clear ht hf hva he
  have h54 := @run_callFunc_extern Tryz.prog 78 _ (fun args => ReflectliteValue.unpack (args.getD 0 (.tuple #[]))) Tryz.func78 (by kernel_rfl) (by kernel_rfl) (by kernel_rfl) (by kernel_rfl)
  have h67 := @run_callFunc_extern Tryz.prog 111 _ ReflectliteType.typeOf Tryz.func111 (by kernel_rfl) (by kernel_rfl) (by kernel_rfl) (by kernel_rfl)
  have h114 := @run_callFunc_extern Tryz.prog 182 _ (ReflectliteType.relation "AssignableTo" ReflectliteType.assignableTo) Tryz.func182 (by kernel_rfl) (by kernel_rfl) (by kernel_rfl) (by kernel_rfl)
  have h68 := @run_callFunc_extern Tryz.prog 112 _ (ReflectliteValue.method (ReflectliteValue.valueError "reflectlite.Value.Elem" 0) ReflectliteValue.elem) Tryz.func112 (by kernel_rfl) (by kernel_rfl) (by kernel_rfl) (by kernel_rfl)
  have h69 := @run_callFunc_extern Tryz.prog 113 _ ReflectliteValue.set Tryz.func113 (by kernel_rfl) (by kernel_rfl) (by kernel_rfl) (by kernel_rfl)
  have mA := methodAssignableTo
  have tE := typeOfE
  have tF := typeOfF
  have aE := assignableE
  have aF := assignableNotF
  have nF := noAsF
  have uF := unwrapF
  have mU := methodUnwrap
  have vE := valueOfE
  go_enter Tryz.func81, Tryz.ntmps81
  go_wp2
  go_loopw [0] (fun x wr => ∃ e' : Er, x = e'.val ∧ e' ≠ .nil ∧ e'.find = e.find ∧ Hid (Below (w.heap.size + 1) (w.alloc (.cells #[hd 98, .pointer (some va), .int .u64 150] 151)) wr)) (fun x _ => vd x)
  case atStart => exact ⟨e, rfl, HNE.out, rfl, Lib.hid (Below.refl _ _)⟩
  case round =>
    obtain ⟨e', rfl, hne, hfe, HB⟩ := hrel
    have hsz := HB.out.size
    have hsz0 : (w.alloc (.cells #[hd 98, .pointer (some va), .int .u64 150] 151)).heap.size = w.heap.size + 1 := by simp
    have hltw : w.heap.size + 1 ≤ wr.heap.size := by omega
    have ct : wr.cell? ⟨g, 0, none⟩ = some (.int .i64 old) := by
      rw [HB.out.cell (by show g < _; omega), World.cell?_alloc_lt _ _ _ hgl]; exact HT.out
    have cf : wr.frozen? ⟨g, 0, none⟩ = false := by
      rw [HB.out.frozen (by show g < _; omega), World.frozen?_alloc_old _ _ _ (Nat.ne_of_lt hgl)]; exact HF.out
    have cva : wr.cell? va = some (.pointer (some ⟨g, 0, none⟩)) := by
      rw [HB.out.cell (by omega), World.cell?_alloc_lt _ _ _ hval]; exact HVA.out
    have cb0 : wr.cell? ⟨w.heap.size, 0, none⟩ = some (hd 98) := by rw [HB.out.cell (by simp)]; simp
    have cb1 : wr.cell? ⟨w.heap.size, 1, none⟩ = some (.pointer (some va)) := by rw [HB.out.cell (by simp)]; simp
    have cb2 : wr.cell? ⟨w.heap.size, 2, none⟩ = some (.int .u64 150) := by rw [HB.out.cell (by simp)]; simp
    have HBg : Hid (Below g w wr) := Lib.hid (((Below.refl g w).alloc (by omega) _).trans (HB.out.mono (by omega)))
    have HNE' := Lib.hid hne
    have HFE := Lib.hid hfe
    clear hne hfe
    cases e' with
    | nil => exact absurd rfl HNE'.out
    | no n =>
      have el := elemVPE va ⟨g, 0, none⟩ wr cva
      have st := set_E g n (.int .i64 old) wr ct cf
      have HCT := Lib.hid ct
      clear ct cf cva
      simp only [Er.val]
      go_wp2
      go_ret
      refine ⟨?_, ?_, ?_⟩
      · rw [← HFE.out]; rfl
      · exact Lib.hid ((HBg.out.alloc (by omega) _).setCell (Nat.le_refl _) _)
      · rw [← HFE.out]
        refine Lib.hid (World.cell?_setCell_same _ _ _ (u := .int .i64 old) ?_)
        rw [World.cell?_alloc_lt _ _ _ (by show g < _; omega)]; exact HCT.out
    | «at» k e2 =>
      have hone := e2.one
      have hu := Lib.hid (unwrap_calls k e2.val hone)
      have HCT := Lib.hid ct
      clear ct cf cva
      cases e2 with
      | nil =>
        simp only [Er.val] at hu ⊢
        go_wp2_with (go_at_call 175; refine (hu.out _).mono ?_; rintro r w2 ⟨rfl, HB2⟩)
        go_ret
        refine ⟨?_, ?_, ?_⟩
        · rw [← HFE.out]; rfl
        · exact Lib.hid (HBg.out.trans (HB2.mono (by omega)))
        · rw [← HFE.out]
          refine Lib.hid ((HB2.cell (by show g < _; omega)).trans HCT.out)
      | no n =>
        simp only [Er.val] at hu ⊢
        go_wp2_with (go_at_call 175; refine (hu.out _).mono ?_; rintro r w2 ⟨rfl, HB2⟩)
        go_roundw
        case rel => exact ⟨.no n, rfl, by simp, HFE.out, Lib.hid (HB.out.trans (HB2.mono hltw))⟩
        case measure => exact vd_step k (.no n)
      | «at» k3 e3 =>
        simp only [Er.val] at hu ⊢
        go_wp2_with (go_at_call 175; refine (hu.out _).mono ?_; rintro r w2 ⟨rfl, HB2⟩)
        go_roundw
        case rel => exact ⟨.at k3 e3, rfl, by simp, HFE.out, Lib.hid (HB.out.trans (HB2.mono hltw))⟩
        case measure => exact vd_step k (.at k3 e3)

/-- errors.As at *api.Errno -/
theorem as_to_E (e : Er) (he : e ≠ .nil) (g : Nat) (old : Int) (w : World) (h0 : G0 w) (ht : w.cell? ⟨g, 0, none⟩ = some (.int .i64 old)) (hf : w.frozen? ⟨g, 0, none⟩ = false) :
    Calls Tryz.prog 44 #[e.val, .iface 98 (.pointer (some ⟨g, 0, none⟩))] w
      fun r w' => r = .returned (.bool e.find.isSome) ∧ Hid (Below g w w') ∧ Hid (w'.cell? ⟨g, 0, none⟩ = some (.int .i64 (e.find.getD old))) := by
  have hgl : g < w.heap.size := World.block_lt_of_cell? _ _ ht
  have h54 := @run_callFunc_extern Tryz.prog 78 _ (fun args => ReflectliteValue.unpack (args.getD 0 (.tuple #[]))) Tryz.func78 (by kernel_rfl) (by kernel_rfl) (by kernel_rfl) (by kernel_rfl)
  have h55 := @run_callFunc_extern Tryz.prog 79 _ (ReflectliteValue.methodAny (ReflectliteValue.valueError "reflectlite.Value.Type" 0) (fun t _ _ _ => ReflectliteType.toType t)) Tryz.func79 (by kernel_rfl) (by kernel_rfl) (by kernel_rfl) (by kernel_rfl)
  have h56 := @run_callFunc_extern Tryz.prog 80 _ (ReflectliteValue.method (ReflectliteValue.valueError "reflectlite.Value.IsNil" 0) ReflectliteValue.isNil) Tryz.func80 (by kernel_rfl) (by kernel_rfl) (by kernel_rfl) (by kernel_rfl)
  have h102 := @run_callFunc_extern Tryz.prog 169 _ (ReflectliteType.abiMethod fun t => do pure (.int .u8 (← Rtype.kind t))) Tryz.func169 (by kernel_rfl) (by kernel_rfl) (by kernel_rfl) (by kernel_rfl)
  have h116 := @run_callFunc_extern Tryz.prog 184 _ (ReflectliteType.method ReflectliteType.elem) Tryz.func184 (by kernel_rfl) (by kernel_rfl) (by kernel_rfl) (by kernel_rfl)
  have h117 := @run_callFunc_extern Tryz.prog 185 _ (ReflectliteType.relation "Implements" ReflectliteType.implements_) Tryz.func185 (by kernel_rfl) (by kernel_rfl) (by kernel_rfl) (by kernel_rfl)
  have f54 := valueOfPE
  have f55 := typePE
  have mK := methodKind
  have mE := methodElem
  have mI := methodImplements
  have kP := kindPE
  have kE := kindE
  have eP := elemPE
  have iE := implementsE
  have n8 := isNilPE ⟨w.heap.size, 0, none⟩ ⟨g, 0, none⟩ ((w.alloc (.cells #[.pointer (some ⟨g, 0, none⟩)] 98)).alloc (.cells #[hd 98, .pointer (some ⟨w.heap.size, 0, none⟩), .int .u64 150] 151)) (by simp)
  have hlt : 0 < w.heap.size := World.block_lt_of_cell? _ _ h0
  have hg2 : ((w.alloc (.cells #[.pointer (some ⟨g, 0, none⟩)] 98)).alloc (.cells #[hd 98, .pointer (some ⟨w.heap.size, 0, none⟩), .int .u64 150] 151)).cell? ⟨0, 0, none⟩ = some (.iface 182 (.agg #[hd 28])) := by
    rw [World.cell?_alloc_lt _ _ _ (by simp), World.cell?_alloc_lt _ _ _ hlt]; exact h0
  have hAs := Lib.hid (as_E e he g ⟨w.heap.size, 0, none⟩ old ((w.alloc (.cells #[.pointer (some ⟨g, 0, none⟩)] 98)).alloc (.cells #[hd 98, .pointer (some ⟨w.heap.size, 0, none⟩), .int .u64 150] 151))
    (by rw [World.cell?_alloc_lt _ _ _ (by simp; omega), World.cell?_alloc_lt _ _ _ hgl]; exact ht)
    (by rw [World.frozen?_alloc_old _ _ _ (by simp; omega), World.frozen?_alloc_old _ _ _ (Nat.ne_of_lt hgl)]; exact hf)
    (by simp))
  have HF := Lib.hid hf
  have HT := Lib.hid ht
  clear hf ht h0
  obtain ⟨t, v, hv⟩ : ∃ t v, e.val = .iface t v := by cases e with
    | nil => exact absurd rfl he
    | no n => exact ⟨_, _, rfl⟩
    | «at» k e => exact ⟨_, _, rfl⟩
  rw [hv] at hAs ⊢
  clear hv he
  go_enter Tryz.func44, Tryz.ntmps44
  go_wp2_with (go_at_call 81; refine hAs.out.mono ?_; rintro r w2 ⟨rfl, HB2, HC2⟩)
  go_ret
  exact ⟨rfl, Lib.hid ((((Below.refl g w).alloc (by omega) _).alloc (by simp; omega) _).trans HB2.out), HC2⟩

set_option maxHeartbeats 4000000 in
/-- api.Code -/
theorem code_calls (e : Er) (w : World) (h0 : G0 w) : Calls Tryz.prog 12 #[e.val] w fun r w' => r = .returned (.int .i64 e.code) ∧ Hid (Below w.heap.size w w') := by
  cases e with
  | nil =>
    simp only [Er.val]
    go_enter Tryz.func12, Tryz.ntmps12
    go_wp2
    go_ret
    exact ⟨rfl, Lib.hid (Below.refl _ _)⟩
  | no n =>
    have hlt : 0 < w.heap.size := World.block_lt_of_cell? _ _ h0
    have hAs := Lib.hid (as_to_E (.no n) (by simp) w.heap.size 0 (w.alloc (.cells #[.int .i64 0] 96)) ((World.cell?_alloc_lt _ _ _ hlt).trans h0) (by simp) (by simp))
    simp only [Er.val, Er.find, Option.isSome_some, Option.getD_some] at hAs ⊢
    go_enter Tryz.func12, Tryz.ntmps12
    go_wp2_with (go_at_call 44; refine hAs.out.mono ?_; rintro r w2 ⟨rfl, HB2, HC2⟩; have hc2 := HC2.out)
    go_ret
    exact ⟨rfl, Lib.hid (((Below.refl _ _).alloc (Nat.le_refl _) _).trans HB2.out)⟩
  | «at» k e =>
    have hlt : 0 < w.heap.size := World.block_lt_of_cell? _ _ h0
    have hAs := Lib.hid (as_to_E (.at k e) (by simp) w.heap.size 0 (w.alloc (.cells #[.int .i64 0] 96)) ((World.cell?_alloc_lt _ _ _ hlt).trans h0) (by simp) (by simp))
    simp only [Er.val, Er.find] at hAs ⊢
    have hc : (Er.at k e).code = e.find.getD (-1) := rfl
    rw [hc]
    clear hc h0
    cases hf : e.find with
    | none =>
      rw [hf] at hAs
      simp only [Option.isSome_none, Option.getD_none] at hAs ⊢
      clear hf
      go_enter Tryz.func12, Tryz.ntmps12
      go_wp2_with (go_at_call 44; refine hAs.out.mono ?_; rintro r w2 ⟨rfl, HB2, HC2⟩)
      go_ret
      exact ⟨rfl, Lib.hid (((Below.refl _ _).alloc (Nat.le_refl _) _).trans HB2.out)⟩
    | some n =>
      rw [hf] at hAs
      simp only [Option.isSome_some, Option.getD_some] at hAs ⊢
      clear hf
      go_enter Tryz.func12, Tryz.ntmps12
      go_wp2_with (go_at_call 44; refine hAs.out.mono ?_; rintro r w2 ⟨rfl, HB2, HC2⟩; have hc2 := HC2.out)
      go_ret
      exact ⟨rfl, Lib.hid (((Below.refl _ _).alloc (Nat.le_refl _) _).trans HB2.out)⟩
end Go.Proofs.YtjokfllldcjheaaGreatDoor.Er
