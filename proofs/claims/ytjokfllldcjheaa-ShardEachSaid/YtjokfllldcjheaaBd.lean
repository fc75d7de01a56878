/- strings.Builder, walked: two of them side by side. -/
import Derived.Test.YtjokfllldcjheaaGw
import Derived.Lib.Builder
import Derived.Lib.UnsafeStr
import Derived.Lib.AppendStr
import Derived.BigQuiet
import Derived.BigRegion
namespace Go.Proofs.Ytjokfllldcjheaa.Oc
open Go.RowKit Go.Proofs.Ytjokfllldcjheaa.Sha
set_option linter.unusedVariables false
set_option linter.unusedSimpArgs false
theorem list_sz0 (s : ByteArray) : s.data.toList.length = s.size := by rw [Array.length_toList]; rfl
theorem OB.append_str_run {w : World} {base : Nat} {v : Value} {xs : List UInt8} (HO : OB w base v xs) (s : ByteArray) (ty : TypeId) (hbase : base ≤ w.heap.size) (hl : xs.length + s.size ≤ 140737488355328) :
    ∃ v1 w1, (Builtin.append_ #[83, 9] ty #[v, .string s]).run Try.prog w = .ok v1 w1 ∧ OB w1 base v1 (xs ++ s.data.toList) ∧ w.grownBy w1 v.ownBlock ∧ (v1.ownBlock = v.ownBlock ∨ v1.ownBlock = some w.heap.size) := by
  obtain ⟨i0, hi, hzz⟩ := Option.map_eq_some_iff.1 infoU8
  simp only [Prod.mk.injEq] at hzz
  obtain ⟨hz0, hz1, hz2⟩ := hzz
  have hm : xs.length + s.size ≤ maxLen := by simp only [maxLen]; omega
  obtain ⟨v1, w1, hr, h2, h3, -⟩ := Lib.run_append_own_string (P := Try.prog) w base 83 9 ty 5 i0 Try.underlying83 Try.underlying9 hi hz0 hz1 hz2 v xs.length (bcells xs) HO s hm hl hbase
  refine ⟨v1, w1, hr, ?_, h3, ?_⟩
  · unfold OB
    rw [bcells_append, ← strCells_eq, List.length_append, list_sz0]
    exact h2
  · rcases id HO.2 with ⟨rfl, hn⟩ | ⟨g, cap, cur, rfl, hb, hg, hnc, hcm, hcs, htk⟩
    · by_cases h0 : s.size = 0
      · have hf := Lib.run_firstCells_string (P := Try.prog) w 1 s
        rw [h0] at hf
        have : (Builtin.append_ #[83, 9] ty #[.slice none 0 0, .string s]).run Try.prog w = .ok (.slice none 0 0) w := by
          simp [Builtin.append_, run_underlying Try.underlying83, run_underlying Try.underlying9, sizeOf, typeInfo, hi, hz1, Builtin.lenOf, h0, hf]
        rw [hr] at this
        injection this with e1 _
        exact .inl (by rw [e1])
      · have := run_append_nil_string (P := Try.prog) w 83 9 ty 5 i0 (.int .u8 0) Try.underlying83 Try.underlying9 hi hz0 s (by omega) (by omega) (by rw [hz2]; omega)
        rw [hr] at this
        injection this with e1 _
        exact .inr (by rw [e1]; rfl)
    · by_cases hroom : xs.length + s.size ≤ cap
      · have hcs' : cur.size = cap := by simpa using hcs
        have := Lib.run_append_room_string (P := Try.prog) w 83 9 ty 5 i0 Try.underlying83 Try.underlying9 hi hz1 g xs.length cap cur hg s hroom (by omega)
        rw [hr] at this
        injection this with e1 _
        exact .inl (by rw [e1]; rfl)
      · have holds : ∀ j u, (bcells xs)[j]? = some u → w.cell? ((⟨g, 0, none⟩ : Addr).add j) = some u := World.ownsRow.cells HO (g := g) rfl
        have := Lib.run_append_grow_string (P := Try.prog) w 83 9 ty 5 i0 (.int .u8 0) Try.underlying83 Try.underlying9 hi hz0 ⟨g, 0, none⟩ xs.length cap (bcells xs) (by rw [hz1, bcells_length, Nat.mul_one]) holds s (by omega) (by omega) (by rw [hz2]; exact growslice_fits (by omega) (by omega))
        rw [hr] at this
        injection this with e1 _
        exact .inr (by rw [e1]; rfl)
/-- a builder at block b, its bytes in row v -/
structure BD (w : World) (B b : Nat) (v : Value) (bs : List UInt8) : Prop where
  blk : ∃ p, (p = .pointer none ∨ p = .pointer (some ⟨b, 0, none⟩)) ∧ w.heap[b]? = some (.cells #[p, v] 92 (0, 0))
  row : OB w B v bs
  base : B ≤ b
  own : v.ownBlock ≠ some b
/-- but for a builder's blocks all lies as it lay -/
structure Wb (w w' : World) (b : Nat) (v v' : Value) : Prop where
  os : w'.os = w.os
  tape : w'.tape = w.tape
  output : w'.output = w.output
  size : w.heap.size ≤ w'.heap.size
  block : ∀ j, j < w.heap.size → j ≠ b → v.ownBlock ≠ some j → w'.heap[j]? = w.heap[j]?
  own : v'.ownBlock = v.ownBlock ∨ v'.ownBlock = some w.heap.size
set_option maxHeartbeats 1000000 in
theorem copy_used {w : World} {b : Nat} (h0 : w.cell? ⟨b, 0, none⟩ = some (.pointer (some ⟨b, 0, none⟩))) :
    Calls Try.prog 62 #[.pointer (some ⟨b, 0, none⟩)] w fun e w' => e = .returned (.tuple #[]) ∧ w = w' := by
  obtain ⟨j, hj⟩ : ∃ j, Try.prog.info? 92 = some j := Option.isSome_iff_exists.1 (by kernel_rfl)
  have hq : (binOp .neq 90 (.pointer (some ⟨b, 0, none⟩)) (.pointer (some ⟨b, 0, none⟩))).run Try.prog w = .ok (.bool false) w := Lib.run_neq_ptr_same w _ Try.underlying90 hj
  clear hj
  go_enter Try.func62, Try.ntmps62
  go_wp2
  go_end0
  exact ⟨rfl, rfl⟩
set_option maxHeartbeats 1000000 in
theorem copy_fresh {w : World} {b : Nat} (h0 : w.cell? ⟨b, 0, none⟩ = some (.pointer none)) (hsh : w.shape? b = some (92, 2)) (hfz : w.frozen? ⟨b, 0, none⟩ = false) :
    Calls Try.prog 62 #[.pointer (some ⟨b, 0, none⟩)] w fun e w' => e = .returned (.tuple #[]) ∧ w' = w.setCell ⟨b, 0, none⟩ (.pointer (some ⟨b, 0, none⟩)) := by
  have hsz : (Try.prog.info? 92).map (·.size) = some 2 := by kernel_rfl
  obtain ⟨j, hj, hjs⟩ := Option.map_eq_some_iff.1 hsz
  have hli : liesAt Try.prog Try.prog.depth 92 (2 / Try.prog.cellsOf 92) 0 92 1 = true := by kernel_rfl
  have q1 := Lib.run_to_unsafe (P := Try.prog) w ⟨b, 0, none⟩ Try.underlying90 Try.underlying122 hj (by rw [hjs]; decide) hsh (Nat.zero_lt_succ 1)
  have q2 : (callFunc 73 #[.pointer (some ⟨b, 0, none⟩)]).run Try.prog w = .ok (.value (.pointer (some ⟨b, 0, none⟩))) w := by
    rw [run_callFunc_extern Try.func73 (by kernel_rfl) (by kernel_rfl) (by kernel_rfl) (e := Extern.AbiNoEscape.same) (by kernel_rfl)]
    rw [Lib.run_noEscape]; rfl
  have q3 := Lib.run_from_unsafe (P := Try.prog) w ⟨b, 0, none⟩ Try.underlying122 Try.underlying90 hj hsh hli
  clear hj hjs hsz hli hsh
  go_enter Try.func62, Try.ntmps62
  go_wp2
  go_end0
  exact ⟨rfl, rfl⟩
theorem BD.lt {w : World} {B b : Nat} {v : Value} {bs : List UInt8} (h : BD w B b v bs) : b < w.heap.size := by
  obtain ⟨p, -, hb⟩ := h.blk
  exact (Array.getElem?_eq_some_iff.1 hb).1
theorem OB.form {w : World} {B : Nat} {v : Value} {bs : List UInt8} (h : OB w B v bs) : ∃ A c, v = .slice A bs.length c ∧ bs.length ≤ c := by
  obtain ⟨g, ⟨A, c, o, hv, h1, -⟩, -⟩ := h.reads
  exact ⟨A, c, hv, h1⟩
/-- what the first call at a builder leaves: it holds its own address -/
theorem copy_calls {w : World} {B b : Nat} {v : Value} {bs : List UInt8} (h : BD w B b v bs) :
    Calls Try.prog 62 #[.pointer (some ⟨b, 0, none⟩)] w fun e w' => e = .returned (.tuple #[]) ∧ w'.heap[b]? = some (.cells #[.pointer (some ⟨b, 0, none⟩), v] 92 (0, 0)) ∧ w.grownBy w' (some b) ∧ w'.heap.size = w.heap.size := by
  obtain ⟨p, hp, hb⟩ := h.blk
  rcases hp with rfl | rfl
  · refine (copy_fresh (cell_of_row w b 0 _ _ _ hb) (by simp [World.shape?, hb]) (frozen_of_row w b 0 _ _ hb)).mono ?_
    rintro e w' ⟨rfl, rfl⟩
    exact ⟨rfl, heap_setCell_same w b 0 _ _ _ hb, ⟨rfl, rfl, rfl, by simp, fun j _ hj => heap_setCell_other w ⟨b, 0, none⟩ j _ (fun e => hj (by simp [e]))⟩, by simp⟩
  · refine (copy_used (cell_of_row w b 0 _ _ _ hb)).mono ?_
    rintro e w' ⟨rfl, rfl⟩
    exact ⟨rfl, hb, World.grownBy.refl _ _, rfl⟩
theorem BD.mid {w w1 w2 : World} {B b : Nat} {v v1 : Value} {bs bs' : List UInt8} (h : BD w B b v bs) (hb1 : w1.heap[b]? = some (.cells #[.pointer (some ⟨b, 0, none⟩), v] 92 (0, 0))) (hg1 : w.grownBy w1 (some b)) (hs1 : w1.heap.size = w.heap.size)
    (k1 : OB w2 B v1 bs') (k2 : w1.grownBy w2 v.ownBlock) (k3 : v1.ownBlock = v.ownBlock ∨ v1.ownBlock = some w1.heap.size) :
    w2.cell? ⟨b, 1, none⟩ = some v ∧ w2.frozen? ⟨b, 1, none⟩ = false ∧ Hid (BD (w2.setCell ⟨b, 1, none⟩ v1) B b v1 bs') ∧ Hid (Wb w (w2.setCell ⟨b, 1, none⟩ v1) b v v1) := by
  have hbl := h.lt
  have hb2 : w2.heap[b]? = some (.cells #[.pointer (some ⟨b, 0, none⟩), v] 92 (0, 0)) := (k2.block b (by rw [hs1]; exact hbl) (fun e => h.own e.symm)).trans hb1
  have hset : w2.grownBy (w2.setCell ⟨b, 1, none⟩ v1) (some b) := ⟨rfl, rfl, rfl, by simp, fun j _ hj => heap_setCell_other w2 ⟨b, 1, none⟩ j _ (fun e => hj (by simp [e]))⟩
  have hown : v1.ownBlock ≠ some b := by
    rcases k3 with e | e
    · rw [e]; exact h.own
    · rw [e, hs1]; intro h'; injection h' with h'; omega
  refine ⟨cell_of_row w2 b 1 _ _ _ hb2, frozen_of_row w2 b 1 _ _ hb2, Lib.hid ⟨⟨_, .inr rfl, heap_setCell_same w2 b 1 _ _ _ hb2⟩, ?_, h.base, hown⟩, Lib.hid ⟨?_, ?_, ?_, ?_, ?_, ?_⟩⟩
  · exact k1.kept hset (by cases e : v1.ownBlock with
      | none => exact .inl rfl
      | some k => exact .inr (fun e2 => hown (e.trans e2)))
  · exact hset.os.trans (k2.os.trans hg1.os)
  · exact hset.tape.trans (k2.tape.trans hg1.tape)
  · exact hset.output.trans (k2.output.trans hg1.output)
  · exact Nat.le_trans hg1.size (Nat.le_trans k2.size hset.size)
  · intro j hj hjb hjv
    have s1 := hg1.size
    have s2 := k2.size
    rw [hset.block j (by omega) (fun e => hjb (by injection e)), k2.block j (by omega) (fun e => hjv e.symm), hg1.block j hj (fun e => hjb (by injection e))]
  · rcases k3 with e | e
    · exact .inl e
    · exact .inr (by rw [e, hs1])
set_option maxHeartbeats 2000000 in
set_option maxRecDepth 100000 in
theorem wstr_calls {w : World} {B b : Nat} {v : Value} {bs : List UInt8} (h : BD w B b v bs) (s : ByteArray) (hl : bs.length + s.size ≤ 140737488355328) :
    Calls Try.prog 42 #[.pointer (some ⟨b, 0, none⟩), .string s] w fun e w' => e = .returned (.tuple #[.int .i64 (s.size : Int), .nilIface]) ∧ ∃ v', Hid (BD w' B b v' (bs ++ s.data.toList)) ∧ Hid (Wb w w' b v v') := by
  have H := Lib.hid h
  have HC := Lib.hid (copy_calls h)
  have HLN := Lib.hid hl
  obtain ⟨A0, c0, rfl, -⟩ := OB.form h.row
  obtain ⟨n0, hn0⟩ : ∃ n, bs.length = n := ⟨_, rfl⟩
  rw [hn0] at H HC ⊢
  clear h hl hn0
  go_enter Try.func42, Try.ntmps42
  go_upto_region 2 with (go_at_call 62; refine HC.out.mono ?_; rintro e w1 ⟨rfl, hb1, hg1, hs1⟩; have HB1 := Lib.hid hb1; have HG1 := Lib.hid hg1; have HS1 := Lib.hid hs1; clear hb1 hg1 hs1)
  have d1 : w1.cell? ⟨b, 1, none⟩ = some (.slice A0 n0 c0) := cell_of_row w1 b 1 _ _ _ HB1.out
  have HRO : Hid (OB w1 B (.slice A0 n0 c0) bs) := Lib.hid (H.out.row.kept HG1.out (by cases e : (Value.slice A0 n0 c0).ownBlock with
    | none => exact .inl rfl
    | some k => exact .inr (fun e2 => H.out.own (e.trans e2))))
  have HBB : Hid (B ≤ w1.heap.size) := Lib.hid (by rw [HS1.out]; have := H.out.base; have := H.out.lt; omega)
  go_wp2_with (at_builtin; obtain ⟨v1, w2, hrun, k1, k2, k3⟩ := OB.append_str_run HRO.out s 83 HBB.out HLN.out; obtain ⟨A1, c1, hv1, -⟩ := OB.form k1; obtain ⟨n1, hn1⟩ : ∃ n, (bs ++ s.data.toList).length = n := ⟨_, rfl⟩; rw [hn1] at hv1; subst hv1; obtain ⟨m1, m2, M3, M4⟩ := H.out.mid HB1.out HG1.out HS1.out k1 k2 k3; clear k1 k2 k3 hn1; refine append_step rfl _ _ _ _ rfl rfl rfl hrun ?_; clear hrun)
  go_ret2
  exact ⟨rfl, _, M3, M4⟩
set_option maxHeartbeats 1000000 in
theorem blen_calls {w : World} {B b : Nat} {v : Value} {bs : List UInt8} (h : BD w B b v bs) :
    Calls Try.prog 43 #[.pointer (some ⟨b, 0, none⟩)] w fun e w' => e = .returned (.int .i64 (bs.length : Int)) ∧ w = w' := by
  obtain ⟨A0, c0, rfl, -⟩ := OB.form h.row
  obtain ⟨p, -, hb⟩ := h.blk
  have c1 : w.cell? ⟨b, 1, none⟩ = some (.slice A0 bs.length c0) := cell_of_row w b 1 _ _ _ hb
  generalize bs.length = n at *
  clear h hb
  go_enter Try.func43, Try.ntmps43
  go_wp2
  go_ret
  exact ⟨rfl, rfl⟩
theorem freeze_grown (w : World) (g n : Nat) : w.grownBy (w.drew.freeze ⟨g, 0, none⟩ n) (some g) ∧ (w.drew.freeze ⟨g, 0, none⟩ n).heap.size = w.heap.size := by
  unfold World.freeze
  split
  · exact ⟨⟨rfl, rfl, rfl, Nat.le_refl _, fun _ _ _ => rfl⟩, rfl⟩
  · refine ⟨⟨rfl, rfl, rfl, ?_, fun j _ hj => ?_⟩, ?_⟩
    · show w.heap.size ≤ (w.heap.modify g _).size
      rw [Array.size_modify]; exact Nat.le_refl _
    rotate_left
    · show (w.heap.modify g _).size = _
      rw [Array.size_modify]
    show (w.drew.heap.modify g _)[j]? = _
    rw [Array.getElem?_modify, if_neg (fun e => hj (by rw [e]))]
    rfl
set_option maxHeartbeats 2000000 in
set_option maxRecDepth 100000 in
/-- String, of a builder that holds something -/
theorem bstr_calls {w : World} {B b : Nat} {v : Value} {bs : List UInt8} (h : BD w B b v bs) (hne : bs ≠ []) (hl : bs.length ≤ 140737488355328) :
    Calls Try.prog 46 #[.pointer (some ⟨b, 0, none⟩)] w fun e w' => e = .returned (.string ⟨bs.toArray⟩) ∧ w.grownBy w' v.ownBlock ∧ w'.heap.size = w.heap.size := by
  obtain ⟨p, -, hb⟩ := h.blk
  have hpos : bs.length ≠ 0 := fun e => hne (List.eq_nil_of_length_eq_zero e)
  rcases id h.row.2 with ⟨-, hn⟩ | ⟨g, cap, cur, rfl, hbg, hg, hnc, hcm, hcs, htk⟩
  · exact absurd hn hpos
  · have hb' : w.drew.heap[b]? = some (.cells #[p, .slice (some ⟨g, 0, none⟩) bs.length cap] 92 (0, 0)) := hb
    have c1 : w.drew.cell? ⟨b, 1, none⟩ = some (.slice (some ⟨g, 0, none⟩) bs.length cap) := cell_of_row w.drew b 1 _ _ _ hb'
    have hSD : (Builtin.unsafeSliceData_ #[83] 115 #[.slice (some ⟨g, 0, none⟩) bs.length cap]).run Try.prog w.drew = .ok (.pointer (some ⟨g, 0, none⟩)) w.drew := Lib.run_unsafeSliceData_row _ _ _ _ _ _ (by omega)
    have hcur : bs.length ≤ cur.size := by
      have : cur.size = cap := by simpa using hcs
      omega
    have hUS : (Builtin.unsafeString_ #[115, 3] 9 #[.pointer (some ⟨g, 0, none⟩), .int .i64 (bs.length : Int)]).run Try.prog w.drew = .ok (.string ⟨bs.toArray⟩) (w.drew.freeze ⟨g, 0, none⟩ bs.length) := by
      refine Lib.run_unsafeString_row w.drew 115 3 9 5 Try.underlying115 (by kernel_rfl) g cur.size (by have hg' : w.drew.heap[g]? = some (.cells cur 5 (0, 0)) := hg; simp [World.shape?, hg']) bs hne hcur (by omega) ?_
      intro j x hx
      have hj := (List.getElem?_eq_some_iff.1 hx).1
      have := World.ownsRow.cells h.row (g := g) rfl j _ (bcells_get bs j hj)
      show w.cell? _ = _
      rw [this]
      simp [byt, List.getD_eq_getElem?_getD, hx]
    have HFG := Lib.hid (freeze_grown w g bs.length)
    generalize hW : w.drew.freeze ⟨g, 0, none⟩ bs.length = W at HFG hUS
    generalize bs.length = n at *
    clear h hb hb' hne hpos hg hnc hcm hcs htk hW hcur
    go_enter Try.func46, Try.ntmps46
    go_wp2
    go_region
    all_goals (go_wp2; go_ret; exact ⟨rfl, HFG.out.1, HFG.out.2⟩)
end Go.Proofs.Ytjokfllldcjheaa.Oc
