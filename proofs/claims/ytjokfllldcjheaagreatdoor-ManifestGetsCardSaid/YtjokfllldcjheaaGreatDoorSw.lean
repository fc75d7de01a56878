/- strings.Builder, walked: two of them side by side. · shard, walked: laid, Put. -/
import Derived.Test.YtjokfllldcjheaaGreatDoorGt
import Derived.Lib.Builder
import Derived.Lib.UnsafeStr
import Derived.Lib.AppendStr
import Derived.BigQuiet
import Derived.BigRegion
import Derived.Test.YtjokfllldcjheaaGreatDoorCo
/- strings.Builder, walked: two of them side by side. -/
namespace Go.Proofs.YtjokfllldcjheaaGreatDoor.Oc
open Go.RowKit Go.Proofs.YtjokfllldcjheaaGreatDoor.Sha
set_option linter.unusedVariables false
set_option linter.unusedSimpArgs false
theorem list_sz0 (s : ByteArray) : s.data.toList.length = s.size := by rw [Array.length_toList]; rfl
theorem OB.append_str_run {w : World} {base : Nat} {v : Value} {xs : List UInt8} (HO : OB w base v xs) (s : ByteArray) (ty : TypeId) (hbase : base ≤ w.heap.size) (hl : xs.length + s.size ≤ 140737488355328) :
    ∃ v1 w1, (Builtin.append_ #[128, 9] ty #[v, .string s]).run Tryz.prog w = .ok v1 w1 ∧ OB w1 base v1 (xs ++ s.data.toList) ∧ w.grownBy w1 v.ownBlock ∧ (v1.ownBlock = v.ownBlock ∨ v1.ownBlock = some w.heap.size) := by
  obtain ⟨i0, hi, hzz⟩ := Option.map_eq_some_iff.1 infoU8
  simp only [Prod.mk.injEq] at hzz
  obtain ⟨hz0, hz1, hz2⟩ := hzz
  have hm : xs.length + s.size ≤ maxLen := by simp only [maxLen]; omega
  obtain ⟨v1, w1, hr, h2, h3, -⟩ := Lib.run_append_own_string (P := Tryz.prog) w base 128 9 ty 5 i0 Tryz.underlying128 Tryz.underlying9 hi hz0 hz1 hz2 v xs.length (bcells xs) HO s hm hl hbase
  refine ⟨v1, w1, hr, ?_, h3, ?_⟩
  · unfold OB
    rw [bcells_append, ← strCells_eq, List.length_append, list_sz0]
    exact h2
  · rcases id HO.2 with ⟨rfl, hn⟩ | ⟨g, cap, cur, rfl, hb, hg, hnc, hcm, hcs, htk⟩
    · by_cases h0 : s.size = 0
      · have hf := Lib.run_firstCells_string (P := Tryz.prog) w 1 s
        rw [h0] at hf
        have : (Builtin.append_ #[128, 9] ty #[.slice none 0 0, .string s]).run Tryz.prog w = .ok (.slice none 0 0) w := by
          simp [Builtin.append_, run_underlying Tryz.underlying128, run_underlying Tryz.underlying9, sizeOf, typeInfo, hi, hz1, Builtin.lenOf, h0, hf]
        rw [hr] at this
        injection this with e1 _
        exact .inl (by rw [e1])
      · have := run_append_nil_string (P := Tryz.prog) w 128 9 ty 5 i0 (.int .u8 0) Tryz.underlying128 Tryz.underlying9 hi hz0 s (by omega) (by omega) (by rw [hz2]; omega)
        rw [hr] at this
        injection this with e1 _
        exact .inr (by rw [e1]; rfl)
    · by_cases hroom : xs.length + s.size ≤ cap
      · have hcs' : cur.size = cap := by simpa using hcs
        have := Lib.run_append_room_string (P := Tryz.prog) w 128 9 ty 5 i0 Tryz.underlying128 Tryz.underlying9 hi hz1 g xs.length cap cur hg s hroom (by omega)
        rw [hr] at this
        injection this with e1 _
        exact .inl (by rw [e1]; rfl)
      · have holds : ∀ j u, (bcells xs)[j]? = some u → w.cell? ((⟨g, 0, none⟩ : Addr).add j) = some u := World.ownsRow.cells HO (g := g) rfl
        have := Lib.run_append_grow_string (P := Tryz.prog) w 128 9 ty 5 i0 (.int .u8 0) Tryz.underlying128 Tryz.underlying9 hi hz0 ⟨g, 0, none⟩ xs.length cap (bcells xs) (by rw [hz1, bcells_length, Nat.mul_one]) holds s (by omega) (by omega) (by rw [hz2]; exact growslice_fits (by omega) (by omega))
        rw [hr] at this
        injection this with e1 _
        exact .inr (by rw [e1]; rfl)
/-- a builder at block b, its bytes in row v -/
structure BD (w : World) (B b : Nat) (v : Value) (bs : List UInt8) : Prop where
  blk : ∃ p, (p = .pointer none ∨ p = .pointer (some ⟨b, 0, none⟩)) ∧ w.heap[b]? = some (.cells #[p, v] 130 (0, 0))
  row : OB w B v bs
  base : B ≤ b
  own : v.ownBlock ≠ some b
/-- but for a builder's blocks all lies as it lay -/
structure Wb (w w' : World) (b : Nat) (v v' : Value) : Prop where
  os : w'.os = w.os
  tape : w'.tape = w.tape
  output : w'.output = w.output
  size : w.heap.size ≤ w'.heap.size
  block : ∀ j, j < w.heap.size → j ≠ b → v.ownBlock ≠ some j → w'.heap[j]? = w.heap[j]?
  own : v'.ownBlock = v.ownBlock ∨ v'.ownBlock = some w.heap.size
set_option maxHeartbeats 1000000 in
theorem copy_used {w : World} {b : Nat} (h0 : w.cell? ⟨b, 0, none⟩ = some (.pointer (some ⟨b, 0, none⟩))) :
    Calls Tryz.prog 97 #[.pointer (some ⟨b, 0, none⟩)] w fun e w' => e = .returned (.tuple #[]) ∧ w = w' := by
  obtain ⟨j, hj⟩ : ∃ j, Tryz.prog.info? 130 = some j := Option.isSome_iff_exists.1 (by kernel_rfl)
  have hq : (binOp .neq 127 (.pointer (some ⟨b, 0, none⟩)) (.pointer (some ⟨b, 0, none⟩))).run Tryz.prog w = .ok (.bool false) w := Lib.run_neq_ptr_same w _ Tryz.underlying127 hj
  clear hj
  go_enter Tryz.func97, Tryz.ntmps97
  go_wp2
  go_end0
  exact ⟨rfl, rfl⟩
set_option maxHeartbeats 1000000 in
theorem copy_fresh {w : World} {b : Nat} (h0 : w.cell? ⟨b, 0, none⟩ = some (.pointer none)) (hsh : w.shape? b = some (130, 2)) (hfz : w.frozen? ⟨b, 0, none⟩ = false) :
    Calls Tryz.prog 97 #[.pointer (some ⟨b, 0, none⟩)] w fun e w' => e = .returned (.tuple #[]) ∧ w' = w.setCell ⟨b, 0, none⟩ (.pointer (some ⟨b, 0, none⟩)) := by
  have hsz : (Tryz.prog.info? 130).map (·.size) = some 2 := by kernel_rfl
  obtain ⟨j, hj, hjs⟩ := Option.map_eq_some_iff.1 hsz
  have hli : liesAt Tryz.prog Tryz.prog.depth 130 (2 / Tryz.prog.cellsOf 130) 0 130 1 = true := by kernel_rfl
  have q1 := Lib.run_to_unsafe (P := Tryz.prog) w ⟨b, 0, none⟩ Tryz.underlying127 Tryz.underlying148 hj (by rw [hjs]; decide) hsh (Nat.zero_lt_succ 1)
  have q2 : (callFunc 124 #[.pointer (some ⟨b, 0, none⟩)]).run Tryz.prog w = .ok (.value (.pointer (some ⟨b, 0, none⟩))) w := by
    rw [run_callFunc_extern Tryz.func124 (by kernel_rfl) (by kernel_rfl) (by kernel_rfl) (e := Extern.AbiNoEscape.same) (by kernel_rfl)]
    rw [Lib.run_noEscape]; rfl
  have q3 := Lib.run_from_unsafe (P := Tryz.prog) w ⟨b, 0, none⟩ Tryz.underlying148 Tryz.underlying127 hj hsh hli
  clear hj hjs hsz hli hsh
  go_enter Tryz.func97, Tryz.ntmps97
  go_wp2
  go_end0
  exact ⟨rfl, rfl⟩
theorem BD.lt {w : World} {B b : Nat} {v : Value} {bs : List UInt8} (h : BD w B b v bs) : b < w.heap.size := by
  obtain ⟨p, -, hb⟩ := h.blk
  exact (Array.getElem?_eq_some_iff.1 hb).1
theorem OB.form {w : World} {B : Nat} {v : Value} {bs : List UInt8} (h : OB w B v bs) : ∃ A c, v = .slice A bs.length c ∧ bs.length ≤ c := by
  obtain ⟨g, ⟨A, c, o, hv, h1, -⟩, -⟩ := h.reads
  exact ⟨A, c, hv, h1⟩
/-- what the first call at a builder leaves: it holds its own address -/
theorem copy_calls {w : World} {B b : Nat} {v : Value} {bs : List UInt8} (h : BD w B b v bs) :
    Calls Tryz.prog 97 #[.pointer (some ⟨b, 0, none⟩)] w fun e w' => e = .returned (.tuple #[]) ∧ w'.heap[b]? = some (.cells #[.pointer (some ⟨b, 0, none⟩), v] 130 (0, 0)) ∧ w.grownBy w' (some b) ∧ w'.heap.size = w.heap.size := by
  obtain ⟨p, hp, hb⟩ := h.blk
  rcases hp with rfl | rfl
  · refine (copy_fresh (cell_of_row w b 0 _ _ _ hb) (by simp [World.shape?, hb]) (frozen_of_row w b 0 _ _ hb)).mono ?_
    rintro e w' ⟨rfl, rfl⟩
    exact ⟨rfl, heap_setCell_same w b 0 _ _ _ hb, ⟨rfl, rfl, rfl, by simp, fun j _ hj => heap_setCell_other w ⟨b, 0, none⟩ j _ (fun e => hj (by simp [e]))⟩, by simp⟩
  · refine (copy_used (cell_of_row w b 0 _ _ _ hb)).mono ?_
    rintro e w' ⟨rfl, rfl⟩
    exact ⟨rfl, hb, World.grownBy.refl _ _, rfl⟩
theorem BD.mid {w w1 w2 : World} {B b : Nat} {v v1 : Value} {bs bs' : List UInt8} (h : BD w B b v bs) (hb1 : w1.heap[b]? = some (.cells #[.pointer (some ⟨b, 0, none⟩), v] 130 (0, 0))) (hg1 : w.grownBy w1 (some b)) (hs1 : w1.heap.size = w.heap.size)
    (k1 : OB w2 B v1 bs') (k2 : w1.grownBy w2 v.ownBlock) (k3 : v1.ownBlock = v.ownBlock ∨ v1.ownBlock = some w1.heap.size) :
    w2.cell? ⟨b, 1, none⟩ = some v ∧ w2.frozen? ⟨b, 1, none⟩ = false ∧ Hid (BD (w2.setCell ⟨b, 1, none⟩ v1) B b v1 bs') ∧ Hid (Wb w (w2.setCell ⟨b, 1, none⟩ v1) b v v1) := by
  have hbl := h.lt
  have hb2 : w2.heap[b]? = some (.cells #[.pointer (some ⟨b, 0, none⟩), v] 130 (0, 0)) := (k2.block b (by rw [hs1]; exact hbl) (fun e => h.own e.symm)).trans hb1
  have hset : w2.grownBy (w2.setCell ⟨b, 1, none⟩ v1) (some b) := ⟨rfl, rfl, rfl, by simp, fun j _ hj => heap_setCell_other w2 ⟨b, 1, none⟩ j _ (fun e => hj (by simp [e]))⟩
  have hown : v1.ownBlock ≠ some b := by
    rcases k3 with e | e
    · rw [e]; exact h.own
    · rw [e, hs1]; intro h'; injection h' with h'; omega
  refine ⟨cell_of_row w2 b 1 _ _ _ hb2, frozen_of_row w2 b 1 _ _ hb2, Lib.hid ⟨⟨_, .inr rfl, heap_setCell_same w2 b 1 _ _ _ hb2⟩, ?_, h.base, hown⟩, Lib.hid ⟨?_, ?_, ?_, ?_, ?_, ?_⟩⟩
  · exact k1.kept hset (by cases e : v1.ownBlock with
      | none => exact .inl rfl
      | some k => exact .inr (fun e2 => hown (e.trans e2)))
  · exact hset.os.trans (k2.os.trans hg1.os)
  · exact hset.tape.trans (k2.tape.trans hg1.tape)
  · exact hset.output.trans (k2.output.trans hg1.output)
  · exact Nat.le_trans hg1.size (Nat.le_trans k2.size hset.size)
  · intro j hj hjb hjv
    have s1 := hg1.size
    have s2 := k2.size
    rw [hset.block j (by omega) (fun e => hjb (by injection e)), k2.block j (by omega) (fun e => hjv e.symm), hg1.block j hj (fun e => hjb (by injection e))]
  · rcases k3 with e | e
    · exact .inl e
    · exact .inr (by rw [e, hs1])
set_option maxHeartbeats 2000000 in
set_option maxRecDepth 100000 in
theorem wstr_calls {w : World} {B b : Nat} {v : Value} {bs : List UInt8} (h : BD w B b v bs) (s : ByteArray) (hl : bs.length + s.size ≤ 140737488355328) :
    Calls Tryz.prog 64 #[.pointer (some ⟨b, 0, none⟩), .string s] w fun e w' => e = .returned (.tuple #[.int .i64 (s.size : Int), .nilIface]) ∧ ∃ v', Hid (BD w' B b v' (bs ++ s.data.toList)) ∧ Hid (Wb w w' b v v') := by
  have H := Lib.hid h
  have HC := Lib.hid (copy_calls h)
  have HLN := Lib.hid hl
  obtain ⟨A0, c0, rfl, -⟩ := OB.form h.row
  obtain ⟨n0, hn0⟩ : ∃ n, bs.length = n := ⟨_, rfl⟩
  rw [hn0] at H HC ⊢
  clear h hl hn0
  go_enter Tryz.func64, Tryz.ntmps64
  go_upto_region 2 with (go_at_call 97; refine HC.out.mono ?_; rintro e w1 ⟨rfl, hb1, hg1, hs1⟩; have HB1 := Lib.hid hb1; have HG1 := Lib.hid hg1; have HS1 := Lib.hid hs1; clear hb1 hg1 hs1)
  have d1 : w1.cell? ⟨b, 1, none⟩ = some (.slice A0 n0 c0) := cell_of_row w1 b 1 _ _ _ HB1.out
  have HRO : Hid (OB w1 B (.slice A0 n0 c0) bs) := Lib.hid (H.out.row.kept HG1.out (by cases e : (Value.slice A0 n0 c0).ownBlock with
    | none => exact .inl rfl
    | some k => exact .inr (fun e2 => H.out.own (e.trans e2))))
  have HBB : Hid (B ≤ w1.heap.size) := Lib.hid (by rw [HS1.out]; have := H.out.base; have := H.out.lt; omega)
  go_wp2_with (at_builtin; obtain ⟨v1, w2, hrun, k1, k2, k3⟩ := OB.append_str_run HRO.out s 128 HBB.out HLN.out; obtain ⟨A1, c1, hv1, -⟩ := OB.form k1; obtain ⟨n1, hn1⟩ : ∃ n, (bs ++ s.data.toList).length = n := ⟨_, rfl⟩; rw [hn1] at hv1; subst hv1; obtain ⟨m1, m2, M3, M4⟩ := H.out.mid HB1.out HG1.out HS1.out k1 k2 k3; clear k1 k2 k3 hn1; refine append_step rfl _ _ _ _ rfl rfl rfl hrun ?_; clear hrun)
  go_ret2
  exact ⟨rfl, _, M3, M4⟩
set_option maxHeartbeats 1000000 in
theorem blen_calls {w : World} {B b : Nat} {v : Value} {bs : List UInt8} (h : BD w B b v bs) :
    Calls Tryz.prog 83 #[.pointer (some ⟨b, 0, none⟩)] w fun e w' => e = .returned (.int .i64 (bs.length : Int)) ∧ w = w' := by
  obtain ⟨A0, c0, rfl, -⟩ := OB.form h.row
  obtain ⟨p, -, hb⟩ := h.blk
  have c1 : w.cell? ⟨b, 1, none⟩ = some (.slice A0 bs.length c0) := cell_of_row w b 1 _ _ _ hb
  generalize bs.length = n at *
  clear h hb
  go_enter Tryz.func83, Tryz.ntmps83
  go_wp2
  go_ret
  exact ⟨rfl, rfl⟩
theorem freeze_grown (w : World) (g n : Nat) : w.grownBy (w.drew.freeze ⟨g, 0, none⟩ n) (some g) ∧ (w.drew.freeze ⟨g, 0, none⟩ n).heap.size = w.heap.size := by
  unfold World.freeze
  split
  · exact ⟨⟨rfl, rfl, rfl, Nat.le_refl _, fun _ _ _ => rfl⟩, rfl⟩
  · refine ⟨⟨rfl, rfl, rfl, ?_, fun j _ hj => ?_⟩, ?_⟩
    · show w.heap.size ≤ (w.heap.modify g _).size
      rw [Array.size_modify]; exact Nat.le_refl _
    rotate_left
    · show (w.heap.modify g _).size = _
      rw [Array.size_modify]
    show (w.drew.heap.modify g _)[j]? = _
    rw [Array.getElem?_modify, if_neg (fun e => hj (by rw [e]))]
    rfl
set_option maxHeartbeats 2000000 in
set_option maxRecDepth 100000 in
/-- String, of a builder that holds something -/
theorem bstr_calls {w : World} {B b : Nat} {v : Value} {bs : List UInt8} (h : BD w B b v bs) (hne : bs ≠ []) (hl : bs.length ≤ 140737488355328) :
    Calls Tryz.prog 65 #[.pointer (some ⟨b, 0, none⟩)] w fun e w' => e = .returned (.string ⟨bs.toArray⟩) ∧ w.grownBy w' v.ownBlock ∧ w'.heap.size = w.heap.size := by
  obtain ⟨p, -, hb⟩ := h.blk
  have hpos : bs.length ≠ 0 := fun e => hne (List.eq_nil_of_length_eq_zero e)
  rcases id h.row.2 with ⟨-, hn⟩ | ⟨g, cap, cur, rfl, hbg, hg, hnc, hcm, hcs, htk⟩
  · exact absurd hn hpos
  · have hb' : w.drew.heap[b]? = some (.cells #[p, .slice (some ⟨g, 0, none⟩) bs.length cap] 130 (0, 0)) := hb
    have c1 : w.drew.cell? ⟨b, 1, none⟩ = some (.slice (some ⟨g, 0, none⟩) bs.length cap) := cell_of_row w.drew b 1 _ _ _ hb'
    have hSD : (Builtin.unsafeSliceData_ #[128] 171 #[.slice (some ⟨g, 0, none⟩) bs.length cap]).run Tryz.prog w.drew = .ok (.pointer (some ⟨g, 0, none⟩)) w.drew := Lib.run_unsafeSliceData_row _ _ _ _ _ _ (by omega)
    have hcur : bs.length ≤ cur.size := by
      have : cur.size = cap := by simpa using hcs
      omega
    have hUS : (Builtin.unsafeString_ #[171, 3] 9 #[.pointer (some ⟨g, 0, none⟩), .int .i64 (bs.length : Int)]).run Tryz.prog w.drew = .ok (.string ⟨bs.toArray⟩) (w.drew.freeze ⟨g, 0, none⟩ bs.length) := by
      refine Lib.run_unsafeString_row w.drew 171 3 9 5 Tryz.underlying171 (by kernel_rfl) g cur.size (by have hg' : w.drew.heap[g]? = some (.cells cur 5 (0, 0)) := hg; simp [World.shape?, hg']) bs hne hcur (by omega) ?_
      intro j x hx
      have hj := (List.getElem?_eq_some_iff.1 hx).1
      have := World.ownsRow.cells h.row (g := g) rfl j _ (bcells_get bs j hj)
      show w.cell? _ = _
      rw [this]
      simp [byt, List.getD_eq_getElem?_getD, hx]
    have HFG := Lib.hid (freeze_grown w g bs.length)
    generalize hW : w.drew.freeze ⟨g, 0, none⟩ bs.length = W at HFG hUS
    generalize bs.length = n at *
    clear h hb hb' hne hpos hg hnc hcm hcs htk hW hcur
    go_enter Tryz.func65, Tryz.ntmps65
    go_wp2
    go_region
    all_goals (go_wp2; go_ret; exact ⟨rfl, HFG.out.1, HFG.out.2⟩)
end Go.Proofs.YtjokfllldcjheaaGreatDoor.Oc
/- shard, walked: laid, Put. -/
namespace Go.Proofs.YtjokfllldcjheaaGreatDoor.Oc
open Go.RowKit Go.Proofs.YtjokfllldcjheaaGreatDoor.Sha Go.Proofs.YtjokfllldcjheaaGreatDoor.Ro Go.Proofs.YtjokfllldcjheaaGreatDoor.Cs Go.Proofs.YtjokfllldcjheaaGreatDoor.Ed
set_option linter.unusedVariables false
set_option linter.unusedSimpArgs false
theorem asc_len : ∀ (l : List Int) (a b : Int), l.Pairwise (· < ·) → (∀ x ∈ l, a ≤ x ∧ x < b) → a ≤ b → (l.length : Int) ≤ b - a
  | [], a, b, _, _, h => by simp; omega
  | x :: r, a, b, hp, hb, h => by
    have hx := hb x (List.mem_cons_self ..)
    have := asc_len r (x + 1) b (List.pairwise_cons.1 hp).2 (fun y hy => ⟨by have := (List.pairwise_cons.1 hp).1 y hy; omega, (hb y (List.mem_cons_of_mem _ hy)).2⟩) (by omega)
    simp only [List.length_cons]; omega
/-- a graph's rows of targets -/
theorem rows_ok {w : World} {B p bb N : Nat} {tv : Value} {l : List E2} (hc : CS w B p bb tv N l) : ∀ v : Int, 0 ≤ v ∧ v < (N : Int) → (∀ x ∈ tgt l v, 0 ≤ x ∧ x < (N : Int)) ∧ (tgt l v).Pairwise (· < ·) ∧ (tgt l v).length ≤ N := fun v hv => by
  have h1 : ∀ x ∈ tgt l v, 0 ≤ x ∧ x < (N : Int) := fun x hx => by
    have := hc.ok _ (mem_tgt.1 hx); unfold okE at this; exact ⟨this.2.1, this.2.2.2⟩
  have h2 := tgt_asc hc.up v
  refine ⟨h1, h2, ?_⟩
  have := asc_len _ 0 (N : Int) h2 h1 (by omega)
  omega
theorem idxB_le : ∀ (ms : List Nat), (∀ x ∈ ms, x < 128 ^ 8) → (idxB ms).length ≤ 8 * ms.length
  | [], _ => by simp [idxB]
  | x :: r, h => by
    have a := shB_le 7 x (h x (List.mem_cons_self ..))
    have b := idxB_le r (fun y hy => h y (List.mem_cons_of_mem _ hy))
    simp only [idxB, List.flatMap_cons, List.length_append, List.length_cons] at *
    omega
theorem BD.later {w w' : World} {B b : Nat} {v : Value} {bs : List UInt8} (h : BD w B b v bs) (hb : Below w.heap.size w w') : BD w' B b v bs := by
  obtain ⟨p, hp, hh⟩ := h.blk
  exact ⟨⟨p, hp, (hb.block b h.lt).trans hh⟩, h.row.later hb, h.base, h.own⟩
theorem BD.kept {w w' : World} {B b : Nat} {v : Value} {bs : List UInt8} (h : BD w B b v bs) (os : w'.os = w.os) (tape : w'.tape = w.tape) (out : w'.output = w.output) (size : w.heap.size ≤ w'.heap.size) (hb : w'.heap[b]? = w.heap[b]?) (hv : ∀ k, v.ownBlock = some k → w'.heap[k]? = w.heap[k]?) : BD w' B b v bs := by
  obtain ⟨p, hp, hh⟩ := h.blk
  refine ⟨⟨p, hp, hb.trans hh⟩, ?_, h.base, h.own⟩
  rcases id h.row.2 with ⟨rfl, hn⟩ | ⟨g, cap, cur, rfl, hbg, hg, r⟩
  · exact ⟨h.row.1, .inl ⟨rfl, hn⟩⟩
  · exact ⟨h.row.1, .inr ⟨g, cap, cur, rfl, hbg, (hv g rfl).trans hg, r⟩⟩
/-- two builders, apart -/
structure BB (w wz : World) (B b1 b2 : Nat) (v1 v2 : Value) (X Y : List UInt8) : Prop where
  one : BD wz B b1 v1 X
  two : BD wz B b2 v2 Y
  vv : ∀ k, v1.ownBlock = some k → v2.ownBlock ≠ some k
  v1b : v1.ownBlock ≠ some b2
  v2b : v2.ownBlock ≠ some b1
  ne : b1 ≠ b2
  bel : Below B w wz
theorem BB.swap {w wz : World} {B b1 b2 : Nat} {v1 v2 : Value} {X Y : List UInt8} (h : BB w wz B b1 b2 v1 v2 X Y) : BB w wz B b2 b1 v2 v1 Y X :=
  ⟨h.two, h.one, fun k e e2 => h.vv k e2 e, h.v2b, h.v1b, h.ne.symm, h.bel⟩
theorem BB.size {w wz : World} {B b1 b2 : Nat} {v1 v2 : Value} {X Y : List UInt8} (h : BB w wz B b1 b2 v1 v2 X Y) : B ≤ wz.heap.size := by
  have := h.one.base; have := h.one.lt; omega
theorem BB.later {w wz wy : World} {B b1 b2 : Nat} {v1 v2 : Value} {X Y : List UInt8} (h : BB w wz B b1 b2 v1 v2 X Y) (hb : Below wz.heap.size wz wy) : BB w wy B b1 b2 v1 v2 X Y :=
  ⟨h.one.later hb, h.two.later hb, h.vv, h.v1b, h.v2b, h.ne, h.bel.trans (hb.mono h.size)⟩
theorem BB.put {w wz wy : World} {B b1 b2 : Nat} {v1 v2 v1' : Value} {X Y X' : List UInt8} (h : BB w wz B b1 b2 v1 v2 X Y) (h1 : BD wy B b1 v1' X') (hw : Wb wz wy b1 v1 v1') : BB w wy B b1 b2 v1' v2 X' Y := by
  have l2 := h.two.lt
  refine ⟨h1, h.two.kept hw.os hw.tape hw.output hw.size (hw.block b2 l2 h.ne.symm h.v1b) (fun k hk => hw.block k (OB.lt h.two.row k hk) (fun e => h.v2b (by rw [hk, e])) (fun e => h.vv k e hk)), fun k e e2 => ?_, fun e => ?_, h.v2b, h.ne, ?_⟩
  · rcases hw.own with o | o
    · exact h.vv k (o ▸ e) e2
    · have := OB.lt h.two.row k e2
      rw [o] at e; injection e with e; omega
  · rcases hw.own with o | o
    · exact h.v1b (o ▸ e)
    · rw [o] at e; injection e with e; omega
  · refine h.bel.trans ⟨hw.os, hw.tape, hw.output, hw.size, fun j hj => hw.block j ?_ ?_ ?_⟩
    · have := h.size; omega
    · have := h.one.base; omega
    · intro e
      have := OB.base h.one.row j e
      omega
/-- it has become these two texts -/
def BX (w wz : World) (B b1 b2 : Nat) (X Y : List UInt8) : Prop := ∃ v1 v2, BB w wz B b1 b2 v1 v2 X Y
set_option maxHeartbeats 1000000 in
theorem sshort_calls (x : Nat) (hx : x < 72057594037927936) (w : World) :
    Calls Tryz.prog 51 #[.int .i64 (x : Int)] w fun e w' => e = .returned (.string (shS x)) ∧ Hid (Below w.heap.size w w') := by
  go_enter Tryz.func51, Tryz.ntmps51
  go_wp2_with (go_at_call 71; refine (putShort_calls x hx _).mono ?_; rintro e w1 ⟨rfl, HB⟩)
  go_ret
  exact ⟨rfl, HB⟩
set_option maxHeartbeats 8000000 in
set_option maxRecDepth 100000 in
theorem laid_calls {w : World} {B p bb N : Nat} {tv : Value} {l : List E2} (hc : CS w B p bb tv N l) (first many : Nat) (h1 : 1 ≤ many) (h2 : first + many ≤ N) :
    Calls Tryz.prog 50 #[pV p, .int .i64 (first : Int), .int .i64 (many : Int)] w fun e w' => e = .returned (.tuple #[.string ⟨(idxB (marksOf (tgt l) first many)).toArray⟩, .string ⟨(rowsB (tgt l) first many).toArray⟩]) ∧ Hid (Below w.heap.size w w') := by
  have HC := Lib.hid hc
  have hN := hc.nodes
  have HOK := Lib.hid (rows_ok hc)
  have HRL : Hid (∀ k, k ≤ many → (rowsB (tgt l) first k).length ≤ 33562624) := Lib.hid (fun k hk => by
    have := rowsB_le (tgt l) N hN (rows_ok hc) k first (by omega) (by omega)
    have : k * 8194 ≤ 4096 * 8194 := Nat.mul_le_mul_right _ (by omega)
    omega)
  have HML : Hid (∀ k, k ≤ many → (idxB (marksOf (tgt l) first k)).length ≤ 5000) := Lib.hid (fun k hk => by
    have := idxB_le (marksOf (tgt l) first k) (fun x hx => by
      unfold marksOf at hx
      obtain ⟨i, hi, rfl⟩ := List.mem_map.1 hx
      have hi := List.mem_range.1 hi
      have a := rowsB_le (tgt l) N hN (rows_ok hc) (8 * i) first (by omega) (by omega)
      have b : 8 * i * 8194 ≤ 4096 * 8194 := Nat.mul_le_mul_right _ (by omega)
      exact Nat.lt_of_le_of_lt (Nat.le_trans a b) (by decide))
    rw [marksOf_len] at this
    omega)
  have HBX0 : Hid (BX w ((w.alloc (.cells #[.pointer none, .slice none 0 0] 130)).alloc (.cells #[.pointer none, .slice none 0 0] 130)) w.heap.size w.heap.size (w.heap.size + 1) (idxB (marksOf (tgt l) first 0)) (rowsB (tgt l) first 0)) := Lib.hid (by
    have e1 := heap_alloc_new w (.cells #[.pointer none, .slice none 0 0] 130)
    have e2 := heap_alloc_new (w.alloc (.cells #[.pointer none, .slice none 0 0] 130)) (.cells #[.pointer none, .slice none 0 0] 130)
    rw [show (w.alloc (.cells #[.pointer none, .slice none 0 0] 130)).heap.size = w.heap.size + 1 by simp] at e2
    refine ⟨.slice none 0 0, .slice none 0 0, ⟨⟨_, .inl rfl, ?_⟩, OB.nil _ _, Nat.le_refl _, by simp [Value.ownBlock]⟩, ⟨⟨_, .inl rfl, e2⟩, OB.nil _ _, by omega, by simp [Value.ownBlock]⟩, by simp [Value.ownBlock], by simp [Value.ownBlock], by simp [Value.ownBlock], by omega, ((Below.refl _ w).alloc (Nat.le_refl _) _).alloc (by simp) _⟩
    rw [heap_alloc_old _ _ (by simp)]
    exact e1)
  have hb7 : (first : Int) + (many : Int) ≤ 4096 := by omega
  clear hc
  go_enter Tryz.func50, Tryz.ntmps50
  go_upto_region 3 with (fail)
  go_loopw [10] (fun x wz => ∃ j : Nat, x = .int .i64 ((first : Int) + (j : Int)) ∧ j ≤ many ∧ Hid (BX w wz w.heap.size w.heap.size (w.heap.size + 1) (idxB (marksOf (tgt l) first j)) (rowsB (tgt l) first j))) (fun x _ => first + many - (intOf x).toNat)
  case atStart => exact ⟨0, by simp, Nat.zero_le _, HBX0⟩
  case round =>
    clear HBX0
    obtain ⟨j, rfl, hj, HX⟩ := hrel
    obtain ⟨v1, v2, hbb⟩ := HX.out
    have HBB := Lib.hid hbb
    clear hbb HX
    by_cases hlt : j < many
    · have i1 : (j : Int) < (many : Int) := by omega
      have hv : first + j < N := by omega
      have ev : ((first + j : Nat) : Int) = (first : Int) + (j : Int) := by omega
      have HTA : Hid (∀ W, Below w.heap.size w W → Calls Tryz.prog 84 #[pV p, .int .i64 ((first : Int) + (j : Int))] W fun e w' => ∃ v', e = .returned (.tuple #[v', .nilIface]) ∧ Hid (OJ w' W.heap.size v' (tgt l ((first : Int) + (j : Int)))) ∧ Hid (Below W.heap.size W w')) := Lib.hid (fun W h => by
        have := targets_calls (HC.out.later h) (first + j) hv
        rw [ev] at this; exact this)
      obtain ⟨o1, o2, o3⟩ := HOK.out ((first : Int) + (j : Int)) (by omega)
      have HPU : Hid (∀ (W : World) (g : Nat) (u : Value), JR W g u (tgt l ((first : Int) + (j : Int))) → Calls Tryz.prog 85 #[.int .i64 (N : Int), .int .i64 ((first : Int) + (j : Int)), u] W fun e w' => e = .returned (.tuple #[.string ⟨(gapB ((first : Int) + (j : Int)) (tgt l ((first : Int) + (j : Int)))).toArray⟩, .nilIface]) ∧ Hid (Below W.heap.size W w')) := Lib.hid (fun W g u h => by
        have := gput_calls N (first + j) hN hv g u _ W h o1 o2 o3
        rw [ev] at this; exact this)
      have HRS := Lib.hid (rowsB_snoc (tgt l) j (first : Int))
      have HLE : Hid ((rowsB (tgt l) (first : Int) j).length + (⟨(gapB ((first : Int) + (j : Int)) (tgt l ((first : Int) + (j : Int)))).toArray⟩ : ByteArray).size ≤ 140737488355328) := Lib.hid (by
        have a := HRL.out (j + 1) (by omega)
        rw [HRS.out, List.length_append] at a
        have b : (⟨(gapB ((first : Int) + (j : Int)) (tgt l ((first : Int) + (j : Int)))).toArray⟩ : ByteArray).size = (gapB ((first : Int) + (j : Int)) (tgt l ((first : Int) + (j : Int)))).length := rfl
        omega)
      obtain ⟨tn, htn⟩ : ∃ tn, (tgt l ((first : Int) + (j : Int))).length = tn := ⟨_, rfl⟩
      have hm8 := marksOf_step (tgt l) (first : Int) j
      have ej : (first : Int) + (j : Int) - (first : Int) = (j : Int) := by omega
      have hf1 : (first : Int) + (j : Int) ≤ 4096 := by omega
      clear o1 o2 o3 htn ev
      by_cases h8 : j % 8 = 0
      · rw [if_pos h8] at hm8
        have hr8 := HRL.out j hj
        have HMS : Hid (idxB (marksOf (tgt l) (first : Int) (j + 1)) = idxB (marksOf (tgt l) (first : Int) j) ++ shB (rowsB (tgt l) (first : Int) j).length) := Lib.hid (by rw [hm8, idxB_snoc])
        have HLI : Hid ((idxB (marksOf (tgt l) (first : Int) j)).length + (shS (rowsB (tgt l) (first : Int) j).length).size ≤ 140737488355328) := Lib.hid (by
          have a := HML.out j hj
          have b := shB_le 7 (rowsB (tgt l) (first : Int) j).length (Nat.lt_of_le_of_lt hr8 (by decide))
          have c : (shS (rowsB (tgt l) (first : Int) j).length).size = (shB (rowsB (tgt l) (first : Int) j).length).length := rfl
          omega)
        have m1 : (j : Int) % 8 = 0 := by omega
        clear hm8
        go_upto_region 7 with (first
          | (go_at_call 83; refine (blen_calls HBB.out.two).mono ?_; rintro e w2 ⟨rfl, rfl⟩)
          | (go_at_call 51; refine (sshort_calls _ (by omega) _).mono ?_; rintro e w3 ⟨rfl, HB3⟩; have HBB := Lib.hid (HBB.out.later HB3.out))
          | (go_at_call 64; refine (wstr_calls HBB.out.one _ HLI.out).mono ?_; rintro e w4 ⟨rfl, v4, HD4, HW4⟩; have HBB := Lib.hid (HBB.out.put HD4.out HW4.out)))
        go_upto_region 9 with (first
          | (go_at_call 84; refine (HTA.out _ HBB.out.bel).mono ?_; rintro e w5 ⟨v5, rfl, HO5, HB5⟩; obtain ⟨g5, hg5, -⟩ := HO5.out.reads; have HJ5 := Lib.hid hg5; clear hg5; have HBB := Lib.hid (HBB.out.later HB5.out); obtain ⟨A5, c5, rfl, -⟩ := id HO5.out.shape)
          | (go_at_call 43; refine (nodes_calls (HC.out.later HBB.out.bel)).mono ?_; rintro e w6 ⟨rfl, rfl⟩)
          | (go_at_call 85; refine (HPU.out _ g5 _ HJ5.out).mono ?_; rintro e w7 ⟨rfl, HB7⟩; have HBB := Lib.hid (HBB.out.later HB7.out)))
        go_wp2_with (go_at_call 64; refine (wstr_calls HBB.out.two _ HLE.out).mono ?_; rintro e w8 ⟨rfl, v8, HD8, HW8⟩; have HBB := Lib.hid ((HBB.out.swap.put HD8.out HW8.out).swap))
        go_roundw
        case rel => exact ⟨j + 1, by go_num, by omega, Lib.hid (by rw [HMS.out, HRS.out]; exact ⟨_, _, HBB.out⟩)⟩
        case measure => simp [intOf]; omega
      · rw [if_neg h8] at hm8
        have HMS := Lib.hid (congrArg idxB hm8)
        have m1 : ¬ (j : Int) % 8 = 0 := by omega
        clear hm8
        go_upto_region 9 with (first
          | (go_at_call 84; refine (HTA.out _ HBB.out.bel).mono ?_; rintro e w5 ⟨v5, rfl, HO5, HB5⟩; obtain ⟨g5, hg5, -⟩ := HO5.out.reads; have HJ5 := Lib.hid hg5; clear hg5; have HBB := Lib.hid (HBB.out.later HB5.out); obtain ⟨A5, c5, rfl, -⟩ := id HO5.out.shape)
          | (go_at_call 43; refine (nodes_calls (HC.out.later HBB.out.bel)).mono ?_; rintro e w6 ⟨rfl, rfl⟩)
          | (go_at_call 85; refine (HPU.out _ g5 _ HJ5.out).mono ?_; rintro e w7 ⟨rfl, HB7⟩; have HBB := Lib.hid (HBB.out.later HB7.out)))
        go_wp2_with (go_at_call 64; refine (wstr_calls HBB.out.two _ HLE.out).mono ?_; rintro e w8 ⟨rfl, v8, HD8, HW8⟩; have HBB := Lib.hid ((HBB.out.swap.put HD8.out HW8.out).swap))
        go_roundw
        case rel => exact ⟨j + 1, by go_num, by omega, Lib.hid (by rw [HMS.out, HRS.out]; exact ⟨_, _, HBB.out⟩)⟩
        case measure => simp [intOf]; omega
    · obtain rfl : many = j := by omega
      have i1 : ¬ (many : Int) < (many : Int) := by omega
      have hne1 : idxB (marksOf (tgt l) (first : Int) many) ≠ [] := by
        intro e
        have hl := marksOf_len (tgt l) (first : Int) many
        cases hm : marksOf (tgt l) (first : Int) many with
        | nil => rw [hm] at hl; simp at hl; omega
        | cons x r => rw [hm] at e; have := shB_pos x; simp [idxB] at e; rw [e.1] at this; simp at this
      have hne2 : rowsB (tgt l) (first : Int) many ≠ [] := by
        intro e
        obtain ⟨k, rfl⟩ : ∃ k, many = k + 1 := ⟨many - 1, by omega⟩
        rw [rowsB, gapB_eq] at e
        have := shB_pos (tgt l (first : Int)).length
        simp at e
        rw [e.1] at this; simp at this
      have HS1 := Lib.hid (bstr_calls HBB.out.one hne1 (by have := HML.out many hj; omega))
      have HS2 : Hid (∀ w3, wr.grownBy w3 v1.ownBlock → w3.heap.size = wr.heap.size → BD w3 w.heap.size (w.heap.size + 1) v2 (rowsB (tgt l) (first : Int) many)) := Lib.hid (fun w3 hg hs => by
        have h := HBB.out
        exact h.two.kept hg.os hg.tape hg.output hg.size (hg.block _ h.two.lt (fun e => h.v1b e.symm)) (fun k hk => hg.block k (OB.lt h.two.row k hk) (fun e => h.vv k e.symm hk)))
      have HR2 := HRL.out many hj
      have HFIN : Hid (∀ w3 w4, wr.grownBy w3 v1.ownBlock → w3.heap.size = wr.heap.size → w3.grownBy w4 v2.ownBlock → w4.heap.size = w3.heap.size → Below w.heap.size w w4) := Lib.hid (fun w3 w4 a b c d => by
        have h := HBB.out
        have hs := h.size
        exact (h.bel.grown a hs (OB.base h.one.row)).grown c (by rw [b]; exact hs) (OB.base h.two.row))
      clear HBB
      go_wp2_with (first
        | (go_at_call 65; (with_reducible show Calls Tryz.prog 65 #[.pointer (some ⟨w.heap.size, 0, none⟩)] _ _); refine HS1.out.mono ?_; rintro e w3 ⟨rfl, hg3, hs3⟩; have HG3 := Lib.hid hg3; have HZ3 := Lib.hid hs3; clear hg3 hs3)
        | (go_at_call 65; refine (bstr_calls (HS2.out _ HG3.out HZ3.out) hne2 (by omega)).mono ?_; rintro e w4 ⟨rfl, hg4, hs4⟩; have HG4 := Lib.hid hg4; have HZ4 := Lib.hid hs4; clear hg4 hs4))
      go_ret2
      exact ⟨rfl, Lib.hid (HFIN.out _ _ HG3.out HZ3.out HG4.out HZ4.out)⟩
set_option maxHeartbeats 2000000 in
set_option maxRecDepth 100000 in
theorem sput_calls {w : World} {B p bb N : Nat} {tv : Value} {l : List E2} (hc : CS w B p bb tv N l) (first many : Nat) (h1 : 1 ≤ many) (h2 : first + many ≤ N) :
    Calls Tryz.prog 19 #[pV p, .int .i64 (first : Int), .int .i64 (many : Int)] w fun e w' => e = .returned (.tuple #[.string ⟨(shardB (tgt l) first many).toArray⟩, .nilIface]) ∧ Hid (Below w.heap.size w w') := by
  have HL := Lib.hid (laid_calls hc first many h1 h2)
  have HNO := Lib.hid (nodes_calls hc)
  have hN := hc.nodes
  have hr := rowsB_le (tgt l) N hN (rows_ok hc) many first (by omega) (by omega)
  have hr2 : many * 8194 ≤ 4096 * 8194 := Nat.mul_le_mul_right _ (by omega)
  have hi := idxB_le (marksOf (tgt l) first many) (fun x hx => by
    unfold marksOf at hx
    obtain ⟨i, hi, rfl⟩ := List.mem_map.1 hx
    have hi := List.mem_range.1 hi
    have a := rowsB_le (tgt l) N hN (rows_ok hc) (8 * i) first (by omega) (by omega)
    have b : 8 * i * 8194 ≤ 4096 * 8194 := Nat.mul_le_mul_right _ (by omega)
    exact Nat.lt_of_le_of_lt (Nat.le_trans a b) (by decide))
  rw [marksOf_len] at hi
  have hF : shardB (tgt l) first many = shB first ++ shB many ++ idxB (marksOf (tgt l) first many) ++ rowsB (tgt l) first many := rfl
  rw [hF]
  generalize idxB (marksOf (tgt l) first many) = I at *
  generalize rowsB (tgt l) first many = R at *
  obtain ⟨iS, hiS⟩ : ∃ iS : ByteArray, (⟨I.toArray⟩ : ByteArray) = iS := ⟨_, rfl⟩
  obtain ⟨rS, hrS⟩ : ∃ rS : ByteArray, (⟨R.toArray⟩ : ByteArray) = rS := ⟨_, rfl⟩
  rw [hiS, hrS] at HL
  have hz1 : iS.size ≤ 5000 := by rw [← hiS]; show I.length ≤ 5000; omega
  have hz2 : rS.size ≤ 33562624 := by rw [← hrS]; show R.length ≤ 33562624; omega
  obtain ⟨a, ha⟩ : ∃ a, shS first = a := ⟨_, rfl⟩
  obtain ⟨b, hb⟩ : ∃ b, shS many = b := ⟨_, rfl⟩
  have hz3 : a.size ≤ 8 := by rw [← ha]; exact shB_le 7 first (by omega)
  have hz4 : b.size ≤ 8 := by rw [← hb]; exact shB_le 7 many (by omega)
  have HS1 : Hid (∀ W, Calls Tryz.prog 51 #[.int .i64 (first : Int)] W fun e w' => e = .returned (.string a) ∧ Hid (Below W.heap.size W w')) := Lib.hid (fun W => by rw [← ha]; exact sshort_calls first (by omega) W)
  have HS2 : Hid (∀ W, Calls Tryz.prog 51 #[.int .i64 (many : Int)] W fun e w' => e = .returned (.string b) ∧ Hid (Below W.heap.size W w')) := Lib.hid (fun W => by rw [← hb]; exact sshort_calls many (by omega) W)
  have HF : Hid ((⟨(shB first ++ shB many ++ I ++ R).toArray⟩ : ByteArray) = a ++ b ++ iS ++ rS) := Lib.hid (by
    refine (bytes_eq ?_).symm
    rw [bytes_app, bytes_app, bytes_app, ← ha, ← hb, ← hiS, ← hrS]; rfl)
  have b1 : ¬ (first : Int) < 0 := by omega
  have b2 : ¬ (many : Int) < 1 := by omega
  have b3 : ¬ (first : Int) > (N : Int) := by omega
  have b4 : ¬ (many : Int) > (N : Int) - (first : Int) := by omega
  rw [HF.out]
  clear hc hr hr2 hi hF hiS hrS ha hb HF
  go_enter Tryz.func19, Tryz.ntmps19
  go_wp2_with (first
    | (go_at_call 43; refine HNO.out.mono ?_; rintro e w1 ⟨rfl, rfl⟩)
    | (go_at_call 50; refine HL.out.mono ?_; rintro e w2 ⟨rfl, HB2⟩)
    | (go_at_call 51; (with_reducible show Calls Tryz.prog 51 #[.int .i64 (first : Int)] _ _); refine (HS1.out _).mono ?_; rintro e w3 ⟨rfl, HB3⟩)
    | (go_at_call 51; refine (HS2.out _).mono ?_; rintro e w4 ⟨rfl, HB4⟩))
  go_ret2
  have h3 := HB2.out.trans (HB3.out.mono HB2.out.size)
  exact ⟨rfl, Lib.hid (h3.trans (HB4.out.mono h3.size))⟩
end Go.Proofs.YtjokfllldcjheaaGreatDoor.Oc
