/- SHA-256: the method Sum of sha.State tells the digest. -/
import Derived.Test.YtmhjocbnoppbbaaShaH
namespace Go.Proofs.Ytmhjocbnoppbbaa.Sha
open Go.RowKit
set_option linter.unusedVariables false
set_option linter.unusedSimpArgs false

/-- the words of a text's digest -/
def dW (txt : List UInt8) : List Nat := piecesW (cW txt) K64 (endW (restW txt) txt.length) ((endW (restW txt) txt.length).length / 64)
theorem dW_length (txt : List UInt8) : (dW txt).length = 8 := piecesW_length (cW_length txt) _ _ _
theorem dW_words (txt : List UInt8) : Words (dW txt) := piecesW_words (cW_words txt) _ _ _
/-- a word's four bytes -/
def be4 (x : Nat) : List UInt8 := [UInt8.ofNat (x / 2 ^ 24), UInt8.ofNat (x / 2 ^ 16), UInt8.ofNat (x / 2 ^ 8), UInt8.ofNat x]
def digB (ws : List Nat) : List UInt8 := ws.flatMap be4
theorem digB_length (ws : List Nat) : (digB ws).length = 4 * ws.length := by
  induction ws with
  | nil => rfl
  | cons x ws ih =>
    unfold digB at ih ⊢
    rw [List.flatMap_cons, List.length_append, ih]
    simp [be4]; omega
theorem be4_cells (x : Nat) : #[.int .u8 ((x : Int) / 16777216 % 256), .int .u8 ((x : Int) / 65536 % 256), .int .u8 ((x : Int) / 256 % 256), .int .u8 ((x : Int) % 256)] = (bcells (be4 x)).toArray := by
  simp [be4, bcells]
theorem digB_take (ws : List Nat) (j : Nat) (h : j < ws.length) : digB (ws.take (j + 1)) = digB (ws.take j) ++ be4 (ws.getD j 0) := by
  unfold digB
  rw [List.take_succ_eq_append_getElem h, List.flatMap_append]
  congr 1
  simp [List.getD_eq_getElem?_getD, h]
/-- a text's digest -/
def dig (txt : List UInt8) : ByteArray := ⟨(digB (dW txt)).toArray⟩

theorem St.cell10 {w : World} {sb kb rb : Nat} {v : Value} {c : List Nat} {rest : List UInt8} {m : Nat} (h : St w sb kb rb v c rest m) : w.cell? ⟨sb, 10, none⟩ = some (.int .i64 (m : Int)) :=
  h.cell 10 _ (by rw [stCells, List.getElem?_append_right (by simp [h.len])]; simp [h.len])
def S11 (w : World) (sb kb : Nat) (v : Value) (a0 a1 a2 a3 a4 a5 a6 a7 m : Nat) : Prop :=
  w.cell? ⟨sb, 0, none⟩ = some (.int .u32 (a0 : Int)) ∧ w.cell? ⟨sb, 1, none⟩ = some (.int .u32 (a1 : Int)) ∧ w.cell? ⟨sb, 2, none⟩ = some (.int .u32 (a2 : Int)) ∧ w.cell? ⟨sb, 3, none⟩ = some (.int .u32 (a3 : Int)) ∧ w.cell? ⟨sb, 4, none⟩ = some (.int .u32 (a4 : Int)) ∧ w.cell? ⟨sb, 5, none⟩ = some (.int .u32 (a5 : Int)) ∧ w.cell? ⟨sb, 6, none⟩ = some (.int .u32 (a6 : Int)) ∧ w.cell? ⟨sb, 7, none⟩ = some (.int .u32 (a7 : Int)) ∧ w.cell? ⟨sb, 8, none⟩ = some (.pointer (some ⟨kb, 0, none⟩)) ∧ w.cell? ⟨sb, 9, none⟩ = some v ∧ w.cell? ⟨sb, 10, none⟩ = some (.int .i64 (m : Int))
theorem S11.mk {w : World} {sb kb : Nat} {v : Value} {a0 a1 a2 a3 a4 a5 a6 a7 m : Nat} (h : S10 w sb kb v a0 a1 a2 a3 a4 a5 a6 a7) (h10 : w.cell? ⟨sb, 10, none⟩ = some (.int .i64 (m : Int))) : S11 w sb kb v a0 a1 a2 a3 a4 a5 a6 a7 m := by
  obtain ⟨q0, q1, q2, q3, q4, q5, q6, q7, q8, q9⟩ := h
  exact ⟨q0, q1, q2, q3, q4, q5, q6, q7, q8, q9, h10⟩
theorem S11.later {w w' : World} {sb kb : Nat} {v : Value} {a0 a1 a2 a3 a4 a5 a6 a7 m : Nat} (h : S11 w sb kb v a0 a1 a2 a3 a4 a5 a6 a7 m) (hb : w'.heap[sb]? = w.heap[sb]?) : S11 w' sb kb v a0 a1 a2 a3 a4 a5 a6 a7 m := by
  have e : ∀ i, w'.cell? ⟨sb, i, none⟩ = w.cell? ⟨sb, i, none⟩ := fun i => World.cell?_of_block (a := ⟨sb, i, none⟩) hb
  unfold S11 at h ⊢
  simp only [e]
  exact h

theorem sizeU32 (w : World) : (sizeOf 59).run Try.prog w = .ok 1 w := by
  have h : (Try.prog.info? 59).map (·.size) = some 1 := by kernel_rfl
  obtain ⟨i, hi, h1⟩ := Option.map_eq_some_iff.1 h
  simp [sizeOf, typeInfo, hi, h1]
theorem aggU32 (w : World) : (isAgg 59).run Try.prog w = .ok false w := by
  simp [isAgg, run_underlying Try.underlying59]
/-- a word of an array that is a value -/
theorem run_index_words {P : Program} (t e : TypeId) (n : Nat) (h : P.underlying t = some (.array n e)) (hs : ∀ w, (sizeOf e).run P w = .ok 1 w) (ha : ∀ w, (isAgg e).run P w = .ok false w) (ws : List Nat) (hl : ws.length = n) (j : Nat) (hj : j < n) (w : World) :
    (Instr.index t (.agg (ws.map wv).toArray) (.int .i64 (j : Int))).run P w = .ok (.int .u32 ((ws.getD j 0 : Nat) : Int)) w := by
  have hn : (0 : Int) ≤ (j : Int) ∧ (j : Int) < (n : Int) := by omega
  have hj' : j < ws.length := by omega
  simp [Instr.index, run_underlying h, asIntOf, hn, go_sem, hj', wv, hs, ha, part, hj]

/-- what the first statement leaves -/
def Summed (w w' : World) (txt : List UInt8) (n3 b0 b1 b2 b3 b4 b5 b6 b7 : Nat) : Prop :=
  w.heap.size ≤ n3 ∧ dW txt = [b0, b1, b2, b3, b4, b5, b6, b7] ∧ Arr w' n3 61 [b0, b1, b2, b3, b4, b5, b6, b7] ∧ Below w.heap.size w w'
section
variable {w w1 w2 : World} {txt : List UInt8} {b0 b1 b2 b3 b4 b5 b6 b7 : Nat}
theorem summedA (HP : dW txt = [b0, b1, b2, b3, b4, b5, b6, b7]) (hb1 : Below w.drew.heap.size w.drew w1) (hb2 : Below w1.heap.size w1 w2) : Summed w (w2.alloc (.cells ([b0, b1, b2, b3, b4, b5, b6, b7].map wv).toArray 61 (0, 0))) txt w2.heap.size b0 b1 b2 b3 b4 b5 b6 b7 := by
  have hb : Below w.heap.size w w2 := Below.trans (a := w) (b := w1) ⟨hb1.os, hb1.tape, hb1.output, hb1.size, hb1.block⟩ (hb2.mono hb1.size)
  exact ⟨hb.size, HP, heap_alloc_new w2 _, hb.alloc hb.size _⟩
theorem summedB {o : Obj} (HP : dW txt = [b0, b1, b2, b3, b4, b5, b6, b7]) (hz : Arr w2 w1.heap.size 61 (List.replicate 8 0)) (hb1 : Below w.drew.heap.size w.drew w1) (hb2 : Below (w1.alloc o).heap.size (w1.alloc o) w2) : Summed w (set8w w2 w1.heap.size b0 b1 b2 b3 b4 b5 b6 b7) txt w1.heap.size b0 b1 b2 b3 b4 b5 b6 b7 := by
  have hb1' : Below w.heap.size w w1 := ⟨hb1.os, hb1.tape, hb1.output, hb1.size, hb1.block⟩
  have hb : Below w.heap.size w w2 := (hb1'.alloc hb1'.size o).trans (hb2.mono (by have := hb1'.size; simp; omega))
  exact ⟨hb1'.size, HP, hz.set8 _ _ _ _ _ _ _ _, hb.grown (set8_grown _ _ _ _ _ _ _ _ _ _) hb.size (fun k hk => by injection hk with hk; have := hb1'.size; omega)⟩
theorem summedC {o : Obj} (HP : dW txt = [b0, b1, b2, b3, b4, b5, b6, b7]) (hz : Arr w2 w.heap.size 61 (List.replicate 8 0)) (hb1 : Below (w.drew.alloc o).heap.size (w.drew.alloc o) w1) (hb2 : Below w1.heap.size w1 w2) : Summed w (set8w w2 w.heap.size b0 b1 b2 b3 b4 b5 b6 b7) txt w.heap.size b0 b1 b2 b3 b4 b5 b6 b7 := by
  have hb0 : Below w.heap.size w (w.drew.alloc o) := (Below.refl _ _).drew.alloc (Nat.le_refl _) o
  have hb1' : Below w.heap.size w w1 := hb0.trans (hb1.mono (by simp))
  have hb : Below w.heap.size w w2 := hb1'.trans (hb2.mono hb1'.size)
  exact ⟨Nat.le_refl _, HP, hz.set8 _ _ _ _ _ _ _ _, hb.grown (set8_grown _ _ _ _ _ _ _ _ _ _) hb.size (fun k hk => by injection hk with hk; omega)⟩
end

set_option maxHeartbeats 2000000 in
set_option maxRecDepth 100000 in
theorem summed_calls (sb kb : Nat) (txt : List UInt8) (w : World) (h : StT w sb kb txt) (hsz : txt.length ≤ 1000000) :
    Calls Try.prog 21 #[.pointer (some ⟨sb, 0, none⟩)] w fun e w' => e = .returned (.string (dig txt)) ∧ Below w.heap.size w w' := by
  obtain ⟨rb, v, hst⟩ := h
  have hc10 := hst.cell 10 (.int .i64 (txt.length : Int)) (by rw [stCells, List.getElem?_append_right (by simp [hst.len])]; simp [hst.len])
  have hwd := cW_words txt
  obtain ⟨a0, a1, a2, a3, a4, a5, a6, a7, hce, l0, l1, l2, l3, l4, l5, l6, l7⟩ := eight (cW_length txt) hwd
  have hrl : (restW txt).length ≤ 1000000 := by rw [restW_length]; omega
  obtain ⟨q0, q1, q2, q3, q4, q5, q6, q7, q8, q9⟩ := hst.cells hce
  have hsb4 := hst.lt
  have hnb : ¬ (w.heap.size = sb) := by omega
  have hmm : txt.length ≤ 1000000000 := by omega
  have HST4 := Lib.hid hst
  have HCE := Lib.hid hce
  have HWD := Lib.hid hwd
  clear hst hce hwd
  go_enter Try.func21, Try.ntmps21
  go_upto_region 3 with (fail)
  go_cut [3] (fun p w' => ∃ (n3 b0 b1 b2 b3 b4 b5 b6 b7 : Nat), p = .pointer (some ⟨n3, 0, none⟩) ∧ Hid (Summed w w' txt n3 b0 b1 b2 b3 b4 b5 b6 b7))
  case first =>
    go_region_held3 (fun w' => w'.cell? ⟨sb, 0, none⟩ = some (.int .u32 (a0 : Int)) ∧ w'.cell? ⟨sb, 1, none⟩ = some (.int .u32 (a1 : Int)) ∧ w'.cell? ⟨sb, 2, none⟩ = some (.int .u32 (a2 : Int)) ∧ w'.cell? ⟨sb, 3, none⟩ = some (.int .u32 (a3 : Int)) ∧ w'.cell? ⟨sb, 4, none⟩ = some (.int .u32 (a4 : Int)) ∧ w'.cell? ⟨sb, 5, none⟩ = some (.int .u32 (a5 : Int)) ∧ w'.cell? ⟨sb, 6, none⟩ = some (.int .u32 (a6 : Int)) ∧ w'.cell? ⟨sb, 7, none⟩ = some (.int .u32 (a7 : Int)) ∧ w'.cell? ⟨sb, 8, none⟩ = some (.pointer (some ⟨kb, 0, none⟩)) ∧ w'.cell? ⟨sb, 9, none⟩ = some v ∧ w'.cell? ⟨sb, 10, none⟩ = some (.int .i64 (txt.length : Int)))
      (first | (go_keep; done) | exact S11.mk HS5.out HC5.out | exact S11.mk HS6.out HC6.out | exact S11.later (S11.mk HS5.out HC5.out) (Below.heap_alloc _ _ _ HST5.out.lt) | exact S11.later (S11.mk HS6.out HC6.out) (Below.heap_alloc _ _ _ HLT2.out))
      (first
        | (go_at_call 42; refine (end_calls rb v (restW txt) txt.length _ (by first | exact HST4.out.row.reads (by omega) | exact RB.alloc (HST4.out.row.reads (by omega)) _) hrl hmm).mono ?_; rintro e w1 ⟨v1, g, rfl, hr1, hb1⟩; have HRB1 := Lib.hid hr1; have HB1 := Lib.hid hb1; clear hr1 hb1; have HST5 : Hid (St w1 sb kb rb v (cW txt) (restW txt) txt.length) := (by first | exact Lib.hid (St.later (w := w.drew) (St.other HST4.out rfl rfl (fun _ => rfl)) HB1.out) | exact Lib.hid (St.later (w := w.drew.alloc _) (St.alloc (St.other (w' := w.drew) HST4.out rfl rfl (fun _ => rfl)) _) HB1.out)); have HS5 := Lib.hid (HST5.out.cells HCE.out); have HC5 := Lib.hid HST5.out.cell10; have hn1 : ¬ (w1.heap.size = sb) := (by have := HST5.out.lt; omega); try (have HZ : Hid (Arr w1 w.heap.size 61 (List.replicate 8 0)) := Lib.hid (Arr.below (w := w.drew.alloc _) (heap_alloc_new w.drew _) HB1.out (by simp))))
        | (go_at_call 41; refine (all_calls8 (cW txt) kb g v1 (endW (restW txt) txt.length) _ HCE.out HWD.out (by first | exact HST5.out.tab | exact HST5.out.tab.alloc _) (by first | exact HRB1.out | exact RB.alloc HRB1.out _)).mono ?_; rintro e w2 ⟨b0, b1, b2, b3, b4, b5, b6, b7, v', rfl, HP, HRB2, HB2⟩; have HST6 : Hid (St w2 sb kb rb v (cW txt) (restW txt) txt.length) := (by first | exact Lib.hid (St.later HST5.out HB2.out) | exact Lib.hid (St.later (St.alloc HST5.out _) HB2.out)); have HS6 := Lib.hid (HST6.out.cells HCE.out); have HC6 := Lib.hid HST6.out.cell10; have HLT2 := Lib.hid HST6.out.lt; first | (have HZ2 : Hid (Arr w2 w.heap.size 61 (List.replicate 8 0)) := Lib.hid (HZ.out.below HB2.out HZ.out.lt); obtain ⟨z0, z1, z2, z3, z4, z5, z6, z7, f0, f1, f2, f3, f4, f5, f6, f7⟩ := HZ2.out.cells8) | (have HZ2 : Hid (Arr w2 w1.heap.size 61 (List.replicate 8 0)) := Lib.hid (Arr.below (w := w1.alloc _) (heap_alloc_new w1 _) HB2.out (by simp)); obtain ⟨z0, z1, z2, z3, z4, z5, z6, z7, f0, f1, f2, f3, f4, f5, f6, f7⟩ := HZ2.out.cells8) | skip))
    all_goals (go_wp2_with fail; go_meet; refine ⟨_, b0, b1, b2, b3, b4, b5, b6, b7, rfl, ?_⟩)
    all_goals first
      | (have hz : Hid (Arr w2 w.heap.size 61 (List.replicate 8 0)) := HZ2
         with_reducible refine Lib.hid (?_ : Summed w _ txt w.heap.size b0 b1 b2 b3 b4 b5 b6 b7)
         exact summedC HP.out hz.out HB1.out HB2.out)
      | (have hz : Hid (Arr w2 w1.heap.size 61 (List.replicate 8 0)) := HZ2
         with_reducible refine Lib.hid (?_ : Summed w _ txt w1.heap.size b0 b1 b2 b3 b4 b5 b6 b7)
         exact summedB HP.out hz.out HB1.out HB2.out)
      | (with_reducible refine Lib.hid (?_ : Summed w _ txt w2.heap.size b0 b1 b2 b3 b4 b5 b6 b7)
         exact summedA HP.out HB1.out HB2.out)
  case rest =>
    obtain ⟨n3, b0, b1, b2, b3, b4, b5, b6, b7, rfl, HPC⟩ := hcut
    have hpc := HPC.out
    obtain ⟨hn3, hdw, har, hbl⟩ := hpc
    obtain ⟨y0, y1, y2, y3, y4, y5, y6, y7⟩ := har.cellsL
    have hw8 : Words [b0, b1, b2, b3, b4, b5, b6, b7] := by rw [← hdw]; exact dW_words _
    have lt : ∀ x, x ∈ [b0, b1, b2, b3, b4, b5, b6, b7] → x < 4294967296 := hw8
    simp only [List.mem_cons, List.not_mem_nil, or_false, forall_eq_or_imp, forall_eq] at lt
    obtain ⟨m0, m1, m2, m3, m4, m5, m6, m7⟩ := lt
    have HDW := Lib.hid hdw
    have HBL := Lib.hid hbl
    have HO : Hid (OB wc w.heap.size (.slice none 0 0) []) := Lib.hid (OB.nil wc w.heap.size)
    clear hdw har hbl hw8 q0 q1 q2 q3 q4 q5 q6 q7 q8 q9 hc10 hnb
    go_wp2
    go_loopw [5, 32] (fun u i wr => ∃ (j : Nat), i = .int .i64 (j : Int) ∧ j ≤ 8 ∧ Hid (OB wr w.heap.size u (digB ([b0, b1, b2, b3, b4, b5, b6, b7].take j))) ∧ Hid (Below w.heap.size w wr)) (fun _ i _ => (8 - intOf i).toNat)
    case atStart => exact ⟨0, rfl, by omega, HO, HBL⟩
    case round =>
      clear HO HBL
      obtain ⟨j, rfl, hj, HO, HB⟩ := hrel
      have hbw := HB.out.size
      by_cases hlt : j < 8
      · have hidx := run_index_words (P := Try.prog) 61 59 8 Try.underlying61 sizeU32 aggU32 [b0, b1, b2, b3, b4, b5, b6, b7] rfl j hlt
        have hsn : digB ([b0, b1, b2, b3, b4, b5, b6, b7].take (j + 1)) = digB ([b0, b1, b2, b3, b4, b5, b6, b7].take j) ++ be4 ([b0, b1, b2, b3, b4, b5, b6, b7].getD j 0) := digB_take _ j hlt
        obtain ⟨x, hx⟩ : ∃ x, [b0, b1, b2, b3, b4, b5, b6, b7].getD j 0 = x := ⟨_, rfl⟩
        rw [hx] at hidx hsn
        have hj0 : (j : Int) < 8 := by omega
        have HSN := Lib.hid hsn
        clear hsn hx
        simp only [List.map_cons, List.map_nil, wv] at hidx
        have HRL := Lib.hid (RB.lit wr (be4 x) #[.int .u8 ((x : Int) / 16777216 % 256), .int .u8 ((x : Int) / 65536 % 256), .int .u8 ((x : Int) / 256 % 256), .int .u8 ((x : Int) % 256)] (be4_cells x) 4 rfl (by simp [be4]))
        have hlen : (digB ([b0, b1, b2, b3, b4, b5, b6, b7].take j)).length ≤ 32 := by
          have e : ∀ l : List Nat, (digB l).length = 4 * l.length := digB_length
          rw [e, List.length_take]; simp; omega
        have HLEN := Lib.hid hlen
        clear hlen
        go_wp2_with (at_builtin; refine OB.append_on (base := w.heap.size) (w := wr.alloc _) (OB.alloc HO.out _) HRL.out rfl _ _ rfl rfl rfl (by simp; omega) (by have := HLEN.out; simp [be4]; omega) ?_; intro v1 w1 h1 hg1 hat1)
        go_roundw
        case rel =>
          refine ⟨j + 1, by go_num, by omega, ?_, Lib.hid ((HB.out.alloc hbw _).grown hg1 (by simp; omega) (OB.base HO.out))⟩
          rw [HSN.out]
          exact h1
        case measure => simp [intOf]; omega
      · obtain rfl : j = 8 := by omega
        rw [show (((8 : Nat) : Int)) = 8 from rfl]
        obtain ⟨g2, hr2, -⟩ := HO.out.reads
        have hcv := hr2.string_run
        have hd : (⟨(digB ([b0, b1, b2, b3, b4, b5, b6, b7].take 8)).toArray⟩ : ByteArray) = dig txt := by
          unfold dig
          rw [HDW.out]; rfl
        rw [hd] at hcv
        clear hd hr2 hj hlt
        have HB2 := Lib.hid HB.out
        go_wp2
        go_ret
        exact ⟨rfl, HB2.out⟩
end Go.Proofs.Ytmhjocbnoppbbaa.Sha
