/- SHA-256: the method Write of sha.State writes texts. · SHA-256: the method Sum of sha.State tells the digest. · SHA-256: sha.New as a state of nothing, sha.Sum. · SHA-256: sha.Hex. · SHA-256: the document's example, reckoned by the kernel. · A slice of texts among a law's arguments, as the walks ask it; the law ShaGoes, walked. -/
import Derived.Test.YtjokfllldcjheaaGreatDoorShaG
import Derived.Deep.OwnRows
import Derived.SliceStrings
import Derived.SizedLaws
import Derived.OpenShut
import Derived.Laws.Concat
/- SHA-256: the method Write of sha.State writes texts. -/
namespace Go.Proofs.YtjokfllldcjheaaGreatDoor.Sha
open Go.RowKit
set_option linter.unusedVariables false
set_option linter.unusedSimpArgs false

/-- all texts' bytes, one behind the other -/
def cat (ss : List ByteArray) : List UInt8 := ss.flatMap fun s => s.data.toList
theorem cat_take (ss : List ByteArray) (k : Nat) (h : k < ss.length) : cat (ss.take (k + 1)) = cat (ss.take k) ++ (ss.getD k ByteArray.empty).data.toList := by
  unfold cat
  rw [List.take_succ_eq_append_getElem h, List.flatMap_append]
  congr 1
  simp [List.getD_eq_getElem?_getD, h]
theorem cat_take_le (ss : List ByteArray) (k : Nat) : (cat (ss.take k)).length ≤ (cat ss).length := by
  unfold cat
  conv => rhs; rw [← List.take_append_drop k ss]
  rw [List.flatMap_append, List.length_append]
  omega
/-- v is a slice, in block g, that reads as the texts ss -/
def SR (w : World) (g : Nat) (v : Value) (ss : List ByteArray) : Prop :=
  ∃ A c, v = .slice A ss.length c ∧ ss.length ≤ c ∧ c ≤ 9223372036854775807 ∧ (0 < ss.length → ∃ ad : Addr, A = some ad ∧ ad.block = g ∧ ∀ i, i < ss.length → w.cell? (ad.add i) = some (.string (ss.getD i ByteArray.empty)))
theorem Addr.add_block (a : Addr) (i : Nat) : (a.add i).block = a.block := by unfold Addr.add; split <;> rfl
theorem SR.kept {w w' : World} {g : Nat} {v : Value} {ss : List ByteArray} (h : SR w g v ss) {row : Option Nat} (hg : w.grownBy w' row) (hr : some g ≠ row) : SR w' g v ss := by
  obtain ⟨A, c, hv, h1, h2, h3⟩ := h
  refine ⟨A, c, hv, h1, h2, fun h => ?_⟩
  obtain ⟨ad, ha, hb, hc⟩ := h3 h
  exact ⟨ad, ha, hb, fun i hi => hg.cell (hc i hi) (by rw [Addr.add_block, hb]; exact hr)⟩
/-- the state that has taken a text -/
def StT (w : World) (sb kb : Nat) (txt : List UInt8) : Prop := ∃ rb v, St w sb kb rb v (cW txt) (restW txt) txt.length

set_option maxHeartbeats 2000000 in
set_option maxRecDepth 100000 in
theorem write_calls (sb kb lb : Nat) (txt : List UInt8) (lv : Value) (ss : List ByteArray) (w : World) (h : StT w sb kb txt) (hl : SR w lb lv ss) (hne : lb ≠ sb) (hsz : txt.length + (cat ss).length ≤ 1000000) :
    Calls Tryz.prog 102 #[.pointer (some ⟨sb, 0, none⟩), lv] w fun e w' => e = .returned (.tuple #[]) ∧ StT w' sb kb (txt ++ cat ss) ∧ w.grownBy w' (some sb) := by
  have hl' := hl
  obtain ⟨A, cp, rfl, hcp, hcm, hread⟩ := hl
  have HT := Lib.hid h
  have HL := Lib.hid hl'
  clear h hl' hread
  obtain ⟨len, hlen⟩ : ∃ len, ss.length = len := ⟨_, rfl⟩
  rw [hlen] at hcp HL ⊢
  have HLEN := Lib.hid hlen
  clear hlen
  go_enter Tryz.func102, Tryz.ntmps102
  go_wp2
  go_loopw [12] (fun i wr => ∃ k : Nat, k ≤ len ∧ i = .int .i64 k ∧ Hid (StT wr sb kb (txt ++ cat (ss.take k))) ∧ Hid (w.grownBy wr (some sb))) (fun i _ => len - (intOf i).toNat)
  case atStart => exact ⟨0, by omega, rfl, by simpa [Hid, cat] using HT, Lib.hid (World.grownBy.refl w _)⟩
  case round =>
    obtain ⟨k, hk, rfl, HS, HG⟩ := hrel
    by_cases hlt : k < len
    · have hl1 := HL.out.kept HG.out (by intro e; injection e with e; exact hne e)
      obtain ⟨A', c', hv', -, -, hread⟩ := hl1
      rw [HLEN.out] at hread hv'
      obtain ⟨ad, hA, -, hcell⟩ := hread (by omega)
      injection hv' with hv' _ hcc
      subst hcc
      rw [← hv'] at hA
      subst hA
      have ct := hcell k hlt
      have hsn := cat_take ss k (by rw [HLEN.out]; exact hlt)
      have hle := cat_take_le ss (k + 1)
      obtain ⟨s, hs⟩ : ∃ s, ss.getD k ByteArray.empty = s := ⟨_, rfl⟩
      rw [hs] at ct hsn
      obtain ⟨tx, htx⟩ : ∃ tx, txt ++ cat (ss.take k) = tx := ⟨_, rfl⟩
      have hnew : txt ++ cat (ss.take (k + 1)) = tx ++ s.data.toList := by rw [hsn, ← htx, List.append_assoc]
      have hssz : s.data.toList.length = s.size := by rw [Array.length_toList]; rfl
      have htl : tx.length + s.size ≤ 1000000 := by
        have := congrArg List.length hnew
        rw [List.length_append, List.length_append, hssz] at this
        omega
      rw [htx] at HS
      have HN := Lib.hid hnew
      clear hcell hv' hsn hle hs htx hnew hssz
      obtain ⟨rb, v, hst⟩ := HS.out
      have hc10 := hst.cell 10 (.int .i64 (tx.length : Int)) (by rw [stCells, List.getElem?_append_right (by simp [hst.len])]; simp [hst.len])
      have hf10 := hst.frozen 10
      have HST := Lib.hid hst
      clear hst
      have k0 : (0 : Int) ≤ (k : Int) := by omega
      have k1 : (k : Int) < (len : Int) := by omega
      go_upto_region 5 with (fail)
      have hst4 : St (wr.setCell ⟨sb, 10, none⟩ (.int .i64 ((tx.length : Int) + (s.size : Int)))) sb kb rb v (cW tx) (restW tx) (tx.length + s.size) := by
        have := HST.out.setM HST.out.ne_row (tx.length + s.size)
        simpa using this
      have hg4 : w.grownBy (wr.setCell ⟨sb, 10, none⟩ (.int .i64 ((tx.length : Int) + (s.size : Int)))) (some sb) := HG.out.trans (grown_setCell wr ⟨sb, 10, none⟩ _)
      generalize wr.setCell ⟨sb, 10, none⟩ (.int .i64 ((tx.length : Int) + (s.size : Int))) = w4 at hst4 hg4 ⊢
      clear hc10 hf10 HST HG HS
      have hwd := cW_words tx
      obtain ⟨a0, a1, a2, a3, a4, a5, a6, a7, hce, l0, l1, l2, l3, l4, l5, l6, l7⟩ := eight (cW_length tx) hwd
      have hrl : (restW tx).length + s.size ≤ 140737488355328 := by rw [restW_length]; omega
      obtain ⟨q0, q1, q2, q3, q4, q5, q6, q7, q8, q9⟩ := hst4.cells hce
      have hsb4 := hst4.lt
      have hnb : ¬ (w4.heap.size = sb) := by omega
      have HST4 := Lib.hid hst4
      have HG4 := Lib.hid hg4
      have HCE := Lib.hid hce
      have HWD := Lib.hid hwd
      clear hst4 hg4 hce hwd
      go_cut [6, 7] (fun p q w' => ∃ (n6 g b0 b1 b2 b3 b4 b5 b6 b7 : Nat), p = .pointer (some ⟨n6, 0, none⟩) ∧ Hid (Piece sb w4 w' tx s.data.toList n6 g q b0 b1 b2 b3 b4 b5 b6 b7))
      case first =>
        go_region_held3 (fun w' => w'.cell? ⟨sb, 0, none⟩ = some (.int .u32 (a0 : Int)) ∧ w'.cell? ⟨sb, 1, none⟩ = some (.int .u32 (a1 : Int)) ∧ w'.cell? ⟨sb, 2, none⟩ = some (.int .u32 (a2 : Int)) ∧ w'.cell? ⟨sb, 3, none⟩ = some (.int .u32 (a3 : Int)) ∧ w'.cell? ⟨sb, 4, none⟩ = some (.int .u32 (a4 : Int)) ∧ w'.cell? ⟨sb, 5, none⟩ = some (.int .u32 (a5 : Int)) ∧ w'.cell? ⟨sb, 6, none⟩ = some (.int .u32 (a6 : Int)) ∧ w'.cell? ⟨sb, 7, none⟩ = some (.int .u32 (a7 : Int)) ∧ w'.cell? ⟨sb, 8, none⟩ = some (.pointer (some ⟨kb, 0, none⟩)) ∧ w'.cell? ⟨sb, 9, none⟩ = some v)
          (first | (go_keep; done) | exact HS5.out | exact HS6.out | exact S10.later HS5.out (Below.heap_alloc _ _ _ HST5.out.lt) | exact S10.later HS6.out (Below.heap_alloc _ _ _ HLT2.out))
          (first
            | (refine exact_append_wp (ops := _) rfl _ _ (by rfl) v sb rb (restW tx) s (by rfl) (by rfl) hrl (by first | exact HST4.out.row | exact HST4.out.row.alloc _) ?_; intro g v1 w1 HRB1 HB1 HG1; have HST5 : Hid (St w1 sb kb rb v (cW tx) (restW tx) (tx.length + s.size)) := (by first | exact Lib.hid (St.later (w := w4.drew) (St.other HST4.out rfl rfl (fun _ => rfl)) HB1.out) | exact Lib.hid (St.later (w := w4.drew.alloc _) (St.alloc (St.other (w' := w4.drew) HST4.out rfl rfl (fun _ => rfl)) _) HB1.out)); have HS5 := Lib.hid (HST5.out.cells HCE.out); have hn1 : ¬ (w1.heap.size = sb) := (by have := HST5.out.lt; omega); try (have HZ : Hid (Arr w1 w4.heap.size 202 (List.replicate 8 0)) := Lib.hid (Arr.below (w := w4.drew.alloc _) (heap_alloc_new w4.drew _) HB1.out (by simp))))
            | (go_at_call 129; refine (all_calls8 (cW tx) kb g v1 (restW tx ++ s.data.toList) _ HCE.out HWD.out (by first | exact HST5.out.tab | exact HST5.out.tab.alloc _) (by first | exact HRB1.out | exact RB.alloc HRB1.out _)).mono ?_; rintro e w2 ⟨b0, b1, b2, b3, b4, b5, b6, b7, v', rfl, HP, HRB2, HB2⟩; have HST6 : Hid (St w2 sb kb rb v (cW tx) (restW tx) (tx.length + s.size)) := (by first | exact Lib.hid (St.later HST5.out HB2.out) | exact Lib.hid (St.later (St.alloc HST5.out _) HB2.out)); have HS6 := Lib.hid (HST6.out.cells HCE.out); have HLT2 := Lib.hid HST6.out.lt; first | (have HZ2 : Hid (Arr w2 w4.heap.size 202 (List.replicate 8 0)) := Lib.hid (HZ.out.below HB2.out HZ.out.lt); obtain ⟨z0, z1, z2, z3, z4, z5, z6, z7, f0, f1, f2, f3, f4, f5, f6, f7⟩ := HZ2.out.cells8) | (have HZ2 : Hid (Arr w2 w1.heap.size 202 (List.replicate 8 0)) := Lib.hid (Arr.below (w := w1.alloc _) (heap_alloc_new w1 _) HB2.out (by simp)); obtain ⟨z0, z1, z2, z3, z4, z5, z6, z7, f0, f1, f2, f3, f4, f5, f6, f7⟩ := HZ2.out.cells8) | skip))
        all_goals (go_wp2_with fail; go_meet; refine ⟨_, g, b0, b1, b2, b3, b4, b5, b6, b7, rfl, ?_⟩)
        all_goals first
          | (have hz : Hid (Arr w2 w4.heap.size 202 (List.replicate 8 0)) := HZ2
             with_reducible refine Lib.hid (?_ : Piece sb w4 _ tx s.data.toList w4.heap.size g v' b0 b1 b2 b3 b4 b5 b6 b7)
             exact pieceC hsb4 HP.out HG1.out HST4.out.row HRB2.out hz.out HB1.out HB2.out)
          | (have hz : Hid (Arr w2 w1.heap.size 202 (List.replicate 8 0)) := HZ2
             with_reducible refine Lib.hid (?_ : Piece sb w4 _ tx s.data.toList w1.heap.size g v' b0 b1 b2 b3 b4 b5 b6 b7)
             exact pieceB hsb4 HST4.out.row HG1.out HP.out HRB1.out.lt rfl HRB2.out hz.out HB1.out HB2.out)
          | (with_reducible refine Lib.hid (?_ : Piece sb w4 _ tx s.data.toList w2.heap.size g v' b0 b1 b2 b3 b4 b5 b6 b7)
             exact pieceA hsb4 HST4.out.row HG1.out HP.out HRB2.out HB1.out HB2.out)
      case rest =>
        obtain ⟨n6, g, b0, b1, b2, b3, b4, b5, b6, b7, rfl, HPC⟩ := hcut
        have hpc := HPC.out
        obtain ⟨hgne, hn6, hcw2, har, hrb2, hbl⟩ := hpc
        have hst6 := St.later HST4.out hbl
        have hg6 := HG4.out.trans (grown_below hbl (some sb))
        obtain ⟨y0, y1, y2, y3, y4, y5, y6, y7⟩ := har.cellsL
        have hw8 : Words [b0, b1, b2, b3, b4, b5, b6, b7] := by rw [← hcw2]; exact cW_words _
        obtain ⟨p0, p1, p2, p3, p4, p5, p6, p7, p8, p9⟩ := hst6.cells HCE.out
        have e0 := hst6.frozen 0
        have e1 := hst6.frozen 1
        have e2 := hst6.frozen 2
        have e3 := hst6.frozen 3
        have e4 := hst6.frozen 4
        have e5 := hst6.frozen 5
        have e6 := hst6.frozen 6
        have e7 := hst6.frozen 7
        have e9 := hst6.frozen 9
        have hsb6 := hst6.lt
        have hn6lt := har.lt
        have hk1 : ¬ (wc.heap.size = sb) := by omega
        have hk2 : ¬ (wc.heap.size = n6) := by omega
        have hk3 : ¬ (n6 = sb) := by omega
        have hk4 : ¬ (sb = n6) := by omega
        have hrb3 := hrb2
        obtain ⟨A2, c2, o2, rfl, hc2, hc3, -⟩ := hrb2
        have hlr : (restW (tx ++ s.data.toList)).length < 64 := by rw [restW_length]; omega
        obtain ⟨n, hn⟩ : ∃ n, (restW (tx ++ s.data.toList)).length = n := ⟨_, rfl⟩
        rw [hn] at hlr hc2 hrb3 ⊢
        have hmk := run_make_row' (P := Tryz.prog) 128 5 (.int .u8 0) 1 Tryz.underlying128 infoU8 rfl .i64 .i64 n (by omega) (by omega)
        have HST6 := Lib.hid hst6
        have HG6 := Lib.hid hg6
        have HRB3 := Lib.hid hrb3
        have HW8 := Lib.hid hw8
        have HGNE := Lib.hid hgne
        have HCW2 := Lib.hid hcw2
        have HNN := Lib.hid hn
        clear hst6 hg6 hrb3 hw8 hgne hcw2 hn har hbl q0 q1 q2 q3 q4 q5 q6 q7 q8 q9 hnb
        go_upto_region 6 with (fail)
        go_cut [] (fun w' => Hid (Laid w w' sb kb g n (tx.length + s.size) [b0, b1, b2, b3, b4, b5, b6, b7] (.slice A2 n c2) (restW (tx ++ s.data.toList))))
        case first =>
          go_region_with (fail)
          all_goals (go_wp2_with fail; go_meet)
          all_goals (with_reducible refine Lib.hid (?_ : Laid w _ sb kb g n (tx.length + s.size) [b0, b1, b2, b3, b4, b5, b6, b7] (.slice A2 n c2) (restW (tx ++ s.data.toList))))
          all_goals exact laidD HST6.out HW8.out HRB3.out HGNE.out HG6.out
        case rest =>
          have hcut2 := hcut.out
          clear hcut
          obtain ⟨nb, hst7, hrb7, hg7, hnb⟩ := hcut2
          have c9 := hst7.cell 9 (.slice (some ⟨nb, 0, none⟩) n n) (by rfl)
          have HST7 := Lib.hid hst7
          have HRB7 := Lib.hid hrb7
          have HG7 := Lib.hid hg7
          have HNB := Lib.hid hnb
          clear hst7 hrb7 hg7 hnb hmk y0 y1 y2 y3 y4 y5 y6 y7 p0 p1 p2 p3 p4 p5 p6 p7 p8 p9 e0 e1 e2 e3 e4 e5 e6 e7 e9 hk1 hk2 hk3 hk4 hread ct
          go_wp2_with (refine St.copy_step HST7.out HRB7.out HNN.out rfl (.tmp 56) (.tmp 57) _ _ rfl Tryz.underlying128 infoU8s (by rfl) (by rfl) ?_; intro w2 HST8 HG8)
          go_roundw
          case rel =>
            refine ⟨k + 1, by omega, by go_num, Lib.hid ⟨nb, .slice (some ⟨nb, 0, none⟩) n n, ?_⟩, Lib.hid (grown_row_new HG7.out HG8.out HNB.out)⟩
            rw [HN.out, HCW2.out, List.length_append, Array.length_toList]
            exact HST8.out
          case measure => simp [intOf]; omega
    · obtain rfl : k = len := by omega
      have hst := HS.out
      rw [List.take_of_length_le (by rw [HLEN.out]; exact Nat.le_refl _)] at hst
      have HST := Lib.hid hst
      clear hst HS
      go_wp2
      go_end0
      exact ⟨rfl, HST.out, HG.out⟩
end Go.Proofs.YtjokfllldcjheaaGreatDoor.Sha
/- SHA-256: the method Sum of sha.State tells the digest. -/
namespace Go.Proofs.YtjokfllldcjheaaGreatDoor.Sha
open Go.RowKit
set_option linter.unusedVariables false
set_option linter.unusedSimpArgs false

/-- the words of a text's digest -/
def dW (txt : List UInt8) : List Nat := piecesW (cW txt) K64 (endW (restW txt) txt.length) ((endW (restW txt) txt.length).length / 64)
theorem dW_length (txt : List UInt8) : (dW txt).length = 8 := piecesW_length (cW_length txt) _ _ _
theorem dW_words (txt : List UInt8) : Words (dW txt) := piecesW_words (cW_words txt) _ _ _
/-- a word's four bytes -/
def be4 (x : Nat) : List UInt8 := [UInt8.ofNat (x / 2 ^ 24), UInt8.ofNat (x / 2 ^ 16), UInt8.ofNat (x / 2 ^ 8), UInt8.ofNat x]
def digB (ws : List Nat) : List UInt8 := ws.flatMap be4
theorem digB_length (ws : List Nat) : (digB ws).length = 4 * ws.length := by
  induction ws with
  | nil => rfl
  | cons x ws ih =>
    unfold digB at ih ⊢
    rw [List.flatMap_cons, List.length_append, ih]
    simp [be4]; omega
theorem be4_cells (x : Nat) : #[.int .u8 ((x : Int) / 16777216 % 256), .int .u8 ((x : Int) / 65536 % 256), .int .u8 ((x : Int) / 256 % 256), .int .u8 ((x : Int) % 256)] = (bcells (be4 x)).toArray := by
  simp [be4, bcells]
theorem digB_take (ws : List Nat) (j : Nat) (h : j < ws.length) : digB (ws.take (j + 1)) = digB (ws.take j) ++ be4 (ws.getD j 0) := by
  unfold digB
  rw [List.take_succ_eq_append_getElem h, List.flatMap_append]
  congr 1
  simp [List.getD_eq_getElem?_getD, h]
/-- a text's digest -/
def dig (txt : List UInt8) : ByteArray := ⟨(digB (dW txt)).toArray⟩

theorem St.cell10 {w : World} {sb kb rb : Nat} {v : Value} {c : List Nat} {rest : List UInt8} {m : Nat} (h : St w sb kb rb v c rest m) : w.cell? ⟨sb, 10, none⟩ = some (.int .i64 (m : Int)) :=
  h.cell 10 _ (by rw [stCells, List.getElem?_append_right (by simp [h.len])]; simp [h.len])
def S11 (w : World) (sb kb : Nat) (v : Value) (a0 a1 a2 a3 a4 a5 a6 a7 m : Nat) : Prop :=
  w.cell? ⟨sb, 0, none⟩ = some (.int .u32 (a0 : Int)) ∧ w.cell? ⟨sb, 1, none⟩ = some (.int .u32 (a1 : Int)) ∧ w.cell? ⟨sb, 2, none⟩ = some (.int .u32 (a2 : Int)) ∧ w.cell? ⟨sb, 3, none⟩ = some (.int .u32 (a3 : Int)) ∧ w.cell? ⟨sb, 4, none⟩ = some (.int .u32 (a4 : Int)) ∧ w.cell? ⟨sb, 5, none⟩ = some (.int .u32 (a5 : Int)) ∧ w.cell? ⟨sb, 6, none⟩ = some (.int .u32 (a6 : Int)) ∧ w.cell? ⟨sb, 7, none⟩ = some (.int .u32 (a7 : Int)) ∧ w.cell? ⟨sb, 8, none⟩ = some (.pointer (some ⟨kb, 0, none⟩)) ∧ w.cell? ⟨sb, 9, none⟩ = some v ∧ w.cell? ⟨sb, 10, none⟩ = some (.int .i64 (m : Int))
theorem S11.mk {w : World} {sb kb : Nat} {v : Value} {a0 a1 a2 a3 a4 a5 a6 a7 m : Nat} (h : S10 w sb kb v a0 a1 a2 a3 a4 a5 a6 a7) (h10 : w.cell? ⟨sb, 10, none⟩ = some (.int .i64 (m : Int))) : S11 w sb kb v a0 a1 a2 a3 a4 a5 a6 a7 m := by
  obtain ⟨q0, q1, q2, q3, q4, q5, q6, q7, q8, q9⟩ := h
  exact ⟨q0, q1, q2, q3, q4, q5, q6, q7, q8, q9, h10⟩
theorem S11.later {w w' : World} {sb kb : Nat} {v : Value} {a0 a1 a2 a3 a4 a5 a6 a7 m : Nat} (h : S11 w sb kb v a0 a1 a2 a3 a4 a5 a6 a7 m) (hb : w'.heap[sb]? = w.heap[sb]?) : S11 w' sb kb v a0 a1 a2 a3 a4 a5 a6 a7 m := by
  have e : ∀ i, w'.cell? ⟨sb, i, none⟩ = w.cell? ⟨sb, i, none⟩ := fun i => World.cell?_of_block (a := ⟨sb, i, none⟩) hb
  unfold S11 at h ⊢
  simp only [e]
  exact h

theorem sizeU32 (w : World) : (sizeOf 200).run Tryz.prog w = .ok 1 w := by
  have h : (Tryz.prog.info? 200).map (·.size) = some 1 := by kernel_rfl
  obtain ⟨i, hi, h1⟩ := Option.map_eq_some_iff.1 h
  simp [sizeOf, typeInfo, hi, h1]
theorem aggU32 (w : World) : (isAgg 200).run Tryz.prog w = .ok false w := by
  simp [isAgg, run_underlying Tryz.underlying200]
/-- a word of an array that is a value -/
theorem run_index_words {P : Program} (t e : TypeId) (n : Nat) (h : P.underlying t = some (.array n e)) (hs : ∀ w, (sizeOf e).run P w = .ok 1 w) (ha : ∀ w, (isAgg e).run P w = .ok false w) (ws : List Nat) (hl : ws.length = n) (j : Nat) (hj : j < n) (w : World) :
    (Instr.index t (.agg (ws.map wv).toArray) (.int .i64 (j : Int))).run P w = .ok (.int .u32 ((ws.getD j 0 : Nat) : Int)) w := by
  have hn : (0 : Int) ≤ (j : Int) ∧ (j : Int) < (n : Int) := by omega
  have hj' : j < ws.length := by omega
  simp [Instr.index, run_underlying h, asIntOf, hn, go_sem, hj', wv, hs, ha, part, hj]

/-- what the first statement leaves -/
def Summed (w w' : World) (txt : List UInt8) (n3 b0 b1 b2 b3 b4 b5 b6 b7 : Nat) : Prop :=
  w.heap.size ≤ n3 ∧ dW txt = [b0, b1, b2, b3, b4, b5, b6, b7] ∧ Arr w' n3 202 [b0, b1, b2, b3, b4, b5, b6, b7] ∧ Below w.heap.size w w'
section
variable {w w1 w2 : World} {txt : List UInt8} {b0 b1 b2 b3 b4 b5 b6 b7 : Nat}
theorem summedA (HP : dW txt = [b0, b1, b2, b3, b4, b5, b6, b7]) (hb1 : Below w.drew.heap.size w.drew w1) (hb2 : Below w1.heap.size w1 w2) : Summed w (w2.alloc (.cells ([b0, b1, b2, b3, b4, b5, b6, b7].map wv).toArray 202 (0, 0))) txt w2.heap.size b0 b1 b2 b3 b4 b5 b6 b7 := by
  have hb : Below w.heap.size w w2 := Below.trans (a := w) (b := w1) ⟨hb1.os, hb1.tape, hb1.output, hb1.size, hb1.block⟩ (hb2.mono hb1.size)
  exact ⟨hb.size, HP, heap_alloc_new w2 _, hb.alloc hb.size _⟩
theorem summedB {o : Obj} (HP : dW txt = [b0, b1, b2, b3, b4, b5, b6, b7]) (hz : Arr w2 w1.heap.size 202 (List.replicate 8 0)) (hb1 : Below w.drew.heap.size w.drew w1) (hb2 : Below (w1.alloc o).heap.size (w1.alloc o) w2) : Summed w (set8w w2 w1.heap.size b0 b1 b2 b3 b4 b5 b6 b7) txt w1.heap.size b0 b1 b2 b3 b4 b5 b6 b7 := by
  have hb1' : Below w.heap.size w w1 := ⟨hb1.os, hb1.tape, hb1.output, hb1.size, hb1.block⟩
  have hb : Below w.heap.size w w2 := (hb1'.alloc hb1'.size o).trans (hb2.mono (by have := hb1'.size; simp; omega))
  exact ⟨hb1'.size, HP, hz.set8 _ _ _ _ _ _ _ _, hb.grown (set8_grown _ _ _ _ _ _ _ _ _ _) hb.size (fun k hk => by injection hk with hk; have := hb1'.size; omega)⟩
theorem summedC {o : Obj} (HP : dW txt = [b0, b1, b2, b3, b4, b5, b6, b7]) (hz : Arr w2 w.heap.size 202 (List.replicate 8 0)) (hb1 : Below (w.drew.alloc o).heap.size (w.drew.alloc o) w1) (hb2 : Below w1.heap.size w1 w2) : Summed w (set8w w2 w.heap.size b0 b1 b2 b3 b4 b5 b6 b7) txt w.heap.size b0 b1 b2 b3 b4 b5 b6 b7 := by
  have hb0 : Below w.heap.size w (w.drew.alloc o) := (Below.refl _ _).drew.alloc (Nat.le_refl _) o
  have hb1' : Below w.heap.size w w1 := hb0.trans (hb1.mono (by simp))
  have hb : Below w.heap.size w w2 := hb1'.trans (hb2.mono hb1'.size)
  exact ⟨Nat.le_refl _, HP, hz.set8 _ _ _ _ _ _ _ _, hb.grown (set8_grown _ _ _ _ _ _ _ _ _ _) hb.size (fun k hk => by injection hk with hk; omega)⟩
end

set_option maxHeartbeats 2000000 in
set_option maxRecDepth 100000 in
theorem summed_calls (sb kb : Nat) (txt : List UInt8) (w : World) (h : StT w sb kb txt) (hsz : txt.length ≤ 1000000) :
    Calls Tryz.prog 103 #[.pointer (some ⟨sb, 0, none⟩)] w fun e w' => e = .returned (.string (dig txt)) ∧ Below w.heap.size w w' := by
  obtain ⟨rb, v, hst⟩ := h
  have hc10 := hst.cell 10 (.int .i64 (txt.length : Int)) (by rw [stCells, List.getElem?_append_right (by simp [hst.len])]; simp [hst.len])
  have hwd := cW_words txt
  obtain ⟨a0, a1, a2, a3, a4, a5, a6, a7, hce, l0, l1, l2, l3, l4, l5, l6, l7⟩ := eight (cW_length txt) hwd
  have hrl : (restW txt).length ≤ 1000000 := by rw [restW_length]; omega
  obtain ⟨q0, q1, q2, q3, q4, q5, q6, q7, q8, q9⟩ := hst.cells hce
  have hsb4 := hst.lt
  have hnb : ¬ (w.heap.size = sb) := by omega
  have hmm : txt.length ≤ 1000000000 := by omega
  have HST4 := Lib.hid hst
  have HCE := Lib.hid hce
  have HWD := Lib.hid hwd
  clear hst hce hwd
  go_enter Tryz.func103, Tryz.ntmps103
  go_upto_region 3 with (fail)
  go_cut [3] (fun p w' => ∃ (n3 b0 b1 b2 b3 b4 b5 b6 b7 : Nat), p = .pointer (some ⟨n3, 0, none⟩) ∧ Hid (Summed w w' txt n3 b0 b1 b2 b3 b4 b5 b6 b7))
  case first =>
    go_region_held3 (fun w' => w'.cell? ⟨sb, 0, none⟩ = some (.int .u32 (a0 : Int)) ∧ w'.cell? ⟨sb, 1, none⟩ = some (.int .u32 (a1 : Int)) ∧ w'.cell? ⟨sb, 2, none⟩ = some (.int .u32 (a2 : Int)) ∧ w'.cell? ⟨sb, 3, none⟩ = some (.int .u32 (a3 : Int)) ∧ w'.cell? ⟨sb, 4, none⟩ = some (.int .u32 (a4 : Int)) ∧ w'.cell? ⟨sb, 5, none⟩ = some (.int .u32 (a5 : Int)) ∧ w'.cell? ⟨sb, 6, none⟩ = some (.int .u32 (a6 : Int)) ∧ w'.cell? ⟨sb, 7, none⟩ = some (.int .u32 (a7 : Int)) ∧ w'.cell? ⟨sb, 8, none⟩ = some (.pointer (some ⟨kb, 0, none⟩)) ∧ w'.cell? ⟨sb, 9, none⟩ = some v ∧ w'.cell? ⟨sb, 10, none⟩ = some (.int .i64 (txt.length : Int)))
      (first | (go_keep; done) | exact S11.mk HS5.out HC5.out | exact S11.mk HS6.out HC6.out | exact S11.later (S11.mk HS5.out HC5.out) (Below.heap_alloc _ _ _ HST5.out.lt) | exact S11.later (S11.mk HS6.out HC6.out) (Below.heap_alloc _ _ _ HLT2.out))
      (first
        | (go_at_call 130; refine (end_calls rb v (restW txt) txt.length _ (by first | exact HST4.out.row.reads (by omega) | exact RB.alloc (HST4.out.row.reads (by omega)) _) hrl hmm).mono ?_; rintro e w1 ⟨v1, g, rfl, hr1, hb1⟩; have HRB1 := Lib.hid hr1; have HB1 := Lib.hid hb1; clear hr1 hb1; have HST5 : Hid (St w1 sb kb rb v (cW txt) (restW txt) txt.length) := (by first | exact Lib.hid (St.later (w := w.drew) (St.other HST4.out rfl rfl (fun _ => rfl)) HB1.out) | exact Lib.hid (St.later (w := w.drew.alloc _) (St.alloc (St.other (w' := w.drew) HST4.out rfl rfl (fun _ => rfl)) _) HB1.out)); have HS5 := Lib.hid (HST5.out.cells HCE.out); have HC5 := Lib.hid HST5.out.cell10; have hn1 : ¬ (w1.heap.size = sb) := (by have := HST5.out.lt; omega); try (have HZ : Hid (Arr w1 w.heap.size 202 (List.replicate 8 0)) := Lib.hid (Arr.below (w := w.drew.alloc _) (heap_alloc_new w.drew _) HB1.out (by simp))))
        | (go_at_call 129; refine (all_calls8 (cW txt) kb g v1 (endW (restW txt) txt.length) _ HCE.out HWD.out (by first | exact HST5.out.tab | exact HST5.out.tab.alloc _) (by first | exact HRB1.out | exact RB.alloc HRB1.out _)).mono ?_; rintro e w2 ⟨b0, b1, b2, b3, b4, b5, b6, b7, v', rfl, HP, HRB2, HB2⟩; have HST6 : Hid (St w2 sb kb rb v (cW txt) (restW txt) txt.length) := (by first | exact Lib.hid (St.later HST5.out HB2.out) | exact Lib.hid (St.later (St.alloc HST5.out _) HB2.out)); have HS6 := Lib.hid (HST6.out.cells HCE.out); have HC6 := Lib.hid HST6.out.cell10; have HLT2 := Lib.hid HST6.out.lt; first | (have HZ2 : Hid (Arr w2 w.heap.size 202 (List.replicate 8 0)) := Lib.hid (HZ.out.below HB2.out HZ.out.lt); obtain ⟨z0, z1, z2, z3, z4, z5, z6, z7, f0, f1, f2, f3, f4, f5, f6, f7⟩ := HZ2.out.cells8) | (have HZ2 : Hid (Arr w2 w1.heap.size 202 (List.replicate 8 0)) := Lib.hid (Arr.below (w := w1.alloc _) (heap_alloc_new w1 _) HB2.out (by simp)); obtain ⟨z0, z1, z2, z3, z4, z5, z6, z7, f0, f1, f2, f3, f4, f5, f6, f7⟩ := HZ2.out.cells8) | skip))
    all_goals (go_wp2_with fail; go_meet; refine ⟨_, b0, b1, b2, b3, b4, b5, b6, b7, rfl, ?_⟩)
    all_goals first
      | (have hz : Hid (Arr w2 w.heap.size 202 (List.replicate 8 0)) := HZ2
         with_reducible refine Lib.hid (?_ : Summed w _ txt w.heap.size b0 b1 b2 b3 b4 b5 b6 b7)
         exact summedC HP.out hz.out HB1.out HB2.out)
      | (have hz : Hid (Arr w2 w1.heap.size 202 (List.replicate 8 0)) := HZ2
         with_reducible refine Lib.hid (?_ : Summed w _ txt w1.heap.size b0 b1 b2 b3 b4 b5 b6 b7)
         exact summedB HP.out hz.out HB1.out HB2.out)
      | (with_reducible refine Lib.hid (?_ : Summed w _ txt w2.heap.size b0 b1 b2 b3 b4 b5 b6 b7)
         exact summedA HP.out HB1.out HB2.out)
  case rest =>
    obtain ⟨n3, b0, b1, b2, b3, b4, b5, b6, b7, rfl, HPC⟩ := hcut
    have hpc := HPC.out
    obtain ⟨hn3, hdw, har, hbl⟩ := hpc
    obtain ⟨y0, y1, y2, y3, y4, y5, y6, y7⟩ := har.cellsL
    have hw8 : Words [b0, b1, b2, b3, b4, b5, b6, b7] := by rw [← hdw]; exact dW_words _
    have lt : ∀ x, x ∈ [b0, b1, b2, b3, b4, b5, b6, b7] → x < 4294967296 := hw8
    simp only [List.mem_cons, List.not_mem_nil, or_false, forall_eq_or_imp, forall_eq] at lt
    obtain ⟨m0, m1, m2, m3, m4, m5, m6, m7⟩ := lt
    have HDW := Lib.hid hdw
    have HBL := Lib.hid hbl
    have HO : Hid (OB wc w.heap.size (.slice none 0 0) []) := Lib.hid (OB.nil wc w.heap.size)
    clear hdw har hbl hw8 q0 q1 q2 q3 q4 q5 q6 q7 q8 q9 hc10 hnb
    go_wp2
    go_loopw [5, 32] (fun u i wr => ∃ (j : Nat), i = .int .i64 (j : Int) ∧ j ≤ 8 ∧ Hid (OB wr w.heap.size u (digB ([b0, b1, b2, b3, b4, b5, b6, b7].take j))) ∧ Hid (Below w.heap.size w wr)) (fun _ i _ => (8 - intOf i).toNat)
    case atStart => exact ⟨0, rfl, by omega, HO, HBL⟩
    case round =>
      clear HO HBL
      obtain ⟨j, rfl, hj, HO, HB⟩ := hrel
      have hbw := HB.out.size
      by_cases hlt : j < 8
      · have hidx := run_index_words (P := Tryz.prog) 202 200 8 Tryz.underlying202 sizeU32 aggU32 [b0, b1, b2, b3, b4, b5, b6, b7] rfl j hlt
        have hsn : digB ([b0, b1, b2, b3, b4, b5, b6, b7].take (j + 1)) = digB ([b0, b1, b2, b3, b4, b5, b6, b7].take j) ++ be4 ([b0, b1, b2, b3, b4, b5, b6, b7].getD j 0) := digB_take _ j hlt
        obtain ⟨x, hx⟩ : ∃ x, [b0, b1, b2, b3, b4, b5, b6, b7].getD j 0 = x := ⟨_, rfl⟩
        rw [hx] at hidx hsn
        have hj0 : (j : Int) < 8 := by omega
        have HSN := Lib.hid hsn
        clear hsn hx
        simp only [List.map_cons, List.map_nil, wv] at hidx
        have HRL := Lib.hid (RB.lit wr (be4 x) #[.int .u8 ((x : Int) / 16777216 % 256), .int .u8 ((x : Int) / 65536 % 256), .int .u8 ((x : Int) / 256 % 256), .int .u8 ((x : Int) % 256)] (be4_cells x) 4 rfl (by simp [be4]))
        have hlen : (digB ([b0, b1, b2, b3, b4, b5, b6, b7].take j)).length ≤ 32 := by
          have e : ∀ l : List Nat, (digB l).length = 4 * l.length := digB_length
          rw [e, List.length_take]; simp; omega
        have HLEN := Lib.hid hlen
        clear hlen
        go_wp2_with (at_builtin; refine OB.append_on (base := w.heap.size) (w := wr.alloc _) (OB.alloc HO.out _) HRL.out rfl _ _ rfl rfl rfl (by simp; omega) (by have := HLEN.out; simp [be4]; omega) ?_; intro v1 w1 h1 hg1 hat1)
        go_roundw
        case rel =>
          refine ⟨j + 1, by go_num, by omega, ?_, Lib.hid ((HB.out.alloc hbw _).grown hg1 (by simp; omega) (OB.base HO.out))⟩
          rw [HSN.out]
          exact h1
        case measure => simp [intOf]; omega
      · obtain rfl : j = 8 := by omega
        rw [show (((8 : Nat) : Int)) = 8 from rfl]
        obtain ⟨g2, hr2, -⟩ := HO.out.reads
        have hcv := hr2.string_run
        have hd : (⟨(digB ([b0, b1, b2, b3, b4, b5, b6, b7].take 8)).toArray⟩ : ByteArray) = dig txt := by
          unfold dig
          rw [HDW.out]; rfl
        rw [hd] at hcv
        clear hd hr2 hj hlt
        have HB2 := Lib.hid HB.out
        go_wp2
        go_ret
        exact ⟨rfl, HB2.out⟩
end Go.Proofs.YtjokfllldcjheaaGreatDoor.Sha
/- SHA-256: sha.New as a state of nothing, sha.Sum. -/
namespace Go.Proofs.YtjokfllldcjheaaGreatDoor.Sha
open Go.RowKit
set_option linter.unusedVariables false
set_option linter.unusedSimpArgs false

theorem cW_nil : cW [] = H8 := rfl
theorem restW_nil : restW [] = [] := rfl
theorem StT.lt {w : World} {sb kb : Nat} {txt : List UInt8} (h : StT w sb kb txt) : sb < w.heap.size := by
  obtain ⟨rb, v, h⟩ := h
  exact h.lt
theorem StT.later {w w' : World} {sb kb : Nat} {txt : List UInt8} (h : StT w sb kb txt) (hb : Below w.heap.size w w') : StT w' sb kb txt := by
  obtain ⟨rb, v, h⟩ := h
  exact ⟨rb, v, h.later hb⟩
theorem newT_calls (w : World) :
    Calls Tryz.prog 101 #[] w fun e w' => e = .returned (.pointer (some ⟨w.heap.size + 1, 0, none⟩)) ∧ Hid (StT w' (w.heap.size + 1) w.heap.size []) ∧ Hid (Below w.heap.size w w') :=
  (new_calls w).mono fun _ _ ⟨he, hs, hb⟩ => ⟨he, ⟨_, _, hs⟩, hb⟩
theorem SR.later {w w' : World} {g : Nat} {v : Value} {ss : List ByteArray} (h : SR w g v ss) (hb : Below w.heap.size w w') : SR w' g v ss := by
  obtain ⟨A, c, hv, h1, h2, h3⟩ := h
  refine ⟨A, c, hv, h1, h2, fun h => ?_⟩
  obtain ⟨ad, ha, hbk, hc⟩ := h3 h
  exact ⟨ad, ha, hbk, fun i hi => (hb.cell (World.block_lt_of_cell? _ _ (hc i hi))).trans (hc i hi)⟩
theorem SR.lt {w : World} {g : Nat} {v : Value} {ss : List ByteArray} (h : SR w g v ss) : ss = [] ∨ g < w.heap.size := by
  obtain ⟨A, c, hv, h1, h2, h3⟩ := h
  by_cases e : ss = []
  · exact .inl e
  · right
    obtain ⟨ad, ha, hbk, hc⟩ := h3 (List.length_pos_iff.2 e)
    rw [← hbk]
    have := hc 0 (List.length_pos_iff.2 e)
    have := World.block_lt_of_cell? _ _ this
    rwa [Addr.add_block] at this
/-- of what block a slice of no texts is told does not matter -/
theorem SR.move {w : World} {g : Nat} {v : Value} {ss : List ByteArray} (h : SR w g v ss) (g' : Nat) (he : ss = []) : SR w g' v ss := by
  obtain ⟨A, c, hv, h1, h2, h3⟩ := h
  exact ⟨A, c, hv, h1, h2, fun h => by subst he; simp at h⟩

set_option maxRecDepth 100000 in
theorem sum_calls (g : Nat) (lv : Value) (ss : List ByteArray) (w : World) (hl : SR w g lv ss) (hsz : (cat ss).length ≤ 1000000) :
    Calls Tryz.prog 67 #[lv] w fun e w' => e = .returned (.string (dig (cat ss))) ∧ Below w.heap.size w w' := by
  obtain ⟨g', hg', hne⟩ : ∃ g', SR w g' lv ss ∧ g' ≠ w.heap.size + 1 := by
    rcases hl.lt with e | h
    · exact ⟨0, hl.move 0 e, by omega⟩
    · exact ⟨g, hl, by omega⟩
  have HL := Lib.hid hg'
  clear hl hg'
  have HSZ := Lib.hid hsz
  clear hsz
  go_enter Tryz.func67, Tryz.ntmps67
  go_wp2_with (first
    | (go_at_call 101; refine (newT_calls w).mono ?_; rintro e w1 ⟨rfl, HS1, HB1⟩)
    | (go_at_call 102; refine (write_calls (w.heap.size + 1) w.heap.size g' [] lv ss w1 HS1.out (HL.out.later HB1.out) hne (by simpa using HSZ.out)).mono ?_; rintro e w2 ⟨rfl, hs2, hg2⟩; have HS2 := Lib.hid hs2; have HG2 := Lib.hid hg2; clear hs2 hg2)
    | (go_at_call 103; refine (summed_calls (w.heap.size + 1) w.heap.size _ w2 HS2.out (by simpa using HSZ.out)).mono ?_; rintro e w3 ⟨rfl, hb3⟩; have HB3 := Lib.hid hb3; clear hb3))
  go_ret
  refine ⟨by simp, ?_⟩
  have h1 := HB1.out
  have h2 : Below w.heap.size w w2 := h1.grown HG2.out h1.size (fun k hk => by injection hk with hk; omega)
  exact h2.trans (HB3.out.mono h2.size)
end Go.Proofs.YtjokfllldcjheaaGreatDoor.Sha
/- SHA-256: sha.Hex. -/
namespace Go.Proofs.YtjokfllldcjheaaGreatDoor.Sha
open Go.RowKit
set_option linter.unusedVariables false
set_option linter.unusedSimpArgs false

/-- a number's digit -/
def dgt (x : Nat) : UInt8 := [48, 49, 50, 51, 52, 53, 54, 55, 56, 57, 97, 98, 99, 100, 101, 102].getD x 0
def hexB (bs : List UInt8) : List UInt8 := bs.flatMap fun b => [dgt (b.toNat / 16), dgt (b.toNat % 16)]
def hexS (s : ByteArray) : ByteArray := ⟨(hexB s.data.toList).toArray⟩
theorem hexB_take (bs : List UInt8) (j : Nat) (h : j < bs.length) : hexB (bs.take (j + 1)) = hexB (bs.take j) ++ [dgt (byt bs j / 16), dgt (byt bs j % 16)] := by
  unfold hexB
  rw [List.take_succ_eq_append_getElem h, List.flatMap_append]
  congr 1
  simp [byt, h]
theorem hexB_length (bs : List UInt8) : (hexB bs).length = 2 * bs.length := by
  induction bs with
  | nil => rfl
  | cons x bs ih =>
    unfold hexB at ih ⊢
    rw [List.flatMap_cons, List.length_append, ih]
    simp; omega
/-- the append at a step of a region that draws -/
theorem OB.append_wp {o : Oper} {a : Act} {w : World} {K : Act → World → Prop} {Q : Exit → Act → World → Prop} {E : Prop} {ops : Array Oper} {base : Nat} {v : Value} {xs : List UInt8} (HO : OB w base v xs) {g : Nat} {y : Value} {ys : List UInt8} (HR : RB w g y ys) (hgd : o.guard = none) (s x : Operand)
    (ho : o.op = .call { callee := .builtin .append, args := #[s, x], argTypes := #[128, 128] }) (hs : a.eval s = v) (hx : a.eval x = y)
    (hbase : base ≤ w.heap.size) (hl : xs.length + ys.length ≤ 140737488355328)
    (k : ∀ v1 w1, OB w1 base v1 (xs ++ ys) → w.grownBy w1 v.ownBlock → K (a.put o.dst v1) w1) : if Region.wanted o (yielded ops a.tmps) = true then Oper.wp Tryz.prog o a w K Q else E := by
  obtain ⟨v1, w1, hr, k2, k3, k5⟩ := OB.append_run HO HR o.type hbase hl
  exact Sha.append_wp hgd s x _ _ ho hs hx hr (k v1 w1 k2 k3)

/-- a byte of a text -/
theorem run_index_byte {P : Program} (t : TypeId) (h : P.underlying t = some .string) (s : ByteArray) (j : Nat) (hj : j < s.size) (k : IntKind) (w : World) :
    (Instr.index t (.string s) (.int k (j : Int))).run P w = .ok (.int .u8 ((byt s.data.toList j : Nat) : Int)) w := by
  have hj2 : j < s.data.size := hj
  rw [run_index_string w t s k j h]
  rw [dif_pos (by omega)]
  have e : s[(j : Int).toNat]'(by simpa using hj) = s.data.toList.getD j 0 := by
    simp [List.getD_eq_getElem?_getD, hj2, ByteArray.getElem_eq_getElem_data]
    rw [Array.getElem?_eq_getElem hj2]; rfl
  rw [e]; rfl
theorem run_index_digit {P : Program} (t : TypeId) (h : P.underlying t = some .string) (j : Nat) (hj : j < 16) (k : IntKind) (w : World) :
    (Instr.index t (.string ⟨#[48, 49, 50, 51, 52, 53, 54, 55, 56, 57, 97, 98, 99, 100, 101, 102]⟩) (.int k (j : Int))).run P w = .ok (.int .u8 (((dgt j).toNat : Nat) : Int)) w :=
  run_index_byte t h ⟨#[48, 49, 50, 51, 52, 53, 54, 55, 56, 57, 97, 98, 99, 100, 101, 102]⟩ j hj k w

set_option maxRecDepth 100000 in
theorem and15 : ∀ x, x < 256 → bits .and .u8 ((x : Nat) : Int) 15 = (x : Int) % 16 := by decide

end Go.Proofs.YtjokfllldcjheaaGreatDoor.Sha
/- SHA-256: the document's example, reckoned by the kernel. -/
namespace Go.Proofs.YtjokfllldcjheaaGreatDoor.Sha
open Go.RowKit
set_option linter.unusedVariables false
set_option linter.unusedSimpArgs false

set_option maxRecDepth 100000 in
theorem dig_abc : hexB (digB (dW [97, 98, 99])) = [98, 97, 55, 56, 49, 54, 98, 102, 56, 102, 48, 49, 99, 102, 101, 97, 52, 49, 52, 49, 52, 48, 100, 101, 53, 100, 97, 101, 50, 50, 50, 51, 98, 48, 48, 51, 54, 49, 97, 51, 57, 54, 49, 55, 55, 97, 57, 99, 98, 52, 49, 48, 102, 102, 54, 49, 102, 50, 48, 48, 49, 53, 97, 100] := by
  decide +kernel

/-- the texts of a row that was laid for a call -/
theorem SR.lit (w : World) (ss : List ByteArray) (cs : Array Value) (hcs : cs = (ss.map Value.string).toArray) (n : Nat) (hn : n = ss.length) (h : ss.length ≤ 9223372036854775807) : SR (w.alloc (.cells cs 9)) w.heap.size (.slice (some ⟨w.heap.size, 0, none⟩) n n) ss := by
  subst hcs hn
  refine ⟨_, _, rfl, Nat.le_refl _, h, fun _ => ⟨_, rfl, rfl, fun i hi => ?_⟩⟩
  rw [show (⟨w.heap.size, 0, none⟩ : Addr).add i = ⟨w.heap.size, 0 + i, none⟩ by unfold Addr.add; split <;> simp_all, cell_of_row _ w.heap.size (0 + i) _ 9 (0, 0) (heap_alloc_new w _)]
  simp [hi]
theorem cat_one (s : ByteArray) : cat [s] = s.data.toList := by simp [cat]

end Go.Proofs.YtjokfllldcjheaaGreatDoor.Sha
/- A slice of texts among a law's arguments, as the walks ask it; the law ShaGoes, walked. -/
namespace Go.Proofs.YtjokfllldcjheaaGreatDoor.Sha
open Go.RowKit
set_option linter.unusedVariables false
set_option linter.unusedSimpArgs false

theorem weightsAll_mem {H : Type} {P : Program} {e : TypeId} : ∀ {l : List (DataW H)} {d : DataW H}, d ∈ l → ∀ n ∈ d.weights P e, n ∈ DataW.weightsAll P e l
  | d' :: r, d, hd, n, hn => by
    simp only [DataW.weightsAll, List.mem_append]
    rcases List.mem_cons.1 hd with rfl | h
    · exact Or.inl hn
    · exact Or.inr (weightsAll_mem h n hn)
open Go.ChangeShapes Go.WideShapes in
theorem strs_open {H : Type} {enc : TypeId × Value → H} {P : Program} {W : World} {base : Nat} {spare : Nat → Bool} {held : Bool} {ts : List TypeId} {ds : List (DataW H)} (hsz : (DataW.weightsEach P ts ds).all (· ≤ reachBytes) = true) {j : Nat} {t e : TypeId} (htj : ts[j]? = some t) {d : DataW H} (hdj : ds[j]? = some d)
    (hu : P.underlying t = some (.slice e)) (he : P.underlying e = some .string) (hc : P.cellsOf e = 1) {a : Option Addr} {len cap : Nat} {cs : List Value} (hcs0 : cs = [.slice a len cap]) {fuel : Nat} {p : List MemPlace} (h : DataW.trod enc P W base spare held fuel t cs = some (d, p)) :
    ∃ g ss, SR W g (.slice a len cap) ss ∧ ∀ s ∈ ss, s.size ≤ 140737488351232 := by
  rcases open_strings hu he hc h with ⟨hcs, hx⟩ | ⟨x, l, c, zs, hcs, _, hl, hm, hz, hx, hcell, hwz⟩
  · rw [hcs0] at hcs
    injection hcs with hcs _
    injection hcs with h1 h2 h3
    subst h1 h2 h3
    exact ⟨0, [], ⟨none, 0, rfl, Nat.le_refl _, by omega, fun h => by simp at h⟩, by simp⟩
  · rw [hcs0] at hcs
    injection hcs with hcs _
    injection hcs with h1 h2 h3
    subst h1 h2 h3
    have hlz : len ≤ zs.length := by rw [hz]; split <;> omega
    refine ⟨x.block, zs.take len, ⟨some x, cap, by rw [List.length_take, Nat.min_eq_left hlz], by rw [List.length_take]; omega, by simpa [maxLen] using hm, fun h => ⟨x, rfl, rfl, fun i hi => ?_⟩⟩, fun s hs => ?_⟩
    · rw [List.length_take] at hi
      rw [hcell i (by omega)]
      simp [List.getD_eq_getElem?_getD, List.getElem?_take_of_lt (show i < len by omega)]
    · injection hx with hd _
      subst hd
      have hmem : (DataW.lit (.string s.data.toList) : DataW H) ∈ strs (zs.take len) := by
        unfold strs
        exact List.mem_map.2 ⟨s, hs, rfl⟩
      have := List.all_eq_true.1 hsz _ (DataW.weights_mem_each htj hdj s.data.toList.length (by
        simp only [DataW.weights, hu, List.mem_cons, List.mem_append]
        exact Or.inr (Or.inl (weightsAll_mem hmem _ (by simp [DataW.weights])))))
      have h2 := of_decide_eq_true this
      rw [Array.length_toList] at h2
      exact h2

theorem dig_size (t : List UInt8) : (dig t).size = 32 := by
  show (digB _).toArray.size = _
  rw [List.size_toArray, digB_length, dW_length]
theorem ss_getD {ss : List ByteArray} (h : ∀ s ∈ ss, s.size ≤ 140737488351232) (k : Nat) : (ss.getD k ByteArray.empty).size ≤ 140737488351232 := by
  by_cases hk : k < ss.length
  · have : ss.getD k ByteArray.empty = ss[k] := by simp [List.getD_eq_getElem?_getD, hk]
    rw [this]
    exact h _ (List.getElem_mem hk)
  · have : ss.getD k ByteArray.empty = ByteArray.empty := by simp [List.getD_eq_getElem?_getD, List.getElem?_eq_none (Nat.le_of_not_lt hk)]
    rw [this]; simp
theorem append_bytes (a b : ByteArray) : (a ++ b).data.toList = a.data.toList ++ b.data.toList := by simp
theorem append_sz (a b : ByteArray) : (a ++ b).size = a.size + b.size := ByteArray.size_append
theorem toList_len (b : ByteArray) : b.data.toList.length = b.size := by rw [Array.length_toList]; rfl

end Go.Proofs.YtjokfllldcjheaaGreatDoor.Sha
