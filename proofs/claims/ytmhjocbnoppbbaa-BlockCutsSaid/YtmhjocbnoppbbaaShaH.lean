/- SHA-256: the method Write of sha.State writes texts. -/
import Derived.Test.YtmhjocbnoppbbaaShaG
import Derived.Deep.OwnRows
namespace Go.Proofs.Ytmhjocbnoppbbaa.Sha
open Go.RowKit
set_option linter.unusedVariables false
set_option linter.unusedSimpArgs false

/-- all texts' bytes, one behind the other -/
def cat (ss : List ByteArray) : List UInt8 := ss.flatMap fun s => s.data.toList
theorem cat_take (ss : List ByteArray) (k : Nat) (h : k < ss.length) : cat (ss.take (k + 1)) = cat (ss.take k) ++ (ss.getD k ByteArray.empty).data.toList := by
  unfold cat
  rw [List.take_succ_eq_append_getElem h, List.flatMap_append]
  congr 1
  simp [List.getD_eq_getElem?_getD, h]
theorem cat_take_le (ss : List ByteArray) (k : Nat) : (cat (ss.take k)).length ≤ (cat ss).length := by
  unfold cat
  conv => rhs; rw [← List.take_append_drop k ss]
  rw [List.flatMap_append, List.length_append]
  omega
/-- v is a slice, in block g, that reads as the texts ss -/
def SR (w : World) (g : Nat) (v : Value) (ss : List ByteArray) : Prop :=
  ∃ A c, v = .slice A ss.length c ∧ ss.length ≤ c ∧ c ≤ 9223372036854775807 ∧ (0 < ss.length → ∃ ad : Addr, A = some ad ∧ ad.block = g ∧ ∀ i, i < ss.length → w.cell? (ad.add i) = some (.string (ss.getD i ByteArray.empty)))
theorem Addr.add_block (a : Addr) (i : Nat) : (a.add i).block = a.block := by unfold Addr.add; split <;> rfl
theorem SR.kept {w w' : World} {g : Nat} {v : Value} {ss : List ByteArray} (h : SR w g v ss) {row : Option Nat} (hg : w.grownBy w' row) (hr : some g ≠ row) : SR w' g v ss := by
  obtain ⟨A, c, hv, h1, h2, h3⟩ := h
  refine ⟨A, c, hv, h1, h2, fun h => ?_⟩
  obtain ⟨ad, ha, hb, hc⟩ := h3 h
  exact ⟨ad, ha, hb, fun i hi => hg.cell (hc i hi) (by rw [Addr.add_block, hb]; exact hr)⟩
/-- the state that has taken a text -/
def StT (w : World) (sb kb : Nat) (txt : List UInt8) : Prop := ∃ rb v, St w sb kb rb v (cW txt) (restW txt) txt.length

set_option maxHeartbeats 2000000 in
set_option maxRecDepth 100000 in
theorem write_calls (sb kb lb : Nat) (txt : List UInt8) (lv : Value) (ss : List ByteArray) (w : World) (h : StT w sb kb txt) (hl : SR w lb lv ss) (hne : lb ≠ sb) (hsz : txt.length + (cat ss).length ≤ 1000000) :
    Calls Try.prog 19 #[.pointer (some ⟨sb, 0, none⟩), lv] w fun e w' => e = .returned (.tuple #[]) ∧ StT w' sb kb (txt ++ cat ss) ∧ w.grownBy w' (some sb) := by
  have hl' := hl
  obtain ⟨A, cp, rfl, hcp, hcm, hread⟩ := hl
  have HT := Lib.hid h
  have HL := Lib.hid hl'
  clear h hl' hread
  obtain ⟨len, hlen⟩ : ∃ len, ss.length = len := ⟨_, rfl⟩
  rw [hlen] at hcp HL ⊢
  have HLEN := Lib.hid hlen
  clear hlen
  go_enter Try.func19, Try.ntmps19
  go_wp2
  go_loopw [12] (fun i wr => ∃ k : Nat, k ≤ len ∧ i = .int .i64 k ∧ Hid (StT wr sb kb (txt ++ cat (ss.take k))) ∧ Hid (w.grownBy wr (some sb))) (fun i _ => len - (intOf i).toNat)
  case atStart => exact ⟨0, by omega, rfl, by simpa [Hid, cat] using HT, Lib.hid (World.grownBy.refl w _)⟩
  case round =>
    obtain ⟨k, hk, rfl, HS, HG⟩ := hrel
    by_cases hlt : k < len
    · have hl1 := HL.out.kept HG.out (by intro e; injection e with e; exact hne e)
      obtain ⟨A', c', hv', -, -, hread⟩ := hl1
      rw [HLEN.out] at hread hv'
      obtain ⟨ad, hA, -, hcell⟩ := hread (by omega)
      injection hv' with hv' _ hcc
      subst hcc
      rw [← hv'] at hA
      subst hA
      have ct := hcell k hlt
      have hsn := cat_take ss k (by rw [HLEN.out]; exact hlt)
      have hle := cat_take_le ss (k + 1)
      obtain ⟨s, hs⟩ : ∃ s, ss.getD k ByteArray.empty = s := ⟨_, rfl⟩
      rw [hs] at ct hsn
      obtain ⟨tx, htx⟩ : ∃ tx, txt ++ cat (ss.take k) = tx := ⟨_, rfl⟩
      have hnew : txt ++ cat (ss.take (k + 1)) = tx ++ s.data.toList := by rw [hsn, ← htx, List.append_assoc]
      have hssz : s.data.toList.length = s.size := by rw [Array.length_toList]; rfl
      have htl : tx.length + s.size ≤ 1000000 := by
        have := congrArg List.length hnew
        rw [List.length_append, List.length_append, hssz] at this
        omega
      rw [htx] at HS
      have HN := Lib.hid hnew
      clear hcell hv' hsn hle hs htx hnew hssz
      obtain ⟨rb, v, hst⟩ := HS.out
      have hc10 := hst.cell 10 (.int .i64 (tx.length : Int)) (by rw [stCells, List.getElem?_append_right (by simp [hst.len])]; simp [hst.len])
      have hf10 := hst.frozen 10
      have HST := Lib.hid hst
      clear hst
      have k0 : (0 : Int) ≤ (k : Int) := by omega
      have k1 : (k : Int) < (len : Int) := by omega
      go_upto_region 5 with (fail)
      have hst4 : St (wr.setCell ⟨sb, 10, none⟩ (.int .i64 ((tx.length : Int) + (s.size : Int)))) sb kb rb v (cW tx) (restW tx) (tx.length + s.size) := by
        have := HST.out.setM HST.out.ne_row (tx.length + s.size)
        simpa using this
      have hg4 : w.grownBy (wr.setCell ⟨sb, 10, none⟩ (.int .i64 ((tx.length : Int) + (s.size : Int)))) (some sb) := HG.out.trans (grown_setCell wr ⟨sb, 10, none⟩ _)
      generalize wr.setCell ⟨sb, 10, none⟩ (.int .i64 ((tx.length : Int) + (s.size : Int))) = w4 at hst4 hg4 ⊢
      clear hc10 hf10 HST HG HS
      have hwd := cW_words tx
      obtain ⟨a0, a1, a2, a3, a4, a5, a6, a7, hce, l0, l1, l2, l3, l4, l5, l6, l7⟩ := eight (cW_length tx) hwd
      have hrl : (restW tx).length + s.size ≤ 140737488355328 := by rw [restW_length]; omega
      obtain ⟨q0, q1, q2, q3, q4, q5, q6, q7, q8, q9⟩ := hst4.cells hce
      have hsb4 := hst4.lt
      have hnb : ¬ (w4.heap.size = sb) := by omega
      have HST4 := Lib.hid hst4
      have HG4 := Lib.hid hg4
      have HCE := Lib.hid hce
      have HWD := Lib.hid hwd
      clear hst4 hg4 hce hwd
      go_cut [6, 7] (fun p q w' => ∃ (n6 g b0 b1 b2 b3 b4 b5 b6 b7 : Nat), p = .pointer (some ⟨n6, 0, none⟩) ∧ Hid (Piece sb w4 w' tx s.data.toList n6 g q b0 b1 b2 b3 b4 b5 b6 b7))
      case first =>
        go_region_held3 (fun w' => w'.cell? ⟨sb, 0, none⟩ = some (.int .u32 (a0 : Int)) ∧ w'.cell? ⟨sb, 1, none⟩ = some (.int .u32 (a1 : Int)) ∧ w'.cell? ⟨sb, 2, none⟩ = some (.int .u32 (a2 : Int)) ∧ w'.cell? ⟨sb, 3, none⟩ = some (.int .u32 (a3 : Int)) ∧ w'.cell? ⟨sb, 4, none⟩ = some (.int .u32 (a4 : Int)) ∧ w'.cell? ⟨sb, 5, none⟩ = some (.int .u32 (a5 : Int)) ∧ w'.cell? ⟨sb, 6, none⟩ = some (.int .u32 (a6 : Int)) ∧ w'.cell? ⟨sb, 7, none⟩ = some (.int .u32 (a7 : Int)) ∧ w'.cell? ⟨sb, 8, none⟩ = some (.pointer (some ⟨kb, 0, none⟩)) ∧ w'.cell? ⟨sb, 9, none⟩ = some v)
          (first | (go_keep; done) | exact HS5.out | exact HS6.out | exact S10.later HS5.out (Below.heap_alloc _ _ _ HST5.out.lt) | exact S10.later HS6.out (Below.heap_alloc _ _ _ HLT2.out))
          (first
            | (refine exact_append_wp (ops := _) rfl _ _ (by rfl) v sb rb (restW tx) s (by rfl) (by rfl) hrl (by first | exact HST4.out.row | exact HST4.out.row.alloc _) ?_; intro g v1 w1 HRB1 HB1 HG1; have HST5 : Hid (St w1 sb kb rb v (cW tx) (restW tx) (tx.length + s.size)) := (by first | exact Lib.hid (St.later (w := w4.drew) (St.other HST4.out rfl rfl (fun _ => rfl)) HB1.out) | exact Lib.hid (St.later (w := w4.drew.alloc _) (St.alloc (St.other (w' := w4.drew) HST4.out rfl rfl (fun _ => rfl)) _) HB1.out)); have HS5 := Lib.hid (HST5.out.cells HCE.out); have hn1 : ¬ (w1.heap.size = sb) := (by have := HST5.out.lt; omega); try (have HZ : Hid (Arr w1 w4.heap.size 61 (List.replicate 8 0)) := Lib.hid (Arr.below (w := w4.drew.alloc _) (heap_alloc_new w4.drew _) HB1.out (by simp))))
            | (go_at_call 41; refine (all_calls8 (cW tx) kb g v1 (restW tx ++ s.data.toList) _ HCE.out HWD.out (by first | exact HST5.out.tab | exact HST5.out.tab.alloc _) (by first | exact HRB1.out | exact RB.alloc HRB1.out _)).mono ?_; rintro e w2 ⟨b0, b1, b2, b3, b4, b5, b6, b7, v', rfl, HP, HRB2, HB2⟩; have HST6 : Hid (St w2 sb kb rb v (cW tx) (restW tx) (tx.length + s.size)) := (by first | exact Lib.hid (St.later HST5.out HB2.out) | exact Lib.hid (St.later (St.alloc HST5.out _) HB2.out)); have HS6 := Lib.hid (HST6.out.cells HCE.out); have HLT2 := Lib.hid HST6.out.lt; first | (have HZ2 : Hid (Arr w2 w4.heap.size 61 (List.replicate 8 0)) := Lib.hid (HZ.out.below HB2.out HZ.out.lt); obtain ⟨z0, z1, z2, z3, z4, z5, z6, z7, f0, f1, f2, f3, f4, f5, f6, f7⟩ := HZ2.out.cells8) | (have HZ2 : Hid (Arr w2 w1.heap.size 61 (List.replicate 8 0)) := Lib.hid (Arr.below (w := w1.alloc _) (heap_alloc_new w1 _) HB2.out (by simp)); obtain ⟨z0, z1, z2, z3, z4, z5, z6, z7, f0, f1, f2, f3, f4, f5, f6, f7⟩ := HZ2.out.cells8) | skip))
        all_goals (go_wp2_with fail; go_meet; refine ⟨_, g, b0, b1, b2, b3, b4, b5, b6, b7, rfl, ?_⟩)
        all_goals first
          | (have hz : Hid (Arr w2 w4.heap.size 61 (List.replicate 8 0)) := HZ2
             with_reducible refine Lib.hid (?_ : Piece sb w4 _ tx s.data.toList w4.heap.size g v' b0 b1 b2 b3 b4 b5 b6 b7)
             exact pieceC hsb4 HP.out HG1.out HST4.out.row HRB2.out hz.out HB1.out HB2.out)
          | (have hz : Hid (Arr w2 w1.heap.size 61 (List.replicate 8 0)) := HZ2
             with_reducible refine Lib.hid (?_ : Piece sb w4 _ tx s.data.toList w1.heap.size g v' b0 b1 b2 b3 b4 b5 b6 b7)
             exact pieceB hsb4 HST4.out.row HG1.out HP.out HRB1.out.lt rfl HRB2.out hz.out HB1.out HB2.out)
          | (with_reducible refine Lib.hid (?_ : Piece sb w4 _ tx s.data.toList w2.heap.size g v' b0 b1 b2 b3 b4 b5 b6 b7)
             exact pieceA hsb4 HST4.out.row HG1.out HP.out HRB2.out HB1.out HB2.out)
      case rest =>
        obtain ⟨n6, g, b0, b1, b2, b3, b4, b5, b6, b7, rfl, HPC⟩ := hcut
        have hpc := HPC.out
        obtain ⟨hgne, hn6, hcw2, har, hrb2, hbl⟩ := hpc
        have hst6 := St.later HST4.out hbl
        have hg6 := HG4.out.trans (grown_below hbl (some sb))
        obtain ⟨y0, y1, y2, y3, y4, y5, y6, y7⟩ := har.cellsL
        have hw8 : Words [b0, b1, b2, b3, b4, b5, b6, b7] := by rw [← hcw2]; exact cW_words _
        obtain ⟨p0, p1, p2, p3, p4, p5, p6, p7, p8, p9⟩ := hst6.cells HCE.out
        have e0 := hst6.frozen 0
        have e1 := hst6.frozen 1
        have e2 := hst6.frozen 2
        have e3 := hst6.frozen 3
        have e4 := hst6.frozen 4
        have e5 := hst6.frozen 5
        have e6 := hst6.frozen 6
        have e7 := hst6.frozen 7
        have e9 := hst6.frozen 9
        have hsb6 := hst6.lt
        have hn6lt := har.lt
        have hk1 : ¬ (wc.heap.size = sb) := by omega
        have hk2 : ¬ (wc.heap.size = n6) := by omega
        have hk3 : ¬ (n6 = sb) := by omega
        have hk4 : ¬ (sb = n6) := by omega
        have hrb3 := hrb2
        obtain ⟨A2, c2, o2, rfl, hc2, hc3, -⟩ := hrb2
        have hlr : (restW (tx ++ s.data.toList)).length < 64 := by rw [restW_length]; omega
        obtain ⟨n, hn⟩ : ∃ n, (restW (tx ++ s.data.toList)).length = n := ⟨_, rfl⟩
        rw [hn] at hlr hc2 hrb3 ⊢
        have hmk := run_make_row' (P := Try.prog) 64 5 (.int .u8 0) 1 Try.underlying64 infoU8 rfl .i64 .i64 n (by omega) (by omega)
        have HST6 := Lib.hid hst6
        have HG6 := Lib.hid hg6
        have HRB3 := Lib.hid hrb3
        have HW8 := Lib.hid hw8
        have HGNE := Lib.hid hgne
        have HCW2 := Lib.hid hcw2
        have HNN := Lib.hid hn
        clear hst6 hg6 hrb3 hw8 hgne hcw2 hn har hbl q0 q1 q2 q3 q4 q5 q6 q7 q8 q9 hnb
        go_upto_region 6 with (fail)
        go_cut [] (fun w' => Hid (Laid w w' sb kb g n (tx.length + s.size) [b0, b1, b2, b3, b4, b5, b6, b7] (.slice A2 n c2) (restW (tx ++ s.data.toList))))
        case first =>
          go_region_with (fail)
          all_goals (go_wp2_with fail; go_meet)
          all_goals (with_reducible refine Lib.hid (?_ : Laid w _ sb kb g n (tx.length + s.size) [b0, b1, b2, b3, b4, b5, b6, b7] (.slice A2 n c2) (restW (tx ++ s.data.toList))))
          all_goals exact laidD HST6.out HW8.out HRB3.out HGNE.out HG6.out
        case rest =>
          have hcut2 := hcut.out
          clear hcut
          obtain ⟨nb, hst7, hrb7, hg7, hnb⟩ := hcut2
          have c9 := hst7.cell 9 (.slice (some ⟨nb, 0, none⟩) n n) (by rfl)
          have HST7 := Lib.hid hst7
          have HRB7 := Lib.hid hrb7
          have HG7 := Lib.hid hg7
          have HNB := Lib.hid hnb
          clear hst7 hrb7 hg7 hnb hmk y0 y1 y2 y3 y4 y5 y6 y7 p0 p1 p2 p3 p4 p5 p6 p7 p8 p9 e0 e1 e2 e3 e4 e5 e6 e7 e9 hk1 hk2 hk3 hk4 hread ct
          go_wp2_with (refine St.copy_step HST7.out HRB7.out HNN.out rfl (.tmp 56) (.tmp 57) _ _ rfl Try.underlying64 infoU8s (by rfl) (by rfl) ?_; intro w2 HST8 HG8)
          go_roundw
          case rel =>
            refine ⟨k + 1, by omega, by go_num, Lib.hid ⟨nb, .slice (some ⟨nb, 0, none⟩) n n, ?_⟩, Lib.hid (grown_row_new HG7.out HG8.out HNB.out)⟩
            rw [HN.out, HCW2.out, List.length_append, Array.length_toList]
            exact HST8.out
          case measure => simp [intOf]; omega
    · obtain rfl : k = len := by omega
      have hst := HS.out
      rw [List.take_of_length_le (by rw [HLEN.out]; exact Nat.le_refl _)] at hst
      have HST := Lib.hid hst
      clear hst HS
      go_wp2
      go_end0
      exact ⟨rfl, HST.out, HG.out⟩
end Go.Proofs.Ytmhjocbnoppbbaa.Sha
