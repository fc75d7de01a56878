/- SHA-256: the method take of sha.chain takes a piece. -/
import Derived.Test.YtmhjocbnoppbbaaShaB
import Derived.Deep.DeepCutAuto
import Derived.Deep.CutBlock
namespace Go.Proofs.Ytmhjocbnoppbbaa.Sha
open Go.RowKit
set_option linter.unusedVariables false
set_option linter.unusedSimpArgs false

/-- an array of eight words -/
def w8 (ws : List Nat) : Value := .agg (ws.map wv).toArray

theorem eight {l : List Nat} (hl : l.length = 8) (hw : Words l) : ∃ a b c d e f g h, l = [a, b, c, d, e, f, g, h] ∧ a < 4294967296 ∧ b < 4294967296 ∧ c < 4294967296 ∧ d < 4294967296 ∧ e < 4294967296 ∧ f < 4294967296 ∧ g < 4294967296 ∧ h < 4294967296 := by
  match l, hl, hw with
  | [a, b, c, d, e, f, g, h], _, hw => exact ⟨a, b, c, d, e, f, g, h, rfl, hw a (by simp), hw b (by simp), hw c (by simp), hw d (by simp), hw e (by simp), hw f (by simp), hw g (by simp), hw h (by simp)⟩

theorem round_val (a b c d e f g h k w : Nat) :
    Value.agg #[.int .u32 ((((t1W e f g h k w : Nat) : Int) + ((t2W a b c : Nat) : Int)) % 4294967296), .int .u32 (a : Int), .int .u32 (b : Int), .int .u32 (c : Int), .int .u32 (((d : Int) + ((t1W e f g h k w : Nat) : Int)) % 4294967296), .int .u32 (e : Int), .int .u32 (f : Int), .int .u32 (g : Int)] =
      .agg ((roundW [a, b, c, d, e, f, g, h] k w).map wv).toArray := by
  simp [roundW, wv]
theorem below_drewN {B : Nat} {w W : World} (h : Below B w W) (n : Nat) : Below B w (W.drewN n) := ⟨h.os, h.tape, h.output, h.size, h.block⟩

set_option maxHeartbeats 2000000 in
set_option maxRecDepth 100000 in
theorem take_calls (c ks : List Nat) (kb : Nat) (g o n cp : Nat) (bs : List UInt8) (w : World) (hc8 : c.length = 8) (hcw : Words c) (hks : Arr w kb 87 ks) (hk64 : ks.length = 64) (hkw : Words ks) (hn : 64 ≤ n)
    (hb : ∀ i, i < 64 → w.cell? ⟨g, o + i, none⟩ = some (.int .u8 ((byt bs i : Nat) : Int))) (hg : g < w.heap.size) :
    Calls Try.prog 56 #[w8 c, .pointer (some ⟨kb, 0, none⟩), .slice (some ⟨g, o, none⟩) n cp] w fun e w' => e = .returned (w8 (takeW c ks bs)) ∧ Below w.heap.size w w' := by
  obtain ⟨c0, c1, c2, c3, c4, c5, c6, c7, rfl, -⟩ := eight hc8 hcw
  have HB0 := Lib.hid hb
  have HK := Lib.hid hks
  have HK64 := Lib.hid hk64
  have HC := Lib.hid hcw
  clear hb hks hk64 hc8 hcw
  show Calls Try.prog 56 #[.agg #[.int .u32 c0, .int .u32 c1, .int .u32 c2, .int .u32 c3, .int .u32 c4, .int .u32 c5, .int .u32 c6, .int .u32 c7], _, _] w _
  go_enter Try.func56, Try.ntmps56
  go_wp2_with fail
  have hB2 : Below w.heap.size w ((w.alloc (.cells #[.int .u32 c0, .int .u32 c1, .int .u32 c2, .int .u32 c3, .int .u32 c4, .int .u32 c5, .int .u32 c6, .int .u32 c7] 61)).alloc (.cells #[.int .u32 0, .int .u32 0, .int .u32 0, .int .u32 0, .int .u32 0, .int .u32 0, .int .u32 0, .int .u32 0] 61)) :=
    ((Below.refl _ _).alloc (Nat.le_refl _) _).alloc (by simp) _
  refine (spread_calls g o n cp bs _ hn (fun i hi => (hB2.cell (p := ⟨g, o + i, none⟩) hg).trans (HB0.out i hi)) (by simp; omega)).mono ?_
  rintro e w1 ⟨rfl, hb1⟩
  have H3 : Arr w1 w.heap.size 61 [c0, c1, c2, c3, c4, c5, c6, c7] := Arr.below (Arr.alloc (ws := [c0, c1, c2, c3, c4, c5, c6, c7]) (heap_alloc_new w _) _) hb1 (by simp; omega)
  have H6 : Arr w1 (w.heap.size + 1) 61 (List.replicate 8 0) := by
    refine Arr.below (B := w.heap.size + 1 + 1) (w := (w.alloc _).alloc _) ?_ (by simpa using hb1) (by omega)
    have := heap_alloc_new (w.alloc (.cells #[.int .u32 c0, .int .u32 c1, .int .u32 c2, .int .u32 c3, .int .u32 c4, .int .u32 c5, .int .u32 c6, .int .u32 c7] 61)) (.cells #[.int .u32 0, .int .u32 0, .int .u32 0, .int .u32 0, .int .u32 0, .int .u32 0, .int .u32 0, .int .u32 0] 61)
    rw [show (w.alloc (.cells #[.int .u32 c0, .int .u32 c1, .int .u32 c2, .int .u32 c3, .int .u32 c4, .int .u32 c5, .int .u32 c6, .int .u32 c7] 61)).heap.size = w.heap.size + 1 by simp] at this
    exact this
  have hz : w.heap.size + 2 ≤ w1.heap.size := by have := hb1.size; simpa using this
  have HB1 : Below w.heap.size w w1 := hB2.trans (hb1.mono (by simp; omega))
  clear hb1 hB2
  have H3' := Lib.hid H3
  have H6' := Lib.hid H6
  have HB1' := Lib.hid HB1
  clear H3 H6 HB1
  have hsl := Lib.hid (sched_length bs 48)
  have HN : Arr (w1.alloc (.cells ((List.replicate 64 0).map wv).toArray 87)) w1.heap.size 87 (List.replicate 64 0) := heap_alloc_new w1 _
  have HN' := Lib.hid HN
  clear HN
  go_upto_region 2 with (((with_reducible show wpList _ _ _ ({ dst := _, op := Op.store _ _ _, type := _, pos := _, after := _, guard := _ } :: _) _ _); refine Arr.store_on (ws := List.replicate 64 0) (ws' := sched bs 48) (b := w1.heap.size) (t := 87) HN'.out rfl 87 64 _ _ rfl rfl rfl (by kernel_rfl) (by simp) hsl.out ?_; intro w2 h7 hg2 hz2))
  have h3 : Arr w2 w.heap.size 61 [c0, c1, c2, c3, c4, c5, c6, c7] := (H3'.out.alloc _).kept hg2 (by simp; omega)
  have h6 : Arr w2 (w.heap.size + 1) 61 (List.replicate 8 0) := (H6'.out.alloc _).kept hg2 (by simp; omega)
  have hb2 : Below w.heap.size w w2 := (HB1'.out.alloc (by omega) _).grown hg2 (by simp; omega) (fun k hk => by injection hk with hk; omega)
  have hz2' : w2.heap.size = w1.heap.size + 1 := by simpa using hz2
  have H7 := Lib.hid h7
  have H3 := Lib.hid h3
  have H6 := Lib.hid h6
  have HB2 := Lib.hid hb2
  have HZ2 := Lib.hid hz2'
  clear HN' H3' H6' HB1' h7 h3 h6 hb2 hg2 hz2 hz2' hsl
  obtain ⟨b7, hb7⟩ : ∃ b7, w1.heap.size = b7 := ⟨_, rfl⟩
  rw [hb7] at hz H7 HZ2 ⊢
  go_upto_region 3 with (first
    | ((with_reducible show wpList _ _ _ ({ dst := _, op := Op.load 61 _, type := _, pos := _, after := _, guard := _ } :: _) _ _); refine Arr.load_step (ws := [c0, c1, c2, c3, c4, c5, c6, c7]) (t := 61) H3.out rfl 61 8 59 _ rfl rfl Try.underlying61 (by kernel_rfl) rfl ?_)
    | ((with_reducible show wpList _ _ _ ({ dst := _, op := Op.store 61 _ _, type := _, pos := _, after := _, guard := _ } :: _) _ _); refine Arr.store_on (ws := List.replicate 8 0) (ws' := [c0, c1, c2, c3, c4, c5, c6, c7]) (b := w2.heap.size) (t := 61) (heap_alloc_new w2 _) rfl 61 8 _ _ rfl rfl rfl (by kernel_rfl) rfl rfl ?_; intro w3 h8 hg3 hz3))
  have HZ2' := HZ2.out
  have h3 : Arr w3 w.heap.size 61 [c0, c1, c2, c3, c4, c5, c6, c7] := (H3.out.alloc _).kept hg3 (by simp; omega)
  have h6 : Arr w3 (w.heap.size + 1) 61 (List.replicate 8 0) := (H6.out.alloc _).kept hg3 (by simp; omega)
  have h7 : Arr w3 b7 87 (sched bs 48) := (H7.out.alloc _).kept hg3 (by simp; omega)
  have hb3 : Below w.heap.size w w3 := (HB2.out.alloc (by omega) _).grown hg3 (by simp; omega) (fun k hk => by injection hk with hk; omega)
  have hb8 : w2.heap.size = b7 + 1 := HZ2'
  rw [hb8] at h8 ⊢
  have H3' := Lib.hid h3
  have H6' := Lib.hid h6
  have H7' := Lib.hid h7
  have H8' := Lib.hid h8
  have HB3 := Lib.hid hb3
  clear h3 h6 h7 h8 hb3 hb8 HZ2' hz3 hg3 H3 H6 H7 HB2 HZ2 w2
  have hz' : w.heap.size + 2 ≤ b7 := by omega
  clear hz hb7 w1
  go_wp2
  go_loopw [18] (fun i wr => ∃ k : Nat, k ≤ 64 ∧ i = .int .i64 k ∧ Hid (Arr wr w.heap.size 61 [c0, c1, c2, c3, c4, c5, c6, c7]) ∧ Hid (Arr wr (w.heap.size + 1) 61 (List.replicate 8 0)) ∧ Hid (Arr wr b7 87 (sched bs 48)) ∧ Hid (Arr wr (b7 + 1) 61 (roundsW [c0, c1, c2, c3, c4, c5, c6, c7] ks (sched bs 48) k)) ∧ Hid (Below w.heap.size w wr)) (fun i _ => 64 - (intOf i).toNat)
  case atStart => exact ⟨0, by omega, rfl, H3', H6', H7', H8', HB3⟩
  case round =>
    clear H3' H6' H7' H8' HB3
    obtain ⟨k, hk, rfl, H3, H6, H7, H8, HB⟩ := hrel
    by_cases hlt : k < 64
    · have e0 : (0 : Int) ≤ (k : Int) := by omega
      have e1 : (k : Int) < 64 := by omega
      have hsl := sched_length bs 48
      have hks : Arr wr kb 87 ks := HK.out.below HB.out HK.out.lt
      have hl8 := roundsW_length (s := [c0, c1, c2, c3, c4, c5, c6, c7]) rfl ks (sched bs 48) k
      have hw8 := roundsW_words HC.out ks (sched bs 48) k
      have hnext : roundsW [c0, c1, c2, c3, c4, c5, c6, c7] ks (sched bs 48) (k + 1) = roundW (roundsW [c0, c1, c2, c3, c4, c5, c6, c7] ks (sched bs 48) k) (ks.getD k 0) ((sched bs 48).getD k 0) := rfl
      generalize roundsW [c0, c1, c2, c3, c4, c5, c6, c7] ks (sched bs 48) k = st at H8 hl8 hw8 hnext
      obtain ⟨a, b, c, d, e, f, g', hh, rfl, la, lb, lc, ld, le, lf, lg, lh⟩ := eight hl8 hw8
      have lk : ks.getD k 0 < 4294967296 := getD_lt32 hkw k
      have lw : (sched bs 48).getD k 0 < 4294967296 := getD_lt32 (sched_lt bs 48) k
      have q0 := H8.out.cell 0 (by simp)
      have q1 := H8.out.cell 1 (by simp)
      have q2 := H8.out.cell 2 (by simp)
      have q3 := H8.out.cell 3 (by simp)
      have q4 := H8.out.cell 4 (by simp)
      have q5 := H8.out.cell 5 (by simp)
      have q6 := H8.out.cell 6 (by simp)
      have q7 := H8.out.cell 7 (by simp)
      simp only [List.getD_cons_zero, List.getD_cons_succ] at q0 q1 q2 q3 q4 q5 q6 q7
      have qk := hks.cell k (by rw [HK64.out]; exact hlt)
      have qw := H7.out.cell k (by omega)
      generalize ks.getD k 0 = kk at lk qk hnext
      generalize (sched bs 48).getD k 0 = ww at lw qw hnext
      have HN := Lib.hid hnext
      have HT1 := Lib.hid (t1_bits e f g' hh kk ww le lf lg)
      have HT2 := Lib.hid (t2_bits a b c la lb lc)
      clear hnext hw8 hl8 hsl hks
      go_wp2
      go_region
      go_wp2
      go_quiet ((go_at_call 69; first | exact quiet_left (right_calls _ _ _ (by assumption) rfl) | exact quiet_add_left (right_calls _ _ _ (by assumption) rfl)))
      rw [HT1.out]
      have lt1 := t1W_lt e f g' hh kk ww
      go_wp2
      go_quiet ((go_at_call 69; first | exact quiet_left (right_calls _ _ _ (by assumption) rfl) | exact quiet_add_left (right_calls _ _ _ (by assumption) rfl)))
      rw [HT2.out]
      have lt2 := t2W_lt a b c
      have HV := Lib.hid (round_val a b c d e f g' hh kk ww)
      go_wp2_with ((with_reducible show wpList _ _ _ ({ dst := _, op := Op.store 61 _ _, type := _, pos := _, after := _, guard := _ } :: _) _ _); refine Arr.store_on (w := wr.drewN _) (ws := [a, b, c, d, e, f, g', hh]) (ws' := roundW [a, b, c, d, e, f, g', hh] kk ww) (b := b7 + 1) (t := 61) (H8.out.drewN _) rfl 61 8 _ _ rfl rfl (by exact HV.out) (by kernel_rfl) rfl rfl ?_; intro w4 h8 hg4 hz4)
      go_roundw
      case rel =>
        refine ⟨k + 1, by omega, by go_num, (H3.out.drewN _).kept hg4 (by simp; omega), (H6.out.drewN _).kept hg4 (by simp; omega), (H7.out.drewN _).kept hg4 (by simp), ?_, ?_⟩
        · rw [HN.out]; exact h8
        · exact (below_drewN HB.out _).grown hg4 (by have := HB.out.size; simpa using this) (fun k hk => by injection hk with hk; omega)
      case measure => simp [intOf]; omega
    · obtain rfl : k = 64 := by omega
      rw [show (((64 : Nat) : Int)) = 64 from rfl]
      have hl8 := roundsW_length (s := [c0, c1, c2, c3, c4, c5, c6, c7]) rfl ks (sched bs 48) 64
      have hw8 := roundsW_words HC.out ks (sched bs 48) 64
      have hT : takeW [c0, c1, c2, c3, c4, c5, c6, c7] ks bs = addW (roundsW [c0, c1, c2, c3, c4, c5, c6, c7] ks (sched bs 48) 64) [c0, c1, c2, c3, c4, c5, c6, c7] 8 := rfl
      have hz0 := addW_zero hl8 [c0, c1, c2, c3, c4, c5, c6, c7]
      generalize hcs : [c0, c1, c2, c3, c4, c5, c6, c7] = cs at H3 H8 hl8 hw8 hT hz0 HC ⊢
      have hcl : cs.length = 8 := by rw [← hcs]; rfl
      generalize roundsW cs ks (sched bs 48) 64 = st at H8 hl8 hw8 hT hz0
      have HT := Lib.hid hT
      have HCS := Lib.hid hcs
      have HL8 := Lib.hid hl8
      have HCL := Lib.hid hcl
      rw [← hz0] at H8
      have HZ0 := Lib.hid hz0
      clear hT hl8 hcl hcs hk hlt hz0
      go_wp2
      go_loopw [100] (fun i wr => ∃ k : Nat, k ≤ 8 ∧ i = .int .i64 k ∧ Hid (Arr wr w.heap.size 61 cs) ∧ Hid (Arr wr (w.heap.size + 1) 61 (List.replicate 8 0)) ∧ Hid (Arr wr (b7 + 1) 61 (addW st cs k)) ∧ Hid (Below w.heap.size w wr)) (fun i _ => 8 - (intOf i).toNat)
      case atStart => exact ⟨0, by omega, rfl, H3, H6, H8, HB⟩
      case round =>
        clear H3 H6 H7 H8 HB
        obtain ⟨k, hk, rfl, H3, H6, H8, HB⟩ := hrel
        by_cases hlt : k < 8
        · have e0 : (0 : Int) ≤ (k : Int) := by omega
          have e1 : (k : Int) < 8 := by omega
          have q0 := H8.out.cell k (by rw [addW_length]; exact hlt)
          have q1 := H3.out.cell k (by rw [HCL.out]; exact hlt)
          have f := H8.out.frozen k
          rw [addW_get st cs k k hlt, if_neg (by omega)] at q0
          have l0 : st.getD k 0 < 4294967296 := getD_lt32 hw8 k
          have l1 : cs.getD k 0 < 4294967296 := getD_lt32 HC.out k
          have HS := Lib.hid (addW_set st cs k hlt)
          go_wp2
          go_region
          go_wp2
          go_roundw
          case rel =>
            refine ⟨k + 1, by omega, by go_num, (H3.out.set_other _ _ (by simp; omega)).drew, (H6.out.set_other _ _ (by simp; omega)).drew, ?_, (HB.out.setCell (by simp; omega) _).drew⟩
            have := (H8.out.set k ((st.getD k 0 + cs.getD k 0) % 4294967296)).drew
            rw [HS.out] at this
            exact Lib.hid (by simpa using this)
          case measure => simp [intOf]; omega
        · obtain rfl : k = 8 := by omega
          have hl := Lib.hid (addW_length st cs 8)
          clear hk hlt
          go_wp2_with (first
            | ((with_reducible show wpList _ _ _ ({ dst := _, op := Op.load 61 _, type := _, pos := _, after := _, guard := _ } :: _) _ _); refine Arr.load_step (ws := addW st cs 8) (t := 61) H8.out rfl 61 8 59 _ rfl rfl Try.underlying61 (by kernel_rfl) hl.out ?_)
            | ((with_reducible show wpList _ _ _ ({ dst := _, op := Op.store 61 _ _, type := _, pos := _, after := _, guard := _ } :: _) _ _); refine Arr.store_step (ws := List.replicate 8 0) (ws' := addW st cs 8) (t := 61) H6.out rfl 61 8 _ _ rfl rfl rfl (by kernel_rfl) rfl hl.out ?_))
          exact bodyPost_ret (v := w8 (addW st cs 8)) (Arr.result (H6.out.setRow _) rfl _ rfl Try.underlying61 (by kernel_rfl) hl.out) rfl ⟨by rw [HCS.out, HT.out], below_setRow HB.out _ (by omega) _⟩
end Go.Proofs.Ytmhjocbnoppbbaa.Sha
