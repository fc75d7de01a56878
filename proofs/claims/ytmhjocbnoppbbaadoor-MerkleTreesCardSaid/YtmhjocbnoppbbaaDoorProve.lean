/- The method Proof of merkle.Tree, walked. -/
import Derived.Test.YtmhjocbnoppbbaaDoorProof
import Derived.BigQuiet
import Derived.Deep.RegionHeld3
import Derived.Deep.DeepCutAuto
import Derived.Deep.CutBlock
namespace Go.Proofs.YtmhjocbnoppbbaaDoor.Mk
open Go.RowKit Go.Proofs.YtmhjocbnoppbbaaDoor.Sha
set_option linter.unusedVariables false
set_option linter.unusedSimpArgs false

/-- block b is a span's box -/
def Box (w : World) (b a n : Nat) : Prop := w.cell? ⟨b, 0, none⟩ = some (.int .i64 (a : Int)) ∧ w.cell? ⟨b, 1, none⟩ = some (.int .i64 (n : Int)) ∧ w.heap[b]? = some (.cells #[.int .i64 (a : Int), .int .i64 (n : Int)] 95 (0, 0))
theorem Box.of {w : World} {b a n : Nat} (h : w.heap[b]? = some (.cells #[.int .i64 (a : Int), .int .i64 (n : Int)] 95 (0, 0))) : Box w b a n :=
  ⟨by rw [cell_of_row w b 0 _ _ _ h]; rfl, by rw [cell_of_row w b 1 _ _ _ h]; rfl, h⟩
theorem Box.lt {w : World} {b a n : Nat} (h : Box w b a n) : b < w.heap.size := (Array.getElem?_eq_some_iff.1 h.2.2).1
theorem Box.later {w w' : World} {b a n : Nat} (h : Box w b a n) (hb : Below w.heap.size w w') : Box w' b a n := .of ((hb.block b h.lt).trans h.2.2)

theorem two_boxes (w : World) (a k n : Nat) (h : k ≤ n) :
    Hid (Box ((w.alloc (.cells #[.int .i64 (a : Int), .int .i64 (k : Int)] 95)).alloc (.cells #[.int .i64 ((a : Int) + (k : Int)), .int .i64 ((n : Int) - (k : Int))] 95)).drew w.heap.size a k) ∧
    Hid (Box ((w.alloc (.cells #[.int .i64 (a : Int), .int .i64 (k : Int)] 95)).alloc (.cells #[.int .i64 ((a : Int) + (k : Int)), .int .i64 ((n : Int) - (k : Int))] 95)).drew (w.heap.size + 1) (a + k) (n - k)) ∧
    Hid (Below w.heap.size w ((w.alloc (.cells #[.int .i64 (a : Int), .int .i64 (k : Int)] 95)).alloc (.cells #[.int .i64 ((a : Int) + (k : Int)), .int .i64 ((n : Int) - (k : Int))] 95)).drew) := by
  have e1 : ((a + k : Nat) : Int) = (a : Int) + (k : Int) := by omega
  have e2 : ((n - k : Nat) : Int) = (n : Int) - (k : Int) := by omega
  refine ⟨Lib.hid (.of ?_), Lib.hid (.of ?_), Lib.hid (((Below.refl _ _).alloc (Nat.le_refl _) _).alloc (by simp) _).drew⟩
  · exact (Below.heap_alloc _ _ w.heap.size (by simp)).trans (heap_alloc_new w _)
  · rw [e1, e2]
    have := heap_alloc_new (w.alloc (.cells #[.int .i64 (a : Int), .int .i64 (k : Int)] 95)) (.cells #[.int .i64 ((a : Int) + (k : Int)), .int .i64 ((n : Int) - (k : Int))] 95)
    rw [show (w.alloc (.cells #[.int .i64 (a : Int), .int .i64 (k : Int)] 95)).heap.size = w.heap.size + 1 by simp] at this
    exact this
theorem two_boxes' (w : World) (a k n : Nat) (h : k ≤ n) :
    Hid (Box ((w.alloc (.cells #[.int .i64 ((a : Int) + (k : Int)), .int .i64 ((n : Int) - (k : Int))] 95)).alloc (.cells #[.int .i64 (a : Int), .int .i64 (k : Int)] 95)).drew (w.heap.size + 1) a k) ∧
    Hid (Box ((w.alloc (.cells #[.int .i64 ((a : Int) + (k : Int)), .int .i64 ((n : Int) - (k : Int))] 95)).alloc (.cells #[.int .i64 (a : Int), .int .i64 (k : Int)] 95)).drew w.heap.size (a + k) (n - k)) ∧
    Hid (Below w.heap.size w ((w.alloc (.cells #[.int .i64 ((a : Int) + (k : Int)), .int .i64 ((n : Int) - (k : Int))] 95)).alloc (.cells #[.int .i64 (a : Int), .int .i64 (k : Int)] 95)).drew) := by
  have e1 : ((a + k : Nat) : Int) = (a : Int) + (k : Int) := by omega
  have e2 : ((n - k : Nat) : Int) = (n : Int) - (k : Int) := by omega
  refine ⟨Lib.hid (.of ?_), Lib.hid (.of ?_), Lib.hid (((Below.refl _ _).alloc (Nat.le_refl _) _).alloc (by simp) _).drew⟩
  · have := heap_alloc_new (w.alloc (.cells #[.int .i64 ((a : Int) + (k : Int)), .int .i64 ((n : Int) - (k : Int))] 95)) (.cells #[.int .i64 (a : Int), .int .i64 (k : Int)] 95)
    rw [show (w.alloc (.cells #[.int .i64 ((a : Int) + (k : Int)), .int .i64 ((n : Int) - (k : Int))] 95)).heap.size = w.heap.size + 1 by simp] at this
    exact this
  · rw [e1, e2]
    exact (Below.heap_alloc _ _ w.heap.size (by simp)).trans (heap_alloc_new w _)
theorem Box.frozen {w : World} {b a n : Nat} (h : Box w b a n) (j : Nat) : w.frozen? ⟨b, j, none⟩ = false := frozen_of_row w b j _ _ h.2.2
theorem Box.kept {w w' : World} {b a n : Nat} (h : Box w b a n) {row : Option Nat} (hg : w.grownBy w' row) (hr : some b ≠ row) : Box w' b a n := .of ((hg.block b h.lt hr).trans h.2.2)
theorem Box.set {w : World} {b a n : Nat} (h : Box w b a n) (a' n' : Nat) : Box ((w.setCell ⟨b, 0, none⟩ (.int .i64 (a' : Int))).setCell ⟨b, 1, none⟩ (.int .i64 (n' : Int))) b a' n' := by
  refine .of ?_
  have h1 := heap_setCell_same w b 0 _ _ (.int .i64 (a' : Int)) h.2.2
  have h2 := heap_setCell_same _ b 1 _ _ (.int .i64 (n' : Int)) h1
  rw [h2]
  rfl
theorem grown_set2 (w : World) (b : Nat) (x y : Value) : w.grownBy ((w.setCell ⟨b, 0, none⟩ x).setCell ⟨b, 1, none⟩ y) (some b) :=
  (grown_setCell w ⟨b, 0, none⟩ x).trans (grown_setCell _ ⟨b, 1, none⟩ y)
theorem OT_mono {w : World} {b b' : Nat} {v : Value} {ss : List ByteArray} (h : OT w b v ss) (hb : b' ≤ b) : OT w b' v ss := by
  refine ⟨h.1, ?_⟩
  rcases h.2 with h2 | ⟨g, cap, cur, hv, hg, hh⟩
  · exact .inl h2
  · exact .inr ⟨g, cap, cur, hv, Nat.le_trans hb hg, hh⟩
/-- how many leaves a span's box tells -/
def manyOf (w : World) : Value → Nat
  | .pointer (some ad) => match w.cell? ⟨ad.block, 1, none⟩ with
    | some (.int _ n) => n.toNat
    | _ => 0
  | _ => 0
theorem manyOf_box {w : World} {b a n : Nat} (h : Box w b a n) : manyOf w (.pointer (some ⟨b, 0, none⟩)) = n := by
  show (match w.cell? ⟨b, 1, none⟩ with
    | some (.int _ n) => n.toNat
    | _ => 0) = n
  rw [h.2.1]
  simp

set_option maxHeartbeats 2000000 in
set_option maxRecDepth 100000 in
theorem proof_calls (tb mb g : Nat) (v : Value) (ss : List ByteArray) (i : Nat) (w : World) (hT : TreeS w tb mb g v (leaves ss) (mapOf ss)) (hi : i < ss.length) (hn : ss.length ≤ 1000000) :
    Calls Tryd.prog 34 #[.pointer (some ⟨tb, 0, none⟩), .int .i64 (i : Int)] w fun e w' => ∃ gp pv, e = .returned (.tuple #[pv, .nilIface]) ∧ Hid (SR w' gp pv (proofT (leaves ss) i 0 ss.length)) ∧ Hid (Below w.heap.size w w') := by
  have HT := Lib.hid hT
  have c0 := hT.cell0
  have c1 := hT.cell1
  have hne : ss ≠ [] := fun e => by rw [e] at hi; simp at hi
  have hmap := Lib.hid (fun c m (h : InT 0 ss.length c m) => mapOf_in ss h hne)
  have hpl := proofT_length (leaves ss) ss.length i 0
  obtain ⟨A, c, hv, hc1, hc2, -⟩ := hT.2.1
  rw [leaves_length] at hv hc1
  obtain ⟨len, hlen⟩ : ∃ len, ss.length = len := ⟨_, rfl⟩
  rw [hlen] at hv hi hn hc1 hmap hpl ⊢
  subst hv
  have HPL := Lib.hid hpl
  have i0 : (0 : Int) ≤ (i : Int) := by omega
  have i1 : (i : Int) < (len : Int) := by omega
  have i2 : (len : Int) ≤ 1000000 := by omega
  clear hT hne hlen hpl
  go_enter Tryd.func34, Tryd.ntmps34
  go_wp2
  have HX0 : Hid (Box (w.alloc (.cells #[.int .i64 0, .int .i64 (len : Int)] 95)) w.heap.size 0 len) := Lib.hid (.of (heap_alloc_new w _))
  have HO0 : Hid (OT (w.alloc (.cells #[.int .i64 0, .int .i64 (len : Int)] 95)) w.heap.size (.slice none 0 0) []) := Lib.hid (OT.nil _ _)
  have HB0 : Hid (Below w.heap.size w (w.alloc (.cells #[.int .i64 0, .int .i64 (len : Int)] 95))) := Lib.hid ((Below.refl _ _).alloc (Nat.le_refl _) _)
  generalize (decide ((i : Int) < 0) || decide (len ≤ i)) = B1
  generalize decide (len ≤ i) = B2
  generalize decide ((i : Int) < 0) = B3
  go_loopw [6, 7] (fun u p wr => ∃ (a n xb : Nat) (acc : List ByteArray), p = .pointer (some ⟨xb, 0, none⟩) ∧ w.heap.size ≤ xb ∧ a ≤ i ∧ i < a + n ∧ Hid (InT 0 len a n) ∧ Hid (Box wr xb a n) ∧ Hid (OT wr w.heap.size u acc) ∧ Hid (∀ k, u.ownBlock = some k → k < xb) ∧ Hid (proofT (leaves ss) i 0 len = proofT (leaves ss) i a n ++ acc) ∧ Hid (Below w.heap.size w wr)) (fun _ p wr => manyOf wr p)
  case atStart => exact ⟨0, len, w.heap.size, [], rfl, Nat.le_refl _, by omega, by omega, Lib.hid (.self _ _), HX0, HO0, Lib.hid (fun k hk => by simp [Value.ownBlock] at hk), Lib.hid (by simp), HB0⟩
  case round =>
    clear HX0 HO0 HB0
    obtain ⟨a, n, xb, acc, rfl, hxb, ha1, ha2, HI, HX, HO, HK, HE, HB⟩ := hrel
    have hbw := HB.out.size
    have hibd := HI.out.bound (by omega)
    have x0 := HX.out.1
    have x1 := HX.out.2.1
    have hxl := HX.out.lt
    have hin : (n : Int) ≤ 1000000 := by omega
    have han : (a : Int) ≤ 1000000 := by omega
    by_cases hn2 : n ≤ 1
    · have e1 : ¬ (1 : Int) < (n : Int) := by omega
      have he := HE.out
      rw [proofT_one _ _ _ _ hn2, List.nil_append] at he
      have HE2 := Lib.hid he
      obtain ⟨gp, -, hsr⟩ := OT_reads2 HO.out
      have HSR := Lib.hid hsr
      clear he hn2 hsr
      go_wp2
      go_ret2
      exact ⟨gp, _, rfl, by rw [HE2.out]; exact HSR, HB⟩
    · have e1 : (1 : Int) < (n : Int) := by omega
      have hT1 := HT.out.later HB.out
      have t1 := hT1.cell1
      have hk1 := hb_lt (n := n) (by omega)
      have hk2 := hb_pos n
      have hsp := Lib.hid (split_calls n wr (by omega) (by omega))
      have HIl := Lib.hid (HI.out.goLeft (by omega))
      have HIr := Lib.hid (HI.out.goRight (by omega))
      have hel := proofT_left (leaves ss) i a n (by omega)
      have her := proofT_right (leaves ss) i a n (by omega)
      generalize hb n = k at hk1 hk2 hsp HIl HIr hel her
      have HEL := Lib.hid hel
      have HER := Lib.hid her
      have HT1 := Lib.hid hT1
      clear hel her hT1
      have k5 : (k : Int) < (n : Int) := by omega
      have w1 : IntKind.i64.wrap ((a : Int) + (k : Int)) = (a : Int) + (k : Int) := IntWalk.i64_in _ (by omega)
      have w2 : IntKind.i64.wrap ((n : Int) - (k : Int)) = (n : Int) - (k : Int) := IntWalk.i64_in _ (by omega)
      go_upto_region 9 with ((go_at_call 53; refine hsp.out.mono ?_; rintro e w' ⟨rfl, rfl⟩))
      go_cut [9, 10] (fun p q w' => ∃ fb rb : Nat, p = .pointer (some ⟨fb, 0, none⟩) ∧ q = .pointer (some ⟨rb, 0, none⟩) ∧ wr.heap.size ≤ fb ∧ wr.heap.size ≤ rb ∧ Hid (Box w' fb a k) ∧ Hid (Box w' rb (a + k) (n - k)) ∧ Hid (Below wr.heap.size wr w'))
      case first =>
        go_region_held3 (fun w' => w'.cell? ⟨xb, 0, none⟩ = some (.int .i64 (a : Int)) ∧ w'.cell? ⟨xb, 1, none⟩ = some (.int .i64 (n : Int))) (first | (go_keep; done) | exact ⟨x0, x1⟩) (fail)
        all_goals (go_wp2_with fail; go_meet; refine ⟨_, _, rfl, rfl, by omega, by omega, ?_⟩)
        all_goals first
          | exact two_boxes wr a k n (by omega)
          | exact two_boxes' wr a k n (by omega)
      case rest =>
        obtain ⟨fb, rb, rfl, rfl, hfb, hrb, HF, HR, HB2⟩ := hcut
        have hfx : fb ≠ xb := by omega
        have hrx : rb ≠ xb := by omega
        rename World => w2
        have hbw2 := HB2.out.size
        have hbw0 : w.heap.size ≤ w2.heap.size := Nat.le_trans hbw hbw2
        have HT2 := Lib.hid (HT1.out.later HB2.out)
        have HX2 := Lib.hid (HX.out.later HB2.out)
        have HO2 := Lib.hid (HO.out.later HB2.out)
        have HBW := Lib.hid (HB.out.trans (HB2.out.mono hbw))
        have t2 := HT2.out.cell1
        have f0 := HF.out.1
        have f1 := HF.out.2.1
        have r0 := HR.out.1
        have r1 := HR.out.2.1
        have y0 := HX2.out.1
        have htx : tb ≠ xb := by have := HT.out.lt; omega
        have hmw : mb < w.heap.size := HT.out.2.2.1.lt
        by_cases hlt : i < a + k
        · have he := HE.out
          rw [HEL.out hlt, List.append_assoc] at he
          have hlk : (Instr.lookup 90 (.map (some mb)) (.agg #[.int .i64 ((a : Int) + (k : Int)), .int .i64 ((n - k : Nat) : Int)]) false).run Tryd.prog w2.drew = .ok (.string (treeR (leaves ss) (a + k) (n - k))) w2.drew := by
            have := (HT2.out.2.2.1.drewN 1).look (a + k) (n - k) (hmap.out _ _ HIr.out)
            unfold spV at this
            rw [show ((a + k : Nat) : Int) = (a : Int) + (k : Int) by omega] at this
            exact this
          have hal : acc.length ≤ 1000000 := by
            have h1 := HPL.out
            rw [HE.out, List.length_append] at h1
            omega
          generalize treeR (leaves ss) (a + k) (n - k) = R at he hlk
          have HE2 := Lib.hid he
          have HAL := Lib.hid hal
          have e2 : (i : Int) < (a : Int) + (k : Int) := by omega
          clear he hal
          go_upto_region 11 with (fail)
          go_region_held3 (fun w' => w'.cell? ⟨tb, 1, none⟩ = some (.map (some mb)) ∧ w'.cell? ⟨rb, 0, none⟩ = some (.int .i64 ((a + k : Nat) : Int)) ∧ w'.cell? ⟨rb, 1, none⟩ = some (.int .i64 ((n - k : Nat) : Int)) ∧ w'.cell? ⟨fb, 0, none⟩ = some (.int .i64 (a : Int)) ∧ w'.cell? ⟨fb, 1, none⟩ = some (.int .i64 (k : Int)))
            (first | (go_keep; done) | exact ⟨t2, r0, r1, f0, f1⟩ | exact ⟨t4, r04, r14, f04, f14⟩ | exact ⟨(grown_set2 w4 xb _ _).cell t4 (fun e => htx (by injection e)), (grown_set2 w4 xb _ _).cell r04 (fun e => hrx (by injection e)), (grown_set2 w4 xb _ _).cell r14 (fun e => hrx (by injection e)), (grown_set2 w4 xb _ _).cell f04 (fun e => hfx (by injection e)), (grown_set2 w4 xb _ _).cell f14 (fun e => hfx (by injection e))⟩)
            ((refine OT_append_wp (ops := _) (base := w2.heap.size) (OT_lit w2.drew w2.heap.size (by simp) R) (by first | exact (OT_reads2 (HO2.out.alloc _)).choose_spec.2) rfl _ _ (by rfl) (by rfl) (by rfl) (by simp) (by have := HAL.out; simp; omega) ?_; intro v4 w4 h4 hg4; have HO4 := Lib.hid h4; have HB4 : Hid (Below w2.heap.size w2 w4) := Lib.hid ((((Below.refl w2.heap.size w2).drew).alloc (by simp) _).grown hg4 (by simp) (fun k hk => by simp [Value.ownBlock] at hk; omega)); have t4 := (HT2.out.later HB4.out).cell1; have HX4 := Lib.hid (HX2.out.later HB4.out); have x04 := HX4.out.1; have x14 := HX4.out.2.1; have z0 := HX4.out.frozen 0; have z1 := HX4.out.frozen 1; have HR4 := Lib.hid (HR.out.later HB4.out); have r04 := HR4.out.1; have r14 := HR4.out.2.1; have HF4 := Lib.hid (HF.out.later HB4.out); have f04 := HF4.out.1; have f14 := HF4.out.2.1))
          have hx5 := HX4.out.set a k
          have ho5 := World.ownsRow.kept HO4.out (grown_set2 w4 xb (.int .i64 ((a : Nat) : Int)) (.int .i64 ((k : Nat) : Int))) (Or.inr (fun e => by have := OT.base HO4.out xb e; omega))
          have hb5 : Below w.heap.size w ((w4.setCell ⟨xb, 0, none⟩ (.int .i64 ((a : Nat) : Int))).setCell ⟨xb, 1, none⟩ (.int .i64 ((k : Nat) : Int))) := ((HBW.out.trans (HB4.out.mono HBW.out.size)).setCell hxb _).setCell hxb _
          obtain ⟨W5, hW5⟩ : ∃ W5, (w4.setCell ⟨xb, 0, none⟩ (.int .i64 (a : Int))).setCell ⟨xb, 1, none⟩ (.int .i64 (k : Int)) = W5 := ⟨_, rfl⟩
          rw [hW5] at hx5 ho5 hb5
          try rw [hW5]
          have HX5 := Lib.hid hx5
          have HO5 := Lib.hid ho5
          have HB5 := Lib.hid hb5
          have p0 := hx5.1
          have p1 := hx5.2.1
          have HM : Hid (manyOf wr (.pointer (some ⟨xb, 0, none⟩)) = n) := Lib.hid (manyOf_box HX.out)
          clear hx5 ho5 hb5 hW5
          go_wp2
          go_roundw
          case rel => exact ⟨a, k, W5.heap.size, R :: acc, rfl, HB5.out.size, by omega, by omega, HIl, Lib.hid (.of (heap_alloc_new W5 _)), Lib.hid (OT.alloc (OT_mono (ss := R :: acc) HO5.out hbw0) _), Lib.hid (fun k hk => (World.ownsRow.lt HO5.out k hk).2), Lib.hid (by rw [HE2.out]; simp), Lib.hid (HB5.out.alloc HB5.out.size _)⟩
          case measure => rw [HM.out, manyOf_box (.of (heap_alloc_new W5 _))]; omega
        · have he := HE.out
          rw [HER.out hlt, List.append_assoc] at he
          have hlk : (Instr.lookup 90 (.map (some mb)) (.agg #[.int .i64 (a : Int), .int .i64 (k : Int)]) false).run Tryd.prog w2.drew = .ok (.string (treeR (leaves ss) a k)) w2.drew :=
            (HT2.out.2.2.1.drewN 1).look a k (hmap.out _ _ HIl.out)
          have hal : acc.length ≤ 1000000 := by
            have h1 := HPL.out
            rw [HE.out, List.length_append] at h1
            omega
          generalize treeR (leaves ss) a k = R at he hlk
          have HE2 := Lib.hid he
          have HAL := Lib.hid hal
          have e2 : ¬ (i : Int) < (a : Int) + (k : Int) := by omega
          clear he hal
          go_upto_region 12 with (fail)
          go_region_held3 (fun w' => w'.cell? ⟨tb, 1, none⟩ = some (.map (some mb)) ∧ w'.cell? ⟨rb, 0, none⟩ = some (.int .i64 ((a + k : Nat) : Int)) ∧ w'.cell? ⟨rb, 1, none⟩ = some (.int .i64 ((n - k : Nat) : Int)) ∧ w'.cell? ⟨fb, 0, none⟩ = some (.int .i64 (a : Int)) ∧ w'.cell? ⟨fb, 1, none⟩ = some (.int .i64 (k : Int)))
            (first | (go_keep; done) | exact ⟨t2, r0, r1, f0, f1⟩ | exact ⟨t4, r04, r14, f04, f14⟩ | exact ⟨(grown_set2 w4 xb _ _).cell t4 (fun e => htx (by injection e)), (grown_set2 w4 xb _ _).cell r04 (fun e => hrx (by injection e)), (grown_set2 w4 xb _ _).cell r14 (fun e => hrx (by injection e)), (grown_set2 w4 xb _ _).cell f04 (fun e => hfx (by injection e)), (grown_set2 w4 xb _ _).cell f14 (fun e => hfx (by injection e))⟩)
            ((refine OT_append_wp (ops := _) (base := w2.heap.size) (OT_lit w2.drew w2.heap.size (by simp) R) (by first | exact (OT_reads2 (HO2.out.alloc _)).choose_spec.2) rfl _ _ (by rfl) (by rfl) (by rfl) (by simp) (by have := HAL.out; simp; omega) ?_; intro v4 w4 h4 hg4; have HO4 := Lib.hid h4; have HB4 : Hid (Below w2.heap.size w2 w4) := Lib.hid ((((Below.refl w2.heap.size w2).drew).alloc (by simp) _).grown hg4 (by simp) (fun k hk => by simp [Value.ownBlock] at hk; omega)); have t4 := (HT2.out.later HB4.out).cell1; have HX4 := Lib.hid (HX2.out.later HB4.out); have x04 := HX4.out.1; have x14 := HX4.out.2.1; have z0 := HX4.out.frozen 0; have z1 := HX4.out.frozen 1; have HR4 := Lib.hid (HR.out.later HB4.out); have r04 := HR4.out.1; have r14 := HR4.out.2.1; have HF4 := Lib.hid (HF.out.later HB4.out); have f04 := HF4.out.1; have f14 := HF4.out.2.1))
          have hx5 := HX4.out.set (a + k) (n - k)
          have ho5 := World.ownsRow.kept HO4.out (grown_set2 w4 xb (.int .i64 ((a + k : Nat) : Int)) (.int .i64 ((n - k : Nat) : Int))) (Or.inr (fun e => by have := OT.base HO4.out xb e; omega))
          have hb5 : Below w.heap.size w ((w4.setCell ⟨xb, 0, none⟩ (.int .i64 ((a + k : Nat) : Int))).setCell ⟨xb, 1, none⟩ (.int .i64 ((n - k : Nat) : Int))) := ((HBW.out.trans (HB4.out.mono HBW.out.size)).setCell hxb _).setCell hxb _
          have hca : ((a + k : Nat) : Int) = (a : Int) + (k : Int) := by omega
          rw [hca] at hx5 ho5 hb5
          obtain ⟨W5, hW5⟩ : ∃ W5, (w4.setCell ⟨xb, 0, none⟩ (.int .i64 ((a : Int) + (k : Int)))).setCell ⟨xb, 1, none⟩ (.int .i64 ((n - k : Nat) : Int)) = W5 := ⟨_, rfl⟩
          rw [hW5] at hx5 ho5 hb5
          try rw [hW5]
          have HX5 := Lib.hid hx5
          have HO5 := Lib.hid ho5
          have HB5 := Lib.hid hb5
          have p0 := hx5.1
          have p1 := hx5.2.1
          have HM : Hid (manyOf wr (.pointer (some ⟨xb, 0, none⟩)) = n) := Lib.hid (manyOf_box HX.out)
          clear hx5 ho5 hb5 hW5
          go_wp2
          go_roundw
          case rel => exact ⟨a + k, n - k, W5.heap.size, R :: acc, rfl, HB5.out.size, by omega, by omega, HIr, Lib.hid (.of (by rw [hca]; exact heap_alloc_new W5 _)), Lib.hid (OT.alloc (OT_mono (ss := R :: acc) HO5.out hbw0) _), Lib.hid (fun k hk => (World.ownsRow.lt HO5.out k hk).2), Lib.hid (by rw [HE2.out]; simp), Lib.hid (HB5.out.alloc HB5.out.size _)⟩
          case measure => rw [HM.out, manyOf_box (.of (a := a + k) (n := n - k) (by rw [hca]; exact heap_alloc_new W5 _))]; omega
end Go.Proofs.YtmhjocbnoppbbaaDoor.Mk
