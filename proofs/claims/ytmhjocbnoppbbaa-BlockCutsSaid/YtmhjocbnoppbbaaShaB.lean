/- SHA-256: sha.spread lays a piece's 64 words. -/
import Derived.Test.YtmhjocbnoppbbaaShaA
import Derived.Test.YtmhjocbnoppbbaaArr
import Derived.BigRegion
import Derived.IntWalk
import Derived.Deep.RegionHeld3
import Derived.Deep.QuietTactic
import Derived.BigQuiet
namespace Go.Proofs.Ytmhjocbnoppbbaa.Sha
open Go.RowKit
set_option linter.unusedVariables false
set_option linter.unusedSimpArgs false

theorem right_w (x : Nat) (n : Int) (w : World) (hx : x < 4294967296) (hn : turnable n = true) :
    Calls Try.prog 69 #[.int .u32 (x : Int), .int .i64 n] w fun e w' => e = .returned (.int .u32 ((rotr x n : Nat) : Int)) ∧ w' = w :=
  (right_calls x n w hx hn).mono fun e w' h => ⟨h.1, h.2.symm⟩

theorem cell_keep {wr : World} {b i j : Nat} {v u : Value} (h : wr.cell? ⟨b, i, none⟩ = some u) (hne : ¬ j = i) : ((wr.setCell ⟨b, j, none⟩ v).drew.drew).cell? ⟨b, i, none⟩ = some u :=
  (World.cell?_setCell_other (w := wr) (a := ⟨b, j, none⟩) (b := ⟨b, i, none⟩) (v := v) (fun e => hne (congrArg Addr.off e))).trans h

set_option maxHeartbeats 4000000 in
set_option maxRecDepth 100000 in
theorem spread_calls (g o n c : Nat) (bs : List UInt8) (w : World) (hn : 64 ≤ n) (hb : ∀ i, i < 64 → w.cell? ⟨g, o + i, none⟩ = some (.int .u8 ((byt bs i : Nat) : Int))) (hg : g < w.heap.size) :
    Calls Try.prog 68 #[.slice (some ⟨g, o, none⟩) n c] w fun e w' => e = .returned (.agg ((sched bs 48).map wv).toArray) ∧ Below w.heap.size w w' := by
  have hb' := Lib.hid hb
  clear hb
  go_enter Try.func68, Try.ntmps68
  go_wp2
  go_loopw [8] (fun i wr => ∃ k : Nat, k ≤ 16 ∧ i = .int .i64 k ∧ Hid (Arr wr w.heap.size 87 (List.replicate 64 0)) ∧ Hid (Arr wr (w.heap.size + 1) 87 (fill1 bs k)) ∧ Hid (Below w.heap.size w wr)) (fun i _ => 16 - (intOf i).toNat)
  case atStart =>
    refine ⟨0, by omega, rfl, ?_, ?_, ((Below.refl _ _).alloc (Nat.le_refl _) _).alloc (by simp) _⟩
    · exact Lib.hid (Arr.alloc (ws := List.replicate 64 0) (show (w.alloc (.cells ((List.replicate 64 0).map wv).toArray 87)).heap[w.heap.size]? = some _ from heap_alloc_new w _) _)
    · have := heap_alloc_new (w.alloc (.cells ((List.replicate 64 0).map wv).toArray 87)) (.cells ((List.replicate 64 0).map wv).toArray 87)
      rw [show (w.alloc (.cells ((List.replicate 64 0).map wv).toArray 87)).heap.size = w.heap.size + 1 by simp] at this
      exact this
  case round =>
    obtain ⟨k, hk, rfl, H1, H2, HB⟩ := hrel
    by_cases hlt : k < 16
    · have e0 : (0 : Int) ≤ (k : Int) := by omega
      have e1 : (k : Int) < 64 := by omega
      have e2 : (4 : Int) * (k : Int) + 3 < (n : Int) := by omega
      have cb : ∀ i, i < 64 → wr.cell? ⟨g, o + i, none⟩ = some (.int .u8 ((byt bs i : Nat) : Int)) := fun i hi => (HB.out.cell (p := ⟨g, o + i, none⟩) hg).trans (hb'.out i hi)
      have c0 := cb (4 * k) (by omega)
      have c1 := cb (4 * k + 1) (by omega)
      have c2 := cb (4 * k + 2) (by omega)
      have c3 := cb (4 * k + 3) (by omega)
      have hw := word_bits _ _ _ _ (byt_lt bs (4 * k)) (byt_lt bs (4 * k + 1)) (byt_lt bs (4 * k + 2)) (byt_lt bs (4 * k + 3))
      have HW := Lib.hid hw
      have hset := Lib.hid (fill1_set bs k hlt)
      have hl := fill1_length bs k (by omega)
      have l := H2.out.cell k (by rw [hl]; omega)
      have f := H2.out.frozen k
      have d0 := byt_lt bs (4 * k)
      have d1 := byt_lt bs (4 * k + 1)
      have d2 := byt_lt bs (4 * k + 2)
      have d3 := byt_lt bs (4 * k + 3)
      clear cb hw hl
      go_wp2
      go_region
      go_wp2
      go_roundw
      case rel =>
        rw [HW.out]
        refine ⟨k + 1, by omega, by go_num, (H1.out.set_other _ _ (by simp)).drew, ?_, (HB.out.setCell (by simp) _).drew⟩
        have := (H2.out.set k (word4 bs k)).drew
        rw [hset.out] at this
        exact this
      case measure => simp [intOf]; omega
    · obtain rfl : k = 16 := by omega
      rw [fill1_16] at H2
      rw [show (((16 : Nat) : Int)) = 16 from rfl]
      clear hk hlt
      go_wp2
      go_loopw [5] (fun i wr => ∃ k : Nat, k ≤ 48 ∧ i = .int .i64 ((16 + k : Nat) : Int) ∧ Hid (Arr wr w.heap.size 87 (List.replicate 64 0)) ∧ Hid (Arr wr (w.heap.size + 1) 87 (fill2 bs k)) ∧ Hid (Below w.heap.size w wr)) (fun i _ => 64 - (intOf i).toNat)
      case atStart =>
        exact ⟨0, by omega, rfl, H1, H2, HB⟩
      case round =>
        obtain ⟨k, hk, rfl, H1, H2, HB⟩ := hrel
        by_cases hlt : k < 48
        · have e0 : (0 : Int) ≤ 16 + (k : Int) := by omega
          have e1 : 16 + (k : Int) < 64 := by omega
          have hl := fill2_length bs k (by omega)
          have hs := sched_lt bs k
          have q0 : (sched bs k).getD k 0 < 4294967296 := getD_lt32 hs _
          have q1 : (sched bs k).getD (16 + k - 15) 0 < 4294967296 := getD_lt32 hs _
          have q7 : (sched bs k).getD (16 + k - 7) 0 < 4294967296 := getD_lt32 hs _
          have q2 : (sched bs k).getD (16 + k - 2) 0 < 4294967296 := getD_lt32 hs _
          have c0 := H2.out.cell k (by omega)
          have c1 := H2.out.cell (16 + k - 15) (by omega)
          have c7 := H2.out.cell (16 + k - 7) (by omega)
          have c2 := H2.out.cell (16 + k - 2) (by omega)
          have l := H2.out.cell (16 + k) (by omega)
          have f := H2.out.frozen (16 + k)
          rw [fill2_get bs k _ (by omega)] at c0 c1 c7 c2
          have hn : nextW (sched bs k) = ((sched bs k).getD k 0 + sml0 ((sched bs k).getD (16 + k - 15) 0) + (sched bs k).getD (16 + k - 7) 0 + sml1 ((sched bs k).getD (16 + k - 2) 0)) % 4294967296 := by
            unfold nextW; rw [sched_length, show 16 + k - 16 = k by omega]
          have hset := fill2_set bs k hlt
          rw [hn] at hset
          clear hs hl hn
          generalize (sched bs k).getD k 0 = x0 at *
          generalize (sched bs k).getD (16 + k - 15) 0 = x1 at *
          generalize (sched bs k).getD (16 + k - 7) 0 = x7 at *
          generalize (sched bs k).getD (16 + k - 2) 0 = x2 at *
          have HS := Lib.hid hset
          have HX := Lib.hid (next_bits x0 x1 x7 x2 q0 q1 q7 q2)
          clear hset
          go_wp2
          go_region
          go_wp2
          have z16 : IntKind.i64.wrap (16 + (k : Int) - 16) = (k : Int) := by rw [IntWalk.i64_in _ (by omega)]; omega
          have z7 : IntKind.i64.wrap (16 + (k : Int) - 7) = 9 + (k : Int) := by rw [IntWalk.i64_in _ (by omega)]; omega
          have y0 : (0 : Int) ≤ (k : Int) := by omega
          have y1 : (k : Int) < 64 := by omega
          have y2 : (0 : Int) ≤ 9 + (k : Int) := by omega
          have y3 : 9 + (k : Int) < 64 := by omega
          have y4 : (9 + (k : Int)).toNat = 9 + k := by omega
          have c7' : wr.cell? ⟨w.heap.size + 1, 9 + k, none⟩ = some (.int .u32 (x7 : Int)) := by rw [show 9 + k = 16 + k - 7 by omega]; exact c7
          have y5 : (16 + (k : Int)).toNat = 16 + k := by omega
          generalize (fill2 bs k).getD (16 + k) 0 = yl at l
          have n1 : ¬ (16 + k = k) := by omega
          have n2 : ¬ (16 + k = 9 + k) := by omega
          have n3 : ¬ (k = 16 + k) := by omega
          have n4 : ¬ (9 + k = 16 + k) := by omega
          go_region_held3 (fun w' => w'.cell? ⟨w.heap.size + 1, k, none⟩ = some (.int .u32 (x0 : Int)) ∧ w'.cell? ⟨w.heap.size + 1, 9 + k, none⟩ = some (.int .u32 (x7 : Int))) (first | (go_keep; done) | exact ⟨cell_keep c0 n1, cell_keep c7' n2⟩)
            (first | (go_at_call 69; refine (right_w _ _ _ ?_ rfl).mono ?_; assumption; rintro e w' ⟨rfl, rfl⟩))
          go_wp2
          go_roundw
          case rel =>
            rw [HX.out]
            refine ⟨k + 1, by omega, by go_num, (H1.out.set_other _ _ (by simp)).drew.drew, ?_, (HB.out.setCell (by simp) _).drew.drew⟩
            have := (H2.out.set (16 + k) ((x0 + sml0 x1 + x7 + sml1 x2) % 4294967296)).drew.drew
            rw [HS.out] at this
            exact this
          case measure => simp [intOf]; omega
        · obtain rfl : k = 48 := by omega
          have hl := Lib.hid (fill2_length bs 48 (by omega))
          have he : fill2 bs 48 = sched bs 48 := by simp [fill2]
          rw [he] at H2 hl
          clear hk hlt he
          go_wp2_with (first
            | (refine Arr.load_step H2.out rfl 87 64 59 _ rfl rfl Try.underlying87 (by kernel_rfl) hl.out ?_)
            | (refine Arr.store_step H1.out rfl 87 64 _ _ rfl rfl rfl (by kernel_rfl) (by simp) hl.out ?_))
          exact bodyPost_ret (v := .agg ((sched bs 48).map wv).toArray) (Arr.result (H1.out.setRow _) rfl _ rfl Try.underlying87 (by kernel_rfl) hl.out) rfl ⟨rfl, below_setRow HB.out _ (Nat.le_refl _) _⟩
end Go.Proofs.Ytmhjocbnoppbbaa.Sha
