/- The law BlockLacks, walked. -/
import Derived.Test.YtmhjocbnoppbbaaDoorReads
import Derived.Test.YtmhjocbnoppbbaaDoorErrP
import Derived.Test.YtmhjocbnoppbbaaDoorOpen
import Derived.BigQuiet
namespace Go.Proofs.YtmhjocbnoppbbaaDoor.Sha
open Go.RowKit
set_option linter.unusedVariables false
set_option linter.unusedSimpArgs false

/-- so many zero bytes, as a text -/
def zeroT (j : Nat) : ByteArray := ⟨(List.replicate j (0 : UInt8)).toArray⟩
theorem zeroT_size (j : Nat) : (zeroT j).size = j := by
  show (List.replicate j (0 : UInt8)).toArray.size = j
  simp
theorem zero_cells (j : Nat) : madeCells (Value.int .u8 0).cells j = (bcells (List.replicate j 0)).toArray := by
  apply Array.ext
  · simp [madeCells, bcells]
  · intro i h1 h2
    simp [madeCells, bcells, Value.cells, Nat.mod_one]
theorem zero_make (j : Nat) (hj : j ≤ 1000000) (w : World) : (Instr.makeSlice 33 (.int .i64 (j : Int)) (.int .i64 (j : Int))).run Tryd.prog w
    = .ok (.slice (some ⟨w.heap.size, 0, none⟩) j j) (w.alloc (.cells (bcells (List.replicate j 0)).toArray 5)) := by
  obtain ⟨i0, hi, hzz⟩ := Option.map_eq_some_iff.1 infoU8
  simp only [Prod.mk.injEq] at hzz
  obtain ⟨hz0, hz1, hz2⟩ := hzz
  have h := run_make (P := Tryd.prog) w 33 5 i0 (.int .u8 0) Tryd.underlying33 hi hz0 .i64 .i64 (j : Int) (j : Int) (by omega) (Int.le_refl _) (by rw [hz2]; omega) (by omega)
  rw [h, hz1]
  simp only [Int.toNat_natCast, Nat.mul_one]
  rw [zero_cells]
theorem zero_text (j : Nat) (hj : j ≤ 1000000) (w : World) : (convert 33 9 (.slice (some ⟨w.heap.size, 0, none⟩) j j)).run Tryd.prog (w.alloc (.cells (bcells (List.replicate j 0)).toArray 5))
    = .ok (.string (zeroT j)) (w.alloc (.cells (bcells (List.replicate j 0)).toArray 5)) :=
  (RB.lit w (List.replicate j 0) _ rfl j (by simp) (by simp; omega)).string_run

theorem KeptO.below {O : Nat → Prop} {w w' : World} (h : KeptO O w w') {B : Nat} (hB : B ≤ w.heap.size) (hO : ∀ k, O k → B ≤ k) : Below B w w' :=
  ⟨h.os, h.tape, h.output, h.size, fun k hk => h.block k (by omega) (fun e => by have := hO k e; omega)⟩
theorem G0.later {w w' : World} (h : Er.G0 w) {B : Nat} (hB : 0 < B) (hb : Below B w w') : Er.G0 w' := (hb.cell hB).trans h

/-! ### what block.Read makes of such blocks -/
theorem oneR_good {ss : List ByteArray} {n i : Int} (h0 : 0 ≤ i) (h1 : i < ss.length) (h2 : ((ss.getD i.toNat ByteArray.empty).size : Int) = Blk.siz n i) : oneR n i (ofT ss i, ofE ss i) = (ss.getD i.toNat ByteArray.empty, .nil) := by
  have ht : ofT ss i = ss.getD i.toNat ByteArray.empty := by unfold ofT; rw [if_pos ⟨h0, h1⟩]
  have he : ofE ss i = .nil := by unfold ofE; rw [if_pos ⟨h0, h1⟩]
  rw [ht, he]
  unfold oneR
  simp only
  rw [if_pos h2]
theorem oneR_bad {ss : List ByteArray} {n i : Int} (h0 : 0 ≤ i) (h1 : i < ss.length) (h2 : ((ss.getD i.toNat ByteArray.empty).size : Int) ≠ Blk.siz n i) : oneR n i (ofT ss i, ofE ss i) = (⟨#[]⟩, .at i (.no 4)) := by
  have ht : ofT ss i = ss.getD i.toNat ByteArray.empty := by unfold ofT; rw [if_pos ⟨h0, h1⟩]
  have he : ofE ss i = .nil := by unfold ofE; rw [if_pos ⟨h0, h1⟩]
  rw [ht, he]
  unfold oneR
  simp only
  rw [if_neg h2]
theorem oneR_lack {ss : List ByteArray} {n i : Int} (h1 : (ss.length : Int) ≤ i) : oneR n i (ofT ss i, ofE ss i) = (⟨#[]⟩, .at i (.no 9)) := by
  have he : ofE ss i = .no 9 := by unfold ofE; rw [if_neg (by omega)]
  rw [he]
  rfl

/-- the first k blocks from a on are there, and of their size -/
def Goods (ss : List ByteArray) (n a : Int) (k : Nat) : Prop := ∀ i : Int, a ≤ i → i < a + (k : Int) → i < ss.length ∧ ((ss.getD i.toNat ByteArray.empty).size : Int) = Blk.siz n i
theorem Goods.succ {ss : List ByteArray} {n a : Int} {k : Nat} (h : Goods ss n a k) (h1 : a + (k : Int) < ss.length) (h2 : ((ss.getD (a + (k : Int)).toNat ByteArray.empty).size : Int) = Blk.siz n (a + (k : Int))) : Goods ss n a (k + 1) := by
  intro i i0 i1
  by_cases e : i = a + (k : Int)
  · subst e; exact ⟨h1, h2⟩
  · exact h i i0 (by omega)
theorem rdl_goods (ss : List ByteArray) (n a : Int) (ha : 0 ≤ a) : ∀ (k r : Nat), Goods ss n a k → a + (k : Int) ≤ Blk.cnt n →
    ∃ l acc, rdl n (fun _ i => (ofT ss i, ofE ss i)) (r + k) [] a [] = rdl n (fun _ i => (ofT ss i, ofE ss i)) r l (a + (k : Int)) acc ∧
      (64 * (a + (k : Int)) ≤ n ∧ (acc.length : Int) = 64 * (k : Int) ∨ n ≤ 64 * (a + (k : Int)) ∧ (acc.length : Int) = n - 64 * a ∨ k = 0 ∧ acc = []) := by
  intro k
  induction k with
  | zero => intro r _ _; exact ⟨[], [], by simp, .inr (.inr ⟨rfl, rfl⟩)⟩
  | succ k ih =>
    intro r hg hc
    obtain ⟨l, acc, h1, h2⟩ := ih (r + 1) (fun i i0 i1 => hg i i0 (by omega)) (by omega)
    obtain ⟨g1, g2⟩ := hg (a + (k : Int)) (by omega) (by omega)
    have ho := oneR_good (n := n) (by omega) g1 g2
    refine ⟨l ++ [a + (k : Int)], acc ++ (ss.getD (a + (k : Int)).toNat ByteArray.empty).data.toList, ?_, ?_⟩
    · rw [show r + (k + 1) = r + 1 + k by omega, h1, rdl_nil ho, show a + ((k + 1 : Nat) : Int) = a + (k : Int) + 1 by omega]
    · obtain ⟨s1, s2⟩ := Blk.siz_in n (a + (k : Int)) (by omega) (by omega)
      have hl : (acc ++ (ss.getD (a + (k : Int)).toNat ByteArray.empty).data.toList).length = acc.length + (ss.getD (a + (k : Int)).toNat ByteArray.empty).size := by simp
      rw [hl]
      rcases h2 with h2 | h2 | ⟨rfl, rfl⟩
      · omega
      · omega
      · simp only [List.length_nil]; omega
/-- all are there -/
theorem read_goods (ss : List ByteArray) (n f m a b : Int) (hf0 : 0 ≤ f) (hm0 : 0 < m) (hm : m ≤ n - f) (ha : f / 64 = a) (hb : (f + m - 1) / 64 = b) (h : Goods ss n a (b + 1 - a).toNat) :
    ∃ s : ByteArray, s.size = m.toNat ∧ readV n f m a (rdl n (fun _ i => (ofT ss i, ofE ss i)) (b + 1 - a).toNat [] a []) = (s, .nil) := by
  have hcn : b < Blk.cnt n := by unfold Blk.cnt; omega
  obtain ⟨l, acc, h1, h2⟩ := rdl_goods ss n a (by omega) (b + 1 - a).toNat 0 h (by omega)
  rw [Nat.zero_add] at h1
  rw [h1]
  refine ⟨_, ?_, rfl⟩
  rw [ByteArray.size_extract]
  show min _ (acc.toArray.size) - _ = _
  rw [List.size_toArray]
  omega
/-- the first that fails -/
theorem read_fails (ss : List ByteArray) (n f m a b i : Int) (c : Int) (hf0 : 0 ≤ f) (hm0 : 0 < m) (hm : m ≤ n - f) (ha : f / 64 = a) (hb : (f + m - 1) / 64 = b) (h : Goods ss n a (i - a).toNat) (hi0 : a ≤ i) (hi1 : i ≤ b)
    (ho : oneR n i (ofT ss i, ofE ss i) = (⟨#[]⟩, .at i (.no c))) :
    readV n f m a (rdl n (fun _ i => (ofT ss i, ofE ss i)) (b + 1 - a).toNat [] a []) = (⟨#[]⟩, .at i (.no c)) := by
  have hcn : b < Blk.cnt n := by unfold Blk.cnt; omega
  obtain ⟨l, acc, h1, h2⟩ := rdl_goods ss n a (by omega) (i - a).toNat ((b - i).toNat + 1) h (by omega)
  rw [show (b - i).toNat + 1 + (i - a).toNat = (b + 1 - a).toNat by omega, show a + ((i - a).toNat : Int) = i by omega] at h1
  rw [h1, rdl_no ho (by simp)]
  rfl

set_option maxHeartbeats 8000000 in
set_option maxRecDepth 100000 in
theorem lacks_walk (t0 : Int) (g : Nat) (v : Value) (bs : List UInt8) (p0 p1 : Int) (w : World) (h0 : Er.G0 w) (ht0 : 0 ≤ t0) (ht1 : t0 < 65536) (hr : RB w g v bs) (hp0 : 0 ≤ p0) (hp1 : p0 < 65536) (hq0 : 0 ≤ p1) (hq1 : p1 < 65536) :
    Calls Tryd.prog 4 #[.int .u16 t0, v, .agg #[.int .u16 p0, .int .u16 p1]] w fun e w' => e = .returned (.bool true) ∧ Below w.heap.size w w' := by
  have hr' := hr
  obtain ⟨A, cp, off, rfl, hcp, hcm, -⟩ := hr
  have HR := Lib.hid hr'
  have HG := Lib.hid h0
  clear hr' h0
  obtain ⟨len, hlen⟩ : ∃ len, bs.length = len := ⟨_, rfl⟩
  rw [hlen] at hcp HR ⊢
  have HLEN := Lib.hid hlen
  clear hlen
  have hW1 : Below w.heap.size w (w.alloc (.cells #[.int .u16 p0, .int .u16 p1] 34)) := (Below.refl _ _).alloc (Nat.le_refl _) _
  have HW1 := Lib.hid hW1
  clear hW1
  go_enter Tryd.func4, Tryd.ntmps4
  go_upto_region 3 with (go_at_call 9; refine (Blk.blk_awake_calls _).mono ?_; rintro e w1 ⟨rfl, rfl⟩)
  obtain ⟨wa, hwa⟩ : ∃ wa, w.alloc (.cells #[.int .u16 p0, .int .u16 p1] 34) = wa := ⟨_, rfl⟩
  have q0 : wa.cell? ⟨w.heap.size, 0, none⟩ = some (.int .u16 p0) := by rw [← hwa]; simp
  have q1 : wa.cell? ⟨w.heap.size, 1, none⟩ = some (.int .u16 p1) := by rw [← hwa]; simp
  rw [hwa] at HW1 ⊢
  clear hwa
  go_region_held3 (fun w' => w'.cell? ⟨w.heap.size, 0, none⟩ = some (.int .u16 p0) ∧ w'.cell? ⟨w.heap.size, 1, none⟩ = some (.int .u16 p1)) (first | (go_keep; done) | exact ⟨q0, q1⟩) (fail)
  have HWD : Hid (Below w.heap.size w wa.drew) := Lib.hid HW1.out.drew
  generalize wa.drew = wb at HWD ⊢
  clear q0 q1 HW1
  have hn0 : 0 ≤ t0 % 2500 := by omega
  have hn1 : t0 % 2500 < 2500 := by omega
  by_cases h40 : len ≤ 40
  case neg =>
    have k40 : (40 : Int) < (len : Int) := by omega
    clear h40
    go_wp2
    go_ret
    exact ⟨rfl, HWD.out⟩
  case pos =>
    have k40 : ¬ (40 : Int) < (len : Int) := by omega
    go_wp2
    generalize t0 % 2500 = n at hn0 hn1 ⊢
    go_loopw [10, 32] (fun u x wr => ∃ (k : Nat) (ss : List ByteArray), x = .int .i64 (k : Int) ∧ k ≤ len ∧ ss.length = k ∧ Hid (OT wr w.heap.size u ss) ∧ Hid (Below w.heap.size w wr)) (fun _ x _ => len - (intOf x).toNat)
    case atStart => exact ⟨0, [], rfl, by omega, rfl, Lib.hid (OT.nil _ _), HWD⟩
    case round =>
      obtain ⟨k, ss, rfl, hk, hss, HO, HB⟩ := hrel
      by_cases hlt : k < len
      · obtain ⟨A', c', o', hv', -, -, hread⟩ := HR.out.later HB.out
        rw [HLEN.out] at hread hv'
        obtain ⟨hA, hgl, hcell⟩ := hread (by omega)
        injection hv' with hv' _ hcc
        subst hcc
        rw [hA] at hv'
        subst hv'
        have hc := hcell k hlt
        have hb0 : 0 ≤ ((byt bs k : Nat) : Int) := by omega
        have hb1 : ((byt bs k : Nat) : Int) < 256 := by have := byt_lt bs k; omega
        generalize ((byt bs k : Nat) : Int) = q at hc hb0 hb1
        have hj0 : 0 ≤ q % 66 := by omega
        have hj1 : q % 66 < 66 := by omega
        obtain ⟨j, hj⟩ := Int.eq_ofNat_of_zero_le hj0
        have hj2 : j ≤ 1000000 := by omega
        have hmk := zero_make j hj2
        have hcv := zero_text j hj2
        have HSS := Lib.hid hss
        clear hcell hread hA hgl hss
        obtain ⟨A1, n1, c1, hu, -⟩ := HO.out.shape
        subst hu
        have hbw : w.heap.size ≤ wr.heap.size := HB.out.size
        have hsz1 : (wr.alloc (.cells (bcells (List.replicate j 0)).toArray 5)).heap.size = wr.heap.size + 1 := by simp
        have hlit := SR.lit (wr.alloc (.cells (bcells (List.replicate j 0)).toArray 5)) [zeroT j] _ rfl 1 rfl (by simp)
        rw [hsz1] at hlit
        have HLIT := Lib.hid hlit
        clear hlit hsz1
        go_wp2_with (at_builtin; refine OT.append_on (base := w.heap.size) (w := (wr.alloc _).alloc _) (OT.alloc (OT.alloc HO.out _) _) HLIT.out (by simp) rfl _ _ rfl rfl rfl (by simp; omega) (by rw [HSS.out]; simp; omega) ?_; intro v1 w1 h1 hg1; have H1 := Lib.hid h1; have HG1 := Lib.hid hg1; clear h1 hg1)
        go_roundw
        case rel =>
          refine ⟨k + 1, ss ++ [zeroT j], by go_num, by omega, by simp [HSS.out], H1, Lib.hid ?_⟩
          exact ((HB.out.alloc hbw _).alloc (by simp; omega) _).grown HG1.out (by simp; omega) (fun i hi => HO.out.base i hi)
        case measure => simp [intOf]; omega
      · obtain rfl : k = len := by omega
        have hG0 : 0 < w.heap.size := World.block_lt_of_cell? _ _ HG.out
        obtain ⟨g1, hsr⟩ := HO.out.reads
        have hsr' := hsr
        obtain ⟨A1, c1, rfl, -, -, -⟩ := hsr'
        rw [hss] at hsr ⊢
        have HSS := Lib.hid hss
        have HSR := Lib.hid hsr
        have HOF := Lib.hid (of_calls g1 _ ss wr hsr (by rw [hss]; omega))
        have hf0 : 0 ≤ p0 % (n + 1) := Int.emod_nonneg _ (by omega)
        have hf1 : p0 % (n + 1) ≤ n := by have := Int.emod_lt_of_pos p0 (show 0 < n + 1 by omega); omega
        have hm0 : 0 ≤ p1 % (n - p0 % (n + 1) + 1) := Int.emod_nonneg _ (by omega)
        have hm1 : p1 % (n - p0 % (n + 1) + 1) ≤ n - p0 % (n + 1) := by have := Int.emod_lt_of_pos p1 (show 0 < n - p0 % (n + 1) + 1 by omega); omega
        obtain ⟨f, hf⟩ : ∃ f, p0 % (n + 1) = f := ⟨_, rfl⟩
        rw [hf] at hf0 hf1 hm0 hm1
        obtain ⟨m, hm⟩ : ∃ m, p1 % (n - f + 1) = m := ⟨_, rfl⟩
        rw [hm] at hm0 hm1
        have hbw := HB.out.size
        clear hlt hk hss hsr HR HWD
        by_cases hmz : m = 0
        · subst hmz
          go_wp2_with (first
            | (go_at_call 10; refine HOF.out.mono ?_; rintro e w2 ⟨g2, rfl, HS2, hg2, HB2⟩; have HRD := Lib.hid (read0_calls (of_source wr.heap.size g2 ss (by rw [HSS.out]; omega)) (fun i => i = wr.heap.size ∨ i = g2 ∧ ss ≠ []) [] n f w2 ⟨HS2.out, fun i => Iff.rfl⟩ (by omega) hf0 hf1))
            | (go_at_call 12; refine HRD.out.mono ?_; rintro e w3 ⟨rfl, hI3, hK3⟩; have HK3 := Lib.hid hK3; clear hI3 hK3))
          go_ret
          have hb3 := HK3.out.below (B := wr.heap.size) HB2.out.size (fun i hi => by have := hg2.out; rcases hi with h | ⟨h, _⟩ <;> omega)
          exact ⟨rfl, HB.out.trans ((HB2.out.trans hb3).mono hbw)⟩
        · have mp : 0 < m := by omega
          have mz : (m == 0) = false := by rw [beq_eq_false_iff_ne]; exact hmz
          obtain ⟨a, ha⟩ : ∃ a, f / 64 = a := ⟨_, rfl⟩
          obtain ⟨b, hb⟩ : ∃ b, (f + m - 1) / 64 = b := ⟨_, rfl⟩
          have ha0 : 0 ≤ a := by omega
          have hb9 : b ≤ 1000000 := by omega
          have hcn : b < Blk.cnt n := by unfold Blk.cnt; omega
          obtain ⟨V, hV⟩ : ∃ V, readV n f m a (rdl n (fun _ i => (ofT ss i, ofE ss i)) (b + 1 - a).toNat [] a []) = V := ⟨_, rfl⟩
          obtain ⟨s0, e0⟩ := V
          have HV := Lib.hid hV
          have HA := Lib.hid ha
          have HBB := Lib.hid hb
          have HCN := Lib.hid hcn
          clear hmz hV hcn
          go_wp2_with (first
            | (go_at_call 10; refine HOF.out.mono ?_; rintro e w2 ⟨g2, rfl, HS2, hg2, HB2⟩; have HRD := Lib.hid (readn_calls (of_source wr.heap.size g2 ss (by rw [HSS.out]; omega)) (fun i => i = wr.heap.size ∨ i = g2 ∧ ss ≠ []) [] n f m a b w2 ⟨HS2.out, fun i => Iff.rfl⟩ (by omega) hf0 mp hm1 HA.out HBB.out (fun _ _ _ _ _ => trivial) (s0, e0) HV.out))
            | (go_at_call 12; refine HRD.out.mono ?_; rintro e w3 ⟨rfl, hI3⟩; have HI3 := Lib.hid hI3; clear hI3))
          have HB3 : Hid (Below wr.heap.size wr w3) := Lib.hid (by
            obtain ⟨O', hI, hO, hK3⟩ := HI3.out
            exact HB2.out.trans (hK3.below (B := wr.heap.size) HB2.out.size (fun i hi => by have := hg2.out; rcases hi with h | ⟨h, _⟩ <;> omega)))
          have HBW : Hid (Below w.heap.size w w3) := Lib.hid (HB.out.trans (HB3.out.mono hbw))
          have HG3 : Hid (Er.G0 w3) := Lib.hid (G0.later HG.out hG0 HBW.out)
          have HS3 := Lib.hid (HSR.out.later HB3.out)
          clear HI3 HRD HOF
          go_loopw [17] (fun x wz => ∃ j : Nat, x = .int .i64 (a + (j : Int)) ∧ a + (j : Int) ≤ b + 1 ∧ Hid (Goods ss n a j) ∧ wz = w3) (fun x _ => (b + 1 - intOf x).toNat)
          case atStart => exact ⟨0, by simp [ha], by omega, Lib.hid (fun i h1 h2 => by omega), rfl⟩
          case round =>
            obtain ⟨j, rfl, hj, HGD, hwz⟩ := hrel
            subst hwz
            by_cases hlt : a + (j : Int) ≤ b
            · by_cases hin : a + (j : Int) < (k : Int)
              · obtain ⟨A', c', hv', -, -, hread⟩ := HS3.out
                obtain ⟨ad, hA', -, hcell⟩ := hread (by rw [HSS.out]; omega)
                rw [HSS.out] at hcell hv'
                injection hv' with hv' _ hcc
                subst hcc
                rw [hA'] at hv'
                subst hv'
                have hc := hcell (a + (j : Int)).toNat (by omega)
                obtain ⟨i1, i2⟩ := Blk.siz_in n (a + (j : Int)) (by omega) (by have := HCN.out; omega)
                have hmin : min 64 (n - 64 * (a + (j : Int))) = Blk.siz n (a + (j : Int)) := by omega
                obtain ⟨p, hp⟩ : ∃ p, ss.getD (a + (j : Int)).toNat ByteArray.empty = p := ⟨_, rfl⟩
                rw [hp] at hc
                have hi0 : 0 ≤ a + (j : Int) := by omega
                by_cases hsz : (p.size : Int) = Blk.siz n (a + (j : Int))
                · have hq : ((p.size : Int) != min 64 (n - 64 * (a + (j : Int)))) = false := by rw [hmin, hsz]; simp
                  have HGD2 := Lib.hid (HGD.out.succ (by rw [HSS.out]; exact hin) (by rw [hp]; exact hsz))
                  clear hcell hread hA' i1 i2 hmin hp hsz
                  go_wp2_with fail
                  go_roundw
                  case rel => exact ⟨j + 1, by go_num, by omega, HGD2, trivial⟩
                  case measure => simp [intOf]; omega
                · have hq : ((p.size : Int) != min 64 (n - 64 * (a + (j : Int)))) = true := by rw [bne_iff_ne, hmin]; exact hsz
                  have hfl := read_fails ss n f m a b (a + (j : Int)) 4 hf0 mp hm1 ha hb (by rw [show (a + (j : Int) - a).toNat = j by omega]; exact HGD.out) (by omega) hlt (oneR_bad hi0 (by rw [HSS.out]; exact hin) (by rw [hp]; exact hsz))
                  rw [HV.out] at hfl
                  injection hfl with h1 h2
                  subst h1 h2
                  have hcd := Lib.hid (Er.code_calls (.at (a + (j : Int)) (.no 4)) _ HG3.out)
                  rw [show (Er.Er.at (a + (j : Int)) (.no 4)).code = 4 from rfl] at hcd
                  clear hcell hread hA' i1 i2 hmin hp hsz
                  go_wp2_with (first
                    | (go_at_call 11; refine hcd.out.mono ?_; rintro e w4 ⟨rfl, HB4⟩; have hpl := Lib.hid (Er.place_calls (.at (a + (j : Int)) (.no 4)) w4 (G0.later HG3.out (Nat.lt_of_lt_of_le hG0 HBW.out.size) HB4.out)); rw [show (Er.Er.at (a + (j : Int)) (.no 4)).place = a + (j : Int) from rfl] at hpl)
                    | (go_at_call 13; refine hpl.out.mono ?_; rintro e w5 ⟨rfl, HB5⟩))
                  go_ret
                  exact ⟨rfl, (HBW.out.trans (HB4.out.mono HBW.out.size)).trans (HB5.out.mono (Nat.le_trans HBW.out.size HB4.out.size))⟩
              · have hfl := read_fails ss n f m a b (a + (j : Int)) 9 hf0 mp hm1 ha hb (by rw [show (a + (j : Int) - a).toNat = j by omega]; exact HGD.out) (by omega) hlt (oneR_lack (by rw [HSS.out]; omega))
                rw [HV.out] at hfl
                injection hfl with h1 h2
                subst h1 h2
                have hge : (k : Int) ≤ a + (j : Int) := by omega
                have hcd := Lib.hid (Er.code_calls (.at (a + (j : Int)) (.no 9)) _ HG3.out)
                rw [show (Er.Er.at (a + (j : Int)) (.no 9)).code = 9 from rfl] at hcd
                clear hin
                go_wp2_with (first
                  | (go_at_call 11; refine hcd.out.mono ?_; rintro e w4 ⟨rfl, HB4⟩; have hpl := Lib.hid (Er.place_calls (.at (a + (j : Int)) (.no 9)) w4 (G0.later HG3.out (Nat.lt_of_lt_of_le hG0 HBW.out.size) HB4.out)); rw [show (Er.Er.at (a + (j : Int)) (.no 9)).place = a + (j : Int) from rfl] at hpl)
                  | (go_at_call 13; refine hpl.out.mono ?_; rintro e w5 ⟨rfl, HB5⟩))
                go_ret
                exact ⟨rfl, (HBW.out.trans (HB4.out.mono HBW.out.size)).trans (HB5.out.mono (Nat.le_trans HBW.out.size HB4.out.size))⟩
            · obtain ⟨s, hs1, hs2⟩ := read_goods ss n f m a b hf0 mp hm1 ha hb (by rw [show (b + 1 - a).toNat = j by omega]; exact HGD.out)
              rw [HV.out] at hs2
              injection hs2 with h1 h2
              subst h1 h2
              have hms : (s0.size : Int) = m := by omega
              have hgt : ¬ (a + (j : Int) ≤ b) := hlt
              simp only [Er.Er.val]
              clear hs1
              go_wp2_with fail
              go_ret
              exact ⟨rfl, HBW.out⟩

theorem lacks_row (t0 : Int) (g : Nat) (v : Value) (bs : List UInt8) (p0 p1 : Int) (w : World) (h0 : Er.G0 w) (ht : (Lit.int .u16 t0).wf = true) (hr : RB w g v bs) (hp : (Lit.int .u16 p0).wf = true) (hq : (Lit.int .u16 p1).wf = true) :
    Calls Tryd.prog 4 #[.int .u16 t0, v, .agg #[.int .u16 p0, .int .u16 p1]] w fun e w' => e = .returned (.bool true) ∧ Below w.heap.size w w' :=
  lacks_walk t0 g v bs p0 p1 w h0 (u16_wf ht).1 (u16_wf ht).2 hr (u16_wf hp).1 (u16_wf hp).2 (u16_wf hq).1 (u16_wf hq).2
end Go.Proofs.YtmhjocbnoppbbaaDoor.Sha
