/- SHA-256: the method all of sha.chain takes all whole pieces. -/
import Derived.Test.YtmhjocbnoppbbaaShaC
namespace Go.Proofs.Ytmhjocbnoppbbaa.Sha
open Go.RowKit
set_option linter.unusedVariables false
set_option linter.unusedSimpArgs false

/-- the state behind n pieces -/
def piecesW (c ks : List Nat) (bs : List UInt8) : Nat → List Nat
  | 0 => c
  | n + 1 => takeW (piecesW c ks bs n) ks (bs.drop (64 * n))
theorem piecesW_words {c : List Nat} (h : Words c) (ks : List Nat) (bs : List UInt8) (n : Nat) : Words (piecesW c ks bs n) := by
  cases n with
  | zero => exact h
  | succ n => exact takeW_words _ _ _
theorem piecesW_length {c : List Nat} (h : c.length = 8) (ks : List Nat) (bs : List UInt8) (n : Nat) : (piecesW c ks bs n).length = 8 := by
  cases n with
  | zero => exact h
  | succ n => exact takeW_length _ _ _
theorem cut_run {P : Program} (t e : TypeId) {i : TypeInfo} (ht : P.underlying t = some (.slice e)) (hi : P.info? e = some i) (hsz : i.size = 1) (A : Option Addr) (n c m : Nat) (z : Int) (hz : z = (m : Int)) (hm : m ≤ n) :
    ∃ A' : Option Addr, (∀ W : World, (Instr.slice t (.slice A n c) (some (.int .i64 z)) none none).run P W = .ok (.slice A' (n - m) (c - m)) W) ∧ (c ≠ m → A' = A.map (·.add m)) := by
  subst hz
  refine ⟨if c = m then A else A.map (·.add m), fun W => ?_, fun h => if_neg h⟩
  have hel : P.elem t = e := by simp [Program.elem, ht]
  have hu : P.underlying t = some (.slice (P.elem t)) := by rw [hel]; exact ht
  rw [run_slice_l W t A n c hu .i64 (m : Int) (Int.natCast_nonneg _) (by omega), hel]
  simp [sizeOf, typeInfo, hi, hsz, sliced, Result.andThen]

theorem info_u8 : (Try.prog.info? 5).map (fun i => (i.size)) = some 1 := by kernel_rfl
theorem info_parts1 {t : TypeId} (h : (Try.prog.info? t).map (fun i => (i.size)) = some 1) : ∃ i, Try.prog.info? t = some i ∧ i.size = 1 := by
  obtain ⟨i, hi, hs⟩ := Option.map_eq_some_iff.1 h
  exact ⟨i, hi, hs⟩

set_option maxHeartbeats 2000000 in
set_option maxRecDepth 100000 in
theorem all_calls (c ks : List Nat) (kb g : Nat) (v : Value) (bs : List UInt8) (w : World) (hc8 : c.length = 8) (hcw : Words c) (hks : Arr w kb 87 ks) (hk64 : ks.length = 64) (hkw : Words ks) (hv : RB w g v bs) :
    Calls Try.prog 41 #[w8 c, .pointer (some ⟨kb, 0, none⟩), v] w fun e w' => ∃ v', e = .returned (.tuple #[w8 (piecesW c ks bs (bs.length / 64)), v']) ∧ RB w' g v' (bs.drop (64 * (bs.length / 64))) ∧ Below w.heap.size w w' := by
  obtain ⟨A, cp, o, rfl, hcap, hcm, hread⟩ := hv
  obtain ⟨iu, hiu, hsu⟩ := info_parts1 info_u8
  have HR := Lib.hid hread
  have HK := Lib.hid hks
  have HC8 := Lib.hid hc8
  have HK64 := Lib.hid hk64
  have HIU := Lib.hid hiu
  have HSU := Lib.hid hsu
  clear hread hks hk64 hiu hsu hc8
  obtain ⟨len, hlen⟩ : ∃ len, bs.length = len := ⟨_, rfl⟩
  rw [hlen] at hcap HR ⊢
  have HL := Lib.hid hlen
  clear hlen
  obtain ⟨c0, c1, c2, c3, c4, c5, c6, c7, hce, -⟩ := eight HC8.out hcw
  have hshow : w8 c = .agg #[.int .u32 c0, .int .u32 c1, .int .u32 c2, .int .u32 c3, .int .u32 c4, .int .u32 c5, .int .u32 c6, .int .u32 c7] := by rw [hce]; rfl
  rw [hshow]
  have H3 : Arr (w.alloc (.cells #[.int .u32 c0, .int .u32 c1, .int .u32 c2, .int .u32 c3, .int .u32 c4, .int .u32 c5, .int .u32 c6, .int .u32 c7] 61)) w.heap.size 61 c := by rw [hce]; exact heap_alloc_new w _
  have HCE := Lib.hid hce
  have H3' := Lib.hid H3
  clear hshow hce H3
  go_enter Try.func41, Try.ntmps41
  go_wp2
  go_loopw [2] (fun v wr => ∃ (k : Nat) (A : Option Addr) (n cp : Nat), v = .slice A n cp ∧ Hid (n + 64 * k = len) ∧ n ≤ cp ∧ cp ≤ 9223372036854775807 ∧ Hid (0 < n → A = some ⟨g, o + 64 * k, none⟩) ∧ Hid (Arr wr w.heap.size 61 (piecesW c ks bs k)) ∧ Hid (Arr wr (w.heap.size + 1) 61 (List.replicate 8 0)) ∧ Hid (Below w.heap.size w wr)) (fun v _ => sliceLen v)
  case atStart =>
    refine ⟨0, A, len, cp, rfl, by simp [Hid], hcap, hcm, fun h => (HR.out h).1, H3'.out.alloc _, ?_, ((Below.refl _ _).alloc (Nat.le_refl _) _).alloc (by simp) _⟩
    have := heap_alloc_new (w.alloc (.cells #[.int .u32 c0, .int .u32 c1, .int .u32 c2, .int .u32 c3, .int .u32 c4, .int .u32 c5, .int .u32 c6, .int .u32 c7] 61)) (.cells #[.int .u32 0, .int .u32 0, .int .u32 0, .int .u32 0, .int .u32 0, .int .u32 0, .int .u32 0, .int .u32 0] 61)
    rw [show (w.alloc (.cells #[.int .u32 c0, .int .u32 c1, .int .u32 c2, .int .u32 c3, .int .u32 c4, .int .u32 c5, .int .u32 c6, .int .u32 c7] 61)).heap.size = w.heap.size + 1 by simp] at this
    exact this
  case round =>
    obtain ⟨k, A, n, cp, rfl, HN, hncp, hcpm, HA, H3, H6, HB⟩ := hrel
    by_cases hlt : 64 ≤ n
    · have e0 : (64 : Int) ≤ (n : Int) := by omega
      obtain rfl := HA.out (by omega)
      have hn := HN.out
      have HD : (bs.drop (64 * k)).length = n := by rw [List.length_drop, HL.out]; omega
      have hgl := (HR.out (by omega)).2.1
      have hrd : ∀ i, i < 64 → wr.cell? ⟨g, (o + 64 * k) + i, none⟩ = some (.int .u8 ((byt (bs.drop (64 * k)) i : Nat) : Int)) := fun i hi => by
        rw [byt_drop, HB.out.cell (p := ⟨g, (o + 64 * k) + i, none⟩) hgl, Nat.add_assoc]
        exact (HR.out (by omega)).2.2 (64 * k + i) (by omega)
      have hB1 := HB.out.size
      have hB2 := H6.out.lt
      obtain ⟨A', hcut, hA'⟩ := cut_run (P := Try.prog) 64 5 Try.underlying64 HIU.out HSU.out (some ⟨g, o + 64 * k, none⟩) n cp 64 64 rfl hlt
      have HA' := Lib.hid hA'
      have HRD := Lib.hid hrd
      have hgl' : g < wr.heap.size := by omega
      have hks : Arr wr kb 87 ks := HK.out.below HB.out HK.out.lt
      have HKS := Lib.hid hks
      have hl8 := Lib.hid (piecesW_length HC8.out ks bs k)
      have hw8 := Lib.hid (piecesW_words hcw ks bs k)
      clear hn HD hrd hA' hks
      go_wp2_with (first
        | ((with_reducible show wpList _ _ _ ({ dst := _, op := Op.load 61 _, type := _, pos := _, after := _, guard := _ } :: _) _ _); refine Arr.load_step (ws := piecesW c ks bs k) (t := 61) H3.out rfl 61 8 59 _ rfl rfl Try.underlying61 (by kernel_rfl) hl8.out ?_)
        | (go_at_call 56; refine (take_calls (piecesW c ks bs k) ks kb g (o + 64 * k) n cp (bs.drop (64 * k)) wr hl8.out hw8.out HKS.out HK64.out hkw hlt HRD.out hgl').mono ?_; rintro e w1 ⟨rfl, hb1⟩)
        | ((with_reducible show wpList _ _ _ ({ dst := _, op := Op.store 61 _ _, type := _, pos := _, after := _, guard := _ } :: _) _ _); refine Arr.store_on (ws := piecesW c ks bs k) (ws' := takeW (piecesW c ks bs k) ks (bs.drop (64 * k))) (t := 61) (H3.out.below hb1 (by omega)) rfl 61 8 _ _ rfl rfl rfl (by kernel_rfl) hl8.out (takeW_length _ _ _) ?_; intro w4 h8 hg4 hz4))
      go_roundw
      case rel =>
        refine ⟨k + 1, A', n - 64, cp - 64, rfl, ?_, by omega, by omega, ?_, h8, (H6.out.below hb1 (by omega)).kept hg4 (by simp), ?_⟩
        · have := HN.out
          exact Lib.hid (by omega)
        · refine Lib.hid fun h => ?_
          rw [HA'.out (by omega)]
          simp [Addr.add, Nat.mul_add, Nat.add_assoc]
        · exact (HB.out.trans (hb1.mono hB1)).grown hg4 (by have := hb1.size; omega) (fun k hk => by injection hk with hk; omega)
      case measure => simp [sliceLen]; omega
    · have e0 : ¬ (64 : Int) ≤ (n : Int) := by omega
      have hk : k = len / 64 := by have := HN.out; omega
      have hl8 := Lib.hid (piecesW_length HC8.out ks bs k)
      have HK2 := Lib.hid hk
      clear hk
      go_wp2_with (first
        | ((with_reducible show wpList _ _ _ ({ dst := _, op := Op.load 61 _, type := _, pos := _, after := _, guard := _ } :: _) _ _); refine Arr.load_step (ws := piecesW c ks bs k) (t := 61) H3.out rfl 61 8 59 _ rfl rfl Try.underlying61 (by kernel_rfl) hl8.out ?_)
        | ((with_reducible show wpList _ _ _ ({ dst := _, op := Op.store 61 _ _, type := _, pos := _, after := _, guard := _ } :: _) _ _); refine Arr.store_step (ws := List.replicate 8 0) (ws' := piecesW c ks bs k) (t := 61) H6.out rfl 61 8 _ _ rfl rfl rfl (by kernel_rfl) rfl hl8.out ?_))
      refine bodyPost_ret (v := .tuple #[.agg ((piecesW c ks bs k).map wv).toArray, .slice A n cp]) (Arr.result2 (fn := Try.f41) (p := 6) (q := 7) (ty := 61) (H6.out.setRow _) rfl _ rfl Try.underlying61 (by kernel_rfl) hl8.out) rfl ⟨.slice A n cp, by rw [← HK2.out]; rfl, ?_, below_setRow HB.out _ (by omega) _⟩
      have hn := HN.out
      have hk2 := HK2.out
      have hl := HL.out
      have hd : (bs.drop (64 * (len / 64))).length = n := by rw [List.length_drop, hl]; omega
      refine ⟨A, cp, o + 64 * k, by rw [hd], by omega, hcpm, fun h => ?_⟩
      rw [hd] at h ⊢
      have hgl := (HR.out (by omega)).2.1
      have hB1 := HB.out.size
      refine ⟨HA.out h, by simp; omega, fun i hi => ?_⟩
      have e1 : ((wr.setRow (w.heap.size + 1) ((piecesW c ks bs k).map wv).toArray)).cell? ⟨g, o + 64 * k + i, none⟩ = w.cell? ⟨g, o + 64 * k + i, none⟩ :=
        (below_setRow HB.out (w.heap.size + 1) (by omega) _).cell (p := ⟨g, o + 64 * k + i, none⟩) hgl
      rw [e1, byt_drop, ← hk2, Nat.add_assoc]
      exact (HR.out (by omega)).2.2 (64 * k + i) (by omega)
end Go.Proofs.Ytmhjocbnoppbbaa.Sha
