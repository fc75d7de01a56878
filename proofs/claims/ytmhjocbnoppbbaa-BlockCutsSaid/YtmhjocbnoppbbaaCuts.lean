/- The law BlockCuts, walked. -/
import Derived.Test.YtmhjocbnoppbbaaCut
namespace Go.Proofs.Ytmhjocbnoppbbaa.Sha
open Go.RowKit
set_option linter.unusedVariables false
set_option linter.unusedSimpArgs false

set_option maxHeartbeats 8000000 in
set_option maxRecDepth 100000 in
theorem cuts_walk (lb : Nat) (lv : Value) (ss : List ByteArray) (w : World) (hl : SR w lb lv ss) (hss : ∀ s ∈ ss, s.size ≤ 140737488351232) :
    Calls Try.prog 4 #[lv] w fun e w' => e = .returned (.bool true) ∧ Below w.heap.size w w' := by
  have hl' := hl
  obtain ⟨A, cp, rfl, hcp, hcm, -⟩ := hl
  have HL := Lib.hid hl'
  have HSS := Lib.hid hss
  clear hl' hss
  obtain ⟨len, hlen⟩ : ∃ len, ss.length = len := ⟨_, rfl⟩
  rw [hlen] at hcp HL ⊢
  have HLEN := Lib.hid hlen
  clear hlen
  by_cases h20 : len ≤ 20
  case neg =>
    have k20 : (20 : Int) < (len : Int) := by omega
    clear h20
    go_enter Try.func4, Try.ntmps4
    go_wp2_with (go_at_call 11; refine (Blk.blk_awake_calls w).mono ?_; rintro e w1 ⟨rfl, rfl⟩)
    go_ret
    exact ⟨rfl, Below.refl _ _⟩
  case pos =>
    have k20 : ¬ (20 : Int) < (len : Int) := by omega
    go_enter Try.func4, Try.ntmps4
    go_wp2_with (go_at_call 11; refine (Blk.blk_awake_calls w).mono ?_; rintro e w1 ⟨rfl, rfl⟩)
    go_loop [3, 19] (fun u i => ∃ (k : Nat) (x : ByteArray), k ≤ len ∧ u = .string x ∧ i = .int .i64 k ∧ x.size ≤ 1000 * k ∧ Hid (x.data.toList = cat (ss.take k))) (fun _ i => len - (intOf i).toNat)
    case atStart => exact ⟨0, ByteArray.empty, by omega, rfl, rfl, by simp, by simp [Hid, cat]⟩
    case round =>
      obtain ⟨k, x, hk, rfl, rfl, hxs, HX⟩ := hrel
      by_cases hlt : k < len
      · have hl1 := HL.out
        obtain ⟨A', c', hv', -, -, hread⟩ := hl1
        rw [HLEN.out] at hread hv'
        obtain ⟨ad, hA, -, hcell⟩ := hread (by omega)
        injection hv' with hv' _ hcc
        subst hcc
        rw [← hv'] at hA
        subst hA
        have ct := hcell k hlt
        have hsn := cat_take ss k (by rw [HLEN.out]; exact hlt)
        have hssz := ss_getD HSS.out k
        obtain ⟨s, hs⟩ : ∃ s, ss.getD k ByteArray.empty = s := ⟨_, rfl⟩
        rw [hs] at ct hssz hsn
        have hb2 : (x ++ s).data.toList = cat (ss.take (k + 1)) := by rw [append_bytes, HX.out, hsn]
        have HN := Lib.hid hb2
        clear hcell hv' hs hread hsn hb2
        have k0 : (0 : Int) ≤ (k : Int) := by omega
        have k1 : (k : Int) < (len : Int) := by omega
        by_cases h2 : s.size ≤ 1000
        · have k2 : ¬ (1000 : Int) < (s.size : Int) := by omega
          have hadd : ∀ w, (Op.stringOp .add x s).run Try.prog w = .ok (.string (x ++ s)) w := fun w => run_string_add_sum w x s (by omega)
          have hx2 : (x ++ s).size ≤ 1000 * (k + 1) := by rw [append_sz]; omega
          have HX2 := Lib.hid hx2
          clear hx2
          go_wp2_with (fail)
          go_round
          case rel => exact ⟨k + 1, x ++ s, by omega, rfl, by go_num, HX2.out, HN⟩
          case measure => simp [intOf]; omega
        · have k2 : (1000 : Int) < (s.size : Int) := by omega
          go_wp2_with (fail)
          go_ret
          exact ⟨rfl, Below.refl _ _⟩
      · obtain rfl : k = len := by omega
        have hx := HX.out
        rw [List.take_of_length_le (by rw [HLEN.out]; exact Nat.le_refl _)] at hx
        have HX1 := Lib.hid hx.symm
        have hxs2 : x.size ≤ 20000 := by omega
        have hxi : (x.size : Int) ≤ 20000 := by omega
        have hbc : bcnt x ≤ 400 := by unfold bcnt; omega
        have hbci : (bcnt x : Int) ≤ 400 := by omega
        have hln : ss.length ≤ 1000000 := by rw [HLEN.out]; omega
        clear hx HX hlt hk
        go_wp2_with (go_at_call 15; refine (cut_calls lb _ ss x w HL.out hln HX1.out (by omega)).mono ?_; rintro e w1 ⟨v, g, rfl, HR, HB⟩; obtain ⟨B, cb, rfl, hcb, hcbm, -⟩ := HR.out; rw [blks_length])
        have hrn := HR.out
        rw [blks_length] at hcb hrn
        have HRN := Lib.hid hrn
        clear hrn HR
        go_loop [7] (fun u => ∃ m : Nat, u = .int .i64 m ∧ m ≤ bcnt x) (fun u => bcnt x - (intOf u).toNat)
        case atStart => exact ⟨0, rfl, by omega⟩
        case round =>
          obtain ⟨m, rfl, hm⟩ := hrel
          by_cases hmt : m < bcnt x
          · have m1 : (m : Int) * 64 < (x.size : Int) := by unfold bcnt at hmt; omega
            go_wp2_with (fail)
            go_round
            case rel => exact ⟨m + 1, by go_num, by omega⟩
            case measure => simp [intOf]; omega
          · obtain rfl : m = bcnt x := by omega
            have m1 : ¬ (bcnt x : Int) * 64 < (x.size : Int) := by unfold bcnt; omega
            have hcn := cnt_nat x
            have HCN := Lib.hid hcn
            clear hcn hmt hm
            obtain ⟨n, hn⟩ : ∃ n, bcnt x = n := ⟨_, rfl⟩
            rw [hn] at HCN HRN m1 hcb hbci hbc ⊢
            have HNN := Lib.hid hn
            clear hn
            go_wp2_with (go_at_call 13; refine (Blk.count_calls _ _ (by omega) (by omega)).mono ?_; rw [HCN.out]; rintro e w' ⟨rfl, rfl⟩)
            go_loop [8, 52] (fun u i => ∃ (k : Nat) (y : ByteArray), k ≤ n ∧ u = .string y ∧ i = .int .i64 k ∧ y.size ≤ 64 * k ∧ Hid (y.data.toList = cat (blks x k))) (fun _ i => n - (intOf i).toNat)
            case atStart => exact ⟨0, ByteArray.empty, by omega, rfl, rfl, by simp, by simp [Hid, cat, blks]⟩
            case round =>
              obtain ⟨k, y, hk, rfl, rfl, hys, HY⟩ := hrel
              by_cases hlt : k < n
              · have hl1 := HRN.out
                obtain ⟨A', c', hv', -, -, hread⟩ := hl1
                rw [blks_length] at hread hv'
                obtain ⟨bd, hA, -, hcell⟩ := hread (by omega)
                injection hv' with hv' _ hcc
                subst hcc
                rw [← hv'] at hA
                subst hA
                have ct := hcell k hlt
                rw [blks_getD x n k hlt] at ct
                have hsz := siz_nat x k (by rw [HNN.out]; exact hlt)
                have hk2 : 64 * k < x.size := by have := HNN.out; unfold bcnt at this; omega
                have hps := pc_size x k hk2
                have hsn : cat (blks x (k + 1)) = cat (blks x k) ++ (pc x k).data.toList := by rw [blks_succ, cat_append, cat_one]
                obtain ⟨p, hp⟩ : ∃ p, pc x k = p := ⟨_, rfl⟩
                rw [hp] at ct hsz hps hsn
                have hb2 : (y ++ p).data.toList = cat (blks x (k + 1)) := by rw [append_bytes, HY.out, hsn]
                have hadd : ∀ w, (Op.stringOp .add y p).run Try.prog w = .ok (.string (y ++ p)) w := fun w => run_string_add_sum w y p (by omega)
                have hy2 : (y ++ p).size ≤ 64 * (k + 1) := by rw [append_sz]; omega
                have HN := Lib.hid hb2
                have HY2 := Lib.hid hy2
                have HS := Lib.hid hsz
                have k0 : (0 : Int) ≤ (k : Int) := by omega
                have k1 : (k : Int) < (n : Int) := by omega
                have k2 : (64 : Int) * (k : Int) < (x.size : Int) := by omega
                have hq : ((p.size : Int) != min 64 ((x.size : Int) - 64 * (k : Int))) = false := by
                  rw [bne_eq_false_iff_eq]; omega
                clear hcell hv' hread hsn hb2 hy2 hp hps hsz hlt
                go_wp2_with (go_at_call 14; refine (Blk.size_calls _ _ _ (by omega) (by omega) (by omega) (by omega)).mono ?_; rw [HS.out]; rintro e w' ⟨rfl, rfl⟩)
                go_round
                case rel => exact ⟨k + 1, y ++ p, by omega, rfl, by go_num, HY2.out, HN⟩
                case measure => simp [intOf]; omega
              · obtain rfl : k = n := by omega
                have hy := HY.out
                rw [← HNN.out, cat_all] at hy
                obtain rfl : y = x := by
                  apply ByteArray.ext
                  exact Array.toList_inj.1 hy
                have hs1 : Blk.siz (y.size : Int) (k : Int) = 0 := Blk.siz_out _ _ (by rw [HCN.out]; exact Int.le_refl _)
                have hs2 : Blk.siz (y.size : Int) (-1) = 0 := Blk.siz_neg _ _ (by omega)
                have HS1 := Lib.hid hs1
                have HS2 := Lib.hid hs2
                clear hy hs1 hs2 HY hlt hk hys
                go_wp2_with (go_at_call 14; refine (Blk.size_calls _ _ _ (by omega) (by omega) (by omega) (by omega)).mono ?_; first | rw [HS1.out] | rw [HS2.out]; rintro e w' ⟨rfl, rfl⟩)
                go_ret
                exact ⟨rfl, HB.out⟩
end Go.Proofs.Ytmhjocbnoppbbaa.Sha
