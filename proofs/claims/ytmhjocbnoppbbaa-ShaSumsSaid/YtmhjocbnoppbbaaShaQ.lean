/- A state that isn't there; the law ShaSums, walked. -/
import Derived.Test.YtmhjocbnoppbbaaRefT
import Derived.Test.YtmhjocbnoppbbaaShaM
namespace Go.Proofs.Ytmhjocbnoppbbaa.Sha
open Go.RowKit
set_option linter.unusedVariables false
set_option linter.unusedSimpArgs false

theorem write_nil_calls (v : Value) (w : World) :
    Calls Try.prog 19 #[.pointer none, v] w fun e w' => e = .returned (.tuple #[]) ∧ w = w' := by
  go_enter Try.func19, Try.ntmps19
  go_wp2
  exact bodyPost_ret (results_none rfl _ _ _) rfl ⟨rfl, rfl⟩
theorem summed_nil_calls (w : World) :
    Calls Try.prog 21 #[.pointer none] w fun e w' => e = .returned (.string ⟨#[]⟩) ∧ w = w' := by
  go_enter Try.func21, Try.ntmps21
  go_wp2
  go_ret
  exact ⟨rfl, rfl⟩
theorem cat_all (ss : List ByteArray) (len : Nat) (h : ss.length = len) : cat (ss.take len) = cat ss := by rw [← h, List.take_length]

set_option maxHeartbeats 4000000 in
set_option maxRecDepth 100000 in
theorem sums_walk (lb : Nat) (lv : Value) (ss : List ByteArray) (w : World) (hl : SR w lb lv ss) (hss : ∀ s ∈ ss, s.size ≤ 140737488351232) :
    Calls Try.prog 5 #[lv] w fun e w' => e = .returned (.bool true) ∧ Below w.heap.size w w' := by
  have hl' := hl
  obtain ⟨A, cp, rfl, hcp, hcm, -⟩ := hl
  have HL := Lib.hid hl'
  have HSS := Lib.hid hss
  clear hl' hss
  obtain ⟨len, hlen⟩ : ∃ len, ss.length = len := ⟨_, rfl⟩
  rw [hlen] at hcp HL ⊢
  have HLEN := Lib.hid hlen
  clear hlen
  go_enter Try.func5, Try.ntmps5
  by_cases h30 : len ≤ 20
  case neg =>
    have k30 : (20 : Int) < (len : Int) := by omega
    clear h30
    go_wp2_with (go_at_call 16; refine (awake_calls w).mono ?_; rintro e w1 ⟨rfl, HB1⟩)
    go_ret
    exact ⟨rfl, HB1.out⟩
  case pos =>
    have k30 : ¬ (20 : Int) < (len : Int) := by omega
    clear h30
    go_wp2_with (go_at_call 16; refine (awake_calls w).mono ?_; rintro e w1 ⟨rfl, HB1⟩)
    have HBB := Lib.hid HB1.out
    clear HB1
    go_loopw [3, 18] (fun u i wr => ∃ (k : Nat) (b : ByteArray), k ≤ len ∧ u = .string b ∧ i = .int .i64 k ∧ b.size ≤ 400 ∧ Hid (b.data.toList = cat (ss.take k)) ∧ Hid (Below w.heap.size w wr)) (fun _ i _ => len - (intOf i).toNat)
    case atStart => exact ⟨0, ByteArray.empty, by omega, rfl, rfl, by simp, by simp [Hid, cat], HBB⟩
    case round =>
      clear HBB
      obtain ⟨k, b, hk, rfl, rfl, hbs, HC, HB⟩ := hrel
      by_cases hlt : k < len
      · have hbw := HB.out.size
        have hl1 := HL.out.later HB.out
        obtain ⟨A', c', hv', -, -, hread⟩ := hl1
        rw [HLEN.out] at hread hv'
        obtain ⟨ad, hA, -, hcell⟩ := hread (by omega)
        injection hv' with hv' _ hcc
        subst hcc
        rw [← hv'] at hA
        subst hA
        have ct := hcell k hlt
        have hsn := cat_take ss k (by rw [HLEN.out]; exact hlt)
        have hssz := ss_getD HSS.out k
        obtain ⟨s, hs⟩ : ∃ s, ss.getD k ByteArray.empty = s := ⟨_, rfl⟩
        rw [hs] at ct hsn hssz
        have hb2 : (b ++ s).data.toList = cat (ss.take (k + 1)) := by rw [append_bytes, HC.out, hsn]
        have hadd : ∀ w, (Op.stringOp .add b s).run Try.prog w = .ok (.string (b ++ s)) w := fun w => run_string_add_sum w b s (by omega)
        obtain ⟨b2, hbe⟩ : ∃ b2, b ++ s = b2 := ⟨_, rfl⟩
        rw [hbe] at hb2 hadd
        have HN := Lib.hid hb2
        clear hcell hv' hsn hs hb2 hbe hread
        have k0 : (0 : Int) ≤ (k : Int) := by omega
        have k1 : (k : Int) < (len : Int) := by omega
        by_cases h3 : b2.size ≤ 400
        · have k3 : ¬ (400 : Int) < (b2.size : Int) := by omega
          have H3 := Lib.hid h3
          clear h3
          go_wp2_with (fail)
          go_roundw
          case rel => exact ⟨k + 1, b2, by omega, rfl, by go_num, H3.out, HN, HB⟩
          case measure => simp [intOf]; omega
        · have k3 : (400 : Int) < (b2.size : Int) := by omega
          clear h3
          go_wp2_with (fail)
          go_ret
          exact ⟨rfl, HB.out⟩
      · obtain rfl : k = len := by omega
        have hcb : b.data.toList = cat ss := by rw [HC.out]; exact cat_all ss _ HLEN.out
        have HCB := Lib.hid hcb
        have HB0 := Lib.hid HB.out
        clear hlt hk HC HB hcb
        go_wp2_with (first
          | (go_at_call 17; refine (Ref.digest_calls _ _ (by omega)).mono ?_; rintro e w2 ⟨rfl, HB2⟩)
          | (go_at_call 18; refine (newT_calls w2).mono ?_; rintro e w3 ⟨rfl, HS3, HB3⟩))
        obtain ⟨D, hD⟩ : ∃ D, dig b.data.toList = D := ⟨_, rfl⟩
        rw [hD]
        rw [HCB.out] at hD
        have HD := Lib.hid hD
        have hb2 : Below w.heap.size w w2 := HB0.out.trans (HB2.out.mono HB0.out.size)
        have hb3 : Below w.heap.size w w3 := hb2.trans (HB3.out.mono hb2.size)
        have HBB := Lib.hid hb3
        have hsb : w.heap.size ≤ w2.heap.size + 1 := by have := hb2.size; omega
        obtain ⟨sb, hsb'⟩ : ∃ sb, w2.heap.size + 1 = sb := ⟨_, rfl⟩
        obtain ⟨kb, hkb'⟩ : ∃ kb, w2.heap.size = kb := ⟨_, rfl⟩
        rw [hsb'] at HS3 hsb ⊢
        rw [hkb'] at HS3
        clear HB0 HB2 HB3 hb2 hb3 hsb' hkb' hD
        go_loopw [34] (fun i wr => ∃ (j : Nat), j ≤ k ∧ i = .int .i64 j ∧ Hid (StT wr sb kb (cat (ss.take j))) ∧ Hid (Below w.heap.size w wr)) (fun i _ => k - (intOf i).toNat)
        case atStart => exact ⟨0, by omega, rfl, by simpa [Hid, cat] using HS3, HBB⟩
        case round =>
          clear HS3 HBB
          obtain ⟨j, hj, rfl, HS, HB⟩ := hrel
          rename World => w4
          by_cases hlt : j < k
          · have hbw := HB.out.size
            have hl1 := HL.out.later HB.out
            obtain ⟨A', c', hv', -, -, hread⟩ := hl1
            rw [HLEN.out] at hread hv'
            obtain ⟨ad, hA, -, hcell⟩ := hread (by omega)
            injection hv' with hv' _ hcc
            subst hcc
            rw [← hv'] at hA
            subst hA
            have ct := hcell j hlt
            have hsn := cat_take ss j (by rw [HLEN.out]; exact hlt)
            obtain ⟨s, hs⟩ : ∃ s, ss.getD j ByteArray.empty = s := ⟨_, rfl⟩
            rw [hs] at ct hsn
            have hle : (cat (ss.take (j + 1))).length ≤ b.size := by
              have := cat_take_le ss (j + 1)
              rw [← HCB.out, toList_len] at this
              exact this
            have hsz4 : (cat (ss.take j)).length + (cat [s]).length ≤ 1000000 := by
              rw [hsn, List.length_append] at hle
              rw [cat_one]; omega
            have HSN := Lib.hid hsn
            have HSZ4 := Lib.hid hsz4
            have hwsb : w4.heap.size ≠ sb := by have := HS.out.lt; omega
            clear hcell hv' hsn hs hread hle hsz4
            have j0 : (0 : Int) ≤ (j : Int) := by omega
            have j1 : (j : Int) < (k : Int) := by omega
            go_wp2_with ((go_at_call 19; refine (write_calls sb kb w4.heap.size (cat (ss.take j)) _ [s] _ (HS.out.later ((Below.refl _ _).alloc (Nat.le_refl _) _)) (SR.lit w4 [s] _ rfl 1 rfl (by simp)) hwsb HSZ4.out).mono ?_; rintro e w5 ⟨rfl, hs5, hg5⟩; rw [cat_one, ← HSN.out] at hs5; have HB5 : Hid (Below w.heap.size w w5) := Lib.hid ((HB.out.alloc hbw _).grown hg5 (by simp; omega) (fun k hk => by injection hk with hk; omega)); have HS5 := Lib.hid hs5; clear hs5 hg5))
            go_roundw
            case rel => exact ⟨j + 1, by omega, by go_num, HS5, HB5⟩
            case measure => simp [intOf]; omega
          · obtain rfl : j = k := by omega
            have hst := HS.out
            rw [cat_all ss _ HLEN.out] at hst
            have HST := Lib.hid hst
            have hbl : (cat ss).length = b.size := by rw [← HCB.out, toList_len]
            have hsz5 : (cat ss).length ≤ 1000000 := by omega
            have HSZ5 := Lib.hid hsz5
            have HBL := Lib.hid hbl
            have hD2 : dig (cat [b]) = D := by rw [cat_one, HCB.out]; exact HD.out
            have HD2 := Lib.hid hD2
            have hsz6 : (cat [b]).length ≤ 1000000 := by rw [cat_one, toList_len]; omega
            have HSZ6 := Lib.hid hsz6
            clear hst HS hlt hj hbl hsz5 hD2 hsz6
            go_wp2_with (first
              | (go_at_call 19; refine (write_nil_calls _ _).mono ?_; rintro e w' ⟨rfl, rfl⟩)
              | (go_at_call 20; have hx := HS5; refine (sum_calls w5.heap.size _ [b] _ (SR.lit w5 [b] _ rfl 1 rfl (by simp)) HSZ6.out).mono ?_; rw [HD2.out]; rintro e w6 ⟨rfl, hb6⟩; have hb56 : Below w5.heap.size w5 w6 := Below.trans ((Below.refl _ _).alloc (Nat.le_refl _) _) (hb6.mono (by simp)); have HS6 := Lib.hid (HS5.out.later hb56); have HB6 := Lib.hid (HB5.out.trans (hb56.mono HB5.out.size)); clear hb6 hb56 hx)
              | (go_at_call 20; refine (sum_calls lb _ ss w4 (HL.out.later HB.out) HSZ5.out).mono ?_; rw [HD.out]; rintro e w5 ⟨rfl, hb5⟩; have HB5 := Lib.hid (HB.out.trans (hb5.mono HB.out.size)); have HS5 := Lib.hid (HST.out.later hb5); clear hb5)
              | (go_at_call 21; have hx := HS7; refine (summed_nil_calls _).mono ?_; rintro e w8 ⟨rfl, rfl⟩; clear hx; have HL8 := Lib.hid trivial)
              | (go_at_call 21; refine (summed_calls sb kb (cat ss) w6 HS6.out HSZ5.out).mono ?_; rw [HD.out]; rintro e w7 ⟨rfl, hb7⟩; have HS7 := Lib.hid (HS6.out.later hb7); have HB7 := Lib.hid (HB6.out.trans (hb7.mono HB6.out.size)); clear hb7)
              | (go_at_call 22; have hx := HL8; refine (len_nil_calls _).mono ?_; rintro e w9 ⟨rfl, rfl⟩; clear hx)
              | (go_at_call 22; refine (lenT_calls HS7.out).mono ?_; rw [HBL.out]; rintro e w8 ⟨rfl, rfl⟩))
            go_ret
            exact ⟨rfl, HB7.out⟩
end Go.Proofs.Ytmhjocbnoppbbaa.Sha
