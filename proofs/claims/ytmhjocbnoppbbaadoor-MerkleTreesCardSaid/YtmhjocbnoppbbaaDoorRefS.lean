/- The reference's Sum, walked. -/
import Derived.Test.YtmhjocbnoppbbaaDoorRefL4
import Derived.Test.YtmhjocbnoppbbaaDoorRefL9
import Derived.Test.YtmhjocbnoppbbaaDoorRefF
namespace Go.Proofs.YtmhjocbnoppbbaaDoor.Sha
open Go.RowKit
set_option linter.unusedVariables false
set_option linter.unusedSimpArgs false

/-- the last j bytes of a number's eight -/
def tl (x j : Nat) : List Nat := (nums (be8 x)).drop (8 - j)
theorem tl_succ (x j : Nat) (hj : j < 8) : [x / 256 ^ j % 256] ++ tl x j = tl x (j + 1) := by
  have h : j = 0 ∨ j = 1 ∨ j = 2 ∨ j = 3 ∨ j = 4 ∨ j = 5 ∨ j = 6 ∨ j = 7 := by omega
  rcases h with rfl | rfl | rfl | rfl | rfl | rfl | rfl | rfl <;> simp [tl, nums, be8]
theorem tl_length (x j : Nat) (hj : j ≤ 8) : (tl x j).length = j := by
  unfold tl; rw [List.length_drop, nums_length]; simp [be8]; omega
theorem tl_all (x : Nat) : tl x 8 = nums (be8 x) := rfl

theorem endW_mult (bs : List UInt8) (m : Nat) (hm : bs.length = m) : (endW bs m).length = 64 * ((endW bs m).length / 64) := by
  have : (endW bs m).length = bs.length + 1 + padZ (bs.length + 1) + 8 := by unfold endW; simp [be8]; omega
  rw [this]; unfold padZ; omega
/-- all numbers of a padded text -/
def padded (t : ByteArray) : List Nat := nums (endW t.data.toList t.size)

set_option maxHeartbeats 8000000 in
set_option maxRecDepth 100000 in
theorem refsum_calls (kb hb0 : Nat) (kv hv : Value) (t : ByteArray) (w : World) (hk : IR w kb kv K64) (hh : IR w hb0 hv H8) (hsz : t.size ≤ 1000000) :
    Calls Tryd.prog 62 #[.string t, kv, hv] w fun e w' => e = .returned (.string (dig t.data.toList)) ∧ Hid (Below w.heap.size w w') := by
  have hk' := hk
  obtain ⟨Ak, kc, hkv, hk1, hk2, hk3⟩ := hk'
  obtain ⟨rfl, -, -⟩ := hk3 (by rw [K64_length]; omega)
  have hkv' : kv = .slice (some ⟨kb, 0, none⟩) 64 kc := by rw [hkv, K64_length]
  clear hkv hk3 hk1 hk2
  subst hkv'
  have HK := Lib.hid hk
  have HH := Lib.hid hh
  clear hk hh
  have htl : t.data.toList.length = t.size := by rw [Array.length_toList]; rfl
  have HTL := Lib.hid htl
  clear htl
  go_enter Tryd.func62, Tryd.ntmps62
  go_wp2
  have HO : Hid (OI (w.alloc (.cells #[] 3)) w.heap.size (.slice (some ⟨w.heap.size, 0, none⟩) 0 0) (nums (t.data.toList.take 0))) := Lib.hid (OI.fresh w w.heap.size (Nat.le_refl _))
  go_loopw [7, 8] (fun u i wr => ∃ (j : Nat), i = .int .i64 (j : Int) ∧ j ≤ t.size ∧ Hid (OI wr w.heap.size u (nums (t.data.toList.take j))) ∧ Hid (Below w.heap.size w wr)) (fun _ i _ => (t.size - intOf i).toNat)
  case atStart => exact ⟨0, rfl, by omega, HO, Lib.hid ((Below.refl _ _).alloc (Nat.le_refl _) _)⟩
  case round =>
    clear HO
    obtain ⟨j, rfl, hj, HO, HB⟩ := hrel
    have hbw := HB.out.size
    by_cases hlt : j < t.size
    · have hix := run_index_byte (P := Tryd.prog) 9 Tryd.underlying9 t j hlt
      have hsn := nums_take_succ t.data.toList j (by rw [HTL.out]; exact hlt)
      have hxl := byt_lt t.data.toList j
      obtain ⟨x, hx⟩ : ∃ x, byt t.data.toList j = x := ⟨_, rfl⟩
      rw [hx] at hix hsn hxl
      have HSN := Lib.hid hsn
      have hlen : (nums (t.data.toList.take j)).length ≤ 1000000 := by rw [nums_length, List.length_take]; omega
      have HLEN := Lib.hid hlen
      have j0 : (j : Int) < (t.size : Int) := by omega
      have j1 : (0 : Int) ≤ (j : Int) := by omega
      clear hsn hx hlen
      go_wp2_with (at_builtin; refine OI.append_on (base := w.heap.size) (w := wr.alloc _) (OI.alloc HO.out _) (IR.lit wr [x] _ rfl 1 rfl (by simp)) rfl _ _ rfl rfl rfl (by simp; omega) (by have := HLEN.out; simp; omega) ?_; intro v1 w1 h1 hg1)
      go_roundw
      case rel =>
        refine ⟨j + 1, by go_num, by omega, ?_, Lib.hid ((HB.out.alloc hbw _).grown hg1 (by simp; omega) (OI.base HO.out))⟩
        rw [HSN.out]
        exact h1
      case measure => simp [intOf]; omega
    · obtain rfl : j = t.size := by omega
      have ho := HO.out
      rw [List.take_of_length_le (by rw [HTL.out]; exact Nat.le_refl _)] at ho
      have HO1 := Lib.hid ho
      have hl1 : (nums t.data.toList).length ≤ 1000000 := by rw [nums_length, HTL.out]; omega
      have HL1 := Lib.hid hl1
      clear ho HO hlt hj hl1
      go_upto_region 7 with (at_builtin; refine OI.append_on (base := w.heap.size) (w := wr.alloc _) (OI.alloc HO1.out _) (IR.lit wr [128] _ rfl 1 rfl (by simp)) rfl _ _ rfl rfl rfl (by simp; omega) (by have := HL1.out; simp; omega) ?_; intro v1 w1 h1 hg1)
      have hb1 := (HB.out.alloc hbw (.cells #[.int .i64 128] 3)).grown hg1 (by simp; omega) (OI.base HO1.out)
      have HB1 := Lib.hid hb1
      have H1 : Hid (OI w1 w.heap.size v1 (nums (t.data.toList ++ [128] ++ List.replicate 0 0))) := by
        have e : nums (t.data.toList ++ [128] ++ List.replicate 0 0) = nums t.data.toList ++ [128] := by simp [nums]
        rw [e]; exact h1
      clear hb1 h1 hg1 HO1 HL1 HB hbw
      go_loopw [7] (fun u wr => ∃ z : Nat, Hid (z ≤ padZ (t.size + 1)) ∧ Hid (OI wr w.heap.size u (nums (t.data.toList ++ [128] ++ List.replicate z 0))) ∧ Hid (Below w.heap.size w wr)) (fun u _ => t.size + 1 + padZ (t.size + 1) - sliceLen u)
      case atStart => exact ⟨0, Nat.zero_le _, H1, HB1⟩
      case round =>
        clear H1 HB1
        obtain ⟨z, hz, HO, HB⟩ := hrel
        obtain ⟨g1, hr1, -⟩ := HO.out.reads
        obtain ⟨A, c, hu, hc1, hc2, -⟩ := hr1
        have hlen : (nums (t.data.toList ++ [128] ++ List.replicate z (0 : UInt8))).length = t.size + 1 + z := by rw [nums_length]; simp only [List.length_append, List.length_replicate, List.length_cons, List.length_nil, HTL.out]
        rw [hlen] at hu hc1
        subst hu
        have hzb : padZ (t.size + 1) < 64 := Nat.mod_lt _ (by omega)
        have hbw := HB.out.size
        have HLEN := Lib.hid hlen
        clear hlen
        by_cases hlt : z < padZ (t.size + 1)
        · have ht : (((t.size : Int) + 1 + (z : Int)) % 64 == 56) = false := by
            rw [beq_eq_false_iff_ne]
            unfold padZ at hlt
            omega
          have ht2 : (((t.size : Int) + 1 + (z : Int)) % 64 != 56) = true := by rw [bne, ht]; rfl
          have HZ := Lib.hid hlt
          have hzl : z ≤ 100 := by omega
          clear hlt
          go_wp2_with (at_builtin; refine OI.append_on (base := w.heap.size) (w := wr.alloc _) (OI.alloc HO.out _) (IR.lit wr [0] _ rfl 1 rfl (by simp)) rfl _ _ rfl rfl rfl (by simp; omega) (by rw [HLEN.out]; simp; omega) ?_; intro v1 w1 h1 hg1)
          have hz1 := HZ.out
          refine ⟨⟨z + 1, Lib.hid (by omega), ?_, Lib.hid ((HB.out.alloc hbw _).grown hg1 (by simp; omega) (OI.base HO.out))⟩, ?_⟩
          · have e : nums (t.data.toList ++ [128] ++ List.replicate (z + 1) (0 : UInt8)) = nums (t.data.toList ++ [128] ++ List.replicate z 0) ++ [0] := by
              rw [List.replicate_succ', ← List.append_assoc, nums_append]; rfl
            rw [e]
            exact h1
          · obtain ⟨g3, hr3, -⟩ := h1.reads
            obtain ⟨A3, c3, rfl, -⟩ := hr3
            simp only [sliceLen, List.length_append, HLEN.out]
            simp
            omega
        · have hz1 := hz.out
          have ht : (((t.size : Int) + 1 + (z : Int)) % 64 == 56) = true := by
            rw [beq_iff_eq]
            have : z = padZ (t.size + 1) := by omega
            rw [this]
            unfold padZ
            omega
          have ht2 : (((t.size : Int) + 1 + (z : Int)) % 64 != 56) = false := by rw [bne, ht]; rfl
          have hze : z = padZ (t.size + 1) := by omega
          have HZ := Lib.hid hze
          have hzl : z ≤ 100 := by omega
          have hmI : (t.size : Int) ≤ 1000000 := by omega
          clear hlt hze hz1 hz
          go_wp2
          obtain ⟨u, hu⟩ : ∃ u, Value.slice A (t.size + 1 + z) c = u := ⟨_, rfl⟩
          rw [hu] at HO ⊢
          clear hu hc1 hc2
          have HT0 : Hid (OI (wr.alloc (.cells #[] 3)) wr.heap.size (.slice (some ⟨wr.heap.size, 0, none⟩) 0 0) (tl (8 * t.size) 0)) := Lib.hid (OI.fresh wr wr.heap.size (Nat.le_refl _))
          obtain ⟨W0, hW0⟩ : ∃ W, wr = W := ⟨_, rfl⟩
          rw [hW0] at HO HB HT0 hbw ⊢
          clear hW0
          go_loopw [9, 10, 11] (fun l u i wr => ∃ (j L : Nat), l = .int .i64 (L : Int) ∧ i = .int .i64 (j : Int) ∧ j ≤ 8 ∧ L ≤ 8000000 ∧ Hid (L = 8 * t.size / 256 ^ j) ∧ Hid (OI wr W0.heap.size u (tl (8 * t.size) j)) ∧ Hid (Below W0.heap.size W0 wr)) (fun _ _ i _ => (8 - intOf i).toNat)
          case atStart => exact ⟨0, 8 * t.size, by go_num, rfl, by omega, by omega, by simp [Hid], HT0, Lib.hid ((Below.refl _ _).alloc (Nat.le_refl _) _)⟩
          case round =>
            clear HT0
            obtain ⟨j, L, rfl, rfl, hj, hL, HLL, HT, HB0⟩ := hrel
            have hbw0 := HB0.out.size
            obtain ⟨gt, hrt, hgt⟩ := HT.out.reads
            have HRT := Lib.hid hrt
            by_cases hlt : j < 8
            · have hts := tl_succ (8 * t.size) j hlt
              rw [← HLL.out] at hts
              have HTS := Lib.hid hts
              have hL2 : L / 256 = 8 * t.size / 256 ^ (j + 1) := by rw [HLL.out, Nat.div_div_eq_div_mul, Nat.pow_succ]
              have HL2 := Lib.hid hL2
              have htln : (tl (8 * t.size) j).length ≤ 8 := by rw [tl_length _ _ hj]; omega
              have HTLN := Lib.hid htln
              have e1 : (j : Int) < 8 := by omega
              have hLI : (L : Int) ≤ 8000000 := by omega
              have hL0 : (0 : Int) ≤ (L : Int) := by omega
              clear hts hL2 htln hrt hgt HT
              go_wp2_with (at_builtin; refine OI.append_on (base := W0.heap.size) (w := wr.alloc _) (OI.lit wr W0.heap.size hbw0 [L % 256] _ (by simp [iv]) 1 rfl (by simp)) (IR.later HRT.out ((Below.refl _ _).alloc (Nat.le_refl _) _)) rfl _ _ rfl rfl rfl (by simp; omega) (by have := HTLN.out; simp; omega) ?_; intro v1 w1 h1 hg1)
              go_roundw
              case rel =>
                refine ⟨j + 1, L / 256, by go_num, by go_num, by omega, by omega, HL2, ?_, Lib.hid ((HB0.out.alloc hbw0 _).grown hg1 (by simp; omega) (fun k hk => by simp [Value.ownBlock] at hk; omega))⟩
                rw [← HTS.out]
                exact h1
              case measure => simp [intOf]; omega
            · obtain rfl : j = 8 := by omega
              have HOb := Lib.hid (HO.out.later HB0.out)
              have hbB : Below w.heap.size w wr := HB.out.trans (HB0.out.mono hbw)
              have HB1 := Lib.hid hbB
              have hszw := hbB.size
              have hlen2 : (nums (t.data.toList ++ [128] ++ List.replicate z (0 : UInt8))).length ≤ 1001000 := by rw [HLEN.out]; omega
              have HLEN2 := Lib.hid hlen2
              have e1 : ¬ ((8 : Nat) : Int) < 8 := by omega
              clear hbB hlen2 hlt hj hrt hgt
              go_upto_region 17 with (at_builtin; refine OI.append_on (base := w.heap.size) (w := wr) HOb.out HRT.out rfl _ _ rfl rfl rfl hszw (by rw [tl_length _ _ (Nat.le_refl 8)]; have := HLEN2.out; omega) ?_; intro v2 w2 h2 hg2)
              have hpad : nums (t.data.toList ++ [128] ++ List.replicate z (0 : UInt8)) ++ tl (8 * t.size) 8 = padded t := by
                unfold padded endW
                rw [tl_all, ← nums_append, HTL.out, HZ.out]
              rw [hpad] at h2
              obtain ⟨gb, hrb, -⟩ := h2.reads
              have hb2 : Below w.heap.size w w2 := HB1.out.grown hg2 hszw (OI.base HOb.out)
              have hpl : (padded t).length = 64 * ((endW t.data.toList t.size).length / 64) := by
                unfold padded; rw [nums_length]; exact endW_mult t.data.toList t.size (by rw [HTL.out])
              have hpl2 : (padded t).length ≤ 1000200 := by
                have := congrArg List.length hpad
                rw [List.length_append, tl_length _ _ (Nat.le_refl 8)] at this
                have h3 := HLEN.out
                omega
              have hpl3 : 64 ≤ (padded t).length := by
                have := congrArg List.length hpad
                rw [List.length_append, tl_length _ _ (Nat.le_refl 8)] at this
                have h3 := HLEN.out
                omega
              obtain ⟨N, hN⟩ : ∃ N, (endW t.data.toList t.size).length / 64 = N := ⟨_, rfl⟩
              rw [hN] at hpl
              have HRB := Lib.hid hrb
              have HB2 := Lib.hid hb2
              have HPL := Lib.hid hpl
              have HNN := Lib.hid hN
              have HK2 := Lib.hid (IR.later HK.out hb2)
              have HH2 := Lib.hid (IR.later HH.out hb2)
              have hN2 : N ≤ 20000 := by omega
              have hN1 : 1 ≤ N := by omega
              clear hpad h2 hrb hb2 hpl hN hg2 HOb HB1 HRT HT HB0 hbw0 HLEN HLEN2 hszw HO HB hbw HLL hpl2 hpl3
              go_upto_region 18 with (at_builtin; refine OI.append_on (base := w2.heap.size) (w := w2.alloc _) (OI.fresh w2 w2.heap.size (Nat.le_refl _)) (IR.later HH2.out ((Below.refl _ _).alloc (Nat.le_refl _) _)) rfl _ _ rfl rfl rfl (by simp) (by simp [H8]) ?_; intro v3 w3 h3 hg3)
              obtain ⟨gh, hrh, hgh⟩ := h3.reads
              obtain ⟨A3, ch, hv3, hch1, hch2, hrh3⟩ := hrh
              have hv3' : v3 = .slice A3 8 ch := hv3
              clear hv3
              subst hv3'
              obtain ⟨rfl, hgh2, -⟩ := hrh3 (by simp [H8])
              have hgh3 := hgh (by simp [H8])
              have h3' : OI w3 w2.heap.size (.slice (some ⟨gh, 0, none⟩) 8 ch) H8 := h3
              have hb3 : Below w2.heap.size w2 w3 := ((Below.refl w2.heap.size w2).alloc (Nat.le_refl _) _).grown hg3 (by simp) (fun k hk => by simp [Value.ownBlock] at hk; omega)
              obtain ⟨A4, cb, hv4, hcb1, hcb2, hrb4⟩ := HRB.out
              obtain ⟨hA4, hgb2, -⟩ := hrb4 (by rw [HPL.out]; omega)
              obtain ⟨bs, hbs⟩ : ∃ bs, endW t.data.toList t.size = bs := ⟨_, rfl⟩
              have hpd : padded t = nums bs := by unfold padded; rw [hbs]
              rw [hpd] at HRB HPL hcb1 hv4
              obtain ⟨NB, hNB⟩ : ∃ NB, (nums bs).length = NB := ⟨_, rfl⟩
              have hbl : bs.length = NB := by rw [← hNB, nums_length]
              rw [hNB] at HPL hcb1 hv4
              have hv4' : v2 = .slice (some ⟨gb, 0, none⟩) NB cb := by rw [hv4, hA4]
              clear hv4 hA4
              subst hv4'
              have HBS := Lib.hid hbs
              have HBL := Lib.hid hbl
              have H3 := Lib.hid h3'
              have HB3 := Lib.hid hb3
              have hch : 8 ≤ ch := by simpa [H8] using hch1
              clear hrh3 hgh h3 h3' hb3 hrb4 hpd hNB hbs hbl hch1 hg3
              go_wp2
              refine sum_loop4 gb NB cb gh ch kb kc N bs w2 w3 HRB HBL HPL hN2 HK2 H3 HB3 _ _ _ _ _ _ _ _ _ _ _ _ _ _ _ _ _ _ _ _ _ _ _ _ _ _ _ _ _ _ _ _ _ _ _ _ _ _ _ _
                    _ _ _ _ _ _ _ _ _ _ _ _ _ _ _ _ _ _ _ _ _ _ _ _ _ _ _ _ _ _ _ _ _ _ _ _ _ _ _ _
                    _ _ _ _ _ _ _ _ _ _ _ _ _ _ _ _ _ _ _ _ _ _ _ _ _ _ _ _ _ _ _ _ _ _ _ _ _ _ _ _
                    _ _ _ _ _ _ _ _ _ _ _ _ _ _ _ _ _ _ _ _ _ _ _ _ _ _ _ _ _ _ _ _ _ _ _ _ _ _ _ _
                    _ _ _ _ _ _ _ _ _ _ _ _ _ _ _ _ _ _ _ _ _ _ _ _ _ _ _ _ _ _ _ _ _ _ _ _ _ _ _ _
                    _ _ _ _ _ _ _ _ _ _ _ _ _ _ _ _ _ _ _ _ _ _ _ _ _ _ _ _ _ _ _ _ _ _ _ _ _ _ _ _
                    _ _ _ _ _ _ _ _ _ _ _ _ _ _ _ _ _ _ _ _ _ _ _ _ _ _ _ _ _ _ _ _ _ _ _ _ _ _ _ _
                    _ _ _ _ _ _ _ _ _ _ _ _ _ _ _ _ _ _ _ _ _ _ _ _ _ _ _ _ _ _ _ _ _ _ _ _ _ _ _ _
                    _ _ _ _ _ _ _ _ _ _ _ _ _ _ _ _ _ _ _ _ _ _ _ _ _ _ _ _ _ _ (Lib.hid ?_)
              intro _ _ _ _ _ _ _ _ _ _ _ _ _ _ _ _ _ _ _ _ _ _ _ _ _ _ _ _ _ _ _ _ _ _ _ _ _ _ _ _
                    _ _ _ _ _ _ _ _ _ _ _ _ _ _ _ _ _ _ _ _ _ _ _ _ _ _ _ _ _ _ _ _ _ _ _ _ _ _ _ _
                    _ _ _ _ _ _ _ _ _ _ _ _ _ _ _ _ _ _ _ _ _ _ _ _ _ _ _ _ _ _ _ _ _ _ _ _ _ _ _ _
                    _ _ _ _ _ _ _ _ _ _ _ _ _ _ _ _ _ _ _ _ _ _ _ _ _ _ _ _ _ _ _ _ _ _ _ _ _ _ _ _
                    _ _ _ _ _ _ _ _ _ _ _ _ _ _ _ _ _ _ _ _ _ _ _ _ _ _ _ _ _ _ _ _ _ _ _ _ _ _ _ _
                    _ _ _ _ _ _ _ _ _ _ _ _ _ _ _ _ _ _ _ _ _ _ _ _ _ _ _ _ _ _ _ _ _ _ _ _ _ _ _ _
                    _ _ _ _ _ _ _ _ _ _ _ _ _ _ _ _ _ _ _ w4 HH4 HB4
              have hdw : piecesW H8 K64 bs N = dW t.data.toList := by
                rw [← HBS.out, ← HNN.out, ← HTL.out]
                exact dW_whole t.data.toList
              rw [hdw] at HH4
              have hbw : Below w.heap.size w w4 := HB2.out.trans (HB4.out.mono HB2.out.size)
              have hrd4 : IR w4 gh (.slice (some ⟨gh, 0, none⟩) 8 ch) (dW t.data.toList) := by
                obtain ⟨gx, cx, hv, hgx, hgl, hc1, hc2, hcell⟩ := HH4.out.open_ (dW_length t.data.toList) (by omega)
                injection hv with hv hv2 hv3
                injection hv with hv
                injection hv with hv
                subst hv hv3
                exact ⟨_, _, by rw [dW_length], by rw [dW_length]; exact hc1, hc2, fun _ => ⟨rfl, hgl, fun i hi => hcell i (by rw [dW_length] at hi; exact hi)⟩⟩
              have HRD4 := Lib.hid hrd4
              have HBW := Lib.hid hbw
              clear hrd4 hbw hdw
              go_wp2
              refine sum_loop9 (dW t.data.toList) (dW_length _) (dW_words _) gh ch w4 HRD4 _ _ _ _ _ _ _ _ _ _ _ _ _ _ _ _ _ _ _ _ _ _ _ _ _ _ _ _ _ _ _ _ _ _ _ _ _ _ _ _
                    _ _ _ _ _ _ _ _ _ _ _ _ _ _ _ _ _ _ _ _ _ _ _ _ _ _ _ _ _ _ _ _ _ _ _ _ _ _ _ _
                    _ _ _ _ _ _ _ _ _ _ _ _ _ _ _ _ _ _ _ _ _ _ _ _ _ _ _ _ _ _ _ _ _ _ _ _ _ _ _ _
                    _ _ _ _ _ _ _ _ _ _ _ _ _ _ _ _ _ _ _ _ _ _ _ _ _ _ _ _ _ _ _ _ _ _ _ _ _ _ _ _
                    _ _ _ _ _ _ _ _ _ _ _ _ _ _ _ _ _ _ _ _ _ _ _ _ _ _ _ _ _ _ _ _ _ _ _ _ _ _ _ _
                    _ _ _ _ _ _ _ _ _ _ _ _ _ _ _ _ _ _ _ _ _ _ _ _ _ _ _ _ _ _ _ _ _ _ _ _ _ _ _ _
                    _ _ _ _ _ _ _ _ _ _ _ _ _ _ _ _ _ _ _ _ _ _ _ _ _ _ _ _ _ _ _ _ _ _ _ _ _ _ _ _
                    _ _ _ _ _ _ _ _ _ _ _ _ _ _ _ _ _ _ _ _ _ _ _ _ _ _ _ _ _ _ _ _ _ _ _ _ _ _ _ _
                    _ _ _ _ _ _ _ _ _ _ _ _ _ _ _ _ _ _ _ _ _ _ _ _ _ _ _ _ _ _ _ (Lib.hid ?_)
              intro _ _ _ _ _ _ _ _ _ _ _ _ _ _ _ _ _ _ _ _ _ _ _ _ _ _ _ _ _ _ _ _ _ _ _ w5 HB5
              go_wp2
              go_ret
              exact ⟨rfl, Lib.hid (HBW.out.trans (HB5.out.mono HBW.out.size))⟩
end Go.Proofs.YtmhjocbnoppbbaaDoor.Sha
