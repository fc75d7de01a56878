/- The law ShaApart, walked: two states that do not know of one another. -/
import Derived.Test.YtmhjocbnoppbbaaShaM
import Derived.Deep.Grids
namespace Go.Proofs.Ytmhjocbnoppbbaa.Sha
open Go.RowKit
set_option linter.unusedVariables false
set_option linter.unusedSimpArgs false

/-- v is a slice that reads as the truth values bs -/
def TR (w : World) (v : Value) (bs : List Bool) : Prop :=
  ∃ A c, v = .slice A bs.length c ∧ bs.length ≤ c ∧ c ≤ 9223372036854775807 ∧ (0 < bs.length → ∃ ad : Addr, A = some ad ∧ ∀ i, i < bs.length → w.cell? (ad.add i) = some (.bool (bs.getD i false)))
theorem TR.later {w w' : World} {v : Value} {bs : List Bool} (h : TR w v bs) (hb : Below w.heap.size w w') : TR w' v bs := by
  obtain ⟨A, c, hv, h1, h2, h3⟩ := h
  refine ⟨A, c, hv, h1, h2, fun h => ?_⟩
  obtain ⟨ad, ha, hc⟩ := h3 h
  exact ⟨ad, ha, fun i hi => (hb.cell (World.block_lt_of_cell? _ _ (hc i hi))).trans (hc i hi)⟩
open Go.ChangeShapes Go.WideShapes in
theorem bools_open {H : Type} {enc : TypeId × Value → H} {P : Program} {W : World} {base : Nat} {held : Bool}
    {t e : TypeId} {d : DataW H} (hu : P.underlying t = some (.slice e)) (he : P.underlying e = some .bool) (hc : P.cellsOf e = 1) {a : Option Addr} {len cap : Nat} {cs : List Value} (hcs0 : cs = [.slice a len cap]) {fuel : Nat} {p : List MemPlace} (h : DataW.trod enc P W base (fun _ => true) held fuel t cs = some (d, p)) :
    ∃ bs, TR W (.slice a len cap) bs := by
  rcases Go.Deep.open_bools hu he hc h with ⟨hcs, hx⟩ | ⟨x, l, c, B, hcs, _, hl, hm, hx, hcell⟩
  · rw [hcs0] at hcs
    injection hcs with hcs _
    injection hcs with h1 h2 h3
    subst h1 h2 h3
    exact ⟨[], ⟨none, 0, rfl, Nat.le_refl _, by omega, fun h => by simp at h⟩⟩
  · rw [hcs0] at hcs
    injection hcs with hcs _
    injection hcs with h1 h2 h3
    subst h1 h2 h3
    refine ⟨(List.range len).map B, ⟨some x, cap, by simp, by simpa using hl, by simpa [maxLen] using hm, fun h => ⟨x, rfl, fun i hi => ?_⟩⟩⟩
    rw [List.length_map, List.length_range] at hi
    rw [hcell i (by omega)]
    simp [List.getD_eq_getElem?_getD, hi]

/-- a state is not turned by what turns another one -/
theorem StT.apart {w w' : World} {sa ka sb kb : Nat} {t t' : List UInt8} (h : StT w sb kb t) (ha : StT w sa ka t') (hne : sb ≠ sa) (hg : w.grownBy w' (some sa)) : StT w' sb kb t := by
  obtain ⟨rb, v, h⟩ := h
  obtain ⟨ra, va, ha⟩ := ha
  have hba := ha.blk
  have hkb : kb ≠ sa := by
    intro e
    have ht := h.tab
    unfold Arr at ht
    rw [e, hba] at ht
    injection ht with ht
    injection ht with _ ht _
    exact absurd ht (by decide)
  refine ⟨rb, v, h.len, h.words, ?_, h.tab.other (hg.block kb h.tab.lt (fun e => hkb (by injection e))), ?_, h.ne⟩
  · rw [hg.block sb h.lt (fun e => hne (by injection e))]; exact h.blk
  · rcases h.row with hn | ⟨h1, h2, h3⟩
    · exact .inl hn
    · refine .inr ⟨h1, ?_, h3⟩
      have hlt := (Array.getElem?_eq_some_iff.1 h2).1
      rw [hg.block rb hlt ?_]
      · exact h2
      · intro e
        injection e with e
        rw [e, hba] at h2
        injection h2 with h2
        injection h2 with _ h2 _
        exact absurd h2 (by decide)
theorem cat_two (s : ByteArray) : cat [s, s] = s.data.toList ++ s.data.toList := by simp [cat]

set_option maxHeartbeats 8000000 in
set_option maxRecDepth 100000 in
theorem apart_walk (lb : Nat) (lv : Value) (ss : List ByteArray) (bv : Value) (bs : List Bool) (w : World) (hl : SR w lb lv ss) (hss : ∀ s ∈ ss, s.size ≤ 140737488351232) (hb : TR w bv bs) :
    Calls Try.prog 8 #[lv, bv] w fun e w' => e = .returned (.bool true) ∧ Below w.heap.size w w' := by
  have hl' := hl
  obtain ⟨A, cp, rfl, hcp, hcm, -⟩ := hl
  have HL := Lib.hid hl'
  have HSS := Lib.hid hss
  have hb' := hb
  obtain ⟨B, cb, rfl, hcb, hcbm, -⟩ := hb
  have HT := Lib.hid hb'
  clear hl' hss hb'
  obtain ⟨len, hlen⟩ : ∃ len, ss.length = len := ⟨_, rfl⟩
  rw [hlen] at hcp HL ⊢
  obtain ⟨nb, hnb⟩ : ∃ nb, bs.length = nb := ⟨_, rfl⟩
  rw [hnb] at hcb HT ⊢
  have HLEN := Lib.hid hlen
  have HNB := Lib.hid hnb
  clear hlen hnb
  by_cases h20 : len ≤ 20
  case neg =>
    have k20 : (20 : Int) < (len : Int) := by omega
    clear h20
    go_enter Try.func8, Try.ntmps8
    go_wp2_with (go_at_call 16; refine (awake_calls w).mono ?_; rintro e w1 ⟨rfl, HB1⟩)
    go_ret
    exact ⟨rfl, HB1.out⟩
  case pos =>
    have k20 : ¬ (20 : Int) < (len : Int) := by omega
    go_enter Try.func8, Try.ntmps8
    go_wp2_with (first
      | (go_at_call 16; refine (awake_calls w).mono ?_; rintro e w1 ⟨rfl, HB1⟩)
      | (go_at_call 18; refine (newT_calls w2).mono ?_; rintro e w3 ⟨rfl, HS3, HB3⟩)
      | (go_at_call 18; refine (newT_calls w1).mono ?_; rintro e w2 ⟨rfl, HS2, HB2⟩))
    have hb2 : Below w.heap.size w w2 := HB1.out.trans (HB2.out.mono HB1.out.size)
    have hb3 : Below w.heap.size w w3 := hb2.trans (HB3.out.mono hb2.size)
    have hsa : w.heap.size ≤ w1.heap.size + 1 := by have := HB1.out.size; omega
    have hsb : w.heap.size ≤ w2.heap.size + 1 := by have := hb2.size; omega
    have hab : w1.heap.size + 1 ≠ w2.heap.size + 1 := by have := HS2.out.lt; omega
    have HS2' := Lib.hid (HS2.out.later HB3.out)
    obtain ⟨sa, hsa'⟩ : ∃ sa, w1.heap.size + 1 = sa := ⟨_, rfl⟩
    obtain ⟨ka, hka'⟩ : ∃ ka, w1.heap.size = ka := ⟨_, rfl⟩
    obtain ⟨sb, hsb'⟩ : ∃ sb, w2.heap.size + 1 = sb := ⟨_, rfl⟩
    obtain ⟨kb, hkb'⟩ : ∃ kb, w2.heap.size = kb := ⟨_, rfl⟩
    rw [hsa'] at HS2' hsa hab ⊢
    rw [hsb'] at HS3 hsb hab ⊢
    rw [hka'] at HS2'
    rw [hkb'] at HS3
    have HBB := Lib.hid hb3
    clear hb2 hb3 HB1 HB2 HB3 HS2 hsa' hka' hsb' hkb'
    go_loopw [7, 8, 20] (fun u1 u2 i wr => ∃ (k : Nat) (x y : ByteArray), k ≤ len ∧ u1 = .string x ∧ u2 = .string y ∧ i = .int .i64 k ∧ x.size ≤ 400 * k ∧ y.size ≤ 400 * k ∧ Hid (StT wr sa ka x.data.toList) ∧ Hid (StT wr sb kb y.data.toList) ∧ Hid (Below w.heap.size w wr)) (fun _ _ i _ => len - (intOf i).toNat)
    case atStart => exact ⟨0, ByteArray.empty, ByteArray.empty, by omega, rfl, rfl, rfl, by simp, by simp, by simpa [Hid] using HS2', by simpa [Hid] using HS3, HBB⟩
    case round =>
      clear HS2' HS3 HBB
      obtain ⟨k, x, y, hk, rfl, rfl, rfl, hxs, hys, HX, HY, HB⟩ := hrel
      by_cases hlt : k < len
      · have hbw := HB.out.size
        have hl1 := HL.out.later HB.out
        obtain ⟨A', c', hv', -, -, hread⟩ := hl1
        rw [HLEN.out] at hread hv'
        obtain ⟨ad, hA, -, hcell⟩ := hread (by omega)
        injection hv' with hv' _ hcc
        subst hcc
        rw [← hv'] at hA
        subst hA
        have ct := hcell k hlt
        have hssz := ss_getD HSS.out k
        obtain ⟨s, hs⟩ : ∃ s, ss.getD k ByteArray.empty = s := ⟨_, rfl⟩
        rw [hs] at ct hssz
        clear hcell hv' hs hread
        have k0 : (0 : Int) ≤ (k : Int) := by omega
        have k1 : (k : Int) < (len : Int) := by omega
        by_cases h2 : s.size ≤ 200
        · have k2 : ¬ (200 : Int) < (s.size : Int) := by omega
          have haddss : ∀ w, (Op.stringOp .add s s).run Try.prog w = .ok (.string (s ++ s)) w := fun w => run_string_add_sum w s s (by omega)
          have haddx : ∀ w, (Op.stringOp .add x (s ++ s)).run Try.prog w = .ok (.string (x ++ (s ++ s))) w := fun w => run_string_add_sum w x (s ++ s) (by rw [append_sz]; omega)
          have haddy : ∀ w, (Op.stringOp .add y s).run Try.prog w = .ok (.string (y ++ s)) w := fun w => run_string_add_sum w y s (by omega)
          by_cases hkb : k < nb
          · have hb1 := HT.out.later HB.out
            obtain ⟨B', c2, hv2, -, -, hread2⟩ := hb1
            rw [HNB.out] at hread2 hv2
            obtain ⟨bd, hB, hcell2⟩ := hread2 (by omega)
            injection hv2 with hv2 _ hcc2
            subst hcc2
            rw [← hv2] at hB
            subst hB
            have cb2 := hcell2 k hkb
            obtain ⟨q, hq⟩ : ∃ q, bs.getD k false = q := ⟨_, rfl⟩
            rw [hq] at cb2
            clear hcell2 hv2 hq hread2
            have kb1 : (k : Int) < (nb : Int) := by omega
            cases q with
            | true =>
              obtain ⟨x2, hx2⟩ : ∃ x2, x ++ (s ++ s) = x2 := ⟨_, rfl⟩
              have hx3 : x2.size ≤ 400 * (k + 1) := by rw [← hx2]; (try simp only [append_sz]); omega
              have hy3 : y.size ≤ 400 * (k + 1) := by omega
              have HNEW : Hid (x.data.toList ++ cat [s, s] = x2.data.toList) := by show _ = _; rw [← hx2, append_bytes, append_bytes, cat_two]
              rw [hx2] at haddx
              obtain ⟨D, hD⟩ : ∃ D, dig x2.data.toList = D := ⟨_, rfl⟩
              obtain ⟨E, hE⟩ : ∃ E, dig y.data.toList = E := ⟨_, rfl⟩
              have hD2 : dig (cat [x2]) = D := by rw [cat_one]; exact hD
              have hE2 : dig (cat [y]) = E := by rw [cat_one]; exact hE
              have hxl : x2.data.toList.length = x2.size := toList_len x2
              have hyl : y.data.toList.length = y.size := toList_len y
              have HD := Lib.hid hD
              have HE := Lib.hid hE
              have HD2 := Lib.hid hD2
              have HE2 := Lib.hid hE2
              have HXL := Lib.hid hxl
              have HYL := Lib.hid hyl
              have hwsa : wr.heap.size ≠ sa := by have := HX.out.lt; omega
              have hwsb : wr.heap.size ≠ sb := by have := HY.out.lt; omega
              have hsz4 : x.data.toList.length + (cat [s, s]).length ≤ 1000000 := by simp only [cat_two, cat_one, List.length_append, toList_len]; omega
              have HSZ4 := Lib.hid hsz4
              have hszx : x2.data.toList.length ≤ 1000000 := by rw [hxl]; omega
              have hszy : y.data.toList.length ≤ 1000000 := by rw [hyl]; omega
              have HSX := Lib.hid hszx
              have HSY := Lib.hid hszy
              have HX3 := Lib.hid hx3
              have HY3 := Lib.hid hy3
              have HAB := Lib.hid hab
              clear hD hE hD2 hE2 hxl hyl hsz4 hszx hszy hx3 hy3 hx2
              go_wp2_with (first
                | (go_at_call 19; refine (write_calls sa ka wr.heap.size x.data.toList _ [s, s] _ (HX.out.later ((Below.refl _ _).alloc (Nat.le_refl _) _)) (SR.lit wr [s, s] _ rfl 2 rfl (by simp)) hwsa HSZ4.out).mono ?_; rintro e w4 ⟨rfl, hs4, hg4⟩; rw [HNEW.out] at hs4; have HB4 : Hid (Below w.heap.size w w4) := Lib.hid ((HB.out.alloc hbw _).grown hg4 (by simp; omega) (fun k hk => by injection hk with hk; omega)); have ho4 := StT.apart (HY.out.later ((Below.refl _ _).alloc (Nat.le_refl _) (.cells #[.string s, .string s] 9))) (HX.out.later ((Below.refl _ _).alloc (Nat.le_refl _) (.cells #[.string s, .string s] 9))) HAB.out.symm hg4; have HA4 := Lib.hid hs4; have HO4 := Lib.hid ho4; clear hs4 hg4 ho4)
                | (go_at_call 20; refine (sum_calls w7.heap.size _ [y] _ (SR.lit w7 [y] _ rfl 1 rfl (by simp)) (by rw [cat_one]; exact HSY.out)).mono ?_; rw [HE2.out]; rintro e w8 ⟨rfl, hb8⟩; have hb78 : Below w7.heap.size w7 w8 := Below.trans ((Below.refl _ _).alloc (Nat.le_refl _) _) (hb8.mono (by simp)); have HA8 := Lib.hid (HA7.out.later hb78); have HO8 := Lib.hid (HO7.out.later hb78); have HB8 := Lib.hid (HB7.out.trans (hb78.mono HB7.out.size)); clear hb8 hb78)
                | (go_at_call 21; refine (summed_calls sb kb y.data.toList w6 HO6.out HSY.out).mono ?_; rw [HE.out]; rintro e w7 ⟨rfl, hb7⟩; have HA7 := Lib.hid (HA6.out.later hb7); have HO7 := Lib.hid (HO6.out.later hb7); have HB7 := Lib.hid (HB6.out.trans (hb7.mono HB6.out.size)); clear hb7)
                | (go_at_call 20; refine (sum_calls w5.heap.size _ [x2] _ (SR.lit w5 [x2] _ rfl 1 rfl (by simp)) (by rw [cat_one]; exact HSX.out)).mono ?_; rw [HD2.out]; rintro e w6 ⟨rfl, hb6⟩; have hb56 : Below w5.heap.size w5 w6 := Below.trans ((Below.refl _ _).alloc (Nat.le_refl _) _) (hb6.mono (by simp)); have HA6 := Lib.hid (HA5.out.later hb56); have HO6 := Lib.hid (HO5.out.later hb56); have HB6 := Lib.hid (HB5.out.trans (hb56.mono HB5.out.size)); clear hb6 hb56)
                | (go_at_call 21; refine (summed_calls sa ka x2.data.toList w4 HA4.out HSX.out).mono ?_; rw [HD.out]; rintro e w5 ⟨rfl, hb5⟩; have HA5 := Lib.hid (HA4.out.later hb5); have HO5 := Lib.hid (HO4.out.later hb5); have HB5 := Lib.hid (HB4.out.trans (hb5.mono HB4.out.size)); clear hb5)
                | (go_at_call 22; refine (lenT_calls HA8.out).mono ?_; rw [HXL.out]; rintro e w9 ⟨rfl, rfl⟩)
                | (go_at_call 22; refine (lenT_calls HO8.out).mono ?_; rw [HYL.out]; rintro e w9 ⟨rfl, rfl⟩))
              go_roundw
              case rel => exact ⟨k + 1, x2, y, by omega, rfl, rfl, by go_num, HX3.out, HY3.out, HA8, HO8, HB8⟩
              case measure => simp [intOf]; omega
            | false =>
              obtain ⟨y2, hy2⟩ : ∃ y2, y ++ s = y2 := ⟨_, rfl⟩
              have hx3 : x.size ≤ 400 * (k + 1) := by omega
              have hy3 : y2.size ≤ 400 * (k + 1) := by rw [← hy2]; (try simp only [append_sz]); omega
              have HNEW : Hid (y.data.toList ++ cat [s] = y2.data.toList) := by show _ = _; rw [← hy2, append_bytes, cat_one]
              rw [hy2] at haddy
              obtain ⟨D, hD⟩ : ∃ D, dig x.data.toList = D := ⟨_, rfl⟩
              obtain ⟨E, hE⟩ : ∃ E, dig y2.data.toList = E := ⟨_, rfl⟩
              have hD2 : dig (cat [x]) = D := by rw [cat_one]; exact hD
              have hE2 : dig (cat [y2]) = E := by rw [cat_one]; exact hE
              have hxl : x.data.toList.length = x.size := toList_len x
              have hyl : y2.data.toList.length = y2.size := toList_len y2
              have HD := Lib.hid hD
              have HE := Lib.hid hE
              have HD2 := Lib.hid hD2
              have HE2 := Lib.hid hE2
              have HXL := Lib.hid hxl
              have HYL := Lib.hid hyl
              have hwsa : wr.heap.size ≠ sa := by have := HX.out.lt; omega
              have hwsb : wr.heap.size ≠ sb := by have := HY.out.lt; omega
              have hsz4 : y.data.toList.length + (cat [s]).length ≤ 1000000 := by simp only [cat_two, cat_one, List.length_append, toList_len]; omega
              have HSZ4 := Lib.hid hsz4
              have hszx : x.data.toList.length ≤ 1000000 := by rw [hxl]; omega
              have hszy : y2.data.toList.length ≤ 1000000 := by rw [hyl]; omega
              have HSX := Lib.hid hszx
              have HSY := Lib.hid hszy
              have HX3 := Lib.hid hx3
              have HY3 := Lib.hid hy3
              have HAB := Lib.hid hab
              clear hD hE hD2 hE2 hxl hyl hsz4 hszx hszy hx3 hy3 hy2
              go_wp2_with (first
                | (go_at_call 19; refine (write_calls sb kb wr.heap.size y.data.toList _ [s] _ (HY.out.later ((Below.refl _ _).alloc (Nat.le_refl _) _)) (SR.lit wr [s] _ rfl 1 rfl (by simp)) hwsb HSZ4.out).mono ?_; rintro e w4 ⟨rfl, hs4, hg4⟩; rw [HNEW.out] at hs4; have HB4 : Hid (Below w.heap.size w w4) := Lib.hid ((HB.out.alloc hbw _).grown hg4 (by simp; omega) (fun k hk => by injection hk with hk; omega)); have ho4 := StT.apart (HX.out.later ((Below.refl _ _).alloc (Nat.le_refl _) (.cells #[.string s] 9))) (HY.out.later ((Below.refl _ _).alloc (Nat.le_refl _) (.cells #[.string s] 9))) HAB.out hg4; have HO4 := Lib.hid hs4; have HA4 := Lib.hid ho4; clear hs4 hg4 ho4)
                | (go_at_call 20; refine (sum_calls w7.heap.size _ [y2] _ (SR.lit w7 [y2] _ rfl 1 rfl (by simp)) (by rw [cat_one]; exact HSY.out)).mono ?_; rw [HE2.out]; rintro e w8 ⟨rfl, hb8⟩; have hb78 : Below w7.heap.size w7 w8 := Below.trans ((Below.refl _ _).alloc (Nat.le_refl _) _) (hb8.mono (by simp)); have HA8 := Lib.hid (HA7.out.later hb78); have HO8 := Lib.hid (HO7.out.later hb78); have HB8 := Lib.hid (HB7.out.trans (hb78.mono HB7.out.size)); clear hb8 hb78)
                | (go_at_call 21; refine (summed_calls sb kb y2.data.toList w6 HO6.out HSY.out).mono ?_; rw [HE.out]; rintro e w7 ⟨rfl, hb7⟩; have HA7 := Lib.hid (HA6.out.later hb7); have HO7 := Lib.hid (HO6.out.later hb7); have HB7 := Lib.hid (HB6.out.trans (hb7.mono HB6.out.size)); clear hb7)
                | (go_at_call 20; refine (sum_calls w5.heap.size _ [x] _ (SR.lit w5 [x] _ rfl 1 rfl (by simp)) (by rw [cat_one]; exact HSX.out)).mono ?_; rw [HD2.out]; rintro e w6 ⟨rfl, hb6⟩; have hb56 : Below w5.heap.size w5 w6 := Below.trans ((Below.refl _ _).alloc (Nat.le_refl _) _) (hb6.mono (by simp)); have HA6 := Lib.hid (HA5.out.later hb56); have HO6 := Lib.hid (HO5.out.later hb56); have HB6 := Lib.hid (HB5.out.trans (hb56.mono HB5.out.size)); clear hb6 hb56)
                | (go_at_call 21; refine (summed_calls sa ka x.data.toList w4 HA4.out HSX.out).mono ?_; rw [HD.out]; rintro e w5 ⟨rfl, hb5⟩; have HA5 := Lib.hid (HA4.out.later hb5); have HO5 := Lib.hid (HO4.out.later hb5); have HB5 := Lib.hid (HB4.out.trans (hb5.mono HB4.out.size)); clear hb5)
                | (go_at_call 22; refine (lenT_calls HA8.out).mono ?_; rw [HXL.out]; rintro e w9 ⟨rfl, rfl⟩)
                | (go_at_call 22; refine (lenT_calls HO8.out).mono ?_; rw [HYL.out]; rintro e w9 ⟨rfl, rfl⟩))
              go_roundw
              case rel => exact ⟨k + 1, x, y2, by omega, rfl, rfl, by go_num, HX3.out, HY3.out, HA8, HO8, HB8⟩
              case measure => simp [intOf]; omega
          · have kb1 : ¬ (k : Int) < (nb : Int) := by omega
            obtain ⟨y2, hy2⟩ : ∃ y2, y ++ s = y2 := ⟨_, rfl⟩
            have hx3 : x.size ≤ 400 * (k + 1) := by omega
            have hy3 : y2.size ≤ 400 * (k + 1) := by rw [← hy2]; (try simp only [append_sz]); omega
            have HNEW : Hid (y.data.toList ++ cat [s] = y2.data.toList) := by show _ = _; rw [← hy2, append_bytes, cat_one]
            rw [hy2] at haddy
            obtain ⟨D, hD⟩ : ∃ D, dig x.data.toList = D := ⟨_, rfl⟩
            obtain ⟨E, hE⟩ : ∃ E, dig y2.data.toList = E := ⟨_, rfl⟩
            have hD2 : dig (cat [x]) = D := by rw [cat_one]; exact hD
            have hE2 : dig (cat [y2]) = E := by rw [cat_one]; exact hE
            have hxl : x.data.toList.length = x.size := toList_len x
            have hyl : y2.data.toList.length = y2.size := toList_len y2
            have HD := Lib.hid hD
            have HE := Lib.hid hE
            have HD2 := Lib.hid hD2
            have HE2 := Lib.hid hE2
            have HXL := Lib.hid hxl
            have HYL := Lib.hid hyl
            have hwsa : wr.heap.size ≠ sa := by have := HX.out.lt; omega
            have hwsb : wr.heap.size ≠ sb := by have := HY.out.lt; omega
            have hsz4 : y.data.toList.length + (cat [s]).length ≤ 1000000 := by simp only [cat_two, cat_one, List.length_append, toList_len]; omega
            have HSZ4 := Lib.hid hsz4
            have hszx : x.data.toList.length ≤ 1000000 := by rw [hxl]; omega
            have hszy : y2.data.toList.length ≤ 1000000 := by rw [hyl]; omega
            have HSX := Lib.hid hszx
            have HSY := Lib.hid hszy
            have HX3 := Lib.hid hx3
            have HY3 := Lib.hid hy3
            have HAB := Lib.hid hab
            clear hD hE hD2 hE2 hxl hyl hsz4 hszx hszy hx3 hy3 hy2
            go_wp2_with (first
              | (go_at_call 19; refine (write_calls sb kb wr.heap.size y.data.toList _ [s] _ (HY.out.later ((Below.refl _ _).alloc (Nat.le_refl _) _)) (SR.lit wr [s] _ rfl 1 rfl (by simp)) hwsb HSZ4.out).mono ?_; rintro e w4 ⟨rfl, hs4, hg4⟩; rw [HNEW.out] at hs4; have HB4 : Hid (Below w.heap.size w w4) := Lib.hid ((HB.out.alloc hbw _).grown hg4 (by simp; omega) (fun k hk => by injection hk with hk; omega)); have ho4 := StT.apart (HX.out.later ((Below.refl _ _).alloc (Nat.le_refl _) (.cells #[.string s] 9))) (HY.out.later ((Below.refl _ _).alloc (Nat.le_refl _) (.cells #[.string s] 9))) HAB.out hg4; have HO4 := Lib.hid hs4; have HA4 := Lib.hid ho4; clear hs4 hg4 ho4)
              | (go_at_call 20; refine (sum_calls w7.heap.size _ [y2] _ (SR.lit w7 [y2] _ rfl 1 rfl (by simp)) (by rw [cat_one]; exact HSY.out)).mono ?_; rw [HE2.out]; rintro e w8 ⟨rfl, hb8⟩; have hb78 : Below w7.heap.size w7 w8 := Below.trans ((Below.refl _ _).alloc (Nat.le_refl _) _) (hb8.mono (by simp)); have HA8 := Lib.hid (HA7.out.later hb78); have HO8 := Lib.hid (HO7.out.later hb78); have HB8 := Lib.hid (HB7.out.trans (hb78.mono HB7.out.size)); clear hb8 hb78)
              | (go_at_call 21; refine (summed_calls sb kb y2.data.toList w6 HO6.out HSY.out).mono ?_; rw [HE.out]; rintro e w7 ⟨rfl, hb7⟩; have HA7 := Lib.hid (HA6.out.later hb7); have HO7 := Lib.hid (HO6.out.later hb7); have HB7 := Lib.hid (HB6.out.trans (hb7.mono HB6.out.size)); clear hb7)
              | (go_at_call 20; refine (sum_calls w5.heap.size _ [x] _ (SR.lit w5 [x] _ rfl 1 rfl (by simp)) (by rw [cat_one]; exact HSX.out)).mono ?_; rw [HD2.out]; rintro e w6 ⟨rfl, hb6⟩; have hb56 : Below w5.heap.size w5 w6 := Below.trans ((Below.refl _ _).alloc (Nat.le_refl _) _) (hb6.mono (by simp)); have HA6 := Lib.hid (HA5.out.later hb56); have HO6 := Lib.hid (HO5.out.later hb56); have HB6 := Lib.hid (HB5.out.trans (hb56.mono HB5.out.size)); clear hb6 hb56)
              | (go_at_call 21; refine (summed_calls sa ka x.data.toList w4 HA4.out HSX.out).mono ?_; rw [HD.out]; rintro e w5 ⟨rfl, hb5⟩; have HA5 := Lib.hid (HA4.out.later hb5); have HO5 := Lib.hid (HO4.out.later hb5); have HB5 := Lib.hid (HB4.out.trans (hb5.mono HB4.out.size)); clear hb5)
              | (go_at_call 22; refine (lenT_calls HA8.out).mono ?_; rw [HXL.out]; rintro e w9 ⟨rfl, rfl⟩)
              | (go_at_call 22; refine (lenT_calls HO8.out).mono ?_; rw [HYL.out]; rintro e w9 ⟨rfl, rfl⟩))
            go_roundw
            case rel => exact ⟨k + 1, x, y2, by omega, rfl, rfl, by go_num, HX3.out, HY3.out, HA8, HO8, HB8⟩
            case measure => simp [intOf]; omega
        · have k2 : (200 : Int) < (s.size : Int) := by omega
          go_wp2_with (fail)
          go_ret
          exact ⟨rfl, HB.out⟩
      · obtain rfl : k = len := by omega
        clear hlt hk
        go_wp2
        go_ret
        exact ⟨rfl, HB.out⟩
end Go.Proofs.Ytmhjocbnoppbbaa.Sha
