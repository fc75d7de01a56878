/- WantBits, walked. -/
import Derived.Test.YthnpaiobjmneaaaWe
namespace Go.Proofs.Ythnpaiobjmneaaa.Wa
open Go.RowKit Go.Maps
set_option linter.unusedVariables false
set_option linter.unusedSimpArgs false

theorem ints_b (g1 g2 : Nat) (v1 v2 : Value) (a b : List Int) (w : World) (h1 : JR w g1 v1 a) (h2 : JR w g2 v2 b) :
    Calls Try.prog 28 #[v1, v2] w fun e w' => e = .returned (.bool (decide (a = b))) ∧ Hid (Below w.heap.size w w') :=
  (ints_calls g1 g2 v1 v2 a b w h1 h2).mono fun e w' ⟨he, q, hq⟩ => ⟨he, Lib.hid (by rw [hq]; exact drewN_below _ _ _)⟩
theorem WS.kept {w w' : World} {p mb ab : Nat} {k t : Int} {M A : List Int} {T : Int → Int} (h : WS w p mb ab k t M A T) {b : Nat} (hg : w.grownBy w' (some b)) (h1 : p ≠ b) (h2 : mb ≠ b) (h3 : ab ≠ b) : WS w' p mb ab k t M A T := by
  obtain ⟨⟨c0, c1, c2, c3⟩, hl, n1, n2, n3, hb, hi⟩ := h
  have ne : ∀ x : Nat, x ≠ b → some x ≠ some b := fun x hx e => hx (by injection e)
  exact ⟨⟨hg.cell c0 (ne p h1), hg.cell c1 (ne p h1), hg.cell c2 (ne p h1), hg.cell c3 (ne p h1)⟩, Nat.lt_of_lt_of_le hl hg.size, n1, n2, n3, hb.kept hg (ne mb h2), hi.kept hg (ne ab h3)⟩
/-- the state, and beside it a set of the same numbers -/
structure Two (w0 W : World) (p mb ab hb sb : Nat) (M : List Int) : Prop where
  st : St w0 W p mb ab 1 1 M [] (fun _ => 0)
  cell : W.cell? ⟨hb, 0, none⟩ = some (.map (some sb))
  set : BM W sb M
  n1 : p ≠ sb
  n2 : mb ≠ sb
  n3 : ab ≠ sb
  n4 : hb ≠ mb
  n5 : hb ≠ sb
  base : w0.heap.size ≤ sb
theorem Two.later {w0 W W' : World} {p mb ab hb sb : Nat} {M : List Int} (h : Two w0 W p mb ab hb sb M) (hb' : Below W.heap.size W W') : Two w0 W' p mb ab hb sb M :=
  ⟨h.st.later hb', (hb'.cell (World.block_lt_of_cell? _ _ h.cell)).trans h.cell, h.set.later hb', h.n1, h.n2, h.n3, h.n4, h.n5, h.base⟩
theorem Two.start {w0 W : World} {p mb ab : Nat} {M : List Int} (h : St w0 W p mb ab 1 1 M [] (fun _ => 0)) :
    Two w0 ((W.alloc (.map #[] 0)).alloc (.cells #[.map (some W.heap.size)] 53)) p mb ab (W.heap.size + 1) W.heap.size [] ∨ M ≠ [] := by
  by_cases e : M = []
  · subst e
    have h1 := h.ws.bm.lt
    have h2 := h.ws.im.lt
    have h3 := h.ws.lt
    refine .inl ⟨(h.alloc _).alloc _, ?_, (BM.made W).alloc _, by omega, by omega, by omega, by omega, by omega, h.below.size⟩
    have hz : (W.alloc (.map #[] 0)).heap.size = W.heap.size + 1 := by simp
    rw [← hz, cell_of_row _ _ 0 _ _ _ (heap_alloc_new _ _)]
    rfl
  · exact .inr e
theorem two_add {w0 w : World} {p mb ab hb sb : Nat} {M : List Int} (h : Two w0 w p mb ab hb sb M) (i : Int) (hi : 0 ≤ i) (hi2 : i ≤ 1048576) (hm : M.length ≤ 1000000) :
    Calls Try.prog 14 #[.pointer (some ⟨p, 0, none⟩), .slice (some ⟨w.heap.size, 0, none⟩) 1 1] (w.alloc (.cells #[.int .i64 i] 3)) fun e w' => e = .returned (.tuple #[]) ∧ w'.cell? ⟨hb, 0, none⟩ = some (.map (some sb)) ∧ ∃ w2, (Instr.mapUpdate 53 (.map (some sb)) (.int .i64 i) (.bool true)).run Try.prog w' = .ok () w2 ∧ Hid (Two w0 w2 p mb ab hb sb (ins i M)) := by
  have e : ins i M = addF M [i] := by simp [addF, hi, hi2]
  have hwf : wfI i := by unfold wfI; omega
  have h' := h.later ((Below.refl _ _).alloc (Nat.le_refl _) (.cells #[.int .i64 i] 3))
  have hml := h.st.ws.bm.lt
  refine (add_calls p mb ab 1 1 M [] (fun _ => 0) w.heap.size _ [i] _ h'.st.ws (JR.lit w [i] _ (by rfl) 1 rfl (by simp)) (.inr (by omega)) hm (by simp) (fun j hj => by rw [List.mem_singleton] at hj; subst hj; exact hwf)).mono ?_
  rintro r w' ⟨rfl, hws, hg⟩
  rw [← e] at hws
  have hst := h'.st.kp hws (grown_kp hg)
  have hc : w'.cell? ⟨hb, 0, none⟩ = some (.map (some sb)) := hg.cell h'.cell (fun e => h.n4 (by injection e))
  have hset := h'.set.kept hg (fun e => h.n2 (by injection e with e; exact e.symm))
  obtain ⟨w2, hr, hb2, hg2⟩ := hset.store i hwf (by omega)
  refine ⟨rfl, hc, w2, hr, Lib.hid ⟨⟨hst.ws.kept hg2 h.n1 h.n2 h.n3, hst.below.grown hg2 hst.below.size (fun k hk => by have := h.base; injection hk with hk; omega), h.st.pb, h.st.mb, h.st.ab⟩, hg2.cell hc (fun e => h.n5 (by injection e)), hb2, h.n1, h.n2, h.n3, h.n4, h.n5, h.base⟩⟩
/-- the bits of a set's bytes are its numbers below a bound -/
theorem bits_in {bs : List UInt8} {M : List Int} {m : Nat} (h : BitsAre bs M m ((m + 7) / 8)) : bitsTo bs (8 * ((m + 7) / 8)) = inTo M m := by
  refine asc_ext (asc_filter (upto_asc _) _) (asc_filter (upto_asc _) _) fun x => ?_
  simp only [bitsTo, inTo, List.mem_filter, mem_upto, decide_eq_true_eq]
  constructor
  · rintro ⟨⟨h0, h1⟩, h2⟩
    rw [h.bit x.toNat (by omega)] at h2
    have := of_decide_eq_true h2
    rw [Int.toNat_of_nonneg h0] at this
    exact ⟨⟨h0, by omega⟩, this.2⟩
  · rintro ⟨⟨h0, h1⟩, h2⟩
    refine ⟨⟨h0, by omega⟩, ?_⟩
    rw [h.bit x.toNat (by omega)]
    exact decide_eq_true ⟨by omega, by rw [Int.toNat_of_nonneg h0]; exact h2⟩
theorem bitsTo_prefix (l : List UInt8) (i m : Nat) (h : i < m) (hb : bitL l i = true) : (bitsTo l i).length < (bitsTo l m).length ∧ (bitsTo l m).getD (bitsTo l i).length 0 = (i : Int) := by
  have e : ∀ d, ∃ r, bitsTo l (i + 1 + d) = bitsTo l (i + 1) ++ r := by
    intro d
    induction d with
    | zero => exact ⟨[], by simp⟩
    | succ d ih =>
      obtain ⟨r, hr⟩ := ih
      refine ⟨r ++ if bitL l (i + 1 + d) then [((i + 1 + d : Nat) : Int)] else [], ?_⟩
      rw [show i + 1 + (d + 1) = (i + 1 + d) + 1 by omega, bitsTo_succ, hr, List.append_assoc]
  obtain ⟨r, hr⟩ := e (m - (i + 1))
  rw [show i + 1 + (m - (i + 1)) = m by omega, bitsTo_succ, if_pos hb] at hr
  rw [hr]
  constructor
  · simp
  · simp [List.getD_eq_getElem?_getD]

set_option maxHeartbeats 4000000 in
set_option maxRecDepth 100000 in
theorem bits_walk (g : Nat) (A1 : Option Addr) (len c1 : Nat) (zs : List Int) (n : Int) (s : ByteArray) (w : World) (hr : Sha.UR w .u16 g (.slice A1 len c1) zs) (hlen : zs.length = len) (hz : ∀ z ∈ zs, 0 ≤ z ∧ z < 65536) (hs : s.size ≤ 140737488351232) :
    Calls Try.prog 8 #[.slice A1 len c1, .int .i64 n, .string s] w fun e w' => e = .returned (.bool true) ∧ Hid (Below w.heap.size w w') := by
  have hc : len ≤ c1 ∧ c1 ≤ 9223372036854775807 := by
    obtain ⟨A, c, o, hv, h1, h2, _⟩ := hr
    injection hv with _ _ hv
    subst hv
    rw [hlen] at h1
    exact ⟨h1, h2⟩
  obtain ⟨hc1, hc2⟩ := hc
  have HR := Lib.hid hr
  have HL := Lib.hid hlen
  have HZ := Lib.hid hz
  obtain ⟨ns, hns⟩ : ∃ ns, s.size = ns := ⟨_, rfl⟩
  have hns2 : (ns : Int) ≤ 140737488351232 := by omega
  have HNS := Lib.hid hns
  clear hr hlen hz hs
  by_cases hbig : 100 < len
  · have hb : (100 : Int) < (len : Int) := by omega
    go_enter Try.func8, Try.ntmps8
    go_wp2_with (go_at_call 12; refine (awake_calls _).mono ?_; rintro e w1 ⟨rfl, HB⟩)
    go_ret
    exact ⟨rfl, HB⟩
  · have hb : ¬ (100 : Int) < (len : Int) := by omega
    by_cases hbig2 : 300 < ns
    · have hb2 : (300 : Int) < (ns : Int) := by omega
      go_enter Try.func8, Try.ntmps8
      go_wp2_with (go_at_call 12; refine (awake_calls _).mono ?_; rintro e w1 ⟨rfl, HB⟩)
      go_ret
      exact ⟨rfl, HB⟩
    · have hb2 : ¬ (300 : Int) < (ns : Int) := by omega
      have HJ : Hid (∀ W, JR W 0 (.slice none 0 0) []) := Lib.hid (fun W => ⟨none, 0, 0, rfl, Nat.le_refl _, by omega, fun h => by simp at h⟩)
      have hmk := @run_makeMap Try.prog
      go_enter Try.func8, Try.ntmps8
      go_upto_region 8 with (first
        | (go_at_call 12; refine (awake_calls _).mono ?_; rintro e w1 ⟨rfl, HBW⟩)
        | (go_at_call 13; refine (st_new 1 1 0 _ [] w _ HBW.out (HJ.out _) (by omega) (by omega) (by simp) (by simp)).mono ?_; rintro e W1 ⟨p, mb, ab, rfl, HS⟩))
      have HT : Hid (Two w ((W1.alloc (.map #[] 0)).alloc (.cells #[.map (some W1.heap.size)] 53)) p mb ab (W1.heap.size + 1) W1.heap.size []) := Lib.hid ((Two.start HS.out).resolve_right (fun h => h rfl))
      go_upto_region 10 with (fail)
      clear HS HBW hmk
      obtain ⟨hb', hhb⟩ : ∃ b, W1.heap.size + 1 = b := ⟨_, rfl⟩
      obtain ⟨sb, hsb⟩ : ∃ b, W1.heap.size = b := ⟨_, rfl⟩
      generalize ((W1.alloc (.map #[] 0)).alloc (.cells #[.map (some W1.heap.size)] 53)) = W2 at *
      rw [hhb, hsb] at HT
      rw [hhb]
      clear hhb hsb
      go_loopw [43] (fun x wz => ∃ (k : Nat) (M : List Int), x = .int .i64 (k : Int) ∧ k ≤ len ∧ M.length ≤ k ∧ Hid (Two w wz p mb ab hb' sb M)) (fun x _ => len - (intOf x).toNat)
      case atStart => exact ⟨0, [], rfl, by omega, by simp, HT⟩
      case round =>
        obtain ⟨k, M, rfl, hk, hM, HT⟩ := hrel
        by_cases hlt : k < len
        · obtain ⟨A', c', o', hv', -, -, hread⟩ := HR.out.later HT.out.st.below
          rw [HL.out] at hread hv'
          obtain ⟨rfl, -, hcell⟩ := hread (by omega)
          injection hv' with hv' _ hcc
          subst hcc hv'
          have q0 := hcell k hlt
          obtain ⟨hx0, hx1⟩ := HZ.out (zs.getD k 0) (by rw [List.getD_eq_getElem?_getD, List.getElem?_eq_getElem (by rw [HL.out]; exact hlt)]; exact List.getElem_mem _)
          generalize zs.getD k 0 = x at *
          have hil := ins_len_le x M
          have HIL := Lib.hid hil
          clear hcell hread hil
          go_wp2_with (go_at_call 14; refine (two_add HT.out x hx0 (by omega) (by omega)).mono ?_; rintro e W3 ⟨rfl, hc3, W4, hr4, HT4⟩)
          go_roundw
          case rel => exact ⟨k + 1, _, by go_num, by omega, by have := HIL.out; omega, HT4⟩
          case measure => simp [intOf]; omega
        · obtain rfl : len = k := by omega
          clear hlt hk
          obtain ⟨m, hm⟩ : ∃ m : Nat, min (max n 0) 65536 = (m : Int) := ⟨(min (max n 0) 65536).toNat, by omega⟩
          have hm2 : m ≤ 65536 := by omega
          obtain ⟨L, hL⟩ : ∃ L, (m + 7) / 8 = L := ⟨_, rfl⟩
          have q1 : ((m : Int) + 7) / 8 = (L : Int) := by omega
          have HLL := Lib.hid hL
          have HMM := Lib.hid hm
          have hL2 : L ≤ 8192 := by omega
          clear hL
          go_upto_region 17 with (go_at_call 27; refine (bits_calls p mb ab 1 1 M [] (fun _ => 0) n m _ HT.out.st.ws HMM.out).mono ?_; rw [HLL.out]; rintro e W5 ⟨bs, rfl, hbits, hbel⟩; have HBI := Lib.hid hbits; have HT := Lib.hid (HT.out.later hbel); clear hbits hbel)
          have hbin : bitsTo bs (8 * L) = inTo M m := by have := HBI.out; rw [← HLL.out] at this ⊢; exact bits_in this
          have HBIN := Lib.hid hbin
          obtain ⟨sv, hsv⟩ : ∃ sv : ByteArray, ⟨bs.toArray⟩ = sv := ⟨_, rfl⟩
          have hsl : sv.size = L := by rw [← hsv]; show bs.toArray.size = L; rw [List.size_toArray]; exact HBI.out.len
          have HSD : Hid (sv.data.toList = bs) := Lib.hid (by rw [← hsv])
          rw [hsv]
          have HSL := Lib.hid hsl
          have hLL : ((L : Int) != (L : Int)) = false := by simp
          clear hsv hbin hm
          go_upto_region 22 with (first
            | (go_at_call 29; (with_reducible show Calls Try.prog _ #[.string sv] _ _); refine (from_calls sv L _ HSL.out hL2).mono ?_; rw [HSD.out, HBIN.out]; rintro e W6 ⟨v6, rfl, ho6, hb6⟩; have HT := Lib.hid (HT.out.later hb6); obtain ⟨g6, hg6⟩ := JR.of_oj ho6; have HG6 := Lib.hid hg6; obtain ⟨A6, c6, o6, rfl, -⟩ := id hg6; clear ho6 hb6 hg6)
            | (go_at_call 30; refine (rising_calls m hb' sb M _ hm2 HT.out.cell HT.out.set).mono ?_; rintro e W7 ⟨v7, rfl, ho7, hb7⟩; have HT := Lib.hid (HT.out.later hb7); have HG6 := Lib.hid (HG6.out.later hb7); obtain ⟨g7, hg7⟩ := JR.of_oj ho7; have HG7 := Lib.hid hg7; obtain ⟨A7, c7, o7, rfl, -⟩ := id hg7; clear ho7 hb7 hg7)
            | (go_at_call 28; refine (ints_b g6 g7 _ _ (inTo M m) (inTo M m) _ HG6.out HG7.out).mono ?_; rw [decide_eq_true (p := inTo M m = inTo M m) rfl]; rintro e W8 ⟨rfl, HB8⟩; have HT := Lib.hid (HT.out.later HB8.out); clear HB8)
            | (go_at_call 29; (with_reducible show Calls Try.prog _ #[.string s] _ _); refine (from_calls s ns _ HNS.out (by omega)).mono ?_; rintro e W9 ⟨v9, rfl, ho9, hb9⟩; have HT := Lib.hid (HT.out.later hb9); obtain ⟨g9, hg9⟩ := JR.of_oj ho9; have HG9 := Lib.hid hg9; obtain ⟨A9, c9, o9, rfl, -⟩ := id hg9; clear ho9 hb9 hg9))
          obtain ⟨N8, hN8⟩ : ∃ N8, 8 * ns = N8 := ⟨_, rfl⟩
          have hmul : (8 : Int) * (ns : Int) = (N8 : Int) := by omega
          have HN8 := Lib.hid hN8
          have n82 : N8 ≤ 2400 := by omega
          obtain ⟨lw, hlw⟩ : ∃ lw, (bitsTo s.data.toList (8 * ns)).length = lw := ⟨_, rfl⟩
          have HLW : Hid ((bitsTo s.data.toList N8).length = lw) := Lib.hid (by rw [← hN8]; exact hlw)
          have hlw2 : lw ≤ 2400 := by have := bitsTo_len s.data.toList (8 * ns); omega
          rw [hlw]
          obtain ⟨A9', c9', o9', hv9, h91, h92, hread9⟩ := HG9.out
          rw [hlw] at hv9 h91 hread9
          injection hv9 with hv9 _ hv9c
          subst hv9 hv9c
          have HR9 := Lib.hid hread9
          clear hN8 hlw hread9 HG6 HG7 HBI HBIN HSL HSD
          have HK0 : Hid ((bitsTo s.data.toList 0).length = 0) := Lib.hid rfl
          go_loopw [15, 16] (fun y x wz => ∃ i k : Nat, x = .int .i64 (i : Int) ∧ y = .int .i64 (k : Int) ∧ i ≤ N8 ∧ k ≤ i ∧ Hid ((bitsTo s.data.toList i).length = k) ∧ wz = W9) (fun _ x _ => N8 - (intOf x).toNat)
          case atStart => exact ⟨0, 0, rfl, rfl, by omega, by omega, HK0, rfl⟩
          case round =>
            obtain ⟨i, k, rfl, rfl, hi, hki, HK, hwz⟩ := hrel
            subst hwz
            by_cases hlt : i < N8
            · have hi8 : i / 8 < s.size := by have := HN8.out; rw [hns]; omega
              have hi8' : i / 8 < ns := by omega
              have i0 : (0 : Int) ≤ (i : Int) / 8 := by omega
              have i1 : (i : Int) / 8 < (ns : Int) := by omega
              have hq := congrArg UInt8.toNat (str_at s (i / 8) hi8).symm
              obtain ⟨bb, hbb⟩ : ∃ bb, (s.data.toList.getD (i / 8) 0).toNat = bb := ⟨_, rfl⟩
              rw [hbb] at hq
              have HBB := Lib.hid hbb
              have hb256 : bb < 256 := by rw [← hbb]; exact UInt8.toNat_lt _
              obtain ⟨r8, hr8⟩ : ∃ r8, i % 8 = r8 := ⟨_, rfl⟩
              have i2 : (i : Int) % 8 = (r8 : Int) := by omega
              have HR8 := Lib.hid hr8
              have r88 : r8 < 8 := by omega
              clear hbb hr8
              go_upto_region 26 with (fail)
              rename World => wo
              go_loopw [17, 18] (fun y x wz => ∃ j b : Nat, x = .int .i64 (j : Int) ∧ y = .int .i64 (b : Int) ∧ j ≤ r8 ∧ b < 256 ∧ Hid (bb / 2 ^ j = b) ∧ wz = wo) (fun _ x _ => r8 - (intOf x).toNat)
              case atStart => exact ⟨0, bb, rfl, rfl, by omega, hb256, Lib.hid (by simp), rfl⟩
              case round =>
                obtain ⟨j, b, rfl, rfl, hj, hb3, HBJ, hwz⟩ := hrel
                subst hwz
                by_cases hlt2 : j < r8
                · have HBJ2 : Hid (bb / 2 ^ (j + 1) = b / 2) := Lib.hid (by rw [← HBJ.out, Nat.pow_succ, Nat.div_div_eq_div_mul])
                  go_wp2
                  go_roundw
                  case rel => exact ⟨j + 1, b / 2, by go_num, by simp, by omega, by omega, HBJ2, by simp⟩
                  case measure => simp [intOf]; omega
                · obtain rfl : r8 = j := by omega
                  have hbit : bitL s.data.toList i = (b % 2 == 1) := by unfold bitL bitN; rw [HBB.out, HR8.out, HBJ.out]
                  have hsucc := bitsTo_succ s.data.toList i
                  cases hbt : (b % 2 == 1) with
                  | true =>
                    have e2 : ((b : Int) % 2 == 1) = true := by
                      have : b % 2 = 1 := by simpa using hbt
                      rw [beq_iff_eq]; omega
                    rw [hbt] at hbit
                    obtain ⟨p1, p2⟩ := bitsTo_prefix s.data.toList i N8 hlt hbit
                    rw [HLW.out, HK.out] at p1
                    rw [HK.out] at p2
                    have HK2 : Hid ((bitsTo s.data.toList (i + 1)).length = k + 1) := Lib.hid (by rw [hsucc, hbit, if_pos rfl, List.length_append, HK.out]; rfl)
                    obtain ⟨rfl, -, hcell⟩ := HR9.out (by omega)
                    have hx := hcell k p1
                    rw [show bitsTo s.data.toList (8 * ns) = bitsTo s.data.toList N8 by rw [HN8.out], p2] at hx
                    have p3 : (k : Int) < (lw : Int) := by omega
                    have p4 : ((i : Int) != (i : Int)) = false := by simp
                    clear hcell hbit hsucc hbt p2
                    go_wp2
                    go_roundw
                    case rel => exact ⟨i + 1, k + 1, by go_num, by go_num, by omega, by omega, HK2, by simp⟩
                    case measure => simp [intOf]; omega
                  | false =>
                    have e2 : ((b : Int) % 2 == 1) = false := by
                      have : ¬ b % 2 = 1 := by simpa using hbt
                      rw [beq_eq_false_iff_ne]; omega
                    rw [hbt] at hbit
                    have HK2 : Hid ((bitsTo s.data.toList (i + 1)).length = k) := Lib.hid (by rw [hsucc, hbit, List.length_append, HK.out]; rfl)
                    clear hbit hsucc hbt
                    go_wp2
                    go_roundw
                    case rel => exact ⟨i + 1, k, by go_num, rfl, by omega, by omega, HK2, by simp⟩
                    case measure => simp [intOf]; omega
            · obtain rfl : N8 = i := by omega
              obtain rfl : lw = k := by rw [← HLW.out]; exact HK.out
              have e3 : ((lw : Int) == (lw : Int)) = true := by simp
              have hlit : ∀ W : World, (W.alloc (.cells #[.int .i64 1] 3)).cell? ⟨W.heap.size, 0, none⟩ = some (.int .i64 1) := fun W => by
                rw [cell_of_row _ _ 0 _ _ _ (heap_alloc_new _ _)]; rfl
              have HLIT := Lib.hid hlit
              clear hlit
              have HZ : Hid (Below wr.heap.size wr wr) := Lib.hid (Below.refl _ _)
              have hem : ((⟨#[]⟩ : ByteArray).toList == (⟨#[]⟩ : ByteArray).toList) = true := by simp
              go_wp2_with (first
                | (go_at_call 14; refine (add_nil _ 1 _ (HLIT.out _)).mono ?_; rintro e w20 ⟨rfl, HBx⟩; have HZ := Lib.hid (HZ.out.trans (((Below.refl _ _).alloc (Nat.le_refl _) _).trans (HBx.out.mono (by simp)))); clear HBx)
                | (go_at_call 15; refine (next_nil _ _).mono ?_; rintro e w21 ⟨rfl, HBx⟩; have HZ := Lib.hid (HZ.out.trans (HBx.out.mono HZ.out.size)); clear HBx)
                | (go_at_call 32; refine (until_nil _ _).mono ?_; rintro e w22 ⟨rfl, HBx⟩; have HZ := Lib.hid (HZ.out.trans (HBx.out.mono HZ.out.size)); clear HBx)
                | (go_at_call 19; refine (got_nil _ _).mono ?_; rintro e w23 ⟨rfl, HBx⟩; have HZ := Lib.hid (HZ.out.trans (HBx.out.mono HZ.out.size)); clear HBx)
                | (go_at_call 16; refine (over_nil _ _).mono ?_; rintro e w24 ⟨rfl, HBx⟩; have HZ := Lib.hid (HZ.out.trans (HBx.out.mono HZ.out.size)); clear HBx)
                | (go_at_call 18; refine (missing_nil _).mono ?_; rintro e w25 ⟨rfl, HBx⟩; have HZ := Lib.hid (HZ.out.trans (HBx.out.mono HZ.out.size)); clear HBx)
                | (go_at_call 17; refine (asked_nil _).mono ?_; rintro e w26 ⟨rfl, HBx⟩; have HZ := Lib.hid (HZ.out.trans (HBx.out.mono HZ.out.size)); clear HBx)
                | (go_at_call 27; refine (bits_nil _ _).mono ?_; rintro e w27 ⟨rfl, HBx⟩; have HZ := Lib.hid (HZ.out.trans (HBx.out.mono HZ.out.size)); clear HBx))
              go_ret
              have h0 := HT.out.st.below
              exact ⟨rfl, Lib.hid (h0.trans (HZ.out.mono h0.size))⟩
theorem bits_row (g : Nat) (v : Value) (zs : List Int) (n : Int) (s : ByteArray) (w : World) (hr : Sha.UR w .u16 g v zs) (hz : ∀ z ∈ zs, 0 ≤ z ∧ z < 65536) (hn : (Lit.int .i64 n).wf = true) (hs : s.size ≤ 140737488351232) :
    Calls Try.prog 8 #[v, .int .i64 n, .string s] w fun e w' => e = .returned (.bool true) ∧ Below w.heap.size w w' := by
  have hr' := hr
  obtain ⟨A, c, o, rfl, -⟩ := hr'
  exact (bits_walk g A zs.length c zs n s w hr rfl hz hs).mono fun _ _ h => ⟨h.1, h.2.out⟩
end Go.Proofs.Ythnpaiobjmneaaa.Wa
