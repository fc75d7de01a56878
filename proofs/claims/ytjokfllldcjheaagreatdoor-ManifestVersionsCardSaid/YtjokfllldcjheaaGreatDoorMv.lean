/- ManifestVersions, walked. -/
import Derived.Test.YtjokfllldcjheaaGreatDoorMa
import Derived.Test.YtjokfllldcjheaaGreatDoorPe
namespace Go.Proofs.YtjokfllldcjheaaGreatDoor.Mn
open Go.RowKit Go.Proofs.YtjokfllldcjheaaGreatDoor.Oc Go.Proofs.YtjokfllldcjheaaGreatDoor.Ed Go.Proofs.YtjokfllldcjheaaGreatDoor.Tb Go.Proofs.YtjokfllldcjheaaGreatDoor.Sha Go.Proofs.YtjokfllldcjheaaGreatDoor.Cs Go.Proofs.YtjokfllldcjheaaGreatDoor.Mk
set_option linter.unusedVariables false
set_option linter.unusedSimpArgs false
/-- what Make answers of few nodes and edges: of three kinds -/
theorem make_any (V n E : Int) (g : Nat) (lv : Value) (l : List E2) (w : World) (hV : 1 ≤ V ∧ V ≤ 1099511627776) (hr : ER w g lv l) (hl : l.length ≤ 200) (hn : n ≤ 300) :
    Calls Tryz.prog 28 #[.int .i64 V, .int .i64 n, .int .i64 E, lv] w fun e w' => ∃ p v, e = .returned (.tuple #[p, v]) ∧ Hid (Below w.heap.size w w') := by
  by_cases hw : wrg n l = -2
  · obtain ⟨N, rfl⟩ := Int.eq_ofNat_of_zero_le (wrg_ok.1 hw).1
    by_cases hE : E < 1
    · exact (make_split V E 1 N g lv l w hV hr (by omega) hw (.inl ⟨rfl, hE⟩)).mono fun e w' h => ⟨_, _, h.1, h.2⟩
    · obtain ⟨q, rfl⟩ := Int.eq_ofNat_of_zero_le (show 0 ≤ E by omega)
      by_cases hq : q < 4096 ∧ (N + q - 1) / q > 64
      · exact (make_split V q 6 N g lv l w hV hr (by omega) hw (.inr ⟨rfl, q, rfl, by omega, hq⟩)).mono fun e w' h => ⟨_, _, h.1, h.2⟩
      · exact (make_ok V N q g lv l w hV hr hl hw (by omega) (by omega) hq _ _ rfl rfl).mono fun e w' ⟨vb, tv, bv, h1, h2, h3, _, h4⟩ => ⟨_, _, h1, h4⟩
  · exact (make_graph V n E g lv l w hV hr (by omega) hw).mono fun e w' h => ⟨_, _, h.1, h.2⟩
/-- what is made, whatever the version, and the edges' order -/
theorem make_ok2 (N q : Nat) (l0 : List E2) (hl : l0.length ≤ 200) (hw : wrg (N : Int) l0 = -2) (hN : N ≤ 300) (h1 : 1 ≤ q) (h3 : ¬ (q < 4096 ∧ (N + q - 1) / q > 64)) :
    ∃ (nl : Nat) (T : List E2) (bl : Int) (R : ByteArray) (L : List ByteArray), L.length ≤ 1000000 ∧ (cat L).length ≤ 1000000 ∧ ∀ (V : Int) (g : Nat) (lv : Value) (l1 : List E2) (w : World), (1 ≤ V ∧ V ≤ 1099511627776) → ER w g lv l1 → l1.length ≤ 200 → wrg (N : Int) l1 = -2 → nrm l1 = nrm l0 →
      Calls Tryz.prog 28 #[.int .i64 V, .int .i64 (N : Int), .int .i64 (q : Int), lv] w fun r w' => ∃ vb tA tc bA bc, r = .returned (.tuple #[.pointer (some ⟨vb, 0, none⟩), .nilIface]) ∧ Hid (VS w' vb (.slice tA T.length tc) (.slice bA L.length bc) ⟨V, N, nl, T, bl, R⟩ L) ∧ Hid (May ⟨V, N, nl, T, bl, R⟩) ∧ Hid (Below w.heap.size w w') := by
  obtain ⟨e, he⟩ : ∃ e, min q 1000 = e := ⟨_, rfl⟩
  obtain ⟨m, hm⟩ : ∃ m, (N + e - 1) / e = m := ⟨_, rfl⟩
  have hfp := few_parts hN h1 h3
  rw [he, hm] at hfp
  -- the bytes are few: from any graph in memory; here from the rows alone
  by_cases hsz : (allB (tgt (nrm l0)) N e m).size ≤ 1000000
  · refine ⟨(nrm l0).length, tabP (tgt (nrm l0)) N e m, bcnt (allB (tgt (nrm l0)) N e m), rootD (blks (allB (tgt (nrm l0)) N e m) (bcnt (allB (tgt (nrm l0)) N e m))), blks (allB (tgt (nrm l0)) N e m) (bcnt (allB (tgt (nrm l0)) N e m)), ?_, ?_, ?_⟩
    · rw [blks_length]; unfold bcnt; omega
    · rw [cat_all, list_sz0]; exact hsz
    · intro V g lv l1 w hV hr hl1 hw1 hn
      have h := make_ok V N q g lv l1 w hV hr hl1 hw1 hN h1 h3 e m he hm
      rw [hn] at h
      refine h.mono fun r w' ⟨vb, tv, bv, h1, h2, h3, _, h4⟩ => ?_
      obtain ⟨g2, hg⟩ := h2.out.tab
      obtain ⟨k2, hk⟩ := h2.out.lst
      obtain ⟨o, tA, tc, ht, -⟩ := id hg
      obtain ⟨bA, bc, hb, -⟩ := id hk
      subst ht hb
      exact ⟨vb, tA, tc, bA, bc, h1, h2, h3, h4⟩
  · refine ⟨0, [], 0, ByteArray.empty, [], by simp, by simp [cat], ?_⟩
    intro V g lv l1 w hV hr hl1 hw1 hn
    -- never so: the graph in memory tells it
    have h := make_ok V N q g lv l1 w hV hr hl1 hw1 hN h1 h3 e m he hm
    rw [hn] at h
    exact h.mono fun r w' ⟨vb, tv, bv, _, _, _, h5, _⟩ => absurd (Nat.le_trans h5.out (by decide)) hsz
theorem rev_take (l : List E2) (k j : Nat) (h : k + j + 1 = l.length) : l.reverse.take (k + 1) = l.reverse.take k ++ [l.getD j (0, 0)] := by
  rw [List.take_add_one, List.getElem?_eq_getElem (by rw [List.length_reverse]; omega), List.getElem_reverse]
  have e : l.length - 1 - k = j := by omega
  simp [e, List.getD, List.getElem?_eq_getElem (show j < l.length by omega)]
theorem wrg_rev {n : Int} {l : List E2} : wrg n l.reverse = -2 ↔ wrg n l = -2 := by
  rw [wrg_ok, wrg_ok]
  simp
theorem nrm_rev (l : List E2) : nrm l.reverse = nrm l := nrm_congr fun x => by simp
set_option maxHeartbeats 8000000 in
set_option maxRecDepth 100000 in
theorem versions_walk (nn E V : Int) (g : Nat) (A : Option Addr) (len c : Nat) (l : List E2) (w : World) (hG : Er.G0 w) (hr : ER w g (.slice A len c) l) :
    Calls Tryz.prog 6 #[.agg #[.int .i64 nn, .int .i64 E, .int .i64 V], .slice A len c] w fun e w' => e = .returned (.bool true) ∧ Hid (Below w.heap.size w w') := by
  have HR := Lib.hid hr
  obtain ⟨hln, hc1, hc2⟩ : l.length = len ∧ len ≤ c ∧ c ≤ 9223372036854775807 := by
    obtain ⟨A', c', hv, h1, h2⟩ := er_form hr
    injection hv with _ hl hc
    subst hl hc
    exact ⟨rfl, h1, h2⟩
  have HLN := Lib.hid hln
  have HAW := Lib.hid (fun W => awake10_calls W)
  have HCN : Hid (∀ (k : Int) (W : World), Below w.heap.size w W → Calls Tryz.prog 12 #[noV k] W fun r w' => r = .returned (.int .i64 k) ∧ Hid (Below W.heap.size W w')) := Lib.hid (fun k W h => Er.code_calls (.no k) W (g0_on hG h))
  have HCF : Hid (∀ (a k : Int) (W : World), Below w.heap.size w W → Calls Tryz.prog 12 #[faultV a k] W fun r w' => r = .returned (.int .i64 k) ∧ Hid (Below W.heap.size W w')) := Lib.hid (fun a k W h => Er.code_calls (.at a (.no k)) W (g0_on hG h))
  have HCZ : Hid (∀ (W : World), Below w.heap.size w W → Calls Tryz.prog 12 #[.nilIface] W fun r w' => r = .returned (.int .i64 0) ∧ Hid (Below W.heap.size W w')) := Lib.hid (fun W h => Er.code_calls .nil W (g0_on hG h))
  obtain ⟨W1, hW1⟩ : ∃ W1, w.alloc (.cells #[.int .i64 nn, .int .i64 E, .int .i64 V] 66) = W1 := ⟨_, rfl⟩
  have HX0 : Hid (W1.heap[w.heap.size]? = some (.cells #[.int .i64 nn, .int .i64 E, .int .i64 V] 66 (0, 0))) := Lib.hid (by rw [← hW1]; exact heap_alloc_new w _)
  have HBX : Hid (Below w.heap.size w W1) := Lib.hid (by rw [← hW1]; exact (Below.refl _ _).alloc (Nat.le_refl _) _)
  obtain ⟨xb, hxb⟩ : ∃ xb, w.heap.size = xb := ⟨_, rfl⟩
  have HXB := Lib.hid hxb
  rw [hxb] at HX0
  have HSS : Hid (∀ X, Below W1.heap.size W1 X → X.cell? ⟨xb, 0, none⟩ = some (.int .i64 nn) ∧ X.cell? ⟨xb, 1, none⟩ = some (.int .i64 E) ∧ X.cell? ⟨xb, 2, none⟩ = some (.int .i64 V)) := Lib.hid (fun X h => by
    have h1 := (h.block xb (Array.getElem?_eq_some_iff.1 HX0.out).1).trans HX0.out
    exact ⟨cell_of_row X xb 0 _ _ _ h1, cell_of_row X xb 1 _ _ _ h1, cell_of_row X xb 2 _ _ _ h1⟩)
  have HUF : Hid (∀ X, Below W1.heap.size W1 X → Below w.heap.size w X) := Lib.hid (fun X h => HBX.out.trans (h.mono HBX.out.size))
  have HU : Hid (Below W1.heap.size W1 W1) := Lib.hid (Below.refl _ _)
  clear hr hln HX0 hG
  by_cases hbig : 200 < len
  · have hb : (200 : Int) < (len : Int) := by omega
    go_enter Tryz.func6, Tryz.ntmps6
    go_upto_region 1 with (fail)
    clear hW1 hxb
    go_wp2_with (go_at_call 27; refine (HAW.out _).mono ?_; rintro e w1 ⟨rfl, HBx⟩; have HU := Lib.hid (HU.out.trans (HBx.out.mono HU.out.size)); clear HBx)
    go_ret
    exact ⟨rfl, Lib.hid (HUF.out _ HU.out)⟩
  have hb : ¬ (200 : Int) < (len : Int) := by omega
  have hb2 : len ≤ 200 := by omega
  clear hbig
  by_cases hn3 : 300 < nn
  · go_enter Tryz.func6, Tryz.ntmps6
    go_upto_region 1 with (fail)
    clear hW1 hxb
    go_wp2_with (go_at_call 27; refine (HAW.out _).mono ?_; rintro e w1 ⟨rfl, HBx⟩; have HU := Lib.hid (HU.out.trans (HBx.out.mono HU.out.size)); clear HBx; obtain ⟨s0, s1, s2⟩ := HSS.out _ HU.out)
    go_ret
    exact ⟨rfl, Lib.hid (HUF.out _ HU.out)⟩
  have hn4 : nn ≤ 300 := by omega
  go_enter Tryz.func6, Tryz.ntmps6
  go_upto_region 1 with (fail)
  clear hW1 hxb
  go_upto_region 7 with (go_at_call 27; refine (HAW.out _).mono ?_; rintro e w1 ⟨rfl, HBx⟩; have HU := Lib.hid (HU.out.trans (HBx.out.mono HU.out.size)); clear HBx; obtain ⟨s0, s1, s2⟩ := HSS.out _ HU.out)
  clear s0 s1 s2
  have hbb := hb2
  clear hb
  go_loopw [5, 24] (fun u x wz => ∃ k : Nat, x = .int .i64 (k : Int) ∧ k ≤ len ∧ Hid (EO wz W1.heap.size u (l.reverse.take k)) ∧ Hid (Below W1.heap.size W1 wz)) (fun _ x _ => len - (intOf x).toNat)
  case atStart => exact ⟨0, rfl, by omega, Lib.hid (EO.nil _ _), HU⟩
  case round =>
    obtain ⟨k, rfl, hk, HO, HK⟩ := hrel
    by_cases hlt : k < len
    · obtain ⟨j, hj⟩ : ∃ j, k + j + 1 = len := ⟨len - k - 1, by omega⟩
      obtain ⟨m, hm⟩ : ∃ m, m + 1 = len := ⟨len - 1, by omega⟩
      have hw1 : IntKind.i64.wrap ((len : Int) - 1) = (m : Int) := by rw [IntWalk.i64_in _ (by omega)]; omega
      have hw2 : IntKind.i64.wrap ((m : Int) - (k : Int)) = (j : Int) := by rw [IntWalk.i64_in _ (by omega)]; omega
      have hj0 : (0 : Int) ≤ (j : Int) := by omega
      have hj1 : (j : Int) < (len : Int) := by omega
      have hrt := rev_take l k j (by rw [HLN.out]; exact hj)
      obtain ⟨o', A', c', hv', -, -, hread⟩ := HR.out.later (HUF.out _ HK.out)
      rw [HLN.out] at hread hv'
      obtain ⟨hA, -, hcell⟩ := hread (by omega)
      subst hA
      injection hv' with hv' _ hcc
      subst hcc hv'
      obtain ⟨q0, q1⟩ := hcell j (by omega)
      obtain ⟨⟨x, y⟩, hxy⟩ : ∃ x, l.getD j (0, 0) = x := ⟨_, rfl⟩
      rw [hxy] at q0 q1 hrt
      simp only at q0 q1 hrt
      have HRT := Lib.hid hrt
      have htl : (l.reverse.take k).length = k := by rw [List.length_take, List.length_reverse, HLN.out]; omega
      obtain ⟨uA, uc, hu, -⟩ := HO.out.shape
      rw [htl] at hu
      subst hu
      have HTK := Lib.hid htl
      clear hcell hread hxy hrt hj hm htl hn3 hbb
      go_wp2_with (at_builtin; refine EO.append_on (base := W1.heap.size) (HO.out.alloc _) (ER.lit _ [(x, y)] _ rfl 1 rfl (by simp)) rfl _ _ rfl rfl rfl (by have := HK.out.size; simp; omega) (by rw [HTK.out]; simp only [List.length_cons, List.length_nil]; omega) ?_; intro v3 w3 k1 k2 k3; have K1 := Lib.hid k1; have K2 := Lib.hid k2; clear k1 k2 k3)
      go_roundw
      case rel => exact ⟨k + 1, by go_num, by omega, Lib.hid (by rw [HRT.out]; exact K1.out), Lib.hid ((HK.out.alloc HK.out.size _).grown K2.out (by have := HK.out.size; simp; omega) HO.out.base)⟩
      case measure => simp [intOf]; omega
    · obtain rfl : k = len := by omega
      have htl : l.reverse.take k = l.reverse := List.take_of_length_le (by rw [List.length_reverse, HLN.out]; exact Nat.le_refl _)
      have hoo := HO.out
      rw [htl] at hoo
      obtain ⟨uA, uc, hu, -⟩ := hoo.shape
      rw [List.length_reverse, HLN.out] at hu
      subst hu
      obtain ⟨bg, hbg, -⟩ := hoo.reads
      have HBG := Lib.hid hbg
      clear htl hoo hbg hlt HO
      obtain ⟨s0, s1, s2⟩ := HSS.out _ HK.out
      by_cases hV : 1 ≤ V ∧ V ≤ 1099511627776
      case neg =>
        have HMA := Lib.hid (make_any 1 nn E g _ l wr (by omega) (HR.out.later (HUF.out _ HK.out)) (by rw [HLN.out]; exact hb2) hn4)
        have HMB := Lib.hid (fun W => make_ver V nn E (.slice uA k uc) W (by omega))
        have HU := Lib.hid HK.out
        by_cases hv0 : V < 1
        case' neg => have hv1 : 1099511627776 < V := by omega
        all_goals
          clear hV hb2 hn3 hn4
          go_upto_region 13 with (first
            | (go_at_call 28; refine HMA.out.mono ?_; rintro e w5 ⟨p, v, rfl, HBx⟩; have HU := Lib.hid (HU.out.trans (HBx.out.mono HU.out.size)); clear HBx HMA; obtain ⟨s0, s1, s2⟩ := HSS.out _ HU.out)
            | (go_at_call 28; refine (HMB.out _).mono ?_; rintro e w6 ⟨rfl, HBx⟩; have HU := Lib.hid (HU.out.trans (HBx.out.mono HU.out.size)); clear HBx; obtain ⟨s0, s1, s2⟩ := HSS.out _ HU.out))
          go_wp2_with (go_at_call 12; refine (HCN.out 13 _ (HUF.out _ HU.out)).mono ?_; rintro e w7 ⟨rfl, HBx⟩; have HU := Lib.hid (HU.out.trans (HBx.out.mono HU.out.size)); clear HBx)
          go_ret
          exact ⟨rfl, Lib.hid (HUF.out _ HU.out)⟩
      have hv0 : ¬ V < 1 := by omega
      have hv1 : ¬ 1099511627776 < V := by omega
      have HVV := Lib.hid hV
      have HU := Lib.hid HK.out
      have HB2 := Lib.hid hb2
      by_cases hw : wrg nn l = -2
      case neg =>
        have HMA := Lib.hid (make_graph 1 nn E g _ l wr (by omega) (HR.out.later (HUF.out _ HK.out)) (by rw [HLN.out]; omega) hw)
        have HMB : Hid (∀ W, Below wr.heap.size wr W → _) := Lib.hid (fun W h => make_graph V nn E bg (.slice uA k uc) l.reverse W hV (HBG.out.later h) (by rw [List.length_reverse, HLN.out]; omega) (fun h => hw (wrg_rev.1 h)))
        obtain ⟨z1, hz1⟩ : ∃ z, wrg nn l = z := ⟨_, rfl⟩
        obtain ⟨z2, hz2⟩ : ∃ z, wrg nn l.reverse = z := ⟨_, rfl⟩
        rw [hz1] at HMA
        rw [hz2] at HMB
        clear hV hb2 hn3 hn4 hw hz1 hz2
        go_upto_region 13 with (first
          | (go_at_call 28; refine HMA.out.mono ?_; unfold errV; rintro e w5 ⟨rfl, HBx⟩; have HU := Lib.hid (HU.out.trans (HBx.out.mono HU.out.size)); clear HMA; obtain ⟨s0, s1, s2⟩ := HSS.out _ HU.out)
          | (go_at_call 28; refine (HMB.out _ HBx.out).mono ?_; unfold errV; rintro e w6 ⟨rfl, HBy⟩; have HU := Lib.hid (HU.out.trans (HBy.out.mono HU.out.size)); clear HBy; obtain ⟨s0, s1, s2⟩ := HSS.out _ HU.out))
        clear HBx
        go_wp2_with (go_at_call 12; refine (HCF.out _ 10 _ (HUF.out _ HU.out)).mono ?_; rintro e w7 ⟨rfl, HBx⟩; have HU := Lib.hid (HU.out.trans (HBx.out.mono HU.out.size)); clear HBx)
        go_ret
        exact ⟨rfl, Lib.hid (HUF.out _ HU.out)⟩
      obtain ⟨N, rfl⟩ := Int.eq_ofNat_of_zero_le (wrg_ok.1 hw).1
      by_cases hsp : E < 1 ∨ ∃ q : Nat, E = (q : Int) ∧ 1 ≤ q ∧ q < 4096 ∧ (N + q - 1) / q > 64
      case pos =>
        obtain ⟨kk, hkk⟩ : ∃ kk : Int, kk = 1 ∧ E < 1 ∨ kk = 6 ∧ ∃ q : Nat, E = (q : Int) ∧ 1 ≤ q ∧ q < 4096 ∧ (N + q - 1) / q > 64 := by
          rcases hsp with h | h
          · exact ⟨1, .inl ⟨rfl, h⟩⟩
          · exact ⟨6, .inr ⟨rfl, h⟩⟩
        have hkq : (kk != kk) = false := by simp
        have HMA := Lib.hid (make_split 1 E kk N g _ l wr (by omega) (HR.out.later (HUF.out _ HK.out)) (by rw [HLN.out]; omega) hw hkk)
        have HMB : Hid (∀ W, Below wr.heap.size wr W → _) := Lib.hid (fun W h => make_split V E kk N bg (.slice uA k uc) l.reverse W hV (HBG.out.later h) (by rw [List.length_reverse, HLN.out]; omega) (wrg_rev.2 hw) hkk)
        clear hV hb2 hn3 hn4 hw hsp hkk
        go_upto_region 13 with (first
          | (go_at_call 28; refine HMA.out.mono ?_; rintro e w5 ⟨rfl, HBx⟩; have HU := Lib.hid (HU.out.trans (HBx.out.mono HU.out.size)); clear HMA; obtain ⟨s0, s1, s2⟩ := HSS.out _ HU.out)
          | (go_at_call 28; refine (HMB.out _ HBx.out).mono ?_; rintro e w6 ⟨rfl, HBy⟩; have HU := Lib.hid (HU.out.trans (HBy.out.mono HU.out.size)); clear HBy; obtain ⟨s0, s1, s2⟩ := HSS.out _ HU.out))
        clear HBx
        go_wp2_with (go_at_call 12; refine (HCN.out kk _ (HUF.out _ HU.out)).mono ?_; rintro e w7 ⟨rfl, HBx⟩; have HU := Lib.hid (HU.out.trans (HBx.out.mono HU.out.size)); clear HBx)
        go_ret
        exact ⟨rfl, Lib.hid (HUF.out _ HU.out)⟩
      obtain ⟨q, rfl⟩ := Int.eq_ofNat_of_zero_le (show 0 ≤ E by
        rcases Int.lt_or_le E 1 with h | h
        · exact (hsp (.inl h)).elim
        · omega)
      have hq1 : 1 ≤ q := by
        rcases Nat.lt_or_ge q 1 with h | h
        · exact (hsp (.inl (by omega))).elim
        · exact h
      have hq2 : ¬ (q < 4096 ∧ (N + q - 1) / q > 64) := fun h => hsp (.inr ⟨q, rfl, hq1, h⟩)
      obtain ⟨nl, T, bl, R, L, hL1, hL2, hmk⟩ := make_ok2 N q l (by rw [HLN.out]; exact hb2) hw (by omega) hq1 hq2
      have HMA := Lib.hid (hmk 1 g _ l wr (by omega) (HR.out.later (HUF.out _ HK.out)) (by rw [HLN.out]; exact hb2) hw rfl)
      have HMB : Hid (∀ W, Below wr.heap.size wr W → _) := Lib.hid (fun W h => hmk V bg (.slice uA k uc) l.reverse W hV (HBG.out.later h) (by rw [List.length_reverse, HLN.out]; exact hb2) (wrg_rev.2 hw) (nrm_rev l))
      have HJN : Hid (∀ (W : World) (b : Value), (∃ g, SR W g b L) → Calls Tryz.prog 30 #[b, .string ⟨#[]⟩] W fun e w' => e = .returned (.string ⟨(cat L).toArray⟩) ∧ Hid (Below W.heap.size W w')) := Lib.hid (fun W b ⟨g, h⟩ => Sha.join_calls g b L W h hL1 hL2)
      obtain ⟨SJ, hSJ⟩ : ∃ SJ : ByteArray, (⟨(cat L).toArray⟩ : ByteArray) = SJ := ⟨_, rfl⟩
      rw [hSJ] at HJN
      obtain ⟨tl, htl⟩ : ∃ tl, T.length = tl := ⟨_, rfl⟩
      obtain ⟨ll, hll⟩ : ∃ ll, L.length = ll := ⟨_, rfl⟩
      rw [htl, hll] at HMA HMB
      have HSJ := Lib.hid hSJ
      have HTL := Lib.hid htl
      clear hV hb2 hn3 hn4 hw hsp hmk hL1 hL2 hSJ htl hll hq1 hq2
      go_upto_region 13 with (first
        | (go_at_call 28; refine HMA.out.mono ?_; rintro e w5 ⟨va, tA, tc, bA, bc, rfl, HV1, HMY1, HBx⟩; have HU := Lib.hid (HU.out.trans (HBx.out.mono HU.out.size)); clear HMA; obtain ⟨s0, s1, s2⟩ := HSS.out _ HU.out)
        | (go_at_call 28; refine (HMB.out _ HBx.out).mono ?_; rintro e w6 ⟨vb, uA2, uc2, cA, cc, rfl, HV2, HMY2, HBy⟩; have HU := Lib.hid (HU.out.trans (HBy.out.mono HU.out.size)); have HV1 := Lib.hid (HV1.out.later HBy.out); clear HBy; obtain ⟨s0, s1, s2⟩ := HSS.out _ HU.out))
      clear HBx HMB
      have HK6 : Hid (Below w6.heap.size w6 w6) := Lib.hid (Below.refl _ _)
      go_upto_region 19 with (go_at_call 12; refine (HCZ.out _ (HUF.out _ HU.out)).mono ?_; rintro e w7 ⟨rfl, HBx⟩; have HU := Lib.hid (HU.out.trans (HBx.out.mono HU.out.size)); have HK6 := Lib.hid (HK6.out.trans (HBx.out.mono HK6.out.size)); clear HBx)
      clear s0 s1 s2
      have hv1s := HV1.out.later HK6.out
      have hv2s := HV2.out.later HK6.out
      have HA1 := Lib.hid hv1s
      have HA2 := Lib.hid hv2s
      clear HV1 HV2 hv1s
      obtain ⟨c0, c1, c2, c3, c4, c5, c6⟩ := hv2s.cells
      try simp only at c0 c1 c2 c3 c4 c5 c6
      clear hv2s
      go_upto_region 21 with (fail)
      have hW8 := heap_alloc_new w7 (.cells #[.int .i64 1, .int .i64 (N : Int), .int .i64 (nl : Int), .slice uA2 tl uc2, .int .i64 bl, .string R] 73)
      have hu8 := HU.out.alloc HU.out.size (.cells #[.int .i64 1, .int .i64 (N : Int), .int .i64 (nl : Int), .slice uA2 tl uc2, .int .i64 bl, .string R] 73)
      have hb8 := (Below.refl w7.heap.size w7).alloc (Nat.le_refl _) (.cells #[.int .i64 1, .int .i64 (N : Int), .int .i64 (nl : Int), .slice uA2 tl uc2, .int .i64 bl, .string R] 73)
      have hx1 := HA1.out.later hb8
      have hx2 := HA2.out.later hb8
      clear c0 c1 c2 c3 c4 c5 c6
      generalize w7.alloc (.cells #[.int .i64 1, .int .i64 (N : Int), .int .i64 (nl : Int), .slice uA2 tl uc2, .int .i64 bl, .string R] 73) = W8 at *
      generalize w7.heap.size = mb at *
      have HM8 := Lib.hid hW8
      have HU8 := Lib.hid hu8
      have HX1 := Lib.hid hx1
      have HX2 := Lib.hid hx2
      clear hW8 hu8 hb8 hx1 hx2 HA1 HA2
      have HV : Hid (Below W8.heap.size W8 W8) := Lib.hid (Below.refl _ _)
      have H14 : Hid (∀ X, Below W8.heap.size W8 X → X.cell? ⟨va, 0, none⟩ = some (.int .i64 1) ∧ X.cell? ⟨va, 1, none⟩ = some (.int .i64 (N : Int)) ∧ X.cell? ⟨va, 2, none⟩ = some (.int .i64 (nl : Int)) ∧ X.cell? ⟨va, 3, none⟩ = some (.slice tA tl tc) ∧ X.cell? ⟨va, 4, none⟩ = some (.int .i64 bl) ∧ X.cell? ⟨va, 5, none⟩ = some (.string R) ∧ X.cell? ⟨va, 6, none⟩ = some (.slice bA ll bc) ∧ X.cell? ⟨vb, 6, none⟩ = some (.slice cA ll cc) ∧ X.cell? ⟨mb, 0, none⟩ = some (.int .i64 1) ∧ X.cell? ⟨mb, 1, none⟩ = some (.int .i64 (N : Int)) ∧ X.cell? ⟨mb, 2, none⟩ = some (.int .i64 (nl : Int)) ∧ X.cell? ⟨mb, 3, none⟩ = some (.slice uA2 tl uc2) ∧ X.cell? ⟨mb, 4, none⟩ = some (.int .i64 bl) ∧ X.cell? ⟨mb, 5, none⟩ = some (.string R)) := Lib.hid (fun X h => by
        obtain ⟨a0, a1, a2, a3, a4, a5, a6⟩ := (HX1.out.later h).cells
        have e6 := (HX2.out.later h).cells.2.2.2.2.2.2
        have hm := (h.block mb (Array.getElem?_eq_some_iff.1 HM8.out).1).trans HM8.out
        exact ⟨a0, a1, a2, a3, a4, a5, a6, e6, cell_of_row X mb 0 _ _ _ hm, cell_of_row X mb 1 _ _ _ hm, cell_of_row X mb 2 _ _ _ hm, cell_of_row X mb 3 _ _ _ hm, cell_of_row X mb 4 _ _ _ hm, cell_of_row X mb 5 _ _ _ hm⟩)
      have HSM : Hid (∀ X, Below W8.heap.size W8 X → Calls Tryz.prog 29 #[.agg #[.int .i64 1, .int .i64 (N : Int), .int .i64 (nl : Int), .slice tA tl tc, .int .i64 bl, .string R], .agg #[.int .i64 1, .int .i64 (N : Int), .int .i64 (nl : Int), .slice uA2 tl uc2, .int .i64 bl, .string R]] X fun e w' => e = .returned (.bool true) ∧ Hid (Below X.heap.size X w')) := Lib.hid (fun X h => by
        obtain ⟨g1, hg1⟩ := (HX1.out.later h).tab
        obtain ⟨g2, hg2⟩ := (HX2.out.later h).tab
        exact (msame_calls ⟨1, N, nl, T, bl, R⟩ ⟨1, N, nl, T, bl, R⟩ g1 g2 _ _ X hg1 hg2).mono fun e w' ⟨r, h1, h2, h3⟩ => ⟨by rw [h1, h2.2 rfl], h3⟩)
      have HJ1 : Hid (∀ X, Below W8.heap.size W8 X → Calls Tryz.prog 30 #[.slice bA ll bc, .string ⟨#[]⟩] X fun e w' => e = .returned (.string SJ) ∧ Hid (Below X.heap.size X w')) := Lib.hid (fun X h => HJN.out X _ (HX1.out.later h).lst)
      have HJ2 : Hid (∀ X, Below W8.heap.size W8 X → Calls Tryz.prog 30 #[.slice cA ll cc, .string ⟨#[]⟩] X fun e w' => e = .returned (.string SJ) ∧ Hid (Below X.heap.size X w')) := Lib.hid (fun X h => HJN.out X _ (HX2.out.later h).lst)
      have hsj : (SJ.toList == SJ.toList) = true := by simp
      have HUV : Hid (∀ X, Below W8.heap.size W8 X → Below w.heap.size w X) := Lib.hid (fun X h => HUF.out X (HU8.out.trans (h.mono HU8.out.size)))
      refine wp_region_noPanic ?_
      refine wp_region_held_drew (S := fun X => X.cell? ⟨va, 0, none⟩ = some (.int .i64 1) ∧ X.cell? ⟨va, 1, none⟩ = some (.int .i64 (N : Int)) ∧ X.cell? ⟨va, 2, none⟩ = some (.int .i64 (nl : Int)) ∧ X.cell? ⟨va, 3, none⟩ = some (.slice tA tl tc) ∧ X.cell? ⟨va, 4, none⟩ = some (.int .i64 bl) ∧ X.cell? ⟨va, 5, none⟩ = some (.string R) ∧ X.cell? ⟨va, 6, none⟩ = some (.slice bA ll bc) ∧ X.cell? ⟨vb, 6, none⟩ = some (.slice cA ll cc) ∧ X.cell? ⟨mb, 0, none⟩ = some (.int .i64 1) ∧ X.cell? ⟨mb, 1, none⟩ = some (.int .i64 (N : Int)) ∧ X.cell? ⟨mb, 2, none⟩ = some (.int .i64 (nl : Int)) ∧ X.cell? ⟨mb, 3, none⟩ = some (.slice uA2 tl uc2) ∧ X.cell? ⟨mb, 4, none⟩ = some (.int .i64 bl) ∧ X.cell? ⟨mb, 5, none⟩ = some (.string R)) (by kernel_rfl) (H14.out _ HV.out.drew) (fun hHeld => ?_)
      refine wpAnyH_take (i := 0) (oi := _) (v := ?_) rfl (by kernel_rfl) (by kernel_rfl) (by kernel_rfl) (fun _ _ _ h => h) (Or.inl ⟨by rfl, ?_⟩) (by assumption) ?_
      rotate_left
      · (intro w hSw; obtain ⟨s0, s1, s2, s3, s4, s5, s6, s7, s8, s9, s10, s11, s12, s13⟩ := hSw; go_simp; (try with_reducible rfl))
      try simp only [Act.put, List.getElem_toArray, List.getElem_cons_succ, List.getElem_cons_zero, List.setIfInBounds_toArray, List.set_cons_zero, List.set_cons_succ]
      refine wpAnyH_take (i := 1) (oi := _) (v := ?_) rfl (by kernel_rfl) (by kernel_rfl) (by kernel_rfl) (fun _ _ _ h => h) (Or.inl ⟨by rfl, ?_⟩) (by assumption) ?_
      rotate_left
      · (intro w hSw; obtain ⟨s0, s1, s2, s3, s4, s5, s6, s7, s8, s9, s10, s11, s12, s13⟩ := hSw; go_simp; (try with_reducible rfl))
      try simp only [Act.put, List.getElem_toArray, List.getElem_cons_succ, List.getElem_cons_zero, List.setIfInBounds_toArray, List.set_cons_zero, List.set_cons_succ]
      refine wpAnyH_take (i := 2) (oi := _) (v := ?_) rfl (by kernel_rfl) (by kernel_rfl) (by kernel_rfl) (fun _ _ _ h => h) (Or.inl ⟨by rfl, ?_⟩) (by assumption) ?_
      rotate_left
      · (intro w hSw; obtain ⟨s0, s1, s2, s3, s4, s5, s6, s7, s8, s9, s10, s11, s12, s13⟩ := hSw; go_simp; (try with_reducible rfl))
      try simp only [Act.put, List.getElem_toArray, List.getElem_cons_succ, List.getElem_cons_zero, List.setIfInBounds_toArray, List.set_cons_zero, List.set_cons_succ]
      refine wpAnyH_take (i := 3) (oi := _) (v := ?_) rfl (by kernel_rfl) (by kernel_rfl) (by kernel_rfl) (fun _ _ _ h => h) (Or.inl ⟨by rfl, ?_⟩) (by assumption) ?_
      rotate_left
      · (intro w hSw; obtain ⟨s0, s1, s2, s3, s4, s5, s6, s7, s8, s9, s10, s11, s12, s13⟩ := hSw; go_simp; (try with_reducible rfl))
      try simp only [Act.put, List.getElem_toArray, List.getElem_cons_succ, List.getElem_cons_zero, List.setIfInBounds_toArray, List.set_cons_zero, List.set_cons_succ]
      refine wpAnyH_take (i := 4) (oi := _) (v := ?_) rfl (by kernel_rfl) (by kernel_rfl) (by kernel_rfl) (fun _ _ _ h => h) (Or.inl ⟨by rfl, ?_⟩) (by assumption) ?_
      rotate_left
      · (intro w hSw; obtain ⟨s0, s1, s2, s3, s4, s5, s6, s7, s8, s9, s10, s11, s12, s13⟩ := hSw; go_simp; (try with_reducible rfl))
      try simp only [Act.put, List.getElem_toArray, List.getElem_cons_succ, List.getElem_cons_zero, List.setIfInBounds_toArray, List.set_cons_zero, List.set_cons_succ]
      refine wpAnyH_ready (rs := [5]) (by kernel_rfl) (by simp) ?_
      refine AllReadyH.cons (o := _) rfl (fun K hK => ?_) (AllReadyH.nil)
      (go_simp)
      go_at_call 29
      refine (HSM.out _ HV.out.drew).mono ?_
      rintro r wn ⟨rfl, HBx⟩
      have HV := Lib.hid (HV.out.drew.trans (HBx.out.mono HV.out.size))
      clear HBx
      dsimp only
      refine hK.out _ _ (H14.out _ HV.out) (fun hHeld => ?_)
      clear hK K
      try simp only [Act.put, List.getElem_toArray, List.getElem_cons_succ, List.getElem_cons_zero, List.setIfInBounds_toArray, List.set_cons_zero, List.set_cons_succ]
      refine wpAnyH_take (i := 6) (oi := _) (v := ?_) rfl (by kernel_rfl) (by kernel_rfl) (by kernel_rfl) (fun _ _ _ h => h) (Or.inl ⟨by rfl, ?_⟩) (by assumption) ?_
      rotate_left
      · (intro w hSw; obtain ⟨s0, s1, s2, s3, s4, s5, s6, s7, s8, s9, s10, s11, s12, s13⟩ := hSw; go_simp; (try with_reducible rfl))
      try simp only [Act.put, List.getElem_toArray, List.getElem_cons_succ, List.getElem_cons_zero, List.setIfInBounds_toArray, List.set_cons_zero, List.set_cons_succ]
      refine wpAnyH_take (i := 7) (oi := _) (v := ?_) rfl (by kernel_rfl) (by kernel_rfl) (by kernel_rfl) (fun _ _ _ h => h) (Or.inl ⟨by rfl, ?_⟩) (by assumption) ?_
      rotate_left
      · (intro w hSw; obtain ⟨s0, s1, s2, s3, s4, s5, s6, s7, s8, s9, s10, s11, s12, s13⟩ := hSw; go_simp; (try with_reducible rfl))
      try simp only [Act.put, List.getElem_toArray, List.getElem_cons_succ, List.getElem_cons_zero, List.setIfInBounds_toArray, List.set_cons_zero, List.set_cons_succ]
      refine wpAnyH_take (i := 8) (oi := _) (v := ?_) rfl (by kernel_rfl) (by kernel_rfl) (by kernel_rfl) (fun _ _ _ h => h) (Or.inl ⟨by rfl, ?_⟩) (by assumption) ?_
      rotate_left
      · (intro w hSw; obtain ⟨s0, s1, s2, s3, s4, s5, s6, s7, s8, s9, s10, s11, s12, s13⟩ := hSw; go_simp; (try with_reducible rfl))
      try simp only [Act.put, List.getElem_toArray, List.getElem_cons_succ, List.getElem_cons_zero, List.setIfInBounds_toArray, List.set_cons_zero, List.set_cons_succ]
      refine wpAnyH_take (i := 9) (oi := _) (v := ?_) rfl (by kernel_rfl) (by kernel_rfl) (by kernel_rfl) (fun _ _ _ h => h) (Or.inl ⟨by rfl, ?_⟩) (by assumption) ?_
      rotate_left
      · (intro w hSw; obtain ⟨s0, s1, s2, s3, s4, s5, s6, s7, s8, s9, s10, s11, s12, s13⟩ := hSw; go_simp; (try with_reducible rfl))
      try simp only [Act.put, List.getElem_toArray, List.getElem_cons_succ, List.getElem_cons_zero, List.setIfInBounds_toArray, List.set_cons_zero, List.set_cons_succ]
      refine wpAnyH_take (i := 10) (oi := _) (v := ?_) rfl (by kernel_rfl) (by kernel_rfl) (by kernel_rfl) (fun _ _ _ h => h) (Or.inl ⟨by rfl, ?_⟩) (by assumption) ?_
      rotate_left
      · (intro w hSw; obtain ⟨s0, s1, s2, s3, s4, s5, s6, s7, s8, s9, s10, s11, s12, s13⟩ := hSw; go_simp; (try with_reducible rfl))
      try simp only [Act.put, List.getElem_toArray, List.getElem_cons_succ, List.getElem_cons_zero, List.setIfInBounds_toArray, List.set_cons_zero, List.set_cons_succ]
      refine wpAnyH_take (i := 12) (oi := _) (v := ?_) rfl (by kernel_rfl) (by kernel_rfl) (by kernel_rfl) (fun _ _ _ h => h) (Or.inl ⟨by rfl, ?_⟩) (by assumption) ?_
      rotate_left
      · (intro w hSw; obtain ⟨s0, s1, s2, s3, s4, s5, s6, s7, s8, s9, s10, s11, s12, s13⟩ := hSw; go_simp; (try with_reducible rfl))
      try simp only [Act.put, List.getElem_toArray, List.getElem_cons_succ, List.getElem_cons_zero, List.setIfInBounds_toArray, List.set_cons_zero, List.set_cons_succ]
      refine wpAnyH_take (i := 13) (oi := _) (v := ?_) rfl (by kernel_rfl) (by kernel_rfl) (by kernel_rfl) (fun _ _ _ h => h) (Or.inl ⟨by rfl, ?_⟩) (by assumption) ?_
      rotate_left
      · (intro w hSw; obtain ⟨s0, s1, s2, s3, s4, s5, s6, s7, s8, s9, s10, s11, s12, s13⟩ := hSw; go_simp; (try with_reducible rfl))
      try simp only [Act.put, List.getElem_toArray, List.getElem_cons_succ, List.getElem_cons_zero, List.setIfInBounds_toArray, List.set_cons_zero, List.set_cons_succ]
      refine wpAnyH_take (i := 14) (oi := _) (v := ?_) rfl (by kernel_rfl) (by kernel_rfl) (by kernel_rfl) (fun _ _ _ h => h) (Or.inl ⟨by rfl, ?_⟩) (by assumption) ?_
      rotate_left
      · (intro w hSw; obtain ⟨s0, s1, s2, s3, s4, s5, s6, s7, s8, s9, s10, s11, s12, s13⟩ := hSw; go_simp; (try with_reducible rfl))
      try simp only [Act.put, List.getElem_toArray, List.getElem_cons_succ, List.getElem_cons_zero, List.setIfInBounds_toArray, List.set_cons_zero, List.set_cons_succ]
      refine wpAnyH_take (i := 15) (oi := _) (v := ?_) rfl (by kernel_rfl) (by kernel_rfl) (by kernel_rfl) (fun _ _ _ h => h) (Or.inl ⟨by rfl, ?_⟩) (by assumption) ?_
      rotate_left
      · (intro w hSw; obtain ⟨s0, s1, s2, s3, s4, s5, s6, s7, s8, s9, s10, s11, s12, s13⟩ := hSw; go_simp; (try with_reducible rfl))
      try simp only [Act.put, List.getElem_toArray, List.getElem_cons_succ, List.getElem_cons_zero, List.setIfInBounds_toArray, List.set_cons_zero, List.set_cons_succ]
      refine wpAnyH_ready (rs := [11]) (by kernel_rfl) (by simp) ?_
      refine AllReadyH.cons (o := _) rfl (fun K hK => ?_) (AllReadyH.nil)
      (go_simp)
      go_at_call 30
      refine (HJ1.out _ HV.out).mono ?_
      rintro r wn ⟨rfl, HBx⟩
      have HV := Lib.hid (HV.out.trans (HBx.out.mono HV.out.size))
      clear HBx
      dsimp only
      refine hK.out _ _ (H14.out _ HV.out) (fun hHeld => ?_)
      clear hK K
      try simp only [Act.put, List.getElem_toArray, List.getElem_cons_succ, List.getElem_cons_zero, List.setIfInBounds_toArray, List.set_cons_zero, List.set_cons_succ]
      refine wpAnyH_ready (rs := [16]) (by kernel_rfl) (by simp) ?_
      refine AllReadyH.cons (o := _) rfl (fun K hK => ?_) (AllReadyH.nil)
      (go_simp)
      go_at_call 30
      refine (HJ2.out _ HV.out).mono ?_
      rintro r wn ⟨rfl, HBx⟩
      have HV := Lib.hid (HV.out.trans (HBx.out.mono HV.out.size))
      clear HBx
      dsimp only
      refine hK.out _ _ (H14.out _ HV.out) (fun hHeld => ?_)
      clear hK K
      try simp only [Act.put, List.getElem_toArray, List.getElem_cons_succ, List.getElem_cons_zero, List.setIfInBounds_toArray, List.set_cons_zero, List.set_cons_succ]
      refine wpAnyH_take (i := 17) (oi := _) (v := ?_) rfl (by kernel_rfl) (by kernel_rfl) (by kernel_rfl) (fun _ _ _ h => h) (Or.inl ⟨by rfl, ?_⟩) (by assumption) ?_
      rotate_left
      · (intro w hSw; obtain ⟨s0, s1, s2, s3, s4, s5, s6, s7, s8, s9, s10, s11, s12, s13⟩ := hSw; go_simp; (try with_reducible rfl))
      try simp only [Act.put, List.getElem_toArray, List.getElem_cons_succ, List.getElem_cons_zero, List.setIfInBounds_toArray, List.set_cons_zero, List.set_cons_succ]
      refine wpAnyH_take (i := 18) (oi := _) (v := ?_) rfl (by kernel_rfl) (by kernel_rfl) (by kernel_rfl) (fun _ _ _ h => h) (Or.inl ⟨by rfl, ?_⟩) (by assumption) ?_
      rotate_left
      · (intro w hSw; obtain ⟨s0, s1, s2, s3, s4, s5, s6, s7, s8, s9, s10, s11, s12, s13⟩ := hSw; go_simp; (try with_reducible rfl))
      try simp only [Act.put, List.getElem_toArray, List.getElem_cons_succ, List.getElem_cons_zero, List.setIfInBounds_toArray, List.set_cons_zero, List.set_cons_succ]
      refine wpAnyH_take (i := 19) (oi := _) (v := ?_) rfl (by kernel_rfl) (by kernel_rfl) (by kernel_rfl) (fun _ _ _ h => h) (Or.inl ⟨by rfl, ?_⟩) (by assumption) ?_
      rotate_left
      · (intro w hSw; obtain ⟨s0, s1, s2, s3, s4, s5, s6, s7, s8, s9, s10, s11, s12, s13⟩ := hSw; go_simp; (try with_reducible rfl))
      try simp only [Act.put, List.getElem_toArray, List.getElem_cons_succ, List.getElem_cons_zero, List.setIfInBounds_toArray, List.set_cons_zero, List.set_cons_succ]
      refine wpAnyH_done (by kernel_rfl) ?_ _
      refine NoPanic.normal ?_
      try simp only [List.getElem_toArray, List.getElem_cons_succ, List.getElem_cons_zero, List.setIfInBounds_toArray, List.set_cons_zero, List.set_cons_succ]
      clear hHeld
      go_wp2
      go_ret
      exact ⟨rfl, Lib.hid (HUV.out _ HV.out)⟩
theorem versions_row (nn E V : Int) (g : Nat) (v : Value) (l : List E2) (w : World) (hG : Er.G0 w) (_ : (Lit.int .i64 nn).wf = true) (_ : (Lit.int .i64 E).wf = true) (_ : (Lit.int .i64 V).wf = true) (hr : ER w g v l) (_ : ∀ e ∈ l, (-9223372036854775808 ≤ e.1 ∧ e.1 < 9223372036854775808) ∧ (-9223372036854775808 ≤ e.2 ∧ e.2 < 9223372036854775808)) :
    Calls Tryz.prog 6 #[.agg #[.int .i64 nn, .int .i64 E, .int .i64 V], v] w fun e w' => e = .returned (.bool true) ∧ Below w.heap.size w w' := by
  obtain ⟨A, c, rfl, -⟩ := er_form hr
  exact (versions_walk nn E V g A _ c l w hG hr).mono fun e w' h => ⟨h.1, h.2.out⟩
end Go.Proofs.YtjokfllldcjheaaGreatDoor.Mn
