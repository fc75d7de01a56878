/- manifest: Make. -/
import Derived.Test.YtjokfllldcjheaaGreatDoorMd
import Derived.Test.YtjokfllldcjheaaGreatDoorMu
namespace Go.Proofs.YtjokfllldcjheaaGreatDoor.Mn
open Go.RowKit Go.Proofs.YtjokfllldcjheaaGreatDoor.Oc Go.Proofs.YtjokfllldcjheaaGreatDoor.Ed Go.Proofs.YtjokfllldcjheaaGreatDoor.Tb Go.Proofs.YtjokfllldcjheaaGreatDoor.Sha Go.Proofs.YtjokfllldcjheaaGreatDoor.Cs Go.Proofs.YtjokfllldcjheaaGreatDoor.Mk
set_option linter.unusedVariables false
set_option linter.unusedSimpArgs false
/-- a version in memory: its box, its table, its blocks -/
structure VS (w : World) (vb : Nat) (tv bv : Value) (m : Man) (L : List ByteArray) : Prop where
  blk : w.heap[vb]? = some (.cells #[.int .i64 m.ver, .int .i64 m.nodes, .int .i64 m.edges, tv, .int .i64 m.blocks, .string m.root, bv] 75 (0, 0))
  tab : ∃ g, TBR w g tv m.sh
  lst : ∃ g, SR w g bv L
theorem VS.lt {w : World} {vb : Nat} {tv bv : Value} {m : Man} {L : List ByteArray} (h : VS w vb tv bv m L) : vb < w.heap.size := (Array.getElem?_eq_some_iff.1 h.blk).1
theorem VS.later {w w' : World} {vb : Nat} {tv bv : Value} {m : Man} {L : List ByteArray} (h : VS w vb tv bv m L) (hb : Below w.heap.size w w') : VS w' vb tv bv m L := by
  obtain ⟨g, hg⟩ := h.tab
  obtain ⟨k, hk⟩ := h.lst
  exact ⟨(hb.block vb h.lt).trans h.blk, ⟨g, hg.later hb⟩, ⟨k, hk.later hb⟩⟩
theorem VS.cells {w : World} {vb : Nat} {tv bv : Value} {m : Man} {L : List ByteArray} (h : VS w vb tv bv m L) :
    w.cell? ⟨vb, 0, none⟩ = some (.int .i64 m.ver) ∧ w.cell? ⟨vb, 1, none⟩ = some (.int .i64 m.nodes) ∧ w.cell? ⟨vb, 2, none⟩ = some (.int .i64 m.edges) ∧ w.cell? ⟨vb, 3, none⟩ = some tv ∧ w.cell? ⟨vb, 4, none⟩ = some (.int .i64 m.blocks) ∧ w.cell? ⟨vb, 5, none⟩ = some (.string m.root) ∧ w.cell? ⟨vb, 6, none⟩ = some bv :=
  ⟨cell_of_row w vb 0 _ _ _ h.blk, cell_of_row w vb 1 _ _ _ h.blk, cell_of_row w vb 2 _ _ _ h.blk, cell_of_row w vb 3 _ _ _ h.blk, cell_of_row w vb 4 _ _ _ h.blk, cell_of_row w vb 5 _ _ _ h.blk, cell_of_row w vb 6 _ _ _ h.blk⟩
theorem split_all {w : World} {B p bb N : Nat} {tv : Value} {l : List E2} (hc : CS w B p bb tv N l) (hN : N ≤ 300) (q : Nat) (h1 : 1 ≤ q) (h3 : ¬ (q < 4096 ∧ (N + q - 1) / q > 64)) :
    Calls Tryz.prog 11 #[pV p, .int .i64 (q : Int)] w fun e w' => ∃ v, e = .returned (.tuple #[v, .nilIface]) ∧ Hid (OT w' w.heap.size v (partsB (tgt l) N (min q 1000) ((N + min q 1000 - 1) / min q 1000))) ∧ Hid (Below w.heap.size w w') := by
  by_cases hq : q < 4096
  · have h := split_calls hc q h1 hq (by omega)
    by_cases hk : q ≤ 1000
    · rw [Nat.min_eq_left hk]; exact h
    · rw [Nat.min_eq_right (by omega), ← parts_big (tgt l) N q 1000 (by omega) (by omega) h1 (by omega)]; exact h
  · have h := split_big hc (q : Int) (by omega)
    rw [Nat.min_eq_right (by omega), ← parts_big (tgt l) N 4096 1000 (by omega) (by omega) (by omega) (by omega)]; exact h
/-- how many parts there are is few -/
theorem few_parts {N q : Nat} (hN : N ≤ 300) (h1 : 1 ≤ q) (h3 : ¬ (q < 4096 ∧ (N + q - 1) / q > 64)) : (N + min q 1000 - 1) / min q 1000 ≤ 64 := by
  by_cases hk : q ≤ 1000
  · rw [Nat.min_eq_left hk]; omega
  · rw [Nat.min_eq_right (by omega)]
    have : (N + 1000 - 1) / 1000 ≤ 1 := by
      have := (Nat.div_lt_iff_lt_mul (show 0 < 1000 by omega)).2 (show N + 1000 - 1 < 2 * 1000 by omega)
      omega
    omega
theorem blks_small (b : ByteArray) (n : Nat) : ∀ s ∈ blks b n, s.size ≤ 900000 := by
  intro s hs
  unfold blks at hs
  obtain ⟨k, hk, rfl⟩ := List.mem_map.1 hs
  unfold pc
  rw [ByteArray.size_extract]
  omega
set_option maxHeartbeats 4000000 in
set_option maxRecDepth 100000 in
theorem make_ver (V n E : Int) (lv : Value) (w : World) (hV : V < 1 ∨ 1099511627776 < V) :
    Calls Tryz.prog 28 #[.int .i64 V, .int .i64 n, .int .i64 E, lv] w fun e w' => e = .returned (.tuple #[.pointer none, noV 13]) ∧ Hid (Below w.heap.size w w') := by
  by_cases h0 : V < 1
  case' neg => have h1 : 1099511627776 < V := by omega
  all_goals
    clear hV
    go_enter Tryz.func28, Tryz.ntmps28
    go_wp2
    go_ret2
    exact ⟨rfl, Lib.hid (Below.refl _ _)⟩
set_option maxHeartbeats 4000000 in
set_option maxRecDepth 100000 in
theorem make_graph (V n E : Int) (g : Nat) (lv : Value) (l : List E2) (w : World) (hV : 1 ≤ V ∧ V ≤ 1099511627776) (hr : ER w g lv l) (hl : l.length ≤ 1000000) (hw : wrg n l ≠ -2) :
    Calls Tryz.prog 28 #[.int .i64 V, .int .i64 n, .int .i64 E, lv] w fun e w' => e = .returned (.tuple #[.pointer none, errV (wrg n l)]) ∧ Hid (Below w.heap.size w w') := by
  have HB := Lib.hid (build_bad n g lv l w hr hl hw)
  obtain ⟨z, hz⟩ : ∃ z, wrg n l = z := ⟨_, rfl⟩
  rw [hz] at HB ⊢
  have h0 : ¬ V < 1 := by omega
  have h1 : ¬ 1099511627776 < V := by omega
  clear hr hw hz hV
  go_enter Tryz.func28, Tryz.ntmps28
  go_wp2_with (go_at_call 10; refine HB.out.mono ?_; unfold errV; rintro e w2 ⟨rfl, HB2⟩)
  go_ret2
  exact ⟨rfl, HB2⟩
set_option maxHeartbeats 4000000 in
set_option maxRecDepth 100000 in
theorem make_split (V E k : Int) (N g : Nat) (lv : Value) (l0 : List E2) (w : World) (hV : 1 ≤ V ∧ V ≤ 1099511627776) (hr : ER w g lv l0) (hl : l0.length ≤ 1000000) (hw : wrg (N : Int) l0 = -2) (hk : k = 1 ∧ E < 1 ∨ k = 6 ∧ ∃ q : Nat, E = (q : Int) ∧ 1 ≤ q ∧ q < 4096 ∧ (N + q - 1) / q > 64) :
    Calls Tryz.prog 28 #[.int .i64 V, .int .i64 (N : Int), .int .i64 E, lv] w fun e w' => e = .returned (.tuple #[.pointer none, noV k]) ∧ Hid (Below w.heap.size w w') := by
  have HB := Lib.hid (build_ok N g lv l0 w hr hl hw)
  have HK := Lib.hid hk
  have h0 : ¬ V < 1 := by omega
  have h1 : ¬ 1099511627776 < V := by omega
  clear hr hw hV hk
  go_enter Tryz.func28, Tryz.ntmps28
  go_upto_region 6 with (go_at_call 10; refine HB.out.mono ?_; rintro e w2 ⟨p, bb, tv, rfl, HC, HB2⟩)
  have HS : Hid (Calls Tryz.prog 11 #[pV p, .int .i64 E] w2 fun e w' => e = .returned (.tuple #[.slice none 0 0, noV k]) ∧ w2 = w') := Lib.hid (by
    rcases HK.out with ⟨rfl, h⟩ | ⟨rfl, q, rfl, h1, h2, h3⟩
    · exact split_less p E h w2
    · exact split_long HC.out q h1 h2 h3)
  clear HC
  go_wp2_with (go_at_call 11; refine HS.out.mono ?_; rintro e w3 ⟨rfl, rfl⟩)
  go_ret2
  exact ⟨rfl, HB2⟩
set_option maxHeartbeats 8000000 in
set_option maxRecDepth 100000 in
theorem make_ok (V : Int) (N q g : Nat) (lv : Value) (l0 : List E2) (w : World) (hV : 1 ≤ V ∧ V ≤ 1099511627776) (hr : ER w g lv l0) (hl : l0.length ≤ 200) (hw : wrg (N : Int) l0 = -2) (hN : N ≤ 300) (h1 : 1 ≤ q) (h3 : ¬ (q < 4096 ∧ (N + q - 1) / q > 64)) (e m : Nat) (he : min q 1000 = e) (hm : (N + e - 1) / e = m) :
    Calls Tryz.prog 28 #[.int .i64 V, .int .i64 (N : Int), .int .i64 (q : Int), lv] w fun r w' => ∃ vb tv bv, r = .returned (.tuple #[.pointer (some ⟨vb, 0, none⟩), .nilIface]) ∧ Hid (VS w' vb tv bv (made V (tgt (nrm l0)) N (nrm l0).length e m) (blks (allB (tgt (nrm l0)) N e m) (bcnt (allB (tgt (nrm l0)) N e m)))) ∧ Hid (May (made V (tgt (nrm l0)) N (nrm l0).length e m)) ∧ Hid ((allB (tgt (nrm l0)) N e m).size ≤ 128000) ∧ Hid (Below w.heap.size w w') := by
  have HB := Lib.hid (build_ok N g lv l0 w hr (by omega) hw)
  have hfp := few_parts hN h1 h3
  rw [he, hm] at hfp
  have he1 : 1 ≤ e := by omega
  have HEE := Lib.hid he
  have HMM := Lib.hid hm
  have H3 := Lib.hid h3
  have hln := nrm_len l0
  obtain ⟨l, hll⟩ : ∃ l, nrm l0 = l := ⟨_, rfl⟩
  rw [hll] at HB hln ⊢
  have hl2 : l.length ≤ 200 := by omega
  have HLL := Lib.hid hl2
  have HN := Lib.hid hN
  have HV := Lib.hid hV
  have HQ := Lib.hid h1
  have HE1 := Lib.hid he1
  have HM2 := Lib.hid hfp
  have h0 : ¬ V < 1 := by omega
  have h1 : ¬ 1099511627776 < V := by omega
  clear hr hw hV h3 he hm hll hln hl2 hl hN hfp he1
  go_enter Tryz.func28, Tryz.ntmps28
  go_upto_region 6 with (go_at_call 10; refine HB.out.mono ?_; rintro e w2 ⟨p, bb, tv, rfl, HC, HB2⟩)
  have HS : Hid (Calls Tryz.prog 11 #[pV p, .int .i64 (q : Int)] w2 fun r w' => ∃ A c, r = .returned (.tuple #[.slice A m c, .nilIface]) ∧ Hid (∃ g, SR w' g (.slice A m c) (partsB (tgt l) N e m)) ∧ Hid (Below w2.heap.size w2 w')) := Lib.hid ((split_all HC.out HN.out q HQ.out H3.out).mono fun r w' ⟨v, h1, h2, h3⟩ => by
    rw [HEE.out, HMM.out] at h2
    obtain ⟨A, c, rfl, -⟩ := OT_shape h2.out
    rw [partsB_len] at h1 h2
    exact ⟨A, c, h1, Lib.hid h2.out.reads, h3⟩)
  have HMAY := Lib.hid (made_may HC.out HN.out HLL.out e HE1.out m HMM.out HM2.out V HV.out)
  have HCS := Lib.hid (cat_small HC.out HN.out HLL.out e HE1.out m (by rw [HMM.out]; exact Nat.le_refl _))
  have HEC : Hid (∀ W, Below w2.heap.size w2 W → Calls Tryz.prog 31 #[pV p] W fun r w' => r = .returned (.int .i64 (l.length : Int)) ∧ W = w') := Lib.hid (fun W h => edges_calls (HC.out.later h))
  obtain ⟨nl, hnl⟩ : ∃ nl, l.length = nl := ⟨_, rfl⟩
  have HNL := Lib.hid hnl
  rw [hnl] at HEC HMAY
  obtain ⟨b, hb⟩ : ∃ b, allB (tgt l) N e m = b := ⟨_, rfl⟩
  have HBB := Lib.hid hb
  have hbs : b.size ≤ 128000 := by
    have h := allB_size (tgt l) N e m
    have h2 := HCS.out
    rw [hb] at h
    have h3 := HM2.out
    omega
  have HCAT : Hid (cat (partsB (tgt l) N e m) = b.data.toList) := Lib.hid (by rw [← hb]; rfl)
  obtain ⟨bc, hbc⟩ : ∃ bc, bcnt b = bc := ⟨_, rfl⟩
  have hb2 : bc ≤ 2048 := by rw [← hbc]; unfold bcnt; omega
  have hbi : ¬ (2048 : Int) < (bc : Int) := by omega
  have HBC := Lib.hid hbc
  have HSB := Lib.hid hbs
  have HBL : Hid ((blks b bc).length = bc) := Lib.hid (blks_length b bc)
  have HTB : Hid (∀ (k : Nat) (v : Value) (W : World), SR W k v (partsB (tgt l) N e m) → Calls Tryz.prog 14 #[.int .i64 (N : Int), v] W fun r w' => ∃ A c, r = .returned (.tuple #[.slice A m c, .nilIface]) ∧ Hid (TBO w' W.heap.size (.slice A m c) (tabP (tgt l) N e m)) ∧ Hid (Below W.heap.size W w')) := Lib.hid (fun k v W h => (table_parts HC.out e HE1.out m HMM.out (by have := HM2.out; omega) k v W h).mono fun r w' ⟨v2, h1, h2, h3⟩ => by
    obtain ⟨A, c, rfl, -⟩ := h2.out.shape
    rw [tabP_len] at h1 h2
    exact ⟨A, c, h1, h2, h3⟩)
  clear hb hbs hbc hb2 hnl HB
  go_upto_region 9 with (go_at_call 11; refine HS.out.mono ?_; rintro e w3 ⟨pA, pc, rfl, HPR, HB3⟩)
  obtain ⟨pg, hpg⟩ := HPR.out
  have HPG := Lib.hid hpg
  have HCU : Hid (Calls Tryz.prog 61 #[.slice pA m pc] w3 fun r w' => ∃ A c g, r = .returned (.slice A bc c) ∧ Hid (SR w' g (.slice A bc c) (blks b bc)) ∧ Hid (Below w3.heap.size w3 w')) := Lib.hid ((cut_calls pg _ _ b w3 hpg (by rw [partsB_len]; have := HM2.out; omega) HCAT.out (by have := HSB.out; omega)).mono fun r w' ⟨v, g, h1, h2, h3⟩ => by
    rw [HBC.out] at h2
    obtain ⟨A, c, hv, -⟩ := id h2.out
    rw [HBL.out] at hv
    subst hv
    exact ⟨A, c, g, h1, h2, h3⟩)
  clear hpg HPR
  go_upto_region 12 with (go_at_call 61; refine HCU.out.mono ?_; rintro e w4 ⟨kA, kc, kg, rfl, HKR, HB4⟩)
  have HRT : Hid (∀ W, Below w4.heap.size w4 W → Calls Tryz.prog 33 #[.slice kA bc kc] W fun r w' => r = .returned (.string (rootD (blks b bc))) ∧ Hid (Below W.heap.size W w')) := Lib.hid (fun W h => root_calls kg _ _ W (HKR.out.later h) (by rw [HBL.out]; have := HSB.out; have := HBC.out; unfold bcnt at this; omega) (blks_small b bc))
  have HTB2 := Lib.hid (HTB.out pg _ w4 (HPG.out.later HB4.out))
  have HU4 : Hid (Below w2.heap.size w2 w4) := Lib.hid (HB3.out.trans (HB4.out.mono HB3.out.size))
  go_upto_region 16 with (first
    | (go_at_call 14; refine HTB2.out.mono ?_; rintro e w5 ⟨tA, tc, rfl, HTR, HB5⟩)
    | (go_at_call 31; refine (HEC.out _ (HU4.out.trans (HB5.out.mono HU4.out.size))).mono ?_; rintro e w6 ⟨rfl, rfl⟩)
    | (go_at_call 33; refine (HRT.out _ HB5.out).mono ?_; rintro e w7 ⟨rfl, HB7⟩))
  have HMD : Hid (made V (tgt l) N nl e m = ⟨V, N, nl, tabP (tgt l) N e m, bc, rootD (blks b bc)⟩) := Lib.hid (by unfold made; rw [HBB.out, HBC.out])
  have HTL := Lib.hid (HTR.out.later HB7.out)
  have HKL := Lib.hid (HKR.out.later (HB5.out.trans (HB7.out.mono HB5.out.size)))
  have hu7 : Below w2.heap.size w2 w7 := HU4.out.trans ((HB5.out.trans (HB7.out.mono HB5.out.size)).mono HU4.out.size)
  have HU7 : Hid (Below w.heap.size w w7) := Lib.hid (HB2.out.trans (hu7.mono HB2.out.size))
  clear hu7 HB5 HB7 HTR HTB2 HCU HPG HB3 HB4 HRT
  go_wp2
  go_ret2
  refine ⟨w7.heap.size + 1, .slice tA m tc, .slice kA bc kc, rfl, Lib.hid ?_, Lib.hid (by rw [HNL.out]; exact HMAY.out), Lib.hid (by rw [HBB.out]; exact HSB.out), Lib.hid ((HU7.out.alloc HU7.out.size _).alloc (by have := HU7.out.size; simp; omega) _)⟩
  rw [HNL.out, HMD.out, HBB.out, HBC.out]
  have hbl := (Below.refl w7.heap.size w7).alloc (Nat.le_refl _) (.cells #[.int .i64 V, .int .i64 (N : Int), .int .i64 (nl : Int), .slice tA m tc, .int .i64 (bc : Int), .string (rootD (blks b bc))] 73)
  have hb2 := hbl.alloc (by simp) (.cells #[.int .i64 V, .int .i64 (N : Int), .int .i64 (nl : Int), .slice tA m tc, .int .i64 (bc : Int), .string (rootD (blks b bc)), .slice kA bc kc] 75)
  refine ⟨?_, ?_, ⟨kg, HKL.out.later hb2⟩⟩
  · have h := heap_alloc_new (w7.alloc (.cells #[.int .i64 V, .int .i64 (N : Int), .int .i64 (nl : Int), .slice tA m tc, .int .i64 (bc : Int), .string (rootD (blks b bc))] 73)) (.cells #[.int .i64 V, .int .i64 (N : Int), .int .i64 (nl : Int), .slice tA m tc, .int .i64 (bc : Int), .string (rootD (blks b bc)), .slice kA bc kc] 75)
    rw [show (w7.alloc (.cells #[.int .i64 V, .int .i64 (N : Int), .int .i64 (nl : Int), .slice tA m tc, .int .i64 (bc : Int), .string (rootD (blks b bc))] 73)).heap.size = w7.heap.size + 1 by simp] at h
    exact h
  · obtain ⟨g, hg, -⟩ := HTL.out.reads
    exact ⟨g, hg.later hb2⟩
end Go.Proofs.YtjokfllldcjheaaGreatDoor.Mn
