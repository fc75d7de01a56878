/- The reference of layer 4: Norm. -/
import Derived.Test.YtjokfllldcjheaaGreatDoorRw
import Derived.OrdersHeld
import Derived.Deep.RegionHeld3
import Derived.Deep.DeepCutAuto
import Derived.Deep.CutBlock
namespace Go.Proofs.YtjokfllldcjheaaGreatDoor.Ed
open Go.RowKit
set_option linter.unusedVariables false
set_option linter.unusedSimpArgs false
theorem nrm_take (l : List E2) (k : Nat) (h : k < l.length) : nrm (l.take (k + 1)) = insE (l.getD k (0, 0)) (nrm (l.take k)) := by
  refine up_ext (up_nrm _) (up_insE (up_nrm _)) fun x => ?_
  rw [mem_nrm, mem_insE, mem_nrm, List.take_add_one, List.mem_append]
  have e : l[k]? = some (l.getD k (0, 0)) := by rw [List.getD_eq_getElem?_getD, List.getElem?_eq_getElem h]; rfl
  rw [e]
  simp
  constructor
  · rintro (h | h)
    · exact .inr h
    · exact .inl h
  · rintro (h | h)
    · exact .inr h
    · exact .inl h
theorem ins_has {e : E2} {m : List E2} (hu : Up m) (h : e ∈ m) : insE e m = m :=
  up_ext (up_insE hu) hu fun x => by
    rw [mem_insE]
    constructor
    · rintro (rfl | h')
      · exact h
      · exact h'
    · exact .inr
theorem ins_at {e : E2} {m : List E2} (hu : Up m) (k : Nat) (hk : k ≤ m.length) (h1 : ∀ j, j < k → Lt (m.getD j (0, 0)) e) (h2 : k < m.length → Lt e (m.getD k (0, 0))) : insE e m = m.take k ++ e :: m.drop k := by
  have g : ∀ j (h : j < m.length), m.getD j (0, 0) = m[j] := fun j h => by rw [List.getD_eq_getElem?_getD, List.getElem?_eq_getElem h]; rfl
  have hp : m.Pairwise Lt := hu
  have hm : m.take k ++ m.drop k = m := List.take_append_drop k m
  have hpa : (m.take k ++ m.drop k).Pairwise Lt := by rw [hm]; exact hp
  rw [List.pairwise_append] at hpa
  refine up_ext (up_insE hu) ?_ fun x => ?_
  · show (m.take k ++ e :: m.drop k).Pairwise Lt
    rw [List.pairwise_append, List.pairwise_cons]
    have hd : ∀ y ∈ m.drop k, Lt e y := by
      intro y hy
      obtain ⟨j, hj, rfl⟩ := List.getElem_of_mem hy
      have hjl : k + j < m.length := by rw [List.length_drop] at hj; omega
      rw [List.getElem_drop]
      have h2' := h2 (by omega)
      rw [g k (by omega)] at h2'
      cases j with
      | zero => exact h2'
      | succ j => exact lt_trans h2' (List.pairwise_iff_getElem.1 hp k (k + (j + 1)) (by omega) hjl (by omega))
    have ht : ∀ y ∈ m.take k, Lt y e := by
      intro y hy
      obtain ⟨j, hj, rfl⟩ := List.getElem_of_mem hy
      have hjl : j < k := by rw [List.length_take] at hj; omega
      rw [List.getElem_take]
      have := h1 j hjl
      rwa [g j (by omega)] at this
    refine ⟨hpa.1, ⟨hd, hpa.2.1⟩, fun a ha b hb => ?_⟩
    rcases List.mem_cons.1 hb with rfl | hb
    · exact ht a ha
    · exact hpa.2.2 a ha b hb
  · rw [mem_insE, List.mem_append, List.mem_cons]
    have : x ∈ m ↔ x ∈ m.take k ∨ x ∈ m.drop k := by rw [← List.mem_append, hm]
    rw [this]
    constructor
    · rintro (h | h | h)
      · exact .inr (.inl h)
      · exact .inl h
      · exact .inr (.inr h)
    · rintro (h | h | h)
      · exact .inr (.inl h)
      · exact .inl h
      · exact .inr (.inr h)
set_option maxHeartbeats 4000000 in
set_option maxRecDepth 100000 in
theorem rnorm_calls (g : Nat) (v : Value) (l : List E2) (w : World) (h : ER w g v l) (hl : l.length ≤ 20000) :
    Calls Tryz.prog 13 #[v] w fun e w' => ∃ v', e = .returned v' ∧ Hid (EO w' w.heap.size v' (nrm l)) ∧ Hid (Below w.heap.size w w') := by
  have HE := Lib.hid h
  obtain ⟨o, A, c, rfl, h1, h2, hread⟩ := id h
  obtain ⟨len, hlen⟩ : ∃ len, l.length = len := ⟨_, rfl⟩
  rw [hlen] at h1 hl hread ⊢
  have HL := Lib.hid hlen
  have HRD := Lib.hid hread
  have hl7 : (len : Int) ≤ 20000 := by omega
  have HO0 : Hid (EO (w.alloc (.cells #[] 68)) w.heap.size (.slice (some ⟨w.heap.size, 0, none⟩) 0 0) (nrm (l.take 0))) := Lib.hid (EO.fresh w _ (Nat.le_refl _))
  have HB0 : Hid (Below w.heap.size w (w.alloc (.cells #[] 68))) := Lib.hid ((Below.refl _ _).alloc (Nat.le_refl _) _)
  clear h hlen hread
  go_enter Tryz.func13, Tryz.ntmps13
  go_upto_region 3 with (fail)
  go_loopw [3, 4] (fun u x wz => ∃ k : Nat, x = .int .i64 (k : Int) ∧ k ≤ len ∧ Hid (EO wz w.heap.size u (nrm (l.take k))) ∧ Hid (Below w.heap.size w wz)) (fun _ x _ => len - (intOf x).toNat)
  case atStart => exact ⟨0, rfl, by omega, HO0, HB0⟩
  case round =>
    clear HO0 HB0
    obtain ⟨k, rfl, hk, HO, HB⟩ := hrel
    by_cases hlt : k < len
    · have hnt := nrm_take l k (by rw [HL.out]; exact hlt)
      have hnl := nrm_len (l.take k)
      have hup := up_nrm (l.take k)
      rw [List.length_take, HL.out] at hnl
      obtain ⟨o', A', c', hv', -, -, hrd⟩ := HE.out.later HB.out
      rw [HL.out] at hrd hv'
      injection hv' with hv1 _ hv2
      subst hv1 hv2
      obtain ⟨rfl, hgl, hcell⟩ := hrd (by omega)
      obtain ⟨q0, q1⟩ := hcell k hlt
      generalize nrm (l.take k) = m at HO hnt hnl hup
      obtain ⟨⟨ea, eb⟩, he⟩ : ∃ e, l.getD k (0, 0) = e := ⟨_, rfl⟩
      rw [he] at q0 q1 hnt
      obtain ⟨A2, c2, rfl, hc2, hc3⟩ := id HO.out.shape
      obtain ⟨n, hn⟩ : ∃ n, m.length = n := ⟨_, rfl⟩
      rw [hn] at HO hnl hc2 ⊢
      have HN := Lib.hid hn
      obtain ⟨g2, ⟨o2, A2', c2', hv2, -, -, hr2⟩, -⟩ := HO.out.reads
      rw [hn] at hr2 hv2
      injection hv2 with hv3 _ hv4
      subst hv3 hv4
      have HR2 := Lib.hid hr2
      have HNT := Lib.hid hnt
      have HUP := Lib.hid hup
      have HQ := Lib.hid (And.intro q0 q1)
      have HZ : Hid (Below wr.heap.size wr wr) := Lib.hid (Below.refl _ _)
      clear hr2 hnt hup hcell hrd q0 q1 he hn
      go_upto_block 2 with (fail)
      go_cut [5] from 10 to 83 (fun x w' => ∃ j : Nat, x = .int .i64 (j : Int) ∧ j ≤ n ∧ Hid (∀ i, i < j → Lt (m.getD i (0, 0)) (ea, eb)) ∧ Hid (j < n → ¬ Lt (m.getD j (0, 0)) (ea, eb)) ∧ Hid (Below wr.heap.size wr w'))
      case first =>
        go_wp2_with fail
        go_loopw [5] (fun x wz => ∃ j : Nat, x = .int .i64 (j : Int) ∧ j ≤ n ∧ Hid (∀ i, i < j → Lt (m.getD i (0, 0)) (ea, eb)) ∧ Hid (Below wr.heap.size wr wz)) (fun x _ => n - (intOf x).toNat)
        case atStart => exact ⟨0, rfl, by omega, Lib.hid (fun i hi => absurd hi (by omega)), HZ⟩
        case round =>
          clear HZ
          obtain ⟨j, rfl, hj, HJ, HZ⟩ := hrel
          rename World => wz
          by_cases hlj : j < n
          · obtain ⟨rfl, hg2, hc2'⟩ := HR2.out (by omega)
            obtain ⟨p0, p1⟩ := hc2' j hlj
            have e1 := HZ.out.block g2 hg2
            have e2 := HZ.out.block g hgl
            have t0 : wz.cell? ⟨g2, o2 + j * 2, none⟩ = some (.int .i64 (m.getD j (0, 0)).1) := by rw [← p0]; simp only [World.cell?, e1]
            have t1 : wz.cell? ⟨g2, o2 + j * 2 + 1, none⟩ = some (.int .i64 (m.getD j (0, 0)).2) := by rw [← p1]; simp only [World.cell?, e1]
            have s0 : wz.cell? ⟨g, o' + k * 2, none⟩ = some (.int .i64 ea) := by rw [← HQ.out.1]; simp only [World.cell?, e2]
            have s1 : wz.cell? ⟨g, o' + k * 2 + 1, none⟩ = some (.int .i64 eb) := by rw [← HQ.out.2]; simp only [World.cell?, e2]
            obtain ⟨⟨ma, mb⟩, hm⟩ : ∃ e, m.getD j (0, 0) = e := ⟨_, rfl⟩
            rw [hm] at t0 t1
            simp only at t0 t1
            have HM := Lib.hid hm
            have j0 : (0 : Int) ≤ (j : Int) := by omega
            have j1 : (j : Int) < (n : Int) := by omega
            have k0 : (0 : Int) ≤ (k : Int) := by omega
            have k1 : (k : Int) < (len : Int) := by omega
            have j2 : j < n := hlj
            have HCELL : Hid (∀ W, Below wz.heap.size wz W → W.cell? ⟨g2, o2 + j * 2, none⟩ = some (.int .i64 ma) ∧ W.cell? ⟨g2, o2 + j * 2 + 1, none⟩ = some (.int .i64 mb) ∧ W.cell? ⟨g, o' + k * 2, none⟩ = some (.int .i64 ea) ∧ W.cell? ⟨g, o' + k * 2 + 1, none⟩ = some (.int .i64 eb)) := Lib.hid (fun W h => by
              have x1 := h.block g2 (World.block_lt_of_cell? _ _ t0)
              have x2 := h.block g (World.block_lt_of_cell? _ _ s0)
              refine ⟨?_, ?_, ?_, ?_⟩
              · rw [← t0]; simp only [World.cell?, x1]
              · rw [← t1]; simp only [World.cell?, x1]
              · rw [← s0]; simp only [World.cell?, x2]
              · rw [← s1]; simp only [World.cell?, x2])
            clear p0 p1 hc2' e1 e2 hm
            by_cases hll : Lt (ma, mb) (ea, eb)
            · have HLS : Hid (∀ W : World, Calls Tryz.prog 45 #[.agg #[.int .i64 ma, .int .i64 mb], .agg #[.int .i64 ea, .int .i64 eb]] W fun e w' => e = .returned (.bool true) ∧ Hid (Below W.heap.size W w')) := Lib.hid (fun W => by have := rless_calls (ma, mb) (ea, eb) W; rw [decide_eq_true hll] at this; exact this)
              have HLL := Lib.hid hll
              clear hll
              go_wp2_with fail
              go_region_held3 (fun w' => w'.cell? ⟨g2, o2 + j * 2, none⟩ = some (.int .i64 ma) ∧ w'.cell? ⟨g2, o2 + j * 2 + 1, none⟩ = some (.int .i64 mb) ∧ w'.cell? ⟨g, o' + k * 2, none⟩ = some (.int .i64 ea) ∧ w'.cell? ⟨g, o' + k * 2 + 1, none⟩ = some (.int .i64 eb)) (first | exact ⟨t0, t1, s0, s1⟩ | exact HCELL.out _ HB9.out) (first | (go_at_call 45; refine (HLS.out _).mono ?_; rintro e w9 ⟨rfl, HB9'⟩; have HB9 : Hid (Below wz.heap.size wz w9) := Lib.hid ((Below.refl _ wz).drew.trans HB9'.out)))
              go_wp2
              go_roundw
              case rel => exact ⟨j + 1, by go_num, by omega, Lib.hid (fun i hi => by
                by_cases e : i = j
                · subst e; rw [HM.out]; exact HLL.out
                · exact HJ.out i (by omega)), Lib.hid (HZ.out.trans (HB9.out.mono HZ.out.size))⟩
              case measure => simp [intOf]; omega
            · have HLS : Hid (∀ W : World, Calls Tryz.prog 45 #[.agg #[.int .i64 ma, .int .i64 mb], .agg #[.int .i64 ea, .int .i64 eb]] W fun e w' => e = .returned (.bool false) ∧ Hid (Below W.heap.size W w')) := Lib.hid (fun W => by have := rless_calls (ma, mb) (ea, eb) W; rw [decide_eq_false hll] at this; exact this)
              have HLL := Lib.hid hll
              clear hll
              go_wp2_with fail
              go_region_held3 (fun w' => w'.cell? ⟨g2, o2 + j * 2, none⟩ = some (.int .i64 ma) ∧ w'.cell? ⟨g2, o2 + j * 2 + 1, none⟩ = some (.int .i64 mb) ∧ w'.cell? ⟨g, o' + k * 2, none⟩ = some (.int .i64 ea) ∧ w'.cell? ⟨g, o' + k * 2 + 1, none⟩ = some (.int .i64 eb)) (first | exact ⟨t0, t1, s0, s1⟩ | exact HCELL.out _ HB9.out) (first | (go_at_call 45; refine (HLS.out _).mono ?_; rintro e w9 ⟨rfl, HB9'⟩; have HB9 : Hid (Below wz.heap.size wz w9) := Lib.hid ((Below.refl _ wz).drew.trans HB9'.out)))
              go_wp2
              go_meet
              exact ⟨j, rfl, hj, HJ, Lib.hid (fun _ => by rw [HM.out]; exact HLL.out), Lib.hid (HZ.out.trans (HB9.out.mono HZ.out.size))⟩
          · have hjn : ¬ (j : Int) < (n : Int) := by omega
            obtain rfl : n = j := by omega
            have hnn : ¬ n < n := by omega
            go_wp2_with fail
            go_big_quiet (fail)
            go_wp2
            go_meet
            exact ⟨n, rfl, Nat.le_refl _, HJ, Lib.hid (fun h => absurd h hnn), Lib.hid (HZ.out.trans (Ed.drewN_below _ _ _))⟩
      case rest =>
        obtain ⟨j, rfl, hj, HJ, HJ2, HZ9⟩ := hcut
        rename World => wc
        go_upto_region 8 with (fail)
        obtain ⟨pb, hpb⟩ : ∃ b : Bool, decide (j < n ∧ ¬ Lt (ea, eb) (m.getD j (0, 0))) = b := ⟨_, rfl⟩
        have HPB := Lib.hid hpb
        clear hpb
        go_cut [48] from 10 to 83 (fun x w' => x = .bool pb ∧ Hid (Below wr.heap.size wr w'))
        case first =>
          by_cases hlj : j < n
          · obtain ⟨rfl, hg2, hc2'⟩ := HR2.out (by omega)
            obtain ⟨p0, p1⟩ := hc2' j hlj
            have e1 := HZ9.out.block g2 hg2
            have e2 := HZ9.out.block g hgl
            have t0 : wc.cell? ⟨g2, o2 + j * 2, none⟩ = some (.int .i64 (m.getD j (0, 0)).1) := by rw [← p0]; simp only [World.cell?, e1]
            have t1 : wc.cell? ⟨g2, o2 + j * 2 + 1, none⟩ = some (.int .i64 (m.getD j (0, 0)).2) := by rw [← p1]; simp only [World.cell?, e1]
            have s0 : wc.cell? ⟨g, o' + k * 2, none⟩ = some (.int .i64 ea) := by rw [← HQ.out.1]; simp only [World.cell?, e2]
            have s1 : wc.cell? ⟨g, o' + k * 2 + 1, none⟩ = some (.int .i64 eb) := by rw [← HQ.out.2]; simp only [World.cell?, e2]
            obtain ⟨⟨ma, mb⟩, hm⟩ : ∃ e, m.getD j (0, 0) = e := ⟨_, rfl⟩
            rw [hm] at t0 t1 HPB
            simp only at t0 t1
            have j0 : (0 : Int) ≤ (j : Int) := by omega
            have j1 : (j : Int) < (n : Int) := by omega
            have k0 : (0 : Int) ≤ (k : Int) := by omega
            have k1 : (k : Int) < (len : Int) := by omega
            have j2 : j < n := hlj
            have HCELL : Hid (∀ W, Below wc.heap.size wc W → W.cell? ⟨g2, o2 + j * 2, none⟩ = some (.int .i64 ma) ∧ W.cell? ⟨g2, o2 + j * 2 + 1, none⟩ = some (.int .i64 mb) ∧ W.cell? ⟨g, o' + k * 2, none⟩ = some (.int .i64 ea) ∧ W.cell? ⟨g, o' + k * 2 + 1, none⟩ = some (.int .i64 eb)) := Lib.hid (fun W h => by
              have x1 := h.block g2 (World.block_lt_of_cell? _ _ t0)
              have x2 := h.block g (World.block_lt_of_cell? _ _ s0)
              refine ⟨?_, ?_, ?_, ?_⟩
              · rw [← t0]; simp only [World.cell?, x1]
              · rw [← t1]; simp only [World.cell?, x1]
              · rw [← s0]; simp only [World.cell?, x2]
              · rw [← s1]; simp only [World.cell?, x2])
            clear p0 p1 hc2' e1 e2 hm
            by_cases hll : Lt (ea, eb) (ma, mb)
            · have : pb = false := by rw [← HPB.out]; exact decide_eq_false (fun h => h.2 hll)
              subst this
              have HLS : Hid (∀ W : World, Calls Tryz.prog 45 #[.agg #[.int .i64 ea, .int .i64 eb], .agg #[.int .i64 ma, .int .i64 mb]] W fun e w' => e = .returned (.bool true) ∧ Hid (Below W.heap.size W w')) := Lib.hid (fun W => by have := rless_calls (ea, eb) (ma, mb) W; rw [decide_eq_true hll] at this; exact this)
              clear hll
              go_wp2_with fail
              go_region_held3 (fun w' => w'.cell? ⟨g2, o2 + j * 2, none⟩ = some (.int .i64 ma) ∧ w'.cell? ⟨g2, o2 + j * 2 + 1, none⟩ = some (.int .i64 mb) ∧ w'.cell? ⟨g, o' + k * 2, none⟩ = some (.int .i64 ea) ∧ w'.cell? ⟨g, o' + k * 2 + 1, none⟩ = some (.int .i64 eb)) (first | exact ⟨t0, t1, s0, s1⟩ | exact HCELL.out _ HB9.out) (first | (go_at_call 45; refine (HLS.out _).mono ?_; rintro e w9 ⟨rfl, HB9'⟩; have HB9 : Hid (Below wc.heap.size wc w9) := Lib.hid ((Below.refl _ wc).drew.trans HB9'.out)))
              go_wp2_with fail
              go_meet
              exact ⟨rfl, Lib.hid (HZ9.out.trans (HB9.out.mono HZ9.out.size))⟩
            · have : pb = true := by rw [← HPB.out]; exact decide_eq_true ⟨hlj, hll⟩
              subst this
              have HLS : Hid (∀ W : World, Calls Tryz.prog 45 #[.agg #[.int .i64 ea, .int .i64 eb], .agg #[.int .i64 ma, .int .i64 mb]] W fun e w' => e = .returned (.bool false) ∧ Hid (Below W.heap.size W w')) := Lib.hid (fun W => by have := rless_calls (ea, eb) (ma, mb) W; rw [decide_eq_false hll] at this; exact this)
              clear hll
              go_wp2_with fail
              go_region_held3 (fun w' => w'.cell? ⟨g2, o2 + j * 2, none⟩ = some (.int .i64 ma) ∧ w'.cell? ⟨g2, o2 + j * 2 + 1, none⟩ = some (.int .i64 mb) ∧ w'.cell? ⟨g, o' + k * 2, none⟩ = some (.int .i64 ea) ∧ w'.cell? ⟨g, o' + k * 2 + 1, none⟩ = some (.int .i64 eb)) (first | exact ⟨t0, t1, s0, s1⟩ | exact HCELL.out _ HB9.out) (first | (go_at_call 45; refine (HLS.out _).mono ?_; rintro e w9 ⟨rfl, HB9'⟩; have HB9 : Hid (Below wc.heap.size wc w9) := Lib.hid ((Below.refl _ wc).drew.trans HB9'.out)))
              go_wp2_with fail
              go_meet
              exact ⟨rfl, Lib.hid (HZ9.out.trans (HB9.out.mono HZ9.out.size))⟩
          · have : pb = false := by rw [← HPB.out]; exact decide_eq_false (fun h => hlj h.1)
            subst this
            have hnn : ¬ j < n := hlj
            go_wp2_with fail
            go_big_quiet (fail)
            go_wp2_with fail
            go_meet
            exact ⟨rfl, Lib.hid (HZ9.out.trans (Ed.drewN_below _ _ _))⟩
        case rest =>
          obtain ⟨rfl, HZA⟩ := hcut
          clear HZ9
          rename World => wd
          cases pb
          case true =>
            have hp := of_decide_eq_true HPB.out
            have HNX : Hid (nrm (l.take (k + 1)) = m) := Lib.hid (by
              rw [HNT.out]
              have hmem : m.getD j (0, 0) ∈ m := by rw [List.getD_eq_getElem?_getD, List.getElem?_eq_getElem (by rw [HN.out]; exact hp.1)]; exact List.getElem_mem _
              have hee : m.getD j (0, 0) = (ea, eb) := by
                by_cases h : m.getD j (0, 0) = (ea, eb)
                · exact h
                · exact absurd (lt_total (HJ2.out hp.1) h) hp.2
              exact ins_has HUP.out (hee ▸ hmem))
            clear hp
            go_wp2
            go_roundw
            case rel => exact ⟨k + 1, by go_num, by omega, Lib.hid (by rw [HNX.out]; exact HO.out.later HZA.out), Lib.hid (HB.out.trans (HZA.out.mono HB.out.size))⟩
            case measure => simp [intOf]; omega
          case false =>
            have HAT : Hid (nrm (l.take (k + 1)) = m.take j ++ (ea, eb) :: m.drop j) := Lib.hid (by
              rw [HNT.out]
              exact ins_at HUP.out j (by rw [HN.out]; exact hj) HJ.out (fun h => by
                have := of_decide_eq_false HPB.out
                rw [HN.out] at h
                exact Classical.byContradiction fun hc => this ⟨h, hc⟩))
            have HOD : Hid (EO (wd.alloc (.cells #[] 68)) wd.heap.size (.slice (some ⟨wd.heap.size, 0, none⟩) 0 0) (m.take 0)) := Lib.hid (EO.fresh wd _ (Nat.le_refl _))
            have HBD : Hid (Below wd.heap.size wd (wd.alloc (.cells #[] 68))) := Lib.hid ((Below.refl _ _).alloc (Nat.le_refl _) _)
            have hzd := HZA.out.size
            have HG2 : Hid (0 < n → g2 < wr.heap.size) := Lib.hid (fun h => (HR2.out h).2.1)
            have j9 : (j : Int) ≤ (n : Int) := by omega
            have j10 : (n : Int) ≤ 20000 := by omega
            clear HO HPB HJ HJ2 HNT HUP
            go_wp2
            go_loopw [6, 7] (fun u x wz => ∃ t : Nat, x = .int .i64 (t : Int) ∧ t ≤ j ∧ Hid (EO wz wd.heap.size u (m.take t)) ∧ Hid (Below wd.heap.size wd wz)) (fun _ x _ => j - (intOf x).toNat)
            case atStart => exact ⟨0, rfl, Nat.zero_le _, HOD, HBD⟩
            case round =>
              clear HOD HBD
              obtain ⟨t, rfl, ht, HO3, HB3⟩ := hrel
              rename World => wz
              by_cases hlt3 : t < j
              · obtain ⟨rfl, hg2, hc2'⟩ := HR2.out (by omega)
                obtain ⟨p0, p1⟩ := hc2' t (by omega)
                have e1 := (HZA.out.trans (HB3.out.mono hzd)).block g2 hg2
                have t0 : wz.cell? ⟨g2, o2 + t * 2, none⟩ = some (.int .i64 (m.getD t (0, 0)).1) := by rw [← p0]; simp only [World.cell?, e1]
                have t1 : wz.cell? ⟨g2, o2 + t * 2 + 1, none⟩ = some (.int .i64 (m.getD t (0, 0)).2) := by rw [← p1]; simp only [World.cell?, e1]
                obtain ⟨⟨ma, mb⟩, hm⟩ : ∃ e, m.getD t (0, 0) = e := ⟨_, rfl⟩
                rw [hm] at t0 t1
                simp only at t0 t1
                have HST : Hid (m.take (t + 1) = m.take t ++ [(ma, mb)]) := Lib.hid (by
                  have e : m[t]? = some (ma, mb) := by rw [← hm, List.getD_eq_getElem?_getD, List.getElem?_eq_getElem (by rw [HN.out]; omega)]; rfl
                  rw [List.take_add_one, e]; rfl)
                have HLN : Hid ((m.take t).length ≤ 20000) := Lib.hid (by rw [List.length_take, HN.out]; omega)
                have hb3 := HB3.out.size
                have i0 : (0 : Int) ≤ (t : Int) := by omega
                have i1 : (t : Int) < (n : Int) := by omega
                have i2 : (t : Int) < (j : Int) := by omega
                obtain ⟨uA, uc, rfl, -, -⟩ := id HO3.out.shape
                have HOB := Lib.hid HO3.out.base
                clear p0 p1 hc2' e1 hm
                go_wp2_with (at_builtin; refine EO.append_on (base := wd.heap.size) (HO3.out.alloc _) (ER.lit _ [(ma, mb)] _ rfl 1 rfl (by simp)) rfl _ _ rfl rfl rfl (by simp; omega) (by have := HLN.out; simp only [List.length_cons, List.length_nil]; omega) ?_; intro v1 w3 k1 k2 k3; have K1 := Lib.hid k1; have K2 := Lib.hid k2; clear k1 k2 k3)
                go_roundw
                case rel => exact ⟨t + 1, by go_num, by omega, Lib.hid (by rw [HST.out]; exact K1.out), Lib.hid ((HB3.out.alloc hb3 _).grown K2.out (by simp; omega) HOB.out)⟩
                case measure => simp [intOf]; omega
              · obtain rfl : t = j := by omega
                have e2 := (HZA.out.trans (HB3.out.mono hzd)).block g hgl
                have s0 : wz.cell? ⟨g, o' + k * 2, none⟩ = some (.int .i64 ea) := by rw [← HQ.out.1]; simp only [World.cell?, e2]
                have s1 : wz.cell? ⟨g, o' + k * 2 + 1, none⟩ = some (.int .i64 eb) := by rw [← HQ.out.2]; simp only [World.cell?, e2]
                have HLN : Hid ((m.take t).length ≤ 20000) := Lib.hid (by rw [List.length_take, HN.out]; omega)
                have hb3 := HB3.out.size
                have k0 : (0 : Int) ≤ (k : Int) := by omega
                have k1 : (k : Int) < (len : Int) := by omega
                obtain ⟨uA, uc, rfl, -, -⟩ := id HO3.out.shape
                have HOB := Lib.hid HO3.out.base
                clear e2
                go_upto_region 16 with (at_builtin; refine EO.append_on (base := wd.heap.size) (HO3.out.alloc _) (ER.lit _ [(ea, eb)] _ rfl 1 rfl (by simp)) rfl _ _ rfl rfl rfl (by simp; omega) (by have := HLN.out; simp only [List.length_cons, List.length_nil]; omega) ?_; intro v1 w3 k1 k2 k3; have K1 := Lib.hid k1; have K2 := Lib.hid k2; clear k1 k2 k3)
                have HB4 : Hid (Below wd.heap.size wd w3) := Lib.hid ((HB3.out.alloc hb3 _).grown K2.out (by simp; omega) HOB.out)
                have HO4 : Hid (EO w3 wd.heap.size v1 (m.take t ++ (ea, eb) :: (m.take t).drop t)) := Lib.hid (by
                  rw [show (m.take t).drop t = [] from List.drop_of_length_le (by rw [List.length_take]; omega)]; exact K1.out)
                clear HO3 HB3 K1 K2 HOB s0 s1 HLN
                go_loopw [6, 8] (fun u x wz => ∃ r : Nat, x = .int .i64 (r : Int) ∧ t ≤ r ∧ r ≤ n ∧ Hid (EO wz wd.heap.size u (m.take t ++ (ea, eb) :: (m.take r).drop t)) ∧ Hid (Below wd.heap.size wd wz)) (fun _ x _ => n - (intOf x).toNat)
                case atStart => exact ⟨t, rfl, Nat.le_refl _, hj, HO4, HB4⟩
                case round =>
                  clear HO4 HB4
                  obtain ⟨r, rfl, htr, hrn, HO3, HB3⟩ := hrel
                  rename World => wy
                  by_cases hlr : r < n
                  · obtain ⟨rfl, hg2, hc2'⟩ := HR2.out (by omega)
                    obtain ⟨p0, p1⟩ := hc2' r (by omega)
                    have e1 := (HZA.out.trans (HB3.out.mono hzd)).block g2 hg2
                    have t0 : wy.cell? ⟨g2, o2 + r * 2, none⟩ = some (.int .i64 (m.getD r (0, 0)).1) := by rw [← p0]; simp only [World.cell?, e1]
                    have t1 : wy.cell? ⟨g2, o2 + r * 2 + 1, none⟩ = some (.int .i64 (m.getD r (0, 0)).2) := by rw [← p1]; simp only [World.cell?, e1]
                    obtain ⟨⟨ma, mb⟩, hm⟩ : ∃ e, m.getD r (0, 0) = e := ⟨_, rfl⟩
                    rw [hm] at t0 t1
                    simp only at t0 t1
                    have HST : Hid (m.take t ++ (ea, eb) :: (m.take (r + 1)).drop t = (m.take t ++ (ea, eb) :: (m.take r).drop t) ++ [(ma, mb)]) := Lib.hid (by
                      have e : m[r]? = some (ma, mb) := by rw [← hm, List.getD_eq_getElem?_getD, List.getElem?_eq_getElem (by rw [HN.out]; omega)]; rfl
                      have hlr : t ≤ (m.take r).length := by rw [List.length_take, HN.out]; omega
                      rw [List.take_add_one, e, List.drop_append_of_le_length hlr]; simp)
                    have HLN : Hid ((m.take t ++ (ea, eb) :: (m.take r).drop t).length ≤ 50000) := Lib.hid (by simp only [List.length_append, List.length_cons, List.length_drop, List.length_take, HN.out]; omega)
                    have hb3 := HB3.out.size
                    have i0 : (0 : Int) ≤ (r : Int) := by omega
                    have i1 : (r : Int) < (n : Int) := by omega
                    obtain ⟨uA, uc, rfl, -, -⟩ := id HO3.out.shape
                    have HOB := Lib.hid HO3.out.base
                    clear p0 p1 hc2' e1 hm
                    go_wp2_with (at_builtin; refine EO.append_on (base := wd.heap.size) (HO3.out.alloc _) (ER.lit _ [(ma, mb)] _ rfl 1 rfl (by simp)) rfl _ _ rfl rfl rfl (by simp; omega) (by have := HLN.out; simp only [List.length_cons, List.length_nil] at *; omega) ?_; intro v1 w3 k1 k2 k3; have K1 := Lib.hid k1; have K2 := Lib.hid k2; clear k1 k2 k3)
                    go_roundw
                    case rel => exact ⟨r + 1, by go_num, by omega, by omega, Lib.hid (by rw [HST.out]; exact K1.out), Lib.hid ((HB3.out.alloc hb3 _).grown K2.out (by simp; omega) HOB.out)⟩
                    case measure => simp [intOf]; omega
                  · obtain rfl : n = r := by omega
                    have HFI : Hid (EO wy w.heap.size u6 (nrm (l.take (k + 1)))) := Lib.hid (by
                      have := HO3.out
                      rw [show m.take n = m from List.take_of_length_le (by rw [HN.out]; exact Nat.le_refl _)] at this
                      rw [HAT.out]
                      exact this.mono (Nat.le_trans HB.out.size hzd))
                    have HBI : Hid (Below w.heap.size w wy) := Lib.hid ((HB.out.trans (HZA.out.mono HB.out.size)).trans (HB3.out.mono (Nat.le_trans HB.out.size hzd)))
                    clear HO3 HB3
                    go_wp2
                    go_roundw
                    case rel => exact ⟨k + 1, by go_num, by omega, HFI, HBI⟩
                    case measure => simp [intOf]; omega
    · obtain rfl : len = k := by omega
      have HF : Hid (EO wr w.heap.size u3 (nrm l)) := Lib.hid (by have := HO.out; rw [List.take_of_length_le (by rw [HL.out]; omega)] at this; exact this)
      go_wp2
      go_ret
      exact ⟨_, rfl, HF, HB⟩
end Go.Proofs.YtjokfllldcjheaaGreatDoor.Ed
