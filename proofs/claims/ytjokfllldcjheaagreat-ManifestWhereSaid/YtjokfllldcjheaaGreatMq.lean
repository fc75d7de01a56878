/- ManifestWhere, walked. -/
import Derived.Test.YtjokfllldcjheaaGreatMa
namespace Go.Proofs.YtjokfllldcjheaaGreat.Mn
open Go.RowKit Go.Proofs.YtjokfllldcjheaaGreat.Oc Go.Proofs.YtjokfllldcjheaaGreat.Ed Go.Proofs.YtjokfllldcjheaaGreat.Tb Go.Proofs.YtjokfllldcjheaaGreat.Sha Go.Proofs.YtjokfllldcjheaaGreat.Cs Go.Proofs.YtjokfllldcjheaaGreat.Mk
set_option linter.unusedVariables false
set_option linter.unusedSimpArgs false
theorem tot_mono {nodes : Int} {l : List E2} (h : Rows nodes l l.length) (k : Nat) : ∀ j, k + j ≤ l.length → tot (l.take k) ≤ tot (l.take (k + j))
  | 0, _ => Int.le_refl _
  | j + 1, hj => by
    have ih := tot_mono h k j (by omega)
    have h1 := (h (k + j) (by omega)).2
    rw [← Nat.add_assoc, tot_take l (k + j) (by omega)]
    unfold snd at h1
    omega
theorem tot_in {nodes : Int} {l : List E2} (h : Rows nodes l l.length) (i : Nat) (hi : i < l.length) : tot (l.take i) + (l.getD i (0, 0)).2 ≤ tot l := by
  have a := tot_mono h (i + 1) (l.length - (i + 1)) (by omega)
  rw [tot_take l i hi, show i + 1 + (l.length - (i + 1)) = l.length by omega, List.take_length] at a
  exact a
set_option maxHeartbeats 8000000 in
set_option maxRecDepth 100000 in
theorem where_walk (i0 i1 i2 : Int) (A : Option Addr) (n c : Nat) (i4 : Int) (rt : ByteArray) (g : Nat) (l : List E2) (u : Int) (w : World) (hr : TBR w g (.slice A n c) l) (hu : 0 ≤ u ∧ u < 65536) :
    Calls Tryz.prog 3 #[.agg #[.int .i64 i0, .int .i64 i1, .int .i64 i2, .slice A n c, .int .i64 i4, .string rt], .int .u16 u] w fun e w' => e = .returned (.bool true) ∧ Hid (Below w.heap.size w w') := by
  have hln : l.length = n := by obtain ⟨o, A', c', hv, -⟩ := hr; injection hv with _ h; exact h.symm
  have hnc : n ≤ c := by obtain ⟨o, A', c', hv, h1, -⟩ := hr; injection hv with _ _ h; subst h; omega
  obtain ⟨m, hm⟩ : ∃ m : Man, m = ⟨i0, i1, i2, l, i4, rt⟩ := ⟨_, rfl⟩
  have HR : Hid (TBR w g (.slice A n c) m.sh) := Lib.hid (by rw [hm]; exact hr)
  have HLN := Lib.hid hln
  have HAW := Lib.hid (fun W => awake10_calls W)
  have HGR := Lib.hid (fun W => great_calls i0 i1 i2 i4 A n c rt W)
  have HMM := Lib.hid hm
  obtain ⟨W1, hW1⟩ : ∃ W1, w.alloc (.cells #[.int .i64 i0, .int .i64 i1, .int .i64 i2, .slice A n c, .int .i64 i4, .string rt] 24) = W1 := ⟨_, rfl⟩
  have HX0 : Hid (W1.heap[w.heap.size]? = some (.cells #[.int .i64 i0, .int .i64 i1, .int .i64 i2, .slice A n c, .int .i64 i4, .string rt] 24 (0, 0))) := Lib.hid (by rw [← hW1]; exact heap_alloc_new w _)
  have HBX : Hid (Below w.heap.size w W1) := Lib.hid (by rw [← hW1]; exact (Below.refl _ _).alloc (Nat.le_refl _) _)
  obtain ⟨xb, hxb⟩ : ∃ xb, w.heap.size = xb := ⟨_, rfl⟩
  have HXB := Lib.hid hxb
  rw [hxb] at HX0
  have HSS : Hid (∀ X, Below W1.heap.size W1 X → X.cell? ⟨xb, 0, none⟩ = some (.int .i64 i0) ∧ X.cell? ⟨xb, 1, none⟩ = some (.int .i64 i1) ∧ X.cell? ⟨xb, 2, none⟩ = some (.int .i64 i2) ∧ X.cell? ⟨xb, 3, none⟩ = some (.slice A n c) ∧ X.cell? ⟨xb, 4, none⟩ = some (.int .i64 i4) ∧ X.cell? ⟨xb, 5, none⟩ = some (.string rt)) := Lib.hid (fun X h => man_cells (m := ⟨i0, i1, i2, l, i4, rt⟩) ((h.block xb (Array.getElem?_eq_some_iff.1 HX0.out).1).trans HX0.out))
  have HUF : Hid (∀ X, Below W1.heap.size W1 X → Below w.heap.size w X) := Lib.hid (fun X h => HBX.out.trans (h.mono HBX.out.size))
  have HU : Hid (Below W1.heap.size W1 W1) := Lib.hid (Below.refl _ _)
  clear hr hln hm HX0 HBX
  by_cases hgt : 80 < n ∨ 100 < rt.size
  case pos =>
    rw [decide_eq_true hgt] at HGR
    clear hgt
    go_enter Tryz.func3, Tryz.ntmps3
    go_upto_region 1 with (fail)
    clear hW1 hxb
    go_wp2_with (first
      | (go_at_call 5; refine (HAW.out _).mono ?_; rintro e w1 ⟨rfl, HBx⟩; have HU := Lib.hid (HU.out.trans (HBx.out.mono HU.out.size)); clear HBx; obtain ⟨s0, s1, s2, s3, s4, s5⟩ := HSS.out _ HU.out)
      | (go_at_call 6; refine (HGR.out _).mono ?_; rintro e w2 ⟨rfl, HBx⟩; have HU := Lib.hid (HU.out.trans (HBx.out.mono HU.out.size)); clear HBx))
    go_ret
    exact ⟨rfl, Lib.hid (HUF.out _ HU.out)⟩
  rw [decide_eq_false hgt] at HGR
  have hn80 : n ≤ 80 := by omega
  clear hgt
  by_cases hmay : May m
  case neg =>
    have HC : Hid (∀ W, Below w.heap.size w W → Calls Tryz.prog 7 #[.agg #[.int .i64 i0, .int .i64 i1, .int .i64 i2, .slice A n c, .int .i64 i4, .string rt]] W fun e w' => ∃ z : Int, e = .returned (faultV z 4) ∧ 0 ≤ z ∧ Hid (Below W.heap.size W w')) := Lib.hid (fun W h => by
      have := mcheck_bad m g (.slice A n c) W (HR.out.later h) hmay
      rw [HMM.out] at this
      exact this)
    clear hmay
    go_enter Tryz.func3, Tryz.ntmps3
    go_upto_region 1 with (fail)
    clear hW1 hxb
    go_wp2_with (first
      | (go_at_call 5; refine (HAW.out _).mono ?_; rintro e w1 ⟨rfl, HBx⟩; have HU := Lib.hid (HU.out.trans (HBx.out.mono HU.out.size)); clear HBx; obtain ⟨s0, s1, s2, s3, s4, s5⟩ := HSS.out _ HU.out)
      | (go_at_call 6; refine (HGR.out _).mono ?_; rintro e w2 ⟨rfl, HBx⟩; have HU := Lib.hid (HU.out.trans (HBx.out.mono HU.out.size)); clear HBx; obtain ⟨s0, s1, s2, s3, s4, s5⟩ := HSS.out _ HU.out)
      | (go_at_call 7; refine (HC.out _ (HUF.out _ HU.out)).mono ?_; rintro e w3 ⟨z, rfl, hz, HBx⟩; have HU := Lib.hid (HU.out.trans (HBx.out.mono HU.out.size)); clear HBx))
    go_ret
    exact ⟨rfl, Lib.hid (HUF.out _ HU.out)⟩
  have HC : Hid (∀ W, Below w.heap.size w W → Calls Tryz.prog 7 #[.agg #[.int .i64 i0, .int .i64 i1, .int .i64 i2, .slice A n c, .int .i64 i4, .string rt]] W fun e w' => e = .returned .nilIface ∧ Hid (Below W.heap.size W w')) := Lib.hid (fun W h => by
    have := mcheck_ok m g (.slice A n c) W (HR.out.later h) hmay
    rw [HMM.out] at this
    exact this)
  have HMAY := Lib.hid hmay
  by_cases hz0 : i1 = 0
  case pos =>
    subst hz0
    clear hmay
    go_enter Tryz.func3, Tryz.ntmps3
    go_upto_region 1 with (fail)
    clear hW1 hxb
    go_wp2_with (first
      | (go_at_call 5; refine (HAW.out _).mono ?_; rintro e w1 ⟨rfl, HBx⟩; have HU := Lib.hid (HU.out.trans (HBx.out.mono HU.out.size)); clear HBx; obtain ⟨s0, s1, s2, s3, s4, s5⟩ := HSS.out _ HU.out)
      | (go_at_call 6; refine (HGR.out _).mono ?_; rintro e w2 ⟨rfl, HBx⟩; have HU := Lib.hid (HU.out.trans (HBx.out.mono HU.out.size)); clear HBx; obtain ⟨s0, s1, s2, s3, s4, s5⟩ := HSS.out _ HU.out)
      | (go_at_call 7; refine (HC.out _ (HUF.out _ HU.out)).mono ?_; rintro e w3 ⟨rfl, HBx⟩; have HU := Lib.hid (HU.out.trans (HBx.out.mono HU.out.size)); clear HBx; obtain ⟨s0, s1, s2, s3, s4, s5⟩ := HSS.out _ HU.out))
    go_ret
    exact ⟨rfl, Lib.hid (HUF.out _ HU.out)⟩
  have hm := HMM.out
  subst hm
  have hN := hmay.1.2.1
  simp only at hN
  obtain ⟨N, rfl⟩ := Int.eq_ofNat_of_zero_le hN.1
  have hN2 : N ≤ 4096 := by omega
  have hN3 : 0 < N := by omega
  obtain ⟨U, rfl⟩ := Int.eq_ofNat_of_zero_le hu.1
  have hU : U < 65536 := by omega
  have HWH : Hid (∀ (v : Nat) (W : World), v < N → Below w.heap.size w W → Calls Tryz.prog 8 #[.agg #[.int .i64 i0, .int .i64 (N : Int), .int .i64 i2, .slice A n c, .int .i64 i4, .string rt], .int .i64 (v : Int)] W fun e w' => ∃ i : Nat, i < l.length ∧ fst l i ≤ (v : Int) ∧ (i + 1 < l.length → (v : Int) < fst l (i + 1)) ∧ e = .returned (.tuple #[.int .i64 (i : Int), .int .i64 (tot (l.take i)), .nilIface]) ∧ Hid (Below W.heap.size W w')) := Lib.hid (fun v W hv h => mwhere_ok ⟨i0, N, i2, l, i4, rt⟩ g _ W (HR.out.later h) HMAY.out v (by show (v : Int) < (N : Int); omega))
  have hnz : ((N : Int) == 0) = false := beq_eq_false_iff_ne.2 hz0
  have hrm : (U : Int) % (N : Int) = ((U % N : Nat) : Int) := rfl
  have hrt : (U : Int).tmod (N : Int) = ((U % N : Nat) : Int) := by rw [Int.tmod_eq_emod_of_nonneg (by omega)]; rfl
  have hvN : U % N < N := Nat.mod_lt _ hN3
  obtain ⟨v, hv⟩ : ∃ v, U % N = v := ⟨_, rfl⟩
  rw [hv] at hrm hrt hvN
  clear hmay hN hv hu
  go_enter Tryz.func3, Tryz.ntmps3
  go_upto_region 1 with (fail)
  clear hW1 hxb
  go_upto_region 6 with (first
    | (go_at_call 5; refine (HAW.out _).mono ?_; rintro e w1 ⟨rfl, HBx⟩; have HU := Lib.hid (HU.out.trans (HBx.out.mono HU.out.size)); clear HBx; obtain ⟨s0, s1, s2, s3, s4, s5⟩ := HSS.out _ HU.out)
    | (go_at_call 6; refine (HGR.out _).mono ?_; rintro e w2 ⟨rfl, HBx⟩; have HU := Lib.hid (HU.out.trans (HBx.out.mono HU.out.size)); clear HBx; obtain ⟨s0, s1, s2, s3, s4, s5⟩ := HSS.out _ HU.out)
    | (go_at_call 7; refine (HC.out _ (HUF.out _ HU.out)).mono ?_; rintro e w3 ⟨rfl, HBx⟩; have HU := Lib.hid (HU.out.trans (HBx.out.mono HU.out.size)); clear HBx; obtain ⟨s0, s1, s2, s3, s4, s5⟩ := HSS.out _ HU.out))
  go_upto_region 7 with (go_at_call 8; refine (HWH.out v _ hvN (HUF.out _ HU.out)).mono ?_; rintro e w4 ⟨i, hi, hfi, hfj, rfl, HBx⟩; have HU := Lib.hid (HU.out.trans (HBx.out.mono HU.out.size)); clear HBx)
  rw [HLN.out] at hi hfj
  obtain ⟨s0, s1, s2, s3, s4, s5⟩ := HSS.out _ HU.out
  have HTT : Hid (∀ k, k ≤ l.length → 0 ≤ tot (l.take k) ∧ tot (l.take k) ≤ 1048576 * k) := Lib.hid (tot_all (m := ⟨i0, N, i2, l, i4, rt⟩) HMAY.out.2.1)
  have hqb := HTT.out i (by rw [HLN.out]; omega)
  have htin := tot_in HMAY.out.2.1 i (by show i < l.length; rw [HLN.out]; exact hi)
  try simp only at htin
  have hn64 : n ≤ 64 := by rw [← HLN.out]; exact HMAY.out.1.2.2.2.1
  have htb := HTT.out l.length (Nat.le_refl _)
  rw [List.take_length, HLN.out] at htb
  obtain ⟨q, hq⟩ : ∃ q, tot (l.take i) = q := ⟨_, rfl⟩
  rw [hq] at hqb htin ⊢
  have HQ := Lib.hid hq
  obtain ⟨o', A', c', hv', -, -, hread⟩ := HR.out.later (HUF.out _ HU.out)
  try simp only at hread hv'
  rw [HLN.out] at hread hv'
  obtain ⟨hA, -, hcell⟩ := hread (by omega)
  subst hA
  injection hv' with hv' _ hcc
  subst hcc hv'
  obtain ⟨p0, p1⟩ := hcell i hi
  have hfx : fst l i = (l.getD i (0, 0)).1 := rfl
  rw [hfx] at hfi
  obtain ⟨⟨x, y⟩, hxy⟩ : ∃ x, l.getD i (0, 0) = x := ⟨_, rfl⟩
  rw [hxy] at p0 p1 hfi htin
  simp only at p0 p1 hfi htin
  obtain ⟨T, hT⟩ : ∃ T, tot l = T := ⟨_, rfl⟩
  rw [hT] at htin htb
  have HTO : Hid (∀ W, Below w.heap.size w W → Calls Tryz.prog 9 #[.agg #[.int .i64 i0, .int .i64 (N : Int), .int .i64 i2, .slice (some ⟨g, o', none⟩) n c, .int .i64 i4, .string rt]] W fun e w' => e = .returned (.int .i64 T) ∧ Hid (Below W.heap.size W w')) := Lib.hid (fun W h => by rw [← hT]; exact mtotal_calls _ _ _ _ _ g _ l W (HR.out.later h) (by rw [HLN.out]; omega) HTT.out)
  have hqy : IntKind.i64.wrap (q + y) = q + y := by
    have hy := (May.each HMAY.out) (x, y) (by rw [← hxy, List.getD_eq_getElem?_getD, List.getElem?_eq_getElem (show i < l.length by rw [HLN.out]; exact hi)]; exact List.getElem_mem _)
    simp only at hy
    exact IntWalk.i64_in _ (by omega)
  have hqt : decide (q + y ≤ T) = true := decide_eq_true htin
  have hqq : (q == q) = true := by simp
  obtain ⟨j, hj⟩ : ∃ j, i + 1 = j := ⟨_, rfl⟩
  rw [hj] at hfj
  have hwj : IntKind.i64.wrap ((i : Int) + 1) = (j : Int) := by rw [IntWalk.i64_in _ (by omega)]; omega
  have hi0 : (0 : Int) ≤ (i : Int) := by omega
  have hi1 : (i : Int) < (n : Int) := by omega
  have hic : (i : Int) ≤ (c : Int) := by omega
  have hj0 : (0 : Int) ≤ (j : Int) := by omega
  have hfi2 : ¬ (v : Int) < x := by omega
  by_cases hlt : j < n
  case' pos =>
    obtain ⟨r0, -⟩ := hcell j hlt
    have hj1 : (j : Int) < (n : Int) := by omega
    have hfz := hfj hlt
    have hfw : fst l j = (l.getD j (0, 0)).1 := rfl
    obtain ⟨z, hz⟩ : ∃ z, (l.getD j (0, 0)).1 = z := ⟨_, rfl⟩
    rw [hfw, hz] at hfz
    rw [hz] at r0
    have hfz2 : ¬ z ≤ (v : Int) := by omega
    clear hfw hz
  case' neg =>
    have hj1 : ¬ (j : Int) < (n : Int) := by omega
  all_goals
    have HI1 := Lib.hid hi
    have HN64 := Lib.hid hn64
    clear hcell hfj hread hT hxy hfi htin hqb hq hj hfx htb
    go_upto_region 11 with (fail)
    clear s0 s1 s2 s3 s4 s5 p0 hj1
    have HU0 := Lib.hid HU.out
    have HZ0 : Hid (tot (l.take 0) = 0) := Lib.hid rfl
    go_loopw [9, 85] (fun s x wz => ∃ k : Nat, x = .int .i64 (k : Int) ∧ k ≤ i ∧ s = .int .i64 (tot (l.take k)) ∧ Hid (Below w4.heap.size w4 wz)) (fun _ x _ => i - (intOf x).toNat)
    case atStart => exact ⟨0, rfl, by omega, rfl, Lib.hid (Below.refl _ _)⟩
    case round =>
      obtain ⟨k, rfl, hk, rfl, HK⟩ := hrel
      have hkb := HTT.out k (by rw [HLN.out]; omega)
      by_cases hki : k < i
      · obtain ⟨o2, A2, c2, hv2, -, -, hread⟩ := HR.out.later (HUF.out _ (HU0.out.trans (HK.out.mono HU0.out.size)))
        try simp only at hread hv2
        rw [HLN.out] at hread hv2
        obtain ⟨hA, -, hcell⟩ := hread (by omega)
        injection hv2 with hv2 _ hcc
        subst hcc hv2
        injection hA with hA
        injection hA with _ ho _
        subst ho
        obtain ⟨q0, q1⟩ := hcell k (by omega)
        have hst := tot_take l k (by rw [HLN.out]; omega)
        have hb' := HTT.out (k + 1) (by rw [HLN.out]; omega)
        rw [hst] at hb'
        obtain ⟨sq, hsq⟩ : ∃ sq, tot (l.take k) = sq := ⟨_, rfl⟩
        rw [hsq] at hkb hst hb' ⊢
        obtain ⟨⟨a, b⟩, hab⟩ : ∃ x, l.getD k (0, 0) = x := ⟨_, rfl⟩
        rw [hab] at q0 q1 hst hb'
        simp only at q0 q1 hst hb'
        have HST := Lib.hid hst
        have hab2 : IntKind.i64.wrap (sq + b) = sq + b := IntWalk.i64_in _ (by omega)
        have hki1 : (k : Int) < (i : Int) := by omega
        have hk0 : (0 : Int) ≤ (k : Int) := by omega
        clear hcell hread hst hab hsq hkb hb'
        go_wp2
        go_roundw
        case rel => exact ⟨k + 1, by go_num, by omega, by rw [HST.out], Lib.hid (HK.out.alloc HK.out.size _)⟩
        case measure => simp [intOf]; omega
      · obtain rfl : k = i := by omega
        rw [HQ.out]
        have HU : Hid (Below W1.heap.size W1 wr) := Lib.hid (HU0.out.trans (HK.out.mono HU0.out.size))
        have p2 := p1
        have HP : Hid (∀ X, Below w4.heap.size w4 X → X.cell? ⟨g, o' + k * 2 + 1, none⟩ = some (.int .i64 y)) := Lib.hid (fun X h => (h.cell (World.block_lt_of_cell? _ _ p1)).trans p1)
        clear p1 p2 hkb
        go_upto_region 15 with (fail)
        have H7 : Hid (∀ X, Below wr.heap.size wr X → X.cell? ⟨xb, 0, none⟩ = some (.int .i64 i0) ∧ X.cell? ⟨xb, 1, none⟩ = some (.int .i64 (N : Int)) ∧ X.cell? ⟨xb, 2, none⟩ = some (.int .i64 i2) ∧ X.cell? ⟨xb, 3, none⟩ = some (.slice (some ⟨g, o', none⟩) n c) ∧ X.cell? ⟨xb, 4, none⟩ = some (.int .i64 i4) ∧ X.cell? ⟨xb, 5, none⟩ = some (.string rt) ∧ X.cell? ⟨g, o' + k * 2 + 1, none⟩ = some (.int .i64 y)) := Lib.hid (fun X h => by
          obtain ⟨a0, a1, a2, a3, a4, a5⟩ := HSS.out X (HU.out.trans (h.mono HU.out.size))
          exact ⟨a0, a1, a2, a3, a4, a5, HP.out X (HK.out.trans (h.mono HK.out.size))⟩)
        have HV : Hid (Below wr.heap.size wr wr) := Lib.hid (Below.refl _ _)
        have HUV : Hid (∀ X, Below wr.heap.size wr X → Below w.heap.size w X) := Lib.hid (fun X h => HUF.out X (HU.out.trans (h.mono HU.out.size)))
        refine wp_region_noPanic ?_
        refine wp_region_held_drew (S := fun X => X.cell? ⟨xb, 0, none⟩ = some (.int .i64 i0) ∧ X.cell? ⟨xb, 1, none⟩ = some (.int .i64 (N : Int)) ∧ X.cell? ⟨xb, 2, none⟩ = some (.int .i64 i2) ∧ X.cell? ⟨xb, 3, none⟩ = some (.slice (some ⟨g, o', none⟩) n c) ∧ X.cell? ⟨xb, 4, none⟩ = some (.int .i64 i4) ∧ X.cell? ⟨xb, 5, none⟩ = some (.string rt) ∧ X.cell? ⟨g, o' + k * 2 + 1, none⟩ = some (.int .i64 y)) (by kernel_rfl) (H7.out _ HV.out.drew) (fun hHeld => ?_)
        refine wpAnyH_take (i := 0) (oi := _) (v := ?_) rfl (by kernel_rfl) (by kernel_rfl) (by kernel_rfl) (fun _ _ _ h => h) (Or.inl ⟨by rfl, ?_⟩) (by assumption) ?_
        rotate_left
        · (intro w hSw; obtain ⟨s0, s1, s2, s3, s4, s5, s6⟩ := hSw; go_simp; (try with_reducible rfl))
        try simp only [Act.put, List.getElem_toArray, List.getElem_cons_succ, List.getElem_cons_zero, List.setIfInBounds_toArray, List.set_cons_zero, List.set_cons_succ]
        refine wpAnyH_take (i := 1) (oi := _) (v := ?_) rfl (by kernel_rfl) (by kernel_rfl) (by kernel_rfl) (fun _ _ _ h => h) (Or.inl ⟨by rfl, ?_⟩) (by assumption) ?_
        rotate_left
        · (intro w hSw; obtain ⟨s0, s1, s2, s3, s4, s5, s6⟩ := hSw; go_simp; (try with_reducible rfl))
        try simp only [Act.put, List.getElem_toArray, List.getElem_cons_succ, List.getElem_cons_zero, List.setIfInBounds_toArray, List.set_cons_zero, List.set_cons_succ]
        refine wpAnyH_take (i := 2) (oi := _) (v := ?_) rfl (by kernel_rfl) (by kernel_rfl) (by kernel_rfl) (fun _ _ _ h => h) (Or.inl ⟨by rfl, ?_⟩) (by assumption) ?_
        rotate_left
        · (intro w hSw; obtain ⟨s0, s1, s2, s3, s4, s5, s6⟩ := hSw; go_simp; (try with_reducible rfl))
        try simp only [Act.put, List.getElem_toArray, List.getElem_cons_succ, List.getElem_cons_zero, List.setIfInBounds_toArray, List.set_cons_zero, List.set_cons_succ]
        refine wpAnyH_take (i := 3) (oi := _) (v := ?_) rfl (by kernel_rfl) (by kernel_rfl) (by kernel_rfl) (fun _ _ _ h => h) (Or.inl ⟨by rfl, ?_⟩) (by assumption) ?_
        rotate_left
        · (intro w hSw; obtain ⟨s0, s1, s2, s3, s4, s5, s6⟩ := hSw; go_simp; (try with_reducible rfl))
        try simp only [Act.put, List.getElem_toArray, List.getElem_cons_succ, List.getElem_cons_zero, List.setIfInBounds_toArray, List.set_cons_zero, List.set_cons_succ]
        refine wpAnyH_take (i := 4) (oi := _) (v := ?_) rfl (by kernel_rfl) (by kernel_rfl) (by kernel_rfl) (fun _ _ _ h => h) (Or.inl ⟨by rfl, ?_⟩) (by assumption) ?_
        rotate_left
        · (intro w hSw; obtain ⟨s0, s1, s2, s3, s4, s5, s6⟩ := hSw; go_simp; (try with_reducible rfl))
        try simp only [Act.put, List.getElem_toArray, List.getElem_cons_succ, List.getElem_cons_zero, List.setIfInBounds_toArray, List.set_cons_zero, List.set_cons_succ]
        refine wpAnyH_take (i := 5) (oi := _) (v := ?_) rfl (by kernel_rfl) (by kernel_rfl) (by kernel_rfl) (fun _ _ _ h => h) (Or.inl ⟨by rfl, ?_⟩) (by assumption) ?_
        rotate_left
        · (intro w hSw; obtain ⟨s0, s1, s2, s3, s4, s5, s6⟩ := hSw; go_simp; (try with_reducible rfl))
        try simp only [Act.put, List.getElem_toArray, List.getElem_cons_succ, List.getElem_cons_zero, List.setIfInBounds_toArray, List.set_cons_zero, List.set_cons_succ]
        refine wpAnyH_take (i := 6) (oi := _) (v := ?_) rfl (by kernel_rfl) (by kernel_rfl) (by kernel_rfl) (fun _ _ _ h => h) (Or.inl ⟨by rfl, ?_⟩) (by assumption) ?_
        rotate_left
        · (intro w hSw; obtain ⟨s0, s1, s2, s3, s4, s5, s6⟩ := hSw; go_simp; (try with_reducible rfl))
        try simp only [Act.put, List.getElem_toArray, List.getElem_cons_succ, List.getElem_cons_zero, List.setIfInBounds_toArray, List.set_cons_zero, List.set_cons_succ]
        refine wpAnyH_take (i := 7) (oi := _) (v := ?_) rfl (by kernel_rfl) (by kernel_rfl) (by kernel_rfl) (fun _ _ _ h => h) (Or.inl ⟨by rfl, ?_⟩) (by assumption) ?_
        rotate_left
        · (intro w hSw; obtain ⟨s0, s1, s2, s3, s4, s5, s6⟩ := hSw; go_simp; (try with_reducible rfl))
        try simp only [Act.put, List.getElem_toArray, List.getElem_cons_succ, List.getElem_cons_zero, List.setIfInBounds_toArray, List.set_cons_zero, List.set_cons_succ]
        refine wpAnyH_take (i := 8) (oi := _) (v := ?_) rfl (by kernel_rfl) (by kernel_rfl) (by kernel_rfl) (fun _ _ _ h => h) (Or.inl ⟨by rfl, ?_⟩) (by assumption) ?_
        rotate_left
        · (intro w hSw; obtain ⟨s0, s1, s2, s3, s4, s5, s6⟩ := hSw; go_simp; (try with_reducible rfl))
        try simp only [Act.put, List.getElem_toArray, List.getElem_cons_succ, List.getElem_cons_zero, List.setIfInBounds_toArray, List.set_cons_zero, List.set_cons_succ]
        refine wpAnyH_take (i := 9) (oi := _) (v := ?_) rfl (by kernel_rfl) (by kernel_rfl) (by kernel_rfl) (fun _ _ _ h => h) (Or.inl ⟨by rfl, ?_⟩) (by assumption) ?_
        rotate_left
        · (intro w hSw; obtain ⟨s0, s1, s2, s3, s4, s5, s6⟩ := hSw; go_simp; (try with_reducible rfl))
        try simp only [Act.put, List.getElem_toArray, List.getElem_cons_succ, List.getElem_cons_zero, List.setIfInBounds_toArray, List.set_cons_zero, List.set_cons_succ]
        refine wpAnyH_take (i := 10) (oi := _) (v := ?_) rfl (by kernel_rfl) (by kernel_rfl) (by kernel_rfl) (fun _ _ _ h => h) (Or.inl ⟨by rfl, ?_⟩) (by assumption) ?_
        rotate_left
        · (intro w hSw; obtain ⟨s0, s1, s2, s3, s4, s5, s6⟩ := hSw; go_simp; (try with_reducible rfl))
        try simp only [Act.put, List.getElem_toArray, List.getElem_cons_succ, List.getElem_cons_zero, List.setIfInBounds_toArray, List.set_cons_zero, List.set_cons_succ]
        refine wpAnyH_take (i := 11) (oi := _) (v := ?_) rfl (by kernel_rfl) (by kernel_rfl) (by kernel_rfl) (fun _ _ _ h => h) (Or.inl ⟨by rfl, ?_⟩) (by assumption) ?_
        rotate_left
        · (intro w hSw; obtain ⟨s0, s1, s2, s3, s4, s5, s6⟩ := hSw; go_simp; (try with_reducible rfl))
        try simp only [Act.put, List.getElem_toArray, List.getElem_cons_succ, List.getElem_cons_zero, List.setIfInBounds_toArray, List.set_cons_zero, List.set_cons_succ]
        refine wpAnyH_take (i := 12) (oi := _) (v := ?_) rfl (by kernel_rfl) (by kernel_rfl) (by kernel_rfl) (fun _ _ _ h => h) (Or.inl ⟨by rfl, ?_⟩) (by assumption) ?_
        rotate_left
        · (intro w hSw; obtain ⟨s0, s1, s2, s3, s4, s5, s6⟩ := hSw; go_simp; (try with_reducible rfl))
        try simp only [Act.put, List.getElem_toArray, List.getElem_cons_succ, List.getElem_cons_zero, List.setIfInBounds_toArray, List.set_cons_zero, List.set_cons_succ]
        refine wpAnyH_ready (rs := [13]) (by kernel_rfl) (by simp) ?_
        refine AllReadyH.cons (o := _) rfl (fun K hK => ?_) (AllReadyH.nil)
        (go_simp)
        go_at_call 9
        refine (HTO.out _ (HUV.out _ HV.out.drew)).mono ?_
        rintro r w6 ⟨rfl, HBx⟩
        have HV := Lib.hid (HV.out.drew.trans (HBx.out.mono HV.out.size))
        clear HBx
        dsimp only
        refine hK.out _ _ (H7.out _ HV.out) (fun hHeld => ?_)
        clear hK K
        try simp only [Act.put, List.getElem_toArray, List.getElem_cons_succ, List.getElem_cons_zero, List.setIfInBounds_toArray, List.set_cons_zero, List.set_cons_succ]
        refine wpAnyH_take (i := 14) (oi := _) (v := ?_) rfl (by kernel_rfl) (by kernel_rfl) (by kernel_rfl) (fun _ _ _ h => h) (Or.inl ⟨by rfl, ?_⟩) (by assumption) ?_
        rotate_left
        · (intro w hSw; obtain ⟨s0, s1, s2, s3, s4, s5, s6⟩ := hSw; go_simp; (try with_reducible rfl))
        try simp only [Act.put, List.getElem_toArray, List.getElem_cons_succ, List.getElem_cons_zero, List.setIfInBounds_toArray, List.set_cons_zero, List.set_cons_succ]
        refine wpAnyH_take (i := 15) (oi := _) (v := ?_) rfl (by kernel_rfl) (by kernel_rfl) (by kernel_rfl) (fun _ _ _ h => h) (Or.inl ⟨by rfl, ?_⟩) (by assumption) ?_
        rotate_left
        · (intro w hSw; obtain ⟨s0, s1, s2, s3, s4, s5, s6⟩ := hSw; go_simp; (try with_reducible rfl))
        try simp only [Act.put, List.getElem_toArray, List.getElem_cons_succ, List.getElem_cons_zero, List.setIfInBounds_toArray, List.set_cons_zero, List.set_cons_succ]
        refine wpAnyH_take (i := 16) (oi := _) (v := ?_) rfl (by kernel_rfl) (by kernel_rfl) (by kernel_rfl) (fun _ _ _ h => h) (Or.inl ⟨by rfl, ?_⟩) (by assumption) ?_
        rotate_left
        · (intro w hSw; obtain ⟨s0, s1, s2, s3, s4, s5, s6⟩ := hSw; go_simp; (try with_reducible rfl))
        try simp only [Act.put, List.getElem_toArray, List.getElem_cons_succ, List.getElem_cons_zero, List.setIfInBounds_toArray, List.set_cons_zero, List.set_cons_succ]
        refine wpAnyH_done (by kernel_rfl) ?_ _
        refine NoPanic.normal ?_
        try simp only [List.getElem_toArray, List.getElem_cons_succ, List.getElem_cons_zero, List.setIfInBounds_toArray, List.set_cons_zero, List.set_cons_succ]
        clear hHeld
        go_wp2
        go_ret
        exact ⟨rfl, Lib.hid (HUV.out _ HV.out)⟩
theorem where_row (i0 i1 i2 : Int) (A : Option Addr) (n c : Nat) (i4 : Int) (rt : ByteArray) (g : Nat) (l : List E2) (u : Int) (w : World) (hr : TBR w g (.slice A n c) l) (hu : (Lit.int .u16 u).wf = true) :
    Calls Tryz.prog 3 #[.agg #[.int .i64 i0, .int .i64 i1, .int .i64 i2, .slice A n c, .int .i64 i4, .string rt], .int .u16 u] w fun e w' => e = .returned (.bool true) ∧ Below w.heap.size w w' := by
  have hb : 0 ≤ u ∧ u < 65536 := by
    simp [Lit.wf, IntKind.min, IntKind.max, IntKind.signed, IntKind.bits] at hu
    omega
  exact (where_walk i0 i1 i2 A n c i4 rt g l u w hr hb).mono fun e w' h => ⟨h.1, h.2.out⟩
end Go.Proofs.YtjokfllldcjheaaGreat.Mn
