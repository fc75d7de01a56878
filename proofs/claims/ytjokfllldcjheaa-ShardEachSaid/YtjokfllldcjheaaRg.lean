/- References 01: Turn; 06: Put. -/
import Derived.Test.YtjokfllldcjheaaRf
namespace Go.Proofs.Ytjokfllldcjheaa.Oc
open Go.RowKit Go.Proofs.Ytjokfllldcjheaa.Sha Go.Proofs.Ytjokfllldcjheaa.Ro Go.Proofs.Ytjokfllldcjheaa.Cs Go.Proofs.Ytjokfllldcjheaa.Ed
set_option linter.unusedVariables false
set_option linter.unusedSimpArgs false
set_option maxHeartbeats 1000000 in
theorem rturn_calls (x : Int) (h0 : -10000 < x) (h1 : x < 10000) (w : World) :
    Calls Try.prog 36 #[.int .i64 x] w fun e w' => e = .returned (.int .i64 ((turn x : Nat) : Int)) ∧ w = w' := by
  by_cases hx : x < 0
  · have e : ((turn x : Nat) : Int) = -(2 * x) - 1 := by unfold turn; rw [if_pos hx]; omega
    rw [e]
    go_enter Try.func36, Try.ntmps36
    go_wp2
    go_ret
    exact ⟨rfl, rfl⟩
  · have e : ((turn x : Nat) : Int) = 2 * x := by unfold turn; rw [if_neg hx]; omega
    rw [e]
    go_enter Try.func36, Try.ntmps36
    go_wp2
    go_ret
    exact ⟨rfl, rfl⟩
set_option maxHeartbeats 4000000 in
set_option maxRecDepth 100000 in
theorem rgput_calls (N : Nat) (hN : N ≤ 4096) (v : Int) (hv : 0 ≤ v ∧ v < (N : Int)) (g : Nat) (u : Value) (l : List Int) (w : World) (hj : JR w g u l) (h0 : ∀ x ∈ l, 0 ≤ x ∧ x < (N : Int)) (hp : l.Pairwise (· < ·)) (hl : l.length ≤ N) :
    Calls Try.prog 22 #[.int .i64 v, u] w fun e w' => e = .returned (.string ⟨(gapB v l).toArray⟩) ∧ Hid (Below w.heap.size w w') := by
  have HJ := Lib.hid hj
  have HP := Lib.hid (List.pairwise_iff_getElem.1 hp)
  have HG := Lib.hid (gapT_step v l)
  obtain ⟨A, c, o, rfl, h1, h2, hrd⟩ := hj
  obtain ⟨n, hn⟩ : ∃ n, l.length = n := ⟨_, rfl⟩
  rw [hn] at h1 hl hrd ⊢
  have HN := Lib.hid hn
  obtain ⟨G, hG⟩ : ∃ G, gapB v l = G := ⟨_, rfl⟩
  rw [hG]
  have HGB : Hid (shB n ++ gapT v l = G) := Lib.hid (by rw [← hG, gapB_eq, hn])
  have HLT : Hid (∀ k, k < n → (l.getD k 0 > lastOf l k) ∧ 0 ≤ l.getD k 0 ∧ l.getD k 0 < (N : Int)) := Lib.hid (fun k hk => by
    have hk' : k < l.length := by rw [hn]; exact hk
    have hm : l.getD k 0 ∈ l := by rw [List.getD_eq_getElem?_getD, List.getElem?_eq_getElem hk']; exact List.getElem_mem _
    have hb := h0 _ hm
    refine ⟨?_, hb⟩
    unfold lastOf
    split
    · omega
    · rename_i hne
      have := HP.out (k - 1) k (by omega) hk' (by omega)
      rw [List.getD_eq_getElem?_getD, List.getD_eq_getElem?_getD, List.getElem?_eq_getElem hk', List.getElem?_eq_getElem (by omega)]
      exact this)
  have HS0 : Hid ((shS n).data.toList = shB n ++ gapT v (l.take 0)) := Lib.hid (by simp [gapT]; rfl)
  have hn2 : n ≤ 4096 := by omega
  clear hn hG h0 hp hrd
  go_enter Try.func22, Try.ntmps22
  go_upto_region 3 with (go_at_call 21; refine (rshort_calls n (by omega) _).mono ?_; rintro e w1 ⟨rfl, HB1⟩)
  have HB0 := HB1
  go_loopw [5, 6] (fun t x wz => ∃ (k : Nat) (b : ByteArray), t = .string b ∧ x = .int .i64 (k : Int) ∧ k ≤ n ∧ Hid (b.data.toList = shB n ++ gapT v (l.take k)) ∧ Hid (b.size ≤ 10 + 10 * k) ∧ Hid (Below w.heap.size w wz)) (fun _ x _ => n - (intOf x).toNat)
  case atStart => exact ⟨0, shS n, rfl, rfl, Nat.zero_le _, HS0, Lib.hid (by rw [bytes_len (shS_list n)]; have := shB_le 7 n (by omega); omega), HB1⟩
  case round =>
    clear HS0 HB1 HB0
    obtain ⟨k, b, rfl, rfl, hk, HS, HZ, HB⟩ := hrel
    rename World => wz
    have hbsz := HZ.out
    by_cases hlt2 : k < n
    · obtain ⟨A2, c2, o2, hv2, -, -, hr2⟩ := HJ.out.later HB.out
      rw [HN.out] at hv2 hr2
      obtain ⟨rfl, -, hcell⟩ := hr2 (by omega)
      injection hv2 with hv2 _ hcc
      subst hcc hv2
      have q := hcell k hlt2
      obtain ⟨hgt, hx0, hxN⟩ := HLT.out k hlt2
      have hst := HG.out k (by rw [HN.out]; exact hlt2)
      have i0 : (0 : Int) ≤ (k : Int) := by omega
      have i1 : (k : Int) < (n : Int) := by omega
      by_cases hk0 : k = 0
      · subst hk0
        rw [if_pos rfl] at hst
        obtain ⟨x, hx⟩ : ∃ x, l.getD 0 0 = x := ⟨_, rfl⟩
        rw [hx] at q hx0 hxN hst
        have HTC := Lib.hid (fun W => rturn_calls (x - v) (by omega) (by omega) W)
        have HTL : Hid ((shB (turn (x - v))).length ≤ 8) := Lib.hid (shB_le 7 _ (turn_lt (by omega) (by omega)))
        have hty := turn_lt (x := x - v) (by omega) (by omega)
        obtain ⟨y, hy⟩ : ∃ y, turn (x - v) = y := ⟨_, rfl⟩
        rw [hy] at hst HTC HTL hty
        have HSC := Lib.hid (fun W => rshort_calls y hty W)
        have HST := Lib.hid hst
        have hsz2 : (shS y).size ≤ 8 := by rw [bytes_len (shS_list y)]; exact HTL.out
        have q' : wz.cell? ⟨g, o2, none⟩ = some (.int .i64 x) := q
        have i2 : (0 : Int) < (n : Int) := by omega
        clear hcell hst hx hy hgt q i0 i1 hty
        go_wp2_with (first
          | (go_at_call 36; refine (HTC.out _).mono ?_; rintro e w2 ⟨rfl, rfl⟩)
          | (go_at_call 21; refine (HSC.out _).mono ?_; rintro e w2 ⟨rfl, HB2⟩))
        go_roundw
        case rel => exact ⟨1, b ++ shS y, rfl, rfl, by omega, Lib.hid (by rw [bytes_app, HS.out, shS_list, HST.out, List.append_assoc]), Lib.hid (by rw [ByteArray.size_append]; omega), Lib.hid (HB.out.trans (HB2.out.mono HB.out.size))⟩
        case measure => simp [intOf]; omega
      · rw [if_neg hk0] at hst
        have q2 := hcell (k - 1) (by omega)
        have hla : lastOf l k = l.getD (k - 1) 0 := by unfold lastOf; rw [if_neg hk0]
        obtain ⟨hgt2, hx2, hxN2⟩ := HLT.out (k - 1) (by omega)
        rw [hla] at hgt
        obtain ⟨j, hj⟩ : ∃ j, k - 1 = j := ⟨_, rfl⟩
        rw [hj] at q2 hst hgt hx2 hxN2
        obtain ⟨x, hx⟩ : ∃ x, l.getD k 0 = x := ⟨_, rfl⟩
        obtain ⟨z, hz⟩ : ∃ z, l.getD j 0 = z := ⟨_, rfl⟩
        rw [hx] at q hx0 hxN hst hgt
        rw [hz] at q2 hst hgt hx2 hxN2
        obtain ⟨y, hy⟩ : ∃ y, (x - z - 1).toNat = y := ⟨_, rfl⟩
        rw [hy] at hst
        have hyw : IntKind.i64.wrap (x - z - 1) = (y : Int) := by rw [IntWalk.i64_in _ (by omega)]; omega
        have hxz : IntKind.i64.wrap (x - z) = x - z := IntWalk.i64_in _ (by omega)
        have HTC := Lib.hid (fun W => rshort_calls y (by omega) W)
        have HTL : Hid ((shB y).length ≤ 8) := Lib.hid (shB_le 7 _ (by omega))
        have HST := Lib.hid hst
        have hsz2 : (shS y).size ≤ 8 := by rw [bytes_len (shS_list y)]; exact HTL.out
        have hsl := shS_list y
        obtain ⟨sy, hsy⟩ : ∃ sy, shS y = sy := ⟨_, rfl⟩
        rw [hsy] at hsz2 hsl HTC
        have HSL := Lib.hid hsl
        have hsum : ¬ 9223372036854775807 < b.size + sy.size := by omega
        have j0 : (0 : Int) ≤ (j : Int) := by omega
        have j1 : (j : Int) < (n : Int) := by omega
        have j3 : ¬ (k : Int) = 0 := by omega
        have j4 : IntKind.i64.wrap ((k : Int) - 1) = (j : Int) := by rw [IntWalk.i64_in _ (by omega)]; omega
        have j5 : IntKind.i64.wrap (j : Int) = (j : Int) := IntWalk.i64_in _ (by omega)
        have HSS : Hid (∀ X, Below wz.heap.size wz X → X.cell? ⟨g, o2 + k, none⟩ = some (.int .i64 x) ∧ X.cell? ⟨g, o2 + j, none⟩ = some (.int .i64 z)) := Lib.hid (fun X h => ⟨(h.cell (p := ⟨g, o2 + k, none⟩) (World.block_lt_of_cell? _ _ q)).trans q, (h.cell (p := ⟨g, o2 + j, none⟩) (World.block_lt_of_cell? _ _ q2)).trans q2⟩)
        have HBB : Hid (Below wz.heap.size wz wz.drew) := Lib.hid (Below.refl _ _).drew
        have hcc : ((k + 1 : Nat) : Int) = (k : Int) + 1 := by omega
        have HBZ : Hid (b.size + sy.size ≤ 10 + 10 * (k + 1)) := Lib.hid (by omega)
        have HJK := Lib.hid hj
        clear hcell hst hx hz hy hgt hk0 hla hsl hsy hj hx2 hxN2 hgt2 hx0 hxN
        go_upto_region 7 with (fail)
        go_region_held3 (fun X => X.cell? ⟨g, o2 + k, none⟩ = some (.int .i64 x) ∧ X.cell? ⟨g, o2 + j, none⟩ = some (.int .i64 z))
          (first | (go_keep; done) | exact HSS.out _ HBB.out)
          (first
            | (go_at_call 21; refine (HTC.out _).mono ?_; rintro e w2 ⟨rfl, HB2⟩; have HBB := Lib.hid (HBB.out.trans (HB2.out.mono HBB.out.size))))
        go_wp2
        go_roundw
        case rel => exact ⟨k + 1, b ++ sy, rfl, by go_num, by omega, Lib.hid (by rw [bytes_app, HS.out, HSL.out, HST.out, List.append_assoc]), Lib.hid (by rw [ByteArray.size_append]; exact HBZ.out), Lib.hid (HB.out.trans (HBB.out.mono HB.out.size))⟩
        case measure => simp [intOf]; omega
    · obtain rfl : n = k := by omega
      have i1 : ¬ (n : Int) < (n : Int) := by omega
      have HF : Hid (b = ⟨G.toArray⟩) := Lib.hid (bytes_eq (by rw [HS.out, List.take_of_length_le (by rw [HN.out]; exact Nat.le_refl _)]; exact HGB.out))
      go_wp2
      go_ret
      exact ⟨by rw [HF.out]; rfl, HB⟩
end Go.Proofs.Ytjokfllldcjheaa.Oc
