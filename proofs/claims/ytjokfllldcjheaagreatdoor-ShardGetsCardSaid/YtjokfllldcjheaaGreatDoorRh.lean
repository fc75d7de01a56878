/- References 01: Short, Turn. · References 01: Turn; 06: Put. · The reference of layer 7: Put. -/
import Derived.Test.YtjokfllldcjheaaGreatDoorSq
import Derived.Test.YtjokfllldcjheaaGreatDoorRt
/- References 01: Short, Turn. -/
namespace Go.Proofs.YtjokfllldcjheaaGreatDoor.Oc
open Go.RowKit Go.Proofs.YtjokfllldcjheaaGreatDoor.Sha Go.Proofs.YtjokfllldcjheaaGreatDoor.Ro Go.Proofs.YtjokfllldcjheaaGreatDoor.Cs Go.Proofs.YtjokfllldcjheaaGreatDoor.Ed
set_option linter.unusedVariables false
set_option linter.unusedSimpArgs false
/-- a text of one byte -/
theorem one_string (W : World) (z : Int) (c : UInt8) (h : ((c.toNat : Nat) : Int) = z) : (convert 128 9 (.slice (some ⟨W.heap.size, 0, none⟩) 1 1)).run Tryz.prog (W.alloc (.cells #[.int .u8 z] 5)) = .ok (.string ⟨#[c]⟩) (W.alloc (.cells #[.int .u8 z] 5)) :=
  (RB.lit W [c] (#[.int .u8 z]) (by rw [← h]; simp [bcells]) 1 rfl (by simp)).string_run
theorem one_string_later {W W' : World} (z : Int) (c : UInt8) (h : ((c.toNat : Nat) : Int) = z) (hb : Below (W.alloc (.cells #[.int .u8 z] 5)).heap.size (W.alloc (.cells #[.int .u8 z] 5)) W') : (convert 128 9 (.slice (some ⟨W.heap.size, 0, none⟩) 1 1)).run Tryz.prog W' = .ok (.string ⟨#[c]⟩) W' :=
  ((RB.lit W [c] (#[.int .u8 z]) (by rw [← h]; simp [bcells]) 1 rfl (by simp)).later hb).string_run
set_option maxHeartbeats 4000000 in
set_option maxRecDepth 100000 in
theorem rshort_calls (x : Nat) : x < 72057594037927936 → ∀ w : World,
    Calls Tryz.prog 48 #[.int .i64 (x : Int)] w fun e w' => e = .returned (.string (shS x)) ∧ Hid (Below w.heap.size w w') := by
  induction x using Nat.strongRecOn with
  | ind x ih =>
    intro hx w
    by_cases h : x < 128
    · have i1 : (x : Int) < 128 := by omega
      have HS : Hid ((⟨#[UInt8.ofNat x]⟩ : ByteArray) = shS x) := Lib.hid (bytes_eq (by show [UInt8.ofNat x] = shB x; rw [shB_lt h]))
      have hcv := fun W => one_string W (x : Int) (UInt8.ofNat x) (u8_ofNat (by omega))
      rw [HS.out] at hcv
      clear ih
      go_enter Tryz.func48, Tryz.ntmps48
      go_wp2
      go_ret
      exact ⟨rfl, Lib.hid ((Below.refl _ _).alloc (Nat.le_refl _) _)⟩
    · have i1 : ¬ (x : Int) < 128 := by omega
      obtain ⟨r, hr⟩ : ∃ r, x % 128 = r := ⟨_, rfl⟩
      obtain ⟨q, hq⟩ : ∃ q, x / 128 = q := ⟨_, rfl⟩
      have hr1 : r < 128 := by omega
      have t1 : (x : Int).tmod 128 = (r : Int) := by
        rw [← hr]; exact (Int.ofNat_tmod x 128).symm
      have t2 : IntKind.i64.wrap ((r : Int) + 128) = (r : Int) + 128 := IntWalk.i64_in _ (by omega)
      have t3 : IntKind.u8.wrap ((r : Int) + 128) = (r : Int) + 128 := by rw [IntKind.wrap_u8]; omega
      have t4 : IntKind.i64.wrap ((x : Int) / 128) = (q : Int) := by rw [IntWalk.i64_in _ (by omega)]; omega
      have IH := Lib.hid (fun W => ih q (by omega) (by omega) W)
      have HS : Hid ((⟨#[UInt8.ofNat (r + 128)]⟩ : ByteArray) ++ shS q = shS x) := Lib.hid (bytes_eq (by rw [bytes_app]; show [UInt8.ofNat (r + 128)] ++ shB q = shB x; rw [shB_ge h, hr, hq]; rfl))
      have hc : (((UInt8.ofNat (r + 128)).toNat : Nat) : Int) = (r : Int) + 128 := by rw [u8_ofNat (by omega)]; omega
      generalize UInt8.ofNat (r + 128) = c at *
      have HCC := Lib.hid hc
      have hcv := fun W => one_string W ((r : Int) + 128) c hc
      have hcw : ∀ W : World, (convert 128 9 (.slice (some ⟨W.heap.size, 0, none⟩) 1 1)).run Tryz.prog (W.alloc (.cells #[.int .u8 ((r : Int) + 128)] 5)).drew = .ok (.string ⟨#[c]⟩) (W.alloc (.cells #[.int .u8 ((r : Int) + 128)] 5)).drew := fun W => hcv W.drew
      have hz : (shS q).size ≤ 8 := shB_le 7 q (by omega)
      have hzz : ¬ 9223372036854775807 < 1 + (shS q).size := by omega
      clear ih hr hq h hc
      generalize shS q = sq at *
      rw [← HS.out]
      clear HS
      go_enter Tryz.func48, Tryz.ntmps48
      go_upto_region 3 with (fail)
      refine wp_region_noPanic ?_
      refine wp_region_held_drew (S := fun _ => True) (by kernel_rfl) trivial (fun hHeld => ?_)
      refine wpAnyH_take (i := 0) (oi := _) (v := ?_) rfl (by kernel_rfl) (by kernel_rfl) (by kernel_rfl) (fun _ _ _ h => h) (Or.inl ⟨by rfl, ?_⟩) (by assumption) ?_
      rotate_left
      · (intro w hSw; (try dsimp only at hSw); go_simp; (try with_reducible rfl))
      try simp only [Act.put, List.setIfInBounds_toArray, List.set_cons_zero, List.set_cons_succ]
      refine wpAnyH_take (i := 1) (oi := _) (v := ?_) rfl (by kernel_rfl) (by kernel_rfl) (by kernel_rfl) (fun _ _ _ h => h) (Or.inl ⟨by rfl, ?_⟩) (by assumption) ?_
      rotate_left
      · (intro w hSw; (try dsimp only at hSw); go_simp; (try with_reducible rfl))
      try simp only [Act.put, List.setIfInBounds_toArray, List.set_cons_zero, List.set_cons_succ]
      refine wpAnyH_take (i := 2) (oi := _) (v := ?_) rfl (by kernel_rfl) (by kernel_rfl) (by kernel_rfl) (fun _ _ _ h => h) (Or.inl ⟨by rfl, ?_⟩) (by assumption) ?_
      rotate_left
      · (intro w hSw; (try dsimp only at hSw); go_simp; (try with_reducible rfl))
      try simp only [Act.put, List.setIfInBounds_toArray, List.set_cons_zero, List.set_cons_succ]
      refine wpAnyH_take (i := 3) (oi := _) (v := ?_) rfl (by kernel_rfl) (by kernel_rfl) (by kernel_rfl) (fun _ _ _ h => h) (Or.inl ⟨by rfl, ?_⟩) (by assumption) ?_
      rotate_left
      · (intro w hSw; (try dsimp only at hSw); go_simp; (try with_reducible rfl))
      try simp only [Act.put, List.setIfInBounds_toArray, List.set_cons_zero, List.set_cons_succ]
      refine wpAnyH_take (i := 6) (oi := _) (v := ?_) rfl (by kernel_rfl) (by kernel_rfl) (by kernel_rfl) (fun _ _ _ h => h) (Or.inl ⟨by rfl, ?_⟩) (by assumption) ?_
      rotate_left
      · (intro w hSw; (try dsimp only at hSw); go_simp; (try with_reducible rfl))
      try simp only [Act.put, List.setIfInBounds_toArray, List.set_cons_zero, List.set_cons_succ]
      refine wpAnyH_take (i := 7) (oi := _) (v := ?_) rfl (by kernel_rfl) (by kernel_rfl) (by kernel_rfl) (fun _ _ _ h => h) (Or.inl ⟨by rfl, ?_⟩) (by assumption) ?_
      rotate_left
      · (intro w hSw; (try dsimp only at hSw); go_simp; (try with_reducible rfl))
      try simp only [Act.put, List.setIfInBounds_toArray, List.set_cons_zero, List.set_cons_succ]
      refine wpAnyH_ready (rs := [4, 8]) (by kernel_rfl) (by simp) ?_
      refine AllReadyH.cons (o := _) rfl (fun K hK => ?_) (AllReadyH.cons (o := _) rfl (fun K hK => ?_) (AllReadyH.nil))
      · (go_simp)
        refine hK.out _ _ trivial (fun hHeld => ?_)
        clear hK K
        try simp only [Act.put, List.setIfInBounds_toArray, List.set_cons_zero, List.set_cons_succ]
        refine wpAnyH_ready (rs := [5, 8]) (by kernel_rfl) (by simp) ?_
        refine AllReadyH.cons (o := _) rfl (fun K hK => ?_) (AllReadyH.cons (o := _) rfl (fun K hK => ?_) (AllReadyH.nil))
        · try have hcy := one_string_later ((r : Int) + 128) c HCC.out (((Below.refl _ _).drew).trans HBx.out)
          go_simp
          refine hK.out _ _ trivial (fun hHeld => ?_)
          clear hK K
          try simp only [Act.put, List.setIfInBounds_toArray, List.set_cons_zero, List.set_cons_succ]
          refine wpAnyH_ready (rs := [8]) (by kernel_rfl) (by simp) ?_
          refine AllReadyH.cons (o := _) rfl (fun K hK => ?_) (AllReadyH.nil)
          (go_simp)
          go_at_call 48
          refine (IH.out _).mono ?_
          rintro e w1 ⟨rfl, HBx⟩
          go_wp2
          refine hK.out _ _ trivial (fun hHeld => ?_)
          clear hK K
          try simp only [Act.put, List.setIfInBounds_toArray, List.set_cons_zero, List.set_cons_succ]
          refine wpAnyH_take (i := 9) (oi := _) (v := ?_) rfl (by kernel_rfl) (by kernel_rfl) (by kernel_rfl) (fun _ _ _ h => h) (Or.inl ⟨by rfl, ?_⟩) (by assumption) ?_
          rotate_left
          · (intro w hSw; (try dsimp only at hSw); go_simp; (try with_reducible rfl))
          try simp only [Act.put, List.setIfInBounds_toArray, List.set_cons_zero, List.set_cons_succ]
          refine wpAnyH_take (i := 10) (oi := _) (v := ?_) rfl (by kernel_rfl) (by kernel_rfl) (by kernel_rfl) (fun _ _ _ h => h) (Or.inl ⟨by rfl, ?_⟩) (by assumption) ?_
          rotate_left
          · (intro w hSw; (try dsimp only at hSw); go_simp; (try with_reducible rfl))
          try simp only [Act.put, List.setIfInBounds_toArray, List.set_cons_zero, List.set_cons_succ]
          refine wpAnyH_done (by kernel_rfl) ?_ _
          refine NoPanic.normal ?_
          simp only [List.getElem_toArray, List.getElem_cons_succ, List.getElem_cons_zero, List.setIfInBounds_toArray, List.set_cons_zero, List.set_cons_succ]
          go_wp2
          go_ret
          first
            | exact ⟨rfl, Lib.hid (((((Below.refl _ _).drew).trans HBx.out)).alloc HBx.out.size _)⟩
            | exact ⟨rfl, Lib.hid ((((Below.refl _ _).alloc (Nat.le_refl _) _).drew).trans (HBx.out.mono (by simp)))⟩
        · (go_simp)
          go_at_call 48
          refine (IH.out _).mono ?_
          rintro e w1 ⟨rfl, HBx⟩
          go_wp2
          refine hK.out _ _ trivial (fun hHeld => ?_)
          clear hK K
          try simp only [Act.put, List.setIfInBounds_toArray, List.set_cons_zero, List.set_cons_succ]
          refine wpAnyH_ready (rs := [5]) (by kernel_rfl) (by simp) ?_
          refine AllReadyH.cons (o := _) rfl (fun K hK => ?_) (AllReadyH.nil)
          try have hcy := one_string_later ((r : Int) + 128) c HCC.out (((Below.refl _ _).drew).trans HBx.out)
          go_simp
          refine hK.out _ _ trivial (fun hHeld => ?_)
          clear hK K
          try simp only [Act.put, List.setIfInBounds_toArray, List.set_cons_zero, List.set_cons_succ]
          refine wpAnyH_take (i := 9) (oi := _) (v := ?_) rfl (by kernel_rfl) (by kernel_rfl) (by kernel_rfl) (fun _ _ _ h => h) (Or.inl ⟨by rfl, ?_⟩) (by assumption) ?_
          rotate_left
          · (intro w hSw; (try dsimp only at hSw); go_simp; (try with_reducible rfl))
          try simp only [Act.put, List.setIfInBounds_toArray, List.set_cons_zero, List.set_cons_succ]
          refine wpAnyH_take (i := 10) (oi := _) (v := ?_) rfl (by kernel_rfl) (by kernel_rfl) (by kernel_rfl) (fun _ _ _ h => h) (Or.inl ⟨by rfl, ?_⟩) (by assumption) ?_
          rotate_left
          · (intro w hSw; (try dsimp only at hSw); go_simp; (try with_reducible rfl))
          try simp only [Act.put, List.setIfInBounds_toArray, List.set_cons_zero, List.set_cons_succ]
          refine wpAnyH_done (by kernel_rfl) ?_ _
          refine NoPanic.normal ?_
          simp only [List.getElem_toArray, List.getElem_cons_succ, List.getElem_cons_zero, List.setIfInBounds_toArray, List.set_cons_zero, List.set_cons_succ]
          go_wp2
          go_ret
          first
            | exact ⟨rfl, Lib.hid (((((Below.refl _ _).drew).trans HBx.out)).alloc HBx.out.size _)⟩
            | exact ⟨rfl, Lib.hid ((((Below.refl _ _).alloc (Nat.le_refl _) _).drew).trans (HBx.out.mono (by simp)))⟩
      · (go_simp)
        go_at_call 48
        refine (IH.out _).mono ?_
        rintro e w1 ⟨rfl, HBx⟩
        go_wp2
        refine hK.out _ _ trivial (fun hHeld => ?_)
        clear hK K
        try simp only [Act.put, List.setIfInBounds_toArray, List.set_cons_zero, List.set_cons_succ]
        refine wpAnyH_ready (rs := [4]) (by kernel_rfl) (by simp) ?_
        refine AllReadyH.cons (o := _) rfl (fun K hK => ?_) (AllReadyH.nil)
        (go_simp)
        refine hK.out _ _ trivial (fun hHeld => ?_)
        clear hK K
        try simp only [Act.put, List.setIfInBounds_toArray, List.set_cons_zero, List.set_cons_succ]
        refine wpAnyH_ready (rs := [5]) (by kernel_rfl) (by simp) ?_
        refine AllReadyH.cons (o := _) rfl (fun K hK => ?_) (AllReadyH.nil)
        try have hcy := one_string_later ((r : Int) + 128) c HCC.out (((Below.refl _ _).drew).trans HBx.out)
        go_simp
        refine hK.out _ _ trivial (fun hHeld => ?_)
        clear hK K
        try simp only [Act.put, List.setIfInBounds_toArray, List.set_cons_zero, List.set_cons_succ]
        refine wpAnyH_take (i := 9) (oi := _) (v := ?_) rfl (by kernel_rfl) (by kernel_rfl) (by kernel_rfl) (fun _ _ _ h => h) (Or.inl ⟨by rfl, ?_⟩) (by assumption) ?_
        rotate_left
        · (intro w hSw; (try dsimp only at hSw); go_simp; (try with_reducible rfl))
        try simp only [Act.put, List.setIfInBounds_toArray, List.set_cons_zero, List.set_cons_succ]
        refine wpAnyH_take (i := 10) (oi := _) (v := ?_) rfl (by kernel_rfl) (by kernel_rfl) (by kernel_rfl) (fun _ _ _ h => h) (Or.inl ⟨by rfl, ?_⟩) (by assumption) ?_
        rotate_left
        · (intro w hSw; (try dsimp only at hSw); go_simp; (try with_reducible rfl))
        try simp only [Act.put, List.setIfInBounds_toArray, List.set_cons_zero, List.set_cons_succ]
        refine wpAnyH_done (by kernel_rfl) ?_ _
        refine NoPanic.normal ?_
        simp only [List.getElem_toArray, List.getElem_cons_succ, List.getElem_cons_zero, List.setIfInBounds_toArray, List.set_cons_zero, List.set_cons_succ]
        go_wp2
        go_ret
        first
          | exact ⟨rfl, Lib.hid (((((Below.refl _ _).drew).trans HBx.out)).alloc HBx.out.size _)⟩
          | exact ⟨rfl, Lib.hid ((((Below.refl _ _).alloc (Nat.le_refl _) _).drew).trans (HBx.out.mono (by simp)))⟩
end Go.Proofs.YtjokfllldcjheaaGreatDoor.Oc
/- References 01: Turn; 06: Put. -/
namespace Go.Proofs.YtjokfllldcjheaaGreatDoor.Oc
open Go.RowKit Go.Proofs.YtjokfllldcjheaaGreatDoor.Sha Go.Proofs.YtjokfllldcjheaaGreatDoor.Ro Go.Proofs.YtjokfllldcjheaaGreatDoor.Cs Go.Proofs.YtjokfllldcjheaaGreatDoor.Ed
set_option linter.unusedVariables false
set_option linter.unusedSimpArgs false
set_option maxHeartbeats 1000000 in
theorem rturn_calls (x : Int) (h0 : -10000 < x) (h1 : x < 10000) (w : World) :
    Calls Tryz.prog 82 #[.int .i64 x] w fun e w' => e = .returned (.int .i64 ((turn x : Nat) : Int)) ∧ w = w' := by
  by_cases hx : x < 0
  · have e : ((turn x : Nat) : Int) = -(2 * x) - 1 := by unfold turn; rw [if_pos hx]; omega
    rw [e]
    go_enter Tryz.func82, Tryz.ntmps82
    go_wp2
    go_ret
    exact ⟨rfl, rfl⟩
  · have e : ((turn x : Nat) : Int) = 2 * x := by unfold turn; rw [if_neg hx]; omega
    rw [e]
    go_enter Tryz.func82, Tryz.ntmps82
    go_wp2
    go_ret
    exact ⟨rfl, rfl⟩
set_option maxHeartbeats 4000000 in
set_option maxRecDepth 100000 in
theorem rgput_calls (N : Nat) (hN : N ≤ 4096) (v : Int) (hv : 0 ≤ v ∧ v < (N : Int)) (g : Nat) (u : Value) (l : List Int) (w : World) (hj : JR w g u l) (h0 : ∀ x ∈ l, 0 ≤ x ∧ x < (N : Int)) (hp : l.Pairwise (· < ·)) (hl : l.length ≤ N) :
    Calls Tryz.prog 49 #[.int .i64 v, u] w fun e w' => e = .returned (.string ⟨(gapB v l).toArray⟩) ∧ Hid (Below w.heap.size w w') := by
  have HJ := Lib.hid hj
  have HP := Lib.hid (List.pairwise_iff_getElem.1 hp)
  have HG := Lib.hid (gapT_step v l)
  obtain ⟨A, c, o, rfl, h1, h2, hrd⟩ := hj
  obtain ⟨n, hn⟩ : ∃ n, l.length = n := ⟨_, rfl⟩
  rw [hn] at h1 hl hrd ⊢
  have HN := Lib.hid hn
  obtain ⟨G, hG⟩ : ∃ G, gapB v l = G := ⟨_, rfl⟩
  rw [hG]
  have HGB : Hid (shB n ++ gapT v l = G) := Lib.hid (by rw [← hG, gapB_eq, hn])
  have HLT : Hid (∀ k, k < n → (l.getD k 0 > lastOf l k) ∧ 0 ≤ l.getD k 0 ∧ l.getD k 0 < (N : Int)) := Lib.hid (fun k hk => by
    have hk' : k < l.length := by rw [hn]; exact hk
    have hm : l.getD k 0 ∈ l := by rw [List.getD_eq_getElem?_getD, List.getElem?_eq_getElem hk']; exact List.getElem_mem _
    have hb := h0 _ hm
    refine ⟨?_, hb⟩
    unfold lastOf
    split
    · omega
    · rename_i hne
      have := HP.out (k - 1) k (by omega) hk' (by omega)
      rw [List.getD_eq_getElem?_getD, List.getD_eq_getElem?_getD, List.getElem?_eq_getElem hk', List.getElem?_eq_getElem (by omega)]
      exact this)
  have HS0 : Hid ((shS n).data.toList = shB n ++ gapT v (l.take 0)) := Lib.hid (by simp [gapT]; rfl)
  have hn2 : n ≤ 4096 := by omega
  clear hn hG h0 hp hrd
  go_enter Tryz.func49, Tryz.ntmps49
  go_upto_region 3 with (go_at_call 48; refine (rshort_calls n (by omega) _).mono ?_; rintro e w1 ⟨rfl, HB1⟩)
  have HB0 := HB1
  go_loopw [5, 6] (fun t x wz => ∃ (k : Nat) (b : ByteArray), t = .string b ∧ x = .int .i64 (k : Int) ∧ k ≤ n ∧ Hid (b.data.toList = shB n ++ gapT v (l.take k)) ∧ Hid (b.size ≤ 10 + 10 * k) ∧ Hid (Below w.heap.size w wz)) (fun _ x _ => n - (intOf x).toNat)
  case atStart => exact ⟨0, shS n, rfl, rfl, Nat.zero_le _, HS0, Lib.hid (by rw [bytes_len (shS_list n)]; have := shB_le 7 n (by omega); omega), HB1⟩
  case round =>
    clear HS0 HB1 HB0
    obtain ⟨k, b, rfl, rfl, hk, HS, HZ, HB⟩ := hrel
    rename World => wz
    have hbsz := HZ.out
    by_cases hlt2 : k < n
    · obtain ⟨A2, c2, o2, hv2, -, -, hr2⟩ := HJ.out.later HB.out
      rw [HN.out] at hv2 hr2
      obtain ⟨rfl, -, hcell⟩ := hr2 (by omega)
      injection hv2 with hv2 _ hcc
      subst hcc hv2
      have q := hcell k hlt2
      obtain ⟨hgt, hx0, hxN⟩ := HLT.out k hlt2
      have hst := HG.out k (by rw [HN.out]; exact hlt2)
      have i0 : (0 : Int) ≤ (k : Int) := by omega
      have i1 : (k : Int) < (n : Int) := by omega
      by_cases hk0 : k = 0
      · subst hk0
        rw [if_pos rfl] at hst
        obtain ⟨x, hx⟩ : ∃ x, l.getD 0 0 = x := ⟨_, rfl⟩
        rw [hx] at q hx0 hxN hst
        have HTC := Lib.hid (fun W => rturn_calls (x - v) (by omega) (by omega) W)
        have HTL : Hid ((shB (turn (x - v))).length ≤ 8) := Lib.hid (shB_le 7 _ (turn_lt (by omega) (by omega)))
        have hty := turn_lt (x := x - v) (by omega) (by omega)
        obtain ⟨y, hy⟩ : ∃ y, turn (x - v) = y := ⟨_, rfl⟩
        rw [hy] at hst HTC HTL hty
        have HSC := Lib.hid (fun W => rshort_calls y hty W)
        have HST := Lib.hid hst
        have hsz2 : (shS y).size ≤ 8 := by rw [bytes_len (shS_list y)]; exact HTL.out
        have q' : wz.cell? ⟨g, o2, none⟩ = some (.int .i64 x) := q
        have i2 : (0 : Int) < (n : Int) := by omega
        clear hcell hst hx hy hgt q i0 i1 hty
        go_wp2_with (first
          | (go_at_call 82; refine (HTC.out _).mono ?_; rintro e w2 ⟨rfl, rfl⟩)
          | (go_at_call 48; refine (HSC.out _).mono ?_; rintro e w2 ⟨rfl, HB2⟩))
        go_roundw
        case rel => exact ⟨1, b ++ shS y, rfl, rfl, by omega, Lib.hid (by rw [bytes_app, HS.out, shS_list, HST.out, List.append_assoc]), Lib.hid (by rw [ByteArray.size_append]; omega), Lib.hid (HB.out.trans (HB2.out.mono HB.out.size))⟩
        case measure => simp [intOf]; omega
      · rw [if_neg hk0] at hst
        have q2 := hcell (k - 1) (by omega)
        have hla : lastOf l k = l.getD (k - 1) 0 := by unfold lastOf; rw [if_neg hk0]
        obtain ⟨hgt2, hx2, hxN2⟩ := HLT.out (k - 1) (by omega)
        rw [hla] at hgt
        obtain ⟨j, hj⟩ : ∃ j, k - 1 = j := ⟨_, rfl⟩
        rw [hj] at q2 hst hgt hx2 hxN2
        obtain ⟨x, hx⟩ : ∃ x, l.getD k 0 = x := ⟨_, rfl⟩
        obtain ⟨z, hz⟩ : ∃ z, l.getD j 0 = z := ⟨_, rfl⟩
        rw [hx] at q hx0 hxN hst hgt
        rw [hz] at q2 hst hgt hx2 hxN2
        obtain ⟨y, hy⟩ : ∃ y, (x - z - 1).toNat = y := ⟨_, rfl⟩
        rw [hy] at hst
        have hyw : IntKind.i64.wrap (x - z - 1) = (y : Int) := by rw [IntWalk.i64_in _ (by omega)]; omega
        have hxz : IntKind.i64.wrap (x - z) = x - z := IntWalk.i64_in _ (by omega)
        have HTC := Lib.hid (fun W => rshort_calls y (by omega) W)
        have HTL : Hid ((shB y).length ≤ 8) := Lib.hid (shB_le 7 _ (by omega))
        have HST := Lib.hid hst
        have hsz2 : (shS y).size ≤ 8 := by rw [bytes_len (shS_list y)]; exact HTL.out
        have hsl := shS_list y
        obtain ⟨sy, hsy⟩ : ∃ sy, shS y = sy := ⟨_, rfl⟩
        rw [hsy] at hsz2 hsl HTC
        have HSL := Lib.hid hsl
        have hsum : ¬ 9223372036854775807 < b.size + sy.size := by omega
        have j0 : (0 : Int) ≤ (j : Int) := by omega
        have j1 : (j : Int) < (n : Int) := by omega
        have j3 : ¬ (k : Int) = 0 := by omega
        have j4 : IntKind.i64.wrap ((k : Int) - 1) = (j : Int) := by rw [IntWalk.i64_in _ (by omega)]; omega
        have j5 : IntKind.i64.wrap (j : Int) = (j : Int) := IntWalk.i64_in _ (by omega)
        have HSS : Hid (∀ X, Below wz.heap.size wz X → X.cell? ⟨g, o2 + k, none⟩ = some (.int .i64 x) ∧ X.cell? ⟨g, o2 + j, none⟩ = some (.int .i64 z)) := Lib.hid (fun X h => ⟨(h.cell (p := ⟨g, o2 + k, none⟩) (World.block_lt_of_cell? _ _ q)).trans q, (h.cell (p := ⟨g, o2 + j, none⟩) (World.block_lt_of_cell? _ _ q2)).trans q2⟩)
        have HBB : Hid (Below wz.heap.size wz wz.drew) := Lib.hid (Below.refl _ _).drew
        have hcc : ((k + 1 : Nat) : Int) = (k : Int) + 1 := by omega
        have HBZ : Hid (b.size + sy.size ≤ 10 + 10 * (k + 1)) := Lib.hid (by omega)
        have HJK := Lib.hid hj
        clear hcell hst hx hz hy hgt hk0 hla hsl hsy hj hx2 hxN2 hgt2 hx0 hxN
        go_upto_region 7 with (fail)
        go_region_held3 (fun X => X.cell? ⟨g, o2 + k, none⟩ = some (.int .i64 x) ∧ X.cell? ⟨g, o2 + j, none⟩ = some (.int .i64 z))
          (first | (go_keep; done) | exact HSS.out _ HBB.out)
          (first
            | (go_at_call 48; refine (HTC.out _).mono ?_; rintro e w2 ⟨rfl, HB2⟩; have HBB := Lib.hid (HBB.out.trans (HB2.out.mono HBB.out.size))))
        go_wp2
        go_roundw
        case rel => exact ⟨k + 1, b ++ sy, rfl, by go_num, by omega, Lib.hid (by rw [bytes_app, HS.out, HSL.out, HST.out, List.append_assoc]), Lib.hid (by rw [ByteArray.size_append]; exact HBZ.out), Lib.hid (HB.out.trans (HBB.out.mono HB.out.size))⟩
        case measure => simp [intOf]; omega
    · obtain rfl : n = k := by omega
      have i1 : ¬ (n : Int) < (n : Int) := by omega
      have HF : Hid (b = ⟨G.toArray⟩) := Lib.hid (bytes_eq (by rw [HS.out, List.take_of_length_le (by rw [HN.out]; exact Nat.le_refl _)]; exact HGB.out))
      go_wp2
      go_ret
      exact ⟨by rw [HF.out]; rfl, HB⟩
end Go.Proofs.YtjokfllldcjheaaGreatDoor.Oc
/- The reference of layer 7: Put. -/
namespace Go.Proofs.YtjokfllldcjheaaGreatDoor.Oc
open Go.RowKit Go.Proofs.YtjokfllldcjheaaGreatDoor.Sha Go.Proofs.YtjokfllldcjheaaGreatDoor.Ro Go.Proofs.YtjokfllldcjheaaGreatDoor.Cs Go.Proofs.YtjokfllldcjheaaGreatDoor.Ed
set_option linter.unusedVariables false
set_option linter.unusedSimpArgs false
/-- what a row of targets must be -/
def RowsOk (t : Int → List Int) (N : Nat) : Prop := ∀ v : Int, 0 ≤ v ∧ v < (N : Int) → (∀ x ∈ t v, 0 ≤ x ∧ x < (N : Int)) ∧ (t v).Pairwise (· < ·) ∧ (t v).length ≤ N
set_option maxHeartbeats 4000000 in
set_option maxRecDepth 100000 in
theorem rput_calls (N : Nat) (hN : N ≤ 4096) (g : Nat) (v : Value) (l : List E2) (w : World) (h : ER w g v l) (hl : l.length ≤ 1000000) (hok : RowsOk (tgt l) N) (first many : Nat) (h2 : first + many ≤ N) :
    Calls Tryz.prog 17 #[v, .int .i64 (first : Int), .int .i64 (many : Int)] w fun e w' => e = .returned (.string ⟨(shardB (tgt l) first many).toArray⟩) ∧ Hid (Below w.heap.size w w') := by
  have HE := Lib.hid h
  have HOK := Lib.hid hok
  have HLL := Lib.hid hl
  have HRL : Hid (∀ k, k ≤ many → (rowsB (tgt l) first k).length ≤ 33562624) := Lib.hid (fun k hk => by
    have := rowsB_le (tgt l) N hN hok k first (by omega) (by omega)
    have : k * 8194 ≤ 4096 * 8194 := Nat.mul_le_mul_right _ (by omega)
    omega)
  have HML : Hid (∀ k, k ≤ many → (idxB (marksOf (tgt l) first k)).length ≤ 5000) := Lib.hid (fun k hk => by
    have := idxB_le (marksOf (tgt l) first k) (fun x hx => by
      unfold marksOf at hx
      obtain ⟨i, hi, rfl⟩ := List.mem_map.1 hx
      have hi := List.mem_range.1 hi
      have a := rowsB_le (tgt l) N hN hok (8 * i) first (by omega) (by omega)
      have b : 8 * i * 8194 ≤ 4096 * 8194 := Nat.mul_le_mul_right _ (by omega)
      exact Nat.lt_of_le_of_lt (Nat.le_trans a b) (by decide))
    rw [marksOf_len] at this
    omega)
  have hb7 : (first : Int) + (many : Int) ≤ 4096 := by omega
  obtain ⟨A, c, rfl, -⟩ := er_form h
  obtain ⟨ln, hln⟩ : ∃ ln, l.length = ln := ⟨_, rfl⟩
  rw [hln] at HE ⊢
  have HT : Hid (∀ W, Below w.heap.size w W → ∀ z : Int, Calls Tryz.prog 23 #[.slice A ln c, .int .i64 z] W fun e w' => ∃ v', e = .returned v' ∧ Hid (OJ w' W.heap.size v' (tgt l z)) ∧ Hid (Below W.heap.size W w')) := Lib.hid (fun W hW z => rtargets_calls g _ l z W (HE.out.later hW) HLL.out)
  have HS1 := Lib.hid (fun W => rshort_calls first (by omega) W)
  have HS2 := Lib.hid (fun W => rshort_calls many (by omega) W)
  have hz1 := shB_le 7 first (by omega)
  have hz2 := shB_le 7 many (by omega)
  have hl1 : (shS first).size ≤ 8 := hz1
  have hl2 : (shS many).size ≤ 8 := hz2
  have hs1 := shS_list first
  have hs2 := shS_list many
  obtain ⟨s1, e1⟩ : ∃ s, shS first = s := ⟨_, rfl⟩
  obtain ⟨s2, e2⟩ : ∃ s, shS many = s := ⟨_, rfl⟩
  rw [e1] at HS1 hl1 hs1
  rw [e2] at HS2 hl2 hs2
  obtain ⟨G, hG⟩ : ∃ G : ByteArray, (⟨(shardB (tgt l) first many).toArray⟩ : ByteArray) = G := ⟨_, rfl⟩
  rw [hG]
  have HG : Hid (∀ x : ByteArray, x.data.toList = shardB (tgt l) first many → x = G) := Lib.hid (fun x hx => by rw [← hG]; exact bytes_eq hx)
  have HSL1 := Lib.hid hs1
  have HSL2 := Lib.hid hs2
  have HI0 : Hid ((ByteArray.empty : ByteArray).data.toList = idxB (marksOf (tgt l) first 0)) := Lib.hid (by simp [marksOf, idxB])
  have HW0 : Hid ((ByteArray.empty : ByteArray).data.toList = rowsB (tgt l) first 0) := Lib.hid (by simp [rowsB])
  clear h hl hok hz1 hz2 hs1 hs2 e1 e2 hG hln
  go_enter Tryz.func17, Tryz.ntmps17
  go_upto_region 3 with (fail)
  go_loopw [7, 8, 9] (fun r t x wz => ∃ (k : Nat) (a b : ByteArray), r = .string a ∧ t = .string b ∧ x = .int .i64 (k : Int) ∧ k ≤ many ∧ Hid (a.data.toList = rowsB (tgt l) first k) ∧ Hid (b.data.toList = idxB (marksOf (tgt l) first k)) ∧ Hid (Below w.heap.size w wz)) (fun _ _ x _ => many - (intOf x).toNat)
  case atStart => exact ⟨0, _, _, rfl, rfl, rfl, Nat.zero_le _, HW0, HI0, Lib.hid (Below.refl _ _)⟩
  case round =>
    clear HI0 HW0
    obtain ⟨k, a, b, rfl, rfl, rfl, hk, HA, HI, HB⟩ := hrel
    have hra := HRL.out k hk
    have hrb := HML.out k hk
    rw [← HA.out, ← bytes_len (b := a) rfl] at hra
    rw [← HI.out, ← bytes_len (b := b) rfl] at hrb
    by_cases hlt : k < many
    · have i1 : (k : Int) < (many : Int) := by omega
      obtain ⟨o1, o2, o3⟩ := HOK.out ((first : Int) + (k : Int)) (by omega)
      have HPU : Hid (∀ (W : World) (g : Nat) (u : Value), JR W g u (tgt l ((first : Int) + (k : Int))) → Calls Tryz.prog 49 #[.int .i64 ((first : Int) + (k : Int)), u] W fun e w' => e = .returned (.string ⟨(gapB ((first : Int) + (k : Int)) (tgt l ((first : Int) + (k : Int)))).toArray⟩) ∧ Hid (Below W.heap.size W w')) := Lib.hid (fun W g u h => rgput_calls N hN ((first : Int) + (k : Int)) (by omega) g u _ W h o1 o2 o3)
      have hsn := rowsB_snoc (tgt l) k (first : Int)
      have hr2 := HRL.out (k + 1) (by omega)
      obtain ⟨gb, hgb⟩ : ∃ gb : ByteArray, (⟨(gapB ((first : Int) + (k : Int)) (tgt l ((first : Int) + (k : Int)))).toArray⟩ : ByteArray) = gb := ⟨_, rfl⟩
      have hgl : gb.data.toList = gapB ((first : Int) + (k : Int)) (tgt l ((first : Int) + (k : Int))) := by rw [← hgb]
      rw [hgb] at HPU
      have HSN : Hid ((a ++ gb).data.toList = rowsB (tgt l) first (k + 1)) := Lib.hid (by rw [bytes_app, HA.out, hgl, hsn])
      rw [← HSN.out, ← bytes_len (b := a ++ gb) rfl, ByteArray.size_append] at hr2
      have hm8 := marksOf_step (tgt l) (first : Int) k
      have hf1 : (first : Int) + (k : Int) ≤ 4096 := by omega
      clear o1 o2 o3 hsn hgb hgl
      by_cases h8 : k % 8 = 0
      · rw [if_pos h8] at hm8
        have HSC := Lib.hid (fun W => rshort_calls a.size (by omega) W)
        have hz3 := shB_le 7 a.size (by omega)
        have hl3 : (shS a.size).size ≤ 8 := hz3
        have hs3 := shS_list a.size
        have hal : (rowsB (tgt l) (first : Int) k).length = a.size := by rw [← HA.out]; exact (bytes_len rfl).symm
        obtain ⟨s3, e3⟩ : ∃ s, shS a.size = s := ⟨_, rfl⟩
        rw [e3] at HSC hl3 hs3
        have HMS : Hid ((b ++ s3).data.toList = idxB (marksOf (tgt l) (first : Int) (k + 1))) := Lib.hid (by rw [bytes_app, HI.out, hs3, hm8, idxB_snoc, hal])
        have m1 : (k : Int) % 8 = 0 := by omega
        have m2 : (k : Int).tmod 8 = 0 := by rw [Int.tmod_eq_emod_of_nonneg (by omega)]; exact m1
        clear hm8 hz3 hs3 e3 hal
        go_wp2_with (first
          | (go_at_call 48; refine (HSC.out _).mono ?_; rintro e w2 ⟨rfl, HB2⟩; have HB := Lib.hid (HB.out.trans (HB2.out.mono HB.out.size)))
          | (go_at_call 23; refine (HT.out _ HB.out _).mono ?_; rintro e w5 ⟨v5, rfl, HO5, HB5⟩; obtain ⟨g5, hg5, -⟩ := HO5.out.reads; have HJ5 := Lib.hid hg5; clear hg5; have HB := Lib.hid (HB.out.trans (HB5.out.mono HB.out.size)))
          | (go_at_call 49; refine (HPU.out _ g5 _ HJ5.out).mono ?_; rintro e w7 ⟨rfl, HB7⟩; have HB := Lib.hid (HB.out.trans (HB7.out.mono HB.out.size))))
        go_roundw
        case rel => exact ⟨k + 1, a ++ gb, b ++ s3, rfl, rfl, by go_num, by omega, HSN, HMS, HB⟩
        case measure => simp [intOf]; omega
      · rw [if_neg h8] at hm8
        have HMS : Hid (b.data.toList = idxB (marksOf (tgt l) (first : Int) (k + 1))) := Lib.hid (by rw [HI.out, hm8])
        have m1 : ¬ (k : Int) % 8 = 0 := by omega
        have m2 : ¬ (k : Int).tmod 8 = 0 := by rw [Int.tmod_eq_emod_of_nonneg (by omega)]; exact m1
        clear hm8
        go_wp2_with (first
          | (go_at_call 23; refine (HT.out _ HB.out _).mono ?_; rintro e w5 ⟨v5, rfl, HO5, HB5⟩; obtain ⟨g5, hg5, -⟩ := HO5.out.reads; have HJ5 := Lib.hid hg5; clear hg5; have HB := Lib.hid (HB.out.trans (HB5.out.mono HB.out.size)))
          | (go_at_call 49; refine (HPU.out _ g5 _ HJ5.out).mono ?_; rintro e w7 ⟨rfl, HB7⟩; have HB := Lib.hid (HB.out.trans (HB7.out.mono HB.out.size))))
        go_roundw
        case rel => exact ⟨k + 1, a ++ gb, b, rfl, rfl, by go_num, by omega, HSN, HMS, HB⟩
        case measure => simp [intOf]; omega
    · obtain rfl : many = k := by omega
      have i1 : ¬ (many : Int) < (many : Int) := by omega
      have HF := Lib.hid (HG.out (s1 ++ s2 ++ b ++ a) (by rw [bytes_app, bytes_app, bytes_app, HSL1.out, HSL2.out, HI.out, HA.out]; rfl))
      have z1 : (s1 ++ s2).size ≤ 16 := by rw [ByteArray.size_append]; omega
      have z2 : (s1 ++ s2 ++ b).size ≤ 6000 := by rw [ByteArray.size_append, ByteArray.size_append]; omega
      go_wp2_with (first
        | (go_at_call 48; (with_reducible show Calls Tryz.prog 48 #[.int .i64 (first : Int)] _ _); refine (HS1.out _).mono ?_; rintro e w2 ⟨rfl, HB2⟩; have HB := Lib.hid (HB.out.trans (HB2.out.mono HB.out.size)))
        | (go_at_call 48; refine (HS2.out _).mono ?_; rintro e w2 ⟨rfl, HB2⟩; have HB := Lib.hid (HB.out.trans (HB2.out.mono HB.out.size))))
      go_ret
      exact ⟨by rw [← HF.out]; rfl, HB⟩
end Go.Proofs.YtjokfllldcjheaaGreatDoor.Oc
