/- References 01: Short, Turn. -/
import Derived.Test.YtjokfllldcjheaaSk
namespace Go.Proofs.Ytjokfllldcjheaa.Oc
open Go.RowKit Go.Proofs.Ytjokfllldcjheaa.Sha Go.Proofs.Ytjokfllldcjheaa.Ro Go.Proofs.Ytjokfllldcjheaa.Cs Go.Proofs.Ytjokfllldcjheaa.Ed
set_option linter.unusedVariables false
set_option linter.unusedSimpArgs false
/-- a text of one byte -/
theorem one_string (W : World) (z : Int) (c : UInt8) (h : ((c.toNat : Nat) : Int) = z) : (convert 83 9 (.slice (some ⟨W.heap.size, 0, none⟩) 1 1)).run Try.prog (W.alloc (.cells #[.int .u8 z] 5)) = .ok (.string ⟨#[c]⟩) (W.alloc (.cells #[.int .u8 z] 5)) :=
  (RB.lit W [c] (#[.int .u8 z]) (by rw [← h]; simp [bcells]) 1 rfl (by simp)).string_run
theorem one_string_later {W W' : World} (z : Int) (c : UInt8) (h : ((c.toNat : Nat) : Int) = z) (hb : Below (W.alloc (.cells #[.int .u8 z] 5)).heap.size (W.alloc (.cells #[.int .u8 z] 5)) W') : (convert 83 9 (.slice (some ⟨W.heap.size, 0, none⟩) 1 1)).run Try.prog W' = .ok (.string ⟨#[c]⟩) W' :=
  ((RB.lit W [c] (#[.int .u8 z]) (by rw [← h]; simp [bcells]) 1 rfl (by simp)).later hb).string_run
set_option maxHeartbeats 4000000 in
set_option maxRecDepth 100000 in
theorem rshort_calls (x : Nat) : x < 72057594037927936 → ∀ w : World,
    Calls Try.prog 21 #[.int .i64 (x : Int)] w fun e w' => e = .returned (.string (shS x)) ∧ Hid (Below w.heap.size w w') := by
  induction x using Nat.strongRecOn with
  | ind x ih =>
    intro hx w
    by_cases h : x < 128
    · have i1 : (x : Int) < 128 := by omega
      have HS : Hid ((⟨#[UInt8.ofNat x]⟩ : ByteArray) = shS x) := Lib.hid (bytes_eq (by show [UInt8.ofNat x] = shB x; rw [shB_lt h]))
      have hcv := fun W => one_string W (x : Int) (UInt8.ofNat x) (u8_ofNat (by omega))
      rw [HS.out] at hcv
      clear ih
      go_enter Try.func21, Try.ntmps21
      go_wp2
      go_ret
      exact ⟨rfl, Lib.hid ((Below.refl _ _).alloc (Nat.le_refl _) _)⟩
    · have i1 : ¬ (x : Int) < 128 := by omega
      obtain ⟨r, hr⟩ : ∃ r, x % 128 = r := ⟨_, rfl⟩
      obtain ⟨q, hq⟩ : ∃ q, x / 128 = q := ⟨_, rfl⟩
      have hr1 : r < 128 := by omega
      have t1 : (x : Int).tmod 128 = (r : Int) := by
        rw [← hr]; exact (Int.ofNat_tmod x 128).symm
      have t2 : IntKind.i64.wrap ((r : Int) + 128) = (r : Int) + 128 := IntWalk.i64_in _ (by omega)
      have t3 : IntKind.u8.wrap ((r : Int) + 128) = (r : Int) + 128 := by rw [IntKind.wrap_u8]; omega
      have t4 : IntKind.i64.wrap ((x : Int) / 128) = (q : Int) := by rw [IntWalk.i64_in _ (by omega)]; omega
      have IH := Lib.hid (fun W => ih q (by omega) (by omega) W)
      have HS : Hid ((⟨#[UInt8.ofNat (r + 128)]⟩ : ByteArray) ++ shS q = shS x) := Lib.hid (bytes_eq (by rw [bytes_app]; show [UInt8.ofNat (r + 128)] ++ shB q = shB x; rw [shB_ge h, hr, hq]; rfl))
      have hc : (((UInt8.ofNat (r + 128)).toNat : Nat) : Int) = (r : Int) + 128 := by rw [u8_ofNat (by omega)]; omega
      generalize UInt8.ofNat (r + 128) = c at *
      have HCC := Lib.hid hc
      have hcv := fun W => one_string W ((r : Int) + 128) c hc
      have hcw : ∀ W : World, (convert 83 9 (.slice (some ⟨W.heap.size, 0, none⟩) 1 1)).run Try.prog (W.alloc (.cells #[.int .u8 ((r : Int) + 128)] 5)).drew = .ok (.string ⟨#[c]⟩) (W.alloc (.cells #[.int .u8 ((r : Int) + 128)] 5)).drew := fun W => hcv W.drew
      have hz : (shS q).size ≤ 8 := shB_le 7 q (by omega)
      have hzz : ¬ 9223372036854775807 < 1 + (shS q).size := by omega
      clear ih hr hq h hc
      generalize shS q = sq at *
      rw [← HS.out]
      clear HS
      go_enter Try.func21, Try.ntmps21
      go_upto_region 3 with (fail)
      refine wp_region_noPanic ?_
      refine wp_region_held_drew (S := fun _ => True) (by kernel_rfl) trivial (fun hHeld => ?_)
      refine wpAnyH_take (i := 0) (oi := _) (v := ?_) rfl (by kernel_rfl) (by kernel_rfl) (by kernel_rfl) (fun _ _ _ h => h) (Or.inl ⟨by rfl, ?_⟩) (by assumption) ?_
      rotate_left
      · (intro w hSw; (try dsimp only at hSw); go_simp; (try with_reducible rfl))
      try simp only [Act.put, List.setIfInBounds_toArray, List.set_cons_zero, List.set_cons_succ]
      refine wpAnyH_take (i := 1) (oi := _) (v := ?_) rfl (by kernel_rfl) (by kernel_rfl) (by kernel_rfl) (fun _ _ _ h => h) (Or.inl ⟨by rfl, ?_⟩) (by assumption) ?_
      rotate_left
      · (intro w hSw; (try dsimp only at hSw); go_simp; (try with_reducible rfl))
      try simp only [Act.put, List.setIfInBounds_toArray, List.set_cons_zero, List.set_cons_succ]
      refine wpAnyH_take (i := 2) (oi := _) (v := ?_) rfl (by kernel_rfl) (by kernel_rfl) (by kernel_rfl) (fun _ _ _ h => h) (Or.inl ⟨by rfl, ?_⟩) (by assumption) ?_
      rotate_left
      · (intro w hSw; (try dsimp only at hSw); go_simp; (try with_reducible rfl))
      try simp only [Act.put, List.setIfInBounds_toArray, List.set_cons_zero, List.set_cons_succ]
      refine wpAnyH_take (i := 3) (oi := _) (v := ?_) rfl (by kernel_rfl) (by kernel_rfl) (by kernel_rfl) (fun _ _ _ h => h) (Or.inl ⟨by rfl, ?_⟩) (by assumption) ?_
      rotate_left
      · (intro w hSw; (try dsimp only at hSw); go_simp; (try with_reducible rfl))
      try simp only [Act.put, List.setIfInBounds_toArray, List.set_cons_zero, List.set_cons_succ]
      refine wpAnyH_take (i := 6) (oi := _) (v := ?_) rfl (by kernel_rfl) (by kernel_rfl) (by kernel_rfl) (fun _ _ _ h => h) (Or.inl ⟨by rfl, ?_⟩) (by assumption) ?_
      rotate_left
      · (intro w hSw; (try dsimp only at hSw); go_simp; (try with_reducible rfl))
      try simp only [Act.put, List.setIfInBounds_toArray, List.set_cons_zero, List.set_cons_succ]
      refine wpAnyH_take (i := 7) (oi := _) (v := ?_) rfl (by kernel_rfl) (by kernel_rfl) (by kernel_rfl) (fun _ _ _ h => h) (Or.inl ⟨by rfl, ?_⟩) (by assumption) ?_
      rotate_left
      · (intro w hSw; (try dsimp only at hSw); go_simp; (try with_reducible rfl))
      try simp only [Act.put, List.setIfInBounds_toArray, List.set_cons_zero, List.set_cons_succ]
      refine wpAnyH_ready (rs := [4, 8]) (by kernel_rfl) (by simp) ?_
      refine AllReadyH.cons (o := _) rfl (fun K hK => ?_) (AllReadyH.cons (o := _) rfl (fun K hK => ?_) (AllReadyH.nil))
      · (go_simp)
        refine hK.out _ _ trivial (fun hHeld => ?_)
        clear hK K
        try simp only [Act.put, List.setIfInBounds_toArray, List.set_cons_zero, List.set_cons_succ]
        refine wpAnyH_ready (rs := [5, 8]) (by kernel_rfl) (by simp) ?_
        refine AllReadyH.cons (o := _) rfl (fun K hK => ?_) (AllReadyH.cons (o := _) rfl (fun K hK => ?_) (AllReadyH.nil))
        · try have hcy := one_string_later ((r : Int) + 128) c HCC.out (((Below.refl _ _).drew).trans HBx.out)
          go_simp
          refine hK.out _ _ trivial (fun hHeld => ?_)
          clear hK K
          try simp only [Act.put, List.setIfInBounds_toArray, List.set_cons_zero, List.set_cons_succ]
          refine wpAnyH_ready (rs := [8]) (by kernel_rfl) (by simp) ?_
          refine AllReadyH.cons (o := _) rfl (fun K hK => ?_) (AllReadyH.nil)
          (go_simp)
          go_at_call 21
          refine (IH.out _).mono ?_
          rintro e w1 ⟨rfl, HBx⟩
          go_wp2
          refine hK.out _ _ trivial (fun hHeld => ?_)
          clear hK K
          try simp only [Act.put, List.setIfInBounds_toArray, List.set_cons_zero, List.set_cons_succ]
          refine wpAnyH_take (i := 9) (oi := _) (v := ?_) rfl (by kernel_rfl) (by kernel_rfl) (by kernel_rfl) (fun _ _ _ h => h) (Or.inl ⟨by rfl, ?_⟩) (by assumption) ?_
          rotate_left
          · (intro w hSw; (try dsimp only at hSw); go_simp; (try with_reducible rfl))
          try simp only [Act.put, List.setIfInBounds_toArray, List.set_cons_zero, List.set_cons_succ]
          refine wpAnyH_take (i := 10) (oi := _) (v := ?_) rfl (by kernel_rfl) (by kernel_rfl) (by kernel_rfl) (fun _ _ _ h => h) (Or.inl ⟨by rfl, ?_⟩) (by assumption) ?_
          rotate_left
          · (intro w hSw; (try dsimp only at hSw); go_simp; (try with_reducible rfl))
          try simp only [Act.put, List.setIfInBounds_toArray, List.set_cons_zero, List.set_cons_succ]
          refine wpAnyH_done (by kernel_rfl) ?_ _
          refine NoPanic.normal ?_
          simp only [List.getElem_toArray, List.getElem_cons_succ, List.getElem_cons_zero, List.setIfInBounds_toArray, List.set_cons_zero, List.set_cons_succ]
          go_wp2
          go_ret
          first
            | exact ⟨rfl, Lib.hid (((((Below.refl _ _).drew).trans HBx.out)).alloc HBx.out.size _)⟩
            | exact ⟨rfl, Lib.hid ((((Below.refl _ _).alloc (Nat.le_refl _) _).drew).trans (HBx.out.mono (by simp)))⟩
        · (go_simp)
          go_at_call 21
          refine (IH.out _).mono ?_
          rintro e w1 ⟨rfl, HBx⟩
          go_wp2
          refine hK.out _ _ trivial (fun hHeld => ?_)
          clear hK K
          try simp only [Act.put, List.setIfInBounds_toArray, List.set_cons_zero, List.set_cons_succ]
          refine wpAnyH_ready (rs := [5]) (by kernel_rfl) (by simp) ?_
          refine AllReadyH.cons (o := _) rfl (fun K hK => ?_) (AllReadyH.nil)
          try have hcy := one_string_later ((r : Int) + 128) c HCC.out (((Below.refl _ _).drew).trans HBx.out)
          go_simp
          refine hK.out _ _ trivial (fun hHeld => ?_)
          clear hK K
          try simp only [Act.put, List.setIfInBounds_toArray, List.set_cons_zero, List.set_cons_succ]
          refine wpAnyH_take (i := 9) (oi := _) (v := ?_) rfl (by kernel_rfl) (by kernel_rfl) (by kernel_rfl) (fun _ _ _ h => h) (Or.inl ⟨by rfl, ?_⟩) (by assumption) ?_
          rotate_left
          · (intro w hSw; (try dsimp only at hSw); go_simp; (try with_reducible rfl))
          try simp only [Act.put, List.setIfInBounds_toArray, List.set_cons_zero, List.set_cons_succ]
          refine wpAnyH_take (i := 10) (oi := _) (v := ?_) rfl (by kernel_rfl) (by kernel_rfl) (by kernel_rfl) (fun _ _ _ h => h) (Or.inl ⟨by rfl, ?_⟩) (by assumption) ?_
          rotate_left
          · (intro w hSw; (try dsimp only at hSw); go_simp; (try with_reducible rfl))
          try simp only [Act.put, List.setIfInBounds_toArray, List.set_cons_zero, List.set_cons_succ]
          refine wpAnyH_done (by kernel_rfl) ?_ _
          refine NoPanic.normal ?_
          simp only [List.getElem_toArray, List.getElem_cons_succ, List.getElem_cons_zero, List.setIfInBounds_toArray, List.set_cons_zero, List.set_cons_succ]
          go_wp2
          go_ret
          first
            | exact ⟨rfl, Lib.hid (((((Below.refl _ _).drew).trans HBx.out)).alloc HBx.out.size _)⟩
            | exact ⟨rfl, Lib.hid ((((Below.refl _ _).alloc (Nat.le_refl _) _).drew).trans (HBx.out.mono (by simp)))⟩
      · (go_simp)
        go_at_call 21
        refine (IH.out _).mono ?_
        rintro e w1 ⟨rfl, HBx⟩
        go_wp2
        refine hK.out _ _ trivial (fun hHeld => ?_)
        clear hK K
        try simp only [Act.put, List.setIfInBounds_toArray, List.set_cons_zero, List.set_cons_succ]
        refine wpAnyH_ready (rs := [4]) (by kernel_rfl) (by simp) ?_
        refine AllReadyH.cons (o := _) rfl (fun K hK => ?_) (AllReadyH.nil)
        (go_simp)
        refine hK.out _ _ trivial (fun hHeld => ?_)
        clear hK K
        try simp only [Act.put, List.setIfInBounds_toArray, List.set_cons_zero, List.set_cons_succ]
        refine wpAnyH_ready (rs := [5]) (by kernel_rfl) (by simp) ?_
        refine AllReadyH.cons (o := _) rfl (fun K hK => ?_) (AllReadyH.nil)
        try have hcy := one_string_later ((r : Int) + 128) c HCC.out (((Below.refl _ _).drew).trans HBx.out)
        go_simp
        refine hK.out _ _ trivial (fun hHeld => ?_)
        clear hK K
        try simp only [Act.put, List.setIfInBounds_toArray, List.set_cons_zero, List.set_cons_succ]
        refine wpAnyH_take (i := 9) (oi := _) (v := ?_) rfl (by kernel_rfl) (by kernel_rfl) (by kernel_rfl) (fun _ _ _ h => h) (Or.inl ⟨by rfl, ?_⟩) (by assumption) ?_
        rotate_left
        · (intro w hSw; (try dsimp only at hSw); go_simp; (try with_reducible rfl))
        try simp only [Act.put, List.setIfInBounds_toArray, List.set_cons_zero, List.set_cons_succ]
        refine wpAnyH_take (i := 10) (oi := _) (v := ?_) rfl (by kernel_rfl) (by kernel_rfl) (by kernel_rfl) (fun _ _ _ h => h) (Or.inl ⟨by rfl, ?_⟩) (by assumption) ?_
        rotate_left
        · (intro w hSw; (try dsimp only at hSw); go_simp; (try with_reducible rfl))
        try simp only [Act.put, List.setIfInBounds_toArray, List.set_cons_zero, List.set_cons_succ]
        refine wpAnyH_done (by kernel_rfl) ?_ _
        refine NoPanic.normal ?_
        simp only [List.getElem_toArray, List.getElem_cons_succ, List.getElem_cons_zero, List.setIfInBounds_toArray, List.set_cons_zero, List.set_cons_succ]
        go_wp2
        go_ret
        first
          | exact ⟨rfl, Lib.hid (((((Below.refl _ _).drew).trans HBx.out)).alloc HBx.out.size _)⟩
          | exact ⟨rfl, Lib.hid ((((Below.refl _ _).alloc (Nat.le_refl _) _).drew).trans (HBx.out.mono (by simp)))⟩
end Go.Proofs.Ytjokfllldcjheaa.Oc
