/- ask: there, Search, built, awake. -/
import Derived.Test.YthnpaiobjmneaaaDoorAs
namespace Go.Proofs.YthnpaiobjmneaaaDoor.Ak
open Go.RowKit Go.Proofs.YthnpaiobjmneaaaDoor.Ed Go.Proofs.YthnpaiobjmneaaaDoor.Ro Go.Proofs.YthnpaiobjmneaaaDoor.Cs
set_option linter.unusedVariables false
set_option linter.unusedSimpArgs false

section
variable {w : World} {B p bb N : Nat} {tv : Value} {l : List E2}
set_option maxHeartbeats 2000000 in
set_option maxRecDepth 100000 in
theorem there_ok (hc : CS w B p bb tv N l) (g : Nat) (v : Value) (zs : List Int) (hj : JR w g v zs) (hl : zs.length ≤ 1000) (hz : ∀ z ∈ zs, 0 ≤ z ∧ z < (N : Int)) :
    Calls Tryd.prog 51 #[pV p, v] w fun e w' => e = .returned .nilIface ∧ w = w' := by
  have HC := Lib.hid hc
  have HZ := Lib.hid hz
  obtain ⟨A, c, o, rfl, hc1, hc2, hrd⟩ := hj
  obtain ⟨n, hn⟩ : ∃ n, zs.length = n := ⟨_, rfl⟩
  rw [hn] at hrd hl hc1 ⊢
  have HN := Lib.hid hn
  have HR := Lib.hid hrd
  clear hc hz hn hrd
  go_enter Tryd.func51, Tryd.ntmps51
  go_upto_region 4 with (fail)
  go_loopw [12] (fun x wz => ∃ (k : Nat), x = .int .i64 (k : Int) ∧ k ≤ n ∧ wz = w) (fun x _ => n - (intOf x).toNat)
  case atStart => exact ⟨0, rfl, Nat.zero_le _, rfl⟩
  case round =>
    obtain ⟨k, rfl, hk, hwz⟩ := hrel
    subst hwz
    by_cases hlt : k < n
    · obtain ⟨rfl, -, hcell⟩ := HR.out (by omega)
      have q := hcell k hlt
      obtain ⟨z0, z1⟩ := HZ.out (zs.getD k 0) (by rw [List.getD_eq_getElem?_getD, List.getElem?_eq_getElem (by rw [HN.out]; exact hlt)]; exact List.getElem_mem _)
      obtain ⟨x, hx⟩ : ∃ x, zs.getD k 0 = x := ⟨_, rfl⟩
      rw [hx] at q z0 z1
      have i0 : (0 : Int) ≤ (k : Int) := by omega
      have i1 : (k : Int) < (n : Int) := by omega
      have b1 : ¬ x < 0 := by omega
      have b2 : ¬ x ≥ (N : Int) := by omega
      clear hcell hx
      go_wp2_with (go_at_call 25; refine (nodes_calls HC.out).mono ?_; rintro e w1 ⟨rfl, hw1⟩; subst hw1)
      go_roundw
      case rel => exact ⟨k + 1, by go_num, by omega, trivial⟩
      case measure => simp [intOf]; omega
    · go_wp2
      go_ret
      exact ⟨rfl, rfl⟩
set_option maxHeartbeats 2000000 in
set_option maxRecDepth 100000 in
theorem there_out (hc : CS w B p bb tv N l) (g : Nat) (v : Value) (zs : List Int) (hj : JR w g v zs) (hl : zs.length ≤ 1000) (hz : ∃ z ∈ zs, z < 0 ∨ (N : Int) ≤ z) :
    Calls Tryd.prog 51 #[pV p, v] w fun e w' => e = .returned (noV 2) ∧ w = w' := by
  have HC := Lib.hid hc
  have HZ : Hid (∃ j, j < zs.length ∧ (zs.getD j 0 < 0 ∨ (N : Int) ≤ zs.getD j 0)) := Lib.hid (by
    obtain ⟨z, hm, hz⟩ := hz
    obtain ⟨j, hj, e⟩ := List.getElem_of_mem hm
    exact ⟨j, hj, by rw [List.getD_eq_getElem?_getD, List.getElem?_eq_getElem hj]; simpa [e] using hz⟩)
  obtain ⟨A, c, o, rfl, hc1, hc2, hrd⟩ := hj
  obtain ⟨n, hn⟩ : ∃ n, zs.length = n := ⟨_, rfl⟩
  rw [hn] at hrd hl hc1 HZ ⊢
  have HR := Lib.hid hrd
  clear hc hz hn hrd
  go_enter Tryd.func51, Tryd.ntmps51
  go_upto_region 4 with (fail)
  go_loopw [12] (fun x wz => ∃ (k : Nat), x = .int .i64 (k : Int) ∧ k ≤ n ∧ Hid (∀ j, j < k → 0 ≤ zs.getD j 0 ∧ zs.getD j 0 < (N : Int)) ∧ wz = w) (fun x _ => n - (intOf x).toNat)
  case atStart => exact ⟨0, rfl, Nat.zero_le _, Lib.hid (fun j hj => by omega), rfl⟩
  case round =>
    obtain ⟨k, rfl, hk, HK, hwz⟩ := hrel
    subst hwz
    by_cases hlt : k < n
    · obtain ⟨rfl, -, hcell⟩ := HR.out (by omega)
      have q := hcell k hlt
      obtain ⟨x, hx⟩ : ∃ x, zs.getD k 0 = x := ⟨_, rfl⟩
      rw [hx] at q
      have HX := Lib.hid hx
      have i0 : (0 : Int) ≤ (k : Int) := by omega
      have i1 : (k : Int) < (n : Int) := by omega
      clear hcell hx
      by_cases b1 : x < 0
      · go_wp2_with (go_at_call 25; refine (nodes_calls HC.out).mono ?_; rintro e w1 ⟨rfl, hw1⟩; subst hw1)
        go_ret
        exact ⟨rfl, rfl⟩
      · by_cases b2 : x ≥ (N : Int)
        · go_wp2_with (go_at_call 25; refine (nodes_calls HC.out).mono ?_; rintro e w1 ⟨rfl, hw1⟩; subst hw1)
          go_ret
          exact ⟨rfl, rfl⟩
        · have HB : Hid (0 ≤ x ∧ x < (N : Int)) := Lib.hid (by omega)
          go_wp2_with (go_at_call 25; refine (nodes_calls HC.out).mono ?_; rintro e w1 ⟨rfl, hw1⟩; subst hw1)
          go_roundw
          case rel => exact ⟨k + 1, by go_num, by omega, Lib.hid (fun j hj => by
            by_cases e : j = k
            · subst e; rw [HX.out]; exact HB.out
            · exact HK.out j (by omega)), trivial⟩
          case measure => simp [intOf]; omega
    · exfalso
      obtain ⟨j, hj, hz⟩ := HZ.out
      have := HK.out j (by omega)
      omega
set_option maxHeartbeats 1000000 in
theorem there_nil (v : Value) (w : World) : Calls Tryd.prog 51 #[.pointer none, v] w fun e w' => e = .returned (noV 1) ∧ w = w' := by
  go_enter Tryd.func51, Tryd.ntmps51
  go_wp2
  go_ret
  exact ⟨rfl, rfl⟩
set_option maxHeartbeats 2000000 in
set_option maxRecDepth 100000 in
theorem search_arg (pv : Value) (fr d m : Int) (h : d < 0 ∨ m < 1) (w : World) : Calls Tryd.prog 20 #[pv, .int .i64 fr, .int .i64 d, .int .i64 m] w fun e w' => e = .returned (.tuple #[.slice none 0 0, noV 1]) ∧ w = w' := by
  by_cases hd : d < 0
  · go_enter Tryd.func20, Tryd.ntmps20
    go_wp2
    go_ret2
    exact ⟨rfl, rfl⟩
  · have hm : m < 1 := by omega
    go_enter Tryd.func20, Tryd.ntmps20
    go_wp2
    go_ret2
    exact ⟨rfl, rfl⟩
set_option maxHeartbeats 2000000 in
set_option maxRecDepth 100000 in
theorem search_out (hc : CS w B p bb tv N l) (fr d m : Int) (hd : 0 ≤ d) (hm : 1 ≤ m) (hf : fr < 0 ∨ (N : Int) ≤ fr) :
    Calls Tryd.prog 20 #[pV p, .int .i64 fr, .int .i64 d, .int .i64 m] w fun e w' => e = .returned (.tuple #[.slice none 0 0, noV 2]) ∧ Hid (Below w.heap.size w w') := by
  have b1 : ¬ d < 0 := by omega
  have b2 : ¬ m < 1 := by omega
  have HA : Hid (Below w.heap.size w (w.alloc (.cells #[.int .i64 fr] 3))) := Lib.hid ((Below.refl _ _).alloc (Nat.le_refl _) _)
  have HT := Lib.hid (there_out (hc.later HA.out) w.heap.size _ [fr] (JR.lit w [fr] _ rfl 1 rfl (by simp)) (by simp) ⟨fr, by simp, hf⟩)
  clear hc hf
  go_enter Tryd.func20, Tryd.ntmps20
  go_wp2_with (go_at_call 51; refine HT.out.mono ?_; rintro e w1 ⟨rfl, rfl⟩)
  go_ret2
  exact ⟨rfl, HA⟩
set_option maxHeartbeats 2000000 in
set_option maxRecDepth 100000 in
theorem search_ok (hc : CS w B p bb tv N l) (fr d m : Int) (hd : 0 ≤ d) (hm : 1 ≤ m) (hf : 0 ≤ fr ∧ fr < (N : Int)) :
    Calls Tryd.prog 20 #[pV p, .int .i64 fr, .int .i64 d, .int .i64 m] w fun e w' => ∃ v, e = .returned (.tuple #[v, .nilIface]) ∧ Hid (MO w' w.heap.size v (mts (bfs N (tgt l) d m fr))) ∧ Hid (Below w.heap.size w w') := by
  have b1 : ¬ d < 0 := by omega
  have b2 : ¬ m < 1 := by omega
  have HA : Hid (Below w.heap.size w (w.alloc (.cells #[.int .i64 fr] 3))) := Lib.hid ((Below.refl _ _).alloc (Nat.le_refl _) _)
  have HT := Lib.hid (there_ok (hc.later HA.out) w.heap.size _ [fr] (JR.lit w [fr] _ rfl 1 rfl (by simp)) (by simp) (by simpa using hf))
  have HR := Lib.hid (run_calls (hc.later HA.out) fr d m hf hd hm)
  generalize bfs N (tgt l) d m fr = R at HR ⊢
  clear hc hf
  go_enter Tryd.func20, Tryd.ntmps20
  go_wp2_with (first
    | (go_at_call 51; refine HT.out.mono ?_; rintro e w1 ⟨rfl, rfl⟩)
    | (go_at_call 52; refine HR.out.mono ?_; rintro e w2 ⟨s, rfl, HX⟩; obtain ⟨mb, v, hs, hb⟩ := HX.out; obtain ⟨A, c, hv, -, -⟩ := id hs.row.shape; obtain ⟨n, hn⟩ : ∃ n, (mts R).length = n := ⟨_, rfl⟩; rw [hn] at hv; subst hv; have hblk := hs.blk; have c1 : w2.cell? ⟨s, 1, none⟩ = some (.slice A n c) := (by simp only [World.cell?, hblk]; rfl); have HS := Lib.hid hs.row; have HB := Lib.hid hb; clear hs hb hn hblk))
  go_ret2
  exact ⟨_, rfl, Lib.hid (HS.out.mono HA.out.size), Lib.hid (HA.out.trans (HB.out.mono HA.out.size))⟩
end
set_option maxHeartbeats 2000000 in
set_option maxRecDepth 100000 in
theorem built_many (n : Int) (g : Nat) (v : Value) (l : List E2) (w : World) (h : ER w g v l) (hl : 120 < l.length ∨ 60 < n) :
    Calls Tryd.prog 19 #[.int .i64 n, v] w fun e w' => e = .returned (.pointer none) ∧ Hid (Below w.heap.size w w') := by
  obtain ⟨A, c, rfl, -⟩ := er_form h
  obtain ⟨len, hlen⟩ : ∃ len, l.length = len := ⟨_, rfl⟩
  rw [hlen] at hl ⊢
  clear h hlen
  by_cases h1 : 120 < len
  · have b1 : (len : Int) > 120 := by omega
    go_enter Tryd.func19, Tryd.ntmps19
    go_wp2
    go_ret
    exact ⟨rfl, Lib.hid (Below.refl _ _)⟩
  · have b1 : ¬ (len : Int) > 120 := by omega
    have b2 : n > 60 := by omega
    go_enter Tryd.func19, Tryd.ntmps19
    go_wp2
    go_ret
    exact ⟨rfl, Lib.hid (Below.refl _ _)⟩
set_option maxHeartbeats 2000000 in
set_option maxRecDepth 100000 in
theorem built_bad (n : Int) (g : Nat) (v : Value) (l : List E2) (w : World) (h : ER w g v l) (hl : l.length ≤ 120) (hn : n ≤ 60) (hw : wrg n l ≠ -2) :
    Calls Tryd.prog 19 #[.int .i64 n, v] w fun e w' => e = .returned (.pointer none) ∧ Hid (Below w.heap.size w w') := by
  have HK := Lib.hid (build_bad n g v l w h (by omega) hw)
  obtain ⟨a, ha⟩ : ∃ a, wrg n l = a := ⟨_, rfl⟩
  rw [ha] at HK
  obtain ⟨A, c, rfl, -⟩ := er_form h
  obtain ⟨len, hlen⟩ : ∃ len, l.length = len := ⟨_, rfl⟩
  rw [hlen] at hl HK ⊢
  have b1 : ¬ (len : Int) > 120 := by omega
  have b2 : ¬ n > 60 := by omega
  clear h hlen ha hw
  go_enter Tryd.func19, Tryd.ntmps19
  go_wp2_with (go_at_call 24; refine HK.out.mono ?_; unfold errV; rintro e w1 ⟨rfl, HB⟩)
  go_ret
  exact ⟨rfl, HB⟩
set_option maxHeartbeats 2000000 in
set_option maxRecDepth 100000 in
theorem built_ok (N g : Nat) (v : Value) (l : List E2) (w : World) (h : ER w g v l) (hl : l.length ≤ 120) (hn : N ≤ 60) (hw : wrg (N : Int) l = -2) :
    Calls Tryd.prog 19 #[.int .i64 (N : Int), v] w fun e w' => ∃ p bb tv, e = .returned (pV p) ∧ Hid (CS w' w.heap.size p bb tv N (nrm l)) ∧ Hid (Below w.heap.size w w') := by
  have HK := Lib.hid (build_ok N g v l w h (by omega) hw)
  generalize nrm l = l' at HK ⊢
  obtain ⟨A, c, rfl, -⟩ := er_form h
  obtain ⟨len, hlen⟩ : ∃ len, l.length = len := ⟨_, rfl⟩
  rw [hlen] at hl HK ⊢
  have b1 : ¬ (len : Int) > 120 := by omega
  have b2 : ¬ (N : Int) > 60 := by omega
  clear h hlen hw
  go_enter Tryd.func19, Tryd.ntmps19
  go_wp2_with (go_at_call 24; refine HK.out.mono ?_; rintro e w1 ⟨p, bb, tv, rfl, HC, HB⟩)
  go_ret
  exact ⟨p, bb, tv, rfl, HC, HB⟩
theorem aw_wrg : wrg ((3 : Nat) : Int) [(0, 1), (1, 2), (0, 2)] = -2 := by decide
theorem aw_nrm : nrm [(0, 1), (1, 2), (0, 2)] = [(0, 1), (0, 2), (1, 2)] := by decide
theorem aw_bfs : mts (bfs 3 (tgt [(0, 1), (0, 2), (1, 2)]) 9 9 0) = [(0, 0), (1, 1), (2, 1)] := by decide
set_option maxHeartbeats 2000000 in
set_option maxRecDepth 100000 in
theorem awake_calls (w : World) : Calls Tryd.prog 18 #[] w fun e w' => e = .returned (.bool true) ∧ Hid (Below w.heap.size w w') := by
  have HJ : Hid (ER (w.alloc (.cells #[.int .i64 0, .int .i64 1, .int .i64 1, .int .i64 2, .int .i64 0, .int .i64 2] 67)) w.heap.size (.slice (some ⟨w.heap.size, 0, none⟩) 3 3) [(0, 1), (1, 2), (0, 2)]) := Lib.hid (ER.lit w [(0, 1), (1, 2), (0, 2)] _ rfl 3 rfl (by simp))
  have HI : Hid (∀ W : World, MR (W.alloc (.cells #[.int .i64 0, .int .i64 0, .int .i64 1, .int .i64 1, .int .i64 2, .int .i64 1] 47)) W.heap.size (.slice (some ⟨W.heap.size, 0, none⟩) 3 3) [(0, 0), (1, 1), (2, 1)]) := Lib.hid (fun W => MR.lit W [(0, 0), (1, 1), (2, 1)] _ rfl 3 rfl (by simp))
  have HB0 := Lib.hid (build_ok 3 _ _ _ _ HJ.out (by simp) aw_wrg)
  rw [aw_nrm] at HB0
  have HT0 := Lib.hid (fun W p bb tv B (h : CS W B p bb tv 3 [(0, 1), (0, 2), (1, 2)]) => search_ok h 0 9 9 (by omega) (by omega) (by omega))
  rw [aw_bfs] at HT0
  go_enter Tryd.func18, Tryd.ntmps18
  go_wp2_with (first
    | (go_at_call 24; refine HB0.out.mono ?_; rintro e w1 ⟨p, bb, tv, rfl, HC, HB⟩)
    | (go_at_call 20; refine (HT0.out _ _ _ _ _ HC.out).mono ?_; rintro e w2 ⟨v2, rfl, HO, HB2⟩; obtain ⟨A2, c2, rfl, -, -⟩ := id HO.out.shape)
    | (go_at_call 50; refine (same_calls HO.out.reads.choose w2.heap.size _ _ _ _ _ (HO.out.reads.choose_spec.1.later ((Below.refl _ _).alloc (Nat.le_refl _) _)) (HI.out _)).mono ?_; rintro e w3 ⟨rfl, q, rfl⟩))
  go_ret
  refine ⟨rfl, Lib.hid ?_⟩
  have h1 := ((Below.refl _ w).alloc (Nat.le_refl _) _).trans (HB.out.mono (by simp))
  have h2 := h1.trans (HB2.out.mono h1.size)
  have h3 := h2.alloc h2.size (.cells #[.int .i64 0, .int .i64 0, .int .i64 1, .int .i64 1, .int .i64 2, .int .i64 1] 47)
  exact h3.trans ((Ed.drewN_below _ _ _).mono h3.size)
end Go.Proofs.YthnpaiobjmneaaaDoor.Ak
