/- ask: Path, Far. -/
import Derived.Test.YthnpaiobjmneaaaDoorAx
import Derived.Test.YthnpaiobjmneaaaDoorAu
import Derived.BigQuiet
import Derived.Deep.LoopGhost
namespace Go.Proofs.YthnpaiobjmneaaaDoor.Ak
open Go.RowKit Go.Proofs.YthnpaiobjmneaaaDoor.Ed Go.Proofs.YthnpaiobjmneaaaDoor.Ro Go.Proofs.YthnpaiobjmneaaaDoor.Cs
set_option linter.unusedVariables false
set_option linter.unusedSimpArgs false
/-- a path of n edges, written out -/
structure Pth (t : Int → List Int) (P : List Int) (n : Nat) (a b : Int) : Prop where
  len : P.length = n + 1
  first : P.getD 0 0 = a
  last : P.getD n 0 = b
  step : ∀ j, j < n → P.getD (j + 1) 0 ∈ t (P.getD j 0)
/-- the same, backwards: from the end b so far back tz a -/
structure Bck (t : Int → List Int) (P : List Int) (n : Nat) (a b : Int) : Prop where
  len : P.length = n + 1
  first : P.getD 0 0 = b
  last : P.getD n 0 = a
  step : ∀ j, j < n → P.getD j 0 ∈ t (P.getD (j + 1) 0)
theorem Bck.start (t : Int → List Int) (b : Int) : Bck t [b] 0 b b := ⟨rfl, rfl, rfl, fun j h => by omega⟩
theorem getD_app (P : List Int) (x : Int) (j : Nat) : (P ++ [x]).getD j 0 = if j < P.length then P.getD j 0 else if j = P.length then x else 0 := by
  rw [List.getD_eq_getElem?_getD, List.getD_eq_getElem?_getD, List.getElem?_append]
  by_cases h : j < P.length
  · simp [h]
  · by_cases e : j = P.length
    · subst e; simp
    · have : 0 < j - P.length := by omega
      rw [if_neg h, if_neg h, if_neg e, List.getElem?_eq_none (by simp; omega)]; rfl
theorem Bck.put {t : Int → List Int} {P : List Int} {n : Nat} {a b c : Int} (h : Bck t P n a b) (hc : a ∈ t c) : Bck t (P ++ [c]) (n + 1) c b := by
  obtain ⟨h1, h2, h3, h4⟩ := h
  refine ⟨by simp [h1], by rw [getD_app, if_pos (by omega)]; exact h2, by rw [getD_app, if_neg (by omega), if_pos (by omega)], fun j hj => ?_⟩
  have e0 : (P ++ [c]).getD j 0 = P.getD j 0 := by rw [getD_app, if_pos (by omega)]
  rw [e0]
  by_cases e : j < n
  · have e1 : (P ++ [c]).getD (j + 1) 0 = P.getD (j + 1) 0 := by rw [getD_app, if_pos (by omega)]
    rw [e1]; exact h4 j e
  · obtain rfl : j = n := by omega
    have e1 : (P ++ [c]).getD (j + 1) 0 = c := by rw [getD_app, if_neg (by omega), if_pos (by omega)]
    rw [e1, h3]; exact hc
theorem Bck.turn {t : Int → List Int} {P : List Int} {n : Nat} {a b : Int} (h : Bck t P n a b) : Pth t P.reverse n a b := by
  obtain ⟨h1, h2, h3, h4⟩ := h
  have hr : ∀ j, j ≤ n → P.reverse.getD j 0 = P.getD (n - j) 0 := fun j hj => by
    rw [List.getD_eq_getElem?_getD, List.getD_eq_getElem?_getD, List.getElem?_reverse (by omega), h1, show n + 1 - 1 - j = n - j by omega]
  refine ⟨by simp [h1], by rw [hr 0 (by omega)]; exact h3, by rw [hr n (by omega), Nat.sub_self]; exact h2, fun j hj => ?_⟩
  rw [hr j (by omega), hr (j + 1) (by omega)]
  have := h4 (n - (j + 1)) (by omega)
  rw [show n - (j + 1) + 1 = n - j by omega] at this
  exact this
/-- how far: the distance, or none -/
def FarIs (t : Int → List Int) (a b : Int) : Option Nat → Prop
  | some n => Dst t a b n
  | none => ∀ n, ¬ Wk t n a b
theorem FarIs.one {t : Int → List Int} {a b : Int} : ∀ {r r' : Option Nat}, FarIs t a b r → FarIs t a b r' → r = r'
  | some n, some m, h1, h2 => by rw [Dst.one h1 h2]
  | some n, none, h1, h2 => absurd h1.1 (h2 n)
  | none, some m, h1, h2 => absurd h2.1 (h1 m)
  | none, none, _, _ => rfl
theorem FarIs.turn {t t' : Int → List Int} (ht : ∀ x y, y ∈ t x ↔ x ∈ t' y) {a b : Int} : ∀ {r : Option Nat}, FarIs t a b r → FarIs t' b a r
  | some n, h => Dst.turn ht h
  | none, h => fun n hw => h n (hw.turn fun x y => (ht y x).2)
/-- what Far answers -/
def farV : Option Nat → Value
  | some n => .tuple #[.int .i64 (n : Int), .nilIface]
  | none => .tuple #[.int .i64 0, noV 9]
theorem vm_has {w : World} {mb : Nat} {L : List T3} (h : VM w mb L) {v : Int} (hv : Wa.wfI v) : ∃ z, (Instr.lookup 86 (.map (some mb)) (.int .i64 v) true).run Tryd.prog w = .ok (.tuple #[.int .i64 z, .bool (decide (v ∈ nds L))]) w := by
  obtain ⟨A, T, h1, h2, h3, h4⟩ := h
  have := h1.look_ok v hv
  rw [show decide (v ∈ A) = decide (v ∈ nds L) by rw [decide_eq_decide]; exact h3 v] at this
  exact ⟨_, this⟩
theorem vm_at {w : World} {mb : Nat} {L : List T3} (h : VM w mb L) {k : Nat} (hk : k < L.length) : (Instr.lookup 86 (.map (some mb)) (.int .i64 (nd L k)) false).run Tryd.prog w = .ok (.int .i64 (th L k)) w := by
  obtain ⟨A, T, h1, h2, h3, h4⟩ := h
  have hx := h4 (L[k]) (List.getElem_mem hk)
  have e1 : nd L k = (L[k]).1 := by unfold nd; rw [List.getD_eq_getElem?_getD, List.getElem?_eq_getElem hk]; rfl
  have e2 : th L k = (L[k]).2.2 := by unfold th; rw [List.getD_eq_getElem?_getD, List.getElem?_eq_getElem hk]; rfl
  rw [e2, ← hx, ← e1]
  exact h1.look (nd L k) ((h3 _).2 (nd_mem hk))
section
variable {w : World} {B p bb N : Nat} {tv : Value} {l : List E2}
set_option maxHeartbeats 2000000 in
set_option maxRecDepth 100000 in
theorem path_out (hc : CS w B p bb tv N l) (fr tz : Int) (hf : (fr < 0 ∨ (N : Int) ≤ fr) ∨ (tz < 0 ∨ (N : Int) ≤ tz)) :
    Calls Tryd.prog 39 #[pV p, .int .i64 fr, .int .i64 tz] w fun e w' => e = .returned (.tuple #[.slice none 0 0, noV 2]) ∧ Hid (Below w.heap.size w w') := by
  have HA : Hid (Below w.heap.size w (w.alloc (.cells #[.int .i64 fr, .int .i64 tz] 3))) := Lib.hid ((Below.refl _ _).alloc (Nat.le_refl _) _)
  have HT := Lib.hid (there_out (hc.later HA.out) w.heap.size _ [fr, tz] (JR.lit w [fr, tz] _ rfl 2 rfl (by simp)) (by simp) (by
    rcases hf with hf | hf
    · exact ⟨fr, by simp, hf⟩
    · exact ⟨tz, by simp, hf⟩))
  clear hc hf
  go_enter Tryd.func39, Tryd.ntmps39
  go_wp2_with (go_at_call 51; refine HT.out.mono ?_; rintro e w1 ⟨rfl, rfl⟩)
  go_ret2
  exact ⟨rfl, HA⟩
set_option maxHeartbeats 2000000 in
set_option maxRecDepth 100000 in
theorem path_none (hc : CS w B p bb tv N l) (fr tz : Int) (hf : 0 ≤ fr ∧ fr < (N : Int)) (ht : 0 ≤ tz ∧ tz < (N : Int)) (hn : tz ∉ nds (bfs N (tgt l) 4096 4096 fr)) :
    Calls Tryd.prog 39 #[pV p, .int .i64 fr, .int .i64 tz] w fun e w' => e = .returned (.tuple #[.slice none 0 0, noV 9]) ∧ Hid (Below w.heap.size w w') := by
  have HA : Hid (Below w.heap.size w (w.alloc (.cells #[.int .i64 fr, .int .i64 tz] 3))) := Lib.hid ((Below.refl _ _).alloc (Nat.le_refl _) _)
  have HT := Lib.hid (there_ok (hc.later HA.out) w.heap.size _ [fr, tz] (JR.lit w [fr, tz] _ rfl 2 rfl (by simp)) (by simp) (by
    intro z hz
    rcases List.mem_cons.1 hz with rfl | hz
    · exact hf
    · obtain rfl : z = tz := by simpa using hz
      exact ht))
  have HR := Lib.hid (whole_calls (hc.later HA.out) fr hf)
  have HWF : Hid (Wa.wfI tz) := Lib.hid (by unfold Wa.wfI; have := hc.nodes; omega)
  generalize bfs N (tgt l) 4096 4096 fr = R at HR hn
  have HN := Lib.hid hn
  clear hc hf ht hn
  go_enter Tryd.func39, Tryd.ntmps39
  go_upto_region 5 with (first
    | (go_at_call 51; refine HT.out.mono ?_; rintro e w1 ⟨rfl, rfl⟩)
    | (go_at_call 53; refine HR.out.mono ?_; rintro e w2 ⟨s, rfl, HX⟩))
  obtain ⟨mb, v, hs, hb⟩ := HX.out
  have hblk := hs.blk
  have c2 : w2.cell? ⟨s, 2, none⟩ = some (.map (some mb)) := by simp only [World.cell?, hblk]; rfl
  obtain ⟨z, hlook⟩ := vm_has hs.via HWF.out
  rw [decide_eq_false HN.out] at hlook
  have HB := Lib.hid hb
  clear hs hb hblk HX
  go_wp2
  go_ret2
  exact ⟨rfl, Lib.hid (HA.out.trans (HB.out.mono HA.out.size))⟩
set_option maxHeartbeats 4000000 in
set_option maxRecDepth 100000 in
theorem path_ok (hc : CS w B p bb tv N l) (fr : Int) (hf : 0 ≤ fr ∧ fr < (N : Int)) (k : Nat) (hk : k < (bfs N (tgt l) 4096 4096 fr).length) (hw : Whole N (tgt l) fr (bfs N (tgt l) 4096 4096 fr)) (tz : Int) (hto : nd (bfs N (tgt l) 4096 4096 fr) k = tz) :
    Calls Tryd.prog 39 #[pV p, .int .i64 fr, .int .i64 tz] w fun e w' => ∃ v P, e = .returned (.tuple #[v, .nilIface]) ∧ Hid (OJ w' w.heap.size v P ∧ Pth (tgt l) P (tf (bfs N (tgt l) 4096 4096 fr) k).toNat fr tz) ∧ Hid (Below w.heap.size w w') := by
  have HA : Hid (Below w.heap.size w (w.alloc (.cells #[.int .i64 fr, .int .i64 tz] 3))) := Lib.hid ((Below.refl _ _).alloc (Nat.le_refl _) _)
  have ht : 0 ≤ tz ∧ tz < (N : Int) := by
    have := (hw.inn _ (List.getElem_mem hk)).1
    rw [← hto]; unfold nd
    rw [List.getD_eq_getElem?_getD, List.getElem?_eq_getElem hk]; exact this
  have HT := Lib.hid (there_ok (hc.later HA.out) w.heap.size _ [fr, tz] (JR.lit w [fr, tz] _ rfl 2 rfl (by simp)) (by simp) (by
    intro z hz
    rcases List.mem_cons.1 hz with rfl | hz
    · exact hf
    · obtain rfl : z = tz := by simpa using hz
      exact ht))
  have HR := Lib.hid (whole_calls (hc.later HA.out) fr hf)
  have HNN : Hid (N ≤ 4096) := Lib.hid hc.nodes
  have HWF : Hid (Wa.wfI tz) := Lib.hid (by unfold Wa.wfI; have := hc.nodes; omega)
  generalize tgt l = t at *
  generalize bfs N t 4096 4096 fr = R at *
  have HW := Lib.hid hw
  have HK := Lib.hid hk
  have HTO := Lib.hid hto
  have HMEM : Hid (tz ∈ nds R) := Lib.hid (by rw [← hto]; exact nd_mem hk)
  have hk60 : k ≤ 4096 := by have := hw.len; have := hc.nodes; omega
  obtain ⟨D, hD⟩ : ∃ D, (tf R k).toNat = D := ⟨_, rfl⟩
  rw [hD]
  have HD := Lib.hid hD
  clear hc hf ht hk hw hto hD
  go_enter Tryd.func39, Tryd.ntmps39
  go_upto_region 5 with (first
    | (go_at_call 51; refine HT.out.mono ?_; rintro e w1 ⟨rfl, rfl⟩)
    | (go_at_call 53; refine HR.out.mono ?_; rintro e w2 ⟨s, rfl, HX⟩))
  obtain ⟨mb, v, hs, hb⟩ := HX.out
  have hblk := hs.blk
  have c2 : w2.cell? ⟨s, 2, none⟩ = some (.map (some mb)) := by simp only [World.cell?, hblk]; rfl
  obtain ⟨z, hlook⟩ := vm_has hs.via HWF.out
  rw [decide_eq_true HMEM.out] at hlook
  have HB := Lib.hid (HA.out.trans (hb.mono HA.out.size))
  have HS : Hid (∀ W, Below w2.heap.size w2 W → W.cell? ⟨s, 2, none⟩ = some (.map (some mb)) ∧ VM W mb R) := Lib.hid (fun W h => by
    have h2 := hs.later h
    have hb2 := h2.blk
    exact ⟨by simp only [World.cell?, hb2]; rfl, h2.via⟩)
  clear hs hb hblk HX HT HR HA HMEM
  go_upto_region 9 with (fail)
  have HO0 : Hid (OJ (w2.alloc (.cells #[.int .i64 tz] 3)) w2.heap.size (.slice (some ⟨w2.heap.size, 0, none⟩) 1 1) [tz]) := Lib.hid (World.ownsRow_lit w2 #[.int .i64 tz] 1 (Nat.le_refl _) (by simp only [maxLen]; omega) rfl)
  have HB0 : Hid (Below w2.heap.size w2 (w2.alloc (.cells #[.int .i64 tz] 3))) := Lib.hid ((Below.refl _ _).alloc (Nat.le_refl _) _)
  have HP0 := Lib.hid (Bck.start t tz)
  clear hlook c2
  go_loopg [2, 12] k (fun i x u wz => ∃ (n : Nat) (P : List Int), x = .int .i64 (nd R i) ∧ i ≤ k ∧ Hid (i < R.length ∧ n + (tf R i).toNat = D ∧ n + i ≤ k) ∧ Hid (Bck t P n (nd R i) tz) ∧ Hid (OJ wz w2.heap.size u P) ∧ Hid (Below w2.heap.size w2 wz))
  case atStart => exact ⟨0, [tz], by rw [HTO.out], Nat.le_refl _, Lib.hid ⟨HK.out, by rw [HD.out]; omega, by omega⟩, Lib.hid (by rw [HTO.out]; exact HP0.out), HO0, HB0⟩
  case round =>
    clear HO0 HB0 HP0
    rename Nat => i
    obtain ⟨n, P, rfl, hi, HI, HP, HO, HB2⟩ := hrel
    obtain ⟨c2, hvm⟩ := HS.out _ HB2.out
    obtain ⟨uA, uc, rfl, -⟩ := id HO.out.shape
    have HOB := Lib.hid HO.out.base
    have hb2 := HB2.out.size
    have HPL := Lib.hid HP.out.len
    obtain ⟨pn, hpn⟩ : ∃ pn, P.length = pn := ⟨_, rfl⟩
    rw [hpn] at HO HOB ⊢
    have HPN : Hid (P.length ≤ 5000) := Lib.hid (by have := HI.out.2.2; rw [HPL.out]; omega)
    by_cases hi0 : i = 0
    · subst hi0
      have hz : nd R 0 = fr := HW.out.v.zero.1
      have HDN : Hid (n = D) := Lib.hid (by have := HI.out.2.1; rw [HW.out.v.zero.2] at this; simpa using this)
      rw [hz] at HP ⊢
      have hb : (fr != fr) = false := by simp
      clear hvm c2 hz hpn
      go_wp2_with (go_at_call 60; refine (irev_calls w2.heap.size _ P _ HO.out (by have := HPN.out; omega)).mono ?_; rintro e w4 ⟨rfl, HO4, HG4⟩)
      go_ret2
      refine ⟨_, P.reverse, rfl, Lib.hid ⟨HO4.out.mono HB.out.size, ?_⟩, Lib.hid (HB.out.trans ((HB2.out.grown HG4.out hb2 HOB.out).mono HB.out.size))⟩
      have := HP.out.turn
      rw [HDN.out] at this
      exact this
    · obtain ⟨j, j1, j2, j3, j4⟩ := HW.out.v.via i (by omega) HI.out.1
      have hlook := vm_at hvm HI.out.1
      rw [← j2] at hlook
      have hne : nd R i ≠ fr := fun e => hi0 (nd_one HW.out.nodup HI.out.1 HW.out.pos (e.trans HW.out.v.zero.1.symm))
      have HP2 := Lib.hid (HP.out.put j4)
      have HI2 : Hid (j < R.length ∧ n + 1 + (tf R j).toNat = D ∧ n + 1 + j ≤ k) := Lib.hid (by
        have := HI.out
        have c1 := (HW.out.cap j (by omega)).1
        exact ⟨by omega, by omega, by omega⟩)
      obtain ⟨x, hx⟩ : ∃ x, nd R i = x := ⟨_, rfl⟩
      obtain ⟨y, hy⟩ : ∃ y, nd R j = y := ⟨_, rfl⟩
      rw [hx] at hlook hne ⊢
      rw [hy] at hlook HP2
      have HY := Lib.hid hy
      have hb : (x != fr) = true := by simpa using hne
      clear hvm j2 j3 j4 hne hx hy HP HI hpn
      go_wp2_with (at_builtin; refine OJ.app_on (base := w2.heap.size) (HO.out.alloc _) (JR.lit _ [y] _ rfl 1 rfl (by simp)) rfl _ _ rfl rfl rfl (by simp; omega) (by have := HPN.out; simp only [List.length_cons, List.length_nil]; omega) ?_; intro v1 w3 k1 k2 k3; have K1 := Lib.hid k1; have K2 := Lib.hid k2; clear k1 k2 k3)
      go_roundg j
      case measure => omega
      case rel => exact ⟨n + 1, P ++ [y], by rw [HY.out], by omega, HI2, Lib.hid (by rw [HY.out]; exact HP2.out), K1, Lib.hid ((HB2.out.alloc hb2 _).grown K2.out (by simp; omega) HOB.out)⟩
set_option maxHeartbeats 2000000 in
set_option maxRecDepth 100000 in
theorem far_out (hc : CS w B p bb tv N l) (fr tz : Int) (hf : (fr < 0 ∨ (N : Int) ≤ fr) ∨ (tz < 0 ∨ (N : Int) ≤ tz)) :
    Calls Tryd.prog 38 #[pV p, .int .i64 fr, .int .i64 tz] w fun e w' => e = .returned (.tuple #[.int .i64 0, noV 2]) ∧ Hid (Below w.heap.size w w') := by
  have HP := Lib.hid (path_out hc fr tz hf)
  clear hc hf
  go_enter Tryd.func38, Tryd.ntmps38
  go_wp2_with (go_at_call 39; refine HP.out.mono ?_; rintro e w1 ⟨rfl, HB⟩)
  go_ret2
  exact ⟨rfl, HB⟩
/-- Path, of nodes that are -/
theorem path_is (hc : CS w B p bb tv N l) (hN : N ≤ 60) (fr tz : Int) (hf : 0 ≤ fr ∧ fr < (N : Int)) (ht : 0 ≤ tz ∧ tz < (N : Int)) :
    (∃ n, FarIs (tgt l) fr tz (some n) ∧ Calls Tryd.prog 39 #[pV p, .int .i64 fr, .int .i64 tz] w fun e w' => ∃ v P, e = .returned (.tuple #[v, .nilIface]) ∧ Hid (OJ w' w.heap.size v P ∧ Pth (tgt l) P n fr tz) ∧ Hid (Below w.heap.size w w')) ∨
    (FarIs (tgt l) fr tz none ∧ Calls Tryd.prog 39 #[pV p, .int .i64 fr, .int .i64 tz] w fun e w' => e = .returned (.tuple #[.slice none 0 0, noV 9]) ∧ Hid (Below w.heap.size w w')) := by
  have hok : ∀ v : Int, 0 ≤ v ∧ v < (N : Int) → ∀ x ∈ tgt l v, 0 ≤ x ∧ x < (N : Int) := fun v hv x hx => by have := hc.ok _ (mem_tgt.1 hx); unfold okE at this; exact ⟨this.2.1, this.2.2.2⟩
  have hw := bfs_whole (d := 4096) (m := 4096) hok hf (by omega) (by omega)
  by_cases hm : tz ∈ nds (bfs N (tgt l) 4096 4096 fr)
  · obtain ⟨k, hk, e⟩ := mem_nd hm
    have hd := hw.dst hk
    rw [e] at hd
    exact .inl ⟨_, hd, path_ok hc fr hf k hk hw tz e⟩
  · exact .inr ⟨fun n => hw.none hm n, path_none hc fr tz hf ht hm⟩
set_option maxHeartbeats 2000000 in
set_option maxRecDepth 100000 in
theorem far_is (hc : CS w B p bb tv N l) (hN : N ≤ 60) (fr tz : Int) (hf : 0 ≤ fr ∧ fr < (N : Int)) (ht : 0 ≤ tz ∧ tz < (N : Int)) :
    ∃ r, FarIs (tgt l) fr tz r ∧ Calls Tryd.prog 38 #[pV p, .int .i64 fr, .int .i64 tz] w fun e w' => e = .returned (farV r) ∧ Hid (Below w.heap.size w w') := by
  rcases path_is hc hN fr tz hf ht with ⟨n, h1, h2⟩ | ⟨h1, h2⟩
  · refine ⟨some n, h1, ?_⟩
    have HP := Lib.hid h2
    have hn60 : n < 1000000 := by
      have hok : ∀ v : Int, 0 ≤ v ∧ v < (N : Int) → ∀ x ∈ tgt l v, 0 ≤ x ∧ x < (N : Int) := fun v hv x hx => by have := hc.ok _ (mem_tgt.1 hx); unfold okE at this; exact ⟨this.2.1, this.2.2.2⟩
      have hw := bfs_whole (d := 4096) (m := 4096) hok hf (by omega) (by omega)
      obtain ⟨k, k1, k2, k3⟩ := hw.has h1.1
      have hd := hw.dst k1
      rw [k2] at hd
      have := Dst.one h1 hd
      have := (hw.cap k k1).2
      have := hw.len
      omega
    generalize tgt l = t at HP
    clear hc hf ht h1 h2
    unfold farV
    go_enter Tryd.func38, Tryd.ntmps38
    go_wp2_with (go_at_call 39; refine HP.out.mono ?_; rintro e w1 ⟨v, P, rfl, HO, HB⟩; obtain ⟨A, c, hv, -⟩ := id HO.out.1.shape; rw [HO.out.2.len] at hv; subst hv)
    go_ret2
    first | exact ⟨by go_num, HB⟩ | exact ⟨rfl, HB⟩ | exact ⟨by simp, HB⟩
  · refine ⟨none, h1, ?_⟩
    have HP := Lib.hid h2
    clear hc hf ht h1 h2
    unfold farV
    go_enter Tryd.func38, Tryd.ntmps38
    go_wp2_with (go_at_call 39; refine HP.out.mono ?_; rintro e w1 ⟨rfl, HB⟩)
    go_ret2
    exact ⟨rfl, HB⟩
end
end Go.Proofs.YthnpaiobjmneaaaDoor.Ak
