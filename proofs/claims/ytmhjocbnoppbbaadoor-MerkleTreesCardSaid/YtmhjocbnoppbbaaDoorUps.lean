/- The law MerkleUps: the reference's Steps, the law's own up. -/
import Derived.Test.YtmhjocbnoppbbaaDoorUp
import Derived.Test.YtmhjocbnoppbbaaDoorSame
import Derived.Test.YtmhjocbnoppbbaaDoorPairs
namespace Go.Proofs.YtmhjocbnoppbbaaDoor.Mk
open Go.RowKit Go.Proofs.YtmhjocbnoppbbaaDoor.Sha
set_option linter.unusedVariables false
set_option linter.unusedSimpArgs false

/-! ### plain facts -/
theorem upN_cons (b : Bool) (bs : List Bool) (leaf : ByteArray) (ps : List ByteArray) : ∀ k, k ≤ bs.length → upN (b :: bs) leaf ps k = upN bs leaf ps k := by
  intro k
  induction k with
  | zero => intro _; rfl
  | succ k ih =>
    intro h
    have e : (b :: bs).getD ((b :: bs).length - 1 - k) false = bs.getD (bs.length - 1 - k) false := by
      rw [List.length_cons, show bs.length + 1 - 1 - k = (bs.length - 1 - k) + 1 by omega]
      rfl
    unfold upN
    rw [e, ih (by omega)]
theorem upN_top (b : Bool) (bs : List Bool) (leaf : ByteArray) (ps : List ByteArray) : upN (b :: bs) leaf ps (bs.length + 1) =
    if b = true then nodeD (upN bs leaf ps bs.length) (ps.getD bs.length ByteArray.empty) else nodeD (ps.getD bs.length ByteArray.empty) (upN bs leaf ps bs.length) := by
  rw [upN, upN_cons _ _ _ _ _ (Nat.le_refl _), List.length_cons, show bs.length + 1 - 1 - bs.length = 0 by omega]
  rfl
theorem upN_take (bs : List Bool) (leaf : ByteArray) (ps : List ByteArray) (m : Nat) : ∀ k, k ≤ m → upN bs leaf (ps.take m) k = upN bs leaf ps k := by
  intro k
  induction k with
  | zero => intro _; rfl
  | succ k ih =>
    intro h
    have e : (ps.take m).getD k ByteArray.empty = ps.getD k ByteArray.empty := by simp [List.getD_eq_getElem?_getD, List.getElem?_take_of_lt (show k < m by omega)]
    unfold upN
    rw [e, ih (by omega)]

set_option maxHeartbeats 2000000 in
set_option maxRecDepth 100000 in
/-- the reference's Steps -/
theorem rsteps_calls (n : Nat) : ∀ (i : Nat) (w : World), i < n → n ≤ 1048576 →
    Calls Tryd.prog 28 #[.int .i64 (i : Int), .int .i64 (n : Int)] w fun e w' => e = .returned (.int .i64 (((sidesB i n).length : Nat) : Int)) ∧ Hid (Below w.heap.size w w') := by
  induction n using Nat.strongRecOn with
  | _ n ih =>
    intro i w hi hn
    by_cases h2 : n ≤ 1
    · have e : (sidesB i n).length = 0 := by rw [sidesB_one _ _ h2]; rfl
      rw [e]
      have k2 : (n : Int) < 2 := by omega
      clear ih e
      go_enter Tryd.func28, Tryd.ntmps28
      go_wp2
      go_ret
      exact ⟨rfl, Lib.hid (Below.refl _ _)⟩
    · have k2 : ¬ (n : Int) < 2 := by omega
      have hl := hb_lt (n := n) (by omega)
      have hp := hb_pos n
      have hh := half_calls n w (by omega) (by omega)
      by_cases hc : i < hb n
      · have e : (sidesB i n).length = 1 + (sidesB i (hb n)).length := by rw [sidesB_left _ _ (by omega) hc, List.length_cons]; omega
        have hr := fun W => ih (hb n) hl i W hc (by omega)
        have hb2 := sidesB_length (hb n) i
        rw [e]
        generalize (sidesB i (hb n)).length = L at hr hb2 ⊢
        generalize hb n = k at *
        have HH := Lib.hid hh
        have HR := Lib.hid hr
        have c1 : (i : Int) < (k : Int) := by omega
        have c2 : (L : Int) ≤ 1048576 := by omega
        have c3 : (0 : Int) ≤ (L : Int) := by omega
        clear ih hh hr hc e
        go_enter Tryd.func28, Tryd.ntmps28
        go_wp2_with (first
          | (go_at_call 46; refine HH.out.mono ?_; rintro e w1 ⟨rfl, HB1⟩)
          | (go_at_call 28; refine (HR.out _).mono ?_; rintro e w2 ⟨rfl, HB2⟩))
        go_ret
        exact ⟨by congr 2, Lib.hid (HB1.out.trans (HB2.out.mono HB1.out.size))⟩
      · have e : (sidesB i n).length = 1 + (sidesB (i - hb n) (n - hb n)).length := by rw [sidesB_right _ _ (by omega) hc, List.length_cons]; omega
        have hr := fun W => ih (n - hb n) (by omega) (i - hb n) W (by omega) (by omega)
        have hb2 := sidesB_length (n - hb n) (i - hb n)
        have e1 : ((i - hb n : Nat) : Int) = (i : Int) - ((hb n : Nat) : Int) := by omega
        have e2 : ((n - hb n : Nat) : Int) = (n : Int) - ((hb n : Nat) : Int) := by omega
        rw [e1, e2] at hr
        rw [e]
        generalize (sidesB (i - hb n) (n - hb n)).length = L at hr hb2 ⊢
        generalize hb n = k at *
        have HH := Lib.hid hh
        have HR := Lib.hid hr
        have c1 : ¬ (i : Int) < (k : Int) := by omega
        have c2 : (L : Int) ≤ 1048576 := by omega
        have c3 : (0 : Int) ≤ (L : Int) := by omega
        have c4 : (i : Int) ≤ 1048576 := by omega
        have c5 : (n : Int) ≤ 1048576 := by omega
        clear ih hh hr hc e e1 e2
        go_enter Tryd.func28, Tryd.ntmps28
        go_wp2_with (first
          | (go_at_call 46; refine HH.out.mono ?_; rintro e w1 ⟨rfl, HB1⟩)
          | (go_at_call 28; refine (HR.out _).mono ?_; rintro e w2 ⟨rfl, HB2⟩))
        go_ret
        exact ⟨by congr 2, Lib.hid (HB1.out.trans (HB2.out.mono HB1.out.size))⟩

set_option maxHeartbeats 4000000 in
set_option maxRecDepth 100000 in
/-- the law's own up -/
theorem lawup_calls (leaf : ByteArray) (hlf : leaf.size = 32) (n : Nat) : ∀ (i g : Nat) (v : Value) (ps : List ByteArray) (w : World), SR w g v ps → i < n → n ≤ 1048576 → ps.length = (sidesB i n).length → (∀ p ∈ ps, p.size = 32) →
    Calls Tryd.prog 29 #[.int .i64 (i : Int), .int .i64 (n : Int), .string leaf, v] w fun e w' => e = .returned (.string (upN (sidesB i n) leaf ps ps.length)) ∧ Hid (Below w.heap.size w w') := by
  induction n using Nat.strongRecOn with
  | _ n ih =>
    intro i g v ps w hsr hi hn hps h32
    by_cases h2 : n ≤ 1
    · rw [sidesB_one _ _ h2] at hps ⊢
      have e : ps.length = 0 := hps
      rw [e]
      have k2 : (n : Int) < 2 := by omega
      clear ih e hps h32 hsr
      go_enter Tryd.func29, Tryd.ntmps29
      go_wp2
      go_ret
      exact ⟨rfl, Lib.hid (Below.refl _ _)⟩
    · have k2 : ¬ (n : Int) < 2 := by omega
      have hl := hb_lt (n := n) (by omega)
      have hp := hb_pos n
      -- the child: whichever side
      have hchild : ∃ (b : Bool) (bs : List Bool) (i' n' : Nat), sidesB i n = b :: bs ∧ n' < n ∧ i' < n' ∧ bs = sidesB i' n' ∧ (b = true ∧ i < hb n ∧ i' = i ∧ n' = hb n ∨ b = false ∧ ¬ i < hb n ∧ (i' : Int) = (i : Int) - ((hb n : Nat) : Int) ∧ (n' : Int) = (n : Int) - ((hb n : Nat) : Int)) := by
        by_cases hc : i < hb n
        · exact ⟨true, _, i, hb n, sidesB_left _ _ (by omega) hc, hl, hc, rfl, .inl ⟨rfl, hc, rfl, rfl⟩⟩
        · exact ⟨false, _, i - hb n, n - hb n, sidesB_right _ _ (by omega) hc, by omega, by omega, rfl, .inr ⟨rfl, hc, by omega, by omega⟩⟩
      obtain ⟨b, bs, i', n', hsd, hn', hi', hbs, hcase⟩ := hchild
      rw [hsd] at hps ⊢
      rw [List.length_cons] at hps
      have hb2 := sidesB_length n' i'
      rw [← hbs] at hb2
      rw [hps, upN_top]
      obtain ⟨o, c, hv, hc1, hc2, hcell⟩ := hsr.form (by omega)
      subst hv
      have hkc := SR_take (k := bs.length) hcell rfl hc1 hc2 (by omega)
      have hr := fun W (bw : Below w.heap.size w W) => ih n' hn' i' g (.slice (some ⟨g, o, none⟩) bs.length c) (ps.take bs.length) W (hkc.later bw) hi' (by omega) (by rw [List.length_take, hps, hbs]; omega) (fun p hp => h32 p (List.mem_of_mem_take hp))
      rw [List.length_take, hps, Nat.min_eq_left (show bs.length ≤ bs.length + 1 by omega), ← hbs, upN_take _ _ _ _ _ (Nat.le_refl _)] at hr
      have hds := upN_size bs leaf ps hlf bs.length
      have hcl := hcell bs.length (ps.getD bs.length ByteArray.empty) (by simp [List.getD_eq_getElem?_getD, List.getElem?_eq_getElem (show bs.length < ps.length by omega)])
      have hps2 : (ps.getD bs.length ByteArray.empty).size = 32 := h32 _ (by rw [List.getD_eq_getElem?_getD, List.getElem?_eq_getElem (show bs.length < ps.length by omega)]; exact List.getElem_mem _)
      rw [hps] at hc1 ⊢
      generalize upN bs leaf ps bs.length = D at hr hds ⊢
      generalize ps.getD bs.length ByteArray.empty = p at hcl hps2 ⊢
      generalize bs.length = L at *
      have n1 := Lib.hid (fun W => node_calls D p W (by omega) (by omega))
      have n2 := Lib.hid (fun W => node_calls p D W (by omega) (by omega))
      have HR := Lib.hid hr
      have HSZ := Lib.hid (And.intro hds hps2)
      obtain ⟨h0, hh0⟩ : ∃ h0, hb n = h0 := ⟨_, rfl⟩
      have HH0 := Lib.hid hh0
      rw [hh0] at hl hp hcase
      have c4 : (i : Int) ≤ 1048576 := by omega
      have c5 : (n : Int) ≤ 1048576 := by omega
      have c6 : (L : Int) ≤ 1048576 := by omega
      clear ih hsr hps h32 hsd hbs hcell hkc hr hds hps2 hh0 hb2
      go_enter Tryd.func29, Tryd.ntmps29
      go_wp2
      go_loopw [9] (fun x wz => ∃ k e : Nat, x = .int .i64 (k : Int) ∧ Hid (k = 2 ^ e) ∧ 1 ≤ k ∧ k < n ∧ wz = w) (fun x _ => n - (intOf x).toNat)
      case atStart => exact ⟨1, 0, rfl, rfl, by omega, by omega, rfl⟩
      case round =>
        obtain ⟨k, e, rfl, HK, hk1, hk2, hwz⟩ := hrel
        subst hwz
        by_cases hlt : 2 * k < n
        · have e1 : 2 * (k : Int) < (n : Int) := by omega
          have HK2 : Hid (2 * k = 2 ^ (e + 1)) := Lib.hid (by rw [Nat.pow_succ, ← HK.out]; omega)
          clear hcase
          go_wp2
          go_roundw
          case rel => exact ⟨2 * k, e + 1, by go_num, HK2, by omega, hlt, trivial⟩
          case measure => simp [intOf]; omega
        · have e1 : ¬ 2 * (k : Int) < (n : Int) := by omega
          obtain rfl : k = h0 := (hb_unique HK.out hk2 (by omega)).trans HH0.out
          rcases hcase with ⟨rfl, c1, rfl, rfl⟩ | ⟨rfl, c1, c2, c3⟩
          · have c1' : (i' : Int) < (n' : Int) := by omega
            go_wp2_with (first
              | (go_at_call 29; refine (HR.out _ (Below.refl _ _)).mono ?_; rintro e w1 ⟨rfl, HB1⟩)
              | (go_at_call 50; refine (n1.out _).mono ?_; rintro e w2 ⟨rfl, HB2⟩))
            go_ret
            exact ⟨rfl, Lib.hid (HB1.out.trans (HB2.out.mono HB1.out.size))⟩
          · have c1' : ¬ (i : Int) < (k : Int) := by omega
            rw [c2, c3] at HR
            go_wp2_with (first
              | (go_at_call 29; refine (HR.out _ (Below.refl _ _)).mono ?_; rintro e w1 ⟨rfl, HB1⟩)
              | (go_at_call 50; refine (n2.out _).mono ?_; rintro e w2 ⟨rfl, HB2⟩))
            go_ret
            exact ⟨rfl, Lib.hid (HB1.out.trans (HB2.out.mono HB1.out.size))⟩
end Go.Proofs.YtmhjocbnoppbbaaDoor.Mk
