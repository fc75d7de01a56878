/- The reference of layer 5: Targets, Begin, Has. -/
import Derived.Test.YtjokfllldcjheaaGreatDoorCw
namespace Go.Proofs.YtjokfllldcjheaaGreatDoor.Cs
open Go.RowKit Go.Proofs.YtjokfllldcjheaaGreatDoor.Ed Go.Proofs.YtjokfllldcjheaaGreatDoor.Ro
set_option linter.unusedVariables false
set_option linter.unusedSimpArgs false
theorem tgt_take (l : List E2) (v : Int) (k : Nat) (h : k < l.length) : tgt (l.take (k + 1)) v = tgt (l.take k) v ++ if (l.getD k (0, 0)).1 = v then [(l.getD k (0, 0)).2] else [] := by
  have e : l[k]? = some (l.getD k (0, 0)) := by rw [List.getD_eq_getElem?_getD, List.getElem?_eq_getElem h]; rfl
  unfold tgt
  rw [List.take_add_one, e, List.filter_append, List.map_append]
  congr 1
  by_cases hh : (l.getD k (0, 0)).1 = v
  · rw [if_pos hh]; simp only [Option.toList, List.filter_cons, decide_eq_true hh]; rfl
  · rw [if_neg hh]; simp only [Option.toList, List.filter_cons, decide_eq_false hh]; rfl
theorem bel_take (l : List E2) (v : Int) (k : Nat) (h : k < l.length) : bel (l.take (k + 1)) v = bel (l.take k) v + if (l.getD k (0, 0)).1 < v then 1 else 0 := by
  have e : l[k]? = some (l.getD k (0, 0)) := by rw [List.getD_eq_getElem?_getD, List.getElem?_eq_getElem h]; rfl
  unfold bel
  rw [List.take_add_one, e, List.countP_append]
  congr 1
  by_cases hh : (l.getD k (0, 0)).1 < v
  · rw [if_pos hh]; simp only [Option.toList, List.countP_cons, decide_eq_true hh]; rfl
  · rw [if_neg hh]; simp only [Option.toList, List.countP_cons, decide_eq_false hh]; rfl
set_option maxHeartbeats 2000000 in
set_option maxRecDepth 100000 in
theorem rtargets_calls (g : Nat) (v : Value) (l : List E2) (z : Int) (w : World) (h : ER w g v l) (hl : l.length ≤ 1000000) :
    Calls Tryz.prog 23 #[v, .int .i64 z] w fun e w' => ∃ v', e = .returned v' ∧ Hid (OJ w' w.heap.size v' (tgt l z)) ∧ Hid (Below w.heap.size w w') := by
  have HE := Lib.hid h
  obtain ⟨o, A, c, rfl, h1, h2, hread⟩ := id h
  obtain ⟨len, hlen⟩ : ∃ len, l.length = len := ⟨_, rfl⟩
  rw [hlen] at h1 hl hread ⊢
  have HL := Lib.hid hlen
  have HRD := Lib.hid hread
  have hl7 : (len : Int) ≤ 1000000 := by omega
  have HO0 : Hid (OJ (w.alloc (.cells #[] 3)) w.heap.size (.slice (some ⟨w.heap.size, 0, none⟩) 0 0) (tgt (l.take 0) z)) := Lib.hid (OJ.fresh w _ (Nat.le_refl _))
  have HB0 : Hid (Below w.heap.size w (w.alloc (.cells #[] 3))) := Lib.hid ((Below.refl _ _).alloc (Nat.le_refl _) _)
  clear h hlen hread
  go_enter Tryz.func23, Tryz.ntmps23
  go_upto_region 3 with (fail)
  go_loopw [5, 6] (fun u x wz => ∃ k : Nat, x = .int .i64 (k : Int) ∧ k ≤ len ∧ Hid (OJ wz w.heap.size u (tgt (l.take k) z)) ∧ Hid (Below w.heap.size w wz)) (fun _ x _ => len - (intOf x).toNat)
  case atStart => exact ⟨0, rfl, by omega, HO0, HB0⟩
  case round =>
    clear HO0 HB0
    obtain ⟨k, rfl, hk, HO, HB⟩ := hrel
    by_cases hlt : k < len
    · obtain ⟨o', A', c', hv', -, -, hrd⟩ := HE.out.later HB.out
      rw [HL.out] at hrd hv'
      injection hv' with hv1 _ hv2
      subst hv1 hv2
      obtain ⟨rfl, hgl, hcell⟩ := hrd (by omega)
      obtain ⟨q0, q1⟩ := hcell k hlt
      have hst := tgt_take l z k (by rw [HL.out]; exact hlt)
      obtain ⟨⟨x, y⟩, he⟩ : ∃ e, l.getD k (0, 0) = e := ⟨_, rfl⟩
      rw [he] at q0 q1 hst
      simp only at q0 q1 hst
      have HST := Lib.hid hst
      have HLN : Hid ((tgt (l.take k) z).length ≤ 1000000) := Lib.hid (by rw [tgt_len]; have := deg_le (l.take k) z; rw [List.length_take] at this; have := HL.out; omega)
      have i0 : (0 : Int) ≤ (k : Int) := by omega
      have i1 : (k : Int) < (len : Int) := by omega
      have hbz := HB.out.size
      obtain ⟨uA, uc, rfl, -⟩ := id HO.out.shape
      have HOB := Lib.hid HO.out.base
      obtain ⟨un, hun⟩ : ∃ n, (tgt (l.take k) z).length = n := ⟨_, rfl⟩
      rw [hun] at HO HOB ⊢
      clear hcell hrd hst he hun
      by_cases hx : x = z
      · have HX : Hid (x = z) := Lib.hid hx
        go_wp2_with (at_builtin; refine OJ.app_on (base := w.heap.size) (HO.out.alloc _) (JR.lit _ [y] _ rfl 1 rfl (by simp)) rfl _ _ rfl rfl rfl (by simp; omega) (by have := HLN.out; simp only [List.length_cons, List.length_nil]; omega) ?_; intro v1 w3 k1 k2 k3; have K1 := Lib.hid k1; have K2 := Lib.hid k2; clear k1 k2 k3)
        go_roundw
        case rel => exact ⟨k + 1, by go_num, by omega, Lib.hid (by rw [HST.out, if_pos HX.out]; exact K1.out), Lib.hid ((HB.out.alloc hbz _).grown K2.out (by simp; omega) HOB.out)⟩
        case measure => simp [intOf]; omega
      · have HX : Hid (¬ x = z) := Lib.hid hx
        go_wp2
        go_roundw
        case rel => exact ⟨k + 1, by go_num, by omega, Lib.hid (by rw [HST.out, if_neg HX.out, List.append_nil]; exact HO.out), HB⟩
        case measure => simp [intOf]; omega
    · obtain rfl : len = k := by omega
      have HF : Hid (OJ wr w.heap.size u5 (tgt l z)) := Lib.hid (by have := HO.out; rw [List.take_of_length_le (by rw [HL.out]; omega)] at this; exact this)
      go_wp2
      go_ret
      exact ⟨_, rfl, HF, HB⟩
end Go.Proofs.YtjokfllldcjheaaGreatDoor.Cs
