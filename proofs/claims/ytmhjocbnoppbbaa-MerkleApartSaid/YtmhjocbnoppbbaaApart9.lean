/- The law MerkleApart, walked. -/
import Derived.Test.YtmhjocbnoppbbaaAwk
import Derived.Test.YtmhjocbnoppbbaaKit
import Derived.Laws.Concat
namespace Go.Proofs.Ytmhjocbnoppbbaa.Mk
open Go.RowKit Go.Proofs.Ytmhjocbnoppbbaa.Sha
set_option linter.unusedVariables false
set_option linter.unusedSimpArgs false

theorem rootD_none : rootD [] = emptyD := by unfold rootD; rw [if_pos rfl]
theorem rootD_one (a : ByteArray) : rootD [a] = leafD a := by
  unfold rootD
  rw [if_neg (by simp)]
  show treeR (leaves [a]) 0 1 = _
  rw [treeR_one]
  rfl
theorem rootD_two (a b : ByteArray) : rootD [a, b] = nodeD (leafD a) (leafD b) := by
  unfold rootD
  rw [if_neg (by simp)]
  show treeR (leaves [a, b]) 0 2 = _
  rw [treeR_more _ 0 2 (by omega), hb2, treeR_one, treeR_one]
  rfl

set_option maxHeartbeats 4000000 in
set_option maxRecDepth 100000 in
theorem apart_walk (a b : ByteArray) (w : World) :
    Calls Try.prog 9 #[.string a, .string b] w fun e w' => e = .returned (.bool true) ∧ Below w.heap.size w w' := by
  have haw := Lib.hid (awake_calls w)
  by_cases ha : a.size ≤ 200
  case neg =>
    have k1 : (200 : Int) < (a.size : Int) := by omega
    clear ha
    go_enter Try.func9, Try.ntmps9
    go_wp2_with ((go_at_call 27; refine haw.out.mono ?_; rintro e w1 ⟨rfl, HB1⟩))
    go_ret
    exact ⟨rfl, HB1.out⟩
  case pos =>
    have k1 : ¬ (200 : Int) < (a.size : Int) := by omega
    by_cases hb : b.size ≤ 200
    case neg =>
      have k2 : (200 : Int) < (b.size : Int) := by omega
      clear ha hb
      go_enter Try.func9, Try.ntmps9
      go_wp2_with ((go_at_call 27; refine haw.out.mono ?_; rintro e w1 ⟨rfl, HB1⟩))
      go_ret
      exact ⟨rfl, HB1.out⟩
    case pos =>
      have k2 : ¬ (200 : Int) < (b.size : Int) := by omega
      have HA := Lib.hid ha
      have HBB := Lib.hid hb
      clear ha hb
      go_enter Try.func9, Try.ntmps9
      go_upto_region 6 with (first
        | (go_at_call 27; refine haw.out.mono ?_; rintro e w1 ⟨rfl, HB1⟩)
        | (go_at_call 28; refine (kit_calls _).mono ?_; rintro e w2 ⟨kv, hv, rfl, HK2, HB2⟩; obtain ⟨g1, g2, hk1, hk2⟩ := HK2.out; obtain ⟨A1, c1, hv1, -⟩ := hk1; obtain ⟨A2, c2, hv2, -⟩ := hk2; subst hv1; subst hv2))
      obtain ⟨kv, hkv⟩ : ∃ kv, Value.slice A1 K64.length c1 = kv := ⟨_, rfl⟩
      obtain ⟨hv, hhv⟩ : ∃ hv, Value.slice A2 H8.length c2 = hv := ⟨_, rfl⟩
      rw [hkv, hhv]
      rw [hkv, hhv] at HK2
      have h0 := heap_alloc_new w2 (.cells #[kv, hv] 47)
      have HK3 := Lib.hid (HK2.out.later ((Below.refl _ _).alloc (Nat.le_refl _) (.cells #[kv, hv] 47)))
      have hb3 : Below w.heap.size w (w2.alloc (.cells #[kv, hv] 47)) := (HB1.out.trans (HB2.out.mono HB1.out.size)).alloc (Nat.le_trans HB1.out.size HB2.out.size) _
      obtain ⟨kb, hkb⟩ : ∃ kb, w2.heap.size = kb := ⟨_, rfl⟩
      obtain ⟨W0, hW0⟩ : ∃ W0, w2.alloc (.cells #[kv, hv] 47) = W0 := ⟨_, rfl⟩
      rw [hW0, hkb] at h0
      rw [hW0] at HK3 hb3
      rw [hW0, hkb]
      have HB3 := Lib.hid hb3
      have HS : Hid (∀ W, Below W0.heap.size W0 W → W.cell? ⟨kb, 0, none⟩ = some kv ∧ W.cell? ⟨kb, 1, none⟩ = some hv) := Lib.hid (fun W h => by
        have h1 := (h.block kb (Array.getElem?_eq_some_iff.1 h0).1).trans h0
        exact ⟨by rw [cell_of_row W kb 0 _ _ _ h1]; rfl, by rw [cell_of_row W kb 1 _ _ _ h1]; rfl⟩)
      have HBW : Hid (Below W0.heap.size W0 W0.drew) := Lib.hid (Below.refl _ _).drew
      have hla := HA.out
      have hlb := HBB.out
      have hs0 : ∀ w, (Op.stringOp .add ⟨#[0]⟩ a).run Try.prog w = .ok (.string (⟨#[0]⟩ ++ a)) w := fun w => run_string_add_sum w _ _ (by show 1 + a.size ≤ _; omega)
      have hs1 : ∀ w, (Op.stringOp .add ⟨#[1]⟩ a).run Try.prog w = .ok (.string (⟨#[1]⟩ ++ a)) w := fun w => run_string_add_sum w _ _ (by show 1 + a.size ≤ _; omega)
      have z0 : (⟨#[0]⟩ ++ a : ByteArray).size = 1 + a.size := append_sz _ _
      have z1 : (⟨#[1]⟩ ++ a : ByteArray).size = 1 + a.size := append_sz _ _
      have d0 : dig (⟨#[0]⟩ ++ a : ByteArray).data.toList = leafD a := by rw [append_bytes]; rfl
      have hs2 : ∀ w, (Op.stringOp .add (⟨#[1]⟩ ++ a) b).run Try.prog w = .ok (.string (⟨#[1]⟩ ++ a ++ b)) w := fun w => run_string_add_sum w _ _ (by omega)
      have z2 : (⟨#[1]⟩ ++ a ++ b : ByteArray).size = 1 + a.size + b.size := by rw [append_sz, z1]
      have d2 : dig (⟨#[1]⟩ ++ a ++ b : ByteArray).data.toList = nodeD a b := by rw [append_bytes, append_bytes]; rfl
      have d3 : dig (⟨#[2]⟩ : ByteArray).data.toList = emptyD := rfl
      generalize (⟨#[0]⟩ ++ a : ByteArray) = X0 at hs0 z0 d0
      generalize (⟨#[1]⟩ ++ a ++ b : ByteArray) = X2 at hs2 z2 d2
      generalize (⟨#[1]⟩ ++ a : ByteArray) = X1 at hs1 z1 hs2
      have r0 := rootD_none
      have r1 := rootD_one a
      have r2 := rootD_two a b
      have la := leafD_size a
      have lb := leafD_size b
      have lf1 := fun W => leaf_calls a W (by omega)
      have lf2 := fun W => leaf_calls b W (by omega)
      have nd1 := fun W => node_calls a b W (by omega) (by omega)
      have nd2 := fun W => node_calls (leafD a) (leafD b) W (by omega) (by omega)
      have ks0 := fun W (h : KitS W kv hv) => kitSum_calls kv hv X0 W h (by omega)
      have ks2 := fun W (h : KitS W kv hv) => kitSum_calls kv hv X2 W h (by omega)
      have ks3 := fun W (h : KitS W kv hv) => kitSum_calls kv hv ⟨#[2]⟩ W h (by show 1 ≤ _; omega)
      have rt0 := fun W (h : SR W 0 (.slice none 0 0) []) => root_calls 0 (.slice none 0 0) [] W h (by simp) (by simp)
      have sr1 : ∀ W : World, SR (W.alloc (.cells #[.string a] 9)) W.heap.size (.slice (some ⟨W.heap.size, 0, none⟩) 1 1) [a] := fun W => SR.lit W [a] _ rfl 1 rfl (by simp)
      have sr2 : ∀ W : World, SR (W.alloc (.cells #[.string a, .string b] 9)) W.heap.size (.slice (some ⟨W.heap.size, 0, none⟩) 2 2) [a, b] := fun W => SR.lit W [a, b] _ rfl 2 rfl (by simp)
      have rt1 := fun W : World => root_calls W.heap.size (.slice (some ⟨W.heap.size, 0, none⟩) 1 1) [a] (W.alloc (.cells #[.string a] 9)) (sr1 W) (by simp) (by simp; omega)
      have rt2 := fun W : World => root_calls W.heap.size (.slice (some ⟨W.heap.size, 0, none⟩) 2 2) [a, b] (W.alloc (.cells #[.string a, .string b] 9)) (sr2 W) (by simp) (by simp; omega)
      rw [d0] at ks0
      rw [d2] at ks2
      rw [d3] at ks3
      rw [r0] at rt0
      rw [r1] at rt1
      rw [r2] at rt2
      generalize leafD a = LA at lf1 nd2 ks0 rt1 rt2 la
      generalize leafD b = LB at lf2 nd2 rt2 lb
      generalize nodeD a b = NAB at nd1 ks2
      generalize nodeD LA LB = NLL at nd2 rt2
      generalize emptyD = ED at ks3 rt0
      have LF1 := Lib.hid lf1
      have LF2 := Lib.hid lf2
      have ND1 := Lib.hid nd1
      have ND2 := Lib.hid nd2
      have KS0 := Lib.hid ks0
      have KS2 := Lib.hid ks2
      have KS3 := Lib.hid ks3
      have RT0 := Lib.hid rt0
      have RT1 := Lib.hid rt1
      have RT2 := Lib.hid rt2
      have SRN : Hid (∀ W : World, SR W 0 (.slice none 0 0) []) := Lib.hid (fun W => ⟨none, 0, rfl, Nat.le_refl _, by omega, fun h => by simp at h⟩)
      clear sr1 sr2 lf1 lf2 nd1 nd2 ks0 ks2 ks3 rt0 rt1 rt2 d0 d2 d3 r0 r1 r2 z0 z1 z2 la lb hla hlb h0 hb3 hW0 hkb HK2 HB1 HB2 hkv hhv
      go_region_held3 (fun W => W.cell? ⟨kb, 0, none⟩ = some kv ∧ W.cell? ⟨kb, 1, none⟩ = some hv)
        (first | (go_keep; done) | exact HS.out _ HBW.out | exact HS.out _ (HBW.out.alloc HBW.out.size _))
        (first
          | (go_at_call 29; with_reducible (show Calls Try.prog _ #[.string a] _ _); refine (LF1.out _).mono ?_; rintro e w5 ⟨rfl, HBx⟩; have HBW := Lib.hid (HBW.out.trans (HBx.out.mono HBW.out.size)); clear HBx)
          | (go_at_call 29; refine (LF2.out _).mono ?_; rintro e w5 ⟨rfl, HBx⟩; have HBW := Lib.hid (HBW.out.trans (HBx.out.mono HBW.out.size)); clear HBx)
          | (go_at_call 30; with_reducible (show Calls Try.prog _ #[_, .string X0] _ _); refine (KS0.out _ (HK3.out.later HBW.out)).mono ?_; rintro e w5 ⟨rfl, HBx⟩; have HBW := Lib.hid (HBW.out.trans (HBx.out.mono HBW.out.size)); clear HBx)
          | (go_at_call 30; with_reducible (show Calls Try.prog _ #[_, .string X2] _ _); refine (KS2.out _ (HK3.out.later HBW.out)).mono ?_; rintro e w5 ⟨rfl, HBx⟩; have HBW := Lib.hid (HBW.out.trans (HBx.out.mono HBW.out.size)); clear HBx)
          | (go_at_call 30; refine (KS3.out _ (HK3.out.later HBW.out)).mono ?_; rintro e w5 ⟨rfl, HBx⟩; have HBW := Lib.hid (HBW.out.trans (HBx.out.mono HBW.out.size)); clear HBx)
          | (go_at_call 31; with_reducible (show Calls Try.prog _ #[.string a, .string b] _ _); refine (ND1.out _).mono ?_; rintro e w5 ⟨rfl, HBx⟩; have HBW := Lib.hid (HBW.out.trans (HBx.out.mono HBW.out.size)); clear HBx)
          | (go_at_call 31; refine (ND2.out _).mono ?_; rintro e w5 ⟨rfl, HBx⟩; have HBW := Lib.hid (HBW.out.trans (HBx.out.mono HBW.out.size)); clear HBx)
          | (go_at_call 32; with_reducible (show Calls Try.prog _ #[.slice none 0 0] _ _); refine (RT0.out _ (SRN.out _)).mono ?_; rintro e w5 ⟨rfl, HBx⟩; have HBW := Lib.hid (HBW.out.trans (HBx.out.mono HBW.out.size)); clear HBx)
          | (go_at_call 32; with_reducible (show Calls Try.prog _ #[.slice (some _) 1 1] _ _); refine (RT1.out _).mono ?_; rintro e w5 ⟨rfl, HBx⟩; have HBW := Lib.hid ((HBW.out.alloc HBW.out.size _).trans (HBx.out.mono (HBW.out.alloc HBW.out.size _).size)); clear HBx)
          | (go_at_call 32; refine (RT2.out _).mono ?_; rintro e w5 ⟨rfl, HBx⟩; have HBW := Lib.hid ((HBW.out.alloc HBW.out.size _).trans (HBx.out.mono (HBW.out.alloc HBW.out.size _).size)); clear HBx))
      go_wp2
      go_ret
      exact ⟨rfl, HB3.out.trans (HBW.out.mono HB3.out.size)⟩
end Go.Proofs.Ytmhjocbnoppbbaa.Mk
