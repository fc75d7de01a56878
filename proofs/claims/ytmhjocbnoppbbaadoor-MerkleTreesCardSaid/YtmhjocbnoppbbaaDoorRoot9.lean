/- The reference's root of blocks, and all pairs that it takes. -/
import Derived.Test.YtmhjocbnoppbbaaDoorSame
import Derived.Test.YtmhjocbnoppbbaaDoorPure9
import Derived.Test.YtmhjocbnoppbbaaDoorPairs
import Derived.Test.YtmhjocbnoppbbaaDoorKit
import Derived.Deep.RegionHeld3
import Derived.Laws.Concat
namespace Go.Proofs.YtmhjocbnoppbbaaDoor.Mk
open Go.RowKit Go.Proofs.YtmhjocbnoppbbaaDoor.Sha
set_option linter.unusedVariables false
set_option linter.unusedSimpArgs false

theorem dig2 : dig (⟨#[2]⟩ : ByteArray).data.toList = emptyD := rfl
theorem dig_leafIn (s : ByteArray) : dig (leafIn s).data.toList = leafD s := by unfold leafIn; rw [append_bytes]; rfl
theorem dig_nodeIn (a b : ByteArray) : dig (nodeIn a b).data.toList = nodeD a b := by unfold nodeIn; rw [append_bytes, append_bytes]; rfl
set_option maxHeartbeats 2000000 in
set_option maxRecDepth 100000 in
theorem kroot0_calls (kv hv : Value) (A : Option Addr) (c : Nat) (w : World) (hk : KitS w kv hv) :
    Calls Tryd.prog 20 #[.agg #[kv, hv], .slice A 0 c] w fun e w' => ∃ pv, e = .returned (.tuple #[.string emptyD, pv]) ∧ Hid (PO w' w.heap.size pv [(⟨#[2]⟩, emptyD)]) ∧ Hid (Below w.heap.size w w') := by
  have HK := Lib.hid hk
  clear hk
  go_enter Tryd.func20, Tryd.ntmps20
  go_upto_region 3 with ((go_at_call 45; refine (kitSum_calls kv hv ⟨#[2]⟩ _ (HK.out.later ((Below.refl _ _).alloc (Nat.le_refl _) _)) (by show 1 ≤ _; omega)).mono ?_; rw [dig2]; rintro e w1 ⟨rfl, HB1⟩))
  have hbw : Below w.heap.size w (w1.alloc (.cells #[.string ⟨#[2]⟩, .string emptyD] 85)) := (Below.trans ((Below.refl _ _).alloc (Nat.le_refl _) _) (HB1.out.mono (by simp))).alloc (by have := HB1.out.size; simp at this; omega) _
  have h0 := heap_alloc_new w1 (.cells #[.string ⟨#[2]⟩, .string emptyD] 85)
  obtain ⟨pb, hpb⟩ : ∃ pb, w1.heap.size = pb := ⟨_, rfl⟩
  obtain ⟨W2, hW2⟩ : ∃ W2, w1.alloc (.cells #[.string ⟨#[2]⟩, .string emptyD] 85) = W2 := ⟨_, rfl⟩
  rw [hW2] at hbw h0
  rw [hpb] at h0
  rw [hW2, hpb]
  obtain ⟨D, hD⟩ : ∃ D, emptyD = D := ⟨_, rfl⟩
  rw [hD] at h0 ⊢
  have HDD := Lib.hid hD
  have q0 : W2.cell? ⟨pb, 0, none⟩ = some (.string ⟨#[2]⟩) := by rw [cell_of_row W2 pb 0 _ _ _ h0]; rfl
  have q1 : W2.cell? ⟨pb, 1, none⟩ = some (.string D) := by rw [cell_of_row W2 pb 1 _ _ _ h0]; rfl
  have hpl : pb < W2.heap.size := (Array.getElem?_eq_some_iff.1 h0).1
  have HBW := Lib.hid hbw
  clear hbw h0 hW2 hpb hD
  go_region_held3 (fun w' => w'.cell? ⟨pb, 0, none⟩ = some (.string ⟨#[2]⟩) ∧ w'.cell? ⟨pb, 1, none⟩ = some (.string D)) (first | (go_keep; done) | exact ⟨q0, q1⟩ | exact ⟨keepc q0 hpl _, keepc q1 hpl _⟩) (fail)
  go_wp2
  go_ret2
  exact ⟨_, by rw [HDD.out]; rfl, by rw [HDD.out]; exact Lib.hid (PO.lit W2 w.heap.size HBW.out.size ⟨#[2]⟩ D), Lib.hid (HBW.out.alloc HBW.out.size _).drew⟩

set_option maxHeartbeats 2000000 in
set_option maxRecDepth 100000 in
theorem kroot1_calls (kv hv : Value) (g o c : Nat) (s : ByteArray) (w : World) (hk : KitS w kv hv) (hc : w.cell? ⟨g, o, none⟩ = some (.string s)) (hs : s.size ≤ 100000) (hcm : 1 ≤ c) (hcx : c ≤ 9223372036854775807) :
    Calls Tryd.prog 20 #[.agg #[kv, hv], .slice (some ⟨g, o, none⟩) 1 c] w fun e w' => ∃ pv, e = .returned (.tuple #[.string (leafD s), pv]) ∧ Hid (PO w' w.heap.size pv [(leafIn s, leafD s)]) ∧ Hid (Below w.heap.size w w') := by
  have HK := Lib.hid hk
  clear hk
  have hadd : ∀ w, (Op.stringOp .add ⟨#[0]⟩ s).run Tryd.prog w = .ok (.string (leafIn s)) w := fun w => run_string_add_sum w _ _ (by show 1 + s.size ≤ _; omega)
  have hsz : (leafIn s).size ≤ 1000000 := by unfold leafIn; rw [append_sz]; show 1 + s.size ≤ _; omega
  have hdg := dig_leafIn s
  obtain ⟨X, hX⟩ : ∃ X, leafIn s = X := ⟨_, rfl⟩
  obtain ⟨D, hD⟩ : ∃ D, leafD s = D := ⟨_, rfl⟩
  rw [hX, hD] at hdg
  rw [hX] at hadd hsz
  rw [hX, hD]
  have HDG := Lib.hid hdg
  have HSZ := Lib.hid hsz
  have q : ∀ o', (w.alloc o').cell? ⟨g, o, none⟩ = some (.string s) := fun o' => keepc hc (u0lt hc) o'
  clear hdg hsz hX hD
  go_enter Tryd.func20, Tryd.ntmps20
  go_upto_region 7 with ((go_at_call 45; refine (kitSum_calls kv hv X _ (HK.out.later ((Below.refl _ _).alloc (Nat.le_refl _) _)) HSZ.out).mono ?_; rw [HDG.out]; rintro e w1 ⟨rfl, HB1⟩))
  have hbw : Below w.heap.size w (w1.alloc (.cells #[.string X, .string D] 85)) := (Below.trans ((Below.refl _ _).alloc (Nat.le_refl _) _) (HB1.out.mono (by simp))).alloc (by have := HB1.out.size; simp at this; omega) _
  have h0 := heap_alloc_new w1 (.cells #[.string X, .string D] 85)
  obtain ⟨pb, hpb⟩ : ∃ pb, w1.heap.size = pb := ⟨_, rfl⟩
  obtain ⟨W2, hW2⟩ : ∃ W2, w1.alloc (.cells #[.string X, .string D] 85) = W2 := ⟨_, rfl⟩
  rw [hW2] at hbw h0
  rw [hpb] at h0
  rw [hW2, hpb]
  have q0 : W2.cell? ⟨pb, 0, none⟩ = some (.string X) := by rw [cell_of_row W2 pb 0 _ _ _ h0]; rfl
  have q1 : W2.cell? ⟨pb, 1, none⟩ = some (.string D) := by rw [cell_of_row W2 pb 1 _ _ _ h0]; rfl
  have hpl : pb < W2.heap.size := (Array.getElem?_eq_some_iff.1 h0).1
  have HBW := Lib.hid hbw
  clear hbw h0 hW2 hpb
  go_region_held3 (fun w' => w'.cell? ⟨pb, 0, none⟩ = some (.string X) ∧ w'.cell? ⟨pb, 1, none⟩ = some (.string D)) (first | (go_keep; done) | exact ⟨q0, q1⟩ | exact ⟨keepc q0 hpl _, keepc q1 hpl _⟩) (fail)
  go_wp2
  go_ret2
  exact ⟨_, rfl, Lib.hid (PO.lit W2 w.heap.size HBW.out.size X D), Lib.hid (HBW.out.alloc HBW.out.size _).drew⟩
end Go.Proofs.YtmhjocbnoppbbaaDoor.Mk
