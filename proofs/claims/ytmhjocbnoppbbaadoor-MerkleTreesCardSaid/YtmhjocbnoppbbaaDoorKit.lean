/- The reference's kit: the words that a digest needs, and the digest by them. -/
import Derived.Test.YtmhjocbnoppbbaaDoorRefT
namespace Go.Proofs.YtmhjocbnoppbbaaDoor.Mk
open Go.RowKit Go.Proofs.YtmhjocbnoppbbaaDoor.Sha
set_option linter.unusedVariables false
set_option linter.unusedSimpArgs false
/-- a kit: its two rows of words -/
def KitS (w : World) (kv hv : Value) : Prop := ∃ g1 g2, IR w g1 kv K64 ∧ IR w g2 hv H8
theorem KitS.later {w w' : World} {kv hv : Value} (h : KitS w kv hv) (hb : Below w.heap.size w w') : KitS w' kv hv := by
  obtain ⟨g1, g2, h1, h2⟩ := h
  exact ⟨g1, g2, h1.later hb, h2.later hb⟩
theorem h3set {w : World} {b : Nat} {u v : Value} {t : TypeId} (h : w.heap[b]? = some (.cells #[u, v] t (0, 0))) (x y : Value) : ((w.setCell ⟨b, 0, none⟩ x).setCell ⟨b, 1, none⟩ y).heap[b]? = some (.cells #[x, y] t (0, 0)) := by
  have h1 := heap_setCell_same w b 0 _ _ x h
  have h2 := heap_setCell_same _ b 1 _ _ y h1
  rw [h2]
  rfl
theorem IR_ne {w : World} {g b : Nat} {v : Value} {ns : List Nat} (h : IR w g v ns) (hp : 0 < ns.length) {y : Value} {t : TypeId} (hb : w.heap[b]? = some (.cells #[.slice none 0 0, y] t (0, 0))) : g ≠ b := by
  intro e
  subst e
  obtain ⟨A, c, hv, h1, h2, h3⟩ := h
  have hc := (h3 hp).2.2 0 hp
  rw [cell_of_row w g 0 _ _ _ hb] at hc
  simp at hc
theorem kit_calls (w : World) : Calls Tryd.prog 19 #[] w fun e w' => ∃ kv hv, e = .returned (.agg #[kv, hv]) ∧ Hid (KitS w' kv hv) ∧ Hid (Below w.heap.size w w') := by
  go_enter Tryd.func19, Tryd.ntmps19
  go_upto_region 1 with (fail)
  have hc0 := heap_alloc_new w (.cells #[.slice none 0 0, .slice none 0 0] 47)
  have HB0 : Hid (Below w.heap.size w (w.alloc (.cells #[.slice none 0 0, .slice none 0 0] 47))) := Lib.hid ((Below.refl _ _).alloc (Nat.le_refl _) _)
  have hlt0 : w.heap.size < (w.alloc (.cells #[.slice none 0 0, .slice none 0 0] 47)).heap.size := by simp
  obtain ⟨W0, hW0⟩ : ∃ W0, w.alloc (.cells #[.slice none 0 0, .slice none 0 0] 47) = W0 := ⟨_, rfl⟩
  obtain ⟨b, hb⟩ : ∃ b, w.heap.size = b := ⟨_, rfl⟩
  rw [hW0, hb] at hc0 HB0 hlt0
  rw [hW0, hb]
  clear hW0
  go_wp2_with (first
    | (go_at_call 43; refine (Ref.K_callsI _).mono ?_; rintro e w1 ⟨v1, rfl, ⟨g1, HK⟩, HB1⟩; have h1 := (HB1.out.block b hlt0).trans hc0; obtain ⟨A1, c1, hv1, -⟩ := HK.out; subst hv1)
    | (go_at_call 44; refine (Ref.H_callsI _).mono ?_; rintro e w2 ⟨v2, rfl, ⟨g2, HH⟩, HB2⟩; have h2 := (HB2.out.block b (Nat.lt_of_lt_of_le hlt0 HB1.out.size)).trans h1; obtain ⟨A2, c2, hv2, -⟩ := HH.out; subst hv2; have q0 : w2.cell? ⟨b, 0, none⟩ = some (.slice none 0 0) := (by rw [cell_of_row w2 b 0 _ _ _ h2]; rfl); have q1 : w2.cell? ⟨b, 1, none⟩ = some (.slice none 0 0) := (by rw [cell_of_row w2 b 1 _ _ _ h2]; rfl); have z0 := frozen_of_row w2 b 0 _ _ h2; have z1 := frozen_of_row w2 b 1 _ _ h2))
  have hg1 := IR_ne HK.out (by rw [K64_length]; omega) h1
  have hg2 := IR_ne HH.out (by show 0 < 8; omega) h2
  have HH3 := Lib.hid (h3set h2 (.slice A1 K64.length c1) (.slice A2 H8.length c2))
  have hgs : w2.grownBy ((w2.setCell ⟨b, 0, none⟩ (.slice A1 K64.length c1)).setCell ⟨b, 1, none⟩ (.slice A2 H8.length c2)) (some b) := (grown_setCell w2 ⟨b, 0, none⟩ _).trans (grown_setCell _ ⟨b, 1, none⟩ _)
  have hbb : Below b w ((w2.setCell ⟨b, 0, none⟩ (.slice A1 K64.length c1)).setCell ⟨b, 1, none⟩ (.slice A2 H8.length c2)) :=
    (((HB0.out.trans (HB1.out.mono (Nat.le_of_lt hlt0))).trans (HB2.out.mono (Nat.le_trans (Nat.le_of_lt hlt0) HB1.out.size))).setCell (Nat.le_refl _) _).setCell (Nat.le_refl _) _
  refine bodyPost_ret (v := .agg #[.slice A1 K64.length c1, .slice A2 H8.length c2]) (results_cell_row rfl _ _ b 47 _ (0, 0) _ rfl HH3.out Tryd.underlying47 rfl (by kernel_rfl)) rfl ⟨_, _, rfl, Lib.hid ⟨g1, g2, (HK.out.later HB2.out).kept hgs (fun e => hg1 (by injection e)), HH.out.kept hgs (fun e => hg2 (by injection e))⟩, ?_⟩
  rw [hb]
  exact Lib.hid hbb
theorem kitSum_calls (kv hv : Value) (t : ByteArray) (w : World) (h : KitS w kv hv) (hsz : t.size ≤ 1000000) :
    Calls Tryd.prog 45 #[.agg #[kv, hv], .string t] w fun e w' => e = .returned (.string (dig t.data.toList)) ∧ Hid (Below w.heap.size w w') := by
  obtain ⟨g1, g2, h1, h2⟩ := h
  have H1 := Lib.hid h1
  have H2 := Lib.hid h2
  clear h1 h2
  go_enter Tryd.func45, Tryd.ntmps45
  go_wp2_with ((go_at_call 62; refine (refsum_calls g1 g2 kv hv t _ (H1.out.later ((Below.refl _ _).alloc (Nat.le_refl _) _)) (H2.out.later ((Below.refl _ _).alloc (Nat.le_refl _) _)) hsz).mono ?_; rintro e w3 ⟨rfl, HB3⟩))
  go_ret
  exact ⟨rfl, Lib.hid (Below.trans ((Below.refl _ _).alloc (Nat.le_refl _) _) (HB3.out.mono (by simp)))⟩
end Go.Proofs.YtmhjocbnoppbbaaDoor.Mk
