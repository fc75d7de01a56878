/- The reference's Digest. -/
import Derived.Test.YtmhjocbnoppbbaaRefS
namespace Go.Proofs.Ytmhjocbnoppbbaa.Ref
open Go.RowKit Go.Proofs.YtmhjocbnoppbbaaW.PrintWords Go.Proofs.YtmhjocbnoppbbaaW.PrintLast Go.Proofs.YtmhjocbnoppbbaaW.PrintMore
set_option linter.unusedVariables false
set_option linter.unusedSimpArgs false
theorem IR_of_R {w w0 : World} {v : Value} {xs : List Nat} (hx : 0 < xs.length) (h : Kd.R (Kd.int .i64) 3 w w0.heap.size (fun _ => True) v (xs.map fun x : Nat => (x : Int))) : ∃ g, Sha.IR w g v xs := by
  have hR := h
  obtain ⟨inner, ho⟩ := Kd.R_own h
  rcases ho.2 with ⟨_, hn⟩ | ⟨g, cap, cur, hv, hb, hh, hnc, hcm, hcs, htk⟩
  · rw [List.length_map] at hn; omega
  · subst hv
    rw [List.length_map] at hnc hR
    refine ⟨g, ⟨some ⟨g, 0, none⟩, cap, by simp, hnc, by simp only [maxLen] at hcm; omega, fun _ => ⟨rfl, (Array.getElem?_eq_some_iff.1 hh).1, fun i hi => ?_⟩⟩⟩
    have hc := (Kd.R_celln 0 hR (i : Int) (by omega) (by simpa using hi)).1
    simpa [rdOf, hi] using hc
theorem K_callsI (w : World) : Calls Try.prog 23 #[] w fun e w' => ∃ v, e = .returned v ∧ (∃ g, Hid (Sha.IR w' g v Sha.K64)) ∧ Hid (Below w.heap.size w w') :=
  (ladingref02_K.calls 12000 KI w K_val).mono fun _ _ ⟨v, he, h1, h2⟩ => ⟨v, he, IR_of_R (by decide) h1, h2⟩
theorem H_callsI (w : World) : Calls Try.prog 39 #[] w fun e w' => ∃ v, e = .returned v ∧ (∃ g, Hid (Sha.IR w' g v Sha.H8)) ∧ Hid (Below w.heap.size w w') :=
  (ladingref02_H.calls 12000 HI w H_val).mono fun _ _ ⟨v, he, h1, h2⟩ => ⟨v, he, IR_of_R (by decide) h1, h2⟩
theorem digest_calls (t : ByteArray) (w : World) (hsz : t.size ≤ 1000000) :
    Calls Try.prog 17 #[.string t] w fun e w' => e = .returned (.string (Sha.dig t.data.toList)) ∧ Hid (Below w.heap.size w w') := by
  go_enter Try.func17, Try.ntmps17
  go_wp2_with (first
    | (go_at_call 23; refine (K_callsI w).mono ?_; rintro e w1 ⟨v1, rfl, ⟨g1, HK⟩, HB1⟩)
    | (go_at_call 39; refine (H_callsI w1).mono ?_; rintro e w2 ⟨v2, rfl, ⟨g2, HH⟩, HB2⟩)
    | (go_at_call 38; refine (Sha.refsum_calls g1 g2 v1 v2 t w2 (Sha.IR.later HK.out HB2.out) HH.out hsz).mono ?_; rintro e w3 ⟨rfl, HB3⟩))
  go_ret
  have b2 : Below w.heap.size w w2 := HB1.out.trans (HB2.out.mono HB1.out.size)
  exact ⟨rfl, Lib.hid (b2.trans (HB3.out.mono b2.size))⟩
end Go.Proofs.Ytmhjocbnoppbbaa.Ref
