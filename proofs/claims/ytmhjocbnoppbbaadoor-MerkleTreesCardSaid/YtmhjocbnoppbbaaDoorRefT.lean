/- The reference's Digest. -/
import Derived.Test.YtmhjocbnoppbbaaDoorRefS
namespace Go.Proofs.YtmhjocbnoppbbaaDoor.Ref
open Go.RowKit Go.Proofs.YtmhjocbnoppbbaaDoorW.PrintWords Go.Proofs.YtmhjocbnoppbbaaDoorW.PrintLast Go.Proofs.YtmhjocbnoppbbaaDoorW.PrintMore
set_option linter.unusedVariables false
set_option linter.unusedSimpArgs false
theorem IR_of_R {w w0 : World} {v : Value} {xs : List Nat} (hx : 0 < xs.length) (h : Kd.R (Kd.int .i64) 3 w w0.heap.size (fun _ => True) v (xs.map fun x : Nat => (x : Int))) : ∃ g, Sha.IR w g v xs := by
  have hR := h
  obtain ⟨inner, ho⟩ := Kd.R_own h
  rcases ho.2 with ⟨_, hn⟩ | ⟨g, cap, cur, hv, hb, hh, hnc, hcm, hcs, htk⟩
  · rw [List.length_map] at hn; omega
  · subst hv
    rw [List.length_map] at hnc hR
    refine ⟨g, ⟨some ⟨g, 0, none⟩, cap, by simp, hnc, by simp only [maxLen] at hcm; omega, fun _ => ⟨rfl, (Array.getElem?_eq_some_iff.1 hh).1, fun i hi => ?_⟩⟩⟩
    have hc := (Kd.R_celln 0 hR (i : Int) (by omega) (by simpa using hi)).1
    simpa [rdOf, hi] using hc
theorem K_callsI (w : World) : Calls Tryd.prog 43 #[] w fun e w' => ∃ v, e = .returned v ∧ (∃ g, Hid (Sha.IR w' g v Sha.K64)) ∧ Hid (Below w.heap.size w w') :=
  (ladingref02_K.calls 12000 KI w K_val).mono fun _ _ ⟨v, he, h1, h2⟩ => ⟨v, he, IR_of_R (by decide) h1, h2⟩
theorem H_callsI (w : World) : Calls Tryd.prog 44 #[] w fun e w' => ∃ v, e = .returned v ∧ (∃ g, Hid (Sha.IR w' g v Sha.H8)) ∧ Hid (Below w.heap.size w w') :=
  (ladingref02_H.calls 12000 HI w H_val).mono fun _ _ ⟨v, he, h1, h2⟩ => ⟨v, he, IR_of_R (by decide) h1, h2⟩
end Go.Proofs.YtmhjocbnoppbbaaDoor.Ref
