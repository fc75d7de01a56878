/- The reference's Clash: where two unlike texts have one digest it says so. -/
import Derived.Test.YtmhjocbnoppbbaaDoorPure9
import Derived.Test.YtmhjocbnoppbbaaDoorPairs
import Derived.Test.YtmhjocbnoppbbaaDoorSame
import Derived.BigQuiet
namespace Go.Proofs.YtmhjocbnoppbbaaDoor.Mk
open Go.RowKit Go.Proofs.YtmhjocbnoppbbaaDoor.Sha
set_option linter.unusedVariables false
set_option linter.unusedSimpArgs false

/-- do the i-th and the k-th clash? -/
def clashAt (ps : List Pr) (i k : Nat) : Prop := (ps.getD i (ByteArray.empty, ByteArray.empty)).2 = (ps.getD k (ByteArray.empty, ByteArray.empty)).2 ∧ (ps.getD i (ByteArray.empty, ByteArray.empty)).1 ≠ (ps.getD k (ByteArray.empty, ByteArray.empty)).1
theorem PRd.cells {w : World} {g n c : Nat} {ps : List Pr} (h : PRd w g (.slice (some ⟨g, 0, none⟩) n c) ps) (i : Nat) (hi : i < ps.length) :
    w.cell? ⟨g, 2 * i, none⟩ = some (.string (ps.getD i (ByteArray.empty, ByteArray.empty)).1) ∧ w.cell? ⟨g, 2 * i + 1, none⟩ = some (.string (ps.getD i (ByteArray.empty, ByteArray.empty)).2) := by
  obtain ⟨A, c', hv, h1, h2, h3⟩ := h
  obtain ⟨-, -, hc⟩ := h3 (by omega)
  exact ⟨hc _ _ (pcells_get ps i hi).1, hc _ _ (pcells_get ps i hi).2⟩
theorem toList_eq2 (a : ByteArray) : (a.toList == a.toList) = true := by simp
set_option maxHeartbeats 2000000 in
set_option maxRecDepth 100000 in
theorem clash_calls (g : Nat) (v : Value) (ps : List Pr) (w : World) (hr : PRd w g v ps) (hC : Clash ps) (hn : ps.length ≤ 1000000) :
    Calls Tryd.prog 25 #[v] w fun e w' => e = .returned (.bool true) ∧ Hid (Below w.heap.size w w') := by
  have HC := Lib.hid hC
  have hr' := hr
  obtain ⟨A, c, hv, hc1, hc2, h3⟩ := hr'
  have hpos : 0 < ps.length := by obtain ⟨i, k, h1, h2, _⟩ := hC; omega
  obtain ⟨hA, hgl, -⟩ := h3 hpos
  subst hv hA
  obtain ⟨n, hn'⟩ : ∃ n, ps.length = n := ⟨_, rfl⟩
  rw [hn'] at hr hc1 hn ⊢
  have HR := Lib.hid hr
  have HN := Lib.hid hn'
  clear hr hC h3 hn' hpos
  go_enter Tryd.func25, Tryd.ntmps25
  go_wp2
  go_loopw [3] (fun i wr => ∃ a : Nat, i = .int .i64 (a : Int) ∧ a ≤ n ∧ Hid (∀ i', i' < a → ∀ k, k < i' → ¬ clashAt ps i' k) ∧ Hid (Below w.heap.size w wr)) (fun i _ => n - (intOf i).toNat)
  case atStart => exact ⟨0, rfl, by omega, Lib.hid (fun i' h => by omega), Lib.hid (Below.refl _ _)⟩
  case round =>
    obtain ⟨a, rfl, ha, HI, HB⟩ := hrel
    by_cases hlt : a < n
    · have a0 : (0 : Int) ≤ (a : Int) := by omega
      have a1 : (a : Int) < (n : Int) := by omega
      go_wp2
      go_loopw [4] (fun i wr => ∃ k : Nat, i = .int .i64 (k : Int) ∧ k ≤ a ∧ Hid (∀ k', k' < k → ¬ clashAt ps a k') ∧ Hid (Below w.heap.size w wr)) (fun i _ => a - (intOf i).toNat)
      case atStart => exact ⟨0, rfl, by omega, Lib.hid (fun i' h => by omega), HB⟩
      case round =>
        obtain ⟨k, rfl, hk, HJ, HB2⟩ := hrel
        rename World => w2
        by_cases hka : k < a
        · have hra := HR.out.later HB2.out
          obtain ⟨x0, x1⟩ := hra.cells a (by rw [HN.out]; exact hlt)
          obtain ⟨y0, y1⟩ := hra.cells k (by rw [HN.out]; omega)
          obtain ⟨p, hp⟩ : ∃ p, ps.getD a (ByteArray.empty, ByteArray.empty) = p := ⟨_, rfl⟩
          obtain ⟨q, hq⟩ : ∃ q, ps.getD k (ByteArray.empty, ByteArray.empty) = q := ⟨_, rfl⟩
          rw [hp] at x0 x1
          rw [hq] at y0 y1
          obtain ⟨p1, p2⟩ := p
          obtain ⟨q1, q2⟩ := q
          have k0 : (0 : Int) ≤ (k : Int) := by omega
          have k1 : (k : Int) < (n : Int) := by omega
          have k2 : (k : Int) < (a : Int) := by omega
          have HCA : Hid (clashAt ps a k ↔ p2 = q2 ∧ p1 ≠ q1) := Lib.hid (by unfold clashAt; rw [hp, hq])
          clear hra hp hq
          simp only at x0 x1 y0 y1
          rw [Nat.mul_comm] at x0 x1 y0 y1
          by_cases h2 : p2 = q2
          · subst h2
            have e2 := toList_eq2 p2
            by_cases h1 : p1 = q1
            · subst h1
              have e1 := toList_eq2 p1
              have HJ2 : Hid (∀ k', k' < k + 1 → ¬ clashAt ps a k') := Lib.hid (fun k' hk' hc => by
                by_cases e : k' = k
                · subst e; exact (HCA.out.1 hc).2 rfl
                · exact HJ.out k' (by omega) hc)
              go_upto_region 7 with (fail)
              go_quiet (fail)
              go_wp2
              go_roundw
              case rel => exact ⟨k + 1, by go_num, by omega, HJ2, Lib.hid (below_drewN HB2.out _)⟩
              case measure => simp [intOf]; omega
            · have e1 := toList_ne2 h1
              go_upto_region 7 with (fail)
              go_quiet (fail)
              go_wp2
              go_ret
              exact ⟨rfl, Lib.hid (below_drewN HB2.out _)⟩
          · have e2 := toList_ne2 h2
            have HJ2 : Hid (∀ k', k' < k + 1 → ¬ clashAt ps a k') := Lib.hid (fun k' hk' hc => by
              by_cases e : k' = k
              · subst e; exact h2 (HCA.out.1 hc).1
              · exact HJ.out k' (by omega) hc)
            go_upto_region 7 with (fail)
            go_quiet (fail)
            go_wp2
            go_roundw
            case rel => exact ⟨k + 1, by go_num, by omega, HJ2, Lib.hid (below_drewN HB2.out _)⟩
            case measure => simp [intOf]; omega
        · obtain rfl : k = a := by omega
          have HI2 : Hid (∀ i', i' < k + 1 → ∀ k', k' < i' → ¬ clashAt ps i' k') := Lib.hid (fun i' hi' => by
            by_cases e : i' = k
            · subst e; exact HJ.out
            · exact HI.out i' (by omega))
          clear hka hk
          go_wp2
          go_roundw
          case rel => exact ⟨k + 1, by go_num, by omega, HI2, HB2⟩
          case measure => simp [intOf]; omega
    · obtain rfl : a = n := by omega
      obtain ⟨i, k, h1, h2, h3⟩ := HC.out
      exact absurd h3 (HI.out i (by rw [← HN.out]; exact h2) k h1)
end Go.Proofs.YtmhjocbnoppbbaaDoor.Mk
