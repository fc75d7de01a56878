/- The law ShaWords, walked. -/
import Derived.Test.YtmhjocbnoppbbaaShaM
import Derived.Test.YtmhjocbnoppbbaaRefE
import Derived.Test.YtmhjocbnoppbbaaRefF
namespace Go.Proofs.Ytmhjocbnoppbbaa.Sha
open Go.RowKit
set_option linter.unusedVariables false
set_option linter.unusedSimpArgs false

/-- one of the words, or nothing -/
def wordK (i : Int) : Nat := if 0 ≤ i ∧ i < 64 then K64.getD i.toNat 0 else 0
theorem kT_calls (w : World) : Calls Try.prog 40 #[] w fun e w' => e = .returned (.pointer (some ⟨w.heap.size, 0, none⟩)) ∧ Hid (Arr w' w.heap.size 87 K64) ∧ Hid (Below w.heap.size w w') :=
  (k_calls w).mono fun _ _ ⟨he, hw⟩ => ⟨he, by subst hw; exact heap_alloc_new w _, by subst hw; exact (Below.refl _ _).alloc (Nat.le_refl _) _⟩

set_option maxHeartbeats 2000000 in
set_option maxRecDepth 100000 in
theorem shaK_calls (i : Int) (w : World) (h0 : -9223372036854775808 ≤ i) (h1 : i ≤ 9223372036854775807) :
    Calls Try.prog 24 #[.int .i64 i] w fun e w' => e = .returned (.int .i64 ((wordK i : Nat) : Int)) ∧ Hid (Below w.heap.size w w') := by
  by_cases hlo : i < 0
  · have e : wordK i = 0 := by unfold wordK; rw [if_neg (by omega)]
    rw [e]
    go_enter Try.func24, Try.ntmps24
    go_wp2
    go_ret
    exact ⟨rfl, Below.refl _ _⟩
  · by_cases hhi : 64 ≤ i
    · have e : wordK i = 0 := by unfold wordK; rw [if_neg (by omega)]
      rw [e]
      go_enter Try.func24, Try.ntmps24
      go_wp2
      go_ret
      exact ⟨rfl, Below.refl _ _⟩
    · obtain ⟨n, rfl⟩ : ∃ n : Nat, i = (n : Int) := ⟨i.toNat, by omega⟩
      have e : wordK (n : Int) = K64.getD n 0 := by unfold wordK; rw [if_pos (by omega)]; simp
      rw [e]
      have hw : K64.getD n 0 < 4294967296 := by
        have hn : n < K64.length := by rw [K64_length]; omega
        have : K64.getD n 0 = K64[n] := by simp [List.getD_eq_getElem?_getD, hn]
        rw [this]
        exact K64_words _ (List.getElem_mem hn)
      have hn2 : n < K64.length := by rw [K64_length]; omega
      obtain ⟨x, hx⟩ : ∃ x, K64.getD n 0 = x := ⟨_, rfl⟩
      rw [hx] at hw ⊢
      have HX := Lib.hid hx
      clear hx e
      have n0 : (0 : Int) ≤ (n : Int) := by omega
      have n1 : (n : Int) < 64 := by omega
      go_enter Try.func24, Try.ntmps24
      go_wp2_with (go_at_call 40; refine (kT_calls w).mono ?_; rintro e w1 ⟨rfl, HA, HB⟩; have hc := HA.out.cell n hn2; rw [HX.out] at hc)
      go_ret
      exact ⟨rfl, HB.out⟩

set_option maxHeartbeats 4000000 in
set_option maxRecDepth 100000 in
theorem words_walk (i : Int) (s : ByteArray) (w : World) (wi : (Lit.int .i64 i).wf = true) (hs : s.size ≤ 140737488351232) :
    Calls Try.prog 7 #[.int .i64 i, .string s] w fun e w' => e = .returned (.bool true) ∧ Below w.heap.size w w' := by
  have hb := bounds_i64 wi
  have h0 : -9223372036854775808 ≤ i := by omega
  have h1 : i ≤ 9223372036854775807 := by omega
  clear hb
  by_cases h300 : s.size ≤ 300
  case neg =>
    have k300 : (300 : Int) < (s.size : Int) := by omega
    clear h300
    go_enter Try.func7, Try.ntmps7
    go_wp2_with (go_at_call 16; refine (awake_calls w).mono ?_; rintro e w1 ⟨rfl, HB1⟩)
    go_ret
    exact ⟨rfl, HB1.out⟩
  case pos =>
    have k300 : ¬ (300 : Int) < (s.size : Int) := by omega
    by_cases hin : 0 ≤ i ∧ i < 64
    · obtain ⟨n, rfl⟩ : ∃ n : Nat, i = (n : Int) := ⟨i.toNat, by omega⟩
      have e : wordK (n : Int) = K64.getD n 0 := by unfold wordK; rw [if_pos hin]; simp
      have hn2 : n < K64.length := by rw [K64_length]; omega
      obtain ⟨x, hx⟩ : ∃ x, wordK (n : Int) = x := ⟨_, rfl⟩
      have HX := Lib.hid hx
      have HE : Hid (K64.getD n 0 = x) := Lib.hid (by rw [← e]; exact hx)
      have n0 : (0 : Int) ≤ (n : Int) := by omega
      have n1 : (n : Int) < 64 := by omega
      clear e hx hin
      go_enter Try.func7, Try.ntmps7
      go_wp2_with (first
        | (go_at_call 16; refine (awake_calls w).mono ?_; rintro e w1 ⟨rfl, HB1⟩)
        | (go_at_call 23; refine (Ref.K_calls w1).mono ?_; rintro e w2 ⟨v, rfl, HR, HB2⟩; obtain ⟨g, c, rfl, hg1, hg2, hcell⟩ := HR.out; have hc := hcell n hn2; rw [HE.out] at hc; rw [K64_length]; clear hcell)
        | (go_at_call 24; refine (shaK_calls n w2 h0 h1).mono ?_; rw [HX.out]; rintro e w3 ⟨rfl, HB3⟩)
        | (go_at_call 25; refine (hex_calls s w3 (by omega)).mono ?_; rintro e w4 ⟨rfl, hb4⟩; have HB4 := Lib.hid hb4; clear hb4)
        | (go_at_call 26; refine (refhex_calls s w4 (by omega)).mono ?_; rintro e w5 ⟨rfl, hb5⟩; have HB5 := Lib.hid hb5; clear hb5))
      go_ret
      have b2 : Below w.heap.size w w2 := HB1.out.trans (HB2.out.mono HB1.out.size)
      have b3 : Below w.heap.size w w3 := b2.trans (HB3.out.mono b2.size)
      have b4 : Below w.heap.size w w4 := b3.trans (HB4.out.mono b3.size)
      exact ⟨rfl, b4.trans (HB5.out.mono b4.size)⟩
    · have hx : wordK i = 0 := by unfold wordK; rw [if_neg hin]
      have HX := Lib.hid hx
      clear hx
      by_cases hlo : 0 ≤ i
      all_goals (
        first | (have hhi : ¬ i < 64 := by omega) | (have hhi : True := trivial)
        clear hin
        go_enter Try.func7, Try.ntmps7
        go_wp2_with (first
          | (go_at_call 16; refine (awake_calls w).mono ?_; rintro e w2 ⟨rfl, HB2⟩)
          | (go_at_call 24; refine (shaK_calls i w2 h0 h1).mono ?_; rw [HX.out]; rintro e w3 ⟨rfl, HB3⟩)
          | (go_at_call 25; refine (hex_calls s w3 (by omega)).mono ?_; rintro e w4 ⟨rfl, hb4⟩; have HB4 := Lib.hid hb4; clear hb4)
          | (go_at_call 26; refine (refhex_calls s w4 (by omega)).mono ?_; rintro e w5 ⟨rfl, hb5⟩; have HB5 := Lib.hid hb5; clear hb5))
        go_ret
        have b2 : Below w.heap.size w w2 := HB2.out
        have b3 : Below w.heap.size w w3 := b2.trans (HB3.out.mono b2.size)
        have b4 : Below w.heap.size w w4 := b3.trans (HB4.out.mono b3.size)
        exact ⟨rfl, b4.trans (HB5.out.mono b4.size)⟩)
end Go.Proofs.Ytmhjocbnoppbbaa.Sha
