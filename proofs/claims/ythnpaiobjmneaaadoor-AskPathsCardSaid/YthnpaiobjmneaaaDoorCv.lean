/- csr: BinarySearch, Has. -/
import Derived.Test.YthnpaiobjmneaaaDoorCu
namespace Go.Proofs.YthnpaiobjmneaaaDoor.Cs
open Go.RowKit Go.Proofs.YthnpaiobjmneaaaDoor.Ed Go.Proofs.YthnpaiobjmneaaaDoor.Ro
set_option linter.unusedVariables false
set_option linter.unusedSimpArgs false

set_option maxHeartbeats 1000000 in
theorem less_calls (x y : Int) (w : World) : Calls Tryd.prog 73 #[.int .i64 x, .int .i64 y] w fun e w' => e = .returned (.bool (decide (x < y))) ∧ w = w' := by
  go_enter Tryd.func73, Tryd.ntmps73
  go_wp2_with (go_at_call 86; refine (isnan_calls _ _).mono ?_; rintro e w' ⟨rfl, rfl⟩)
  go_ret
  exact ⟨by simp, rfl⟩
set_option maxHeartbeats 1000000 in
theorem snan_calls (x : Int) (w : World) : Calls Tryd.prog 74 #[.int .i64 x] w fun e w' => e = .returned (.bool false) ∧ w = w' := by
  go_enter Tryd.func74, Tryd.ntmps74
  go_wp2
  go_ret
  exact ⟨by simp, rfl⟩
/-- all ahead of a are less, none from b on is -/
structure Bs (zs : List Int) (x : Int) (a b : Nat) : Prop where
  low : ∀ t, t < a → zs.getD t 0 < x
  high : ∀ t, b ≤ t → t < zs.length → x ≤ zs.getD t 0
theorem getD_lt {zs : List Int} (h : zs.Pairwise (· < ·)) {i j : Nat} (hij : i < j) (hj : j < zs.length) : zs.getD i 0 < zs.getD j 0 := by
  have := (List.pairwise_iff_getElem.1 h) i j (by omega) hj hij
  simpa [List.getD_eq_getElem?_getD, hj, show i < zs.length by omega] using this
theorem Bs.left {zs : List Int} {x : Int} {a b h : Nat} (hb : Bs zs x a b) (ha : zs.Pairwise (· < ·)) (hl : h < zs.length) (hx : zs.getD h 0 < x) : Bs zs x (h + 1) b :=
  ⟨fun t ht => by
    by_cases e : t = h
    · subst e; exact hx
    · have := getD_lt ha (show t < h by omega) hl; omega, hb.high⟩
theorem Bs.right {zs : List Int} {x : Int} {a b h : Nat} (hb : Bs zs x a b) (ha : zs.Pairwise (· < ·)) (hx : ¬ zs.getD h 0 < x) : Bs zs x a h :=
  ⟨hb.low, fun t ht hl => by
    by_cases e : t = h
    · subst e; omega
    · have := getD_lt ha (show h < t by omega) hl; omega⟩
theorem Bs.found {zs : List Int} {x : Int} {a : Nat} (hb : Bs zs x a a) (ha : zs.Pairwise (· < ·)) : (x ∈ zs) ↔ (a < zs.length ∧ zs.getD a 0 = x) := by
  constructor
  · intro h
    obtain ⟨i, hi, e⟩ := List.mem_iff_getElem.1 h
    have e' : zs.getD i 0 = x := by simpa [List.getD_eq_getElem?_getD, hi] using e
    by_cases h1 : i < a
    · have := hb.low i h1; omega
    · by_cases h2 : i = a
      · subst h2; exact ⟨hi, e'⟩
      · have h3 := hb.high a (Nat.le_refl _) (by omega)
        have h4 := getD_lt ha (show a < i by omega) hi
        omega
  · rintro ⟨h1, h2⟩
    rw [← h2, List.getD_eq_getElem?_getD, List.getElem?_eq_getElem h1]
    exact List.getElem_mem _
set_option maxHeartbeats 4000000 in
set_option maxRecDepth 100000 in
theorem bsearch_calls (g : Nat) (v : Value) (zs : List Int) (x : Int) (w : World) (h : JR w g v zs) (ha : zs.Pairwise (· < ·)) (hl : zs.length ≤ 1000000) :
    Calls Tryd.prog 57 #[v, .int .i64 x] w fun e w' => ∃ i, e = .returned (.tuple #[.int .i64 i, .bool (decide (x ∈ zs))]) ∧ w = w' := by
  obtain ⟨A, c, o, rfl, h1, h2, h3⟩ := h
  obtain ⟨n, hn⟩ : ∃ n, zs.length = n := ⟨_, rfl⟩
  rw [hn] at h1 h3 hl ⊢
  have HN := Lib.hid hn
  have H3 := Lib.hid h3
  have HA := Lib.hid ha
  obtain ⟨r, hr⟩ : ∃ r, decide (x ∈ zs) = r := ⟨_, rfl⟩
  rw [hr]
  have HR := Lib.hid hr
  have hn7 : (n : Int) ≤ 1000000 := by omega
  clear hn h3 ha hr
  go_enter Tryd.func57, Tryd.ntmps57
  go_upto_region 3 with (fail)
  go_loop [7, 8] (fun i j => ∃ a b : Nat, i = .int .i64 (a : Int) ∧ j = .int .i64 (b : Int) ∧ a ≤ b ∧ b ≤ n ∧ Hid (Bs zs x a b)) (fun i j => (intOf j).toNat - (intOf i).toNat)
  case atStart => exact ⟨0, n, rfl, rfl, by omega, by omega, Lib.hid ⟨fun t ht => by omega, fun t h1 h2 => by rw [HN.out] at h2; omega⟩⟩
  case round =>
    obtain ⟨a, b, rfl, rfl, hab, hbn, HB⟩ := hrel
    by_cases hlt : a < b
    · obtain ⟨m, hm⟩ : ∃ m, (a + b) / 2 = m := ⟨_, rfl⟩
      have hm1 : ((a : Int) + (b : Int)) / 2 = (m : Int) := by omega
      have m1 : a ≤ m := by omega
      have m2 : m < b := by omega
      obtain ⟨rfl, -, hcell⟩ := H3.out (by omega)
      have q := hcell m (by omega)
      have i0 : (0 : Int) ≤ (m : Int) := by omega
      have i1 : (m : Int) < (n : Int) := by omega
      clear hcell hm
      go_upto_region 5 with (fail)
      obtain ⟨z, hz⟩ : ∃ z, zs.getD m 0 = z := ⟨_, rfl⟩
      rw [hz] at q
      have HZ := Lib.hid hz
      clear hz hm1
      by_cases hzx : z < x
      · have HC := Lib.hid (less_calls z x w)
        rw [decide_eq_true hzx] at HC
        have HB2 : Hid (Bs zs x (m + 1) b) := Lib.hid (HB.out.left HA.out (by rw [HN.out]; omega) (by rw [HZ.out]; exact hzx))
        clear hzx
        go_wp2_with (go_at_call 73; refine HC.out.mono ?_; rintro e w1 ⟨rfl, rfl⟩)
        go_round
        case rel => exact ⟨m + 1, b, by go_num, rfl, by omega, by omega, HB2⟩
        case measure => simp [intOf]; omega
      · have HC := Lib.hid (less_calls z x w)
        rw [decide_eq_false hzx] at HC
        have HB2 : Hid (Bs zs x a m) := Lib.hid (HB.out.right HA.out (by rw [HZ.out]; exact hzx))
        clear hzx
        go_wp2_with (go_at_call 73; refine HC.out.mono ?_; rintro e w1 ⟨rfl, rfl⟩)
        go_round
        case rel => exact ⟨a, m, rfl, rfl, by omega, by omega, HB2⟩
        case measure => simp [intOf]; omega
    · obtain rfl : a = b := by omega
      have hf := HB.out.found HA.out
      rw [HN.out] at hf
      by_cases han : a < n
      · obtain ⟨rfl, -, hcell⟩ := H3.out (by omega)
        have q := hcell a han
        have i0 : (0 : Int) ≤ (a : Int) := by omega
        have i1 : (a : Int) < (n : Int) := by omega
        obtain ⟨z, hz⟩ : ∃ z, zs.getD a 0 = z := ⟨_, rfl⟩
        rw [hz] at q hf
        by_cases hzx : z = x
        · have hb : (z == x) = true := by simp [hzx]
          obtain rfl : r = true := by rw [← HR.out]; exact decide_eq_true (hf.2 ⟨han, hzx⟩)
          clear hcell hz hf hzx
          go_wp2_with (go_at_call 74; refine (snan_calls _ _).mono ?_; rintro e w1 ⟨rfl, rfl⟩)
          go_ret2
          first | exact ⟨_, rfl, rfl⟩ | exact ⟨⟨_, rfl⟩, rfl⟩
        · have hb : (z == x) = false := by simpa using hzx
          obtain rfl : r = false := by rw [← HR.out]; exact decide_eq_false (fun e => hzx (hf.1 e).2)
          clear hcell hz hf hzx
          go_wp2_with (go_at_call 74; refine (snan_calls _ _).mono ?_; rintro e w1 ⟨rfl, rfl⟩)
          go_ret2
          first | exact ⟨_, rfl, rfl⟩ | exact ⟨⟨_, rfl⟩, rfl⟩
      · obtain rfl : r = false := by rw [← HR.out]; exact decide_eq_false (fun e => han (hf.1 e).1)
        have i1 : ¬ (a : Int) < (n : Int) := by omega
        clear hf
        go_wp2
        go_ret2
        first | exact ⟨_, rfl, rfl⟩ | exact ⟨⟨_, rfl⟩, rfl⟩
section
variable {w : World} {B p bb N : Nat} {tv : Value} {l : List E2}
set_option maxHeartbeats 1000000 in
theorem has_calls (h : CS w B p bb tv N l) (v : Nat) (hv : v < N) (x : Int) : Calls Tryd.prog 30 #[pV p, .int .i64 (v : Int), .int .i64 x] w fun e w' => e = .returned (.bool (decide (((v : Int), x) ∈ l))) ∧ Hid (Below w.heap.size w w') := by
  have HR := Lib.hid (row_calls h v hv)
  have HA := Lib.hid (tgt_asc h.up v)
  have HL : Hid ((tgt l v).length ≤ 1000000) := Lib.hid (by rw [tgt_len]; have := deg_le l v; have := h.few; omega)
  have hm : decide (((v : Int), x) ∈ l) = decide (x ∈ tgt l v) := by rw [Bool.eq_iff_iff]; simp [mem_tgt]
  rw [hm]
  have HS := Lib.hid (fun g u W hJ => bsearch_calls g u (tgt l v) x W hJ HA.out HL.out)
  clear hm h
  generalize decide (x ∈ tgt l v) = r at *
  generalize tgt l v = t at *
  generalize deg l v = d at *
  go_enter Tryd.func30, Tryd.ntmps30
  go_wp2_with (first
    | (go_at_call 55; refine HR.out.mono ?_; rintro e w1 ⟨a, c, g, rfl, HJ, HB⟩)
    | (go_at_call 57; refine (HS.out g _ _ (HJ.out.1.later HB.out)).mono ?_; rintro e w2 ⟨i, rfl, rfl⟩))
  go_ret
  exact ⟨rfl, HB⟩
set_option maxHeartbeats 1000000 in
theorem has_out (h : CS w B p bb tv N l) (v : Int) (hv : v < 0 ∨ (N : Int) ≤ v) (x : Int) : Calls Tryd.prog 30 #[pV p, .int .i64 v, .int .i64 x] w fun e w' => e = .returned (.bool false) ∧ Hid (Below w.heap.size w w') := by
  have HR := Lib.hid (row_out h v hv)
  have HS := Lib.hid (bsearch_calls 0 (.slice none 0 0) [] x w ⟨none, 0, 0, rfl, Nat.le_refl _, by omega, fun h => by simp at h⟩ List.Pairwise.nil (by simp))
  rw [decide_eq_false (by simp)] at HS
  clear h
  go_enter Tryd.func30, Tryd.ntmps30
  go_wp2_with (first
    | (go_at_call 55; refine HR.out.mono ?_; rintro e w1 ⟨rfl, rfl⟩)
    | (go_at_call 57; refine HS.out.mono ?_; rintro e w2 ⟨i, rfl, rfl⟩))
  go_ret
  exact ⟨rfl, Lib.hid (Below.refl _ _)⟩
end
end Go.Proofs.YthnpaiobjmneaaaDoor.Cs
