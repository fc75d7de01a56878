/- The reference of layer 7: Put. -/
import Derived.Test.YtjokfllldcjheaaRg
import Derived.Test.YtjokfllldcjheaaSq
import Derived.Test.YtjokfllldcjheaaRt
namespace Go.Proofs.Ytjokfllldcjheaa.Oc
open Go.RowKit Go.Proofs.Ytjokfllldcjheaa.Sha Go.Proofs.Ytjokfllldcjheaa.Ro Go.Proofs.Ytjokfllldcjheaa.Cs Go.Proofs.Ytjokfllldcjheaa.Ed
set_option linter.unusedVariables false
set_option linter.unusedSimpArgs false
/-- what a row of targets must be -/
def RowsOk (t : Int → List Int) (N : Nat) : Prop := ∀ v : Int, 0 ≤ v ∧ v < (N : Int) → (∀ x ∈ t v, 0 ≤ x ∧ x < (N : Int)) ∧ (t v).Pairwise (· < ·) ∧ (t v).length ≤ N
set_option maxHeartbeats 4000000 in
set_option maxRecDepth 100000 in
theorem rput_calls (N : Nat) (hN : N ≤ 4096) (g : Nat) (v : Value) (l : List E2) (w : World) (h : ER w g v l) (hl : l.length ≤ 1000000) (hok : RowsOk (tgt l) N) (first many : Nat) (h2 : first + many ≤ N) :
    Calls Try.prog 10 #[v, .int .i64 (first : Int), .int .i64 (many : Int)] w fun e w' => e = .returned (.string ⟨(shardB (tgt l) first many).toArray⟩) ∧ Hid (Below w.heap.size w w') := by
  have HE := Lib.hid h
  have HOK := Lib.hid hok
  have HLL := Lib.hid hl
  have HRL : Hid (∀ k, k ≤ many → (rowsB (tgt l) first k).length ≤ 33562624) := Lib.hid (fun k hk => by
    have := rowsB_le (tgt l) N hN hok k first (by omega) (by omega)
    have : k * 8194 ≤ 4096 * 8194 := Nat.mul_le_mul_right _ (by omega)
    omega)
  have HML : Hid (∀ k, k ≤ many → (idxB (marksOf (tgt l) first k)).length ≤ 5000) := Lib.hid (fun k hk => by
    have := idxB_le (marksOf (tgt l) first k) (fun x hx => by
      unfold marksOf at hx
      obtain ⟨i, hi, rfl⟩ := List.mem_map.1 hx
      have hi := List.mem_range.1 hi
      have a := rowsB_le (tgt l) N hN hok (8 * i) first (by omega) (by omega)
      have b : 8 * i * 8194 ≤ 4096 * 8194 := Nat.mul_le_mul_right _ (by omega)
      exact Nat.lt_of_le_of_lt (Nat.le_trans a b) (by decide))
    rw [marksOf_len] at this
    omega)
  have hb7 : (first : Int) + (many : Int) ≤ 4096 := by omega
  obtain ⟨A, c, rfl, -⟩ := er_form h
  obtain ⟨ln, hln⟩ : ∃ ln, l.length = ln := ⟨_, rfl⟩
  rw [hln] at HE ⊢
  have HT : Hid (∀ W, Below w.heap.size w W → ∀ z : Int, Calls Try.prog 23 #[.slice A ln c, .int .i64 z] W fun e w' => ∃ v', e = .returned v' ∧ Hid (OJ w' W.heap.size v' (tgt l z)) ∧ Hid (Below W.heap.size W w')) := Lib.hid (fun W hW z => rtargets_calls g _ l z W (HE.out.later hW) HLL.out)
  have HS1 := Lib.hid (fun W => rshort_calls first (by omega) W)
  have HS2 := Lib.hid (fun W => rshort_calls many (by omega) W)
  have hz1 := shB_le 7 first (by omega)
  have hz2 := shB_le 7 many (by omega)
  have hl1 : (shS first).size ≤ 8 := hz1
  have hl2 : (shS many).size ≤ 8 := hz2
  have hs1 := shS_list first
  have hs2 := shS_list many
  obtain ⟨s1, e1⟩ : ∃ s, shS first = s := ⟨_, rfl⟩
  obtain ⟨s2, e2⟩ : ∃ s, shS many = s := ⟨_, rfl⟩
  rw [e1] at HS1 hl1 hs1
  rw [e2] at HS2 hl2 hs2
  obtain ⟨G, hG⟩ : ∃ G : ByteArray, (⟨(shardB (tgt l) first many).toArray⟩ : ByteArray) = G := ⟨_, rfl⟩
  rw [hG]
  have HG : Hid (∀ x : ByteArray, x.data.toList = shardB (tgt l) first many → x = G) := Lib.hid (fun x hx => by rw [← hG]; exact bytes_eq hx)
  have HSL1 := Lib.hid hs1
  have HSL2 := Lib.hid hs2
  have HI0 : Hid ((ByteArray.empty : ByteArray).data.toList = idxB (marksOf (tgt l) first 0)) := Lib.hid (by simp [marksOf, idxB])
  have HW0 : Hid ((ByteArray.empty : ByteArray).data.toList = rowsB (tgt l) first 0) := Lib.hid (by simp [rowsB])
  clear h hl hok hz1 hz2 hs1 hs2 e1 e2 hG hln
  go_enter Try.func10, Try.ntmps10
  go_upto_region 3 with (fail)
  go_loopw [7, 8, 9] (fun r t x wz => ∃ (k : Nat) (a b : ByteArray), r = .string a ∧ t = .string b ∧ x = .int .i64 (k : Int) ∧ k ≤ many ∧ Hid (a.data.toList = rowsB (tgt l) first k) ∧ Hid (b.data.toList = idxB (marksOf (tgt l) first k)) ∧ Hid (Below w.heap.size w wz)) (fun _ _ x _ => many - (intOf x).toNat)
  case atStart => exact ⟨0, _, _, rfl, rfl, rfl, Nat.zero_le _, HW0, HI0, Lib.hid (Below.refl _ _)⟩
  case round =>
    clear HI0 HW0
    obtain ⟨k, a, b, rfl, rfl, rfl, hk, HA, HI, HB⟩ := hrel
    have hra := HRL.out k hk
    have hrb := HML.out k hk
    rw [← HA.out, ← bytes_len (b := a) rfl] at hra
    rw [← HI.out, ← bytes_len (b := b) rfl] at hrb
    by_cases hlt : k < many
    · have i1 : (k : Int) < (many : Int) := by omega
      obtain ⟨o1, o2, o3⟩ := HOK.out ((first : Int) + (k : Int)) (by omega)
      have HPU : Hid (∀ (W : World) (g : Nat) (u : Value), JR W g u (tgt l ((first : Int) + (k : Int))) → Calls Try.prog 22 #[.int .i64 ((first : Int) + (k : Int)), u] W fun e w' => e = .returned (.string ⟨(gapB ((first : Int) + (k : Int)) (tgt l ((first : Int) + (k : Int)))).toArray⟩) ∧ Hid (Below W.heap.size W w')) := Lib.hid (fun W g u h => rgput_calls N hN ((first : Int) + (k : Int)) (by omega) g u _ W h o1 o2 o3)
      have hsn := rowsB_snoc (tgt l) k (first : Int)
      have hr2 := HRL.out (k + 1) (by omega)
      obtain ⟨gb, hgb⟩ : ∃ gb : ByteArray, (⟨(gapB ((first : Int) + (k : Int)) (tgt l ((first : Int) + (k : Int)))).toArray⟩ : ByteArray) = gb := ⟨_, rfl⟩
      have hgl : gb.data.toList = gapB ((first : Int) + (k : Int)) (tgt l ((first : Int) + (k : Int))) := by rw [← hgb]
      rw [hgb] at HPU
      have HSN : Hid ((a ++ gb).data.toList = rowsB (tgt l) first (k + 1)) := Lib.hid (by rw [bytes_app, HA.out, hgl, hsn])
      rw [← HSN.out, ← bytes_len (b := a ++ gb) rfl, ByteArray.size_append] at hr2
      have hm8 := marksOf_step (tgt l) (first : Int) k
      have hf1 : (first : Int) + (k : Int) ≤ 4096 := by omega
      clear o1 o2 o3 hsn hgb hgl
      by_cases h8 : k % 8 = 0
      · rw [if_pos h8] at hm8
        have HSC := Lib.hid (fun W => rshort_calls a.size (by omega) W)
        have hz3 := shB_le 7 a.size (by omega)
        have hl3 : (shS a.size).size ≤ 8 := hz3
        have hs3 := shS_list a.size
        have hal : (rowsB (tgt l) (first : Int) k).length = a.size := by rw [← HA.out]; exact (bytes_len rfl).symm
        obtain ⟨s3, e3⟩ : ∃ s, shS a.size = s := ⟨_, rfl⟩
        rw [e3] at HSC hl3 hs3
        have HMS : Hid ((b ++ s3).data.toList = idxB (marksOf (tgt l) (first : Int) (k + 1))) := Lib.hid (by rw [bytes_app, HI.out, hs3, hm8, idxB_snoc, hal])
        have m1 : (k : Int) % 8 = 0 := by omega
        have m2 : (k : Int).tmod 8 = 0 := by rw [Int.tmod_eq_emod_of_nonneg (by omega)]; exact m1
        clear hm8 hz3 hs3 e3 hal
        go_wp2_with (first
          | (go_at_call 21; refine (HSC.out _).mono ?_; rintro e w2 ⟨rfl, HB2⟩; have HB := Lib.hid (HB.out.trans (HB2.out.mono HB.out.size)))
          | (go_at_call 23; refine (HT.out _ HB.out _).mono ?_; rintro e w5 ⟨v5, rfl, HO5, HB5⟩; obtain ⟨g5, hg5, -⟩ := HO5.out.reads; have HJ5 := Lib.hid hg5; clear hg5; have HB := Lib.hid (HB.out.trans (HB5.out.mono HB.out.size)))
          | (go_at_call 22; refine (HPU.out _ g5 _ HJ5.out).mono ?_; rintro e w7 ⟨rfl, HB7⟩; have HB := Lib.hid (HB.out.trans (HB7.out.mono HB.out.size))))
        go_roundw
        case rel => exact ⟨k + 1, a ++ gb, b ++ s3, rfl, rfl, by go_num, by omega, HSN, HMS, HB⟩
        case measure => simp [intOf]; omega
      · rw [if_neg h8] at hm8
        have HMS : Hid (b.data.toList = idxB (marksOf (tgt l) (first : Int) (k + 1))) := Lib.hid (by rw [HI.out, hm8])
        have m1 : ¬ (k : Int) % 8 = 0 := by omega
        have m2 : ¬ (k : Int).tmod 8 = 0 := by rw [Int.tmod_eq_emod_of_nonneg (by omega)]; exact m1
        clear hm8
        go_wp2_with (first
          | (go_at_call 23; refine (HT.out _ HB.out _).mono ?_; rintro e w5 ⟨v5, rfl, HO5, HB5⟩; obtain ⟨g5, hg5, -⟩ := HO5.out.reads; have HJ5 := Lib.hid hg5; clear hg5; have HB := Lib.hid (HB.out.trans (HB5.out.mono HB.out.size)))
          | (go_at_call 22; refine (HPU.out _ g5 _ HJ5.out).mono ?_; rintro e w7 ⟨rfl, HB7⟩; have HB := Lib.hid (HB.out.trans (HB7.out.mono HB.out.size))))
        go_roundw
        case rel => exact ⟨k + 1, a ++ gb, b, rfl, rfl, by go_num, by omega, HSN, HMS, HB⟩
        case measure => simp [intOf]; omega
    · obtain rfl : many = k := by omega
      have i1 : ¬ (many : Int) < (many : Int) := by omega
      have HF := Lib.hid (HG.out (s1 ++ s2 ++ b ++ a) (by rw [bytes_app, bytes_app, bytes_app, HSL1.out, HSL2.out, HI.out, HA.out]; rfl))
      have z1 : (s1 ++ s2).size ≤ 16 := by rw [ByteArray.size_append]; omega
      have z2 : (s1 ++ s2 ++ b).size ≤ 6000 := by rw [ByteArray.size_append, ByteArray.size_append]; omega
      go_wp2_with (first
        | (go_at_call 21; (with_reducible show Calls Try.prog 21 #[.int .i64 (first : Int)] _ _); refine (HS1.out _).mono ?_; rintro e w2 ⟨rfl, HB2⟩; have HB := Lib.hid (HB.out.trans (HB2.out.mono HB.out.size)))
        | (go_at_call 21; refine (HS2.out _).mono ?_; rintro e w2 ⟨rfl, HB2⟩; have HB := Lib.hid (HB.out.trans (HB2.out.mono HB.out.size))))
      go_ret
      exact ⟨by rw [← HF.out]; rfl, HB⟩
end Go.Proofs.Ytjokfllldcjheaa.Oc
