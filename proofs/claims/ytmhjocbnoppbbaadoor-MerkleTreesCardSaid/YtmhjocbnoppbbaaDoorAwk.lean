/- The document's example of layer 9, walked. -/
import Derived.Test.YtmhjocbnoppbbaaDoorProve
import Derived.Test.YtmhjocbnoppbbaaDoorUp
namespace Go.Proofs.YtmhjocbnoppbbaaDoor.Mk
open Go.RowKit Go.Proofs.YtmhjocbnoppbbaaDoor.Sha
set_option linter.unusedVariables false
set_option linter.unusedSimpArgs false

def tA : ByteArray := ⟨#[97]⟩
def tB : ByteArray := ⟨#[98]⟩
def tC : ByteArray := ⟨#[99]⟩
def tD : ByteArray := ⟨#[100]⟩
def abc : List ByteArray := [tA, tB, tC]
theorem hb3 : hb 3 = 2 := by decide
theorem hb2 : hb 2 = 1 := by decide
theorem sides23 : sidesB 2 3 = [false] := by
  rw [sidesB_right 2 3 (by omega) (by rw [hb3]; omega), hb3, sidesB_one _ _ (by omega)]
theorem steps23 : stepsN 2 3 = 1 := by
  unfold stepsN
  rw [if_pos (by omega), show (2 : Int).toNat = 2 from rfl, show (3 : Int).toNat = 3 from rfl, sides23]
  rfl
theorem steps03 : stepsN 0 3 = 2 := by
  unfold stepsN
  rw [if_pos (by omega), show (0 : Int).toNat = 0 from rfl, show (3 : Int).toNat = 3 from rfl, sidesB_left 0 3 (by omega) (by rw [hb3]; omega), hb3, sidesB_left 0 2 (by omega) (by rw [hb2]; omega), hb2, sidesB_one _ _ (by omega)]
  rfl
def nAB : ByteArray := nodeD (leafD tA) (leafD tB)
theorem proof2 : proofT (leaves abc) 2 0 3 = [nAB] := by
  rw [proofT_right _ 2 0 3 (by omega) (by rw [hb3]; omega), hb3, proofT_one _ _ _ _ (by omega), treeR_more _ 0 2 (by omega), hb2, treeR_one, treeR_one]
  rfl
theorem root3 : rootD abc = nodeD nAB (leafD tC) := by
  unfold rootD
  rw [if_neg (by simp [abc])]
  show treeR (leaves abc) 0 3 = _
  rw [treeR_more _ 0 3 (by omega), hb3, treeR_more _ 0 2 (by omega), hb2, treeR_one, treeR_one, treeR_one]
  rfl
theorem up3 (x : ByteArray) : upR 2 3 (leafD x) [nAB] = .inl (nodeD nAB (leafD x)) := by
  unfold upR
  rw [if_pos (by omega), show (2 : Int).toNat = 2 from rfl, show (3 : Int).toNat = 3 from rfl, sides23, if_pos ⟨rfl, leafD_size x, fun p hp => by
    rw [List.mem_singleton] at hp
    subst hp
    exact nodeD_size _ _⟩]
  rfl
theorem check_c : checkV (rootD abc) 2 3 tC [nAB] = .nilIface := by
  unfold checkV
  rw [up3, root3]
  simp
set_option maxRecDepth 1000000 in
theorem differ : nodeD nAB (leafD tD) ≠ nodeD nAB (leafD tC) := by decide +kernel
theorem check_d : checkV (rootD abc) 2 3 tD [nAB] = .iface 79 (.agg #[.int .i64 2, .iface 39 (.int .i64 11)]) := by
  unfold checkV
  rw [up3, root3]
  simp [differ]

set_option maxHeartbeats 2000000 in
set_option maxRecDepth 100000 in
theorem awake_calls (w : World) : Calls Tryd.prog 17 #[] w fun e w' => e = .returned (.bool true) ∧ Hid (Below w.heap.size w w') := by
  have hsz : ∀ s ∈ abc, s.size ≤ 900000 := by
    intro s hs
    simp only [abc, List.mem_cons, List.not_mem_nil, or_false] at hs
    rcases hs with rfl | rfl | rfl <;> decide
  have HSZ := Lib.hid hsz
  have hp2 := proof2
  have HP := Lib.hid hp2
  have H1 := Lib.hid steps23
  have H2 := Lib.hid steps03
  have HC : Hid (checkV (rootD abc) 2 3 ⟨#[99]⟩ [nAB] = .nilIface) := Lib.hid check_c
  have HD : Hid (checkV (rootD abc) 2 3 ⟨#[100]⟩ [nAB] = .iface 79 (.agg #[.int .i64 2, .iface 39 (.int .i64 11)])) := Lib.hid check_d
  have HSR : Hid (∀ w : World, SR (w.alloc (.cells #[.string ⟨#[97]⟩, .string ⟨#[98]⟩, .string ⟨#[99]⟩] 9)) w.heap.size (.slice (some ⟨w.heap.size, 0, none⟩) 3 3) abc) := Lib.hid (fun w => SR.lit w abc _ rfl 3 rfl (by simp [abc]))
  clear hsz hp2
  go_enter Tryd.func17, Tryd.ntmps17
  go_wp2_with (first
    | (go_at_call 30; refine (new_calls w.heap.size _ abc _ (HSR.out w) (by simp [abc]) HSZ.out).mono ?_; rintro e w1 ⟨tb, mb, g, v, rfl, HT1, HB1⟩)
    | (go_at_call 34; refine (proof_calls tb mb g v abc 2 w1 HT1.out (by simp [abc]) (by simp [abc])).mono ?_; rintro e w2 ⟨gp, pv, rfl, hs2, HB2⟩; have HS2 : Hid (SR w2 gp pv [nAB]) := (by rw [← HP.out]; exact hs2); obtain ⟨A2, c2, hv2, -⟩ := HS2.out; subst hv2; have HT2 := Lib.hid (HT1.out.later HB2.out); have HBW := Lib.hid (HB1.out.trans (HB2.out.mono HB1.out.size)); clear hs2)
    | (go_at_call 27; refine (steps_calls _ _ _).mono ?_; rintro e w3 ⟨rfl, HBx⟩; (first | rw [H1.out] | rw [H2.out]); have HT2 := Lib.hid (HT2.out.later HBx.out); have HS2 := Lib.hid (HS2.out.later HBx.out); have HBW := Lib.hid (HBW.out.trans (HBx.out.mono HBW.out.size)); clear HBx)
    | (go_at_call 31; refine (troot_calls tb mb g v abc _ HT2.out).mono ?_; rintro e w3 ⟨rfl, HBx⟩; have HT2 := Lib.hid (HT2.out.later HBx.out); have HS2 := Lib.hid (HS2.out.later HBx.out); have HBW := Lib.hid (HBW.out.trans (HBx.out.mono HBW.out.size)); clear HBx)
    | (go_at_call 21; refine (check_calls (rootD abc) 2 3 _ gp _ [nAB] _ HS2.out (by simp) (by decide)).mono ?_; rintro e w3 ⟨rfl, HBx⟩; (first | rw [HC.out] | rw [HD.out]); have HT2 := Lib.hid (HT2.out.later HBx.out); have HS2 := Lib.hid (HS2.out.later HBx.out); have HBW := Lib.hid (HBW.out.trans (HBx.out.mono HBW.out.size)); clear HBx))
  go_ret
  exact ⟨rfl, Lib.hid (Below.trans ((Below.refl _ _).alloc (Nat.le_refl _) _) (HBW.out.mono (by simp)))⟩
end Go.Proofs.YtmhjocbnoppbbaaDoor.Mk
