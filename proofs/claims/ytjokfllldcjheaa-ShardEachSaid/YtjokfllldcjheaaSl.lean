/- shard, walked: Split. -/
import Derived.Test.YtjokfllldcjheaaTx
namespace Go.Proofs.Ytjokfllldcjheaa.Oc
open Go.RowKit Go.Proofs.Ytjokfllldcjheaa.Sha Go.Proofs.Ytjokfllldcjheaa.Ro Go.Proofs.Ytjokfllldcjheaa.Cs Go.Proofs.Ytjokfllldcjheaa.Ed
set_option linter.unusedVariables false
set_option linter.unusedSimpArgs false
/-- the k-th of the shards that have e nodes each -/
def partB (t : Int → List Int) (N e k : Nat) : ByteArray := ⟨(shardB t (k * e) (min e (N - k * e))).toArray⟩
/-- the first k shards -/
def partsB (t : Int → List Int) (N e k : Nat) : List ByteArray := (List.range k).map (partB t N e)
theorem partsB_len (t : Int → List Int) (N e k : Nat) : (partsB t N e k).length = k := by simp [partsB]
theorem partsB_succ (t : Int → List Int) (N e k : Nat) : partsB t N e (k + 1) = partsB t N e k ++ [partB t N e k] := by
  unfold partsB; rw [List.range_succ, List.map_append]; rfl
theorem many_le {N e k : Nat} (he : 1 ≤ e) (h : k * e < N) : k < (N + e - 1) / e := by
  rw [Nat.lt_div_iff_mul_lt (by omega)] <;> omega
theorem OT_shape {w : World} {base : Nat} {v : Value} {zs : List ByteArray} (h : OT w base v zs) : ∃ A c, v = .slice A zs.length c ∧ zs.length ≤ c := by
  rcases h.2 with ⟨rfl, e⟩ | ⟨g, cap, cur, rfl, -, -, hn, -⟩
  · exact ⟨none, 0, by rw [e], by omega⟩
  · exact ⟨_, _, rfl, hn⟩
set_option maxHeartbeats 4000000 in
set_option maxRecDepth 100000 in
theorem split_calls {w : World} {B p bb N : Nat} {tv : Value} {l : List E2} (hc : CS w B p bb tv N l) (each : Nat) (h1 : 1 ≤ each) (h2 : each < 4096) (h3 : (N + each - 1) / each ≤ 64) :
    Calls Try.prog 6 #[pV p, .int .i64 (each : Int)] w fun e w' => ∃ v, e = .returned (.tuple #[v, .nilIface]) ∧ Hid (OT w' w.heap.size v (partsB (tgt l) N each ((N + each - 1) / each))) ∧ Hid (Below w.heap.size w w') := by
  have hN := hc.nodes
  have HC := Lib.hid hc
  have HNO : Hid (∀ W, Below w.heap.size w W → Calls Try.prog 13 #[pV p] W fun e w' => e = .returned (.int .i64 (N : Int)) ∧ W = w') := Lib.hid (fun W h => nodes_calls (HC.out.later h))
  have b1 : (each : Int) < 4096 := by omega
  have b2 : ¬ (each : Int) < 1 := by omega
  have b3 : ((N : Int) + (each : Int) - 1) / (each : Int) ≤ 64 := by
    rw [show (N : Int) + (each : Int) - 1 = ((N + each - 1 : Nat) : Int) by omega, ← Int.natCast_ediv]
    omega
  clear hc
  go_enter Try.func6, Try.ntmps6
  go_upto_region 7 with (go_at_call 13; refine (HNO.out _ (Below.refl _ _)).mono ?_; rintro e w1 ⟨rfl, rfl⟩)
  clear b3
  go_loopw [6, 7] (fun u x wz => ∃ (k f : Nat), x = .int .i64 (f : Int) ∧ f ≤ N + each ∧ Hid (f = k * each ∧ k ≤ (N + each - 1) / each) ∧ Hid (OT wz w.heap.size u (partsB (tgt l) N each k)) ∧ Hid (Below w.heap.size w wz)) (fun _ x _ => N - (intOf x).toNat)
  case atStart => exact ⟨0, 0, rfl, Nat.zero_le _, Lib.hid ⟨by omega, Nat.zero_le _⟩, Lib.hid (OT.nil _ _), Lib.hid (Below.refl _ _)⟩
  case round =>
    obtain ⟨k, f, rfl, hf, HK, HO, HB⟩ := hrel
    have HLN : Hid ((partsB (tgt l) N each k).length ≤ 64) := Lib.hid (by rw [partsB_len]; have := HK.out.2; omega)
    have HBS := Lib.hid HB.out.size
    by_cases hlt : f < N
    · have i1 : (f : Int) < (N : Int) := by omega
      obtain ⟨m, hm⟩ : ∃ m, min each (N - f) = m := ⟨_, rfl⟩
      have hm1 : 1 ≤ m := by omega
      have hm2 : f + m ≤ N := by omega
      have hmi : min (each : Int) ((N : Int) - (f : Int)) = (m : Int) := by omega
      have HP := Lib.hid (sput_calls (HC.out.later HB.out) f m hm1 hm2)
      obtain ⟨ps, hps⟩ : ∃ ps : ByteArray, (⟨(shardB (tgt l) f m).toArray⟩ : ByteArray) = ps := ⟨_, rfl⟩
      rw [hps] at HP
      have HPS : Hid (partB (tgt l) N each k = ps) := Lib.hid (by rw [← hps, ← hm, HK.out.1]; rfl)
      clear hm hps
      go_upto_region 12 with (first
        | (go_at_call 13; refine (HNO.out _ HB.out).mono ?_; rintro e w1 ⟨rfl, rfl⟩)
        | (go_at_call 14; refine HP.out.mono ?_; rintro e w2 ⟨rfl, HB2⟩))
      obtain ⟨uA, uc, hu, -⟩ := OT_shape HO.out
      obtain ⟨un, hun⟩ : ∃ un, (partsB (tgt l) N each k).length = un := ⟨_, rfl⟩
      rw [hun] at hu
      subst hu
      have HO2 := Lib.hid (HO.out.later HB2.out)
      have hmi2 : min (each : Int) 4096 = (each : Int) := by omega
      clear hun hmi
      go_wp2_with (at_builtin; refine OT.append_on (base := w.heap.size) (HO2.out.alloc _) (SR.lit _ [ps] _ rfl 1 rfl (by simp)) (by simp) rfl _ _ rfl rfl rfl (by have := HBS.out; have := HB2.out.size; simp; omega) (by have := HLN.out; simp only [List.length_cons, List.length_nil]; omega) ?_; intro v3 w3 k1 k2; have K1 := Lib.hid k1; have K2 := Lib.hid k2; clear k1 k2)
      go_roundw
      case rel => exact ⟨k + 1, f + each, by go_num, by omega, Lib.hid ⟨by rw [HK.out.1, Nat.add_mul, Nat.one_mul], many_le h1 (by have := HK.out.1; omega)⟩, Lib.hid (by rw [partsB_succ, HPS.out]; exact K1.out), Lib.hid (((HB.out.trans (HB2.out.mono HBS.out)).alloc (by have := HBS.out; have := HB2.out.size; omega) _).grown K2.out (by have := HBS.out; have := HB2.out.size; simp; omega) HO.out.base)⟩
      case measure => simp [intOf]; omega
    · have i1 : ¬ (f : Int) < (N : Int) := by omega
      have HE : Hid (k = (N + each - 1) / each) := Lib.hid (by
        have h := HK.out
        refine Nat.le_antisymm h.2 ?_
        rw [h.1] at hlt
        refine Nat.le_of_lt_succ ((Nat.div_lt_iff_lt_mul (by omega)).2 ?_)
        rw [Nat.succ_mul]; omega)
      go_wp2_with (go_at_call 13; refine (HNO.out _ HB.out).mono ?_; rintro e w1 ⟨rfl, rfl⟩)
      go_ret2
      exact ⟨_, rfl, Lib.hid (by rw [← HE.out]; exact HO.out), HB⟩
end Go.Proofs.Ytjokfllldcjheaa.Oc
