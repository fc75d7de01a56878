/- csr: row. -/
import Derived.Test.YtjokfllldcjheaaGreatDoorCb
namespace Go.Proofs.YtjokfllldcjheaaGreatDoor.Cs
open Go.RowKit Go.Proofs.YtjokfllldcjheaaGreatDoor.Ed Go.Proofs.YtjokfllldcjheaaGreatDoor.Ro
set_option linter.unusedVariables false
set_option linter.unusedSimpArgs false

theorem ret_slice {a : Option Addr} {n m c : Nat} {e : Value} (h : n = m) : Ending.returned (.tuple #[.slice a n c, e]) = .returned (.tuple #[.slice a m c, e]) := by rw [h]
set_option maxHeartbeats 4000000 in
set_option maxRecDepth 100000 in
theorem row_calls {w : World} {B p bb N : Nat} {tv : Value} {l : List E2} (h : CS w B p bb tv N l) (v : Nat) (hv : v < N) :
    Calls Tryz.prog 114 #[pV p, .int .i64 (v : Int)] w fun e w' => ∃ a c g, e = .returned (.tuple #[.slice a (deg l v) c, .nilIface]) ∧ Hid (JR w g (.slice a (deg l v) c) (tgt l v) ∧ (tgt l v ≠ [] → tv.ownBlock = some g)) ∧ Hid (Below w.heap.size w w') := by
  obtain ⟨c0, c1⟩ := h.cells
  have q0 := h.begAt v (by omega)
  have q1 := h.begAt (v + 1) (by omega)
  rw [show ((v + 1 : Nat) : Int) = (v : Int) + 1 by omega, bel_step] at q1
  have HN := Lib.hid (nodes_calls h)
  have hN := h.nodes
  have hbd := bel_deg l v
  have hfew := h.few
  have hpc := h.piece v hv
  have HT := Lib.hid (tgt_len l v)
  have i0 : (v : Int) < (N : Int) := by omega
  have i1 : (v : Int) < (N : Int) + 1 := by omega
  have i2 : IntKind.i64.wrap ((v : Int) + 1) = (v : Int) + 1 := IntWalk.i64_in _ (by omega)
  have i3 : (0 : Int) ≤ (v : Int) + 1 := by omega
  have i4 : (v : Int) + 1 < (N : Int) + 1 := by omega
  have i5 : ((v : Int) + 1).toNat = v + 1 := by omega
  have i6 : (0 : Int) ≤ (v : Int) := by omega
  have HC := Lib.hid h
  obtain ⟨b, hb⟩ : ∃ b, bel l v = b := ⟨_, rfl⟩
  obtain ⟨d, hd⟩ : ∃ d, deg l v = d := ⟨_, rfl⟩
  obtain ⟨t, ht⟩ : ∃ t, tgt l v = t := ⟨_, rfl⟩
  rw [hb] at q0 q1 hbd hpc
  rw [hd] at q1 hbd hpc HT ⊢
  rw [ht] at hpc HT ⊢
  clear h hb hd ht
  rcases hpc with ⟨A, o, c, rfl, hAl, hlc, hcm, hjr⟩ | ⟨rfl, rfl⟩
  · obtain ⟨n, hn⟩ : ∃ n, l.length = n := ⟨_, rfl⟩
    rw [hn] at c1 hbd hlc hfew
    have HJ := Lib.hid hjr
    have j0 : (0 : Int) ≤ (b : Int) := by omega
    have j1 : (b : Int) ≤ ((b + d : Nat) : Int) := by omega
    have j2 : ((b + d : Nat) : Int) ≤ (c : Int) := by omega
    clear hjr hn
    by_cases hcb : c = b
    · go_enter Tryz.func114, Tryz.ntmps114
      go_upto_region 5 with (go_at_call 43; refine HN.out.mono ?_; rintro e w1 ⟨rfl, rfl⟩)
      go_quiet (fail)
      go_wp2
      go_ret2
      obtain rfl : d = 0 := by omega
      have ht : t = [] := List.eq_nil_of_length_eq_zero HT.out
      exact ⟨_, _, 0, ret_slice (by omega), Lib.hid ⟨⟨_, _, 0, by rw [ht]; rfl, by rw [ht]; exact Nat.zero_le _, by omega, fun h => by rw [ht] at h; simp at h⟩, fun h => absurd ht h⟩, Lib.hid (Ed.drewN_below _ _ _)⟩
    · go_enter Tryz.func114, Tryz.ntmps114
      go_upto_region 5 with (go_at_call 43; refine HN.out.mono ?_; rintro e w1 ⟨rfl, rfl⟩)
      go_quiet (fail)
      go_wp2
      go_ret2
      exact ⟨_, _, A, ret_slice (by omega), Lib.hid ⟨HJ.out (o + b) (c - b) rfl (by omega) (by omega), fun _ => rfl⟩, Lib.hid (Ed.drewN_below _ _ _)⟩
  · rw [show (([] : List E2).length) = 0 from rfl] at hbd
    obtain rfl : b = 0 := by omega
    obtain rfl : d = 0 := by omega
    have ht : t = [] := List.eq_nil_of_length_eq_zero HT.out
    go_enter Tryz.func114, Tryz.ntmps114
    go_upto_region 5 with (go_at_call 43; refine HN.out.mono ?_; rintro e w1 ⟨rfl, rfl⟩)
    go_quiet (fail)
    go_wp2
    go_ret2
    exact ⟨_, _, 0, ret_slice (by omega), Lib.hid ⟨⟨_, _, 0, by rw [ht]; rfl, by rw [ht]; exact Nat.zero_le _, by omega, fun h => by rw [ht] at h; simp at h⟩, fun h => absurd ht h⟩, Lib.hid (Ed.drewN_below _ _ _)⟩
end Go.Proofs.YtjokfllldcjheaaGreatDoor.Cs
