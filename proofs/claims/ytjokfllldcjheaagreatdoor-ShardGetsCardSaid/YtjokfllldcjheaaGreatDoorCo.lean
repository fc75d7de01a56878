/- csr: Turned, Same. -/
import Derived.Test.YtjokfllldcjheaaGreatDoorCn
import Derived.BigQuiet
namespace Go.Proofs.YtjokfllldcjheaaGreatDoor.Cs
open Go.RowKit Go.Proofs.YtjokfllldcjheaaGreatDoor.Ed Go.Proofs.YtjokfllldcjheaaGreatDoor.Ro
set_option linter.unusedVariables false
set_option linter.unusedSimpArgs false
set_option maxHeartbeats 2000000 in
set_option maxRecDepth 100000 in
theorem csame_q {w : World} {B p bb N B2 p2 bb2 M : Nat} {tv tv2 : Value} {l m : List E2} (h : CS w B p bb tv N l) (h2 : CS w B2 p2 bb2 tv2 M m) :
    Calls Tryz.prog 16 #[pV p, pV p2] w fun e w' => e = .returned (.bool (decide (N = M ∧ l = m))) ∧ ∃ q, w' = w.drewN q := by
  obtain ⟨c0, c1⟩ := h.cells
  obtain ⟨d0, d1⟩ := h2.cells
  obtain ⟨g1, hg1, -⟩ := h.beg.reads
  obtain ⟨g2, hg2, -⟩ := h2.beg.reads
  obtain ⟨g3, hg3, -⟩ := h.row.reads
  obtain ⟨g4, hg4, -⟩ := h2.row.reads
  have he := rows_eq h.up h2.up h.ok h2.ok
  obtain ⟨r1, hr1⟩ : ∃ r, decide (rowF (begF l) (N + 1) = rowF (begF m) (M + 1)) = r := ⟨_, rfl⟩
  obtain ⟨r2, hr2⟩ : ∃ r, decide (tos l = tos m) = r := ⟨_, rfl⟩
  have hd : decide (N = M ∧ l = m) = (r1 && r2) := by
    rw [← hr1, ← hr2, ← Bool.decide_and, decide_eq_decide]; exact he.symm
  rw [hd]
  have HQ1 : Hid (∀ n, Calls Tryz.prog 47 #[begV bb N, begV bb2 M] (w.drewN n) fun e w' => e = .returned (.bool r1) ∧ ∃ m, w' = w.drewN m) := Lib.hid (fun n => iequal_quiet g1 g2 _ _ _ _ w hg1 hg2 r1 hr1 n)
  obtain ⟨A3, k3, rfl, -⟩ := h.row.shape
  obtain ⟨A4, k4, rfl, -⟩ := h2.row.shape
  have HQ2 : Hid (∀ n, Calls Tryz.prog 47 #[.slice A3 (tos l).length k3, .slice A4 (tos m).length k4] (w.drewN n) fun e w' => e = .returned (.bool r2) ∧ ∃ m, w' = w.drewN m) := Lib.hid (fun n => iequal_quiet g3 g4 _ _ _ _ w hg3 hg4 r2 hr2 n)
  generalize (tos l).length = n1 at HQ2 c1
  generalize (tos m).length = n2 at HQ2 d1
  clear hd hr1 hr2 he h h2 hg1 hg2 hg3 hg4
  cases r1
  · go_enter Tryz.func16, Tryz.ntmps16
    go_upto_region 3 with (fail)
    go_big_quiet (first | (go_at_call 47; (with_reducible show Calls Tryz.prog 47 #[begV bb N, begV bb2 M] _ _); exact HQ1.out _) | (go_at_call 47; exact HQ2.out _))
    go_wp2
    go_ret
    exact ⟨rfl, _, rfl⟩
  · go_enter Tryz.func16, Tryz.ntmps16
    go_upto_region 3 with (fail)
    go_big_quiet (first | (go_at_call 47; (with_reducible show Calls Tryz.prog 47 #[begV bb N, begV bb2 M] _ _); exact HQ1.out _) | (go_at_call 47; exact HQ2.out _))
    go_wp2
    go_ret
    exact ⟨rfl, _, rfl⟩
theorem csame_calls {w : World} {B p bb N B2 p2 bb2 M : Nat} {tv tv2 : Value} {l m : List E2} (h : CS w B p bb tv N l) (h2 : CS w B2 p2 bb2 tv2 M m) :
    Calls Tryz.prog 16 #[pV p, pV p2] w fun e w' => e = .returned (.bool (decide (N = M ∧ l = m))) ∧ Hid (Below w.heap.size w w') :=
  (csame_q h h2).mono fun e w' ⟨he, q, hq⟩ => ⟨he, Lib.hid (by rw [hq]; exact Ed.drewN_below _ _ _)⟩
theorem csame_quiet {w : World} {B p bb N B2 p2 bb2 M : Nat} {tv tv2 : Value} {l m : List E2} (h : CS w B p bb tv N l) (h2 : CS w B2 p2 bb2 tv2 M m) (r : Bool) (hr : decide (N = M ∧ l = m) = r) (n : Nat) :
    Calls Tryz.prog 16 #[pV p, pV p2] (w.drewN n) fun e w' => e = .returned (.bool r) ∧ ∃ q, w' = w.drewN q := by
  refine (csame_q (h.later (Ed.drewN_below _ _ n)) (h2.later (Ed.drewN_below _ _ n))).mono ?_
  rintro e w' ⟨he, q, rfl⟩
  exact ⟨by rw [he, hr], n + q, by simp [World.drewN, Nat.add_assoc]⟩
end Go.Proofs.YtjokfllldcjheaaGreatDoor.Cs
