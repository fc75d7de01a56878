/- edges: Norm. -/
import Derived.Test.YtjokfllldcjheaaGreatDoorEh
namespace Go.Proofs.YtjokfllldcjheaaGreatDoor.Ed
open Go.RowKit Go.Sort
set_option linter.unusedVariables false
set_option linter.unusedSimpArgs false

set_option maxHeartbeats 2000000 in
set_option maxRecDepth 100000 in
theorem compact_calls (base : Nat) (v : Value) (l : List E2) (w : World) (h : EO w base v l) (hl : l.length ≤ 1000000) :
    Calls Tryz.prog 77 #[v] w fun e w' => ∃ v', e = .returned v' ∧ EO w' base v' (ddp l) ∧ w.grownBy w' v.ownBlock := by
  by_cases h2 : l.length < 2
  · have HE : Hid (EO w base v (ddp l)) := Lib.hid (by rw [ddp_short h2]; exact h)
    obtain ⟨A, c, rfl, h3, h4⟩ := h.shape
    obtain ⟨n, hn⟩ : ∃ n, l.length = n := ⟨_, rfl⟩
    rw [hn] at h2 h3 HE ⊢
    have hb : (n : Int) < 2 := by omega
    clear h hn
    go_enter Tryz.func77, Tryz.ntmps77
    go_wp2
    go_ret
    exact ⟨_, rfl, HE.out, World.grownBy.refl _ _⟩
  · rcases h.2 with ⟨rfl, hn⟩ | ⟨g, cap, cur, rfl, hb, hg, hrest⟩
    · omega
    · refine (compact_two base g cap l.length l w h rfl hl (by omega)).mono ?_
      rintro e w' ⟨m, rfl, h1, h2⟩
      exact ⟨_, rfl, h1, h2⟩
theorem norm_is {l l' : List E2} (hp : l'.Perm l) (hs : Srt l') : ddp l' = nrm l := nrm_eq (ddp_up hs) fun x => by rw [mem_ddp]; exact hp.mem_iff
set_option maxHeartbeats 2000000 in
set_option maxRecDepth 100000 in
theorem norm_ok (n : Int) (g : Nat) (v : Value) (l : List E2) (w : World) (h : ER w g v l) (hl : l.length ≤ 1000000) (hw : wrg n l = -2) :
    Calls Tryz.prog 41 #[.int .i64 n, v] w fun e w' => ∃ v', e = .returned (.tuple #[v', .nilIface]) ∧ Hid (EO w' w.heap.size v' (nrm l)) ∧ Hid (Below w.heap.size w w') := by
  have HE := Lib.hid h
  have HC := Lib.hid (check_calls n g v l w h hl)
  have HCV : Hid (chkV n l = .nilIface) := Lib.hid (by unfold chkV; rw [if_pos hw])
  obtain ⟨o, A, c, rfl, h1, h2, -⟩ := id h
  clear h hw
  go_enter Tryz.func41, Tryz.ntmps41
  go_wp2_with (first
    | (go_at_call 73; refine HC.out.mono ?_; rw [HCV.out]; rintro e w1 ⟨rfl, HB⟩)
    | (go_at_call 74; refine (clone_calls g _ l _ (HE.out.later HB.out) hl).mono ?_; rintro e w2 ⟨v2, rfl, ho, hb⟩; obtain ⟨vA, vc, rfl, -, -⟩ := id ho.shape; have HO := Lib.hid ho; have HB2 := Lib.hid hb; clear ho hb)
    | (go_at_call 75; refine (sort_calls _ _ l _ HO.out hl).mono ?_; rintro e w3 ⟨rfl, l', hp, hs, ho, hg⟩; have HP := Lib.hid (And.intro hp hs); have HO3 := Lib.hid ho; have HG := Lib.hid hg; clear hp hs ho hg)
    | (go_at_call 77; refine (compact_calls _ _ l' _ HO3.out (by rw [HP.out.1.length_eq]; exact hl)).mono ?_; rintro e w4 ⟨v4, rfl, ho, hg⟩; have HO4 := Lib.hid ho; have HG4 := Lib.hid hg; clear ho hg))
  go_ret2
  have hsz := HB.out.size
  have hbase := HO.out.base
  refine ⟨v4, rfl, Lib.hid ?_, Lib.hid ?_⟩
  · rw [← norm_is HP.out.1 HP.out.2]
    exact HO4.out.mono hsz
  · have b1 := HB.out.trans (HB2.out.mono hsz)
    have b2 := b1.grown HG.out b1.size (fun k hk => by have := hbase k hk; omega)
    exact b2.grown HG4.out b2.size (fun k hk => by have := hbase k hk; omega)
set_option maxHeartbeats 2000000 in
set_option maxRecDepth 100000 in
theorem norm_bad (n : Int) (g : Nat) (v : Value) (l : List E2) (w : World) (h : ER w g v l) (hl : l.length ≤ 1000000) (hw : wrg n l ≠ -2) :
    Calls Tryz.prog 41 #[.int .i64 n, v] w fun e w' => e = .returned (.tuple #[.slice none 0 0, errV (wrg n l)]) ∧ Hid (Below w.heap.size w w') := by
  have HC := Lib.hid (check_calls n g v l w h hl)
  have HCV : Hid (chkV n l = errV (wrg n l)) := Lib.hid (by unfold chkV; rw [if_neg hw])
  obtain ⟨o, A, c, rfl, h1, h2, -⟩ := id h
  generalize wrg n l = a at *
  clear h hw
  go_enter Tryz.func41, Tryz.ntmps41
  go_wp2_with (first
    | (go_at_call 73; refine HC.out.mono ?_; rw [HCV.out]; unfold errV; rintro e w1 ⟨rfl, HB⟩))
  go_ret2
  exact ⟨rfl, HB⟩
end Go.Proofs.YtjokfllldcjheaaGreatDoor.Ed
