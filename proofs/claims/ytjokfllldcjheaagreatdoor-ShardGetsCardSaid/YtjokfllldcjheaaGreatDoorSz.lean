/- shard: the law's example. -/
import Derived.Test.YtjokfllldcjheaaGreatDoorRh
import Derived.Lib.OthersKept
namespace Go.Proofs.YtjokfllldcjheaaGreatDoor.Oc
open Go.RowKit Go.Proofs.YtjokfllldcjheaaGreatDoor.Sha Go.Proofs.YtjokfllldcjheaaGreatDoor.Ro Go.Proofs.YtjokfllldcjheaaGreatDoor.Cs Go.Proofs.YtjokfllldcjheaaGreatDoor.Ed
set_option linter.unusedVariables false
set_option linter.unusedSimpArgs false
set_option maxHeartbeats 4000000 in
set_option maxRecDepth 100000 in
theorem sawake_calls (w : World) : Calls Tryz.prog 9 #[] w fun e w' => e = .returned (.bool true) ∧ Hid (Below w.heap.size w w') := by
  have HBU := Lib.hid (build_ok 20 0 (.slice none 0 0) [] w (ER.nil w) (by simp) (wrg_ok.2 ⟨by omega, by omega, by simp, fun e he => by simp at he⟩))
  have HSP : Hid (∀ (W : World) (B p bb : Nat) (tv : Value), CS W B p bb tv 20 (nrm []) → Calls Tryz.prog 11 #[pV p, .int .i64 8] W fun e w' => ∃ v, e = .returned (.tuple #[v, .nilIface]) ∧ Hid (OT w' W.heap.size v (partsB (tgt (nrm [])) 20 8 3)) ∧ Hid (Below W.heap.size W w')) := Lib.hid (fun W B p bb tv h => split_calls h 8 (by omega) (by omega) (by omega))
  obtain ⟨s, hs⟩ : ∃ s, partB (tgt (nrm [])) 20 8 1 = s := ⟨_, rfl⟩
  have HPU : Hid (∀ W, Calls Tryz.prog 17 #[.slice none 0 0, .int .i64 8, .int .i64 8] W fun e w' => e = .returned (.string s) ∧ Hid (Below W.heap.size W w')) := Lib.hid (fun W => by
    rw [← hs]
    exact rput_calls 20 (by omega) 0 (.slice none 0 0) [] W (ER.nil W) (by simp) (fun v hv => ⟨fun x hx => by simp [tgt] at hx, by simp [tgt], by simp [tgt]⟩) 8 8 (by omega))
  have HPS : Hid (partsB (tgt (nrm [])) 20 8 3 = [partB (tgt (nrm [])) 20 8 0, s, partB (tgt (nrm [])) 20 8 2]) := Lib.hid (by rw [← hs]; rfl)
  clear hs
  go_enter Tryz.func9, Tryz.ntmps9
  go_upto_region 4 with (go_at_call 10; refine HBU.out.mono ?_; rintro e w1 ⟨p, bb, tv, rfl, HC, HB⟩)
  go_upto_region 5 with (go_at_call 11; refine (HSP.out _ _ _ _ _ HC.out).mono ?_; rintro e w2 ⟨v, rfl, HO, HB2⟩)
  have HBW := Lib.hid (HB.out.trans (HB2.out.mono HB.out.size))
  obtain ⟨g, hg⟩ := HO.out.reads
  rw [HPS.out] at hg
  obtain ⟨o, c, rfl, -, -, hcell⟩ := hg.form (Nat.succ_pos _)
  have q := hcell 1 s rfl
  have HSS : Hid (∀ X, Below w2.heap.size w2 X → X.cell? ⟨g, o + 1, none⟩ = some (.string s)) := Lib.hid (fun X h => (h.cell (p := ⟨g, o + 1, none⟩) (World.block_lt_of_cell? _ _ q)).trans q)
  have HBB : Hid (Below w2.heap.size w2 w2.drew) := Lib.hid (Below.refl _ _).drew
  clear hcell hg HO HC HBU HSP HPS
  go_region_held3 (fun X => X.cell? ⟨g, o + 1, none⟩ = some (.string s))
    (first | (go_keep; done) | exact HSS.out _ HBB.out)
    (first
      | (go_at_call 17; refine (HPU.out _).mono ?_; rintro e w3 ⟨rfl, HB3⟩; have HBB := Lib.hid (HBB.out.trans (HB3.out.mono HBB.out.size))))
  go_wp2
  go_ret
  exact ⟨rfl, Lib.hid (HBW.out.trans (HBB.out.mono HBW.out.size))⟩
end Go.Proofs.YtjokfllldcjheaaGreatDoor.Oc
