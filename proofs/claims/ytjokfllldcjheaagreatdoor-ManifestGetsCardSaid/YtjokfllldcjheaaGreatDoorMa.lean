/- reference 10 and the laws of layer 10: awake, great; Put of one that may not be. -/
import Derived.Test.YtjokfllldcjheaaGreatDoorMk
import Derived.Test.YtjokfllldcjheaaGreatDoorMu
namespace Go.Proofs.YtjokfllldcjheaaGreatDoor.Mn
open Go.RowKit Go.Proofs.YtjokfllldcjheaaGreatDoor.Oc Go.Proofs.YtjokfllldcjheaaGreatDoor.Ed Go.Proofs.YtjokfllldcjheaaGreatDoor.Tb Go.Proofs.YtjokfllldcjheaaGreatDoor.Sha Go.Proofs.YtjokfllldcjheaaGreatDoor.Cs Go.Proofs.YtjokfllldcjheaaGreatDoor.Mk
set_option linter.unusedVariables false
set_option linter.unusedSimpArgs false
set_option maxHeartbeats 4000000 in
set_option maxRecDepth 100000 in
theorem mput_bad (m : Man) (g : Nat) (tv : Value) (w : World) (hr : TBR w g tv m.sh) (hm : ¬ May m) :
    Calls Tryz.prog 40 #[manV m tv] w fun e w' => ∃ z : Int, e = .returned (.tuple #[.string ByteArray.empty, faultV z 4]) ∧ 0 ≤ z ∧ Hid (Below w.heap.size w w') := by
  have HC : Hid (∀ W, Below w.heap.size w W → Calls Tryz.prog 60 #[manV m tv] W fun e w' => ∃ z : Int, e = .returned (faultV z 4) ∧ 0 ≤ z ∧ Hid (Below W.heap.size W w')) := Lib.hid (fun W h => mcheck_bad m g tv W (hr.later h) hm)
  obtain ⟨o, A, c, rfl, -⟩ := hr
  obtain ⟨i0, i1, i2, l, i4, rt⟩ := m
  have HBX : Hid (Below w.heap.size w (w.alloc (.cells #[.int .i64 i0, .int .i64 i1, .int .i64 i2, .slice A l.length c, .int .i64 i4, .string rt] 73))) := Lib.hid ((Below.refl _ _).alloc (Nat.le_refl _) _)
  clear hm
  go_enter Tryz.func40, Tryz.ntmps40
  go_wp2_with (go_at_call 60; refine (HC.out _ HBX.out).mono ?_; rintro e w1 ⟨z, rfl, hz, HB1⟩)
  go_ret2
  exact ⟨z, rfl, hz, Lib.hid (HBX.out.trans (HB1.out.mono HBX.out.size))⟩
theorem made_none (V : Int) : made V (tgt (nrm [])) 0 (nrm []).length 8 0 = ⟨V, 0, 0, [], 0, rootD []⟩ ∧ blks (allB (tgt (nrm [])) 0 8 0) (bcnt (allB (tgt (nrm [])) 0 8 0)) = [] := by
  have e : nrm ([] : List E2) = [] := by
    have := nrm_len ([] : List E2)
    exact List.eq_nil_of_length_eq_zero (by simpa using this)
  rw [e]
  exact ⟨rfl, rfl⟩
set_option maxHeartbeats 4000000 in
set_option maxRecDepth 100000 in
theorem awake10_calls (w : World) : Calls Tryz.prog 27 #[] w fun e w' => e = .returned (.bool true) ∧ Hid (Below w.heap.size w w') := by
  have HM : Hid (Calls Tryz.prog 28 #[.int .i64 1, .int .i64 0, .int .i64 8, .slice none 0 0] w fun r w' => ∃ vb A c B d, r = .returned (.tuple #[.pointer (some ⟨vb, 0, none⟩), .nilIface]) ∧ Hid (VS w' vb (.slice A 0 c) (.slice B 0 d) ⟨1, 0, 0, [], 0, rootD []⟩ []) ∧ Hid (May ⟨1, 0, 0, [], 0, rootD []⟩) ∧ Hid (Below w.heap.size w w')) := Lib.hid ((make_ok 1 0 8 0 (.slice none 0 0) [] w (by omega) (ER.nil w) (by simp) (by rfl) (by omega) (by omega) (by omega) 8 0 rfl rfl).mono fun r w' ⟨vb, tv, bv, h1, h2, h3, _, h4⟩ => by
    rw [(made_none 1).1] at h2 h3
    rw [(made_none 1).2] at h2
    obtain ⟨g, hg⟩ := h2.out.tab
    obtain ⟨k, hk⟩ := h2.out.lst
    obtain ⟨o, A, c, rfl, -⟩ := hg
    obtain ⟨B, d, rfl, -⟩ := hk
    exact ⟨vb, A, c, B, d, h1, h2, h3, h4⟩)
  have HC : Hid (∀ W vb A c B d, VS W vb (.slice A 0 c) (.slice B 0 d) ⟨1, 0, 0, [], 0, rootD []⟩ [] → May ⟨1, 0, 0, [], 0, rootD []⟩ → Calls Tryz.prog 60 #[.agg #[.int .i64 1, .int .i64 0, .int .i64 0, .slice A 0 c, .int .i64 0, .string (rootD [])]] W fun e w' => e = .returned .nilIface ∧ Hid (Below W.heap.size W w')) := Lib.hid (fun W vb A c B d h hm => by
    obtain ⟨g, hg⟩ := h.tab
    exact mcheck_ok ⟨1, 0, 0, [], 0, rootD []⟩ g _ W hg hm)
  obtain ⟨rt, hrt⟩ : ∃ rt, rootD [] = rt := ⟨_, rfl⟩
  rw [hrt] at HM HC
  clear hrt
  go_enter Tryz.func27, Tryz.ntmps27
  go_upto_region 2 with (go_at_call 28; refine HM.out.mono ?_; rintro e w1 ⟨vb, A, c, B, d, rfl, HV, HMY, HB1⟩)
  obtain ⟨s0, s1, s2, s3, s4, s5, s6⟩ := HV.out.cells
  simp only at s0 s1 s2 s3 s4 s5 s6
  go_wp2_with (go_at_call 60; refine (HC.out _ vb A c B d HV.out HMY.out).mono ?_; rintro e w2 ⟨rfl, HB2⟩)
  go_ret
  exact ⟨rfl, Lib.hid (HB1.out.trans (HB2.out.mono HB1.out.size))⟩
end Go.Proofs.YtjokfllldcjheaaGreatDoor.Mn
