/- ManifestGets, walked. -/
import Derived.Test.YtjokfllldcjheaaGreatDoorMi
import Derived.Test.YtjokfllldcjheaaGreatDoorMr9
import Derived.Test.YtjokfllldcjheaaGreatDoorMs
import Derived.Test.YtjokfllldcjheaaGreatDoorPe
namespace Go.Proofs.YtjokfllldcjheaaGreatDoor.Mn
open Go.RowKit Go.Proofs.YtjokfllldcjheaaGreatDoor.Oc Go.Proofs.YtjokfllldcjheaaGreatDoor.Ed Go.Proofs.YtjokfllldcjheaaGreatDoor.Tb Go.Proofs.YtjokfllldcjheaaGreatDoor.Sha Go.Proofs.YtjokfllldcjheaaGreatDoor.Cs Go.Proofs.YtjokfllldcjheaaGreatDoor.Mk
set_option linter.unusedVariables false
set_option linter.unusedSimpArgs false
theorem mga_form {s : ByteArray} {w' : World} {r : Ending} (h : MGA s w' r) : ∃ (a b c : Int) (A : Option Addr) (n cc : Nat) (d : Int) (y : ByteArray) (e1 : Value), r = .returned (.tuple #[.agg #[.int .i64 a, .int .i64 b, .int .i64 c, .slice A n cc, .int .i64 d, .string y], e1]) ∧
    Hid ((e1 = .nilIface ∧ ∃ (l : List E2) (g : Nat), TBR w' g (.slice A n cc) l ∧ May ⟨a, b, c, l, d, y⟩ ∧ manB ⟨a, b, c, l, d, y⟩ = s.data.toList) ∨ (∃ p k : Nat, e1 = faultV (p : Int) (k : Int) ∧ (k = 3 ∨ k = 4) ∧ a = 0 ∧ b = 0 ∧ c = 0 ∧ A = none ∧ n = 0 ∧ cc = 0 ∧ d = 0 ∧ y = ⟨#[]⟩)) := by
  rcases h with ⟨m, tv, g, h1, h2, h3, h4⟩ | ⟨p, k, h1, h2⟩
  · obtain ⟨o, A, c, rfl, -⟩ := id h2
    exact ⟨m.ver, m.nodes, m.edges, A, _, c, m.blocks, m.root, _, h1, Lib.hid (.inl ⟨rfl, m.sh, g, h2, h3, h4⟩)⟩
  · exact ⟨0, 0, 0, none, 0, 0, 0, ⟨#[]⟩, _, h1, Lib.hid (.inr ⟨p, k, rfl, h2, rfl, rfl, rfl, rfl, rfl, rfl, rfl, rfl⟩)⟩
set_option maxHeartbeats 8000000 in
set_option maxRecDepth 100000 in
theorem gets10_walk (s : ByteArray) (w : World) (hG : Er.G0 w) :
    Calls Tryz.prog 8 #[.string s] w fun e w' => e = .returned (.bool true) ∧ Hid (Below w.heap.size w w') := by
  have HAW := Lib.hid (fun W => awake10_calls W)
  have HCF : Hid (∀ (a k : Int) (W : World), Below w.heap.size w W → Calls Tryz.prog 12 #[faultV a k] W fun r w' => r = .returned (.int .i64 k) ∧ Hid (Below W.heap.size W w')) := Lib.hid (fun a k W h => Er.code_calls (.at a (.no k)) W (g0_on hG h))
  have HPF : Hid (∀ (a k : Int) (W : World), Below w.heap.size w W → Calls Tryz.prog 18 #[faultV a k] W fun r w' => r = .returned (.int .i64 a) ∧ Hid (Below W.heap.size W w')) := Lib.hid (fun a k W h => Er.place_calls (.at a (.no k)) W (g0_on hG h))
  clear hG
  by_cases h4 : 400 < s.size
  · have h5 : (400 : Int) < (s.size : Int) := by omega
    go_enter Tryz.func8, Tryz.ntmps8
    go_wp2_with (go_at_call 27; refine (HAW.out _).mono ?_; rintro e w1 ⟨rfl, HB1⟩)
    go_ret
    exact ⟨rfl, HB1⟩
  have h5 : ¬ (400 : Int) < (s.size : Int) := by omega
  have HGT := Lib.hid (fun W => mget_calls s (by omega) W)
  clear h4
  go_enter Tryz.func8, Tryz.ntmps8
  go_upto_region 6 with (first
    | (go_at_call 27; refine (HAW.out _).mono ?_; rintro e w1 ⟨rfl, HB1⟩)
    | (go_at_call 38; refine (HGT.out _).mono ?_; rintro r w2 ⟨HA, HB2⟩; obtain ⟨a, b, c, tA, tn, tc, d, y, e1, rfl, HC⟩ := mga_form HA.out; clear HA))
  have hU := (HB1.out.trans (HB2.out.mono HB1.out.size)).alloc (Nat.le_trans HB1.out.size HB2.out.size) (.cells #[.int .i64 a, .int .i64 b, .int .i64 c, .slice tA tn tc, .int .i64 d, .string y] 73)
  have hx := heap_alloc_new w2 (.cells #[.int .i64 a, .int .i64 b, .int .i64 c, .slice tA tn tc, .int .i64 d, .string y] 73)
  have hb3 := (Below.refl w2.heap.size w2).alloc (Nat.le_refl _) (.cells #[.int .i64 a, .int .i64 b, .int .i64 c, .slice tA tn tc, .int .i64 d, .string y] 73)
  have HB3 := Lib.hid hb3
  generalize w2.alloc (.cells #[.int .i64 a, .int .i64 b, .int .i64 c, .slice tA tn tc, .int .i64 d, .string y] 73) = W at *
  obtain ⟨mb, hmb⟩ : ∃ mb, w2.heap.size = mb := ⟨_, rfl⟩
  rw [hmb] at hx ⊢
  have HUW := Lib.hid hU
  have HXW := Lib.hid hx
  have HSS : Hid (∀ X, Below W.heap.size W X → X.cell? ⟨mb, 0, none⟩ = some (.int .i64 a) ∧ X.cell? ⟨mb, 1, none⟩ = some (.int .i64 b) ∧ X.cell? ⟨mb, 2, none⟩ = some (.int .i64 c) ∧ X.cell? ⟨mb, 3, none⟩ = some (.slice tA tn tc) ∧ X.cell? ⟨mb, 4, none⟩ = some (.int .i64 d) ∧ X.cell? ⟨mb, 5, none⟩ = some (.string y)) := Lib.hid (fun X h => man_cells (m := ⟨a, b, c, [], d, y⟩) ((h.block mb (Array.getElem?_eq_some_iff.1 HXW.out).1).trans HXW.out))
  have HUF : Hid (∀ X, Below W.heap.size W X → Below w.heap.size w X) := Lib.hid (fun X h => HUW.out.trans (h.mono HUW.out.size))
  have HU : Hid (Below W.heap.size W W) := Lib.hid (Below.refl _ _)
  obtain ⟨s0, s1, s2, s3, s4, s5⟩ := HSS.out _ HU.out
  clear hU hx hb3 hmb HB1 HB2 h5
  rcases HC.out with ⟨rfl, l, g, ht, hm, hp⟩ | ⟨p, k, rfl, hk, rfl, rfl, rfl, rfl, rfl, rfl, rfl, rfl⟩
  · have HT := Lib.hid (ht.later HB3.out)
    have HM := Lib.hid hm
    have hse : (⟨(manB ⟨a, b, c, l, d, y⟩).toArray⟩ : ByteArray) = s := ByteArray.ext (Array.toList_inj.1 hp)
    have HPU : Hid (∀ X, Below W.heap.size W X → Calls Tryz.prog 40 #[.agg #[.int .i64 a, .int .i64 b, .int .i64 c, .slice tA tn tc, .int .i64 d, .string y]] X fun e w' => e = .returned (.tuple #[.string s, .nilIface]) ∧ Hid (Below X.heap.size X w')) := Lib.hid (fun X h => by
      have := mput_ok ⟨a, b, c, l, d, y⟩ g _ X (HT.out.later h) HM.out
      rw [hse] at this
      exact this)
    have HWR : Hid (∀ X, Below W.heap.size W X → Calls Tryz.prog 36 #[.agg #[.int .i64 a, .int .i64 b, .int .i64 c, .slice tA tn tc, .int .i64 d, .string y]] X fun e w' => e = .returned (.int .i64 (-1)) ∧ Hid (Below X.heap.size X w')) := Lib.hid (fun X h => wrong10_ok ⟨a, b, c, l, d, y⟩ g _ X (HT.out.later h) HM.out)
    have hss : (s.toList == s.toList) = true := by simp
    clear ht hm hp hse
    go_wp2_with (first
      | (go_at_call 40; refine (HPU.out _ HU.out).mono ?_; rintro e w3 ⟨rfl, HBx⟩; have HU := Lib.hid (HU.out.trans (HBx.out.mono HU.out.size)); clear HBx; obtain ⟨s0, s1, s2, s3, s4, s5⟩ := HSS.out _ HU.out)
      | (go_at_call 36; refine (HWR.out _ HU.out).mono ?_; rintro e w4 ⟨rfl, HBx⟩; have HU := Lib.hid (HU.out.trans (HBx.out.mono HU.out.size)); clear HBx))
    go_ret
    exact ⟨rfl, Lib.hid (HUF.out _ HU.out)⟩
  · have HSM : Hid (∀ X, Calls Tryz.prog 39 #[.agg #[.int .i64 0, .int .i64 0, .int .i64 0, .slice none 0 0, .int .i64 0, .string ⟨#[]⟩], .agg #[.int .i64 0, .int .i64 0, .int .i64 0, .slice none 0 0, .int .i64 0, .string ⟨#[]⟩]] X fun e w' => e = .returned (.bool true) ∧ Hid (Below X.heap.size X w')) := Lib.hid (fun X => (rsame10_calls ⟨0, 0, 0, [], 0, ⟨#[]⟩⟩ ⟨0, 0, 0, [], 0, ⟨#[]⟩⟩ 0 0 _ _ X (TBR.nil X) (TBR.nil X)).mono fun e w' ⟨r, h1, h2, h3⟩ => ⟨by rw [h1, h2.2 rfl], h3⟩)
    have hp0 : (0 : Int) ≤ (p : Int) := by omega
    rcases hk with rfl | rfl
    all_goals
      go_wp2_with (first
        | (go_at_call 12; refine (HCF.out (p : Int) _ _ (HUF.out _ HU.out)).mono ?_; rintro e w3 ⟨rfl, HBx⟩; have HU := Lib.hid (HU.out.trans (HBx.out.mono HU.out.size)); clear HBx; obtain ⟨s0, s1, s2, s3, s4, s5⟩ := HSS.out _ HU.out)
        | (go_at_call 39; refine (HSM.out _).mono ?_; rintro e w4 ⟨rfl, HBx⟩; have HU := Lib.hid (HU.out.trans (HBx.out.mono HU.out.size)); clear HBx)
        | (go_at_call 18; refine (HPF.out (p : Int) _ _ (HUF.out _ HU.out)).mono ?_; rintro e w5 ⟨rfl, HBx⟩; have HU := Lib.hid (HU.out.trans (HBx.out.mono HU.out.size)); clear HBx))
      go_ret
      exact ⟨rfl, Lib.hid (HUF.out _ HU.out)⟩
theorem gets10_row (s : ByteArray) (w : World) (hG : Er.G0 w) (_ : s.size ≤ 140737488351232) :
    Calls Tryz.prog 8 #[.string s] w fun e w' => e = .returned (.bool true) ∧ Below w.heap.size w w' :=
  (gets10_walk s w hG).mono fun e w' h => ⟨h.1, h.2.out⟩
end Go.Proofs.YtjokfllldcjheaaGreatDoor.Mn
