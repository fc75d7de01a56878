/- slices.Reverse at integers. -/
import Derived.Test.YthnpaiobjmneaaaDoorCu
import Derived.BigRegion
import Derived.Deep.DeepCutAuto
namespace Go.Proofs.YthnpaiobjmneaaaDoor.Ro
open Go.RowKit
set_option linter.unusedVariables false
set_option linter.unusedSimpArgs false
/-- the outer i of both ends have changed places -/
def Rvd (zs ys : List Int) (i : Nat) : Prop := ys.length = zs.length ∧ ∀ k, k < zs.length → ys.getD k 0 = if k < i ∨ zs.length ≤ k + i then zs.getD (zs.length - 1 - k) 0 else zs.getD k 0
theorem Rvd.start (zs : List Int) : Rvd zs zs 0 := ⟨rfl, fun k hk => by rw [if_neg (by omega)]⟩
theorem getD_set (ys : List Int) (i k : Nat) (x : Int) (hk : k < ys.length) : (ys.set i x).getD k 0 = if i = k then x else ys.getD k 0 := by
  rw [List.getD_eq_getElem?_getD, List.getD_eq_getElem?_getD, List.getElem?_set]
  by_cases e : i = k
  · subst e; simp [hk]
  · simp [e]
theorem Rvd.step {zs ys : List Int} {i j : Nat} (h : Rvd zs ys i) (hj : i + j + 1 = zs.length) (hij : i < j) : Rvd zs ((ys.set i (ys.getD j 0)).set j (ys.getD i 0)) (i + 1) := by
  obtain ⟨h1, h2⟩ := h
  refine ⟨by simp [h1], fun k hk => ?_⟩
  rw [getD_set _ _ _ _ (by simp [h1]; exact hk), getD_set _ _ _ _ (by rw [h1]; exact hk)]
  by_cases e1 : j = k
  · subst e1
    rw [if_pos rfl, if_pos (by omega), h2 i (by omega), if_neg (by omega), show zs.length - 1 - j = i by omega]
  · rw [if_neg e1]
    by_cases e2 : i = k
    · subst e2
      rw [if_pos rfl, if_pos (by omega), h2 j (by omega), if_neg (by omega), show zs.length - 1 - i = j by omega]
    · rw [if_neg e2, h2 k hk]
      by_cases e3 : k < i ∨ zs.length ≤ k + i
      · rw [if_pos e3, if_pos (by omega)]
      · rw [if_neg e3, if_neg (by omega)]
theorem Rvd.done {zs ys : List Int} {i : Nat} (h : Rvd zs ys i) (hi : zs.length ≤ 2 * i + 1) : ys = zs.reverse := by
  obtain ⟨h1, h2⟩ := h
  apply List.ext_getElem (by simp [h1])
  intro k hk hk2
  have hk3 : k < zs.length := by rw [← h1]; exact hk
  have e := h2 k hk3
  have er : zs.reverse[k]'hk2 = zs.getD (zs.length - 1 - k) 0 := by
    rw [List.getElem_reverse, List.getD_eq_getElem?_getD, List.getElem?_eq_getElem (by omega)]; rfl
  have ek : ys[k]'hk = ys.getD k 0 := by rw [List.getD_eq_getElem?_getD, List.getElem?_eq_getElem hk]; rfl
  rw [er, ek, e]
  split
  · rfl
  · rw [show zs.length - 1 - k = k by omega]
set_option maxHeartbeats 2000000 in
set_option maxRecDepth 100000 in
theorem irev_calls (base : Nat) (v : Value) (zs : List Int) (w : World) (h : OJ w base v zs) (hl : zs.length ≤ 1000000) :
    Calls Tryd.prog 60 #[v] w fun e w' => e = .returned (.tuple #[]) ∧ Hid (OJ w' base v zs.reverse) ∧ Hid (w.grownBy w' v.ownBlock) := by
  rcases h.2 with ⟨rfl, hn⟩ | ⟨g, cap, cur, rfl, hb, hg, hrest⟩
  · obtain rfl : zs = [] := List.eq_nil_of_length_eq_zero hn
    have H := Lib.hid h
    clear h hn hl
    go_enter Tryd.func60, Tryd.ntmps60
    go_upto_region 1 with (fail)
    go_loopw [2, 3] (fun x y wz => x = .int .i64 0 ∧ y = .int .i64 (-1) ∧ wz = w) (fun _ _ _ => 0)
    case atStart => exact ⟨rfl, rfl, rfl⟩
    case round =>
      obtain ⟨rfl, rfl, hwz⟩ := hrel
      subst hwz
      go_wp2
      go_end0
      exact ⟨rfl, H, Lib.hid (World.grownBy.refl _ _)⟩
  · have H := Lib.hid h
    have hpos : cap = cap := rfl
    obtain ⟨len, hlen⟩ : ∃ n, zs.length = n := ⟨_, rfl⟩
    rw [hlen] at H hl ⊢
    have HL := Lib.hid hlen
    have hl7 : (len : Int) ≤ 1000000 := by omega
    have HR0 := Lib.hid (Rvd.start zs)
    have HG0 := Lib.hid (World.grownBy.refl w (some g))
    clear h hlen hb hg hrest hpos
    go_enter Tryd.func60, Tryd.ntmps60
    go_upto_region 1 with (fail)
    go_loopw [2, 3] (fun x y wz => ∃ (i : Nat) (ys : List Int), x = .int .i64 (i : Int) ∧ y = .int .i64 ((len : Int) - 1 - (i : Int)) ∧ i ≤ len ∧ Hid (Rvd zs ys i) ∧ Hid (OJ wz base (.slice (some ⟨g, 0, none⟩) len cap) ys) ∧ Hid (w.grownBy wz (some g))) (fun x _ _ => len - (intOf x).toNat)
    case atStart => exact ⟨0, zs, rfl, by simp, Nat.zero_le _, HR0, H, HG0⟩
    case round =>
      clear HR0 HG0 H
      obtain ⟨i, ys, rfl, rfl, hi, HR, HO, HG⟩ := hrel
      by_cases hlt : (i : Int) < (len : Int) - 1 - (i : Int)
      · obtain ⟨j, hj⟩ : ∃ j : Nat, (len : Int) - 1 - (i : Int) = (j : Int) := ⟨len - 1 - i, by omega⟩
        rw [hj] at hlt ⊢
        have hij : i + j + 1 = len := by omega
        have hij2 : i < j := by omega
        have HYL : Hid (ys.length = len) := Lib.hid (HR.out.1.trans HL.out)
        obtain ⟨q0, f0⟩ := OJ.at HO.out HYL.out i (by omega)
        obtain ⟨q1, f1⟩ := OJ.at HO.out HYL.out j (by omega)
        obtain ⟨x, hx⟩ : ∃ x, ys.getD i 0 = x := ⟨_, rfl⟩
        obtain ⟨y, hy⟩ : ∃ y, ys.getD j 0 = y := ⟨_, rfl⟩
        rw [hx] at q0
        rw [hy] at q1
        have HST := Lib.hid (HR.out.step (by rw [HL.out]; exact hij) hij2)
        rw [hx, hy] at HST
        have i0 : (0 : Int) ≤ (i : Int) := by omega
        have i1 : (i : Int) < (len : Int) := by omega
        have j0 : (0 : Int) ≤ (j : Int) := by omega
        have j1 : (j : Int) < (len : Int) := by omega
        have HHJ := Lib.hid hj
        clear hx hy hj
        go_upto_region 3 with (fail)
        go_region
        obtain ⟨o1, g1⟩ := OJ.set HO.out HYL.out i y
        have hy2 : (ys.set i y).length = len := by rw [List.length_set]; exact HYL.out
        obtain ⟨o2, g2⟩ := OJ.set o1 hy2 j x
        have g3 := HG.out.trans (g1.trans g2)
        have HO2 : Hid (OJ ((wr.setCell ⟨g, i, none⟩ (.int .i64 y)).setCell ⟨g, j, none⟩ (.int .i64 x)).drew base (.slice (some ⟨g, 0, none⟩) len cap) ((ys.set i y).set j x)) := Lib.hid o2
        have HG2 : Hid (w.grownBy ((wr.setCell ⟨g, i, none⟩ (.int .i64 y)).setCell ⟨g, j, none⟩ (.int .i64 x)).drew (some g)) := Lib.hid ⟨g3.os, g3.tape, g3.output, g3.size, g3.block⟩
        clear o1 g1 hy2 o2 g2 g3 q0 q1 f0 f1 HO HG HR
        generalize ((wr.setCell ⟨g, i, none⟩ (.int .i64 y)).setCell ⟨g, j, none⟩ (.int .i64 x)).drew = W2 at HO2 HG2 ⊢
        have j2 : (j : Int) ≤ 1000000 := by omega
        go_wp2
        go_roundw
        case rel => exact ⟨i + 1, _, by go_num, by have := HHJ.out; congr 1; omega, by omega, HST, HO2, HG2⟩
        case measure => simp [intOf]; omega
      · have HRR : Hid (ys = zs.reverse) := Lib.hid (HR.out.done (by rw [HL.out]; omega))
        go_wp2
        go_end0
        exact ⟨rfl, Lib.hid (by rw [← HRR.out]; exact HO.out), HG⟩
end Go.Proofs.YthnpaiobjmneaaaDoor.Ro
