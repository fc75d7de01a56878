/- edges: order, Clone, wrong, Check. -/
import Derived.Test.YtjokfllldcjheaaGreatDoorEa
import Derived.Sort.WalkB12
namespace Go.Proofs.YtjokfllldcjheaaGreatDoor.Ed
open Go.RowKit Go.Sort
set_option linter.unusedVariables false
set_option linter.unusedSimpArgs false

set_option maxHeartbeats 1000000 in
theorem order_calls (a b : E2) (w : World) : Calls Tryz.prog 76 #[.agg #[.int .i64 a.1, .int .i64 a.2], .agg #[.int .i64 b.1, .int .i64 b.2]] w fun e w' => e = .returned (.int .i64 (ordF a b)) ∧ ∃ q os', w' = grow (w.drewN q) os' := by
  obtain ⟨a0, a1⟩ := a
  obtain ⟨b0, b1⟩ := b
  simp only [ordF]
  have HC0 := Lib.hid (compare_calls a0 b0)
  have HC1 := Lib.hid (compare_calls a1 b1)
  generalize cmpI a0 b0 = x at *
  generalize cmpI a1 b1 = y at *
  have HO := Lib.hid (fun g w h0 h1 => or_calls g x y w h0 h1)
  generalize (if x = 0 then y else x) = r at *
  go_enter Tryz.func76, Tryz.ntmps76
  go_upto_region 1 with (fail)
  obtain ⟨W2, hW2⟩ : ∃ W2, (w.alloc (.cells #[.int .i64 a0, .int .i64 a1] 68)).alloc (.cells #[.int .i64 b0, .int .i64 b1] 68) = W2 := ⟨_, rfl⟩
  have z1 := heap_alloc_new (w.alloc (.cells #[.int .i64 a0, .int .i64 a1] 68)) (.cells #[.int .i64 b0, .int .i64 b1] 68)
  have z0 := (Below.heap_alloc (w.alloc (.cells #[.int .i64 a0, .int .i64 a1] 68)) (.cells #[.int .i64 b0, .int .i64 b1] 68) w.heap.size (by simp)).trans (heap_alloc_new w (.cells #[.int .i64 a0, .int .i64 a1] 68))
  rw [hW2] at z0 z1 ⊢
  rw [show (w.alloc (.cells #[.int .i64 a0, .int .i64 a1] 68)).heap.size = w.heap.size + 1 by simp] at z1
  have HW : Hid (W2 = grow w #[.cells #[.int .i64 a0, .int .i64 a1] 68, .cells #[.int .i64 b0, .int .i64 b1] 68]) := Lib.hid (by rw [← hW2, alloc_eq_grow, alloc_eq_grow, grow_grow]; rfl)
  have c0 : W2.cell? ⟨w.heap.size, 0, none⟩ = some (.int .i64 a0) := by rw [cell_of_row W2 _ 0 _ _ _ z0]; rfl
  have c1 : W2.cell? ⟨w.heap.size, 1, none⟩ = some (.int .i64 a1) := by rw [cell_of_row W2 _ 1 _ _ _ z0]; rfl
  have c2 : W2.cell? ⟨w.heap.size + 1, 0, none⟩ = some (.int .i64 b0) := by rw [cell_of_row W2 _ 0 _ _ _ z1]; rfl
  have c3 : W2.cell? ⟨w.heap.size + 1, 1, none⟩ = some (.int .i64 b1) := by rw [cell_of_row W2 _ 1 _ _ _ z1]; rfl
  clear hW2 z0 z1
  have n0 : Hid ((W2.alloc (.cells #[.int .i64 x, .int .i64 y] 3)).drew.cell? ⟨W2.heap.size, 0, none⟩ = some (.int .i64 x)) := Lib.hid (by show (W2.alloc _).cell? _ = _; rw [cell_of_row _ _ 0 _ _ _ (heap_alloc_new _ _)]; rfl)
  have n1 : Hid ((W2.alloc (.cells #[.int .i64 x, .int .i64 y] 3)).drew.cell? ⟨W2.heap.size, 1, none⟩ = some (.int .i64 y)) := Lib.hid (by show (W2.alloc _).cell? _ = _; rw [cell_of_row _ _ 1 _ _ _ (heap_alloc_new _ _)]; rfl)
  go_region_held3 (fun w' => w'.cell? ⟨w.heap.size, 0, none⟩ = some (.int .i64 a0) ∧ w'.cell? ⟨w.heap.size, 1, none⟩ = some (.int .i64 a1) ∧ w'.cell? ⟨w.heap.size + 1, 0, none⟩ = some (.int .i64 b0) ∧ w'.cell? ⟨w.heap.size + 1, 1, none⟩ = some (.int .i64 b1))
    (first | (go_keep; done) | exact ⟨c0, c1, c2, c3⟩)
    (first
      | (go_at_call 110; with_reducible (show Calls _ _ #[.int _ a0, .int _ b0] _ _); refine (HC0.out _).mono ?_; rintro e w3 ⟨rfl, rfl⟩)
      | (go_at_call 110; with_reducible (show Calls _ _ #[.int _ a1, .int _ b1] _ _); refine (HC1.out _).mono ?_; rintro e w3 ⟨rfl, rfl⟩)
      | (go_at_call 109; refine (HO.out _ _ n0.out n1.out).mono ?_; rintro e w3 ⟨rfl, rfl⟩))
  go_wp2
  go_ret
  exact ⟨rfl, 1, #[.cells #[.int .i64 a0, .int .i64 a1] 68, .cells #[.int .i64 b0, .int .i64 b1] 68, .cells #[.int .i64 x, .int .i64 y] 3], by rw [HW.out, alloc_eq_grow, drew_grow, drew_grow, grow_grow]; rfl⟩

set_option maxHeartbeats 1000000 in
set_option maxRecDepth 100000 in
theorem clone_calls (g : Nat) (v : Value) (l : List E2) (w : World) (h : ER w g v l) (hl : l.length ≤ 1000000) :
    Calls Tryz.prog 74 #[v] w fun e w' => ∃ v', e = .returned v' ∧ EO w' w.heap.size v' l ∧ Below w.heap.size w w' := by
  obtain ⟨o, A, c, rfl, h1, h2, h3⟩ := id h
  have HE := Lib.hid h
  rcases A with _ | ad
  · have hl0 : l = [] := by
      by_cases e : l = []
      · exact e
      · exact absurd (h3 (List.length_pos_iff.2 e)).1 (by simp)
    subst hl0
    have hq : (binOp .eql 22 (.slice none 0 c) (.slice none 0 0)).run Tryz.prog w = .ok (.bool true) w := Lib.run_eql_slice_nil (P := Tryz.prog) w 22 68 none 0 c 0 0 Tryz.underlying22
    clear h h3
    go_enter Tryz.func74, Tryz.ntmps74
    go_wp2
    go_ret
    exact ⟨_, rfl, EO.nil _ _, Below.refl _ _⟩
  · have hq : (binOp .eql 22 (.slice (some ad) l.length c) (.slice none 0 0)).run Tryz.prog w = .ok (.bool false) w := Lib.run_eql_slice_nil (P := Tryz.prog) w 22 68 (some ad) l.length c 0 0 Tryz.underlying22
    clear h h3
    go_enter Tryz.func74, Tryz.ntmps74
    go_wp2_with (at_builtin; refine EO.append_on (base := w.heap.size) (EO.fresh w w.heap.size (Nat.le_refl _)) (HE.out.alloc _) rfl _ _ rfl rfl rfl (by simp) (by simp; omega) ?_; intro v1 w1 k1 k2 _)
    go_ret
    refine ⟨v1, rfl, by simpa using k1, ((Below.refl _ _).alloc (Nat.le_refl _) _).grown k2 (by simp) (fun k hk => ?_)⟩
    simp [Value.ownBlock] at hk
    omega
end Go.Proofs.YtjokfllldcjheaaGreatDoor.Ed
