/- The reference of layer 7: the state in which Get reads its rows. Printed from XSg. · The reference of layer 7: Get. · The reference of layer 7: Get, where the head is one. -/
import Derived.Test.YtjokfllldcjheaaGreatDoorGa
/- The reference of layer 7: the state in which Get reads its rows. Printed from XSg. -/
namespace Go.Proofs.YtjokfllldcjheaaGreatDoor.Oc
open Go.RowKit Go.Proofs.YtjokfllldcjheaaGreatDoor.Sha Go.Proofs.YtjokfllldcjheaaGreatDoor.Ro Go.Proofs.YtjokfllldcjheaaGreatDoor.Cs Go.Proofs.YtjokfllldcjheaaGreatDoor.Ed
set_option linter.unusedVariables false
set_option linter.unusedSimpArgs false
structure G7 (W wz : World) (a : Nat) (bg rows : Value) (BG : List Int) (vs : List Value) (LL : List (List Int)) : Prop where
  bel : Below W.heap.size W wz
  out : wz.heap[W.heap.size]? = some (.cells #[.int .i64 (a : Int), rows, .int .i64 0, .int .i64 0] 62 (0, 0))
  one : OJ wz (W.heap.size + 1) bg BG
  two : OV wz (W.heap.size + 1) rows vs
  ne : ∀ k, bg.ownBlock = some k → rows.ownBlock ≠ some k
  els : RS wz (fun g => W.heap.size < g ∧ bg.ownBlock ≠ some g ∧ rows.ownBlock ≠ some g) vs LL
theorem G7.lt {W wz : World} {a : Nat} {bg rows : Value} {BG : List Int} {vs : List Value} {LL : List (List Int)} (h : G7 W wz a bg rows BG vs LL) : W.heap.size < wz.heap.size := (Array.getElem?_eq_some_iff.1 h.out).1
theorem G7.start (W : World) (a : Nat) : G7 W (W.alloc (.cells #[.int .i64 (a : Int), .slice none 0 0, .int .i64 0, .int .i64 0] 62)) a (.slice none 0 0) (.slice none 0 0) [] [] [] :=
  ⟨(Below.refl _ _).alloc (Nat.le_refl _) _, heap_alloc_new W _, OJ.nil _ _, OV.nil _ _, by simp [Value.ownBlock], RS.nil _ _⟩
theorem G7.later {W wz wy : World} {a : Nat} {bg rows : Value} {BG : List Int} {vs : List Value} {LL : List (List Int)} (h : G7 W wz a bg rows BG vs LL) (hb : Below wz.heap.size wz wy) : G7 W wy a bg rows BG vs LL :=
  ⟨h.bel.trans (hb.mono (by have := h.lt; omega)), (hb.block _ h.lt).trans h.out, h.one.later hb, h.two.later hb, h.ne, h.els.later hb⟩
theorem G7.push1 {W wz w3 : World} {a : Nat} {bg rows v1 : Value} {BG B2 : List Int} {vs : List Value} {LL : List (List Int)} (h : G7 W wz a bg rows BG vs LL) (k1 : OJ w3 (W.heap.size + 1) v1 B2) (k2 : wz.grownBy w3 bg.ownBlock) (k3 : v1.ownBlock = bg.ownBlock ∨ v1.ownBlock = some wz.heap.size) : G7 W w3 a v1 rows B2 vs LL := by
  have hlt := h.lt
  have hob : ∀ k, bg.ownBlock = some k → W.heap.size + 1 ≤ k := h.one.base
  refine ⟨h.bel.grown k2 (by omega) (fun k hk => by have := hob k hk; omega), (k2.block _ hlt (fun e => by have := hob _ e.symm; omega)).trans h.out, k1, h.two.kept k2 ?_, fun k e e2 => ?_, h.els.move k2.size fun g hg hk => ?_⟩
  · cases e : rows.ownBlock with
    | none => exact .inl rfl
    | some j => exact .inr fun e2 => h.ne j e2.symm e
  · rcases k3 with k3 | k3
    · exact h.ne k (k3 ▸ e) e2
    · have := h.two.lt k e2
      rw [k3] at e
      injection e with e
      omega
  · refine ⟨k2.block g hg (fun e => hk.2.1 e.symm), hk.1, fun e => ?_, hk.2.2⟩
    rcases k3 with k3 | k3
    · exact hk.2.1 (k3 ▸ e)
    · rw [k3] at e
      injection e with e
      omega
theorem G7.new {W wz wy : World} {a : Nat} {bg rows : Value} {BG : List Int} {vs : List Value} {LL : List (List Int)} (h : G7 W wz a bg rows BG vs LL) {t : Value} {L : List Int} (ht : OJ wy wz.heap.size t L) : ∃ g, JR wy g t L ∧ (L ≠ [] → W.heap.size < g ∧ bg.ownBlock ≠ some g ∧ rows.ownBlock ≠ some g) := by
  obtain ⟨g, h1, h2⟩ := ht.reads
  refine ⟨g, h1, fun e => ?_⟩
  have hg := h2 e
  have := h.lt
  exact ⟨by omega, fun e2 => by have := h.one.lt g e2; omega, fun e2 => by have := h.two.lt g e2; omega⟩
theorem G7.push2 {W wz w3 : World} {a : Nat} {bg rows v1 t : Value} {BG : List Int} {vs : List Value} {LL : List (List Int)} {L : List Int} (h : G7 W wz a bg rows BG vs LL) (ht : ∃ g, JR wz g t L ∧ (L ≠ [] → W.heap.size < g ∧ bg.ownBlock ≠ some g ∧ rows.ownBlock ≠ some g)) (k1 : OV w3 (W.heap.size + 1) v1 (vs ++ [t])) (k2 : wz.grownBy w3 rows.ownBlock) (k3 : v1.ownBlock = rows.ownBlock ∨ v1.ownBlock = some wz.heap.size) : G7 W (w3.setCell ⟨W.heap.size, 1, none⟩ v1) a bg v1 BG (vs ++ [t]) (LL ++ [L]) := by
  have hlt := h.lt
  have hob : ∀ k, rows.ownBlock = some k → W.heap.size + 1 ≤ k := h.two.base
  have hout : w3.heap[W.heap.size]? = some (.cells #[.int .i64 (a : Int), rows, .int .i64 0, .int .i64 0] 62 (0, 0)) := (k2.block _ hlt (fun e => by have := hob _ e.symm; omega)).trans h.out
  have hlt3 := k2.size
  have hsz : (w3.setCell ⟨W.heap.size, 1, none⟩ v1).heap.size = w3.heap.size := by simp [World.setCell]
  have hoth : ∀ k, k ≠ W.heap.size → (w3.setCell ⟨W.heap.size, 1, none⟩ v1).heap[k]? = w3.heap[k]? := fun k hk => Go.Proofs.YtjokfllldcjheaaGreatDoor.Oc.setCell_other w3 _ k v1 hk
  have hv1 : ∀ k, v1.ownBlock = some k → W.heap.size + 1 ≤ k := k1.base
  have hgs : w3.grownBy (w3.setCell ⟨W.heap.size, 1, none⟩ v1) (some W.heap.size) := ⟨rfl, rfl, rfl, by rw [hsz]; exact Nat.le_refl _, fun k hk hn => hoth k (fun e => hn (by rw [e]))⟩
  have hbgb : ∀ k, bg.ownBlock = some k → W.heap.size + 1 ≤ k := h.one.base
  refine ⟨(h.bel.grown k2 (by omega) (fun k hk => by have := hob k hk; omega)).setCell (Nat.le_refl _) v1, ?_, (h.one.kept k2 ?_).kept hgs ?_, k1.kept hgs ?_, fun k e e2 => ?_, ?_⟩
  · rw [heap_setCell_same _ _ _ _ _ _ hout]; rfl
  · cases e : bg.ownBlock with
    | none => exact .inl rfl
    | some j => exact .inr fun e2 => h.ne j e e2.symm
  · cases e : bg.ownBlock with
    | none => exact .inl rfl
    | some j => exact .inr fun e2 => by injection e2 with e2; have := hbgb j e; omega
  · cases e : v1.ownBlock with
    | none => exact .inl rfl
    | some j => exact .inr fun e2 => by injection e2 with e2; have := hv1 j e; omega
  · rcases k3 with k3 | k3
    · exact h.ne k e (k3 ▸ e2)
    · have := h.one.lt k e
      rw [k3] at e2
      injection e2 with e2
      omega
  · refine (h.els.snoc ht).move (by rw [hsz]; exact hlt3) fun g hg hk => ⟨?_, hk.1, hk.2.1, fun e => ?_⟩
    · rw [hoth g (by omega)]
      exact k2.block g hg (fun e => hk.2.2 e.symm)
    · rcases k3 with k3 | k3
      · exact hk.2.2 (k3 ▸ e)
      · rw [k3] at e
        injection e with e
        omega
theorem G7.alloc {W wz : World} {a : Nat} {bg rows : Value} {BG : List Int} {vs : List Value} {LL : List (List Int)} (h : G7 W wz a bg rows BG vs LL) (o : Obj) : G7 W (wz.alloc o) a bg rows BG vs LL := h.later ((Below.refl _ _).alloc (Nat.le_refl _) o)
theorem G7.box {W wz w3 : World} {a : Nat} {bg rows : Value} {BG : List Int} {vs : List Value} {LL : List (List Int)} (h : G7 W wz a bg rows BG vs LL) (k2 : wz.grownBy w3 rows.ownBlock) : w3.cell? ⟨W.heap.size, 1, none⟩ = some rows ∧ w3.frozen? ⟨W.heap.size, 1, none⟩ = false := by
  have hob : ∀ k, rows.ownBlock = some k → W.heap.size + 1 ≤ k := h.two.base
  have hout : w3.heap[W.heap.size]? = some (.cells #[.int .i64 (a : Int), rows, .int .i64 0, .int .i64 0] 62 (0, 0)) := (k2.block _ h.lt (fun e => by have := hob _ e.symm; omega)).trans h.out
  exact ⟨cell_of_row w3 _ 1 _ _ _ hout, frozen_of_row w3 _ 1 _ _ hout⟩
theorem G7.cells {W wz : World} {a : Nat} {bg rows : Value} {BG : List Int} {vs : List Value} {LL : List (List Int)} (h : G7 W wz a bg rows BG vs LL) : wz.cell? ⟨W.heap.size, 0, none⟩ = some (.int .i64 (a : Int)) ∧ wz.cell? ⟨W.heap.size, 1, none⟩ = some rows :=
  ⟨cell_of_row wz _ 0 _ _ _ h.out, cell_of_row wz _ 1 _ _ _ h.out⟩
theorem G7.rows {W wz w' : World} {a n : Nat} {bg rows : Value} {BG : List Int} {vs : List Value} {LL : List (List Int)} (h : G7 W wz a bg rows BG vs LL) (hn : n < W.heap.size) (hs : w'.heap.size = wz.heap.size) (ho : ∀ k, k ≠ n → w'.heap[k]? = wz.heap[k]?) : RR w' (fun g => W.heap.size ≤ g) rows LL := by
  obtain ⟨g, h1, h2⟩ := h.two.reads
  have hr : RR wz (fun g => W.heap.size ≤ g) rows LL := ⟨g, vs, h1, fun e => by have := (h2 e).1; omega, h.els.weak fun g k => by omega⟩
  exact hr.move (by omega) fun g _ hg => ⟨ho g (by omega), hg⟩
theorem G7.start2 (W : World) (a : Nat) : G7 W ((W.alloc (.cells #[.int .i64 (a : Int), .slice none 0 0, .int .i64 0, .int .i64 0] 62)).alloc (.cells #[] 3)) a (.slice (some ⟨(W.alloc (.cells #[.int .i64 (a : Int), .slice none 0 0, .int .i64 0, .int .i64 0] 62)).heap.size, 0, none⟩) 0 0) (.slice none 0 0) [] [] [] := by
  have h := (G7.start W a).alloc (.cells #[] 3)
  exact ⟨h.bel, h.out, OJ.fresh _ _ (by simp), h.two, by simp [Value.ownBlock], RS.nil _ _⟩
end Go.Proofs.YtjokfllldcjheaaGreatDoor.Oc
/- The reference of layer 7: Get. -/
namespace Go.Proofs.YtjokfllldcjheaaGreatDoor.Oc
open Go.RowKit Go.Proofs.YtjokfllldcjheaaGreatDoor.Sha Go.Proofs.YtjokfllldcjheaaGreatDoor.Ro Go.Proofs.YtjokfllldcjheaaGreatDoor.Cs Go.Proofs.YtjokfllldcjheaaGreatDoor.Ed
set_option linter.unusedVariables false
set_option linter.unusedSimpArgs false
/-- what the reference's Get answers -/
def RG7 (R : Except Bad (Nat × List (List Int))) (w w' : World) (e : Ending) : Prop := match R with
  | .error b => e = .returned (.agg #[.int .i64 0, .slice none 0 0, .int .i64 (b.1 : Int), .int .i64 (b.2 : Int)])
  | .ok q => ∃ rv, e = .returned (.agg #[.int .i64 (q.1 : Int), rv, .int .i64 0, .int .i64 0]) ∧ RR w' (fun g => w.heap.size ≤ g) rv q.2
abbrev resO : Obj := .cells #[.int .i64 0, .slice none 0 0, .int .i64 0, .int .i64 0] 62
/-- a call, and a box laid behind it: what is older stands -/
theorem box_next {w W w3 : World} {n : Nat} {x : Obj} (hb : Below w.heap.size w W) (hr : W.heap[n]? = some x) (h3 : Below W.heap.size W w3) (o : Obj) : Below w.heap.size w (w3.alloc o) ∧ (w3.alloc o).heap[n]? = some x ∧ Below W.heap.size W (w3.alloc o) := by
  have h4 := h3.alloc h3.size o
  exact ⟨hb.trans (h4.mono hb.size), (h4.block n (Array.getElem?_eq_some_iff.1 hr).1).trans hr, h4⟩
theorem rdHead_e1 {bs : List UInt8} {N : Nat} {b : Bad} (h : rdAt bs 0 = .error b) : rdHead bs N = .error b := by unfold rdHead; rw [h]
theorem rdHead_e2 {bs : List UInt8} {N a m : Nat} {b : Bad} (h : rdAt bs 0 = .ok (a, m)) (h2 : rdAt bs m = .error b) : rdHead bs N = .error b := by unfold rdHead; rw [h]; simp only; rw [h2]
theorem rdHead_e3 {bs : List UInt8} {N a m b c : Nat} (h : rdAt bs 0 = .ok (a, m)) (h2 : rdAt bs m = .ok (b, c)) (h3 : b < 1 ∨ a > N ∨ b > N - a) : rdHead bs N = .error (4, m) := by unfold rdHead; rw [h]; simp only; rw [h2]; simp only; rw [if_pos h3]
set_option maxHeartbeats 8000000 in
set_option maxRecDepth 100000 in
/-- the reference's Get where the head is none -/
theorem rget7_head (s : ByteArray) (N : Nat) (hs : s.size ≤ 140737488355328) (hN : N ≤ 4096) (b : Bad) (hH : rdHead s.data.toList N = .error b) (w : World) :
    Calls Tryz.prog 25 #[.string s, .int .i64 (N : Int)] w fun e w' => e = .returned (.agg #[.int .i64 0, .slice none 0 0, .int .i64 (b.1 : Int), .int .i64 (b.2 : Int)]) ∧ Hid (Below w.heap.size w w') := by
  have HS0 := Lib.hid (fun W => readShort_calls s 0 (Nat.zero_le _) hs W)
  have HB0 : Hid (Below w.heap.size w (w.alloc resO)) := Lib.hid ((Below.refl _ _).alloc (Nat.le_refl _) _)
  have HR0 : Hid ((w.alloc resO).heap[w.heap.size]? = some resO) := Lib.hid (heap_alloc_new w _)
  cases hA : rdAt s.data.toList 0 with
  | error b0 =>
    have hbb : b0 = b := by rw [rdHead_e1 hA] at hH; injection hH
    subst hbb
    have hk : ¬ ((b0.1 : Nat) : Int) = 0 := by have := rdAt_bad hA; omega
    have HS' : Hid (∀ W, Calls Tryz.prog 58 #[.string s, .int .i64 0] W fun e w' => e = .returned (.agg #[.int .i64 0, .int .i64 0, .int .i64 (b0.1 : Int), .int .i64 (b0.2 : Int)]) ∧ Hid (Below W.heap.size W w')) := Lib.hid (fun W => by have := HS0.out W; rw [hA] at this; exact this)
    clear HS0 hA hH
    obtain ⟨k1, k2⟩ := b0
    simp only at hk HS' ⊢
    go_enter Tryz.func25, Tryz.ntmps25
    go_upto_region 2 with (go_at_call 58; refine (HS'.out _).mono ?_; rintro e w1 ⟨rfl, HB1⟩)
    obtain ⟨hBW, hrW, -⟩ := box_next HB0.out HR0.out HB1.out (gotO 0 0 (k1 : Int) (k2 : Int))
    have hx := heap_alloc_new w1 (gotO 0 0 (k1 : Int) (k2 : Int))
    generalize w1.alloc (gotO 0 0 (k1 : Int) (k2 : Int)) = W at *
    generalize w1.heap.size = xb at *
    have HBW := Lib.hid hBW
    obtain ⟨⟨f0, f1⟩, ⟨f2, f3⟩, ⟨f4, f5⟩, ⟨f6, f7⟩, f8⟩ := box4 hrW (.int .i64 0) (.slice none 0 0) (.int .i64 (k1 : Int)) (.int .i64 (k2 : Int))
    have HF8 := Lib.hid f8
    obtain ⟨d0, d1, d2, d3⟩ := got_cells hx
    clear hBW hrW hx f8
    go_wp2
    exact bodyPost_ret (cell1_result HF8.out rfl _ rfl Tryz.underlying62 (by kernel_rfl)) rfl ⟨rfl, Lib.hid (set4_below HBW.out (Nat.le_refl _) _ _ _ _)⟩
  | ok r =>
    obtain ⟨a, m⟩ := r
    have hm := rdAt_len hA
    rw [list_sz] at hm
    simp only at hm
    obtain ⟨-, hm1, ha5⟩ := hm
    have ha6 : a < 72057594037927936 := by simpa using ha5
    have HS' : Hid (∀ W, Calls Tryz.prog 58 #[.string s, .int .i64 0] W fun e w' => e = .returned (.agg #[.int .i64 (a : Int), .int .i64 (m : Int), .int .i64 0, .int .i64 0]) ∧ Hid (Below W.heap.size W w')) := Lib.hid (fun W => by have := HS0.out W; rw [hA] at this; exact this)
    have HS1 := Lib.hid (fun W => readShort_calls s m hm1 hs W)
    clear HS0
    cases hB : rdAt s.data.toList m with
    | error b0 =>
      have hbb : b0 = b := by rw [rdHead_e2 hA hB] at hH; injection hH
      subst hbb
      have hk : ¬ ((b0.1 : Nat) : Int) = 0 := by have := rdAt_bad hB; omega
      have HS2 : Hid (∀ W, Calls Tryz.prog 58 #[.string s, .int .i64 (m : Int)] W fun e w' => e = .returned (.agg #[.int .i64 0, .int .i64 (m : Int), .int .i64 (b0.1 : Int), .int .i64 (b0.2 : Int)]) ∧ Hid (Below W.heap.size W w')) := Lib.hid (fun W => by have := HS1.out W; rw [hB] at this; exact this)
      clear HS1 hA hB hH ha5
      obtain ⟨k1, k2⟩ := b0
      simp only at hk HS2 ⊢
      go_enter Tryz.func25, Tryz.ntmps25
      go_upto_region 2 with (go_at_call 58; refine (HS'.out _).mono ?_; rintro e w1 ⟨rfl, HB1⟩)
      obtain ⟨hBW, hrW, -⟩ := box_next HB0.out HR0.out HB1.out (gotO (a : Int) (m : Int) 0 0)
      have hx := heap_alloc_new w1 (gotO (a : Int) (m : Int) 0 0)
      generalize w1.alloc (gotO (a : Int) (m : Int) 0 0) = W at *
      generalize w1.heap.size = xb at *
      have HBW := Lib.hid hBW
      have HRW := Lib.hid hrW
      obtain ⟨d0, d1, d2, d3⟩ := got_cells hx
      clear hBW hrW hx HB0 HR0
      go_upto_region 5 with (go_at_call 58; refine (HS2.out _).mono ?_; rintro e w2 ⟨rfl, HB2⟩)
      clear d0 d1 d2 d3
      obtain ⟨hBW, hrW, -⟩ := box_next HBW.out HRW.out HB2.out (gotO 0 (m : Int) (k1 : Int) (k2 : Int))
      have hx := heap_alloc_new w2 (gotO 0 (m : Int) (k1 : Int) (k2 : Int))
      generalize w2.alloc (gotO 0 (m : Int) (k1 : Int) (k2 : Int)) = W2 at *
      generalize w2.heap.size = yb at *
      have HBW2 := Lib.hid hBW
      obtain ⟨⟨f0, f1⟩, ⟨f2, f3⟩, ⟨f4, f5⟩, ⟨f6, f7⟩, f8⟩ := box4 hrW (.int .i64 0) (.slice none 0 0) (.int .i64 (k1 : Int)) (.int .i64 (k2 : Int))
      have HF8 := Lib.hid f8
      obtain ⟨d0, d1, d2, d3⟩ := got_cells hx
      clear hBW hrW hx f8
      go_wp2
      exact bodyPost_ret (cell1_result HF8.out rfl _ rfl Tryz.underlying62 (by kernel_rfl)) rfl ⟨rfl, Lib.hid (set4_below HBW2.out (Nat.le_refl _) _ _ _ _)⟩
    | ok r2 =>
      obtain ⟨b2, c⟩ := r2
      have hb5 := (rdAt_len hB).2.2
      simp only at hb5
      have hb6 : b2 < 72057594037927936 := by simpa using hb5
      have HS2 : Hid (∀ W, Calls Tryz.prog 58 #[.string s, .int .i64 (m : Int)] W fun e w' => e = .returned (.agg #[.int .i64 (b2 : Int), .int .i64 (c : Int), .int .i64 0, .int .i64 0]) ∧ Hid (Below W.heap.size W w')) := Lib.hid (fun W => by have := HS1.out W; rw [hB] at this; exact this)
      by_cases hbad : b2 < 1 ∨ a > N ∨ b2 > N - a
      · have hbb : (4, m) = b := by rw [rdHead_e3 hA hB hbad] at hH; injection hH
        subst hbb
        have hcs : (b2 : Int) < 1 ∨ (¬ (b2 : Int) < 1 ∧ (a : Int) + (b2 : Int) > (N : Int)) := by omega
        clear HS1 hA hB hH ha5 hb5 hbad
        simp only
        rcases hcs with e1 | ⟨e1, e2⟩
        all_goals
          go_enter Tryz.func25, Tryz.ntmps25
          go_upto_region 2 with (go_at_call 58; refine (HS'.out _).mono ?_; rintro e w1 ⟨rfl, HB1⟩)
          obtain ⟨hBW, hrW, -⟩ := box_next HB0.out HR0.out HB1.out (gotO (a : Int) (m : Int) 0 0)
          have hx := heap_alloc_new w1 (gotO (a : Int) (m : Int) 0 0)
          generalize w1.alloc (gotO (a : Int) (m : Int) 0 0) = W at *
          generalize w1.heap.size = xb at *
          have HBW := Lib.hid hBW
          have HRW := Lib.hid hrW
          have HXW := Lib.hid hx
          obtain ⟨d0, d1, d2, d3⟩ := got_cells hx
          clear hBW hrW hx HB0 HR0
          go_upto_region 5 with (go_at_call 58; refine (HS2.out _).mono ?_; rintro e w2 ⟨rfl, HB2⟩)
          clear d0 d1 d2 d3
          obtain ⟨hBW, hrW, hWW⟩ := box_next HBW.out HRW.out HB2.out (gotO (b2 : Int) (c : Int) 0 0)
          have hx := heap_alloc_new w2 (gotO (b2 : Int) (c : Int) 0 0)
          obtain ⟨y0, y1, y2, y3⟩ := got_cells ((hWW.block xb (Array.getElem?_eq_some_iff.1 HXW.out).1).trans HXW.out)
          generalize w2.alloc (gotO (b2 : Int) (c : Int) 0 0) = W2 at *
          generalize w2.heap.size = yb at *
          have HBW2 := Lib.hid hBW
          obtain ⟨⟨f0, f1⟩, ⟨f2, f3⟩, ⟨f4, f5⟩, ⟨f6, f7⟩, f8⟩ := box4 hrW (.int .i64 0) (.slice none 0 0) (.int .i64 4) (.int .i64 (m : Int))
          have HF8 := Lib.hid f8
          obtain ⟨d0, d1, d2, d3⟩ := got_cells hx
          clear hBW hrW hx f8 hWW
          go_wp2
          exact bodyPost_ret (cell1_result HF8.out rfl _ rfl Tryz.underlying62 (by kernel_rfl)) rfl ⟨rfl, Lib.hid (set4_below HBW2.out (Nat.le_refl _) _ _ _ _)⟩
      · rw [rdHead_mk hA hB hbad] at hH
        simp at hH
end Go.Proofs.YtjokfllldcjheaaGreatDoor.Oc
/- The reference of layer 7: Get, where the head is one. -/
namespace Go.Proofs.YtjokfllldcjheaaGreatDoor.Oc
open Go.RowKit Go.Proofs.YtjokfllldcjheaaGreatDoor.Sha Go.Proofs.YtjokfllldcjheaaGreatDoor.Ro Go.Proofs.YtjokfllldcjheaaGreatDoor.Cs Go.Proofs.YtjokfllldcjheaaGreatDoor.Ed
set_option linter.unusedVariables false
set_option linter.unusedSimpArgs false
theorem rdSteps_bad {bs : List UInt8} {N : Nat} : ∀ {k : Nat} {first : Bool} {now : Int} {a : Nat} {b : Bad}, rdSteps bs N k first now a = .error b → b.1 = 3 ∨ b.1 = 4
  | 0, _, _, _, b, h => by simp [rdSteps] at h
  | k + 1, first, now, a, b, h => by
    rw [rdSteps] at h
    cases e : rdAt bs a with
    | error bd => rw [e] at h; injection h with h; rw [← h]; exact rdAt_bad e
    | ok r =>
      rw [e] at h
      simp only at h
      split at h
      · injection h with h; rw [← h]; exact .inr rfl
      · cases e2 : rdSteps bs N k false (now + stepY first r.1) r.2 with
        | error bd => rw [e2] at h; injection h with h; rw [← h]; exact rdSteps_bad e2
        | ok q => rw [e2] at h; simp at h
theorem rdRow_bad {bs : List UInt8} {N a : Nat} {v : Int} {b : Bad} (h : rdRow bs N a v = .error b) : b.1 = 3 ∨ b.1 = 4 := by
  unfold rdRow at h
  cases e : rdAt bs a with
  | error bd => rw [e] at h; injection h with h; rw [← h]; exact rdAt_bad e
  | ok r =>
    rw [e] at h
    simp only at h
    split at h
    · injection h with h; rw [← h]; exact .inr rfl
    · exact rdSteps_bad h
abbrev rowB (t : Value) (nx k p : Int) : Obj := .cells #[t, .int .i64 nx, .int .i64 k, .int .i64 p] 122
theorem row_cells {W : World} {n : Nat} {t : Value} {nx k p : Int} (h : W.heap[n]? = some (rowB t nx k p)) : W.cell? ⟨n, 0, none⟩ = some t ∧ W.cell? ⟨n, 1, none⟩ = some (.int .i64 nx) ∧ W.cell? ⟨n, 2, none⟩ = some (.int .i64 k) ∧ W.cell? ⟨n, 3, none⟩ = some (.int .i64 p) :=
  ⟨cell_of_row W n 0 _ _ _ h, cell_of_row W n 1 _ _ _ h, cell_of_row W n 2 _ _ _ h, cell_of_row W n 3 _ _ _ h⟩
set_option maxHeartbeats 8000000 in
set_option maxRecDepth 100000 in
theorem rget7_main (s : ByteArray) (N : Nat) (hs : s.size ≤ 140737488355328) (hN : N ≤ 4096) (hd : Nat × Nat × Nat) (hH : rdHead s.data.toList N = .ok hd) (w : World) :
    Calls Tryz.prog 25 #[.string s, .int .i64 (N : Int)] w fun e w' => Hid (RG7 (rdShard s.data.toList N) w w' e) ∧ Hid (Below w.heap.size w w') := by
  obtain ⟨R, hR⟩ : ∃ R, rdShard s.data.toList N = R := ⟨_, rfl⟩
  rw [hR]
  have HS0 := Lib.hid (fun W => readShort_calls s 0 (Nat.zero_le _) hs W)
  have HB0 : Hid (Below w.heap.size w (w.alloc resO)) := Lib.hid ((Below.refl _ _).alloc (Nat.le_refl _) _)
  have HR0 : Hid ((w.alloc resO).heap[w.heap.size]? = some resO) := Lib.hid (heap_alloc_new w _)
  obtain ⟨a, m, b, c, e1, e2, e3, rfl⟩ := rdHead_ok hH
  have hm := rdAt_len e1
  rw [list_sz] at hm
  simp only at hm
  obtain ⟨-, hm1, -⟩ := hm
  have hc := (rdAt_len e2).2.1
  rw [list_sz] at hc
  simp only at hc
  have hb1 : 1 ≤ b := by omega
  have hab : a + b ≤ N := by omega
  have HS' : Hid (∀ W, Calls Tryz.prog 58 #[.string s, .int .i64 0] W fun e w' => e = .returned (.agg #[.int .i64 (a : Int), .int .i64 (m : Int), .int .i64 0, .int .i64 0]) ∧ Hid (Below W.heap.size W w')) := Lib.hid (fun W => by have := HS0.out W; rw [e1] at this; exact this)
  have HS2 : Hid (∀ W, Calls Tryz.prog 58 #[.string s, .int .i64 (m : Int)] W fun e w' => e = .returned (.agg #[.int .i64 (b : Int), .int .i64 (c : Int), .int .i64 0, .int .i64 0]) ∧ Hid (Below W.heap.size W w')) := Lib.hid (fun W => by have := readShort_calls s m hm1 hs W; rw [e2] at this; exact this)
  obtain ⟨mk, hmk⟩ : ∃ mk, (b + 7) / 8 = mk := ⟨_, rfl⟩
  obtain ⟨IX, hIX⟩ : ∃ IX, rdIdx s.data.toList mk c = IX := ⟨_, rfl⟩
  have HIX : Hid (rdIdx s.data.toList ((((a, b, c) : Nat × Nat × Nat).2.1 + 7) / 8) ((a, b, c) : Nat × Nat × Nat).2.2 = IX) := Lib.hid (by show rdIdx s.data.toList ((b + 7) / 8) c = IX; rw [hmk]; exact hIX)
  have HLE : Hid (LeadI IX [] [] (rdIdx s.data.toList (mk - 0) c)) := Lib.hid (by
    rw [Nat.sub_zero, hIX]; unfold LeadI
    cases IX with
    | error b => rfl
    | ok q => simp)
  have HHE := Lib.hid hH
  have HRS := Lib.hid hR
  have c1 : ¬ (b : Int) < 1 := by omega
  have c2 : ¬ (a : Int) + (b : Int) > (N : Int) := by omega
  have hm8 : b ≤ mk * 8 ∧ mk * 8 ≤ b + 7 := by omega
  obtain ⟨hm8a, hm8b⟩ := hm8
  clear HS0 hH hR e1 e2 e3 hIX hmk hm1
  go_enter Tryz.func25, Tryz.ntmps25
  go_upto_region 2 with (go_at_call 58; refine (HS'.out _).mono ?_; rintro e w1 ⟨rfl, HB1⟩)
  obtain ⟨hBW, hrW, -⟩ := box_next HB0.out HR0.out HB1.out (gotO (a : Int) (m : Int) 0 0)
  have hx := heap_alloc_new w1 (gotO (a : Int) (m : Int) 0 0)
  generalize w1.alloc (gotO (a : Int) (m : Int) 0 0) = W at *
  generalize w1.heap.size = xb at *
  have HBW := Lib.hid hBW
  have HRW := Lib.hid hrW
  have HXW := Lib.hid hx
  obtain ⟨d0, d1, d2, d3⟩ := got_cells hx
  clear hBW hrW hx HB0 HR0
  go_upto_region 5 with (go_at_call 58; refine (HS2.out _).mono ?_; rintro e w2 ⟨rfl, HB2⟩)
  clear d0 d1 d2 d3
  obtain ⟨hBW, hrW, hWW⟩ := box_next HBW.out HRW.out HB2.out (gotO (b : Int) (c : Int) 0 0)
  have hx := heap_alloc_new w2 (gotO (b : Int) (c : Int) 0 0)
  have hxx := (hWW.block xb (Array.getElem?_eq_some_iff.1 HXW.out).1).trans HXW.out
  generalize w2.alloc (gotO (b : Int) (c : Int) 0 0) = W2 at *
  generalize w2.heap.size = yb at *
  have HBF : Hid (∀ X, Below W2.heap.size W2 X → Below w.heap.size w X) := Lib.hid (fun X h => hBW.trans (h.mono hBW.size))
  have HRF : Hid (∀ X, Below W2.heap.size W2 X → X.heap[w.heap.size]? = some resO) := Lib.hid (fun X h => (h.block _ (Array.getElem?_eq_some_iff.1 hrW).1).trans hrW)
  have HXB : Hid (∀ X, Below W2.heap.size W2 X → X.cell? ⟨xb, 0, none⟩ = some (.int .i64 (a : Int)) ∧ X.cell? ⟨yb, 0, none⟩ = some (.int .i64 (b : Int)) ∧ X.cell? ⟨yb, 1, none⟩ = some (.int .i64 (c : Int))) := Lib.hid (fun X h => by
    have h1 := (h.block xb (Array.getElem?_eq_some_iff.1 hxx).1).trans hxx
    have h2 := (h.block yb (Array.getElem?_eq_some_iff.1 hx).1).trans hx
    exact ⟨cell_of_row X xb 0 _ _ _ h1, cell_of_row X yb 0 _ _ _ h2, cell_of_row X yb 1 _ _ _ h2⟩)
  have HWL : Hid (w.heap.size < W2.heap.size) := Lib.hid (Array.getElem?_eq_some_iff.1 hrW).1
  obtain ⟨y0, y1, y2, y3⟩ := got_cells hxx
  obtain ⟨d0, d1, d2, d3⟩ := got_cells hx
  have HT0 : Hid (R2 W2 ((W2.alloc (.cells #[] 3)).alloc (.cells #[] 3)) W2.heap.size (.slice (some ⟨W2.heap.size, 0, none⟩) 0 0) (.slice (some ⟨W2.heap.size + 1, 0, none⟩) 0 0) [] []) := Lib.hid (by
    refine ⟨(OJ.fresh W2 _ (Nat.le_refl _)).alloc _, ?_, by simp [Value.ownBlock], ((Below.refl _ _).alloc (Nat.le_refl _) _).alloc (by simp) _⟩
    have h := OJ.fresh (W2.alloc (.cells #[] 3)) W2.heap.size (by simp)
    rw [show (W2.alloc (.cells #[] 3)).heap.size = W2.heap.size + 1 by simp] at h
    exact h)
  clear hBW hrW hx hxx hWW HXW HRW HBW HB1 HB2
  go_upto_region 10 with (fail)
  obtain ⟨y0', d0', d1'⟩ := HXB.out _ HT0.out.bel
  go_upto_region 12 with (fail)
  clear y0 y1 y2 y3 d0 d1 d2 d3 y0' d0' d1'
  go_loopw [7, 8, 9, 10] (fun u v p x wz => ∃ (j i8 at_ : Nat) (M P : List Nat), p = .int .i64 (at_ : Int) ∧ x = .int .i64 (i8 : Int) ∧ j ≤ mk ∧ i8 ≤ b + 7 ∧ at_ ≤ s.size ∧ Hid (i8 = j * 8 ∧ M.length = j ∧ P.length = j) ∧ Hid (LeadI IX M P (rdIdx s.data.toList (mk - j) at_)) ∧ Hid (R2 W2 wz W2.heap.size u v (M.map Int.ofNat) (P.map Int.ofNat))) (fun _ _ _ x _ => b + 8 - (intOf x).toNat)
  case atStart => exact ⟨0, 0, c, [], [], rfl, rfl, Nat.zero_le _, Nat.zero_le _, hc, Lib.hid ⟨rfl, rfl, rfl⟩, HLE, HT0⟩
  case round =>
    clear HLE HT0
    obtain ⟨j, i8, at_, M, P, rfl, rfl, hj, hi8, hat, HJ, HLE, HT⟩ := hrel
    generalize wr = wi at *
    obtain ⟨y0, d0, d1⟩ := HXB.out _ HT.out.bel
    have hBz := HT.out.bel.size
    have HML : Hid ((M.map Int.ofNat).length ≤ 1000) := Lib.hid (by rw [List.length_map, HJ.out.2.1]; omega)
    have HPL : Hid ((P.map Int.ofNat).length ≤ 1000) := Lib.hid (by rw [List.length_map, HJ.out.2.2]; omega)
    by_cases hlt : i8 < b
    · have i1 : (i8 : Int) < (b : Int) := by omega
      have hjm : j < mk := by have := HJ.out.1; omega
      have hk : mk - j = (mk - (j + 1)) + 1 := by omega
      rw [hk] at HLE
      have HS := Lib.hid (readShort_calls s at_ hat hs wi)
      cases hA : rdAt s.data.toList at_ with
      | error bd =>
        have HRB := Lib.hid (HRS.out.symm.trans (rdShard_e2 HHE.out (HIX.out.trans (HLE.out.bad hA))))
        have hkb : ¬ ((bd.1 : Nat) : Int) = 0 := by have := rdAt_bad hA; omega
        have HS3 : Hid (Calls Tryz.prog 58 #[.string s, .int .i64 (at_ : Int)] wi fun e w' => e = .returned (.agg #[.int .i64 0, .int .i64 (at_ : Int), .int .i64 (bd.1 : Int), .int .i64 (bd.2 : Int)]) ∧ Hid (Below wi.heap.size wi w')) := Lib.hid (by have := HS.out; rw [hA] at this; exact this)
        clear HS HLE hA hk
        obtain ⟨k1, k2⟩ := bd
        simp only at hkb HS3
        go_upto_region 15 with (go_at_call 58; refine HS3.out.mono ?_; rintro e w3 ⟨rfl, HB3⟩)
        have hb3 : Below W2.heap.size W2 (w3.alloc (gotO 0 (at_ : Int) (k1 : Int) (k2 : Int))) := (HT.out.bel.trans (HB3.out.mono hBz)).alloc (Nat.le_trans hBz HB3.out.size) _
        have hx3 := heap_alloc_new w3 (gotO 0 (at_ : Int) (k1 : Int) (k2 : Int))
        generalize w3.alloc (gotO 0 (at_ : Int) (k1 : Int) (k2 : Int)) = W3 at *
        generalize w3.heap.size = zb at *
        have HB4 := Lib.hid hb3
        obtain ⟨⟨f0, f1⟩, ⟨f2, f3⟩, ⟨f4, f5⟩, ⟨f6, f7⟩, f8⟩ := box4 (HRF.out _ hb3) (.int .i64 0) (.slice none 0 0) (.int .i64 (k1 : Int)) (.int .i64 (k2 : Int))
        have HF8 := Lib.hid f8
        obtain ⟨z0, z1, z2, z3⟩ := got_cells hx3
        clear hb3 hx3 f8 y0 d0 d1
        go_wp2
        exact bodyPost_ret (cell1_result HF8.out rfl _ rfl Tryz.underlying62 (by kernel_rfl)) rfl ⟨Lib.hid (by rw [HRB.out]; rfl), Lib.hid (set4_below (HBF.out _ HB4.out) (Nat.le_refl _) _ _ _ _)⟩
      | ok q =>
        obtain ⟨x, nx⟩ := q
        have hq := rdAt_len hA
        rw [list_sz] at hq
        simp only at hq
        obtain ⟨-, hq1, hq2⟩ := hq
        have hx5 : x < 72057594037927936 := by simpa using hq2
        have HLN2 := Lib.hid (HLE.out.next hA)
        have HS3 : Hid (Calls Tryz.prog 58 #[.string s, .int .i64 (at_ : Int)] wi fun e w' => e = .returned (.agg #[.int .i64 (x : Int), .int .i64 (nx : Int), .int .i64 0, .int .i64 0]) ∧ Hid (Below wi.heap.size wi w')) := Lib.hid (by have := HS.out; rw [hA] at this; exact this)
        obtain ⟨uA, uc, hu, -⟩ := id HT.out.one.shape
        obtain ⟨vA, vc, hv, -⟩ := id HT.out.two.shape
        obtain ⟨un, hun⟩ : ∃ un, (M.map Int.ofNat).length = un := ⟨_, rfl⟩
        obtain ⟨vn, hvn⟩ : ∃ vn, (P.map Int.ofNat).length = vn := ⟨_, rfl⟩
        rw [hun] at hu
        rw [hvn] at hv
        subst hu hv
        clear HS HLE hA hk hq2 hun hvn
        go_upto_region 15 with (go_at_call 58; refine HS3.out.mono ?_; rintro e w3 ⟨rfl, HB3⟩)
        have ht3 := (HT.out.later hBz HB3.out).later (Nat.le_trans hBz HB3.out.size) ((Below.refl _ _).alloc (Nat.le_refl _) (gotO (x : Int) (nx : Int) 0 0))
        have hx3 := heap_alloc_new w3 (gotO (x : Int) (nx : Int) 0 0)
        have hn1 : ∀ k, (Value.slice uA un uc).ownBlock = some k → k ≠ w3.heap.size := fun k hk e => by
          have := OJ.lt HT.out.one k hk
          have := HB3.out.size
          omega
        have hn2 : ∀ k, (Value.slice vA vn vc).ownBlock = some k → k ≠ w3.heap.size := fun k hk e => by
          have := OJ.lt HT.out.two k hk
          have := HB3.out.size
          omega
        generalize w3.alloc (gotO (x : Int) (nx : Int) 0 0) = W3 at *
        generalize w3.heap.size = zb at *
        have HT3 := Lib.hid ht3
        have HN1 := Lib.hid hn1
        have HN2 := Lib.hid hn2
        have hBz3 := HT3.out.bel.size
        obtain ⟨z0, z1, z2, z3⟩ := got_cells hx3
        clear hx3 ht3 hn1 hn2 HB3 HT y0 d0 d1 hBz
        go_wp2_with (first
          | (at_builtin; refine OJ.app_on (base := W2.heap.size) (HT3.out.one.alloc _) (JR.lit _ [(x : Int)] _ rfl 1 rfl (by simp)) rfl _ _ rfl rfl rfl (by simp; omega) (by have := HML.out; simp only [List.length_cons, List.length_nil]; omega) ?_; intro v1 w4 k1 k2 k3; have g1 := k2.cell (Go.Lib.cell?_alloc_some _ z1) (fun e => HN1.out zb e.symm rfl); have HT4 := Lib.hid (HT3.out.push hBz3 _ k1 k2 k3); have hBz4 := HT4.out.bel.size; clear k1 k2 k3)
          | (at_builtin; refine OJ.app_on (base := W2.heap.size) (HT4.out.two.alloc _) (JR.lit _ [(at_ : Int)] _ rfl 1 rfl (by simp)) rfl _ _ rfl rfl rfl (by simp; omega) (by have := HPL.out; simp only [List.length_cons, List.length_nil]; omega) ?_; intro v2 w5 k1 k2 k3; have g2 := k2.cell (Go.Lib.cell?_alloc_some _ g1) (fun e => HN2.out zb e.symm rfl); have HT5 := Lib.hid (HT4.out.swap.push hBz4 _ k1 k2 k3).swap; clear k1 k2 k3))
        go_roundw
        case rel => exact ⟨j + 1, i8 + 8, nx, M ++ [x], P ++ [at_], rfl, by go_num, by omega, by omega, hq1, Lib.hid (by have := HJ.out; simp; omega), HLN2, Lib.hid (by rw [map_snoc, map_snoc]; exact HT5.out)⟩
        case measure => simp [intOf]; omega
    · have i1 : ¬ (i8 : Int) < (b : Int) := by omega
      have hjm : j = mk := by have := HJ.out.1; omega
      have HF : Hid (IX = .ok (M, P, at_)) := Lib.hid (by have := HLE.out; rw [hjm, Nat.sub_self] at this; exact this.done)
      have HM2 : Hid (M.length = mk ∧ P.length = mk) := Lib.hid ⟨by rw [HJ.out.2.1, hjm], by rw [HJ.out.2.2, hjm]⟩
      obtain ⟨RW, hRW⟩ : ∃ RW, rdRows s.data.toList N at_ b (a : Int) at_ = RW := ⟨_, rfl⟩
      have HRW0 : Hid (rdRows s.data.toList N (((M, P, at_) : List Nat × List Nat × Nat).2.2) (((a, b, c) : Nat × Nat × Nat).2.1) ((((a, b, c) : Nat × Nat × Nat).1 : Nat) : Int) (((M, P, at_) : List Nat × List Nat × Nat).2.2) = RW) := Lib.hid hRW
      have HLR : Hid (LeadR RW [] [] (rdRows s.data.toList N at_ (b - 0) ((a : Int) + ((0 : Nat) : Int)) at_)) := Lib.hid (by
        rw [Nat.sub_zero, show (a : Int) + ((0 : Nat) : Int) = (a : Int) by omega, hRW]; unfold LeadR
        cases RW with
        | error b => rfl
        | ok q => simp)
      have HI2 := Lib.hid (HIX.out.trans HF.out)
      have HIF : Hid (∀ X, Below wi.heap.size wi X → Below W2.heap.size W2 X) := Lib.hid (fun X h => HT.out.bel.trans (h.mono hBz))
      have HG0 : Hid (G7 wi ((wi.alloc (.cells #[.int .i64 (a : Int), .slice none 0 0, .int .i64 0, .int .i64 0] 62)).alloc (.cells #[] 3)) a (.slice (some ⟨wi.heap.size + 1, 0, none⟩) 0 0) (.slice none 0 0) ([].map Int.ofNat) [] []) := Lib.hid (by
        have h := G7.start2 wi a
        rw [show (wi.alloc (.cells #[.int .i64 (a : Int), .slice none 0 0, .int .i64 0, .int .i64 0] 62)).heap.size = wi.heap.size + 1 by simp] at h
        exact h)
      have hBzw : w.heap.size < wi.heap.size := Nat.lt_of_lt_of_le HWL.out hBz
      have HBZW := Lib.hid hBzw
      obtain ⟨gm, jm, -⟩ := HT.out.one.reads
      obtain ⟨gp, jp, -⟩ := HT.out.two.reads
      have HJM := Lib.hid jm
      have HJP := Lib.hid jp
      obtain ⟨om, cm, hm, -⟩ := jr_form jm (by rw [List.length_map, HM2.out.1]; omega)
      obtain ⟨op, cp, hp, -⟩ := jr_form jp (by rw [List.length_map, HM2.out.2]; omega)
      rw [List.length_map, HM2.out.1] at hm
      rw [List.length_map, HM2.out.2] at hp
      subst hm hp
      clear hRW hjm HLE HT HF jm jp hBzw HML HPL HJ
      go_upto_region 24 with (fail)
      clear y0 d0 d1
      go_loopw [9, 14, 15] (fun p u x wz => ∃ (i pt : Nat) (BG : List Nat) (rows : Value) (vs : List Value) (LL : List (List Int)), p = .int .i64 (pt : Int) ∧ x = .int .i64 (i : Int) ∧ i ≤ b ∧ at_ ≤ pt ∧ pt ≤ s.size ∧ Hid (BG.length = i ∧ LL.length = i) ∧ Hid (LeadR RW LL BG (rdRows s.data.toList N at_ (b - i) ((a : Int) + (i : Int)) pt)) ∧ Hid (G7 wi wz a u rows (BG.map Int.ofNat) vs LL)) (fun _ _ x _ => b - (intOf x).toNat)
      case atStart => exact ⟨0, at_, [], _, [], [], rfl, rfl, Nat.zero_le _, Nat.le_refl _, hat, Lib.hid ⟨rfl, rfl⟩, HLR, HG0⟩
      case round =>
        clear HLR HG0
        obtain ⟨i, pt, BG, rows, vs, LL, rfl, rfl, hi, hzp, hpt, HLN, HLR, HG⟩ := hrel
        generalize wr = wl at *
        obtain ⟨x0, d0, d1⟩ := HXB.out _ (HIF.out _ HG.out.bel)
        have HBL : Hid ((BG.map Int.ofNat).length ≤ 4096) := Lib.hid (by rw [List.length_map, HLN.out.1]; omega)
        by_cases hlt2 : i < b
        · have i2 : (i : Int) < (b : Int) := by omega
          have hk2 : b - i = (b - (i + 1)) + 1 := by omega
          have hai : (a : Int) + (i : Int) ≤ 4096 := by omega
          rw [hk2] at HLR
          have HSC := Lib.hid (fun X => rgget_calls s pt N ((a : Int) + (i : Int)) hpt hs hN (by omega) X)
          obtain ⟨uA, uc, hu, -⟩ := id HG.out.one.shape
          obtain ⟨un, hun⟩ : ∃ un, (BG.map Int.ofNat).length = un := ⟨_, rfl⟩
          rw [hun] at hu
          subst hu
          clear hun
          cases hA : rdRow s.data.toList N pt ((a : Int) + (i : Int)) with
          | error bd =>
            have HRB := Lib.hid (HRS.out.symm.trans (rdShard_e3 HHE.out HI2.out (HRW0.out.trans (HLR.out.bad hA))))
            have hkb : ¬ ((bd.1 : Nat) : Int) = 0 := by have := rdRow_bad hA; omega
            have HSD : Hid (∀ X, Calls Tryz.prog 59 #[.string s, .int .i64 (pt : Int), .int .i64 (N : Int), .int .i64 ((a : Int) + (i : Int))] X fun e w' => e = .returned (.agg #[.slice none 0 0, .int .i64 (pt : Int), .int .i64 (bd.1 : Int), .int .i64 (bd.2 : Int)]) ∧ Hid (Below X.heap.size X w')) := Lib.hid (fun X => (HSC.out X).mono fun e w' h => by have h1 := h.1.out; rw [hA] at h1; exact ⟨h1, h.2⟩)
            clear HSC HLR hA hk2
            obtain ⟨k1, k2⟩ := bd
            simp only at hkb HSD
            go_upto_region 28 with (first
              | (at_builtin; refine OJ.app_on (base := wi.heap.size + 1) (HG.out.one.alloc _) (JR.lit _ [(pt : Int) - (at_ : Int)] _ rfl 1 rfl (by simp)) rfl _ _ rfl rfl rfl (by have := HG.out.lt; simp; omega) (by have := HBL.out; simp only [List.length_cons, List.length_nil]; omega) ?_; intro v1 w5 q1 q2 q3; have HG5 := Lib.hid ((HG.out.alloc _).push1 q1 q2 q3); have x5 := (HXB.out _ (HIF.out _ HG5.out.bel)).1; clear q1 q2 q3)
              | (go_at_call 59; refine (HSD.out _).mono ?_; rintro e w6 ⟨rfl, HBy⟩))
            have HG6 := Lib.hid ((HG5.out.later HBy.out).alloc (rowB (.slice none 0 0) (pt : Int) (k1 : Int) (k2 : Int)))
            have hx6 := heap_alloc_new w6 (rowB (.slice none 0 0) (pt : Int) (k1 : Int) (k2 : Int))
            clear x0 d0 d1 x5 HG5 HBy
            generalize w6.alloc (rowB (.slice none 0 0) (pt : Int) (k1 : Int) (k2 : Int)) = W6 at *
            generalize w6.heap.size = zb at *
            obtain ⟨z0, z1, z2, z3⟩ := row_cells hx6
            have HB6 := Lib.hid (HIF.out _ HG6.out.bel)
            obtain ⟨⟨f0, f1⟩, ⟨f2, f3⟩, ⟨f4, f5⟩, ⟨f6, f7⟩, f8⟩ := box4 (HRF.out _ HB6.out) (.int .i64 0) (.slice none 0 0) (.int .i64 (k1 : Int)) (.int .i64 (k2 : Int))
            have HF8 := Lib.hid f8
            clear f8 hx6
            go_wp2
            exact bodyPost_ret (cell1_result HF8.out rfl _ rfl Tryz.underlying62 (by kernel_rfl)) rfl ⟨Lib.hid (by rw [HRB.out]; rfl), Lib.hid (set4_below (HBF.out _ HB6.out) (Nat.le_refl _) _ _ _ _)⟩
          | ok q =>
            obtain ⟨L, nx⟩ := q
            have hq := rdRow_len hA
            rw [list_sz] at hq
            simp only at hq
            obtain ⟨hq0, hq1, -⟩ := hq
            have HLN2 := Lib.hid (HLR.out.next hA)
            have HSD : Hid (∀ X, Calls Tryz.prog 59 #[.string s, .int .i64 (pt : Int), .int .i64 (N : Int), .int .i64 ((a : Int) + (i : Int))] X fun e w' => ∃ t, e = .returned (.agg #[t, .int .i64 (nx : Int), .int .i64 0, .int .i64 0]) ∧ Hid (OJ w' X.heap.size t L) ∧ Hid (Below X.heap.size X w')) := Lib.hid (fun X => (HSC.out X).mono fun e w' h => by have h1 := h.1.out; rw [hA] at h1; obtain ⟨t, g1, g2⟩ := h1; exact ⟨t, g1, Lib.hid g2, h.2⟩)
            clear HSC HLR hA hk2
            go_upto_region 28 with (first
              | (at_builtin; refine OJ.app_on (base := wi.heap.size + 1) (HG.out.one.alloc _) (JR.lit _ [(pt : Int) - (at_ : Int)] _ rfl 1 rfl (by simp)) rfl _ _ rfl rfl rfl (by have := HG.out.lt; simp; omega) (by have := HBL.out; simp only [List.length_cons, List.length_nil]; omega) ?_; intro v1 w5 q1 q2 q3; have HG5 := Lib.hid ((HG.out.alloc _).push1 q1 q2 q3); have x5 := (HXB.out _ (HIF.out _ HG5.out.bel)).1; clear q1 q2 q3)
              | (go_at_call 59; refine (HSD.out _).mono ?_; rintro e w6 ⟨t, rfl, HT, HBy⟩; obtain ⟨tA, tc, ht, -⟩ := id HT.out.shape; obtain ⟨tn, htn⟩ : ∃ tn, L.length = tn := ⟨_, rfl⟩; rw [htn] at ht; subst ht))
            have HG6 := Lib.hid ((HG5.out.later HBy.out).alloc (rowB (.slice tA tn tc) (nx : Int) 0 0))
            have HTN := Lib.hid (new_alloc (rowB (.slice tA tn tc) (nx : Int) 0 0) (HG5.out.new HT.out))
            have hx6 := heap_alloc_new w6 (rowB (.slice tA tn tc) (nx : Int) 0 0)
            have hzr : some w6.heap.size ≠ rows.ownBlock := fun e => by
              have h1 := (HG5.out.later HBy.out).two.lt _ e.symm
              omega
            have hzw : w6.heap.size ≠ wi.heap.size := by have := (HG5.out.later HBy.out).lt; omega
            clear x0 d0 d1 x5 HG5 HBy HT htn
            generalize w6.alloc (rowB (.slice tA tn tc) (nx : Int) 0 0) = W6 at *
            generalize w6.heap.size = zb at *
            have HX6 := Lib.hid hx6
            have HZR := Lib.hid hzr
            have HZW := Lib.hid hzw
            obtain ⟨z0, z1, z2, z3⟩ := row_cells hx6
            have HVL : Hid (vs.length ≤ 4096) := Lib.hid (by have := HG6.out.els.1; have := HLN.out.2; omega)
            obtain ⟨-, b1'⟩ := HG6.out.cells
            clear hx6 hzr hzw
            go_wp2_with (at_builtin; refine OV.push_on (base := wi.heap.size + 1) (HG6.out.two.alloc _) (z := .slice tA tn tc) rfl (cell_of_row _ _ 0 _ _ _ (heap_alloc_new W6 _)) rfl _ _ rfl rfl rfl (by have := HG6.out.lt; simp; omega) (by have := HVL.out; omega) ?_; intro v2 w7 k1 k2 k3; obtain ⟨vA, vc, hv2, -⟩ := id k1.shape; generalize (vs ++ [Value.slice tA tn tc]).length = vn at hv2; subst hv2; obtain ⟨q1, q2⟩ := (HG6.out.alloc _).box k2; have HG7 := Lib.hid ((HG6.out.alloc _).push2 (new_alloc _ HTN.out) k1 k2 k3); have e7 : (w7.setCell ⟨wi.heap.size, 1, none⟩ (.slice vA vn vc)).cell? ⟨zb, 1, none⟩ = some (.int .i64 (nx : Int)) := cell_of_row _ zb 1 _ _ _ ((setCell_other w7 ⟨wi.heap.size, 1, none⟩ zb (.slice vA vn vc) HZW.out).trans ((k2.block zb (by have := (Array.getElem?_eq_some_iff.1 HX6.out).1; simp; omega) HZR.out).trans ((heap_alloc_old W6 _ (Array.getElem?_eq_some_iff.1 HX6.out).1).trans HX6.out))); clear k1 k2 k3)
            go_roundw
            case rel => exact ⟨i + 1, nx, BG ++ [pt - at_], _, vs ++ [_], LL ++ [L], rfl, by go_num, by omega, by omega, hq1, Lib.hid (by have := HLN.out; simp; omega), Lib.hid (by have := HLN2.out; rw [show (a : Int) + (i : Int) + 1 = (a : Int) + ((i + 1 : Nat) : Int) by omega] at this; exact this), Lib.hid (by rw [map_snoc, show ((pt - at_ : Nat) : Int) = (pt : Int) - (at_ : Int) by omega]; exact HG7.out)⟩
            case measure => simp [intOf]; omega
        · have i2 : ¬ (i : Int) < (b : Int) := by omega
          have HF2 : Hid (RW = .ok (LL, BG, pt)) := Lib.hid (by have := HLR.out; rw [show b - i = 0 by omega] at this; exact this.done)
          obtain ⟨C, hC⟩ : ∃ C, chk BG M P 0 = C := ⟨_, rfl⟩
          have HCC := Lib.hid hC
          have HC0 : Hid (chk BG (M.drop 0) (P.drop 0) 0 = C) := Lib.hid hC
          have HBGl : Hid (BG.length = b) := Lib.hid (by have := HLN.out.1; omega)
          obtain ⟨gb, jb, -⟩ := HG.out.one.reads
          obtain ⟨ob, cb, hv, -, -⟩ := jr_form jb (by rw [List.length_map, HBGl.out]; omega)
          rw [List.length_map, HBGl.out] at hv
          subst hv
          clear hC jb HLR HLN HBL
          go_upto_region 33 with (fail)
          clear x0 d0 d1
          go_loopw [17] (fun x wz => ∃ r : Nat, x = .int .i64 (r : Int) ∧ r ≤ mk ∧ Hid (chk BG (M.drop r) (P.drop r) r = C) ∧ Hid (G7 wi wz a (.slice (some ⟨gb, ob, none⟩) b cb) rows (BG.map Int.ofNat) vs LL)) (fun x _ => mk - (intOf x).toNat)
          case atStart => exact ⟨0, rfl, Nat.zero_le _, HC0, HG⟩
          case round =>
            clear HC0 HG
            obtain ⟨r, rfl, hr, HC1, HG⟩ := hrel
            generalize wr = wq at *
            by_cases him : r < mk
            · have r2 : (r : Int) < (mk : Int) := by omega
              obtain ⟨r8, hr8⟩ : ∃ r8, r * 8 = r8 := ⟨_, rfl⟩
              have h8b : r8 < b := by omega
              have r4 : (r8 : Int) < (b : Int) := by omega
              have r5 : (8 : Int) * (r : Int) = (r8 : Int) := by omega
              have p1 := jr_cell (HJM.out.later HG.out.bel) r (by rw [List.length_map, HM2.out.1]; exact him)
              have p2 := jr_cell (HJP.out.later HG.out.bel) r (by rw [List.length_map, HM2.out.2]; exact him)
              obtain ⟨g3, j3, -⟩ := HG.out.one.reads
              have p3 := jr_cell j3 r8 (by rw [List.length_map, HBGl.out]; exact h8b)
              have HC2 := HC1.out
              rw [chk_step BG M P r (by rw [HM2.out.1]; exact him) (by rw [HM2.out.2]; exact him)] at HC2
              rw [getD_ofNat] at p1 p2 p3
              rw [Nat.mul_comm 8 r, hr8] at HC2
              clear hr8 j3
              by_cases hmb : M.getD r 0 = BG.getD r8 0
              · rw [if_pos hmb] at HC2
                have HC3 := Lib.hid HC2
                rw [← hmb] at p3
                clear HC2 hmb HC1 p2
                generalize M.getD r 0 = mi at *
                have b9 : ((mi : Int) != (mi : Int)) = false := by simp
                go_upto_region 35 with (fail)
                go_quiet (fail)
                have HGQ := Lib.hid (HG.out.later (Ed.drewN_below _ wq nq))
                clear p1 p3
                generalize wq.drewN nq = wq2 at *
                go_wp2
                go_roundw
                case rel => exact ⟨r + 1, by go_num, by omega, HC3, HGQ⟩
                case measure => simp [intOf]; omega
              · rw [if_neg hmb] at HC2
                have HRE := Lib.hid (HRS.out.symm.trans (rdShard_e4 HHE.out HI2.out (HRW0.out.trans HF2.out) (HCC.out.trans HC2.symm)))
                have b9 : (((M.getD r 0 : Nat) : Int) != ((BG.getD r8 0 : Nat) : Int)) = true := by rw [bne_iff_ne]; omega
                have b8 : ¬ ((M.getD r 0 : Nat) : Int) = ((BG.getD r8 0 : Nat) : Int) := by omega
                clear HC2 hmb HC1
                generalize M.getD r 0 = mi at *
                generalize BG.getD r8 0 = bi at *
                generalize P.getD r 0 = pi at *
                go_upto_region 35 with (fail)
                go_quiet (fail)
                have HGQ := Lib.hid (HG.out.later (Ed.drewN_below _ wq nq))
                have p4 : (wq.drewN nq).cell? ⟨gp, op + r, none⟩ = some (.int .i64 (pi : Int)) := p2
                clear p1 p2 p3
                generalize wq.drewN nq = wq2 at *
                have HB6 := Lib.hid (HIF.out _ HGQ.out.bel)
                obtain ⟨⟨f0, f1⟩, ⟨f2, f3⟩, ⟨f4, f5⟩, ⟨f6, f7⟩, f8⟩ := box4 (HRF.out _ HB6.out) (.int .i64 0) (.slice none 0 0) (.int .i64 4) (.int .i64 (pi : Int))
                have HF8 := Lib.hid f8
                clear f8
                go_wp2
                exact bodyPost_ret (cell1_result HF8.out rfl _ rfl Tryz.underlying62 (by kernel_rfl)) rfl ⟨Lib.hid (by rw [HRE.out]; rfl), Lib.hid (set4_below (HBF.out _ HB6.out) (Nat.le_refl _) _ _ _ _)⟩
            · have r2 : ¬ (r : Int) < (mk : Int) := by omega
              have HC4 : Hid (chk BG M P 0 = none) := Lib.hid (by
                have := HC1.out
                have e : M.drop r = M.drop M.length := by rw [HM2.out.1, show r = mk by omega]
                rw [e, chk_end] at this
                rw [HCC.out, this])
              have HB6 := Lib.hid (HIF.out _ HG.out.bel)
              clear HC1
              by_cases hlt3 : pt < s.size
              · have i5 : (pt : Int) < (s.size : Int) := by omega
                have HRE := Lib.hid (HRS.out.symm.trans (rdShard_e5 HHE.out HI2.out (HRW0.out.trans HF2.out) HC4.out (by rw [list_sz]; exact hlt3)))
                obtain ⟨⟨f0, f1⟩, ⟨f2, f3⟩, ⟨f4, f5⟩, ⟨f6, f7⟩, f8⟩ := box4 (HRF.out _ HB6.out) (.int .i64 0) (.slice none 0 0) (.int .i64 4) (.int .i64 (pt : Int))
                have HF8 := Lib.hid f8
                clear f8
                go_wp2
                exact bodyPost_ret (cell1_result HF8.out rfl _ rfl Tryz.underlying62 (by kernel_rfl)) rfl ⟨Lib.hid (by rw [HRE.out]; rfl), Lib.hid (set4_below (HBF.out _ HB6.out) (Nat.le_refl _) _ _ _ _)⟩
              · have i5 : ¬ (pt : Int) < (s.size : Int) := by omega
                have HRE := Lib.hid (HRS.out.symm.trans (rdShard_e6 HHE.out HI2.out (HRW0.out.trans HF2.out) HC4.out (by rw [list_sz]; exact hlt3)))
                obtain ⟨rA, rc, hrw, -⟩ := id HG.out.two.shape
                obtain ⟨rn, hrn⟩ : ∃ rn, vs.length = rn := ⟨_, rfl⟩
                rw [hrn] at hrw
                subst hrw
                have ho := HG.out.out
                have q0 : wq.cell? ⟨wi.heap.size, 0, none⟩ = some (.int .i64 (a : Int)) := cell_of_row wq _ 0 _ _ _ ho
                have q1 : wq.cell? ⟨wi.heap.size, 1, none⟩ = some (.slice rA rn rc) := cell_of_row wq _ 1 _ _ _ ho
                have q2 : wq.cell? ⟨wi.heap.size, 2, none⟩ = some (.int .i64 0) := cell_of_row wq _ 2 _ _ _ ho
                have q3 : wq.cell? ⟨wi.heap.size, 3, none⟩ = some (.int .i64 0) := cell_of_row wq _ 3 _ _ _ ho
                obtain ⟨⟨f0, f1⟩, ⟨f2, f3⟩, ⟨f4, f5⟩, ⟨f6, f7⟩, f8⟩ := box4 (HRF.out _ HB6.out) (.int .i64 (a : Int)) (.slice rA rn rc) (.int .i64 0) (.int .i64 0)
                have HF8 := Lib.hid f8
                have HRR := Lib.hid (HG.out.rows (w' := (((wq.setCell ⟨w.heap.size, 0, none⟩ (.int .i64 (a : Int))).setCell ⟨w.heap.size, 1, none⟩ (.slice rA rn rc)).setCell ⟨w.heap.size, 2, none⟩ (.int .i64 0)).setCell ⟨w.heap.size, 3, none⟩ (.int .i64 0)) HBZW.out (by simp [World.setCell]) (fun k hk => by rw [setCell_other _ ⟨w.heap.size, 3, none⟩ k _ hk, setCell_other _ ⟨w.heap.size, 2, none⟩ k _ hk, setCell_other _ ⟨w.heap.size, 1, none⟩ k _ hk, setCell_other _ ⟨w.heap.size, 0, none⟩ k _ hk]))
                clear f8 hrn ho
                go_wp2
                exact bodyPost_ret (cell1_result HF8.out rfl _ rfl Tryz.underlying62 (by kernel_rfl)) rfl ⟨Lib.hid (by rw [HRE.out]; exact ⟨_, rfl, HRR.out.move (Nat.le_refl _) fun g _ hg => ⟨rfl, Nat.le_trans (Nat.le_of_lt HBZW.out) hg⟩⟩), Lib.hid (set4_below (HBF.out _ HB6.out) (Nat.le_refl _) _ _ _ _)⟩
/-- the reference's Get -/
theorem rget7_calls (s : ByteArray) (N : Nat) (hs : s.size ≤ 140737488355328) (hN : N ≤ 4096) (w : World) :
    Calls Tryz.prog 25 #[.string s, .int .i64 (N : Int)] w fun e w' => Hid (RG7 (rdShard s.data.toList N) w w' e) ∧ Hid (Below w.heap.size w w') := by
  cases hH : rdHead s.data.toList N with
  | error b => exact (rget7_head s N hs hN b hH w).mono fun e w' h => ⟨Lib.hid (by rw [rdShard_e1 hH]; exact h.1), h.2⟩
  | ok hd => exact rget7_main s N hs hN hd hH w
end Go.Proofs.YtjokfllldcjheaaGreatDoor.Oc
