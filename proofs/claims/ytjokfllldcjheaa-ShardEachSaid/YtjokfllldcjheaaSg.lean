/- shard, walked: Get. -/
import Derived.Test.YtjokfllldcjheaaRv
namespace Go.Proofs.Ytjokfllldcjheaa.Oc
open Go.RowKit Go.Proofs.Ytjokfllldcjheaa.Sha Go.Proofs.Ytjokfllldcjheaa.Ro Go.Proofs.Ytjokfllldcjheaa.Cs Go.Proofs.Ytjokfllldcjheaa.Ed
set_option linter.unusedVariables false
set_option linter.unusedSimpArgs false
/-- what is still to be read of the rows leads to R -/
def LeadR (R : Except Bad (List (List Int) × List Nat × Nat)) (LL : List (List Int)) (BG : List Nat) (S : Except Bad (List (List Int) × List Nat × Nat)) : Prop := match S with
  | .error b => R = .error b
  | .ok q => R = .ok (LL ++ q.1, BG ++ q.2.1, q.2.2)
theorem LeadR.bad {R : Except Bad (List (List Int) × List Nat × Nat)} {LL : List (List Int)} {BG : List Nat} {bs : List UInt8} {N z k a : Nat} {v : Int} {b : Bad} (h : LeadR R LL BG (rdRows bs N z (k + 1) v a)) (hR : rdRow bs N a v = .error b) : R = .error b := by
  rw [rdRows, hR] at h; exact h
theorem LeadR.next {R : Except Bad (List (List Int) × List Nat × Nat)} {LL : List (List Int)} {BG : List Nat} {bs : List UInt8} {N z k a nx : Nat} {v : Int} {L : List Int} (h : LeadR R LL BG (rdRows bs N z (k + 1) v a)) (hR : rdRow bs N a v = .ok (L, nx)) : LeadR R (LL ++ [L]) (BG ++ [a - z]) (rdRows bs N z k (v + 1) nx) := by
  rw [rdRows, hR] at h
  simp only at h
  cases e : rdRows bs N z k (v + 1) nx with
  | error b => rw [e] at h; exact h
  | ok q => rw [e] at h; unfold LeadR at h ⊢; simp only at h ⊢; rw [h]; simp
theorem LeadR.done {R : Except Bad (List (List Int) × List Nat × Nat)} {LL : List (List Int)} {BG : List Nat} {bs : List UInt8} {N z a : Nat} {v : Int} (h : LeadR R LL BG (rdRows bs N z 0 v a)) : R = .ok (LL, BG, a) := by
  rw [rdRows] at h; unfold LeadR at h; simpa using h
theorem rdShard_e1 {bs : List UInt8} {N : Nat} {b : Bad} (h : rdHead bs N = .error b) : rdShard bs N = .error b := by
  unfold rdShard rdCore; rw [h]
theorem rdShard_e2 {bs : List UInt8} {N : Nat} {hd : Nat × Nat × Nat} {b : Bad} (h : rdHead bs N = .ok hd) (h2 : rdIdx bs ((hd.2.1 + 7) / 8) hd.2.2 = .error b) : rdShard bs N = .error b := by
  unfold rdShard rdCore; rw [h]; simp only; rw [h2]
theorem rdShard_e3 {bs : List UInt8} {N : Nat} {hd : Nat × Nat × Nat} {x : List Nat × List Nat × Nat} {b : Bad} (h : rdHead bs N = .ok hd) (h2 : rdIdx bs ((hd.2.1 + 7) / 8) hd.2.2 = .ok x) (h3 : rdRows bs N x.2.2 hd.2.1 hd.1 x.2.2 = .error b) : rdShard bs N = .error b := by
  unfold rdShard rdCore; rw [h]; simp only; rw [h2]; simp only; rw [h3]
theorem rdShard_e4 {bs : List UInt8} {N : Nat} {hd : Nat × Nat × Nat} {x : List Nat × List Nat × Nat} {r : List (List Int) × List Nat × Nat} {p : Nat} (h : rdHead bs N = .ok hd) (h2 : rdIdx bs ((hd.2.1 + 7) / 8) hd.2.2 = .ok x) (h3 : rdRows bs N x.2.2 hd.2.1 hd.1 x.2.2 = .ok r) (h4 : chk r.2.1 x.1 x.2.1 0 = some p) : rdShard bs N = .error (4, p) := by
  unfold rdShard rdCore; rw [h]; simp only; rw [h2]; simp only; rw [h3]; simp only; rw [h4]
theorem rdShard_e5 {bs : List UInt8} {N : Nat} {hd : Nat × Nat × Nat} {x : List Nat × List Nat × Nat} {r : List (List Int) × List Nat × Nat} (h : rdHead bs N = .ok hd) (h2 : rdIdx bs ((hd.2.1 + 7) / 8) hd.2.2 = .ok x) (h3 : rdRows bs N x.2.2 hd.2.1 hd.1 x.2.2 = .ok r) (h4 : chk r.2.1 x.1 x.2.1 0 = none) (h5 : r.2.2 < bs.length) : rdShard bs N = .error (4, r.2.2) := by
  unfold rdShard; rw [rdCore_mk h h2 h3 h4]; simp only; rw [if_pos h5]
theorem rdShard_e6 {bs : List UInt8} {N : Nat} {hd : Nat × Nat × Nat} {x : List Nat × List Nat × Nat} {r : List (List Int) × List Nat × Nat} (h : rdHead bs N = .ok hd) (h2 : rdIdx bs ((hd.2.1 + 7) / 8) hd.2.2 = .ok x) (h3 : rdRows bs N x.2.2 hd.2.1 hd.1 x.2.2 = .ok r) (h4 : chk r.2.1 x.1 x.2.1 0 = none) (h5 : ¬ r.2.2 < bs.length) : rdShard bs N = .ok (hd.1, r.1) := by
  unfold rdShard; rw [rdCore_mk h h2 h3 h4]; simp only; rw [if_neg h5]
theorem chk_step (begins : List Nat) (M P : List Nat) (i : Nat) (h : i < M.length) (h2 : i < P.length) : chk begins (M.drop i) (P.drop i) i = if M.getD i 0 = begins.getD (8 * i) 0 then chk begins (M.drop (i + 1)) (P.drop (i + 1)) (i + 1) else some (P.getD i 0) := by
  rw [List.drop_eq_getElem_cons h, List.drop_eq_getElem_cons h2, chk]
  simp [List.getD_eq_getElem?_getD, h, h2]
theorem chk_end (begins : List Nat) (M P : List Nat) (i : Nat) : chk begins (M.drop M.length) P i = none := by
  rw [List.drop_length]; unfold chk; rfl
theorem getD_ofNat (l : List Nat) (i : Nat) : (l.map Int.ofNat).getD i 0 = ((l.getD i 0 : Nat) : Int) := by
  simp only [List.getD_eq_getElem?_getD, List.getElem?_map]
  cases l[i]? <;> rfl
theorem setCell_two_size (w : World) (n i j : Nat) (x y : Value) : ((w.setCell ⟨n, i, none⟩ x).setCell ⟨n, j, none⟩ y).heap.size = w.heap.size := by simp [World.setCell]
theorem setCell_two_other (w : World) (n i j k : Nat) (x y : Value) (h : k ≠ n) : ((w.setCell ⟨n, i, none⟩ x).setCell ⟨n, j, none⟩ y).heap[k]? = w.heap[k]? := by
  rw [setCell_other _ _ _ _ h, setCell_other _ _ _ _ h]
/-- what Get answers -/
def SG (R : Except Bad (Nat × List (List Int))) (w w' : World) (e : Ending) : Prop := match R with
  | .error b => e = .returned (.tuple #[.agg #[.int .i64 0, .slice none 0 0], faultV (b.2 : Int) (b.1 : Int)])
  | .ok q => ∃ rv, e = .returned (.tuple #[.agg #[.int .i64 (q.1 : Int), rv], .nilIface]) ∧ RR w' (fun g => w.heap.size ≤ g) rv q.2
theorem box2 {W : World} {n : Nat} {a0 a1 : Value} {t : TypeId} (h : W.heap[n]? = some (.cells #[a0, a1] t (0, 0))) (b0 b1 : Value) :
    W.cell? ⟨n, 0, none⟩ = some a0 ∧ W.frozen? ⟨n, 0, none⟩ = false ∧ (W.setCell ⟨n, 0, none⟩ b0).cell? ⟨n, 1, none⟩ = some a1 ∧ (W.setCell ⟨n, 0, none⟩ b0).frozen? ⟨n, 1, none⟩ = false ∧ ((W.setCell ⟨n, 0, none⟩ b0).setCell ⟨n, 1, none⟩ b1).heap[n]? = some (.cells #[b0, b1] t (0, 0)) := by
  have h1 := heap_setCell_same W n 0 _ t b0 h
  have h2 := heap_setCell_same _ n 1 _ t b1 h1
  exact ⟨cell_of_row W n 0 _ _ _ h, frozen_of_row W n 0 _ _ h, cell_of_row _ n 1 _ _ _ h1, frozen_of_row _ n 1 _ _ h1, h2⟩
theorem box_later {w W : World} {o : Obj} (h0 : Below w.heap.size w (w.alloc o)) (h1 : (w.alloc o).heap[w.heap.size]? = some o) (hb : Below (w.alloc o).heap.size (w.alloc o) W) : Below w.heap.size w W ∧ W.heap[w.heap.size]? = some o :=
  ⟨h0.trans (hb.mono (by simp)), (hb.block _ (by simp)).trans h1⟩
set_option maxHeartbeats 8000000 in
set_option maxRecDepth 100000 in
theorem get_calls (s : ByteArray) (N : Nat) (hs : s.size ≤ 140737488355328) (hN : N ≤ 4096) (w : World) :
    Calls Try.prog 9 #[.string s, .int .i64 (N : Int)] w fun e w' => Hid (SG (rdShard s.data.toList N) w w' e) ∧ Hid (Below w.heap.size w w') := by
  obtain ⟨R, hR⟩ : ∃ R, rdShard s.data.toList N = R := ⟨_, rfl⟩
  rw [hR]
  obtain ⟨HE, hHE⟩ : ∃ HE, rdHead s.data.toList N = HE := ⟨_, rfl⟩
  have HC := Lib.hid (fun W => heads_calls s N hs hN W)
  rw [hHE] at HC
  have HB0 : Hid (Below w.heap.size w (w.alloc (.cells #[.int .i64 0, .slice none 0 0] 37))) := Lib.hid ((Below.refl _ _).alloc (Nat.le_refl _) _)
  have HR0 : Hid ((w.alloc (.cells #[.int .i64 0, .slice none 0 0] 37)).heap[w.heap.size]? = some (.cells #[.int .i64 0, .slice none 0 0] 37 (0, 0))) := Lib.hid (heap_alloc_new w _)
  cases HE with
  | error b =>
    have HRE := Lib.hid (hR.symm.trans (rdShard_e1 hHE))
    clear hR hHE
    have HC' : Hid (∀ W, Calls Try.prog 17 #[.string s, .int .i64 (N : Int)] W fun e w' => e = .returned (.tuple #[.agg #[.int .i64 0, .int .i64 0, .int .i64 0], faultV (b.2 : Int) (b.1 : Int)]) ∧ Hid (Below W.heap.size W w')) := HC
    clear HC
    go_enter Try.func9, Try.ntmps9
    go_upto_region 3 with (go_at_call 17; refine (HC'.out _).mono ?_; rintro e w1 ⟨rfl, HB1⟩)
    obtain ⟨hBW, hrW⟩ := box_later HB0.out HR0.out (HB1.out.alloc HB1.out.size (.cells #[.int .i64 0, .int .i64 0, .int .i64 0] 57))
    generalize w1.alloc (.cells #[.int .i64 0, .int .i64 0, .int .i64 0] 57) = W at *
    have HBW := Lib.hid hBW
    have HRW := Lib.hid hrW
    clear hBW hrW
    obtain ⟨f0, f1, f2, f3, f4⟩ := box2 HRW.out (.int .i64 0) (.slice none 0 0)
    have HF4 := Lib.hid f4
    clear f4
    go_wp2
    exact bodyPost_ret (cell2_result HF4.out rfl _ rfl Try.underlying37 (by kernel_rfl) rfl) rfl ⟨Lib.hid (by rw [HRE.out]; rfl), Lib.hid ((HBW.out.setCell (Nat.le_refl _) _).setCell (Nat.le_refl _) _)⟩
  | ok hd =>
    obtain ⟨a, m1, b, c, e1, e2, e3, rfl⟩ := rdHead_ok hHE
    have hc := (rdAt_len e2).2.1
    rw [list_sz] at hc
    simp only at hc
    have hb1 : 1 ≤ b := by omega
    have hab : a + b ≤ N := by omega
    clear e1 e2 e3
    have HC' : Hid (∀ W, Calls Try.prog 17 #[.string s, .int .i64 (N : Int)] W fun e w' => e = .returned (.tuple #[headV a b c, .nilIface]) ∧ Hid (Below W.heap.size W w')) := HC
    clear HC
    obtain ⟨mk, hmk⟩ : ∃ mk, (b + 7) / 8 = mk := ⟨_, rfl⟩
    have HM0 := Lib.hid (fun W => marks_calls a b c (by omega) W)
    rw [hmk] at HM0
    have HI0 := Lib.hid (fun W => index_calls s a b c mk hs hc (by omega) W)
    obtain ⟨IX, hIX⟩ : ∃ IX, rdIdx s.data.toList mk c = IX := ⟨_, rfl⟩
    rw [hIX] at HI0
    have HIX : Hid (rdIdx s.data.toList ((((a, b, c) : Nat × Nat × Nat).2.1 + 7) / 8) ((a, b, c) : Nat × Nat × Nat).2.2 = IX) := Lib.hid (by show rdIdx s.data.toList ((b + 7) / 8) c = IX; rw [hmk]; exact hIX)
    have HHE := Lib.hid hHE
    have HRS := Lib.hid hR
    clear hHE hR
    cases IX with
    | error bd =>
      have HRE := Lib.hid (HRS.out.symm.trans (rdShard_e2 HHE.out HIX.out))
      have HI' : Hid (∀ W, Calls Try.prog 18 #[headV a b c, .string s, .int .i64 (mk : Int)] W fun e w' => e = .returned (.tuple #[.slice none 0 0, .slice none 0 0, .int .i64 0, faultV (bd.2 : Int) (bd.1 : Int)]) ∧ Hid (Below W.heap.size W w')) := Lib.hid (fun W => (HI0.out W).mono fun e w' h => ⟨h.1.out, h.2⟩)
      clear HI0 hIX HIX HHE HRS
      go_enter Try.func9, Try.ntmps9
      go_upto_region 4 with (go_at_call 17; refine (HC'.out _).mono ?_; rintro e w1 ⟨rfl, HB1⟩)
      obtain ⟨hBW, hrW⟩ := box_later HB0.out HR0.out (HB1.out.alloc HB1.out.size (.cells #[.int .i64 (a : Int), .int .i64 (b : Int), .int .i64 (c : Int)] 57))
      have hhW := heap_alloc_new w1 (.cells #[.int .i64 (a : Int), .int .i64 (b : Int), .int .i64 (c : Int)] 57)
      generalize w1.alloc (.cells #[.int .i64 (a : Int), .int .i64 (b : Int), .int .i64 (c : Int)] 57) = W at *
      have hlt := (Array.getElem?_eq_some_iff.1 hhW).1
      generalize w1.heap.size = hb at *
      have HS : Hid (∀ X, Below W.heap.size W X → X.cell? ⟨hb, 0, none⟩ = some (.int .i64 (a : Int)) ∧ X.cell? ⟨hb, 1, none⟩ = some (.int .i64 (b : Int)) ∧ X.cell? ⟨hb, 2, none⟩ = some (.int .i64 (c : Int))) := Lib.hid (fun X h => by
        have h1 := (h.block hb hlt).trans hhW
        exact ⟨cell_of_row X hb 0 _ _ _ h1, cell_of_row X hb 1 _ _ _ h1, cell_of_row X hb 2 _ _ _ h1⟩)
      have HBB : Hid (Below W.heap.size W W.drew) := Lib.hid (Below.refl _ _).drew
      have HBW := Lib.hid hBW
      have HRW := Lib.hid hrW
      clear hBW hrW hhW
      go_region_held3 (fun X => X.cell? ⟨hb, 0, none⟩ = some (.int .i64 (a : Int)) ∧ X.cell? ⟨hb, 1, none⟩ = some (.int .i64 (b : Int)) ∧ X.cell? ⟨hb, 2, none⟩ = some (.int .i64 (c : Int)))
        (first | (go_keep; done) | exact HS.out _ HBB.out)
        (first
          | (go_at_call 19; refine (HM0.out _).mono ?_; rintro e w3 ⟨rfl, HBx⟩; have HBB := Lib.hid (HBB.out.trans (HBx.out.mono HBB.out.size)))
          | (go_at_call 18; refine (HI'.out _).mono ?_; rintro e w4 ⟨rfl, HBy⟩; have HBB := Lib.hid (HBB.out.trans (HBy.out.mono HBB.out.size))))
      obtain ⟨f0, f1, f2, f3, f4⟩ := box2 ((HBB.out.block _ (Array.getElem?_eq_some_iff.1 HRW.out).1).trans HRW.out) (.int .i64 0) (.slice none 0 0)
      have HF4 := Lib.hid f4
      have HBZ := Lib.hid (HBW.out.trans (HBB.out.mono HBW.out.size))
      clear f4
      go_wp2
      exact bodyPost_ret (cell2_result HF4.out rfl _ rfl Try.underlying37 (by kernel_rfl) rfl) rfl ⟨Lib.hid (by rw [HRE.out]; rfl), Lib.hid ((HBZ.out.setCell (Nat.le_refl _) _).setCell (Nat.le_refl _) _)⟩
    | ok x =>
      obtain ⟨M, P, z⟩ := x
      have hIL := rdIdx_len (by rw [list_sz]; exact hc) hIX
      simp only [list_sz] at hIL
      obtain ⟨hz0, hz, hMl, hPl⟩ := hIL
      have HI' : Hid (∀ W, Calls Try.prog 18 #[headV a b c, .string s, .int .i64 (mk : Int)] W fun e w' => ∃ u v, e = .returned (.tuple #[u, v, .int .i64 (z : Int), .nilIface]) ∧ Hid (OJ w' W.heap.size u (M.map Int.ofNat) ∧ OJ w' W.heap.size v (P.map Int.ofNat)) ∧ Hid (Below W.heap.size W w')) := Lib.hid (fun W => (HI0.out W).mono fun e w' h => by obtain ⟨u, v, g1, g2, g3⟩ := h.1.out; exact ⟨u, v, g1, Lib.hid ⟨g2, g3⟩, h.2⟩)
      obtain ⟨RW, hRW⟩ : ∃ RW, rdRows s.data.toList N z b (a : Int) z = RW := ⟨_, rfl⟩
      have HRW0 : Hid (rdRows s.data.toList N (((M, P, z) : List Nat × List Nat × Nat).2.2) (((a, b, c) : Nat × Nat × Nat).2.1) ((((a, b, c) : Nat × Nat × Nat).1 : Nat) : Int) (((M, P, z) : List Nat × List Nat × Nat).2.2) = RW) := Lib.hid hRW
      have HLE : Hid (LeadR RW [] [] (rdRows s.data.toList N z (a + b - a) ((a : Nat) : Int) z)) := Lib.hid (by
        rw [Nat.add_sub_cancel_left, hRW]; unfold LeadR
        cases RW with
        | error b => rfl
        | ok q => simp)
      clear HI0 hIX hRW
      go_enter Try.func9, Try.ntmps9
      go_upto_region 4 with (go_at_call 17; refine (HC'.out _).mono ?_; rintro e w1 ⟨rfl, HB1⟩)
      obtain ⟨hBW, hrW⟩ := box_later HB0.out HR0.out (HB1.out.alloc HB1.out.size (.cells #[.int .i64 (a : Int), .int .i64 (b : Int), .int .i64 (c : Int)] 57))
      have hhW := heap_alloc_new w1 (.cells #[.int .i64 (a : Int), .int .i64 (b : Int), .int .i64 (c : Int)] 57)
      generalize w1.alloc (.cells #[.int .i64 (a : Int), .int .i64 (b : Int), .int .i64 (c : Int)] 57) = W at *
      have hlt := (Array.getElem?_eq_some_iff.1 hhW).1
      generalize w1.heap.size = hb at *
      have HS : Hid (∀ X, Below W.heap.size W X → X.cell? ⟨hb, 0, none⟩ = some (.int .i64 (a : Int)) ∧ X.cell? ⟨hb, 1, none⟩ = some (.int .i64 (b : Int)) ∧ X.cell? ⟨hb, 2, none⟩ = some (.int .i64 (c : Int))) := Lib.hid (fun X h => by
        have h1 := (h.block hb hlt).trans hhW
        exact ⟨cell_of_row X hb 0 _ _ _ h1, cell_of_row X hb 1 _ _ _ h1, cell_of_row X hb 2 _ _ _ h1⟩)
      have HBB : Hid (Below W.heap.size W W.drew) := Lib.hid (Below.refl _ _).drew
      have HBW := Lib.hid hBW
      have HRW := Lib.hid hrW
      clear hBW hrW hhW
      go_region_held3 (fun X => X.cell? ⟨hb, 0, none⟩ = some (.int .i64 (a : Int)) ∧ X.cell? ⟨hb, 1, none⟩ = some (.int .i64 (b : Int)) ∧ X.cell? ⟨hb, 2, none⟩ = some (.int .i64 (c : Int)))
        (first | (go_keep; done) | exact HS.out _ HBB.out)
        (first
          | (go_at_call 19; refine (HM0.out _).mono ?_; rintro e w3 ⟨rfl, HBx⟩; have HBB := Lib.hid (HBB.out.trans (HBx.out.mono HBB.out.size)))
          | (go_at_call 18; refine (HI'.out _).mono ?_; rintro e w4 ⟨mv, pv, rfl, HMP, HBy⟩; have HSZ := Lib.hid HBB.out.size; have HBB := Lib.hid (HBB.out.trans (HBy.out.mono HBB.out.size))))
      have HB4 := Lib.hid (HBW.out.trans (HBB.out.mono HBW.out.size))
      have HR4 : Hid (w4.heap[w.heap.size]? = some (.cells #[.int .i64 0, .slice none 0 0] 37 (0, 0))) := Lib.hid ((HBB.out.block _ (Array.getElem?_eq_some_iff.1 HRW.out).1).trans HRW.out)
      have HW4 : Hid (w.heap.size < w4.heap.size) := Lib.hid (Array.getElem?_eq_some_iff.1 HR4.out).1
      have HS4 : Hid (∀ X, Below w4.heap.size w4 X → X.cell? ⟨hb, 0, none⟩ = some (.int .i64 (a : Int)) ∧ X.cell? ⟨hb, 1, none⟩ = some (.int .i64 (b : Int))) := Lib.hid (fun X h => by
        have := HS.out X (HBB.out.trans (h.mono HBB.out.size))
        exact ⟨this.1, this.2.1⟩)
      clear HBB HRW HBW HS hlt
      obtain ⟨c0, c1⟩ := HS4.out w4 (Below.refl _ _)
      have c2 := fun o => (HS4.out (w4.alloc o) ((Below.refl _ _).alloc (Nat.le_refl _) o)).1
      go_upto_region 11 with (fail)
      go_loopw [12, 13, 14] (fun p u x wz => ∃ (y at_ : Nat) (BG : List Nat) (rows : Value) (vs : List Value) (LL : List (List Int)), p = .int .i64 (at_ : Int) ∧ x = .int .i64 (y : Int) ∧ a ≤ y ∧ y ≤ a + b ∧ z ≤ at_ ∧ at_ ≤ s.size ∧ Hid (a + BG.length = y ∧ a + LL.length = y) ∧ Hid (LeadR RW LL BG (rdRows s.data.toList N z (a + b - y) (y : Int) at_)) ∧ Hid (GL w4 wz a u rows (BG.map Int.ofNat) vs LL)) (fun _ _ x _ => a + b - (intOf x).toNat)
      case atStart => exact ⟨a, z, [], _, [], [], rfl, rfl, Nat.le_refl _, by omega, Nat.le_refl _, hz, Lib.hid ⟨rfl, rfl⟩, HLE, Lib.hid (GL.start w4 a)⟩
      case round =>
        clear HLE
        obtain ⟨y, at_, BG, rows, vs, LL, rfl, rfl, hay, hyb, hzat, hat, HLN, HLE, HG⟩ := hrel
        obtain ⟨d0, d1⟩ := HS4.out _ HG.out.bel
        have HBL : Hid ((BG.map Int.ofNat).length ≤ 4096) := Lib.hid (by rw [List.length_map]; have := HLN.out.1; omega)
        by_cases hlt : y < a + b
        · have i1 : (y : Int) < (a : Int) + (b : Int) := by omega
          have hk : a + b - y = (a + b - (y + 1)) + 1 := by omega
          rw [hk] at HLE
          have HSC := Lib.hid (fun W => gget_calls s at_ N y hat hs hN (by omega) W)
          cases hA : rdRow s.data.toList N at_ (y : Int) with
          | error bd =>
            have HRE := Lib.hid (HRS.out.symm.trans (rdShard_e3 HHE.out HIX.out (HRW0.out.trans (HLE.out.bad hA))))
            have HSC' : Hid (∀ W, Calls Try.prog 20 #[.string s, .int .i64 (at_ : Int), .int .i64 (N : Int), .int .i64 (y : Int)] W fun e w' => e = .returned (.tuple #[.slice none 0 0, .int .i64 (at_ : Int), faultV (bd.2 : Int) (bd.1 : Int)]) ∧ Hid (Below W.heap.size W w')) := Lib.hid (fun W => by have := HSC.out W; rw [hA] at this; exact this.mono fun e w' h => ⟨h.1.out, h.2⟩)
            obtain ⟨uA, uc, hu, -⟩ := id HG.out.one.shape
            obtain ⟨un, hun⟩ : ∃ un, (BG.map Int.ofNat).length = un := ⟨_, rfl⟩
            rw [hun] at hu
            subst hu
            clear HSC HLE hA hk hun
            go_upto_region 16 with (first
              | (at_builtin; refine OJ.app_on (base := w4.heap.size + 1) (HG.out.one.alloc _) (JR.lit _ [(at_ : Int) - (z : Int)] _ rfl 1 rfl (by simp)) rfl _ _ rfl rfl rfl (by have := HG.out.lt; simp; omega) (by have := HBL.out; simp only [List.length_cons, List.length_nil]; omega) ?_; intro v1 w5 k1 k2 k3; have HG5 := Lib.hid ((HG.out.alloc _).push1 k1 k2 k3); clear k1 k2 k3)
              | (go_at_call 20; refine (HSC'.out _).mono ?_; rintro e w6 ⟨rfl, HBy⟩))
            have HG6 := Lib.hid (HG5.out.later HBy.out)
            obtain ⟨f0, f1, f2, f3, f4⟩ := box2 ((HG6.out.bel.block _ HW4.out).trans HR4.out) (.int .i64 0) (.slice none 0 0)
            have HF4 := Lib.hid f4
            have HBZ := Lib.hid (HB4.out.trans (HG6.out.bel.mono HB4.out.size))
            clear f4
            go_wp2
            exact bodyPost_ret (cell2_result HF4.out rfl _ rfl Try.underlying37 (by kernel_rfl) rfl) rfl ⟨Lib.hid (by rw [HRE.out]; rfl), Lib.hid ((HBZ.out.setCell (Nat.le_refl _) _).setCell (Nat.le_refl _) _)⟩
          | ok q =>
            obtain ⟨L, nx⟩ := q
            have hq := (rdRow_len hA).2.1
            rw [list_sz] at hq
            have hq0 := (rdRow_len hA).1
            simp only at hq hq0
            have HLE2 := Lib.hid (HLE.out.next hA)
            have HSC' : Hid (∀ W, Calls Try.prog 20 #[.string s, .int .i64 (at_ : Int), .int .i64 (N : Int), .int .i64 (y : Int)] W fun e w' => ∃ t, e = .returned (.tuple #[t, .int .i64 (nx : Int), .nilIface]) ∧ Hid (OJ w' W.heap.size t L) ∧ Hid (Below W.heap.size W w')) := Lib.hid (fun W => by have := HSC.out W; rw [hA] at this; exact this.mono fun e w' h => by obtain ⟨t, g1, g2⟩ := h.1.out; exact ⟨t, g1, Lib.hid g2, h.2⟩)
            obtain ⟨uA, uc, hu, -⟩ := id HG.out.one.shape
            obtain ⟨un, hun⟩ : ∃ un, (BG.map Int.ofNat).length = un := ⟨_, rfl⟩
            rw [hun] at hu
            subst hu
            clear HSC HLE hA hk hun
            go_upto_region 17 with (first
              | (at_builtin; refine OJ.app_on (base := w4.heap.size + 1) (HG.out.one.alloc _) (JR.lit _ [(at_ : Int) - (z : Int)] _ rfl 1 rfl (by simp)) rfl _ _ rfl rfl rfl (by have := HG.out.lt; simp; omega) (by have := HBL.out; simp only [List.length_cons, List.length_nil]; omega) ?_; intro v1 w5 k1 k2 k3; have HG5 := Lib.hid ((HG.out.alloc _).push1 k1 k2 k3); clear k1 k2 k3)
              | (go_at_call 20; refine (HSC'.out _).mono ?_; rintro e w6 ⟨t, rfl, HT, HBy⟩))
            have HG6 := Lib.hid (HG5.out.later HBy.out)
            have HTN := Lib.hid (HG5.out.new HT.out)
            obtain ⟨tA, tc, ht, -⟩ := id HT.out.shape
            obtain ⟨tn, htn⟩ : ∃ tn, L.length = tn := ⟨_, rfl⟩
            rw [htn] at ht
            subst ht
            have HVL : Hid (vs.length ≤ 4096) := Lib.hid (by have := HG6.out.els.1; have := HLN.out.2; omega)
            obtain ⟨b0, b1⟩ := HG6.out.cells
            clear HT b0
            go_wp2_with (at_builtin; refine OV.push_on (base := w4.heap.size + 1) (HG6.out.two.alloc _) (z := .slice tA tn tc) rfl (cell_of_row _ _ 0 _ _ _ (heap_alloc_new w6 _)) rfl _ _ rfl rfl rfl (by have := HG6.out.lt; simp; omega) (by have := HVL.out; omega) ?_; intro v2 w7 k1 k2 k3; obtain ⟨vA, vc, hv2, -⟩ := id k1.shape; generalize (vs ++ [Value.slice tA tn tc]).length = vn at hv2; subst hv2; obtain ⟨q1, q2⟩ := (HG6.out.alloc _).box k2; have HG7 := Lib.hid ((HG6.out.alloc _).push2 (new_alloc _ HTN.out) k1 k2 k3); clear k1 k2 k3)
            go_roundw
            case rel => exact ⟨y + 1, nx, BG ++ [at_ - z], _, vs ++ [_], LL ++ [L], rfl, by go_num, by omega, by omega, by omega, hq, Lib.hid (by have := HLN.out; simp; omega), Lib.hid (by have := HLE2.out; rw [show (y : Int) + 1 = ((y + 1 : Nat) : Int) by omega] at this; exact this), Lib.hid (by rw [map_snoc, show ((at_ - z : Nat) : Int) = (at_ : Int) - (z : Int) by omega]; exact HG7.out)⟩
            case measure => simp [intOf]; omega
        · have i1 : ¬ (y : Int) < (a : Int) + (b : Int) := by omega
          have hye : a + b - y = 0 := by omega
          have HF : Hid (RW = .ok (LL, BG, at_)) := Lib.hid (by have := HLE.out; rw [hye] at this; exact this.done)
          obtain ⟨C, hC⟩ : ∃ C, chk BG M P 0 = C := ⟨_, rfl⟩
          have HCC := Lib.hid hC
          have HC0 : Hid (chk BG (M.drop 0) (P.drop 0) 0 = C) := Lib.hid hC
          have HBGl : Hid (BG.length = b) := Lib.hid (by have := HLN.out.1; omega)
          have HLLl : Hid (LL.length = b) := Lib.hid (by have := HLN.out.2; omega)
          obtain ⟨gm, jm, -⟩ := HMP.out.1.reads
          obtain ⟨gp, jp, -⟩ := HMP.out.2.reads
          obtain ⟨gb, jb, -⟩ := HG.out.one.reads
          obtain ⟨om, cm, hm, hm1, hm2⟩ := jr_form jm (by rw [List.length_map]; omega)
          obtain ⟨op, cp, hp, hp1, hp2⟩ := jr_form jp (by rw [List.length_map]; omega)
          obtain ⟨ob, cb, hv, hv1, hv2⟩ := jr_form jb (by rw [List.length_map, HBGl.out]; omega)
          rw [List.length_map, hMl] at hm hm1
          rw [List.length_map, hPl] at hp hp1
          rw [List.length_map, HBGl.out] at hv hv1
          subst hm hp hv
          have HJM := Lib.hid jm
          have HJP := Lib.hid jp
          have HML := Lib.hid hMl
          have HPL := Lib.hid hPl
          have h8 : mk * 8 ≤ b + 7 := by omega
          clear hye hC jm jp jb hMl hPl HLE HLN HBL
          go_upto_region 19 with (fail)
          go_loopw [87] (fun x wz => ∃ (i : Nat), x = .int .i64 (i : Int) ∧ i ≤ mk ∧ Hid (chk BG (M.drop i) (P.drop i) i = C) ∧ Hid (GL w4 wz a (.slice (some ⟨gb, ob, none⟩) b cb) rows (BG.map Int.ofNat) vs LL)) (fun x _ => mk - (intOf x).toNat)
          case atStart => exact ⟨0, rfl, Nat.zero_le _, HC0, HG⟩
          case round =>
            clear HC0 HG
            obtain ⟨i, rfl, hi, HC1, HG⟩ := hrel
            by_cases him : i < mk
            · have i2 : (i : Int) < (mk : Int) := by omega
              have i3 : i * 8 < b := by omega
              have i4 : (i : Int) * 8 < (b : Int) := by omega
              have p1 := jr_cell (HJM.out.later HG.out.bel) i (by rw [List.length_map, HML.out]; exact him)
              have p2 := jr_cell (HJP.out.later HG.out.bel) i (by rw [List.length_map, HPL.out]; exact him)
              obtain ⟨g3, j3, -⟩ := HG.out.one.reads
              have p3 := jr_cell j3 (i * 8) (by rw [List.length_map, HBGl.out]; exact i3)
              have HC2 := HC1.out
              rw [chk_step BG M P i (by rw [HML.out]; exact him) (by rw [HPL.out]; exact him)] at HC2
              rw [getD_ofNat] at p1 p2 p3
              rw [Nat.mul_comm 8 i] at HC2
              by_cases hmb : M.getD i 0 = BG.getD (i * 8) 0
              · rw [if_pos hmb] at HC2
                have HC3 := Lib.hid HC2
                rw [← hmb] at p3
                clear HC2 hmb HC1 j3 p2
                generalize M.getD i 0 = mi at *
                have b9 : ((mi : Int) != (mi : Int)) = false := by simp
                go_wp2
                go_roundw
                case rel => exact ⟨i + 1, by go_num, by omega, HC3, HG⟩
                case measure => simp [intOf]; omega
              · rw [if_neg hmb] at HC2
                have HRE := Lib.hid (HRS.out.symm.trans (rdShard_e4 HHE.out HIX.out (HRW0.out.trans HF.out) (HCC.out.trans HC2.symm)))
                have b9 : (((M.getD i 0 : Nat) : Int) != ((BG.getD (i * 8) 0 : Nat) : Int)) = true := by rw [bne_iff_ne]; omega
                obtain ⟨f0, f1, f2, f3, f4⟩ := box2 ((HG.out.bel.block _ HW4.out).trans HR4.out) (.int .i64 0) (.slice none 0 0)
                have HF4 := Lib.hid f4
                have HBZ := Lib.hid (HB4.out.trans (HG.out.bel.mono HB4.out.size))
                clear f4 HC2 hmb HC1 j3
                generalize M.getD i 0 = mi at *
                generalize BG.getD (i * 8) 0 = bi at *
                generalize P.getD i 0 = pi at *
                go_wp2_with (go_at_call 15; refine (swrong_calls _ _ _).mono ?_; rintro e w8 ⟨rfl, rfl⟩)
                exact bodyPost_ret (cell2_result HF4.out rfl _ rfl Try.underlying37 (by kernel_rfl) rfl) rfl ⟨Lib.hid (by rw [HRE.out]; rfl), Lib.hid ((HBZ.out.setCell (Nat.le_refl _) _).setCell (Nat.le_refl _) _)⟩
            · obtain rfl : mk = i := by omega
              have i2 : ¬ (mk : Int) < (mk : Int) := by omega
              have HC4 : Hid (chk BG M P 0 = none) := Lib.hid (by
                have := HC1.out
                have e : M.drop mk = M.drop M.length := by rw [HML.out]
                rw [e, chk_end] at this
                rw [HCC.out, this])
              obtain ⟨rA, rc, hrw, -⟩ := id HG.out.two.shape
              obtain ⟨rn, hrn⟩ : ∃ rn, vs.length = rn := ⟨_, rfl⟩
              rw [hrn] at hrw
              subst hrw
              have HBZ := Lib.hid (HB4.out.trans (HG.out.bel.mono HB4.out.size))
              have hrN := (HG.out.bel.block _ HW4.out).trans HR4.out
              clear hrn HC1
              by_cases hlt2 : at_ < s.size
              · have i5 : (at_ : Int) < (s.size : Int) := by omega
                have HRE := Lib.hid (HRS.out.symm.trans (rdShard_e5 HHE.out HIX.out (HRW0.out.trans HF.out) HC4.out (by rw [list_sz]; exact hlt2)))
                obtain ⟨f0, f1, f2, f3, f4⟩ := box2 hrN (.int .i64 0) (.slice none 0 0)
                have HF4 := Lib.hid f4
                clear f4 hrN
                go_wp2_with (go_at_call 15; refine (swrong_calls _ _ _).mono ?_; rintro e w8 ⟨rfl, rfl⟩)
                exact bodyPost_ret (cell2_result HF4.out rfl _ rfl Try.underlying37 (by kernel_rfl) rfl) rfl ⟨Lib.hid (by rw [HRE.out]; rfl), Lib.hid ((HBZ.out.setCell (Nat.le_refl _) _).setCell (Nat.le_refl _) _)⟩
              · have i5 : ¬ (at_ : Int) < (s.size : Int) := by omega
                have HRE := Lib.hid (HRS.out.symm.trans (rdShard_e6 HHE.out HIX.out (HRW0.out.trans HF.out) HC4.out (by rw [list_sz]; exact hlt2)))
                obtain ⟨f0, f1, f2, f3, f4⟩ := box2 hrN (.int .i64 (a : Int)) (.slice rA rn rc)
                obtain ⟨b0, b1⟩ := HG.out.cells
                have HF4 := Lib.hid f4
                have HRR := Lib.hid (HG.out.rows HW4.out (setCell_two_size wr _ 0 1 _ _) (fun k hk => setCell_two_other wr w.heap.size 0 1 k (.int .i64 (a : Int)) (.slice rA rn rc) hk))
                clear f4 hrN
                go_wp2
                exact bodyPost_ret (cell2_result HF4.out rfl _ rfl Try.underlying37 (by kernel_rfl) rfl) rfl ⟨Lib.hid (by rw [HRE.out]; exact ⟨_, rfl, HRR.out.move (Nat.le_refl _) fun g _ hg => ⟨rfl, Nat.le_trans (Nat.le_of_lt HW4.out) hg⟩⟩), Lib.hid ((HBZ.out.setCell (Nat.le_refl _) _).setCell (Nat.le_refl _) _)⟩
end Go.Proofs.Ytjokfllldcjheaa.Oc
