/- shard, walked: place. · shard, walked: sought, Find, Degree. · shard, walked: Put's errors. -/
import Derived.Test.YtjokfllldcjheaaGreatDoorFw
import Derived.Test.YtjokfllldcjheaaGreatDoorErrP
/- shard, walked: place. -/
namespace Go.Proofs.YtjokfllldcjheaaGreatDoor.Oc
open Go.RowKit Go.Proofs.YtjokfllldcjheaaGreatDoor.Sha Go.Proofs.YtjokfllldcjheaaGreatDoor.Ro Go.Proofs.YtjokfllldcjheaaGreatDoor.Cs Go.Proofs.YtjokfllldcjheaaGreatDoor.Ed
set_option linter.unusedVariables false
set_option linter.unusedSimpArgs false
/-- a number's row is read: cell k -/
theorem nat_cell {w : World} {g : Nat} {A : Option Addr} {n c : Nat} {M : List Nat} (h : JR w g (.slice A n c) (M.map Int.ofNat)) (k : Nat) (hk : k < M.length) : ∃ o, A = some ⟨g, o, none⟩ ∧ n = M.length ∧ w.cell? ⟨g, o + k, none⟩ = some (.int .i64 ((M.getD k 0 : Nat) : Int)) := by
  obtain ⟨A', c', o, hv, h1, h2, h3⟩ := h
  injection hv with hv hn hc
  subst hv hn hc
  obtain ⟨hA, -, hcell⟩ := h3 (by rw [List.length_map]; omega)
  refine ⟨o, hA, by rw [List.length_map], ?_⟩
  have := hcell k (by rw [List.length_map]; exact hk)
  rw [List.getD_eq_getElem?_getD, List.getElem?_map, List.getElem?_eq_getElem hk] at this
  rw [List.getD_eq_getElem?_getD, List.getElem?_eq_getElem hk]
  exact this
/-- what place answers -/
def plV : Except Bad Nat → Value
  | .ok p => .tuple #[.int .i64 (p : Int), .nilIface]
  | .error b => .tuple #[.int .i64 0, faultV (b.2 : Int) (b.1 : Int)]
theorem skips_len {bs : List UInt8} {N : Nat} : ∀ {k a p : Nat}, a ≤ bs.length → skips bs N k a = .ok p → p ≤ bs.length
  | 0, a, p, h, e => by injection e with e; omega
  | k + 1, a, p, h, e => by
    rw [skips] at e
    cases e2 : rdSkip bs N a with
    | error b => rw [e2] at e; simp at e
    | ok b => rw [e2] at e; exact skips_len (rdSkip_len e2).2 e
set_option maxHeartbeats 8000000 in
set_option maxRecDepth 100000 in
theorem place_calls (s : ByteArray) (a b c N d : Nat) (hs : s.size ≤ 140737488355328) (hc : c ≤ s.size) (hN : N ≤ 4096) (hd : d < b) (hab : a + b ≤ N) (w : World) :
    Calls Tryz.prog 91 #[headV a b c, .string s, .int .i64 (N : Int), .int .i64 ((a : Int) + (d : Int))] w fun e w' => e = .returned (plV (rdPlace s.data.toList N b c d)) ∧ Hid (Below w.heap.size w w') := by
  obtain ⟨k, hk⟩ : ∃ k, d / 8 = k := ⟨_, rfl⟩
  obtain ⟨r, hr⟩ : ∃ r, d % 8 = r := ⟨_, rfl⟩
  have hk5 : k ≤ 512 := by omega
  have e1 : (a : Int) + (d : Int) - (a : Int) = (d : Int) := by omega
  have e2 : (d : Int) / 8 = (k : Int) := by omega
  have e3 : (d : Int) % 8 = (r : Int) := by omega
  have e4 : (d : Int).tdiv 8 = (k : Int) := by rw [Int.tdiv_eq_ediv_of_nonneg (by omega)]; exact e2
  have e5 : (d : Int).tmod 8 = (r : Int) := by rw [Int.tmod_eq_emod_of_nonneg (by omega)]; exact e3
  have e6 : (a : Int) + (d : Int) ≤ 4096 := by omega
  have hr8 : r < 8 := by omega
  unfold rdPlace
  rw [hk, hr]
  have HI0 := Lib.hid (fun W => index_calls s a b c (k + 1) hs hc (by omega) W)
  have hkc : ((k + 1 : Nat) : Int) = (k : Int) + 1 := by omega
  rw [hkc] at HI0
  have HB0 : Hid (Below w.heap.size w (w.alloc (.cells #[.int .i64 (a : Int), .int .i64 (b : Int), .int .i64 (c : Int)] 111))) := Lib.hid ((Below.refl _ _).alloc (Nat.le_refl _) _)
  have HX0 : Hid ((w.alloc (.cells #[.int .i64 (a : Int), .int .i64 (b : Int), .int .i64 (c : Int)] 111)).heap[w.heap.size]? = some (.cells #[.int .i64 (a : Int), .int .i64 (b : Int), .int .i64 (c : Int)] 111 (0, 0))) := Lib.hid (heap_alloc_new w _)
  obtain ⟨IX, hIX⟩ : ∃ IX, rdIdx s.data.toList (k + 1) c = IX := ⟨_, rfl⟩
  rw [hIX] at HI0 ⊢
  cases IX with
  | error bd =>
    have HI' : Hid (∀ W, Calls Tryz.prog 53 #[headV a b c, .string s, .int .i64 ((k : Int) + 1)] W fun e w' => e = .returned (.tuple #[.slice none 0 0, .slice none 0 0, .int .i64 0, faultV (bd.2 : Int) (bd.1 : Int)]) ∧ Hid (Below W.heap.size W w')) := Lib.hid (fun W => (HI0.out W).mono fun e w' h => ⟨h.1.out, h.2⟩)
    clear HI0 hIX hk hr
    go_enter Tryz.func91, Tryz.ntmps91
    go_wp2_with (go_at_call 53; refine (HI'.out _).mono ?_; rintro e w1 ⟨rfl, HB1⟩)
    go_ret2
    exact ⟨rfl, Lib.hid (HB0.out.trans (HB1.out.mono HB0.out.size))⟩
  | ok q =>
    obtain ⟨M, P, z0⟩ := q
    have hIL := rdIdx_len (by rw [list_sz]; exact hc) hIX
    simp only [list_sz] at hIL
    obtain ⟨-, -, hMl, hPl⟩ := hIL
    have HI' : Hid (∀ W, Calls Tryz.prog 53 #[headV a b c, .string s, .int .i64 ((k : Int) + 1)] W fun e w' => ∃ u v, e = .returned (.tuple #[u, v, .int .i64 (z0 : Int), .nilIface]) ∧ Hid (OJ w' W.heap.size u (M.map Int.ofNat) ∧ OJ w' W.heap.size v (P.map Int.ofNat)) ∧ Hid (Below W.heap.size W w')) := Lib.hid (fun W => (HI0.out W).mono fun e w' h => by obtain ⟨u, v, g1, g2, g3⟩ := h.1.out; exact ⟨u, v, g1, Lib.hid ⟨g2, g3⟩, h.2⟩)
    have HBH := Lib.hid (fun W => behind_calls s a b c hs hc (by omega) W)
    obtain ⟨JX, hJX⟩ : ∃ JX, rdIdx s.data.toList ((b + 7) / 8) c = JX := ⟨_, rfl⟩
    have hm5 : M.getD k 0 < 72057594037927936 := by
      have := idx_small hIX (M.getD k 0) (by rw [List.getD_eq_getElem?_getD, List.getElem?_eq_getElem (by omega)]; exact List.getElem_mem _)
      simpa using this
    clear HI0 hIX hk hr
    simp only
    rw [hJX] at HBH ⊢
    obtain ⟨m, hm⟩ : ∃ m, M.getD k 0 = m := ⟨_, rfl⟩
    obtain ⟨pl, hpl⟩ : ∃ pl, P.getD k 0 = pl := ⟨_, rfl⟩
    rw [hm] at hm5
    rw [hm, hpl]
    obtain ⟨PL, hPL⟩ : ∃ PL, plc2 s.data.toList N r m pl JX = PL := ⟨_, rfl⟩
    rw [hPL]
    have HPL := Lib.hid hPL
    clear hPL
    go_enter Tryz.func91, Tryz.ntmps91
    go_upto_region 3 with (go_at_call 53; refine (HI'.out _).mono ?_; rintro e w1 ⟨u, v, rfl, HUV, HB1⟩)
    have HX1 : Hid (w1.heap[w.heap.size]? = some (.cells #[.int .i64 (a : Int), .int .i64 (b : Int), .int .i64 (c : Int)] 111 (0, 0))) := Lib.hid ((HB1.out.block w.heap.size (Array.getElem?_eq_some_iff.1 HX0.out).1).trans HX0.out)
    have HBW := Lib.hid (HB0.out.trans (HB1.out.mono HB0.out.size))
    obtain ⟨ug, hug, -⟩ := HUV.out.1.reads
    obtain ⟨vg, hvg, -⟩ := HUV.out.2.reads
    obtain ⟨uA, un, uc, hu⟩ : ∃ uA un uc, u = .slice uA un uc := by obtain ⟨A, c, hv, -⟩ := HUV.out.1.shape; exact ⟨_, _, _, hv⟩
    obtain ⟨vA, vn, vc, hv⟩ : ∃ vA vn vc, v = .slice vA vn vc := by obtain ⟨A, c, hv, -⟩ := HUV.out.2.shape; exact ⟨_, _, _, hv⟩
    subst hu hv
    obtain ⟨uo, rfl, rfl, uq⟩ := nat_cell hug k (by omega)
    obtain ⟨vo, rfl, rfl, vq⟩ := nat_cell hvg k (by omega)
    rw [hm] at uq
    rw [hpl] at vq
    rw [hMl] at *
    rw [hPl] at *
    have UQ : Hid (∀ W, Below w1.heap.size w1 W → W.cell? ⟨ug, uo + k, none⟩ = some (.int .i64 (m : Int)) ∧ W.cell? ⟨vg, vo + k, none⟩ = some (.int .i64 (pl : Int))) := Lib.hid (fun W hW => ⟨(hW.cell (p := ⟨ug, uo + k, none⟩) (World.block_lt_of_cell? _ _ uq)).trans uq, (hW.cell (p := ⟨vg, vo + k, none⟩) (World.block_lt_of_cell? _ _ vq)).trans vq⟩)
    have XQ : Hid (∀ W, Below w1.heap.size w1 W → W.cell? ⟨w.heap.size, 0, none⟩ = some (.int .i64 (a : Int)) ∧ W.cell? ⟨w.heap.size, 1, none⟩ = some (.int .i64 (b : Int)) ∧ W.cell? ⟨w.heap.size, 2, none⟩ = some (.int .i64 (c : Int))) := Lib.hid (fun W hW => by
      have h1 := (hW.block w.heap.size (Array.getElem?_eq_some_iff.1 HX1.out).1).trans HX1.out
      exact ⟨cell_of_row W _ 0 _ _ _ h1, cell_of_row W _ 1 _ _ _ h1, cell_of_row W _ 2 _ _ _ h1⟩)
    obtain ⟨x0, x1, x2⟩ := XQ.out w1 (Below.refl _ _)
    have k1 : (k : Int) < (k : Int) + 1 := by omega
    clear hug hvg HUV uq vq hm hpl
    cases JX with
    | error bd =>
      have HBH' : Hid (∀ W, Calls Tryz.prog 119 #[headV a b c, .string s] W fun e w' => e = .returned (.tuple #[.int .i64 0, faultV (bd.2 : Int) (bd.1 : Int)]) ∧ Hid (Below W.heap.size W w')) := HBH
      have HP1 : Hid (PL = .error bd) := Lib.hid HPL.out.symm
      clear HBH hJX HPL
      go_wp2_with (go_at_call 119; refine (HBH'.out _).mono ?_; rintro e w2 ⟨rfl, HB2⟩)
      go_ret2
      exact ⟨by rw [HP1.out]; rfl, Lib.hid (HBW.out.trans (HB2.out.mono HBW.out.size))⟩
    | ok q2 =>
      obtain ⟨M2, P2, z⟩ := q2
      have hz := (rdIdx_len (by rw [list_sz]; exact hc) hJX).2.1
      simp only [list_sz] at hz
      have HBH' : Hid (∀ W, Calls Tryz.prog 119 #[headV a b c, .string s] W fun e w' => e = .returned (.tuple #[.int .i64 (z : Int), .nilIface]) ∧ Hid (Below W.heap.size W w')) := HBH
      have HP2 : Hid ((if m > s.size - z then .error (4, pl) else skips s.data.toList N r (z + m)) = PL) := Lib.hid (by have := HPL.out; unfold plc2 at this; rw [list_sz] at this; exact this)
      clear HBH hJX HPL
      go_upto_region 6 with (go_at_call 119; refine (HBH'.out _).mono ?_; rintro e w2 ⟨rfl, HB2⟩)
      obtain ⟨uq2, vq2⟩ := UQ.out w2 HB2.out
      obtain ⟨y0, y1, y2⟩ := XQ.out w2 HB2.out
      have HBZ := Lib.hid (HBW.out.trans (HB2.out.mono HBW.out.size))
      clear x0 x1 x2
      by_cases hg : m > s.size - z
      · have b1 : (m : Int) > (s.size : Int) - (z : Int) := by omega
        have HP3 : Hid (PL = .error (4, pl)) := Lib.hid (by have := HP2.out; rw [if_pos hg] at this; exact this.symm)
        clear hg HP2
        go_wp2_with (go_at_call 46; refine (swrong_calls _ _ _).mono ?_; rintro e w8 ⟨rfl, rfl⟩)
        go_ret2
        exact ⟨by rw [HP3.out]; rfl, HBZ⟩
      · have b1 : ¬ (m : Int) > (s.size : Int) - (z : Int) := by omega
        have hzm : z + m ≤ s.size := by omega
        have HR0 : Hid (skips s.data.toList N (r - 0) (z + m) = PL) := Lib.hid (by have := HP2.out; rw [if_neg hg] at this; exact this)
        have ezm : ((z + m : Nat) : Int) = (z : Int) + (m : Int) := by omega
        clear hg HP2
        go_upto_region 12 with (fail)
        go_loopw [14, 16, 72] (fun t p x wz => ∃ (i at_ : Nat), t = .nilIface ∧ p = .int .i64 (at_ : Int) ∧ x = .int .i64 (i : Int) ∧ i ≤ r ∧ at_ ≤ s.size ∧ Hid (skips s.data.toList N (r - i) at_ = PL) ∧ wz = w2) (fun _ _ x _ => r - (intOf x).toNat)
        case atStart => exact ⟨0, z + m, rfl, by rw [ezm], rfl, Nat.zero_le _, hzm, HR0, rfl⟩
        case round =>
          clear HR0
          obtain ⟨i, at_, rfl, rfl, rfl, hi, hat, HRR, hwz⟩ := hrel
          subst hwz
          by_cases hlt : i < r
          · have i1 : (i : Int) < (r : Int) := by omega
            have hk2 : r - i = (r - (i + 1)) + 1 := by omega
            rw [hk2] at HRR
            have HS := Lib.hid (skip_calls s at_ N hat hs hN wr)
            cases hA : rdSkip s.data.toList N at_ with
            | error bd =>
              have HRB : Hid (PL = .error bd) := Lib.hid (by have := HRR.out; rw [skips, hA] at this; exact this.symm)
              have HS' : Hid (Calls Tryz.prog 120 #[.string s, .int .i64 (at_ : Int), .int .i64 (N : Int)] wr fun e w' => e = .returned (.tuple #[.int .i64 (at_ : Int), faultV (bd.2 : Int) (bd.1 : Int)]) ∧ wr = w') := Lib.hid (by have := HS.out; rw [hA] at this; exact this)
              clear HS HRR hA hk2
              go_wp2_with (go_at_call 120; refine HS'.out.mono ?_; rintro e w9 ⟨rfl, rfl⟩)
              go_ret2
              exact ⟨by rw [HRB.out]; rfl, HBZ⟩
            | ok p =>
              have hp := (rdSkip_len hA).2
              rw [list_sz] at hp
              have HRN : Hid (skips s.data.toList N (r - (i + 1)) p = PL) := Lib.hid (by have := HRR.out; rw [skips, hA] at this; exact this)
              have HS' : Hid (Calls Tryz.prog 120 #[.string s, .int .i64 (at_ : Int), .int .i64 (N : Int)] wr fun e w' => e = .returned (.tuple #[.int .i64 (p : Int), .nilIface]) ∧ wr = w') := Lib.hid (by have := HS.out; rw [hA] at this; exact this)
              clear HS HRR hA hk2
              go_wp2_with (go_at_call 120; refine HS'.out.mono ?_; rintro e w9 ⟨rfl, rfl⟩)
              go_roundw
              case rel => exact ⟨i + 1, p, rfl, rfl, by go_num, by omega, hp, HRN, trivial⟩
              case measure => simp [intOf]; omega
          · obtain rfl : r = i := by omega
            have HF : Hid (PL = .ok at_) := Lib.hid (by have := HRR.out; rw [Nat.sub_self, skips] at this; exact this.symm)
            have i1 : ¬ (r : Int) < (r : Int) := by omega
            go_wp2
            go_ret2
            exact ⟨by rw [HF.out]; rfl, HBZ⟩
end Go.Proofs.YtjokfllldcjheaaGreatDoor.Oc
/- shard, walked: sought, Find, Degree. -/
namespace Go.Proofs.YtjokfllldcjheaaGreatDoor.Oc
open Go.RowKit Go.Proofs.YtjokfllldcjheaaGreatDoor.Sha Go.Proofs.YtjokfllldcjheaaGreatDoor.Ro Go.Proofs.YtjokfllldcjheaaGreatDoor.Cs Go.Proofs.YtjokfllldcjheaaGreatDoor.Ed
set_option linter.unusedVariables false
set_option linter.unusedSimpArgs false
/-- what sought answers -/
def soV : Except Bad (Option Nat) → Value
  | .ok (some p) => .tuple #[.int .i64 (p : Int), .nilIface]
  | .ok none => .tuple #[.int .i64 0, .iface 96 (.int .i64 2)]
  | .error b => .tuple #[.int .i64 0, faultV (b.2 : Int) (b.1 : Int)]
theorem sought_len {bs : List UInt8} {N p : Nat} {v : Int} (h : rdSought bs N v = .ok (some p)) : p ≤ bs.length ∧ 0 ≤ v ∧ v < (N : Int) := by
  unfold rdSought at h
  cases e : rdHead bs N with
  | error b => rw [e] at h; simp at h
  | ok hd =>
    rw [e] at h
    simp only at h
    obtain ⟨a, m1, b, c, e1, e2, e3, rfl⟩ := rdHead_ok e
    have hc := (rdAt_len e2).2.1
    simp only at h
    split at h
    · simp at h
    · rename_i hv
      cases e4 : rdPlace bs N b c (v - (a : Int)).toNat with
      | error b => rw [e4] at h; simp at h
      | ok q =>
        rw [e4] at h
        injection h with h
        injection h with h
        subst h
        refine ⟨?_, by omega, by omega⟩
        unfold rdPlace at e4
        generalize (v - (a : Int)).toNat = d at e4
        cases e5 : rdIdx bs (d / 8 + 1) c with
        | error b => rw [e5] at e4; simp at e4
        | ok x =>
          rw [e5] at e4
          simp only at e4
          cases e6 : rdIdx bs ((b + 7) / 8) c with
          | error b => rw [e6] at e4; simp [plc2] at e4
          | ok y =>
            rw [e6] at e4
            unfold plc2 at e4
            simp only at e4
            have hy := rdIdx_len (by exact hc) e6
            split at e4
            · simp at e4
            · exact skips_len (by omega) e4
set_option maxHeartbeats 8000000 in
set_option maxRecDepth 100000 in
theorem sought_calls (s : ByteArray) (N : Nat) (v : Int) (hs : s.size ≤ 140737488355328) (hN : N ≤ 4096) (w : World) :
    Calls Tryz.prog 56 #[.string s, .int .i64 (N : Int), .int .i64 v] w fun e w' => e = .returned (soV (rdSought s.data.toList N v)) ∧ Hid (Below w.heap.size w w') := by
  have HH := Lib.hid (fun W => heads_calls s N hs hN W)
  unfold rdSought
  obtain ⟨HE, hHE⟩ : ∃ HE, rdHead s.data.toList N = HE := ⟨_, rfl⟩
  rw [hHE] at HH ⊢
  cases HE with
  | error b =>
    have HH' : Hid (∀ W, Calls Tryz.prog 52 #[.string s, .int .i64 (N : Int)] W fun e w' => e = .returned (.tuple #[.agg #[.int .i64 0, .int .i64 0, .int .i64 0], faultV (b.2 : Int) (b.1 : Int)]) ∧ Hid (Below W.heap.size W w')) := HH
    clear HH hHE
    go_enter Tryz.func56, Tryz.ntmps56
    go_wp2_with (go_at_call 52; refine (HH'.out _).mono ?_; rintro e w1 ⟨rfl, HB1⟩)
    go_ret2
    exact ⟨rfl, Lib.hid (HB1.out.alloc HB1.out.size _)⟩
  | ok hd =>
    obtain ⟨a, m1, b, c, e1, e2, e3, rfl⟩ := rdHead_ok hHE
    have hc := (rdAt_len e2).2.1
    rw [list_sz] at hc
    simp only at hc
    have hb1 : 1 ≤ b := by omega
    have hab : a + b ≤ N := by omega
    have HH' : Hid (∀ W, Calls Tryz.prog 52 #[.string s, .int .i64 (N : Int)] W fun e w' => e = .returned (.tuple #[headV a b c, .nilIface]) ∧ Hid (Below W.heap.size W w')) := HH
    clear HH hHE e1 e2 e3
    simp only
    have eab : (a : Int) + (b : Int) ≤ 4096 := by omega
    by_cases hlo : v < (a : Int)
    · rw [if_pos (Or.inl hlo)]
      go_enter Tryz.func56, Tryz.ntmps56
      go_upto_region 2 with (go_at_call 52; refine (HH'.out _).mono ?_; rintro e w1 ⟨rfl, HB1⟩)
      have hW0 := heap_alloc_new w1 (.cells #[.int .i64 (a : Int), .int .i64 (b : Int), .int .i64 (c : Int)] 111)
      have HBA := Lib.hid (HB1.out.alloc HB1.out.size (.cells #[.int .i64 (a : Int), .int .i64 (b : Int), .int .i64 (c : Int)] 111))
      generalize w1.alloc (.cells #[.int .i64 (a : Int), .int .i64 (b : Int), .int .i64 (c : Int)] 111) = W at *
      generalize w1.heap.size = xb at *
      have d0 : W.cell? ⟨xb, 0, none⟩ = some (.int .i64 (a : Int)) := cell_of_row W xb 0 _ _ _ hW0
      have d1 : W.cell? ⟨xb, 1, none⟩ = some (.int .i64 (b : Int)) := cell_of_row W xb 1 _ _ _ hW0
      clear hW0
      go_wp2
      go_ret2
      exact ⟨rfl, HBA⟩
    · by_cases hhi : v ≥ (a : Int) + (b : Int)
      · rw [if_pos (Or.inr hhi)]
        go_enter Tryz.func56, Tryz.ntmps56
        go_upto_region 2 with (go_at_call 52; refine (HH'.out _).mono ?_; rintro e w1 ⟨rfl, HB1⟩)
        have hW0 := heap_alloc_new w1 (.cells #[.int .i64 (a : Int), .int .i64 (b : Int), .int .i64 (c : Int)] 111)
        have HBA := Lib.hid (HB1.out.alloc HB1.out.size (.cells #[.int .i64 (a : Int), .int .i64 (b : Int), .int .i64 (c : Int)] 111))
        generalize w1.alloc (.cells #[.int .i64 (a : Int), .int .i64 (b : Int), .int .i64 (c : Int)] 111) = W at *
        generalize w1.heap.size = xb at *
        have d0 : W.cell? ⟨xb, 0, none⟩ = some (.int .i64 (a : Int)) := cell_of_row W xb 0 _ _ _ hW0
        have d1 : W.cell? ⟨xb, 1, none⟩ = some (.int .i64 (b : Int)) := cell_of_row W xb 1 _ _ _ hW0
        clear hW0
        go_wp2
        go_ret2
        exact ⟨rfl, HBA⟩
      · rw [if_neg (by omega)]
        obtain ⟨d, hd⟩ : ∃ d, (v - (a : Int)).toNat = d := ⟨_, rfl⟩
        have hv : v = (a : Int) + (d : Int) := by omega
        rw [hd]
        subst hv
        have HP := Lib.hid (fun W => place_calls s a b c N d hs hc hN (by omega) hab W)
        clear hd
        cases hR : rdPlace s.data.toList N b c d with
        | error bd =>
          have HP' : Hid (∀ W, Calls Tryz.prog 91 #[headV a b c, .string s, .int .i64 (N : Int), .int .i64 ((a : Int) + (d : Int))] W fun e w' => e = .returned (.tuple #[.int .i64 0, faultV (bd.2 : Int) (bd.1 : Int)]) ∧ Hid (Below W.heap.size W w')) := Lib.hid (fun W => by have := HP.out W; rw [hR] at this; exact this)
          clear HP hR
          go_enter Tryz.func56, Tryz.ntmps56
          go_upto_region 2 with (go_at_call 52; refine (HH'.out _).mono ?_; rintro e w1 ⟨rfl, HB1⟩)
          have hW0 := heap_alloc_new w1 (.cells #[.int .i64 (a : Int), .int .i64 (b : Int), .int .i64 (c : Int)] 111)
          have HBA := Lib.hid (HB1.out.alloc HB1.out.size (.cells #[.int .i64 (a : Int), .int .i64 (b : Int), .int .i64 (c : Int)] 111))
          generalize w1.alloc (.cells #[.int .i64 (a : Int), .int .i64 (b : Int), .int .i64 (c : Int)] 111) = W at *
          generalize w1.heap.size = xb at *
          have d0 : W.cell? ⟨xb, 0, none⟩ = some (.int .i64 (a : Int)) := cell_of_row W xb 0 _ _ _ hW0
          have d1 : W.cell? ⟨xb, 1, none⟩ = some (.int .i64 (b : Int)) := cell_of_row W xb 1 _ _ _ hW0
          have d2 : W.cell? ⟨xb, 2, none⟩ = some (.int .i64 (c : Int)) := cell_of_row W xb 2 _ _ _ hW0
          clear hW0
          go_wp2_with (go_at_call 91; refine (HP'.out _).mono ?_; rintro e w2 ⟨rfl, HB2⟩)
          go_ret2
          exact ⟨rfl, Lib.hid (HBA.out.trans (HB2.out.mono HBA.out.size))⟩
        | ok p =>
          have HP' : Hid (∀ W, Calls Tryz.prog 91 #[headV a b c, .string s, .int .i64 (N : Int), .int .i64 ((a : Int) + (d : Int))] W fun e w' => e = .returned (.tuple #[.int .i64 (p : Int), .nilIface]) ∧ Hid (Below W.heap.size W w')) := Lib.hid (fun W => by have := HP.out W; rw [hR] at this; exact this)
          clear HP hR
          go_enter Tryz.func56, Tryz.ntmps56
          go_upto_region 2 with (go_at_call 52; refine (HH'.out _).mono ?_; rintro e w1 ⟨rfl, HB1⟩)
          have hW0 := heap_alloc_new w1 (.cells #[.int .i64 (a : Int), .int .i64 (b : Int), .int .i64 (c : Int)] 111)
          have HBA := Lib.hid (HB1.out.alloc HB1.out.size (.cells #[.int .i64 (a : Int), .int .i64 (b : Int), .int .i64 (c : Int)] 111))
          generalize w1.alloc (.cells #[.int .i64 (a : Int), .int .i64 (b : Int), .int .i64 (c : Int)] 111) = W at *
          generalize w1.heap.size = xb at *
          have d0 : W.cell? ⟨xb, 0, none⟩ = some (.int .i64 (a : Int)) := cell_of_row W xb 0 _ _ _ hW0
          have d1 : W.cell? ⟨xb, 1, none⟩ = some (.int .i64 (b : Int)) := cell_of_row W xb 1 _ _ _ hW0
          have d2 : W.cell? ⟨xb, 2, none⟩ = some (.int .i64 (c : Int)) := cell_of_row W xb 2 _ _ _ hW0
          clear hW0
          go_wp2_with (go_at_call 91; refine (HP'.out _).mono ?_; rintro e w2 ⟨rfl, HB2⟩)
          go_ret2
          exact ⟨rfl, Lib.hid (HBA.out.trans (HB2.out.mono HBA.out.size))⟩
/-- what Find answers -/
def FG (bs : List UInt8) (N : Nat) (v : Int) (w w' : World) (e : Ending) : Prop := match rdSought bs N v with
  | .error b => e = .returned (.tuple #[.slice none 0 0, faultV (b.2 : Int) (b.1 : Int)])
  | .ok none => e = .returned (.tuple #[.slice none 0 0, .iface 96 (.int .i64 2)])
  | .ok (some a) => match rdRow bs N a v with
    | .error b => e = .returned (.tuple #[.slice none 0 0, faultV (b.2 : Int) (b.1 : Int)])
    | .ok q => ∃ u, e = .returned (.tuple #[u, .nilIface]) ∧ OJ w' w.heap.size u q.1
set_option maxHeartbeats 4000000 in
set_option maxRecDepth 100000 in
theorem find_calls (s : ByteArray) (N : Nat) (v : Int) (hs : s.size ≤ 140737488355328) (hN : N ≤ 4096) (w : World) :
    Calls Tryz.prog 21 #[.string s, .int .i64 (N : Int), .int .i64 v] w fun e w' => Hid (FG s.data.toList N v w w' e) ∧ Hid (Below w.heap.size w w') := by
  have HS := Lib.hid (sought_calls s N v hs hN w)
  obtain ⟨R, hR⟩ : ∃ R, rdSought s.data.toList N v = R := ⟨_, rfl⟩
  have HR := Lib.hid hR
  rw [hR] at HS
  cases R with
  | error b =>
    have HS' : Hid (Calls Tryz.prog 56 #[.string s, .int .i64 (N : Int), .int .i64 v] w fun e w' => e = .returned (.tuple #[.int .i64 0, faultV (b.2 : Int) (b.1 : Int)]) ∧ Hid (Below w.heap.size w w')) := HS
    clear HS hR
    go_enter Tryz.func21, Tryz.ntmps21
    go_wp2_with (go_at_call 56; refine HS'.out.mono ?_; rintro e w1 ⟨rfl, HB1⟩)
    go_ret2
    exact ⟨Lib.hid (by unfold FG; rw [HR.out]; rfl), HB1⟩
  | ok o =>
    cases o with
    | none =>
      have HS' : Hid (Calls Tryz.prog 56 #[.string s, .int .i64 (N : Int), .int .i64 v] w fun e w' => e = .returned (.tuple #[.int .i64 0, .iface 96 (.int .i64 2)]) ∧ Hid (Below w.heap.size w w')) := HS
      clear HS hR
      go_enter Tryz.func21, Tryz.ntmps21
      go_wp2_with (go_at_call 56; refine HS'.out.mono ?_; rintro e w1 ⟨rfl, HB1⟩)
      go_ret2
      exact ⟨Lib.hid (by unfold FG; rw [HR.out]; rfl), HB1⟩
    | some a =>
      have HS' : Hid (Calls Tryz.prog 56 #[.string s, .int .i64 (N : Int), .int .i64 v] w fun e w' => e = .returned (.tuple #[.int .i64 (a : Int), .nilIface]) ∧ Hid (Below w.heap.size w w')) := HS
      obtain ⟨ha, hv0, hvN⟩ := sought_len hR
      rw [list_sz] at ha
      obtain ⟨x, rfl⟩ := Int.eq_ofNat_of_zero_le hv0
      have HG := Lib.hid (fun W => gget_calls s a N x ha hs hN (by omega) W)
      cases hQ : rdRow s.data.toList N a (x : Int) with
      | error b =>
        have HQ := Lib.hid hQ
        have HG' : Hid (∀ W, Calls Tryz.prog 55 #[.string s, .int .i64 (a : Int), .int .i64 (N : Int), .int .i64 (x : Int)] W fun e w' => e = .returned (.tuple #[.slice none 0 0, .int .i64 (a : Int), faultV (b.2 : Int) (b.1 : Int)]) ∧ Hid (Below W.heap.size W w')) := Lib.hid (fun W => (HG.out W).mono fun e w' h => by have h1 := h.1.out; rw [hQ] at h1; exact ⟨h1, h.2⟩)
        clear HS hR HG hQ
        go_enter Tryz.func21, Tryz.ntmps21
        go_wp2_with (first
          | (go_at_call 56; refine HS'.out.mono ?_; rintro e w1 ⟨rfl, HB1⟩)
          | (go_at_call 55; refine (HG'.out _).mono ?_; rintro e w2 ⟨rfl, HB2⟩))
        go_ret2
        exact ⟨Lib.hid (by unfold FG; rw [HR.out]; simp only; rw [HQ.out]; rfl), Lib.hid (HB1.out.trans (HB2.out.mono HB1.out.size))⟩
      | ok q =>
        have HQ := Lib.hid hQ
        have HG' : Hid (∀ W, Calls Tryz.prog 55 #[.string s, .int .i64 (a : Int), .int .i64 (N : Int), .int .i64 (x : Int)] W fun e w' => ∃ u, e = .returned (.tuple #[u, .int .i64 (q.2 : Int), .nilIface]) ∧ Hid (OJ w' W.heap.size u q.1) ∧ Hid (Below W.heap.size W w')) := Lib.hid (fun W => (HG.out W).mono fun e w' h => by have h1 := h.1.out; rw [hQ] at h1; obtain ⟨u, g1, g2⟩ := h1; exact ⟨u, g1, Lib.hid g2, h.2⟩)
        clear HS hR HG hQ
        go_enter Tryz.func21, Tryz.ntmps21
        go_wp2_with (first
          | (go_at_call 56; refine HS'.out.mono ?_; rintro e w1 ⟨rfl, HB1⟩)
          | (go_at_call 55; refine (HG'.out _).mono ?_; rintro e w2 ⟨u, rfl, HO, HB2⟩))
        go_ret2
        exact ⟨Lib.hid (by unfold FG; rw [HR.out]; simp only; rw [HQ.out]; exact ⟨_, rfl, HO.out.mono HB1.out.size⟩), Lib.hid (HB1.out.trans (HB2.out.mono HB1.out.size))⟩
/-- what Degree answers -/
def DG (bs : List UInt8) (N : Nat) (v : Int) : Value := match rdSought bs N v with
  | .error b => .tuple #[.int .i64 0, faultV (b.2 : Int) (b.1 : Int)]
  | .ok none => .tuple #[.int .i64 0, .iface 96 (.int .i64 2)]
  | .ok (some a) => cntV (rdCnt bs N a)
set_option maxHeartbeats 4000000 in
set_option maxRecDepth 100000 in
theorem sdegree_calls (s : ByteArray) (N : Nat) (v : Int) (hs : s.size ≤ 140737488355328) (hN : N ≤ 4096) (w : World) :
    Calls Tryz.prog 22 #[.string s, .int .i64 (N : Int), .int .i64 v] w fun e w' => e = .returned (DG s.data.toList N v) ∧ Hid (Below w.heap.size w w') := by
  have HS := Lib.hid (sought_calls s N v hs hN w)
  unfold DG
  obtain ⟨R, hR⟩ : ∃ R, rdSought s.data.toList N v = R := ⟨_, rfl⟩
  rw [hR] at HS ⊢
  cases R with
  | error b =>
    have HS' : Hid (Calls Tryz.prog 56 #[.string s, .int .i64 (N : Int), .int .i64 v] w fun e w' => e = .returned (.tuple #[.int .i64 0, faultV (b.2 : Int) (b.1 : Int)]) ∧ Hid (Below w.heap.size w w')) := HS
    clear HS hR
    go_enter Tryz.func22, Tryz.ntmps22
    go_wp2_with (go_at_call 56; refine HS'.out.mono ?_; rintro e w1 ⟨rfl, HB1⟩)
    go_ret2
    exact ⟨rfl, HB1⟩
  | ok o =>
    cases o with
    | none =>
      have HS' : Hid (Calls Tryz.prog 56 #[.string s, .int .i64 (N : Int), .int .i64 v] w fun e w' => e = .returned (.tuple #[.int .i64 0, .iface 96 (.int .i64 2)]) ∧ Hid (Below w.heap.size w w')) := HS
      clear HS hR
      go_enter Tryz.func22, Tryz.ntmps22
      go_wp2_with (go_at_call 56; refine HS'.out.mono ?_; rintro e w1 ⟨rfl, HB1⟩)
      go_ret2
      exact ⟨rfl, HB1⟩
    | some a =>
      have HS' : Hid (Calls Tryz.prog 56 #[.string s, .int .i64 (N : Int), .int .i64 v] w fun e w' => e = .returned (.tuple #[.int .i64 (a : Int), .nilIface]) ∧ Hid (Below w.heap.size w w')) := HS
      obtain ⟨ha, hv0, hvN⟩ := sought_len hR
      rw [list_sz] at ha
      have HG := Lib.hid (fun W => gcount_calls s a N ha hs hN W)
      clear HS hR
      simp only
      cases hQ : rdCnt s.data.toList N a with
      | error b =>
        have HG' : Hid (∀ W, Calls Tryz.prog 57 #[.string s, .int .i64 (a : Int), .int .i64 (N : Int)] W fun e w' => e = .returned (.tuple #[.int .i64 0, faultV (b.2 : Int) (b.1 : Int)]) ∧ W = w') := Lib.hid (fun W => by have := HG.out W; rw [hQ] at this; exact this)
        clear HG hQ
        go_enter Tryz.func22, Tryz.ntmps22
        go_wp2_with (first
          | (go_at_call 56; refine HS'.out.mono ?_; rintro e w1 ⟨rfl, HB1⟩)
          | (go_at_call 57; refine (HG'.out _).mono ?_; rintro e w2 ⟨rfl, rfl⟩))
        go_ret2
        exact ⟨rfl, HB1⟩
      | ok q =>
        have HG' : Hid (∀ W, Calls Tryz.prog 57 #[.string s, .int .i64 (a : Int), .int .i64 (N : Int)] W fun e w' => e = .returned (.tuple #[.int .i64 (q.1 : Int), .nilIface]) ∧ W = w') := Lib.hid (fun W => by have := HG.out W; rw [hQ] at this; exact this)
        clear HG hQ
        go_enter Tryz.func22, Tryz.ntmps22
        go_wp2_with (first
          | (go_at_call 56; refine HS'.out.mono ?_; rintro e w1 ⟨rfl, HB1⟩)
          | (go_at_call 57; refine (HG'.out _).mono ?_; rintro e w2 ⟨rfl, rfl⟩))
        go_ret2
        exact ⟨rfl, HB1⟩
end Go.Proofs.YtjokfllldcjheaaGreatDoor.Oc
/- shard, walked: Put's errors. -/
namespace Go.Proofs.YtjokfllldcjheaaGreatDoor.Oc
open Go.RowKit Go.Proofs.YtjokfllldcjheaaGreatDoor.Sha Go.Proofs.YtjokfllldcjheaaGreatDoor.Ro Go.Proofs.YtjokfllldcjheaaGreatDoor.Cs Go.Proofs.YtjokfllldcjheaaGreatDoor.Ed
set_option linter.unusedVariables false
set_option linter.unusedSimpArgs false
theorem g0_on {w W : World} (h : Er.G0 w) (hb : Below w.heap.size w W) : Er.G0 W := (hb.cell (World.block_lt_of_cell? _ _ h)).trans h
set_option maxHeartbeats 1000000 in
theorem put_nil (w : World) : Calls Tryz.prog 19 #[.pointer none, .int .i64 0, .int .i64 1] w fun e w' => e = .returned (.tuple #[.string ByteArray.empty, noV 1]) ∧ w = w' := by
  go_enter Tryz.func19, Tryz.ntmps19
  go_wp2
  go_ret2
  exact ⟨rfl, rfl⟩
theorem shard_len {w : World} {B p bb N : Nat} {tv : Value} {l : List E2} (hc : CS w B p bb tv N l) (f m : Nat) (hfm : f + m ≤ N) : (shardB (tgt l) f m).length ≤ 40000000 := by
  have hN := hc.nodes
  have a := rowsB_le (tgt l) N hN (rows_ok hc) m (f : Int) (by omega) (by omega)
  have hm : m ≤ 4096 := by omega
  have b : m * 8194 ≤ 4096 * 8194 := Nat.mul_le_mul_right _ hm
  have c := idxB_le (marksOf (tgt l) (f : Int) m) (fun x hx => by
    unfold marksOf at hx
    obtain ⟨i, hi, rfl⟩ := List.mem_map.1 hx
    have hi := List.mem_range.1 hi
    have a := rowsB_le (tgt l) N hN (rows_ok hc) (8 * i) (f : Int) (by omega) (by omega)
    have b : 8 * i * 8194 ≤ 4096 * 8194 := Nat.mul_le_mul_right _ (by omega)
    exact Nat.lt_of_le_of_lt (Nat.le_trans a b) (by decide))
  rw [marksOf_len] at c
  have d := shB_le 7 f (by omega)
  have d2 := shB_le 7 m (by omega)
  rw [shardB]
  simp only [List.length_append]
  omega
/-- what Put refuses -/
def badPut (a b : Int) (N : Nat) : Prop := a < 0 ∨ b < 1 ∨ a > (N : Int) ∨ b > (N : Int) - a
set_option maxHeartbeats 4000000 in
set_option maxRecDepth 100000 in
theorem put_range {w : World} {B p bb N : Nat} {tv : Value} {l : List E2} (hc : CS w B p bb tv N l) (a b : Int) (hb : badPut a b N) :
    Calls Tryz.prog 19 #[pV p, .int .i64 a, .int .i64 b] w fun e w' => e = .returned (.tuple #[.string ByteArray.empty, noV 2]) ∧ w = w' := by
  have hN := hc.nodes
  have HNO : Hid (Calls Tryz.prog 43 #[pV p] w fun e w' => e = .returned (.int .i64 (N : Int)) ∧ w = w') := Lib.hid (nodes_calls hc)
  clear hc
  by_cases h1 : a < 0
  · clear hb
    go_enter Tryz.func19, Tryz.ntmps19
    go_wp2
    go_ret2
    exact ⟨rfl, rfl⟩
  by_cases h2 : b < 1
  · clear hb
    go_enter Tryz.func19, Tryz.ntmps19
    go_wp2
    go_ret2
    exact ⟨rfl, rfl⟩
  by_cases h3 : a > (N : Int)
  · clear hb
    go_enter Tryz.func19, Tryz.ntmps19
    go_wp2_with (go_at_call 43; refine HNO.out.mono ?_; rintro e w1 ⟨rfl, rfl⟩)
    go_ret2
    exact ⟨rfl, rfl⟩
  · have h4 : b > (N : Int) - a := by unfold badPut at hb; omega
    clear hb
    go_enter Tryz.func19, Tryz.ntmps19
    go_wp2_with (go_at_call 43; refine HNO.out.mono ?_; rintro e w1 ⟨rfl, rfl⟩)
    go_ret2
    exact ⟨rfl, rfl⟩
theorem row_cnt {bs : List UInt8} {N a : Nat} {v : Int} {q : List Int × Nat} (ha : a ≤ bs.length) (h : rdRow bs N a v = .ok q) : ∃ nx, rdCnt bs N a = .ok (q.1.length, nx) := by
  rw [rdRow_cnt] at h
  cases e : rdCnt bs N a with
  | error b => rw [e] at h; simp at h
  | ok r =>
    rw [e] at h
    have h1 := rdCnt_len e
    have h2 := rdSteps_len h1.2.1 h
    exact ⟨r.2, by rw [h2.2.2]⟩
end Go.Proofs.YtjokfllldcjheaaGreatDoor.Oc
