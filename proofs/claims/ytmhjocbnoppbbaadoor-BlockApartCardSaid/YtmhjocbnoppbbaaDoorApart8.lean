/- The law BlockApart, walked. -/
import Derived.Test.YtmhjocbnoppbbaaDoorBlk
import Derived.Test.YtmhjocbnoppbbaaDoorSrc
namespace Go.Proofs.YtmhjocbnoppbbaaDoor.Sha
open Go.RowKit
set_option linter.unusedVariables false
set_option linter.unusedSimpArgs false

/-- of a row of one's own: where it lies, and that it may be written -/
theorem OT.own {w : World} {base : Nat} {v : Value} {ss : List ByteArray} (h : OT w base v ss) :
    ∃ g A c, v = .slice A ss.length c ∧ SR w g v ss ∧ base ≤ g ∧ (g = base ∨ g < w.heap.size) ∧ (0 < ss.length → A = some ⟨g, 0, none⟩ ∧ g < w.heap.size ∧ ∀ j, w.frozen? ⟨g, j, none⟩ = false) := by
  obtain ⟨g', h'⟩ := h.reads
  rcases h.2 with ⟨hv, hn⟩ | ⟨g, cap, cur, hv, hb, hh, hnc, hcm, hcs, htk⟩
  · exact ⟨base, none, 0, by rw [hv, hn], h'.move base (List.length_eq_zero_iff.1 hn), Nat.le_refl _, .inl rfl, fun e => by omega⟩
  · refine ⟨g, _, cap, hv, ⟨some ⟨g, 0, none⟩, cap, hv, hnc, by simp only [maxLen] at hcm; omega, fun _ => ⟨_, rfl, rfl, fun i hi => ?_⟩⟩, hb, .inr (Array.getElem?_eq_some_iff.1 hh).1, fun _ => ⟨rfl, (Array.getElem?_eq_some_iff.1 hh).1, fun j => by simp [World.frozen?, hh]⟩⟩
    have := World.ownsRow.cells h (g := g) (by rw [hv]; rfl) i (.string (ss.getD i ByteArray.empty)) (by simp [List.getD_eq_getElem?_getD, hi])
    exact this

theorem OfS.kept {w w' : World} {B g r : Nat} {ss : List ByteArray} (h : OfS w B g ss) (hg : w.grownBy w' (some r)) (h1 : B ≠ r) (h2 : g ≠ r) : OfS w' B g ss := by
  obtain ⟨v, hb, hv⟩ := h
  exact ⟨v, (hg.block B (Array.getElem?_eq_some_iff.1 hb).1 (by simpa using h1)).trans hb, hv.kept hg (by simpa using h2)⟩
/-- a world in which the first n cells of row g may have turned -/
def TurnS (w w' : World) (g n : Nat) : Prop := w.grownBy w' (some g) ∧ ∀ j, j < n → (∃ x, w'.cell? ⟨g, j, none⟩ = some x) ∧ w'.frozen? ⟨g, j, none⟩ = false
theorem TurnS.set {w w' : World} {g n j : Nat} (h : TurnS w w' g n) (x : Value) : TurnS w (w'.setCell ⟨g, j, none⟩ x) g n := by
  refine ⟨⟨h.1.os, h.1.tape, h.1.output, by simpa [World.setCell] using h.1.size, fun k hk hne => ?_⟩, fun i hi => ?_⟩
  · rw [Below.heap_setCell _ _ _ _ (fun e => hne (by rw [e]))]
    exact h.1.block k hk hne
  · obtain ⟨⟨y, hy⟩, hf⟩ := h.2 i hi
    exact ⟨cell?_setCell_some hy, by rw [World.frozen?_setCell]; exact hf⟩

section
variable {ops : Array Oper} {rest : List Oper} {o : Oper} {a : Act} {w : World} {Q : Exit → Act → World → Prop}
/-- a copy of a row of texts: append to an empty row that was laid for it -/
theorem copy_on {g n : Nat} {y : Value} {ys : List ByteArray} (HR : SR w g y ys) (hn : ys.length = n) (hn1 : n ≤ 1000000) (hgd : o.guard = none) (s x : Operand)
    (ho : o.op = .call { callee := .builtin .append, args := #[s, x], argTypes := #[22, 22] }) (hs : a.eval s = .slice (some ⟨w.heap.size, 0, none⟩) 0 0) (hx : a.eval x = y)
    (k : ∀ g1 A1 c1 w1, Hid (SR w1 g1 (.slice A1 n c1) ys) → Hid (w.heap.size ≤ g1 ∧ g1 < w1.heap.size) → Hid (0 < n → A1 = some ⟨g1, 0, none⟩ ∧ g1 < w1.heap.size ∧ ∀ j, w1.frozen? ⟨g1, j, none⟩ = false) → Hid (Below w.heap.size w w1) →
      wpList Tryd.prog ops Q rest (a.put o.dst (.slice A1 n c1)) w1) : wpList Tryd.prog ops Q (o :: rest) a (w.alloc (.cells #[] 9)) := by
  refine OT.appendA_on (OT.lit0 w w.heap.size (Nat.le_refl _)) (HR.later ((Below.refl w.heap.size w).alloc (Nat.le_refl _) _)) hgd s x ho hs hx (by simp) (by simp; omega) ?_
  intro v1 w1 h1 hg1
  obtain ⟨g1, A1, c1, rfl, hr1, hb1, ho1, hA1⟩ := h1.own
  have hB : Below w.heap.size w w1 := ((Below.refl w.heap.size w).alloc (Nat.le_refl _) _).grown hg1 (by simp) (fun k hk => by simp [Value.ownBlock] at hk; omega)
  have e : ([] ++ ys).length = n := by simpa using hn
  rw [e] at hr1 hA1 ⊢
  exact k g1 A1 c1 w1 (Lib.hid hr1) (Lib.hid ⟨hb1, by have h2 := hg1.size; simp at h2; omega⟩) (Lib.hid hA1) (Lib.hid hB)
end

set_option maxHeartbeats 8000000 in
set_option maxRecDepth 100000 in
theorem apart8_walk (lb : Nat) (lv : Value) (ss : List ByteArray) (i : Int) (w : World) (h0 : Er.G0 w) (hl : SR w lb lv ss) (hi0 : -9223372036854775808 ≤ i) (hi1 : i < 9223372036854775808) :
    Calls Tryd.prog 3 #[lv, .int .i64 i] w fun e w' => e = .returned (.bool true) ∧ Below w.heap.size w w' := by
  have hl' := hl
  obtain ⟨A, cp, rfl, hcp, hcm, -⟩ := hl
  have HL := Lib.hid hl'
  have HG := Lib.hid h0
  clear hl' h0
  obtain ⟨len, hlen⟩ : ∃ len, ss.length = len := ⟨_, rfl⟩
  rw [hlen] at hcp HL ⊢
  have HLEN := Lib.hid hlen
  clear hlen
  by_cases h20 : len ≤ 40
  case neg =>
    have k20 : (40 : Int) < (len : Int) := by omega
    clear h20
    go_enter Tryd.func3, Tryd.ntmps3
    go_wp2_with (go_at_call 9; refine (Blk.blk_awake_calls w).mono ?_; rintro e w1 ⟨rfl, rfl⟩)
    go_ret
    exact ⟨rfl, Below.refl _ _⟩
  case pos =>
    have k20 : ¬ (40 : Int) < (len : Int) := by omega
    go_enter Tryd.func3, Tryd.ntmps3
    go_wp2_with (first
      | (go_at_call 9; refine (Blk.blk_awake_calls w).mono ?_; rintro e w1 ⟨rfl, rfl⟩)
      | (at_builtin; refine copy_on HL.out HLEN.out (by omega) rfl _ _ rfl rfl rfl ?_; intro g1 A1 c1 w1 HR1 HQ1 HA1 HB1; have HOF := Lib.hid (of_calls g1 (.slice A1 len c1) ss w1 HR1.out (by rw [HLEN.out]; omega)))
      | (go_at_call 10; refine HOF.out.mono ?_; rintro e w2 ⟨g, rfl, HS, hgg, HB2⟩))
    have HT0 : Hid (TurnS w2 w2 g1 len) := Lib.hid ⟨⟨rfl, rfl, rfl, Nat.le_refl _, fun _ _ _ => rfl⟩, fun j hj => by
      obtain ⟨hA, hg1, hf⟩ := HA1.out (by omega)
      obtain ⟨A', c', hv', -, -, hread⟩ := HR1.out
      obtain ⟨ad, hA', -, hcell⟩ := hread (by rw [HLEN.out]; omega)
      rw [HLEN.out] at hcell
      injection hv' with hv' _ _
      rw [hA, hA'] at hv'
      injection hv' with hv'
      have hc := hcell j hj
      rw [← hv', show (⟨g1, 0, none⟩ : Addr).add j = ⟨g1, j, none⟩ by unfold Addr.add; split <;> simp_all] at hc
      exact ⟨⟨_, (HB2.out.cell hg1).trans hc⟩, (HB2.out.frozen hg1).trans (hf j)⟩⟩
    go_loopw [27] (fun x wr => ∃ k : Nat, x = .int .i64 (k : Int) ∧ k ≤ len ∧ Hid (TurnS w2 wr g1 len)) (fun x _ => len - (intOf x).toNat)
    case atStart => exact ⟨0, rfl, by omega, HT0⟩
    case round =>
      obtain ⟨k, rfl, hk, HT⟩ := hrel
      by_cases hlt : k < len
      · have hA := (HA1.out (by omega)).1
        obtain ⟨⟨x, hx⟩, hf⟩ := HT.out.2 k hlt
        subst hA
        have HT' := Lib.hid (HT.out.set (j := k) (.string ⟨#[116, 117, 114, 110, 101, 100]⟩))
        go_wp2_with fail
        go_roundw
        case rel => exact ⟨k + 1, by go_num, by omega, HT'⟩
        case measure => simp [intOf]; omega
      · obtain rfl : k = len := by omega
        have hBW : Below w.heap.size w wr := (HB1.out.trans (HB2.out.mono HB1.out.size)).grown HT.out.1 (Nat.le_trans HB1.out.size HB2.out.size) (fun j hj => by have := HQ1.out.1; injection hj with hj; omega)
        have HS2 := Lib.hid (HS.out.kept HT.out.1 (by have := HQ1.out.2; omega) (by have := HQ1.out.2; have := hgg.out; omega))
        have HL2 := Lib.hid (HL.out.later hBW)
        have HBW := Lib.hid hBW
        have HG2 : Hid (Er.G0 wr) := Lib.hid ((hBW.cell (World.block_lt_of_cell? _ _ HG.out)).trans HG.out)
        clear hBW HT hlt hk hcm
        go_wp2_with fail
        go_loopw [36] (fun x wz => ∃ j : Nat, x = .int .i64 (j : Int) ∧ j ≤ k ∧ wz = wr) (fun x _ => k - (intOf x).toNat)
        case atStart => exact ⟨0, rfl, by omega, rfl⟩
        case round =>
          obtain ⟨j, rfl, hj, hwz⟩ := hrel
          subst hwz
          by_cases hlt : j < k
          · have hof := of1_calls w1.heap.size g ss j _ HS2.out (by rw [HLEN.out]; omega)
            rw [show ofT ss j = ss.getD j ByteArray.empty by unfold ofT; rw [if_pos (by rw [HLEN.out]; omega)]; rfl, show ofE ss j = .nil by unfold ofE; rw [if_pos (by rw [HLEN.out]; omega)]] at hof
            simp only [Er.Er.val] at hof
            obtain ⟨A', c', hv', -, -, hread⟩ := HL2.out
            obtain ⟨ad, hA', -, hcell⟩ := hread (by rw [HLEN.out]; omega)
            rw [HLEN.out] at hcell hv'
            injection hv' with hv' _ hcc
            subst hcc
            rw [hA'] at hv'
            subst hv'
            have hc := hcell j hlt
            generalize ss.getD j ByteArray.empty = s at hc hof
            have HOF2 := Lib.hid hof
            clear hof hcell hread hA'
            go_wp2_with (go_at_call 37; refine HOF2.out.mono ?_; rintro e w' ⟨rfl, rfl⟩)
            go_roundw
            case rel => exact ⟨j + 1, by go_num, by omega, trivial⟩
            case measure => simp [intOf]; omega
          · obtain rfl : j = k := by omega
            have hof := Lib.hid (of1_calls w1.heap.size g ss i _ HS2.out (by rw [HLEN.out]; omega))
            by_cases hin : 0 ≤ i ∧ i < j
            · have ht : ofE ss i = .nil := by unfold ofE; rw [if_pos (by rw [HLEN.out]; omega)]
              rw [ht] at hof
              simp only [Er.Er.val] at hof
              obtain ⟨hi2, hi3⟩ := hin
              clear ht hlt hj
              go_wp2_with (go_at_call 37; refine hof.out.mono ?_; rintro e w' ⟨rfl, rfl⟩)
              go_ret
              exact ⟨rfl, HBW.out⟩
            · have ht : ofE ss i = .no 9 := by unfold ofE; rw [if_neg (by rw [HLEN.out]; omega)]
              have ht2 : ofT ss i = ⟨#[]⟩ := by unfold ofT; rw [if_neg (by rw [HLEN.out]; omega)]
              rw [ht, ht2] at hof
              have hcd := Lib.hid (Er.code_calls (.no 9) _ HG2.out)
              simp only [Er.Er.val] at hof hcd
              have hc9 : (Er.Er.no 9).code = 9 := rfl
              rw [hc9] at hcd
              clear ht ht2 hlt hj
              by_cases hneg : i < 0
              · clear hin
                go_wp2_with (first
                  | (go_at_call 37; refine hof.out.mono ?_; rintro e w' ⟨rfl, rfl⟩)
                  | (go_at_call 11; refine hcd.out.mono ?_; rintro e w4 ⟨rfl, HB4⟩))
                go_ret
                exact ⟨rfl, HBW.out.trans (HB4.out.mono HBW.out.size)⟩
              · have hge : (j : Int) ≤ i := by omega
                have hpos : 0 ≤ i := by omega
                clear hin
                go_wp2_with (first
                  | (go_at_call 37; refine hof.out.mono ?_; rintro e w' ⟨rfl, rfl⟩)
                  | (go_at_call 11; refine hcd.out.mono ?_; rintro e w4 ⟨rfl, HB4⟩))
                go_ret
                exact ⟨rfl, HBW.out.trans (HB4.out.mono HBW.out.size)⟩
end Go.Proofs.YtmhjocbnoppbbaaDoor.Sha
