/- want: held, Next, Got, Over, Add, New over the state in memory. -/
import Derived.Test.YthnpaiobjmneaaaWs
import Derived.BigRegion
import Derived.IntWalk
import Derived.Deep.RegionHeld3
import Derived.Deep.QuietTactic
import Derived.BigQuiet
import Derived.Deep.DeepCutAuto
import Derived.Deep.CutBlock
namespace Go.Proofs.Ythnpaiobjmneaaa.Wa
open Go.RowKit Go.Maps
set_option linter.unusedVariables false
set_option linter.unusedSimpArgs false

set_option maxHeartbeats 1000000 in
set_option maxRecDepth 100000 in
theorem held_calls (n : Int) (w : World) : Calls Try.prog 45 #[.int .i64 n] w fun e w' => e = .returned (.int .i64 (heldI n)) ∧ w = w' := by
  go_enter Try.func45, Try.ntmps45
  go_wp2
  go_ret
  exact ⟨rfl, rfl⟩
theorem heldI_in (n : Int) : 0 ≤ heldI n ∧ heldI n ≤ 1125899906842624 := by unfold heldI; omega
theorem drewN_below (B : Nat) (w : World) (n : Nat) : Below B w (w.drewN n) := ⟨rfl, rfl, rfl, Nat.le_refl _, fun _ _ => rfl⟩
/-- v is a slice, in block g, that reads as these numbers -/
def JR (w : World) (g : Nat) (v : Value) (zs : List Int) : Prop :=
  ∃ A c o, v = .slice A zs.length c ∧ zs.length ≤ c ∧ c ≤ 9223372036854775807 ∧ (0 < zs.length → A = some ⟨g, o, none⟩ ∧ g < w.heap.size ∧ ∀ i, i < zs.length → w.cell? ⟨g, o + i, none⟩ = some (.int .i64 (zs.getD i 0)))
theorem JR.other {w w' : World} {g : Nat} {v : Value} {l : List Int} (h : JR w g v l) (hs : w.heap.size ≤ w'.heap.size) (hb : l ≠ [] → w'.heap[g]? = w.heap[g]?) : JR w' g v l := by
  obtain ⟨A, c, o, hv, h1, h2, h3⟩ := h
  refine ⟨A, c, o, hv, h1, h2, fun h => ?_⟩
  obtain ⟨ha, hl, hc⟩ := h3 h
  have hb := hb (by intro e; rw [e] at h; simp at h)
  refine ⟨ha, Nat.lt_of_lt_of_le hl hs, fun i hi => ?_⟩
  rw [← hc i hi]
  simp only [World.cell?, hb]
theorem JR.lt {w : World} {g : Nat} {v : Value} {l : List Int} (h : JR w g v l) : l = [] ∨ g < w.heap.size := by
  by_cases e : l = []
  · exact .inl e
  · obtain ⟨A, c, o, hv, h1, h2, h3⟩ := h
    exact .inr (h3 (List.length_pos_iff.2 e)).2.1
theorem JR.later {w w' : World} {g : Nat} {v : Value} {l : List Int} (h : JR w g v l) (hb : Below w.heap.size w w') : JR w' g v l :=
  h.other hb.size fun e => hb.block g (h.lt.resolve_left e)
theorem JR.kp {w w' : World} {g : Nat} {v : Value} {l : List Int} (h : JR w g v l) {mb ab : Nat} (hb : Kp mb ab w w') (hm : g ≠ mb) (ha : g ≠ ab) : JR w' g v l :=
  h.other hb.size fun e => hb.block g (h.lt.resolve_left e) hm ha
theorem add_none (g o i : Nat) : (⟨g, o, none⟩ : Addr).add i = ⟨g, o + i, none⟩ := by unfold Addr.add; split <;> simp_all
theorem OJ.reads {w : World} {base : Nat} {v : Value} {zs : List Int} (h : OJ w base v zs) : ∃ g, JR w g v zs ∧ (zs ≠ [] → base ≤ g) := by
  rcases h.2 with ⟨hv, hn⟩ | ⟨g, cap, cur, hv, hb, hh, hnc, hcm, hcs, htk⟩
  · exact ⟨0, ⟨none, 0, 0, by rw [hv, hn], by omega, by omega, fun h => by omega⟩, fun e => absurd (List.eq_nil_of_length_eq_zero hn) e⟩
  · refine ⟨g, ⟨some ⟨g, 0, none⟩, cap, 0, hv, hnc, by simp only [maxLen] at hcm; omega, fun _ => ⟨rfl, (Array.getElem?_eq_some_iff.1 hh).1, fun i hi => ?_⟩⟩, fun _ => hb⟩
    have := World.ownsRow.cells h (g := g) (by rw [hv]; rfl) i (.int .i64 (zs.getD i 0)) (by simp [List.getD_eq_getElem?_getD, hi])
    rwa [add_none] at this
theorem JR.lit (w : World) (l : List Int) (cs : Array Value) (hcs : cs = (l.map fun z => Value.int .i64 z).toArray) (n : Nat) (hn : n = l.length) (h : l.length ≤ 9223372036854775807) : JR (w.alloc (.cells cs 3)) w.heap.size (.slice (some ⟨w.heap.size, 0, none⟩) n n) l := by
  subst hcs hn
  refine ⟨some ⟨w.heap.size, 0, none⟩, l.length, 0, rfl, Nat.le_refl _, h, fun hp => ⟨rfl, by simp, fun i hi => ?_⟩⟩
  rw [cell_of_row _ w.heap.size _ _ _ _ (heap_alloc_new w _)]
  simp [List.getD_eq_getElem?_getD, hi]
/-- what is asked for next: what is asked for then, till when, and which, if any -/
def nextF (k t : Int) (M A : List Int) (T : Int → Int) (now : Int) : List Int × (Int → Int) × Int × Bool :=
  if k ≤ A.length then (A, T, 0, false) else match nxt M A with
    | none => (A, T, 0, false)
    | some i => (ins i A, upd T i (heldI now + t), i, true)
theorem nxt_at {M A : List Int} {j : Nat} (hj : j < M.length) (hb : ∀ i, i < j → M.getD i 0 ∈ A) (hn : M.getD j 0 ∉ A) : nxt M A = some (M.getD j 0) := by
  have e : M = M.take j ++ M.getD j 0 :: M.drop (j + 1) := by
    have : M.drop j = M.getD j 0 :: M.drop (j + 1) := by
      rw [List.drop_eq_getElem_cons hj]; simp [List.getD_eq_getElem?_getD, hj]
    rw [← this, List.take_append_drop]
  generalize M.getD j 0 = x at *
  unfold nxt
  rw [e, List.find?_append]
  have h1 : (M.take j).find? (fun i => !A.contains i) = none := List.find?_eq_none.2 fun z hz => by
    obtain ⟨i, hi, rfl⟩ := List.mem_iff_getElem.1 hz
    rw [List.length_take] at hi
    have := hb i (by omega)
    simp only [List.getD_eq_getElem?_getD, List.getElem?_eq_getElem (show i < M.length by omega), Option.getD_some] at this
    simp [List.getElem_take, this]
  rw [h1]
  simp [hn]
theorem nxt_no {M A : List Int} (hb : ∀ i, i < M.length → M.getD i 0 ∈ A) : nxt M A = none := by
  unfold nxt
  refine List.find?_eq_none.2 fun z hz => ?_
  obtain ⟨i, hi, rfl⟩ := List.mem_iff_getElem.1 hz
  have := hb i hi
  simp only [List.getD_eq_getElem?_getD, List.getElem?_eq_getElem hi, Option.getD_some] at this
  simp [this]

set_option maxHeartbeats 2000000 in
set_option maxRecDepth 100000 in
theorem next_calls (p mb ab : Nat) (k t : Int) (M A : List Int) (T : Int → Int) (now : Int) (w : World) (h : WS w p mb ab k t M A T) (hm : M.length ≤ 1000000) (ha : A.length ≤ 1000000) (ht0 : 0 ≤ t) (ht1 : t ≤ 1000) :
    Calls Try.prog 15 #[.pointer (some ⟨p, 0, none⟩), .int .i64 now] w fun e w' => e = .returned (.tuple #[.int .i64 (nextF k t M A T now).2.2.1, .bool (nextF k t M A T now).2.2.2]) ∧ WS w' p mb ab k t M (nextF k t M A T now).1 (nextF k t M A T now).2.1 ∧ Kp mb ab w w' := by
  have HW := Lib.hid h
  have HI := Lib.hid h.im
  have hlen := fun n ty => (h.im.drewN n).len ty
  obtain ⟨⟨c0, c1, c2, c3⟩, hl, n1, n2, n3, _, _⟩ := h
  obtain ⟨A', T', r, b, hr⟩ : ∃ A' T' r b, nextF k t M A T now = (A', T', r, b) := ⟨_, _, _, _, rfl⟩
  rw [hr]
  have HR := Lib.hid hr
  clear hr
  by_cases hk : k ≤ A.length
  · have e := HR.out
    unfold nextF at e
    rw [if_pos hk] at e
    simp only [Prod.mk.injEq] at e
    obtain ⟨rfl, rfl, rfl, rfl⟩ := e
    go_enter Try.func15, Try.ntmps15
    go_upto_region 1 with (fail)
    go_quiet (fail)
    go_wp2
    go_ret2
    exact ⟨rfl, HW.out, Kp.of_below (drewN_below _ _ _)⟩
  · have e := HR.out
    unfold nextF at e
    rw [if_neg hk] at e
    have HE := Lib.hid e
    clear e HR
    go_enter Try.func15, Try.ntmps15
    go_upto_region 1 with (fail)
    go_quiet (fail)
    go_wp2_with (go_at_call 18; refine (missing_calls p mb ab k t M A T _ (HW.out.drewN nq) (by omega)).mono ?_; rintro e W1 ⟨v, rfl, hoj, hnil, hb⟩; obtain ⟨g, ⟨Av, c, o, rfl, hc1, hc2, hrd⟩, -⟩ := hoj.reads)
    have HW1 := Lib.hid ((HW.out.drewN nq).later hb)
    have HB : Hid (Below w.heap.size (w.drewN nq) W1) := Lib.hid hb
    clear hb hoj hnil
    have hlook := fun (i : Int) (hi : wfI i) => HW1.out.im.look_ok i hi
    have hwf := HW1.out.bm.wf
    obtain ⟨⟨d0, d1, d2, d3⟩, _⟩ := HW1.out
    obtain ⟨len, hlen2⟩ : ∃ len, M.length = len := ⟨_, rfl⟩
    rw [hlen2] at hc1 hm hrd
    have HC := Lib.hid hrd
    have HL := Lib.hid hlook
    have HF := Lib.hid hwf
    clear hlook hrd hlen hwf
    rw [hlen2]
    have hl7 : (len : Int) ≤ 1000000 := by omega
    go_upto_region 4 with (fail)
    go_loopw [28] (fun x wz => ∃ j : Nat, x = .int .i64 (j : Int) ∧ j ≤ len ∧ Hid (∀ i, i < j → M.getD i 0 ∈ A) ∧ wz = W1) (fun x _ => len - (intOf x).toNat)
    case atStart => exact ⟨0, rfl, by omega, Lib.hid fun i hi => absurd hi (by omega), rfl⟩
    case round =>
      obtain ⟨j, rfl, hj, HJ, hwz⟩ := hrel
      subst hwz
      by_cases hlt : j < len
      · obtain ⟨rfl, hgl, hcell⟩ := HC.out (by omega)
        have hx := hcell j hlt
        clear hcell
        have hxw := HF.out (M.getD j 0) (by rw [List.getD_eq_getElem?_getD, List.getElem?_eq_getElem (by omega)]; exact List.getElem_mem _)
        have HX : Hid (nxt M A = some (M.getD j 0) ∨ M.getD j 0 ∈ A) := Lib.hid (by
          by_cases hin : M.getD j 0 ∈ A
          · exact .inr hin
          · exact .inl (nxt_at (by omega) HJ.out hin))
        obtain ⟨x, hxe⟩ : ∃ x, M.getD j 0 = x := ⟨_, rfl⟩
        have HXE := Lib.hid hxe
        rw [hxe] at hx hxw HX
        clear hxe
        have hlk := HL.out x hxw
        by_cases hin : x ∈ A
        · rw [if_pos hin, decide_eq_true hin] at hlk
          go_wp2
          go_roundw
          case rel => exact ⟨j + 1, by simp, by omega, Lib.hid fun i hi => by
            by_cases e : i = j
            · subst e; rw [HXE.out]; exact hin
            · exact HJ.out i (by omega), trivial⟩
          case measure => simp [intOf]; omega
        · rw [if_neg hin, decide_eq_false hin] at hlk
          have e := HE.out
          rw [HX.out.resolve_right hin] at e
          simp only [Prod.mk.injEq] at e
          obtain ⟨rfl, rfl, rfl, rfl⟩ := e
          have hh := heldI_in now
          obtain ⟨W2, hrun, hI2, hg2⟩ := (show IM wr.drew ab A T from HW1.out.im).store x (heldI now + t) hxw (by unfold wfI; omega) (by omega)
          have HI2 := Lib.hid hI2
          have HG2 := Lib.hid hg2
          have HK := Lib.hid (held_calls now)
          have e1 := HG2.out.cell (w := wr.drew) d1 (fun e => n2 (by injection e))
          have e2 := HG2.out.cell (w := wr.drew) d3 (fun e => n2 (by injection e))
          obtain ⟨hn, hne⟩ : ∃ hn, heldI now = hn := ⟨_, rfl⟩
          rw [hne] at hrun HI2 hh HK
          have HNE := Lib.hid hne
          clear hne HE
          have hwr : IntKind.i64.wrap (hn + t) = hn + t := IntWalk.i64_in _ (by omega)
          clear hI2 hg2
          go_upto_region 8 with (fail)
          go_region_held3 (fun w' => w'.cell? ⟨p, 1, none⟩ = some (.int .i64 t) ∧ w'.cell? ⟨p, 3, none⟩ = some (.map (some ab)))
            (first | (go_keep; done) | exact ⟨d1, d3⟩ | exact ⟨e1, e2⟩)
            (first | (go_at_call 45; refine (HK.out _).mono ?_; rintro e w3 ⟨rfl, rfl⟩))
          go_wp2
          go_ret2
          have hgr : wr.grownBy W2 (some ab) := ⟨HG2.out.os, HG2.out.tape, HG2.out.output, HG2.out.size, HG2.out.block⟩
          have hk3 := Kp.of_grown (mb := mb) (ab := ab) hgr (.inr (.inl rfl))
          have HI3 := HI2.out
          rw [← HNE.out] at HI3
          exact ⟨rfl, HW1.out.turn hk3 (HW1.out.bm.kept hgr (fun e => n3 (by injection e))) HI3, (Kp.of_below ((drewN_below _ w nq).trans HB.out)).trans hk3⟩
      · obtain rfl : j = len := by omega
        have e := HE.out
        rw [nxt_no (by rw [hlen2]; exact HJ.out)] at e
        simp only [Prod.mk.injEq] at e
        obtain ⟨rfl, rfl, rfl, rfl⟩ := e
        go_wp2
        go_ret2
        exact ⟨rfl, HW1.out, Kp.of_below ((drewN_below _ w nq).trans HB.out)⟩
end Go.Proofs.Ythnpaiobjmneaaa.Wa
