/- AskBounds, walked. -/
import Derived.Test.YthnpaiobjmneaaaAt
import Derived.Test.YthnpaiobjmneaaaAo
import Derived.BigQuiet
import Derived.Deep.RegionHeld3
import Derived.Deep.DeepCutAuto
import Derived.Deep.CutBlock
namespace Go.Proofs.Ythnpaiobjmneaaa.Ak
open Go.RowKit Go.ChangeShapes Go.WideShapes Go.Proofs.Ythnpaiobjmneaaa.Ed Go.Proofs.Ythnpaiobjmneaaa.Ro Go.Proofs.Ythnpaiobjmneaaa.Cs
set_option linter.unusedVariables false
set_option linter.unusedSimpArgs false
/-- block b is a search's box -/
def AB (w : World) (b : Nat) (x y z : Int) : Prop := w.heap[b]? = some (.cells #[.int .i64 x, .int .i64 y, .int .i64 z] 71 (0, 0))
theorem AB.lt {w : World} {b : Nat} {x y z : Int} (h : AB w b x y z) : b < w.heap.size := (Array.getElem?_eq_some_iff.1 h).1
theorem AB.later {w w' : World} {b : Nat} {x y z : Int} (h : AB w b x y z) (hb : Below w.heap.size w w') : AB w' b x y z := (hb.block b h.lt).trans h
theorem AB.cells {w : World} {b : Nat} {x y z : Int} (h : AB w b x y z) : w.cell? ⟨b, 0, none⟩ = some (.int .i64 x) ∧ w.cell? ⟨b, 1, none⟩ = some (.int .i64 y) ∧ w.cell? ⟨b, 2, none⟩ = some (.int .i64 z) :=
  ⟨cell_of_row w b 0 _ _ _ h, cell_of_row w b 1 _ _ _ h, cell_of_row w b 2 _ _ _ h⟩
theorem two_asks (w : World) (x y z x' y' z' : Int) :
    Hid (AB ((w.alloc (.cells #[.int .i64 x, .int .i64 y, .int .i64 z] 71)).alloc (.cells #[.int .i64 x', .int .i64 y', .int .i64 z'] 71)).drew w.heap.size x y z) ∧
    Hid (AB ((w.alloc (.cells #[.int .i64 x, .int .i64 y, .int .i64 z] 71)).alloc (.cells #[.int .i64 x', .int .i64 y', .int .i64 z'] 71)).drew (w.heap.size + 1) x' y' z') ∧
    Hid (Below w.heap.size w ((w.alloc (.cells #[.int .i64 x, .int .i64 y, .int .i64 z] 71)).alloc (.cells #[.int .i64 x', .int .i64 y', .int .i64 z'] 71)).drew) := by
  refine ⟨Lib.hid ?_, Lib.hid ?_, Lib.hid (((Below.refl _ _).alloc (Nat.le_refl _) _).alloc (by simp) _).drew⟩
  · exact (Below.heap_alloc _ _ w.heap.size (by simp)).trans (heap_alloc_new w _)
  · have := heap_alloc_new (w.alloc (.cells #[.int .i64 x, .int .i64 y, .int .i64 z] 71)) (.cells #[.int .i64 x', .int .i64 y', .int .i64 z'] 71)
    rw [show (w.alloc (.cells #[.int .i64 x, .int .i64 y, .int .i64 z] 71)).heap.size = w.heap.size + 1 by simp] at this
    exact this
set_option maxHeartbeats 2000000 in
set_option maxRecDepth 100000 in
theorem search_weak {w : World} {B p bb N : Nat} {tv : Value} {l : List E2} (hc : CS w B p bb tv N l) (fr d m : Int) :
    Calls Try.prog 43 #[pV p, .int .i64 fr, .int .i64 d, .int .i64 m] w fun e w' => ∃ v ev, e = .returned (.tuple #[v, ev]) ∧ Hid (Below w.heap.size w w') := by
  by_cases h1 : d < 0 ∨ m < 1
  · exact (search_arg _ fr d m h1 w).mono fun e w' ⟨he, hw⟩ => ⟨_, _, he, Lib.hid (hw ▸ Below.refl _ _)⟩
  · by_cases h2 : fr < 0 ∨ (N : Int) ≤ fr
    · exact (search_out hc fr d m (by omega) (by omega) h2).mono fun e w' ⟨he, hw⟩ => ⟨_, _, he, hw⟩
    · exact (search_ok hc fr d m (by omega) (by omega) (by omega)).mono fun e w' ⟨v, he, _, hw⟩ => ⟨_, _, he, hw⟩
theorem search_err {w : World} {B p bb N : Nat} {tv : Value} {l : List E2} (hc : CS w B p bb tv N l) (fr d m : Int) (h : ¬ (0 ≤ d ∧ 1 ≤ m ∧ 0 ≤ fr ∧ fr < (N : Int))) :
    Calls Try.prog 43 #[pV p, .int .i64 fr, .int .i64 d, .int .i64 m] w fun e w' => ∃ k, e = .returned (.tuple #[.slice none 0 0, noV k]) ∧ Hid (Below w.heap.size w w') := by
  by_cases h1 : d < 0 ∨ m < 1
  · exact (search_arg _ fr d m h1 w).mono fun e w' ⟨he, hw⟩ => ⟨_, he, Lib.hid (hw ▸ Below.refl _ _)⟩
  · exact (search_out hc fr d m (by omega) (by omega) (by omega)).mono fun e w' ⟨he, hw⟩ => ⟨_, he, hw⟩
theorem MR.take {w : World} {g : Nat} {A : Option Addr} {n c : Nat} {l : List E2} (h : MR w g (.slice A n c) l) (u : Nat) (hu : u ≤ n) : MR w g (.slice A u c) (l.take u) := by
  obtain ⟨o, A', c', hv, h1, h2, h3⟩ := h
  injection hv with e1 e2 e3
  subst e1 e3
  have hl : (l.take u).length = u := by rw [List.length_take]; omega
  refine ⟨o, A, c, by rw [hl], by omega, h2, fun hp => ?_⟩
  rw [hl] at hp
  obtain ⟨e, hg, hc⟩ := h3 (by omega)
  refine ⟨e, hg, fun i hi => ?_⟩
  rw [hl] at hi
  have : (l.take u).getD i (0, 0) = l.getD i (0, 0) := by
    rw [List.getD_eq_getElem?_getD, List.getD_eq_getElem?_getD, List.getElem?_take, if_pos hi]
  rw [this]
  exact hc i (by omega)
theorem same_true {w : World} {g1 g2 : Nat} {v1 v2 : Value} {a b : List E2} (h1 : MR w g1 v1 a) (h2 : MR w g2 v2 b) (e : a = b) (n : Nat) :
    Calls Try.prog 44 #[v1, v2] (w.drewN n) fun e w' => e = .returned (.bool true) ∧ ∃ m, w' = w.drewN m := by
  refine (same_calls g1 g2 v1 v2 a b _ (h1.drewN n) (h2.drewN n)).mono ?_
  rintro r w' ⟨he, q, rfl⟩
  exact ⟨by rw [he, decide_eq_true e], n + q, by simp [World.drewN, Nat.add_assoc]⟩
/-- what AskBounds asks of three searches, in plain words -/
structure BL (N : Nat) (d1 m1 d2 m2 : Int) (X Y Z : List E2) : Prop where
  len : X.length ≤ N
  few : (X.length : Int) ≤ m1
  cap : ∀ j, j < X.length → (X.getD j (0, 0)).2 ≤ d1 ∧ 0 ≤ (X.getD j (0, 0)).2 ∧ (X.getD j (0, 0)).2 ≤ j
  step : ∀ j, j + 1 < X.length → (X.getD j (0, 0)).2 ≤ (X.getD (j + 1) (0, 0)).2 ∧ (X.getD (j + 1) (0, 0)).2 ≤ (X.getD j (0, 0)).2 + 1
  once : ∀ i j, i < j → j < X.length → (X.getD i (0, 0)).1 ≠ (X.getD j (0, 0)).1
  pre1 : X.take (min X.length Y.length) = Y.take (min X.length Y.length)
  pre2 : X.take (min X.length Z.length) = Z.take (min X.length Z.length)
  len1 : m1 ≤ m2 → X.length ≤ Y.length
  len2 : d1 ≤ d2 → X.length ≤ Z.length
theorem mts_pre {L M : List T3} (h : L <+: M) : mts L <+: mts M := h.map _
theorem pre_take {α : Type} {X Y : List α} (h : X <+: Y ∨ Y <+: X) : X.take (min X.length Y.length) = Y.take (min X.length Y.length) := by
  rcases h with h | h
  · have hl := h.length_le
    rw [Nat.min_eq_left hl, List.take_length]
    exact List.prefix_iff_eq_take.1 h
  · have hl := h.length_le
    rw [Nat.min_eq_right hl, List.take_length]
    exact (List.prefix_iff_eq_take.1 h).symm
theorem mts_far (L : List T3) (j : Nat) : ((mts L).getD j (0, 0)).2 = tf L j := by
  unfold mts tf
  rw [List.getD_eq_getElem?_getD, List.getElem?_map, List.getD_eq_getElem?_getD]
  cases L[j]? <;> rfl
theorem mts_node (L : List T3) (j : Nat) : ((mts L).getD j (0, 0)).1 = (nds L).getD j 0 := by
  unfold mts nds
  rw [List.getD_eq_getElem?_getD, List.getElem?_map, List.getD_eq_getElem?_getD, List.getElem?_map]
  cases L[j]? <;> rfl
theorem bounds_law (N : Nat) (t : Int → List Int) (fr d1 m1 d2 m2 : Int) (h : 0 ≤ d1 ∧ 1 ≤ m1 ∧ 0 ≤ fr ∧ fr < (N : Int)) (ht : ∀ v : Int, 0 ≤ v ∧ v < (N : Int) → ∀ x ∈ t v, 0 ≤ x ∧ x < (N : Int)) :
    BL N d1 m1 d2 m2 (mts (bfs N t d1 m1 fr)) (mts (bfs N t d1 m2 fr)) (mts (bfs N t d2 m1 fr)) := by
  obtain ⟨k, hq⟩ := (Q.start fr h.2.2 h.1 h.2.1).run ht N 0
  have hm : ∀ {a b : Int}, a ≤ b → mts (bfs N t d1 a fr) <+: mts (bfs N t d1 b fr) := fun hab => mts_pre (run_most t d1 hab N 0 _)
  have hd : ∀ {a b : Int}, a ≤ b → mts (bfs N t a m1 fr) <+: mts (bfs N t b m1 fr) := fun hab => mts_pre (run_depth t m1 hab N 0 _)
  change Q N d1 m1 k (bfs N t d1 m1 fr) at hq
  have hl : (mts (bfs N t d1 m1 fr)).length = (bfs N t d1 m1 fr).length := by simp [mts]
  refine ⟨by rw [hl]; exact hq.len, by rw [hl]; exact hq.few, fun j hj => ?_, fun j hj => ?_, fun i j hij hj => ?_, pre_take ?_, pre_take ?_, fun hh => (hm hh).length_le, fun hh => (hd hh).length_le⟩
  · rw [hl] at hj
    rw [mts_far]
    have := hq.cap j hj
    exact ⟨this.2.1, this.1, this.2.2⟩
  · rw [hl] at hj
    rw [mts_far, mts_far]
    exact hq.step j hj
  · rw [hl] at hj
    rw [mts_node, mts_node]
    have hn := hq.nodup
    have hnl : (nds (bfs N t d1 m1 fr)).length = (bfs N t d1 m1 fr).length := by simp [nds]
    rw [List.getD_eq_getElem?_getD, List.getD_eq_getElem?_getD, List.getElem?_eq_getElem (by omega), List.getElem?_eq_getElem (by omega)]
    exact List.pairwise_iff_getElem.1 hn i j (by omega) (by omega) hij
  · by_cases hh : m1 ≤ m2
    · exact .inl (hm hh)
    · exact .inr (hm (by omega))
  · by_cases hh : d1 ≤ d2
    · exact .inl (hd hh)
    · exact .inr (hd (by omega))
set_option maxHeartbeats 1600000 in
set_option maxRecDepth 100000 in
theorem bounds_walk (n : Int) (g : Nat) (A : Option Addr) (len c : Nat) (l0 : List E2) (f1 d1 m1 f2 d2 m2 : Int) (w : World) (hr : ER w g (.slice A len c) l0) (hlen : l0.length = len) (hf : -9223372036854775808 ≤ m1 ∧ m1 < 9223372036854775808) :
    Calls Try.prog 11 #[.int .i64 n, .slice A len c, .agg #[.int .i64 f1, .int .i64 d1, .int .i64 m1, .int .i64 f2, .int .i64 d2, .int .i64 m2]] w fun e w' => e = .returned (.bool true) ∧ Hid (Below w.heap.size w w') := by
  have HR : Hid (ER (w.alloc (.cells #[.int .i64 f1, .int .i64 d1, .int .i64 m1, .int .i64 f2, .int .i64 d2, .int .i64 m2] 72)) g (.slice A len c) l0) := Lib.hid (hr.alloc _)
  have HL := Lib.hid hlen
  have HA0 : Hid (Below w.heap.size w (w.alloc (.cells #[.int .i64 f1, .int .i64 d1, .int .i64 m1, .int .i64 f2, .int .i64 d2, .int .i64 m2] 72))) := Lib.hid ((Below.refl _ _).alloc (Nat.le_refl _) _)
  have HA1 : Hid ((w.alloc (.cells #[.int .i64 f1, .int .i64 d1, .int .i64 m1, .int .i64 f2, .int .i64 d2, .int .i64 m2] 72)).heap[w.heap.size]? = some (.cells #[.int .i64 f1, .int .i64 d1, .int .i64 m1, .int .i64 f2, .int .i64 d2, .int .i64 m2] 72 (0, 0))) := Lib.hid (heap_alloc_new w _)
  have HAS : Hid ((w.alloc (.cells #[.int .i64 f1, .int .i64 d1, .int .i64 m1, .int .i64 f2, .int .i64 d2, .int .i64 m2] 72)).heap.size = w.heap.size + 1) := Lib.hid (by simp)
  clear hr hlen
  go_enter Try.func11, Try.ntmps11
  go_upto_region 3 with (go_at_call 41; refine (awake_calls _).mono ?_; rintro e w1 ⟨rfl, HB⟩)
  obtain ⟨b0, hb0⟩ : ∃ b0, w.heap.size = b0 := ⟨_, rfl⟩
  have HZ : Hid (Below b0 w w1) := Lib.hid (by rw [← hb0]; exact HA0.out.trans (HB.out.mono HA0.out.size))
  have HE := Lib.hid (HR.out.later HB.out)
  have hblk : w1.heap[b0]? = some (.cells #[.int .i64 f1, .int .i64 d1, .int .i64 m1, .int .i64 f2, .int .i64 d2, .int .i64 m2] 72 (0, 0)) := by
    rw [← hb0, HB.out.block _ (by rw [HAS.out]; omega)]; exact HA1.out
  have HBK := Lib.hid hblk
  have hs1 : b0 < w1.heap.size := by have := HB.out.size; rw [HAS.out] at this; omega
  have hs0 : b0 ≤ w1.heap.size := by omega
  have HB0 := Lib.hid hb0
  rw [hb0]
  clear HR HA0 HA1 HAS HB hblk hb0
  by_cases hbig : 120 < len ∨ 60 < n
  · go_wp2_with (go_at_call 42; refine (built_many n g _ l0 _ HE.out (by rw [HL.out]; exact hbig)).mono ?_; rintro e w2 ⟨rfl, HB2⟩)
    go_ret
    exact ⟨rfl, Lib.hid (by rw [HB0.out]; exact HZ.out.trans (HB2.out.mono hs0))⟩
  by_cases hw : wrg n l0 = -2
  case neg =>
    have HW := Lib.hid hw
    clear hw
    go_wp2_with (go_at_call 42; refine (built_bad n g _ l0 _ HE.out (by rw [HL.out]; omega) (by omega) HW.out).mono ?_; rintro e w2 ⟨rfl, HB2⟩)
    go_ret
    exact ⟨rfl, Lib.hid (by rw [HB0.out]; exact HZ.out.trans (HB2.out.mono hs0))⟩
  case pos =>
    obtain ⟨n0, n1, -, -⟩ := wrg_ok.1 hw
    obtain ⟨N, rfl⟩ := Int.eq_ofNat_of_zero_le n0
    have HW := Lib.hid hw
    have nn : N ≤ 60 := by omega
    have ll : len ≤ 120 := by omega
    clear hw n0 n1 hbig
    go_upto_region 6 with (go_at_call 42; refine (built_ok N g _ l0 _ HE.out (by rw [HL.out]; omega) nn HW.out).mono ?_; rintro e w2 ⟨p, bb, tv, rfl, HC, HB2⟩)
    have hz2 := HB2.out.size
    have hblk : w2.heap[b0]? = some (.cells #[.int .i64 f1, .int .i64 d1, .int .i64 m1, .int .i64 f2, .int .i64 d2, .int .i64 m2] 72 (0, 0)) := (HB2.out.block b0 hs1).trans HBK.out
    have c0 : w2.cell? ⟨b0, 0, none⟩ = some (.int .i64 f1) := by simp only [World.cell?, hblk]; rfl
    have c1 : w2.cell? ⟨b0, 1, none⟩ = some (.int .i64 d1) := by simp only [World.cell?, hblk]; rfl
    have c2 : w2.cell? ⟨b0, 2, none⟩ = some (.int .i64 m1) := by simp only [World.cell?, hblk]; rfl
    have c3 : w2.cell? ⟨b0, 3, none⟩ = some (.int .i64 f2) := by simp only [World.cell?, hblk]; rfl
    have c4 : w2.cell? ⟨b0, 4, none⟩ = some (.int .i64 d2) := by simp only [World.cell?, hblk]; rfl
    have c5 : w2.cell? ⟨b0, 5, none⟩ = some (.int .i64 m2) := by simp only [World.cell?, hblk]; rfl
    have HZ2 := Lib.hid (HZ.out.trans (HB2.out.mono hs0))
    clear hblk HZ HB2 HBK HE
    go_cut [8, 9] (fun x y w' => ∃ ba bq : Nat, x = .pointer (some ⟨ba, 0, none⟩) ∧ y = .pointer (some ⟨bq, 0, none⟩) ∧ Hid (AB w' ba f1 d1 m1) ∧ Hid (AB w' bq f2 d2 m2) ∧ Hid (Below w2.heap.size w2 w'))
    case first =>
      go_region_held3 (fun w' => w'.cell? ⟨b0, 0, none⟩ = some (.int .i64 f1) ∧ w'.cell? ⟨b0, 1, none⟩ = some (.int .i64 d1) ∧ w'.cell? ⟨b0, 2, none⟩ = some (.int .i64 m1) ∧ w'.cell? ⟨b0, 3, none⟩ = some (.int .i64 f2) ∧ w'.cell? ⟨b0, 4, none⟩ = some (.int .i64 d2) ∧ w'.cell? ⟨b0, 5, none⟩ = some (.int .i64 m2)) (first | (go_keep; done) | exact ⟨c0, c1, c2, c3, c4, c5⟩) (fail)
      all_goals (go_wp2_with fail; go_meet)
      · exact ⟨_, _, rfl, rfl, two_asks w2 f1 d1 m1 f2 d2 m2⟩
      · exact ⟨_, _, rfl, rfl, (two_asks w2 f2 d2 m2 f1 d1 m1).2.1, (two_asks w2 f2 d2 m2 f1 d1 m1).1, (two_asks w2 f2 d2 m2 f1 d1 m1).2.2⟩
    case rest =>
      obtain ⟨ba, bq, rfl, rfl, HA1, HA2, HB3⟩ := hcut
      rename World => w3
      have HZ3 := Lib.hid (HZ2.out.trans (HB3.out.mono (by omega)))
      have hs3 : b0 ≤ w3.heap.size := by have := HB3.out.size; omega
      have HC3 := Lib.hid (HC.out.later HB3.out)
      have HT3 : Hid (Below w3.heap.size w3 w3) := Lib.hid (Below.refl _ _)
      obtain ⟨x0, x1, x2⟩ := HA1.out.cells
      obtain ⟨y0, y1, y2⟩ := HA2.out.cells
      clear c0 c1 c2 c3 c4 c5 HC HZ2 HB3
      by_cases hp4 : 0 ≤ d1 ∧ 1 ≤ m1 ∧ 0 ≤ f1 ∧ f1 < (N : Int)
      case neg =>
        have HP4 := Lib.hid hp4
        clear hp4
        go_wp2_with (first
          | (go_at_call 43; (with_reducible show Calls Try.prog 43 #[pV p, .int .i64 f1, .int .i64 d1, .int .i64 m1] _ _); refine (search_err (HC3.out.later HT3.out) f1 d1 m1 HP4.out).mono ?_; rintro e w4 ⟨k4, rfl, HB4⟩; have HT4 := Lib.hid (HT3.out.trans (HB4.out.mono HT3.out.size)); obtain ⟨x0, x1, x2⟩ := (HA1.out.later HT4.out).cells; obtain ⟨y0, y1, y2⟩ := (HA2.out.later HT4.out).cells)
          | (go_at_call 43; (with_reducible show Calls Try.prog 43 #[pV p, .int .i64 f1, .int .i64 d1, .int .i64 m2] _ _); refine (search_weak (HC3.out.later HT4.out) f1 d1 m2).mono ?_; rintro e w5 ⟨v5, ev5, rfl, HB5⟩; have HT5 := Lib.hid (HT4.out.trans (HB5.out.mono HT4.out.size)); obtain ⟨x0, x1, x2⟩ := (HA1.out.later HT5.out).cells; obtain ⟨y0, y1, y2⟩ := (HA2.out.later HT5.out).cells)
          | (go_at_call 43; (with_reducible show Calls Try.prog 43 #[pV p, .int .i64 f1, .int .i64 d2, .int .i64 m1] _ _); refine (search_weak (HC3.out.later HT5.out) f1 d2 m1).mono ?_; rintro e w6 ⟨v6, ev6, rfl, HB6⟩; have HT6 := Lib.hid (HT5.out.trans (HB6.out.mono HT5.out.size)); obtain ⟨x0, x1, x2⟩ := (HA1.out.later HT6.out).cells; obtain ⟨y0, y1, y2⟩ := (HA2.out.later HT6.out).cells))
        go_ret
        exact ⟨rfl, Lib.hid (by rw [HB0.out]; exact HZ3.out.trans (HT6.out.mono hs3))⟩
      by_cases hp5 : 0 ≤ d1 ∧ 1 ≤ m2 ∧ 0 ≤ f1 ∧ f1 < (N : Int)
      case neg =>
        have HP5 := Lib.hid hp5
        have HK4 : Hid (∀ W, Below w3.heap.size w3 W → Calls Try.prog 43 #[pV p, .int .i64 f1, .int .i64 d1, .int .i64 m1] W fun e w' => ∃ v, e = .returned (.tuple #[v, .nilIface]) ∧ Hid (MO w' W.heap.size v (mts (bfs N (tgt (nrm l0)) d1 m1 f1))) ∧ Hid (Below W.heap.size W w')) := Lib.hid (fun W h => search_ok (HC3.out.later h) f1 d1 m1 hp4.1 hp4.2.1 hp4.2.2)
        generalize mts (bfs N (tgt (nrm l0)) d1 m1 f1) = X4 at HK4
        obtain ⟨n4, hn4⟩ : ∃ n, X4.length = n := ⟨_, rfl⟩
        have HN4 := Lib.hid hn4
        clear hp5 hp4 hn4
        go_wp2_with (first
          | (go_at_call 43; (with_reducible show Calls Try.prog 43 #[pV p, .int .i64 f1, .int .i64 d1, .int .i64 m1] _ _); refine (HK4.out _ HT3.out).mono ?_; rintro e w4 ⟨v4, rfl, HX4, HB4⟩; obtain ⟨A4, c4', hv, hle4, hcm4⟩ := id HX4.out.shape; rw [HN4.out] at hv hle4; subst hv; have HT4 := Lib.hid (HT3.out.trans (HB4.out.mono HT3.out.size)); obtain ⟨x0, x1, x2⟩ := (HA1.out.later HT4.out).cells; obtain ⟨y0, y1, y2⟩ := (HA2.out.later HT4.out).cells)
          | (go_at_call 43; (with_reducible show Calls Try.prog 43 #[pV p, .int .i64 f1, .int .i64 d1, .int .i64 m2] _ _); refine (search_err (HC3.out.later HT4.out) f1 d1 m2 HP5.out).mono ?_; rintro e w5 ⟨k5, rfl, HB5⟩; have HT5 := Lib.hid (HT4.out.trans (HB5.out.mono HT4.out.size)); obtain ⟨x0, x1, x2⟩ := (HA1.out.later HT5.out).cells; obtain ⟨y0, y1, y2⟩ := (HA2.out.later HT5.out).cells)
          | (go_at_call 43; (with_reducible show Calls Try.prog 43 #[pV p, .int .i64 f1, .int .i64 d2, .int .i64 m1] _ _); refine (search_weak (HC3.out.later HT5.out) f1 d2 m1).mono ?_; rintro e w6 ⟨v6, ev6, rfl, HB6⟩; have HT6 := Lib.hid (HT5.out.trans (HB6.out.mono HT5.out.size)); obtain ⟨x0, x1, x2⟩ := (HA1.out.later HT6.out).cells; obtain ⟨y0, y1, y2⟩ := (HA2.out.later HT6.out).cells))
        go_ret
        exact ⟨rfl, Lib.hid (by rw [HB0.out]; exact HZ3.out.trans (HT6.out.mono hs3))⟩
      by_cases hp6 : 0 ≤ d2 ∧ 1 ≤ m1 ∧ 0 ≤ f1 ∧ f1 < (N : Int)
      case neg =>
        have HP6 := Lib.hid hp6
        have HK4 : Hid (∀ W, Below w3.heap.size w3 W → Calls Try.prog 43 #[pV p, .int .i64 f1, .int .i64 d1, .int .i64 m1] W fun e w' => ∃ v, e = .returned (.tuple #[v, .nilIface]) ∧ Hid (MO w' W.heap.size v (mts (bfs N (tgt (nrm l0)) d1 m1 f1))) ∧ Hid (Below W.heap.size W w')) := Lib.hid (fun W h => search_ok (HC3.out.later h) f1 d1 m1 hp4.1 hp4.2.1 hp4.2.2)
        have HK5 : Hid (∀ W, Below w3.heap.size w3 W → Calls Try.prog 43 #[pV p, .int .i64 f1, .int .i64 d1, .int .i64 m2] W fun e w' => ∃ v, e = .returned (.tuple #[v, .nilIface]) ∧ Hid (MO w' W.heap.size v (mts (bfs N (tgt (nrm l0)) d1 m2 f1))) ∧ Hid (Below W.heap.size W w')) := Lib.hid (fun W h => search_ok (HC3.out.later h) f1 d1 m2 hp5.1 hp5.2.1 hp5.2.2)
        generalize mts (bfs N (tgt (nrm l0)) d1 m1 f1) = X4 at HK4
        generalize mts (bfs N (tgt (nrm l0)) d1 m2 f1) = X5 at HK5
        obtain ⟨n4, hn4⟩ : ∃ n, X4.length = n := ⟨_, rfl⟩
        have HN4 := Lib.hid hn4
        obtain ⟨n5, hn5⟩ : ∃ n, X5.length = n := ⟨_, rfl⟩
        have HN5 := Lib.hid hn5
        clear hp6 hp5 hp4 hn4 hn5
        go_wp2_with (first
          | (go_at_call 43; (with_reducible show Calls Try.prog 43 #[pV p, .int .i64 f1, .int .i64 d1, .int .i64 m1] _ _); refine (HK4.out _ HT3.out).mono ?_; rintro e w4 ⟨v4, rfl, HX4, HB4⟩; obtain ⟨A4, c4', hv, hle4, hcm4⟩ := id HX4.out.shape; rw [HN4.out] at hv hle4; subst hv; have HT4 := Lib.hid (HT3.out.trans (HB4.out.mono HT3.out.size)); obtain ⟨x0, x1, x2⟩ := (HA1.out.later HT4.out).cells; obtain ⟨y0, y1, y2⟩ := (HA2.out.later HT4.out).cells)
          | (go_at_call 43; (with_reducible show Calls Try.prog 43 #[pV p, .int .i64 f1, .int .i64 d1, .int .i64 m2] _ _); refine (HK5.out _ HT4.out).mono ?_; rintro e w5 ⟨v5, rfl, HX5, HB5⟩; obtain ⟨A5, c5', hv, hle5, hcm5⟩ := id HX5.out.shape; rw [HN5.out] at hv hle5; subst hv; have HT5 := Lib.hid (HT4.out.trans (HB5.out.mono HT4.out.size)); obtain ⟨x0, x1, x2⟩ := (HA1.out.later HT5.out).cells; obtain ⟨y0, y1, y2⟩ := (HA2.out.later HT5.out).cells)
          | (go_at_call 43; (with_reducible show Calls Try.prog 43 #[pV p, .int .i64 f1, .int .i64 d2, .int .i64 m1] _ _); refine (search_err (HC3.out.later HT5.out) f1 d2 m1 HP6.out).mono ?_; rintro e w6 ⟨k6, rfl, HB6⟩; have HT6 := Lib.hid (HT5.out.trans (HB6.out.mono HT5.out.size)); obtain ⟨x0, x1, x2⟩ := (HA1.out.later HT6.out).cells; obtain ⟨y0, y1, y2⟩ := (HA2.out.later HT6.out).cells))
        go_ret
        exact ⟨rfl, Lib.hid (by rw [HB0.out]; exact HZ3.out.trans (HT6.out.mono hs3))⟩
      have HK4 : Hid (∀ W, Below w3.heap.size w3 W → Calls Try.prog 43 #[pV p, .int .i64 f1, .int .i64 d1, .int .i64 m1] W fun e w' => ∃ v, e = .returned (.tuple #[v, .nilIface]) ∧ Hid (MO w' W.heap.size v (mts (bfs N (tgt (nrm l0)) d1 m1 f1))) ∧ Hid (Below W.heap.size W w')) := Lib.hid (fun W h => search_ok (HC3.out.later h) f1 d1 m1 hp4.1 hp4.2.1 hp4.2.2)
      have HK5 : Hid (∀ W, Below w3.heap.size w3 W → Calls Try.prog 43 #[pV p, .int .i64 f1, .int .i64 d1, .int .i64 m2] W fun e w' => ∃ v, e = .returned (.tuple #[v, .nilIface]) ∧ Hid (MO w' W.heap.size v (mts (bfs N (tgt (nrm l0)) d1 m2 f1))) ∧ Hid (Below W.heap.size W w')) := Lib.hid (fun W h => search_ok (HC3.out.later h) f1 d1 m2 hp5.1 hp5.2.1 hp5.2.2)
      have HK6 : Hid (∀ W, Below w3.heap.size w3 W → Calls Try.prog 43 #[pV p, .int .i64 f1, .int .i64 d2, .int .i64 m1] W fun e w' => ∃ v, e = .returned (.tuple #[v, .nilIface]) ∧ Hid (MO w' W.heap.size v (mts (bfs N (tgt (nrm l0)) d2 m1 f1))) ∧ Hid (Below W.heap.size W w')) := Lib.hid (fun W h => search_ok (HC3.out.later h) f1 d2 m1 hp6.1 hp6.2.1 hp6.2.2)
      have HLAW := Lib.hid (bounds_law N (tgt (nrm l0)) f1 d1 m1 d2 m2 hp4 (fun v hv x hx => by have := HC3.out.ok _ (mem_tgt.1 hx); unfold okE at this; exact ⟨this.2.1, this.2.2.2⟩))
      have hl4 : (mts (bfs N (tgt (nrm l0)) d1 m1 f1)).length ≤ 60 := Nat.le_trans HLAW.out.len nn
      generalize mts (bfs N (tgt (nrm l0)) d1 m1 f1) = X4 at HK4 HLAW hl4
      generalize mts (bfs N (tgt (nrm l0)) d1 m2 f1) = X5 at HK5 HLAW
      generalize mts (bfs N (tgt (nrm l0)) d2 m1 f1) = X6 at HK6 HLAW
      obtain ⟨n4, hn4⟩ : ∃ n, X4.length = n := ⟨_, rfl⟩
      have HN4 := Lib.hid hn4
      obtain ⟨n5, hn5⟩ : ∃ n, X5.length = n := ⟨_, rfl⟩
      have HN5 := Lib.hid hn5
      obtain ⟨n6, hn6⟩ : ∃ n, X6.length = n := ⟨_, rfl⟩
      have HN6 := Lib.hid hn6
      rw [hn4] at hl4
      have HD := Lib.hid (And.intro hp4 hp6)
      clear hp6 hp5 hp4 hn4 hn5 hn6
      go_upto_region 13 with (first
        | (go_at_call 43; (with_reducible show Calls Try.prog 43 #[pV p, .int .i64 f1, .int .i64 d1, .int .i64 m1] _ _); refine (HK4.out _ HT3.out).mono ?_; rintro e w4 ⟨v4, rfl, HX4, HB4⟩; obtain ⟨A4, c4', hv, hle4, hcm4⟩ := id HX4.out.shape; rw [HN4.out] at hv hle4; subst hv; have HT4 := Lib.hid (HT3.out.trans (HB4.out.mono HT3.out.size)); obtain ⟨x0, x1, x2⟩ := (HA1.out.later HT4.out).cells; obtain ⟨y0, y1, y2⟩ := (HA2.out.later HT4.out).cells)
        | (go_at_call 43; (with_reducible show Calls Try.prog 43 #[pV p, .int .i64 f1, .int .i64 d1, .int .i64 m2] _ _); refine (HK5.out _ HT4.out).mono ?_; rintro e w5 ⟨v5, rfl, HX5, HB5⟩; obtain ⟨A5, c5', hv, hle5, hcm5⟩ := id HX5.out.shape; rw [HN5.out] at hv hle5; subst hv; have HT5 := Lib.hid (HT4.out.trans (HB5.out.mono HT4.out.size)); obtain ⟨x0, x1, x2⟩ := (HA1.out.later HT5.out).cells; obtain ⟨y0, y1, y2⟩ := (HA2.out.later HT5.out).cells)
        | (go_at_call 43; (with_reducible show Calls Try.prog 43 #[pV p, .int .i64 f1, .int .i64 d2, .int .i64 m1] _ _); refine (HK6.out _ HT5.out).mono ?_; rintro e w6 ⟨v6, rfl, HX6, HB6⟩; obtain ⟨A6, c6', hv, hle6, hcm6⟩ := id HX6.out.shape; rw [HN6.out] at hv hle6; subst hv; have HT6 := Lib.hid (HT5.out.trans (HB6.out.mono HT5.out.size)); obtain ⟨x0, x1, x2⟩ := (HA1.out.later HT6.out).cells; obtain ⟨y0, y1, y2⟩ := (HA2.out.later HT6.out).cells))
      obtain ⟨g4, ⟨o4, a4, e4, hv4, -, -, h4⟩, -⟩ := HX4.out.reads
      obtain ⟨g5, hg5, -⟩ := HX5.out.reads
      obtain ⟨g6, hg6, -⟩ := HX6.out.reads
      have HG4 : Hid (MR w6 g4 (.slice A4 n4 c4') X4) := Lib.hid ((MR.later (MR.later ⟨o4, a4, e4, hv4, by rw [HN4.out] at *; injection hv4 with _ _ h; omega, by injection hv4 with _ _ h; omega, h4⟩ HB5.out) HB6.out))
      have HG5 : Hid (MR w6 g5 (.slice A5 n5 c5') X5) := Lib.hid (hg5.later HB6.out)
      have HG6 := Lib.hid hg6
      clear hv4 h4 hg5 hg6
      have HZ6 := Lib.hid (HZ3.out.trans (HT6.out.mono hs3))
      have hs6 : b0 ≤ w6.heap.size := by have := HT6.out.size; omega
      have HA1' := Lib.hid (HA1.out.later HT6.out)
      have HA2' := Lib.hid (HA2.out.later HT6.out)
      have HZ0 : Hid (Below w6.heap.size w6 w6) := Lib.hid (Below.refl _ _)
      clear x0 x1 x2 y0 y1 y2 HT3 HT4 HT5 HT6 HB4 HB5 HB6 HX4 HX5 HX6 HK4 HK5 HK6 HA1 HA2 HZ3 hs3
      go_loopw [78] (fun x wz => ∃ (i : Nat), x = .int .i64 (i : Int) ∧ i ≤ n4 ∧ Hid (Below w6.heap.size w6 wz)) (fun x _ => n4 - (intOf x).toNat)
      case atStart => exact ⟨0, rfl, Nat.zero_le _, HZ0⟩
      case round =>
        clear HZ0
        obtain ⟨i, rfl, hi, HZ0⟩ := hrel
        by_cases hlt : i < n4
        · obtain ⟨o, A', c', hv', -, -, hrd⟩ := HG4.out.later HZ0.out
          rw [HN4.out] at hv' hrd
          injection hv' with hv1 _ hv2
          subst hv1 hv2
          obtain ⟨rfl, -, hcell⟩ := hrd (by omega)
          obtain ⟨q0, q1⟩ := hcell i hlt
          obtain ⟨xcap, -⟩ := HLAW.out.cap i (by rw [HN4.out]; exact hlt)
          obtain ⟨xn, hxn⟩ : ∃ x, (X4.getD i (0, 0)).1 = x := ⟨_, rfl⟩
          obtain ⟨xf, hxf⟩ : ∃ x, (X4.getD i (0, 0)).2 = x := ⟨_, rfl⟩
          rw [hxn] at q0
          rw [hxf] at q1 xcap
          obtain ⟨x0, x1, x2⟩ := (HA1'.out.later HZ0.out).cells
          have i0 : (0 : Int) ≤ (i : Int) := by omega
          have i1 : (i : Int) < (n4 : Int) := by omega
          have gd : ¬ xf > d1 := by omega
          clear hrd
          have HCL := Lib.hid hcell
          clear hcell
          go_upto_region 15 with (fail)
          have HB7a : Hid (Below wr.heap.size wr (wr.alloc (.cells #[.int .i64 xn, .int .i64 xf] 78))) := Lib.hid ((Below.refl _ _).alloc (Nat.le_refl _) _)
          have HM7 : Hid ((wr.alloc (.cells #[.int .i64 xn, .int .i64 xf] 78)).heap[wr.heap.size]? = some (.cells #[.int .i64 xn, .int .i64 xf] 78 (0, 0))) := Lib.hid (heap_alloc_new wr _)
          generalize wr.alloc (.cells #[.int .i64 xn, .int .i64 xf] 78) = W7 at HB7a HM7 ⊢
          have HB7 := Lib.hid (HZ0.out.trans (HB7a.out.mono HZ0.out.size))
          obtain ⟨bm, hbm⟩ : ∃ bm, wr.heap.size = bm := ⟨_, rfl⟩
          rw [hbm] at HM7 ⊢
          have m0' : W7.cell? ⟨bm, 0, none⟩ = some (.int .i64 xn) := cell_of_row W7 bm 0 _ _ _ HM7.out
          have m1' : W7.cell? ⟨bm, 1, none⟩ = some (.int .i64 xf) := cell_of_row W7 bm 1 _ _ _ HM7.out
          obtain ⟨x0', x1', x2'⟩ := (HA1'.out.later HB7.out).cells
          have HCELL : Hid (∀ j, j < n4 → W7.cell? ⟨g4, o + j * 2, none⟩ = some (.int .i64 (X4.getD j (0, 0)).1) ∧ W7.cell? ⟨g4, o + j * 2 + 1, none⟩ = some (.int .i64 (X4.getD j (0, 0)).2)) := Lib.hid (by
            intro j hj
            have e := HB7a.out.block g4 (World.block_lt_of_cell? _ _ (HCL.out j hj).1)
            have e2 : ∀ k, W7.cell? ⟨g4, k, none⟩ = wr.cell? ⟨g4, k, none⟩ := fun k => by simp only [World.cell?, e]
            exact ⟨(e2 _).trans (HCL.out j hj).1, (e2 _).trans (HCL.out j hj).2⟩)
          clear q0 q1 x0 x1 x2 HB7a hbm
          go_cut [78, 118] from 78 to 133 (fun a b w' => a = .int .i64 (i : Int) ∧ b = .bool false ∧ ∃ q, w' = W7.drewN q)
          case first =>
            by_cases hi0 : i = 0
            · have hn0 : ¬ (0 : Int) < (i : Int) := by omega
              have hn1 : ¬ 0 < i := by omega
              clear hi0
              have hdr : decide (d1 < xf) = false := decide_eq_false (by omega)
              go_big_quiet (fail)
              go_wp2_with fail
              go_meet
              exact ⟨rfl, rfl, _, rfl⟩
            · obtain ⟨j, hj⟩ : ∃ j, i = j + 1 := ⟨i - 1, by omega⟩
              have hp0 : (0 : Int) < (i : Int) := by omega
              have hp1 : 0 < i := by omega
              have hij : (i : Int) - 1 = (j : Int) := by omega
              obtain ⟨p0, p1⟩ := HCELL.out j (by omega)
              obtain ⟨st1, st2⟩ := HLAW.out.step j (by rw [HN4.out]; omega)
              rw [← hj, hxf] at st1 st2
              obtain ⟨pn, hpn⟩ : ∃ x, (X4.getD j (0, 0)).1 = x := ⟨_, rfl⟩
              obtain ⟨pf, hpf⟩ : ∃ x, (X4.getD j (0, 0)).2 = x := ⟨_, rfl⟩
              obtain ⟨-, pc0, pc1⟩ := HLAW.out.cap j (by rw [HN4.out]; omega)
              rw [hpn] at p0
              rw [hpf] at p1 st1 st2 pc0 pc1
              have j0 : (0 : Int) ≤ (j : Int) := by omega
              have j1 : (j : Int) < (n4 : Int) := by omega
              have hd1 : decide (xf < pf) = false := decide_eq_false (by omega)
              have hd2 : decide (d1 < xf) = false := decide_eq_false (by omega)
              have hd3 : decide (pf + 1 < xf) = false := decide_eq_false (by omega)
              clear hj hi0
              go_big_quiet (fail)
              go_wp2_with fail
              go_meet
              exact ⟨rfl, rfl, _, rfl⟩
          case rest =>
            obtain ⟨rfl, rfl, q, rfl⟩ := hcut
            have HB8 : Hid (Below w6.heap.size w6 (W7.drewN q)) := Lib.hid (HB7.out.trans ((Ed.drewN_below _ _ _)))
            have n0' : (W7.drewN q).cell? ⟨bm, 0, none⟩ = some (.int .i64 xn) := m0'
            have HM8 : Hid ((W7.drewN q).heap[bm]? = some (.cells #[.int .i64 xn, .int .i64 xf] 78 (0, 0))) := HM7
            have hic : i ≤ c4' := by omega
            have HC8 : ∀ j, j < n4 → (W7.drewN q).cell? ⟨g4, o + j * 2, none⟩ = some (.int .i64 (X4.getD j (0, 0)).1) ∧ (W7.drewN q).cell? ⟨g4, o + j * 2 + 1, none⟩ = some (.int .i64 (X4.getD j (0, 0)).2) := HCELL.out
            have HXN : Hid ((X4.getD i (0, 0)).1 = xn) := Lib.hid hxn
            have hz8 : bm < (W7.drewN q).heap.size := World.block_lt_of_cell? _ _ n0'
            clear m0' m1' x0' x1' x2' HB7 HM7 gd xcap HCELL HCL hxn hxf
            generalize W7.drewN q = W8 at HB8 HM8 HC8 n0' hz8 ⊢
            have HCE8 := Lib.hid HC8
            clear HC8
            have HZ8 : Hid (Below W8.heap.size W8 W8) := Lib.hid (Below.refl _ _)
            go_upto_region 18 with (fail)
            go_loopw [123] (fun x wz => ∃ (k : Nat), x = .int .i64 (k : Int) ∧ k ≤ i ∧ Hid (Below W8.heap.size W8 wz)) (fun x _ => i - (intOf x).toNat)
            case atStart => exact ⟨0, rfl, Nat.zero_le _, HZ8⟩
            case round =>
              clear HZ8
              obtain ⟨k, rfl, hk, HZ8⟩ := hrel
              rename World => wz
              by_cases hlk : k < i
              · obtain ⟨q0, q1⟩ := HCE8.out k (by omega)
                have e := HZ8.out.block g4 (World.block_lt_of_cell? _ _ q0)
                have e1 := HZ8.out.block bm hz8
                have r0 : wz.cell? ⟨g4, o + k * 2, none⟩ = some (.int .i64 (X4.getD k (0, 0)).1) := by rw [← q0]; simp only [World.cell?, e]
                have r1 : wz.cell? ⟨g4, o + k * 2 + 1, none⟩ = some (.int .i64 (X4.getD k (0, 0)).2) := by rw [← q1]; simp only [World.cell?, e]
                have n0'' : wz.cell? ⟨bm, 0, none⟩ = some (.int .i64 xn) := by rw [← n0']; simp only [World.cell?, e1]
                have hl : ∀ ob, (wz.alloc ob).cell? ⟨bm, 0, none⟩ = some (.int .i64 xn) := fun ob => Go.Lib.cell?_alloc_some ob n0''
                have hne := HLAW.out.once k i hlk (by rw [HN4.out]; exact hlt)
                rw [HXN.out] at hne
                obtain ⟨kn, hkn⟩ : ∃ x, (X4.getD k (0, 0)).1 = x := ⟨_, rfl⟩
                obtain ⟨kf, hkf⟩ : ∃ x, (X4.getD k (0, 0)).2 = x := ⟨_, rfl⟩
                rw [hkn] at r0 hne
                rw [hkf] at r1
                have k0 : (0 : Int) ≤ (k : Int) := by omega
                have k1 : (k : Int) < (i : Int) := by omega
                clear q0 q1 e e1 n0'' n0' hkn hkf
                go_wp2
                go_roundw
                case rel => exact ⟨k + 1, by go_num, by omega, Lib.hid (HZ8.out.alloc HZ8.out.size _)⟩
                case measure => simp [intOf]; omega
              · have HZ9 : Hid (Below w6.heap.size w6 wz) := Lib.hid (HB8.out.trans (HZ8.out.mono HB8.out.size))
                clear HZ8 HZ0
                go_wp2
                go_roundw
                case rel => exact ⟨i + 1, by go_num, by omega, HZ9⟩
                case measure => simp [intOf]; omega
        · obtain rfl : n4 = i := by omega
          clear hlt
          obtain ⟨x0, x1, x2⟩ := (HA1'.out.later HZ0.out).cells
          obtain ⟨y0, y1, y2⟩ := (HA2'.out.later HZ0.out).cells
          go_upto_region 25 with (fail)
          have hfew := HLAW.out.few
          rw [HN4.out] at hfew
          obtain ⟨u, hu⟩ : ∃ u, min n4 n5 = u := ⟨_, rfl⟩
          obtain ⟨v, hv⟩ : ∃ v, min n4 n6 = v := ⟨_, rfl⟩
          have eu : min (n4 : Int) (n5 : Int) = (u : Int) := by omega
          have ev : min (n4 : Int) (n6 : Int) = (v : Int) := by omega
          rw [eu, ev]
          have HP1 : Hid (X4.take u = X5.take u) := Lib.hid (by have := HLAW.out.pre1; rw [HN4.out, HN5.out, hu] at this; exact this)
          have HP2 : Hid (X4.take v = X6.take v) := Lib.hid (by have := HLAW.out.pre2; rw [HN4.out, HN6.out, hv] at this; exact this)
          have HQ1 : Hid (∀ n, Calls Try.prog 44 #[.slice A4 u c4', .slice A5 u c5'] (wr.drewN n) fun e w' => e = .returned (.bool true) ∧ ∃ m, w' = wr.drewN m) := Lib.hid (fun n => same_true ((HG4.out.later HZ0.out).take u (by omega)) ((HG5.out.later HZ0.out).take u (by omega)) HP1.out n)
          have HQ2 : Hid (∀ n, Calls Try.prog 44 #[.slice A4 v c4', .slice A6 v c6'] (wr.drewN n) fun e w' => e = .returned (.bool true) ∧ ∃ m, w' = wr.drewN m) := Lib.hid (fun n => same_true ((HG4.out.later HZ0.out).take v (by omega)) ((HG6.out.later HZ0.out).take v (by omega)) HP2.out n)
          have hu4 : (u : Int) ≤ (c4' : Int) := by omega
          have hu5 : (u : Int) ≤ (c5' : Int) := by omega
          have hv4 : (v : Int) ≤ (c4' : Int) := by omega
          have hv6 : (v : Int) ≤ (c6' : Int) := by omega
          have nu4 : u ≤ c4' := by omega
          have nu5 : u ≤ c5' := by omega
          have nv4 : v ≤ c4' := by omega
          have nv6 : v ≤ c6' := by omega
          have HL1 : Hid (¬ m2 < m1 → n4 ≤ n5) := Lib.hid (fun h => by have := HLAW.out.len1 (by omega); rw [HN4.out, HN5.out] at this; exact this)
          have HL2 : Hid (¬ d2 < d1 → n4 ≤ n6) := Lib.hid (fun h => by have := HLAW.out.len2 (by omega); rw [HN4.out, HN6.out] at this; exact this)
          clear eu ev hu hv hle4 hle5 hle6 hcm4 hcm5 hcm6
          by_cases g1 : m2 < m1
          · by_cases g2 : d2 < d1
            · go_big_quiet (first | (go_at_call 44; (with_reducible show Calls Try.prog 44 #[.slice A4 u c4', .slice A5 u c5'] _ _); exact HQ1.out _) | (go_at_call 44; exact HQ2.out _))
              go_wp2
              go_ret
              exact ⟨rfl, Lib.hid (by rw [HB0.out]; exact (HZ6.out.trans (HZ0.out.mono hs6)).trans ((Ed.drewN_below _ _ _)))⟩
            · have s6 := HL2.out g2
              have s6' : (n4 : Int) ≤ (n6 : Int) := by omega
              go_big_quiet (first | (go_at_call 44; (with_reducible show Calls Try.prog 44 #[.slice A4 u c4', .slice A5 u c5'] _ _); exact HQ1.out _) | (go_at_call 44; exact HQ2.out _))
              go_wp2
              go_ret
              exact ⟨rfl, Lib.hid (by rw [HB0.out]; exact (HZ6.out.trans (HZ0.out.mono hs6)).trans ((Ed.drewN_below _ _ _)))⟩
          · have s5 := HL1.out g1
            have s5' : (n4 : Int) ≤ (n5 : Int) := by omega
            by_cases g2 : d2 < d1
            · go_big_quiet (first | (go_at_call 44; (with_reducible show Calls Try.prog 44 #[.slice A4 u c4', .slice A5 u c5'] _ _); exact HQ1.out _) | (go_at_call 44; exact HQ2.out _))
              go_wp2
              go_ret
              exact ⟨rfl, Lib.hid (by rw [HB0.out]; exact (HZ6.out.trans (HZ0.out.mono hs6)).trans ((Ed.drewN_below _ _ _)))⟩
            · have s6 := HL2.out g2
              have s6' : (n4 : Int) ≤ (n6 : Int) := by omega
              go_big_quiet (first | (go_at_call 44; (with_reducible show Calls Try.prog 44 #[.slice A4 u c4', .slice A5 u c5'] _ _); exact HQ1.out _) | (go_at_call 44; exact HQ2.out _))
              go_wp2
              go_ret
              exact ⟨rfl, Lib.hid (by rw [HB0.out]; exact (HZ6.out.trans (HZ0.out.mono hs6)).trans ((Ed.drewN_below _ _ _)))⟩
theorem bounds_row (n : Int) (g : Nat) (v : Value) (l : List E2) (f1 d1 m1 f2 d2 m2 : Int) (w : World) (hn : (Lit.int .i64 n).wf = true) (hr : ER w g v l) (hb : ∀ e ∈ l, (-9223372036854775808 ≤ e.1 ∧ e.1 < 9223372036854775808) ∧ (-9223372036854775808 ≤ e.2 ∧ e.2 < 9223372036854775808))
    (hw : ((Lit.int .i64 f1).wf = true ∧ (Lit.int .i64 d1).wf = true ∧ (Lit.int .i64 m1).wf = true) ∧ (Lit.int .i64 f2).wf = true ∧ (Lit.int .i64 d2).wf = true ∧ (Lit.int .i64 m2).wf = true) :
    Calls Try.prog 11 #[.int .i64 n, v, .agg #[.int .i64 f1, .int .i64 d1, .int .i64 m1, .int .i64 f2, .int .i64 d2, .int .i64 m2]] w fun e w' => e = .returned (.bool true) ∧ Below w.heap.size w w' := by
  obtain ⟨A, c, rfl, -⟩ := er_form hr
  exact (bounds_walk n g A l.length c l f1 d1 m1 f2 d2 m2 w hr rfl (by have := bounds_i64 hw.1.2.2; omega)).mono fun _ _ h => ⟨h.1, h.2.out⟩
end Go.Proofs.Ythnpaiobjmneaaa.Ak
