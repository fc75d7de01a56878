/- ask: the reference's Steps. -/
import Derived.Test.YthnpaiobjmneaaaDoorAz
namespace Go.Proofs.YthnpaiobjmneaaaDoor.Ak
open Go.RowKit Go.Proofs.YthnpaiobjmneaaaDoor.Ed Go.Proofs.YthnpaiobjmneaaaDoor.Ro Go.Proofs.YthnpaiobjmneaaaDoor.Cs
set_option linter.unusedVariables false
set_option linter.unusedSimpArgs false
/-- what Steps answers -/
def stepsI : Option Nat → Int
  | some n => n
  | none => -1
/-- the ends of the first i edges that start in A -/
def Nx (l : List E2) (A X : List Int) (i : Nat) : Prop := X.length ≤ i ∧ ∀ v, v ∈ X ↔ ∃ j, j < i ∧ (l.getD j (0, 0)).1 ∈ A ∧ (l.getD j (0, 0)).2 = v
theorem Nx.start (l : List E2) (A : List Int) : Nx l A [] 0 := ⟨Nat.le_refl _, fun v => ⟨fun h => by simp at h, fun ⟨j, h, _⟩ => by omega⟩⟩
theorem Nx.skip {l : List E2} {A X : List Int} {i : Nat} (h : Nx l A X i) (hs : (l.getD i (0, 0)).1 ∉ A ∨ (l.getD i (0, 0)).2 ∈ X) : Nx l A X (i + 1) := by
  refine ⟨Nat.le_succ_of_le h.1, fun v => ⟨fun hv => ?_, ?_⟩⟩
  · obtain ⟨j, h1, h2⟩ := (h.2 v).1 hv
    exact ⟨j, by omega, h2⟩
  · rintro ⟨j, h1, h2, h3⟩
    by_cases e : j = i
    · subst e
      rcases hs with hs | hs
      · exact absurd h2 hs
      · rw [← h3]; exact hs
    · exact (h.2 v).2 ⟨j, by omega, h2, h3⟩
theorem Nx.put {l : List E2} {A X : List Int} {i : Nat} (h : Nx l A X i) (h1 : (l.getD i (0, 0)).1 ∈ A) : Nx l A (X ++ [(l.getD i (0, 0)).2]) (i + 1) := by
  refine ⟨by have := h.1; simp; omega, fun v => ?_⟩
  rw [List.mem_append, h.2 v]
  constructor
  · rintro (⟨j, a, b⟩ | hv)
    · exact ⟨j, by omega, b⟩
    · obtain rfl : v = (l.getD i (0, 0)).2 := by simpa using hv
      exact ⟨i, by omega, h1, rfl⟩
  · rintro ⟨j, a, b, c⟩
    by_cases e : j = i
    · subst e; exact .inr (by rw [List.mem_singleton]; exact c.symm)
    · exact .inl ⟨j, by omega, b, c⟩
theorem Nx.walk {l : List E2} {A X : List Int} {n : Nat} {fr : Int} (h : Nx l A X l.length) (hA : ∀ v, v ∈ A ↔ Wk (tgt l) n fr v) : ∀ v, v ∈ X ↔ Wk (tgt l) (n + 1) fr v := fun v => by
  rw [h.2 v]
  constructor
  · rintro ⟨j, h1, h2, h3⟩
    refine ⟨(l.getD j (0, 0)).1, (hA _).1 h2, mem_tgt.2 ?_⟩
    rw [← h3, List.getD_eq_getElem?_getD, List.getElem?_eq_getElem h1]
    exact List.getElem_mem h1
  · rintro ⟨c, h1, h2⟩
    obtain ⟨j, hj, e⟩ := List.getElem_of_mem (mem_tgt.1 h2)
    refine ⟨j, hj, ?_⟩
    rw [List.getD_eq_getElem?_getD, List.getElem?_eq_getElem hj]
    simp only [Option.getD_some, e]
    exact ⟨(hA c).2 h1, trivial⟩
set_option maxHeartbeats 4000000 in
set_option maxRecDepth 100000 in
theorem steps_calls (g : Nat) (v : Value) (l : List E2) (N : Nat) (fr tz : Int) (w : World) (h : ER w g v l) (hl : l.length ≤ 20000) (hN : N ≤ 60) (r : Option Nat) (hr : FarIs (tgt l) fr tz r) (hrN : ∀ n, r = some n → n ≤ N) :
    Calls Tryd.prog 41 #[v, .int .i64 (N : Int), .int .i64 fr, .int .i64 tz] w fun e w' => e = .returned (.int .i64 (stepsI r)) ∧ Hid (Below w.heap.size w w') := by
  have HE := Lib.hid h
  obtain ⟨A, c, rfl, -⟩ := er_form h
  obtain ⟨ln, hln⟩ : ∃ ln, l.length = ln := ⟨_, rfl⟩
  rw [hln] at HE hl ⊢
  have HL := Lib.hid hln
  have HR := Lib.hid hr
  have HRN := Lib.hid hrN
  have HO0 : Hid (OJ (w.alloc (.cells #[.int .i64 fr] 3)) w.heap.size (.slice (some ⟨w.heap.size, 0, none⟩) 1 1) [fr]) := Lib.hid (World.ownsRow_lit w #[.int .i64 fr] 1 (Nat.le_refl _) (by simp only [maxLen]; omega) rfl)
  have HB0 : Hid (Below w.heap.size w (w.alloc (.cells #[.int .i64 fr] 3))) := Lib.hid ((Below.refl _ _).alloc (Nat.le_refl _) _)
  have HW0 : Hid (∀ v, v ∈ [fr] ↔ Wk (tgt l) 0 fr v) := Lib.hid (fun v => by simp [Wk, eq_comm])
  have hl7 : (ln : Int) ≤ 20000 := by omega
  clear h hln hr hrN
  go_enter Tryd.func41, Tryd.ntmps41
  go_upto_region 3 with (fail)
  go_loopw [9, 10] (fun u x wz => ∃ (n : Nat) (X : List Int), x = .int .i64 (n : Int) ∧ n ≤ N + 1 ∧ Hid (∀ v, v ∈ X ↔ Wk (tgt l) n fr v) ∧ Hid (∀ j, j < n → ¬ Wk (tgt l) j fr tz) ∧ Hid (OJ wz w.heap.size u X) ∧ Hid (Below w.heap.size w wz)) (fun _ x _ => N + 1 - (intOf x).toNat)
  case atStart => exact ⟨0, [fr], rfl, Nat.zero_le _, HW0, Lib.hid (fun j hj => by omega), HO0, HB0⟩
  case round =>
    clear HO0 HB0 HW0
    obtain ⟨n, X, rfl, hn, HX, HJ, HO, HB⟩ := hrel
    obtain ⟨uA, uc, rfl, -⟩ := id HO.out.shape
    obtain ⟨xn, hxn⟩ : ∃ xn, X.length = xn := ⟨_, rfl⟩
    rw [hxn] at HO ⊢
    have HXN := Lib.hid hxn
    clear hxn
    by_cases hle : n ≤ N
    · have b1 : (n : Int) ≤ (N : Int) := by omega
      obtain ⟨gx, hgx, -⟩ := HO.out.reads
      have HGX := Lib.hid hgx
      by_cases hm : tz ∈ X
      · have HHA : Hid (Calls Tryd.prog 33 #[.slice uA xn uc, .int .i64 tz] wr fun e w' => e = .returned (.bool true) ∧ wr = w') := Lib.hid (by
          have := rhas_calls gx _ X tz wr hgx
          rw [decide_eq_true hm] at this; exact this)
        have HRR : Hid (stepsI r = (n : Int)) := Lib.hid (by
          have hw := (HX.out tz).1 hm
          have hr := HR.out
          cases r with
          | none => exact absurd hw (hr n)
          | some k =>
            have h1 := hr.2 n hw
            have h2 : ¬ k < n := fun hk => HJ.out k hk hr.1
            show (k : Int) = (n : Int)
            omega)
        clear hgx hm
        go_wp2_with (go_at_call 33; refine HHA.out.mono ?_; rintro e w9 ⟨rfl, rfl⟩)
        go_ret
        exact ⟨by rw [HRR.out]; rfl, HB⟩
      · have HHA : Hid (Calls Tryd.prog 33 #[.slice uA xn uc, .int .i64 tz] wr fun e w' => e = .returned (.bool false) ∧ wr = w') := Lib.hid (by
          have := rhas_calls gx _ X tz wr hgx
          rw [decide_eq_false hm] at this; exact this)
        have HJ2 : Hid (∀ j, j < n + 1 → ¬ Wk (tgt l) j fr tz) := Lib.hid (fun j hj hw => by
          by_cases e : j = n
          · subst e; exact hm ((HX.out tz).2 hw)
          · exact HJ.out j (by omega) hw)
        have HP0 : Hid (OJ (wr.alloc (.cells #[] 3)) wr.heap.size (.slice (some ⟨wr.heap.size, 0, none⟩) 0 0) []) := Lib.hid (OJ.fresh wr _ (Nat.le_refl _))
        have HQ0 : Hid (Below wr.heap.size wr (wr.alloc (.cells #[] 3))) := Lib.hid ((Below.refl _ _).alloc (Nat.le_refl _) _)
        have HNX0 := Lib.hid (Nx.start l X)
        clear hgx hm
        go_upto_region 9 with (go_at_call 33; refine HHA.out.mono ?_; rintro e w9 ⟨rfl, rfl⟩)
        go_loopw [11, 12] (fun u x wz => ∃ (i : Nat) (Y : List Int), x = .int .i64 (i : Int) ∧ i ≤ ln ∧ Hid (Nx l X Y i) ∧ Hid (OJ wz wr.heap.size u Y) ∧ Hid (Below wr.heap.size wr wz)) (fun _ x _ => ln - (intOf x).toNat)
        case atStart => exact ⟨0, [], rfl, Nat.zero_le _, HNX0, HP0, HQ0⟩
        case round =>
          clear HP0 HQ0 HNX0 HHA
          obtain ⟨i, Y, rfl, hi, HN, HP, HQ⟩ := hrel
          rename World => wz
          have HBW := Lib.hid (HB.out.trans (HQ.out.mono HB.out.size))
          obtain ⟨yA, yc, rfl, -⟩ := id HP.out.shape
          obtain ⟨yn, hyn⟩ : ∃ yn, Y.length = yn := ⟨_, rfl⟩
          rw [hyn] at HP ⊢
          by_cases hlt : i < ln
          · obtain ⟨o', A', c', hv', -, -, hrd⟩ := HE.out.later HBW.out
            rw [HL.out] at hrd hv'
            injection hv' with hv1 _ hv2
            subst hv1 hv2
            obtain ⟨rfl, -, hcell⟩ := hrd (by omega)
            obtain ⟨q0, q1⟩ := hcell i hlt
            have HSK := Lib.hid (HN.out.skip)
            have HPU := Lib.hid (HN.out.put)
            have HYL : Hid (Y.length ≤ 20000) := Lib.hid (by have := HN.out.1; omega)
            obtain ⟨gy, hgy, -⟩ := HP.out.reads
            have HH1 := Lib.hid (rhas_calls gx _ X (l.getD i (0, 0)).1 wz (HGX.out.later HQ.out))
            have HH2 := Lib.hid (rhas_calls gy _ Y (l.getD i (0, 0)).2 wz hgy)
            obtain ⟨⟨x, y⟩, hxy⟩ : ∃ x, l.getD i (0, 0) = x := ⟨_, rfl⟩
            rw [hxy] at q0 q1 HSK HPU HH1 HH2
            simp only at q0 q1
            have i0 : (0 : Int) ≤ (i : Int) := by omega
            have i1 : (i : Int) < (ln : Int) := by omega
            have hbz := HQ.out.size
            have HOB := Lib.hid HP.out.base
            clear hcell hrd hxy hgy hyn
            by_cases h1 : x ∈ X
            · by_cases h2 : y ∈ Y
              · have HH1' : Hid (Calls Tryd.prog 33 #[.slice uA xn uc, .int .i64 x] wz fun e w' => e = .returned (.bool true) ∧ wz = w') := Lib.hid (by have := HH1.out; rw [decide_eq_true h1] at this; exact this)
                have HH2' : Hid (Calls Tryd.prog 33 #[.slice yA yn yc, .int .i64 y] wz fun e w' => e = .returned (.bool true) ∧ wz = w') := Lib.hid (by have := HH2.out; rw [decide_eq_true h2] at this; exact this)
                have HS2 : Hid (Nx l X Y (i + 1)) := Lib.hid (HSK.out (.inr h2))
                clear h1 h2 HH1 HH2 HSK HPU
                go_wp2_with (first
                  | (go_at_call 33; (with_reducible show Calls Tryd.prog 33 #[.slice uA xn uc, .int .i64 x] _ _); refine HH1'.out.mono ?_; rintro e w9 ⟨rfl, rfl⟩)
                  | (go_at_call 33; refine HH2'.out.mono ?_; rintro e w9 ⟨rfl, rfl⟩))
                go_roundw
                case rel => exact ⟨i + 1, Y, by go_num, by omega, HS2, HP, HQ⟩
                case measure => simp [intOf]; omega
              · have HH1' : Hid (Calls Tryd.prog 33 #[.slice uA xn uc, .int .i64 x] wz fun e w' => e = .returned (.bool true) ∧ wz = w') := Lib.hid (by have := HH1.out; rw [decide_eq_true h1] at this; exact this)
                have HH2' : Hid (Calls Tryd.prog 33 #[.slice yA yn yc, .int .i64 y] wz fun e w' => e = .returned (.bool false) ∧ wz = w') := Lib.hid (by have := HH2.out; rw [decide_eq_false h2] at this; exact this)
                have HS2 : Hid (Nx l X (Y ++ [y]) (i + 1)) := Lib.hid (HPU.out h1)
                clear h1 h2 HH1 HH2 HSK HPU
                go_wp2_with (first
                  | (go_at_call 33; (with_reducible show Calls Tryd.prog 33 #[.slice uA xn uc, .int .i64 x] _ _); refine HH1'.out.mono ?_; rintro e w9 ⟨rfl, rfl⟩)
                  | (go_at_call 33; refine HH2'.out.mono ?_; rintro e w9 ⟨rfl, rfl⟩)
                  | (at_builtin; refine OJ.app_on (base := wr.heap.size) (HP.out.alloc _) (JR.lit _ [y] _ rfl 1 rfl (by simp)) rfl _ _ rfl rfl rfl (by simp; omega) (by have := HYL.out; simp only [List.length_cons, List.length_nil]; omega) ?_; intro v1 w3 k1 k2 k3; have K1 := Lib.hid k1; have K2 := Lib.hid k2; clear k1 k2 k3))
                go_roundw
                case rel => exact ⟨i + 1, Y ++ [y], by go_num, by omega, HS2, K1, Lib.hid ((HQ.out.alloc hbz _).grown K2.out (by simp; omega) HOB.out)⟩
                case measure => simp [intOf]; omega
            · have HH1' : Hid (Calls Tryd.prog 33 #[.slice uA xn uc, .int .i64 x] wz fun e w' => e = .returned (.bool false) ∧ wz = w') := Lib.hid (by have := HH1.out; rw [decide_eq_false h1] at this; exact this)
              have HS2 : Hid (Nx l X Y (i + 1)) := Lib.hid (HSK.out (.inl h1))
              clear h1 HH1 HH2 HSK HPU
              go_wp2_with (go_at_call 33; refine HH1'.out.mono ?_; rintro e w9 ⟨rfl, rfl⟩)
              go_roundw
              case rel => exact ⟨i + 1, Y, by go_num, by omega, HS2, HP, HQ⟩
              case measure => simp [intOf]; omega
          · obtain rfl : ln = i := by omega
            have HW2 : Hid (∀ v, v ∈ Y ↔ Wk (tgt l) (n + 1) fr v) := Lib.hid (by
              have := HN.out
              rw [← HL.out] at this
              exact this.walk HX.out)
            have HOF := Lib.hid (HP.out.mono HB.out.size)
            clear hyn
            go_wp2
            go_roundw
            case rel => exact ⟨n + 1, Y, by go_num, by omega, HW2, HJ2, HOF, HBW⟩
            case measure => simp [intOf]; omega
    · obtain rfl : n = N + 1 := by omega
      have HRR : Hid (stepsI r = -1) := Lib.hid (by
        have hr := HR.out
        cases r with
        | none => rfl
        | some k => exact absurd hr.1 (HJ.out k (by have := HRN.out k rfl; omega)))
      go_wp2
      go_ret
      exact ⟨by rw [HRR.out]; rfl, HB⟩
end Go.Proofs.YthnpaiobjmneaaaDoor.Ak
