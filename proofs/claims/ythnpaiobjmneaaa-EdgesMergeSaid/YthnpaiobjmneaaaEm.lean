/- EdgesMerge, walked. -/
import Derived.Test.YthnpaiobjmneaaaEj
namespace Go.Proofs.Ythnpaiobjmneaaa.Ed
open Go.RowKit
set_option linter.unusedVariables false
set_option linter.unusedSimpArgs false

/-- at a step of a region that draws -/
theorem append_wp {P : Program} {o : Oper} {a : Act} {w : World} {K : Act → World → Prop} {Q : Exit → Act → World → Prop} {E : Prop} {ops : Array Oper} (hgd : o.guard = none) (s x : Operand) (t t' : TypeId)
    (ho : o.op = .call { callee := .builtin .append, args := #[s, x], argTypes := #[t, t'] }) {v y v1 : Value} {w1 : World} (hs : a.eval s = v) (hx : a.eval x = y)
    (hr : (Builtin.append_ #[t, t'] o.type #[v, y]).run P w = .ok v1 w1) (k : K (a.put o.dst v1) w1) : if Region.wanted o (yielded ops a.tmps) = true then Oper.wp P o a w K Q else E := by
  have hw : Region.wanted o (yielded ops a.tmps) = true := by simp [Region.wanted, hgd]
  rw [if_pos hw]
  unfold Oper.wp execOp
  simp only [ho, resolve, invoke, builtin, Sem.run_bind, Sem.run_pure, Result.andThen_ok, List.map_toArray, List.map_cons, List.map_nil, hs, hx, hr]
  exact k
section
variable {ops : Array Oper} {o : Oper} {a : Act} {w : World} {Q : Exit → Act → World → Prop}
theorem EO.append_wp {K : Act → World → Prop} {E : Prop} {base : Nat} {v : Value} {xs : List E2} (HO : EO w base v xs) {g : Nat} {y : Value} {ys : List E2} (HR : ER w g y ys) (hgd : o.guard = none) (s x : Operand)
    (ho : o.op = .call { callee := .builtin .append, args := #[s, x], argTypes := #[40, 40] }) (hs : a.eval s = v) (hx : a.eval x = y)
    (hbase : base ≤ w.heap.size) (hl : xs.length + ys.length ≤ 1000000000)
    (k : ∀ v1 w1, EO w1 base v1 (xs ++ ys) → w.grownBy w1 v.ownBlock → (v1.ownBlock = v.ownBlock ∨ v1.ownBlock = some w.heap.size) → K (a.put o.dst v1) w1) : if Region.wanted o (yielded ops a.tmps) = true then Oper.wp Try.prog o a w K Q else E := by
  obtain ⟨v1, w1, hr, k2, k3, k5⟩ := EO.append_run HO HR o.type hbase hl
  exact Ed.append_wp hgd s x _ _ ho hs hx hr (k v1 w1 k2 k3 k5)
end
/-- both lists, backward, with the first one between -/
def bak (l : List E2) : Nat → List E2
  | 0 => []
  | k + 1 => bak l k ++ [l.getD (l.length - 1 - k) (0, 0), l.getD 0 (0, 0)]
theorem bak_len (l : List E2) : ∀ k, (bak l k).length = 2 * k
  | 0 => rfl
  | k + 1 => by rw [bak, List.length_append, bak_len l k]; simp; omega
theorem mem_bak (l : List E2) : ∀ k, k ≤ l.length → ∀ x, x ∈ bak l k → x ∈ l
  | 0, _, x, h => by simp [bak] at h
  | k + 1, hk, x, h => by
    rw [bak, List.mem_append] at h
    rcases h with h | h
    · exact mem_bak l k (by omega) x h
    · simp only [List.mem_cons, List.not_mem_nil, or_false] at h
      rcases h with rfl | rfl
      · rw [List.getD_eq_getElem?_getD, List.getElem?_eq_getElem (by omega)]; exact List.getElem_mem _
      · rw [List.getD_eq_getElem?_getD, List.getElem?_eq_getElem (by omega)]; exact List.getElem_mem _
theorem bak_mem (l : List E2) : ∀ k, k ≤ l.length → ∀ j, l.length - k ≤ j → (h : j < l.length) → l[j] ∈ bak l k
  | 0, _, j, hj, h => by omega
  | k + 1, hk, j, hj, h => by
    rw [bak, List.mem_append]
    by_cases e : j = l.length - 1 - k
    · subst e
      right
      simp [List.getD_eq_getElem?_getD, h]
    · exact .inl (bak_mem l k (by omega) j (by omega) h)
theorem bak_all (l : List E2) (x : E2) : x ∈ bak l l.length ↔ x ∈ l := by
  constructor
  · exact mem_bak l _ (Nat.le_refl _) x
  · intro h
    obtain ⟨j, hj, rfl⟩ := List.mem_iff_getElem.1 h
    exact bak_mem l _ (Nat.le_refl _) j (by omega) hj
/-- whether a graph may be, by what edges there are -/
theorem wrg_mem {n : Int} {l m : List E2} (hl : l.length ≤ 20000) (hm : m.length ≤ 20000) (h : ∀ x, x ∈ l ↔ x ∈ m) : wrg n l = -2 ↔ wrg n m = -2 := by
  rw [wrg_ok, wrg_ok]
  constructor
  · rintro ⟨a, b, _, d⟩; exact ⟨a, b, hm, fun e he => d e ((h e).2 he)⟩
  · rintro ⟨a, b, _, d⟩; exact ⟨a, b, hl, fun e he => d e ((h e).1 he)⟩
theorem wrg_sub {n : Int} {l m : List E2} (hm : m.length ≤ 20000) (h : ∀ x, x ∈ m → x ∈ l) (hw : wrg n l = -2) : wrg n m = -2 := by
  rw [wrg_ok] at *
  obtain ⟨a, b, _, d⟩ := hw
  exact ⟨a, b, hm, fun e he => d e (h e he)⟩
set_option maxHeartbeats 4000000 in
set_option maxRecDepth 100000 in
theorem merge_walk (n : Int) (g1 g2 : Nat) (A1 A2 : Option Addr) (n1 c1 n2 c2 : Nat) (l m : List E2) (w : World) (hr1 : ER w g1 (.slice A1 n1 c1) l) (hn1 : l.length = n1) (hr2 : ER w g2 (.slice A2 n2 c2) m) (hn2 : m.length = n2) :
    Calls Try.prog 6 #[.int .i64 n, .slice A1 n1 c1, .slice A2 n2 c2] w fun e w' => e = .returned (.bool true) ∧ Hid (Below w.heap.size w w') := by
  have HR1 := Lib.hid hr1
  have HR2 := Lib.hid hr2
  have HN1 := Lib.hid hn1
  have HN2 := Lib.hid hn2
  have hc1 : n1 ≤ c1 ∧ c1 ≤ 9223372036854775807 := by
    obtain ⟨A', c', hv, h1, h2⟩ := er_shape hr1
    injection hv with _ _ hv
    subst hv
    rw [hn1] at h1
    exact ⟨h1, h2⟩
  have hc2 : n2 ≤ c2 ∧ c2 ≤ 9223372036854775807 := by
    obtain ⟨A', c', hv, h1, h2⟩ := er_shape hr2
    injection hv with _ _ hv
    subst hv
    rw [hn2] at h1
    exact ⟨h1, h2⟩
  obtain ⟨hc11, hc12⟩ := hc1
  obtain ⟨hc21, hc22⟩ := hc2
  clear hr1 hr2 hn1 hn2
  by_cases hb1 : 100 < n1
  · have hb : (100 : Int) < (n1 : Int) := by omega
    go_enter Try.func6, Try.ntmps6
    go_wp2_with (go_at_call 20; refine (awake_calls _).mono ?_; rintro e w1 ⟨rfl, HB⟩)
    go_ret
    exact ⟨rfl, HB⟩
  · have hb1' : ¬ (100 : Int) < (n1 : Int) := by omega
    by_cases hb2 : 100 < n2
    · have hb : (100 : Int) < (n2 : Int) := by omega
      go_enter Try.func6, Try.ntmps6
      go_wp2_with (go_at_call 20; refine (awake_calls _).mono ?_; rintro e w1 ⟨rfl, HB⟩)
      go_ret
      exact ⟨rfl, HB⟩
    · have hb2' : ¬ (100 : Int) < (n2 : Int) := by omega
      obtain ⟨both, hboth⟩ : ∃ b, l ++ m = b := ⟨_, rfl⟩
      have HBO := Lib.hid hboth
      obtain ⟨nb, hnb⟩ : ∃ nb, both.length = nb := ⟨_, rfl⟩
      have HNB := Lib.hid hnb
      have hn200 : nb ≤ 200 := by rw [← hnb, ← hboth, List.length_append, HN1.out, HN2.out]; omega
      clear hboth hnb
      go_enter Try.func6, Try.ntmps6
      go_upto_region 5 with (go_at_call 20; refine (awake_calls _).mono ?_; rintro e w1 ⟨rfl, HB⟩)
      have HBA := Lib.hid (HB.out.alloc HB.out.size (.cells #[] 47))
      have HRA1 := Lib.hid (HR1.out.later HBA.out)
      have HRA2 := Lib.hid (HR2.out.later HBA.out)
      go_upto_region 7 with (first
        | (at_builtin; with_reducible (show wpList _ _ _ (_ :: _ :: _ :: _) _ _); refine EO.append_on (base := w1.heap.size) (EO.fresh w1 w1.heap.size (Nat.le_refl _)) HRA1.out rfl _ _ rfl rfl rfl (by simp) (by rw [HN1.out]; simp; omega) ?_; intro v2 w2 k1 k2 k3; rw [List.nil_append] at k1; have K1 := Lib.hid k1; have HB2 := Lib.hid (HBA.out.grown k2 (Nat.le_trans HB.out.size (by simp)) (fun k hk => by have := k1.base; simp [Value.ownBlock] at hk; have := HB.out.size; omega)); have hz2 : w1.heap.size ≤ w2.heap.size := Nat.le_trans (by simp) k2.size; clear k1 k2 k3)
        | (at_builtin; refine EO.append_on (base := w1.heap.size) K1.out (HR2.out.later HB2.out) rfl _ _ rfl rfl rfl hz2 (by rw [HN1.out, HN2.out]; omega) ?_; intro v3 w3 k1 k2 k3; rw [HBO.out] at k1; have HO := Lib.hid k1; have HB3 := Lib.hid (HB2.out.grown k2 HB2.out.size (fun k hk => by have := K1.out.base k hk; have := HB.out.size; omega)); clear k1 k2 k3))
      obtain ⟨g3, hg3, -⟩ := HO.out.reads
      have HR3 := Lib.hid hg3
      obtain ⟨A3, c3, rfl, hc31, hc32⟩ := id HO.out.shape
      rw [HNB.out] at HR3 hc31 ⊢
      clear hg3 HO HB2 K1 hz2 HRA1 HRA2 HBA HB
      go_upto_region 8 with (fail)
      go_loopw [8, 37] (fun u i wz => ∃ k : Nat, i = .int .i64 (k : Int) ∧ k ≤ nb ∧ Hid (EO wz w3.heap.size u (bak both k)) ∧ Hid (Below w3.heap.size w3 wz)) (fun _ i _ => nb - (intOf i).toNat)
      case atStart => exact ⟨0, rfl, by omega, Lib.hid (EO.nil _ _), Lib.hid (Below.refl _ _)⟩
      case round =>
        obtain ⟨k, rfl, hk, HO, HB⟩ := hrel
        by_cases hlt : k < nb
        · obtain ⟨o3, A', c', hv', -, -, hread⟩ := HR3.out.later HB.out
          rw [HNB.out] at hread hv'
          obtain ⟨rfl, hgl, hcell⟩ := hread (by omega)
          injection hv' with hv' _ hcc
          subst hcc hv'
          have g3l : g3 < w3.heap.size := by
            rcases HR3.out.lt with h | h
            · exfalso; have := HNB.out; rw [h] at this; simp at this; omega
            · exact h
          obtain ⟨j, hj⟩ : ∃ j, j = nb - 1 - k := ⟨_, rfl⟩
          obtain ⟨L, hL⟩ : ∃ L, L = nb - 1 := ⟨_, rfl⟩
          obtain ⟨q0, q1⟩ := hcell j (by omega)
          obtain ⟨q2, q3⟩ := hcell 0 (by omega)
          have hstep : bak both (k + 1) = bak both k ++ [both.getD j (0, 0), both.getD 0 (0, 0)] := by rw [bak, HNB.out, hj]
          obtain ⟨⟨x, x'⟩, hx⟩ : ∃ x, both.getD j (0, 0) = x := ⟨_, rfl⟩
          obtain ⟨⟨y, y'⟩, hy⟩ : ∃ x, both.getD 0 (0, 0) = x := ⟨_, rfl⟩
          rw [hx] at q0 q1 hstep
          rw [hy] at q2 q3 hstep
          simp only [Nat.zero_mul, Nat.add_zero] at q0 q1 q2 q3
          have HS := Lib.hid hstep
          have i0 : IntKind.i64.wrap ((nb : Int) - 1) = (L : Int) := by rw [IntWalk.i64_in _ (by omega)]; omega
          have i1 : IntKind.i64.wrap ((L : Int) - (k : Int)) = (j : Int) := by rw [IntWalk.i64_in _ (by omega)]; omega
          have i2 : (0 : Int) ≤ (j : Int) := by omega
          have i3 : (j : Int) < (nb : Int) := by omega
          have i4 : (0 : Int) < (nb : Int) := by omega
          have i5 : 0 < nb := by omega
          have hbl := bak_len both k
          have HBL : Hid ((bak both k).length ≤ 400) := Lib.hid (by rw [hbl]; omega)
          have hob := HO.out.base
          have HOB := Lib.hid hob
          have hbz := HB.out.size
          obtain ⟨uA, uc, rfl, -, -⟩ := id HO.out.shape
          clear hcell hread hstep hx hy hj hL hbl hob
          go_upto_region 10 with (fail)
          go_region_held3 (fun w' => (w'.cell? ⟨g3, o3 + j * 2, none⟩ = some (.int .i64 x) ∧ w'.cell? ⟨g3, o3 + j * 2 + 1, none⟩ = some (.int .i64 x')) ∧ w'.cell? ⟨g3, o3, none⟩ = some (.int .i64 y) ∧ w'.cell? ⟨g3, o3 + 1, none⟩ = some (.int .i64 y'))
            (first | (go_keep; done) | exact ⟨⟨q0, q1⟩, q2, q3⟩ | exact ⟨⟨Go.Lib.cell?_alloc_some _ q0, Go.Lib.cell?_alloc_some _ q1⟩, Go.Lib.cell?_alloc_some _ q2, Go.Lib.cell?_alloc_some _ q3⟩ | exact ⟨⟨HG6.out.cell (Go.Lib.cell?_alloc_some _ q0) (fun e => by have := HOB.out g3 e.symm; omega), HG6.out.cell (Go.Lib.cell?_alloc_some _ q1) (fun e => by have := HOB.out g3 e.symm; omega)⟩, HG6.out.cell (Go.Lib.cell?_alloc_some _ q2) (fun e => by have := HOB.out g3 e.symm; omega), HG6.out.cell (Go.Lib.cell?_alloc_some _ q3) (fun e => by have := HOB.out g3 e.symm; omega)⟩)
            ((refine EO.append_wp (ops := _) (base := w3.heap.size) (EO.alloc (show EO wr.drew w3.heap.size _ _ from HO.out) _) (ER.litH _ [(x, x'), (y, y')] _ rfl 2 rfl (by simp) wr.heap.size (by simp)) rfl _ _ (by rfl) (by rfl) (by rfl) (by simp; omega) (by have := HBL.out; simp; omega) ?_; intro v6 w6 h6 hg6 ho6; have H6 := Lib.hid h6; have HG6 := Lib.hid hg6; clear h6 hg6 ho6))
          go_wp2
          go_roundw
          case rel => exact ⟨k + 1, by go_num, by omega, Lib.hid (by rw [HS.out]; exact H6.out), Lib.hid (((HB.out.trans (drewN_below _ wr 1)).alloc hbz _).grown HG6.out (by simp; omega) HOB.out)⟩
          case measure => simp [intOf]; omega
        · obtain rfl : nb = k := by omega
          have HALL : Hid (∀ x, x ∈ bak both nb ↔ x ∈ both) := Lib.hid (fun x => by rw [← HNB.out]; exact bak_all both x)
          have HBB : Hid ((bak both nb).length ≤ 400) := Lib.hid (by rw [bak_len]; omega)
          have hbk := HB.out.size
          have HB4 := Lib.hid (HB3.out.trans (HB.out.mono HB3.out.size))
          have HR3 := Lib.hid (HR3.out.later HB.out)
          obtain ⟨g4, hg4, -⟩ := HO.out.reads
          have HR4 := Lib.hid hg4
          obtain ⟨A4, c4, rfl, -, -⟩ := id HO.out.shape
          have HZ : Hid (Below wr.heap.size wr wr) := Lib.hid (Below.refl _ _)
          clear hg4 HB HO
          have hiff : wrg n (bak both nb) = -2 ↔ wrg n both = -2 := wrg_mem (by have := HBB.out; omega) (by rw [HNB.out]; omega) HALL.out
          have hnr : nrm (bak both nb) = nrm both := nrm_congr HALL.out
          have HNR := Lib.hid hnr
          clear hnr
          generalize bak both nb = bk at *
          by_cases hw : wrg n both = -2
          · have HW := Lib.hid hw
            have HW2 := Lib.hid (hiff.2 hw)
            clear hiff hw
            go_upto_region 14 with (first
              | (go_at_call 21; with_reducible (show Calls Try.prog _ #[_, .slice A3 _ _] _ _); refine (norm_ok n g3 _ both _ (HR3.out.later HZ.out) (by rw [HNB.out]; omega) HW.out).mono ?_; rintro e w5 ⟨v5, rfl, HO5, HB5⟩; have HZ := Lib.hid (HZ.out.trans (HB5.out.mono HZ.out.size)); clear HB5)
              | (go_at_call 21; refine (norm_ok n g4 _ bk _ (HR4.out.later HZ.out) (by have := HBB.out; omega) HW2.out).mono ?_; rintro e w6 ⟨v6, rfl, HO6, HB6⟩; have HO5 := Lib.hid (HO5.out.later HB6.out); have HZ := Lib.hid (HZ.out.trans (HB6.out.mono HZ.out.size)); clear HB6))
            have HWL : Hid (wrg n l = -2) := Lib.hid (wrg_sub (by rw [HN1.out]; omega) (fun x hx => by rw [← HBO.out]; exact List.mem_append_left _ hx) HW.out)
            have HWM : Hid (wrg n m = -2) := Lib.hid (wrg_sub (by rw [HN2.out]; omega) (fun x hx => by rw [← HBO.out]; exact List.mem_append_right _ hx) HW.out)
            have HZL : Hid ((nrm m ++ nrm l).length ≤ 200) := Lib.hid (by have h1 := nrm_len l; have h2 := nrm_len m; rw [HN1.out] at h1; rw [HN2.out] at h2; rw [List.length_append]; omega)
            have HWZ : Hid (wrg n (nrm m ++ nrm l) = -2) := Lib.hid (wrg_sub (by have := HZL.out; omega) (fun x hx => by
              rw [← HBO.out]
              rcases List.mem_append.1 hx with h | h
              · exact List.mem_append_right _ (mem_nrm.1 h)
              · exact List.mem_append_left _ (mem_nrm.1 h)) HW.out)
            have HNZ : Hid (nrm (nrm m ++ nrm l) = nrm both) := Lib.hid (nrm_congr fun x => by
              rw [← HBO.out, List.mem_append, List.mem_append, mem_nrm, mem_nrm]
              exact Or.comm)
            have HSUM : Hid ((nrm m).length + (nrm l).length ≤ 200) := Lib.hid (by have := HZL.out; rw [List.length_append] at this; exact this)
            obtain ⟨zz, hzz⟩ : ∃ zz, nrm m ++ nrm l = zz := ⟨_, rfl⟩
            rw [hzz] at HZL HWZ HNZ
            have HZZ := Lib.hid hzz
            clear hzz
            go_quiet (fail)
            have HB4 := Lib.hid (HB4.out.trans (HZ.out.mono HB4.out.size))
            have HO5 := Lib.hid (HO5.out.drewN nq)
            have HO6 := Lib.hid (HO6.out.drewN nq)
            have HB4 := Lib.hid (HB4.out.trans (drewN_below _ _ nq))
            clear HZ HR3 HR4
            generalize w6.drewN nq = w6b at *
            have HZ := Lib.hid (Below.refl w6b.heap.size w6b)
            go_upto_region 20 with (first
              | (go_at_call 21; with_reducible (show Calls Try.prog _ #[_, .slice A1 _ _] _ _); refine (norm_ok n g1 _ l _ (HR1.out.later (HB4.out.trans (HZ.out.mono HB4.out.size))) (by rw [HN1.out]; omega) HWL.out).mono ?_; rintro e w7 ⟨v7, rfl, HO7, HB7⟩; have HZ := Lib.hid (HZ.out.trans (HB7.out.mono HZ.out.size)); clear HB7)
              | (go_at_call 21; with_reducible (show Calls Try.prog _ #[_, .slice A2 _ _] _ _); refine (norm_ok n g2 _ m _ (HR2.out.later (HB4.out.trans (HZ.out.mono HB4.out.size))) (by rw [HN2.out]; omega) HWM.out).mono ?_; rintro e w8 ⟨v8, rfl, HO8, HB8⟩; have HO7 := Lib.hid (HO7.out.later HB8.out); have HZ := Lib.hid (HZ.out.trans (HB8.out.mono HZ.out.size)); clear HB8))
            obtain ⟨ga, hga, -⟩ := HO7.out.reads
            have HRA := Lib.hid hga
            obtain ⟨gb, hgb, -⟩ := HO8.out.reads
            have HRB := Lib.hid hgb
            obtain ⟨Aa, ca, rfl, -, -⟩ := id HO7.out.shape
            obtain ⟨Ab, cb, rfl, -, -⟩ := id HO8.out.shape
            clear hga hgb HO7 HO8
            have HB5 := Lib.hid (HB4.out.trans (HZ.out.mono HB4.out.size))
            have hwx := HZ.out
            have HO5 : Hid (EO w8 0 v5 (nrm both)) := Lib.hid ((EO.mono HO5.out (Nat.zero_le _)).later hwx)
            have HO6 : Hid (EO w8 0 v6 (nrm both)) := Lib.hid (by have := (EO.mono HO6.out (Nat.zero_le _)).later hwx; rw [HNR.out] at this; exact this)
            clear hwx HZ
            have HBA := Lib.hid ((Below.refl w8.heap.size w8).alloc (Nat.le_refl _) (.cells #[] 47))
            go_wp2_with (first
              | (at_builtin; with_reducible (show wpList _ _ _ (_ :: _ :: _ :: _ :: _ :: _ :: _ :: _ :: _) _ _); refine EO.append_on (base := w8.heap.size) (EO.fresh w8 w8.heap.size (Nat.le_refl _)) (HRB.out.later HBA.out) rfl _ _ rfl rfl rfl (by simp) (by have := HSUM.out; simp; omega) ?_; intro v9 w9 k1 k2 k3; rw [List.nil_append] at k1; have K1 := Lib.hid k1; have HB9 := Lib.hid (HBA.out.grown k2 (by simp) (fun k hk => by simp [Value.ownBlock] at hk; omega)); have hz9 : w8.heap.size ≤ w9.heap.size := Nat.le_trans (by simp) k2.size; clear k1 k2 k3)
              | (at_builtin; refine EO.append_on (base := w8.heap.size) K1.out (HRA.out.later HB9.out) rfl _ _ rfl rfl rfl hz9 (by have := HSUM.out; omega) ?_; intro v10 w10 k1 k2 k3; rw [HZZ.out] at k1; have KZ := Lib.hid k1; obtain ⟨A10, c10, hv10, -, -⟩ := k1.shape; subst hv10; have HB10 := Lib.hid (HB9.out.grown k2 hz9 (fun k hk => K1.out.base k hk)); clear k1 k2 k3)
              | (go_at_call 21; refine (norm_ok n _ _ zz _ KZ.out.reads.choose_spec.1 (by have := HZL.out; omega) HWZ.out).mono ?_; rw [HNZ.out]; rintro e w11 ⟨v11, rfl, HO11, HB11⟩; have HBX := Lib.hid (HB10.out.trans (HB11.out.mono HB10.out.size)); have HOX := Lib.hid (HO11.out.mono (Nat.zero_le _)); clear HB11)
              | (go_at_call 24; with_reducible (show Calls Try.prog _ #[_, v6] _ _); refine (same_b _ _ _ _ (nrm both) (nrm both) _ (HO5.out.later HBX.out).reads.choose_spec.1 (HO6.out.later HBX.out).reads.choose_spec.1).mono ?_; rw [decide_eq_true (p := nrm both = nrm both) rfl]; rintro e w12 ⟨rfl, HB12⟩; have HOX := Lib.hid (HOX.out.later HB12.out); have HBX := Lib.hid (HBX.out.trans (HB12.out.mono HBX.out.size)); clear HB12)
              | (go_at_call 24; refine (same_b _ _ _ _ (nrm both) (nrm both) _ (HO5.out.later HBX.out).reads.choose_spec.1 HOX.out.reads.choose_spec.1).mono ?_; rw [decide_eq_true (p := nrm both = nrm both) rfl]; rintro e w13 ⟨rfl, HB13⟩; have HBX := Lib.hid (HBX.out.trans (HB13.out.mono HBX.out.size)); clear HB13))
            go_ret
            exact ⟨rfl, Lib.hid (HB5.out.trans (HBX.out.mono HB5.out.size))⟩
          · have HW := Lib.hid hw
            have HW2 := Lib.hid (fun e => hw (hiff.1 e))
            clear hiff hw
            go_upto_region 14 with (first
              | (go_at_call 21; with_reducible (show Calls Try.prog _ #[_, .slice A3 _ _] _ _); refine (norm_bad n g3 _ both _ (HR3.out.later HZ.out) (by rw [HNB.out]; omega) HW.out).mono ?_; unfold errV; rintro e w5 ⟨rfl, HB5⟩; have HZ := Lib.hid (HZ.out.trans (HB5.out.mono HZ.out.size)); clear HB5)
              | (go_at_call 21; refine (norm_bad n g4 _ bk _ (HR4.out.later HZ.out) (by have := HBB.out; omega) HW2.out).mono ?_; unfold errV; rintro e w6 ⟨rfl, HB6⟩; have HZ := Lib.hid (HZ.out.trans (HB6.out.mono HZ.out.size)); clear HB6))
            go_quiet (fail)
            go_wp2
            go_ret
            exact ⟨rfl, Lib.hid ((HB4.out.trans (HZ.out.mono HB4.out.size)).trans (drewN_below _ _ _))⟩
theorem merge_row (n : Int) (g1 : Nat) (v1 : Value) (l : List E2) (g2 : Nat) (v2 : Value) (m : List E2) (w : World) (hn : (Lit.int .i64 n).wf = true) (hr1 : ER w g1 v1 l) (hb1 : ∀ e ∈ l, (-9223372036854775808 ≤ e.1 ∧ e.1 < 9223372036854775808) ∧ (-9223372036854775808 ≤ e.2 ∧ e.2 < 9223372036854775808)) (hr2 : ER w g2 v2 m) (hb2 : ∀ e ∈ m, (-9223372036854775808 ≤ e.1 ∧ e.1 < 9223372036854775808) ∧ (-9223372036854775808 ≤ e.2 ∧ e.2 < 9223372036854775808)) :
    Calls Try.prog 6 #[.int .i64 n, v1, v2] w fun e w' => e = .returned (.bool true) ∧ Below w.heap.size w w' := by
  obtain ⟨A1, c1, rfl, -⟩ := er_shape hr1
  obtain ⟨A2, c2, rfl, -⟩ := er_shape hr2
  exact (merge_walk n g1 g2 A1 A2 l.length c1 m.length c2 l m w hr1 rfl hr2 rfl).mono fun _ _ h => ⟨h.1, h.2.out⟩
end Go.Proofs.Ythnpaiobjmneaaa.Ed
