/- ask: a search in memory; meet. -/
import Derived.Test.YthnpaiobjmneaaaDoorAp
import Derived.Test.YthnpaiobjmneaaaDoorMr
import Derived.Test.YthnpaiobjmneaaaDoorCw
import Derived.Test.YthnpaiobjmneaaaDoorWm
namespace Go.Proofs.YthnpaiobjmneaaaDoor.Ak
open Go.RowKit Go.Proofs.YthnpaiobjmneaaaDoor.Ed Go.Proofs.YthnpaiobjmneaaaDoor.Ro Go.Proofs.YthnpaiobjmneaaaDoor.Cs
set_option linter.unusedVariables false
set_option linter.unusedSimpArgs false

/-- who was met through whom, in a map -/
def VM (w : World) (mb : Nat) (L : List T3) : Prop := ∃ A T, Wa.IM w mb A T ∧ A.length = L.length ∧ (∀ i, i ∈ A ↔ i ∈ nds L) ∧ ∀ x ∈ L, T x.1 = x.2.2
theorem VM.other {w w' : World} {b : Nat} {L : List T3} (h : VM w b L) (e : w'.heap[b]? = w.heap[b]?) : VM w' b L := by
  obtain ⟨A, T, h1, h2⟩ := h
  exact ⟨A, T, h1.other e, h2⟩
theorem VM.lt {w : World} {b : Nat} {L : List T3} (h : VM w b L) : b < w.heap.size := by
  obtain ⟨A, T, h1, h2⟩ := h
  exact h1.lt
theorem VM.kept {w w' : World} {b : Nat} {L : List T3} (h : VM w b L) {row : Option Nat} (hg : w.grownBy w' row) (hr : some b ≠ row) : VM w' b L := h.other (hg.block b h.lt hr)
theorem VM.store {w : World} {b : Nat} {L : List T3} (h : VM w b L) (v far th : Int) (hv : Wa.wfI v) (ht : Wa.wfI th) (hn : v ∉ nds L) (hl : L.length < 1000000) :
    ∃ w', (Instr.mapUpdate 86 (.map (some b)) (.int .i64 v) (.int .i64 th)).run Tryd.prog w = .ok () w' ∧ VM w' b (L ++ [(v, far, th)]) ∧ w.grownBy w' (some b) := by
  obtain ⟨A, T, h1, h2, h3, h4⟩ := h
  obtain ⟨w', hr, hi, hg⟩ := h1.store v th hv ht (by omega)
  refine ⟨w', hr, ⟨_, _, hi, ?_, ?_, ?_⟩, hg⟩
  · rw [Wa.len_ins (fun hm => hn ((h3 v).1 hm)), h2]; simp
  · intro i
    rw [Wa.mem_ins, h3]
    simp [nds]; constructor
    · rintro (h | h)
      · exact .inr h
      · exact .inl h
    · rintro (h | h)
      · exact .inr h
      · exact .inl h
  · intro x hx
    rcases List.mem_append.1 hx with hx | hx
    · have hne : x.1 ≠ v := fun e => hn (by rw [← e]; exact List.mem_map_of_mem hx)
      unfold Wa.upd
      rw [if_neg hne]
      exact h4 x hx
    · have : x = (v, far, th) := by simpa using hx
      subst this
      simp [Wa.upd]
/-- a search -/
structure SS (w : World) (B s mb : Nat) (pv : Value) (m : Int) (L : List T3) (v : Value) : Prop where
  blk : w.heap[s]? = some (.cells #[pv, v, .map (some mb), .int .i64 m] 88 (0, 0))
  row : MO w B v (mts L)
  via : VM w mb L
  base : B ≤ s
  base2 : B ≤ mb
  ne : s ≠ mb
  own : ∀ b, v.ownBlock = some b → b ≠ s ∧ b ≠ mb
theorem SS.later {w w' : World} {B s mb : Nat} {pv : Value} {m : Int} {L : List T3} {v : Value} (h : SS w B s mb pv m L v) (hb : Below w.heap.size w w') : SS w' B s mb pv m L v :=
  ⟨(hb.block s (Array.getElem?_eq_some_iff.1 h.blk).1).trans h.blk, h.row.later hb, h.via.other (hb.block mb h.via.lt), h.base, h.base2, h.ne, h.own⟩
theorem SS.lt {w : World} {B s mb : Nat} {pv : Value} {m : Int} {L : List T3} {v : Value} (h : SS w B s mb pv m L v) : s < w.heap.size := (Array.getElem?_eq_some_iff.1 h.blk).1
/-- but for a search's blocks all lies as it lay -/
structure Fr (w w' : World) (s mb : Nat) (v v' : Value) : Prop where
  size : w.heap.size ≤ w'.heap.size
  block : ∀ j, j < w.heap.size → j ≠ s → j ≠ mb → v.ownBlock ≠ some j → w'.heap[j]? = w.heap[j]?
  own : v'.ownBlock = v.ownBlock ∨ ∃ k, v'.ownBlock = some k ∧ w.heap.size ≤ k
theorem Fr.below {w w' : World} (h : Below w.heap.size w w') (s mb : Nat) (v : Value) : Fr w w' s mb v v := ⟨h.size, fun j hj _ _ _ => h.block j hj, .inl rfl⟩
theorem Fr.trans {w w' w'' : World} {s mb : Nat} {v v' v'' : Value} (h : Fr w w' s mb v v') (h' : Fr w' w'' s mb v' v'') : Fr w w'' s mb v v'' := by
  refine ⟨Nat.le_trans h.size h'.size, fun j hj hs hm hv => ?_, ?_⟩
  · rw [h'.block j (Nat.lt_of_lt_of_le hj h.size) hs hm ?_, h.block j hj hs hm hv]
    intro e
    rcases h.own with e1 | ⟨k, e1, hk⟩
    · exact hv (e1 ▸ e)
    · rw [e] at e1; injection e1 with e1; omega
  · rcases h'.own with e | ⟨k, e, hk⟩
    · rcases h.own with e1 | ⟨k, e1, hk⟩
      · exact .inl (e.trans e1)
      · exact .inr ⟨k, e.trans e1, hk⟩
    · exact .inr ⟨k, e, Nat.le_trans h.size hk⟩
/-- it has become this search -/
def SX (w w' : World) (B s mb : Nat) (pv : Value) (m : Int) (v : Value) (L : List T3) : Prop := ∃ v', SS w' B s mb pv m L v' ∧ Below B w w' ∧ Fr w w' s mb v v'
theorem SS.put {w w2 w4 : World} {B s mb : Nat} {pv : Value} {m : Int} {L : List T3} {v v1 : Value} {x : T3} (h : SS w B s mb pv m L v) (k1 : MO w2 B v1 (mts L ++ [(x.1, x.2.1)])) (k2 : w.grownBy w2 v.ownBlock)
    (k3 : v1.ownBlock = v.ownBlock ∨ v1.ownBlock = some w.heap.size) (k4 : VM w4 mb (L ++ [x])) (k5 : (w2.setCell ⟨s, 1, none⟩ v1).grownBy w4 (some mb)) : SS w4 B s mb pv m (L ++ [x]) v1 ∧ Below B w w4 ∧ Fr w w4 s mb v v1 := by
  have nes : some s ≠ v.ownBlock := fun e => (h.own s e.symm).1 rfl
  have nem : some mb ≠ v.ownBlock := fun e => (h.own mb e.symm).2 rfl
  have hblk2 := (k2.block s h.lt nes).trans h.blk
  have hsz := k2.size
  have hvl := h.via.lt
  have hsl := h.lt
  have hset : w2.grownBy (w2.setCell ⟨s, 1, none⟩ v1) (some s) := ⟨rfl, rfl, rfl, by simp, fun j _ hj => heap_setCell_other w2 ⟨s, 1, none⟩ j _ (fun e => hj (by simp [e]))⟩
  have own : ∀ b, v1.ownBlock = some b → b ≠ s ∧ b ≠ mb := by
    intro b hb
    rcases k3 with e | e
    · exact h.own b (e ▸ hb)
    · rw [e] at hb
      injection hb with hb
      omega
  have hblk3 : (w2.setCell ⟨s, 1, none⟩ v1).heap[s]? = some (.cells #[pv, v1, .map (some mb), .int .i64 m] 88 (0, 0)) := heap_setCell_same w2 s 1 _ _ _ hblk2
  refine ⟨⟨?_, ?_, k4, h.base, h.base2, h.ne, own⟩, ?_, ?_⟩
  · exact (k5.block s (by have := hset.size; omega) (fun e => h.ne (by injection e))).trans hblk3
  · have r3 : MO (w2.setCell ⟨s, 1, none⟩ v1) B v1 (mts L ++ [(x.1, x.2.1)]) := by
      cases hv : v1.ownBlock with
      | none => exact k1.kept hset (.inl hv)
      | some b => exact k1.kept hset (.inr fun e => (own b hv).1 (by rw [hv] at e; injection e))
    have r4 : MO w4 B v1 (mts L ++ [(x.1, x.2.1)]) := by
      cases hv : v1.ownBlock with
      | none => exact r3.kept k5 (.inl hv)
      | some b => exact r3.kept k5 (.inr fun e => (own b hv).2 (by rw [hv] at e; injection e))
    have e : mts (L ++ [x]) = mts L ++ [(x.1, x.2.1)] := by simp [mts]
    rw [e]; exact r4
  · have hB : B ≤ w.heap.size := Nat.le_trans h.base (Nat.le_of_lt h.lt)
    have b1 : Below B w w2 := (Below.refl B w).grown k2 hB (fun b hb => h.row.base b hb)
    have b2 := b1.grown hset (Nat.le_trans hB hsz) (fun b hb => by injection hb with hb; have := h.base; omega)
    exact b2.grown k5 (by have := hset.size; omega) (fun b hb => by injection hb with hb; have := h.base2; omega)
  · have h2 := hset.size
    have h3 := k5.size
    refine ⟨by omega, fun j hj h1 h2 h3 => ?_, ?_⟩
    · rw [k5.block j (by omega) (fun e => h2 (by injection e)), hset.block j (by omega) (fun e => h1 (by injection e)), k2.block j hj (fun e => h3 e.symm)]
    · rcases k3 with e | e
      · exact .inl e
      · exact .inr ⟨_, e, Nat.le_refl _⟩
theorem SS.mid {w w2 : World} {B s mb : Nat} {pv : Value} {m : Int} {L : List T3} {v v1 : Value} {x : T3} (h : SS w B s mb pv m L v) (k1 : MO w2 B v1 (mts L ++ [(x.1, x.2.1)])) (k2 : w.grownBy w2 v.ownBlock)
    (k3 : v1.ownBlock = v.ownBlock ∨ v1.ownBlock = some w.heap.size) (hv : Wa.wfI x.1) (ht : Wa.wfI x.2.2) (hn : x.1 ∉ nds L) (hl : L.length < 1000000) :
    w2.cell? ⟨s, 1, none⟩ = some v ∧ w2.frozen? ⟨s, 1, none⟩ = false ∧ (w2.setCell ⟨s, 1, none⟩ v1).cell? ⟨s, 2, none⟩ = some (.map (some mb)) ∧
      ∃ w4, (Instr.mapUpdate 86 (.map (some mb)) (.int .i64 x.1) (.int .i64 x.2.2)).run Tryd.prog (w2.setCell ⟨s, 1, none⟩ v1) = .ok () w4 ∧ Hid (SS w4 B s mb pv m (L ++ [x]) v1) ∧ Hid (Below B w w4) ∧ Hid (Fr w w4 s mb v v1) := by
  have nes : some s ≠ v.ownBlock := fun e => (h.own s e.symm).1 rfl
  have nem : some mb ≠ v.ownBlock := fun e => (h.own mb e.symm).2 rfl
  have hblk2 := (k2.block s h.lt nes).trans h.blk
  have hset : w2.grownBy (w2.setCell ⟨s, 1, none⟩ v1) (some s) := ⟨rfl, rfl, rfl, by simp, fun j _ hj => heap_setCell_other w2 ⟨s, 1, none⟩ j _ (fun e => hj (by simp [e]))⟩
  have hblk3 : (w2.setCell ⟨s, 1, none⟩ v1).heap[s]? = some (.cells #[pv, v1, .map (some mb), .int .i64 m] 88 (0, 0)) := heap_setCell_same w2 s 1 _ _ _ hblk2
  have hv3 := (h.via.kept k2 nem).kept hset (fun e => h.ne (by injection e with e; exact e.symm))
  obtain ⟨w4, hr, hv4, hg4⟩ := hv3.store x.1 x.2.1 x.2.2 hv ht hn hl
  have := h.put k1 k2 k3 hv4 hg4
  refine ⟨?_, ?_, ?_, w4, hr, Lib.hid this.1, Lib.hid this.2.1, Lib.hid this.2.2⟩
  · simp only [World.cell?, hblk2]; rfl
  · simp only [World.frozen?, hblk2]; rfl
  · simp only [World.cell?, hblk3]; rfl
set_option maxHeartbeats 2000000 in
set_option maxRecDepth 100000 in
theorem meet_calls {w : World} {B s mb : Nat} {pv : Value} {m : Int} {L : List T3} {v0 : Value} (h : SS w B s mb pv m L v0) (v far th : Int) (hv : Wa.wfI v) (ht : Wa.wfI th) (hl : L.length < 1000000) :
    Calls Tryd.prog 72 #[.pointer (some ⟨s, 0, none⟩), .int .i64 v, .int .i64 far, .int .i64 th] w fun e w' => e = .returned (.tuple #[]) ∧ Hid (SX w w' B s mb pv m v0 (meet m L v far th)) := by
  have HS := Lib.hid h
  have hB : B ≤ w.heap.size := Nat.le_trans h.base (Nat.le_of_lt h.lt)
  obtain ⟨A0, c0, hv0, hle, -⟩ := id h.row.shape
  obtain ⟨len, hlen⟩ : ∃ len, L.length = len := ⟨_, rfl⟩
  have hml : (mts L).length = len := by rw [← hlen]; simp [mts]
  rw [hml] at hv0
  subst hv0
  have hblk := h.blk
  have c1 : w.cell? ⟨s, 1, none⟩ = some (.slice A0 len c0) := by simp only [World.cell?, hblk]; rfl
  have c2 : w.cell? ⟨s, 2, none⟩ = some (.map (some mb)) := by simp only [World.cell?, hblk]; rfl
  have c3 : w.cell? ⟨s, 3, none⟩ = some (.int .i64 m) := by simp only [World.cell?, hblk]; rfl
  obtain ⟨A, T, hI, hAl, hAm, hAt⟩ := id h.via
  have hlook := hI.look_ok v hv
  obtain ⟨z, hz⟩ : ∃ z, (if v ∈ A then T v else 0) = z := ⟨_, rfl⟩
  rw [hz] at hlook
  clear hz hAt hI hAl hblk
  by_cases hin : v ∈ A
  · have hd : decide (v ∈ A) = true := decide_eq_true hin
    rw [hd] at hlook
    have e : meet m L v far th = L := by unfold meet; rw [if_neg (fun hh => hh.1 ((hAm v).1 hin))]
    rw [e]
    clear e hd hin hAm h hml
    go_enter Tryd.func72, Tryd.ntmps72
    go_upto_region 1 with (fail)
    go_quiet (fail)
    go_wp2
    go_end0
    exact ⟨rfl, Lib.hid ⟨_, HS.out.later (Ed.drewN_below _ _ _), Ed.drewN_below _ _ _, Fr.below (Ed.drewN_below _ _ _) _ _ _⟩⟩
  · have hd : decide (v ∈ A) = false := decide_eq_false hin
    rw [hd] at hlook
    have hnn : v ∉ nds L := fun hh => hin ((hAm v).2 hh)
    by_cases hlm : (len : Int) < m
    · have e : meet m L v far th = L ++ [(v, far, th)] := by unfold meet; rw [hlen, if_pos ⟨hnn, hlm⟩]
      rw [e]
      clear e hd hin hAm h hlook
      have HW := Lib.hid (And.intro hv ht)
      have HN := Lib.hid hnn
      have HL := Lib.hid hlen
      have HM := Lib.hid hml
      clear hv ht hnn hlen hml
      have hlook := HS.out.via
      obtain ⟨A, T, hI, hAl, hAm, hAt⟩ := id hlook
      have hlk := hI.look_ok v HW.out.1
      have hin : v ∉ A := fun hh => HN.out ((hAm v).1 hh)
      rw [if_neg hin, decide_eq_false hin] at hlk
      clear hlook hI hAl hAm hAt hin
      go_enter Tryd.func72, Tryd.ntmps72
      go_upto_region 1 with (fail)
      go_quiet (fail)
      have HS1 := Lib.hid (HS.out.later (Ed.drewN_below _ w nq))
      have HB1 := Lib.hid (Ed.drewN_below B w nq)
      have HF1 := Lib.hid (Fr.below (Ed.drewN_below _ w nq) s mb (.slice A0 len c0))
      have hsz : B ≤ (w.drewN nq).heap.size := hB
      have d1 : (w.drewN nq).cell? ⟨s, 1, none⟩ = some (.slice A0 len c0) := c1
      have HX : Hid (L.length < 1000000) := Lib.hid hl
      have hl2 : len < 1000000 := by rw [← HL.out]; exact hl
      clear c1 c2 c3 hlk HS hB
      generalize w.drewN nq = W1 at HS1 HB1 HF1 hsz d1
      go_wp2_with ((at_builtin; have HSa := HS1.out.later ((Below.refl _ W1).alloc (Nat.le_refl _) (.cells #[.int .i64 v, .int .i64 far] 47)); refine MO.append_on (base := B) HSa.row (MR.lit _ [(v, far)] _ rfl 1 rfl (by simp)) rfl _ _ rfl rfl rfl (by simp; omega) (by simp [HM.out]; omega) ?_; intro v1 w2 k1 k2 k3; obtain ⟨A1, cap1, hv1, -, -⟩ := id k1.shape; obtain ⟨n1, hn1⟩ : ∃ n1, (mts L ++ [(v, far)]).length = n1 := ⟨_, rfl⟩; rw [hn1] at hv1; subst hv1; clear hn1; obtain ⟨f0, f1, f2, w4, f3, HS4, HB4, HF4⟩ := HSa.mid (x := (v, far, th)) k1 k2 k3 HW.out.1 HW.out.2 HN.out HX.out; clear k1 k2 k3 HSa))
      go_end0
      refine ⟨rfl, Lib.hid ⟨_, HS4.out, ?_, (HF1.out.trans (Fr.below ((Below.refl _ W1).alloc (Nat.le_refl _) (.cells #[.int .i64 v, .int .i64 far] 47)) _ _ _)).trans HF4.out⟩⟩
      have b1 := HB1.out.alloc hsz (.cells #[.int .i64 v, .int .i64 far] 47)
      exact b1.trans HB4.out
    · have e : meet m L v far th = L := by unfold meet; rw [hlen, if_neg (fun hh => hlm hh.2)]
      rw [e]
      clear e hd hin hAm h hml
      have hlm' : (len : Int) ≥ m := by omega
      go_enter Tryd.func72, Tryd.ntmps72
      go_upto_region 1 with (fail)
      go_quiet (fail)
      go_wp2
      go_end0
      exact ⟨rfl, Lib.hid ⟨_, HS.out.later (Ed.drewN_below _ _ _), Ed.drewN_below _ _ _, Fr.below (Ed.drewN_below _ _ _) _ _ _⟩⟩
end Go.Proofs.YthnpaiobjmneaaaDoor.Ak
