/- csr: row, Has, drawing alone; ask: Common. -/
import Derived.Test.YthnpaiobjmneaaaDoorAf
import Derived.Test.YthnpaiobjmneaaaDoorLad
namespace Go.Proofs.YthnpaiobjmneaaaDoor.Cs
open Go.RowKit Go.Proofs.YthnpaiobjmneaaaDoor.Ed Go.Proofs.YthnpaiobjmneaaaDoor.Ro
set_option linter.unusedVariables false
set_option linter.unusedSimpArgs false
set_option maxHeartbeats 4000000 in
set_option maxRecDepth 100000 in
theorem row_q {w : World} {B p bb N : Nat} {tv : Value} {l : List E2} (h : CS w B p bb tv N l) (v : Nat) (hv : v < N) :
    Calls Tryd.prog 55 #[pV p, .int .i64 (v : Int)] w fun e w' => ∃ a c g, e = .returned (.tuple #[.slice a (deg l v) c, .nilIface]) ∧ Hid (JR w g (.slice a (deg l v) c) (tgt l v) ∧ (tgt l v ≠ [] → tv.ownBlock = some g)) ∧ ∃ q, w' = w.drewN q := by
  obtain ⟨c0, c1⟩ := h.cells
  have q0 := h.begAt v (by omega)
  have q1 := h.begAt (v + 1) (by omega)
  rw [show ((v + 1 : Nat) : Int) = (v : Int) + 1 by omega, bel_step] at q1
  have HN := Lib.hid (nodes_calls h)
  have hN := h.nodes
  have hbd := bel_deg l v
  have hfew := h.few
  have hpc := h.piece v hv
  have HT := Lib.hid (tgt_len l v)
  have i0 : (v : Int) < (N : Int) := by omega
  have i1 : (v : Int) < (N : Int) + 1 := by omega
  have i2 : IntKind.i64.wrap ((v : Int) + 1) = (v : Int) + 1 := IntWalk.i64_in _ (by omega)
  have i3 : (0 : Int) ≤ (v : Int) + 1 := by omega
  have i4 : (v : Int) + 1 < (N : Int) + 1 := by omega
  have i5 : ((v : Int) + 1).toNat = v + 1 := by omega
  have i6 : (0 : Int) ≤ (v : Int) := by omega
  have HC := Lib.hid h
  obtain ⟨b, hb⟩ : ∃ b, bel l v = b := ⟨_, rfl⟩
  obtain ⟨d, hd⟩ : ∃ d, deg l v = d := ⟨_, rfl⟩
  obtain ⟨t, ht⟩ : ∃ t, tgt l v = t := ⟨_, rfl⟩
  rw [hb] at q0 q1 hbd hpc
  rw [hd] at q1 hbd hpc HT ⊢
  rw [ht] at hpc HT ⊢
  clear h hb hd ht
  rcases hpc with ⟨A, o, c, rfl, hAl, hlc, hcm, hjr⟩ | ⟨rfl, rfl⟩
  · obtain ⟨n, hn⟩ : ∃ n, l.length = n := ⟨_, rfl⟩
    rw [hn] at c1 hbd hlc hfew
    have HJ := Lib.hid hjr
    have j0 : (0 : Int) ≤ (b : Int) := by omega
    have j1 : (b : Int) ≤ ((b + d : Nat) : Int) := by omega
    have j2 : ((b + d : Nat) : Int) ≤ (c : Int) := by omega
    clear hjr hn
    by_cases hcb : c = b
    · go_enter Tryd.func55, Tryd.ntmps55
      go_upto_region 5 with (go_at_call 25; refine HN.out.mono ?_; rintro e w1 ⟨rfl, rfl⟩)
      go_quiet (fail)
      go_wp2
      go_ret2
      obtain rfl : d = 0 := by omega
      have ht : t = [] := List.eq_nil_of_length_eq_zero HT.out
      exact ⟨_, _, 0, ret_slice (by omega), Lib.hid ⟨⟨_, _, 0, by rw [ht]; rfl, by rw [ht]; exact Nat.zero_le _, by omega, fun h => by rw [ht] at h; simp at h⟩, fun h => absurd ht h⟩, _, rfl⟩
    · go_enter Tryd.func55, Tryd.ntmps55
      go_upto_region 5 with (go_at_call 25; refine HN.out.mono ?_; rintro e w1 ⟨rfl, rfl⟩)
      go_quiet (fail)
      go_wp2
      go_ret2
      exact ⟨_, _, A, ret_slice (by omega), Lib.hid ⟨HJ.out (o + b) (c - b) rfl (by omega) (by omega), fun _ => rfl⟩, _, rfl⟩
  · rw [show (([] : List E2).length) = 0 from rfl] at hbd
    obtain rfl : b = 0 := by omega
    obtain rfl : d = 0 := by omega
    have ht : t = [] := List.eq_nil_of_length_eq_zero HT.out
    go_enter Tryd.func55, Tryd.ntmps55
    go_upto_region 5 with (go_at_call 25; refine HN.out.mono ?_; rintro e w1 ⟨rfl, rfl⟩)
    go_quiet (fail)
    go_wp2
    go_ret2
    exact ⟨_, _, 0, ret_slice (by omega), Lib.hid ⟨⟨_, _, 0, by rw [ht]; rfl, by rw [ht]; exact Nat.zero_le _, by omega, fun h => by rw [ht] at h; simp at h⟩, fun h => absurd ht h⟩, _, rfl⟩
set_option maxHeartbeats 1000000 in
theorem has_q {w : World} {B p bb N : Nat} {tv : Value} {l : List E2} (h : CS w B p bb tv N l) (v : Nat) (hv : v < N) (x : Int) : Calls Tryd.prog 30 #[pV p, .int .i64 (v : Int), .int .i64 x] w fun e w' => e = .returned (.bool (decide (x ∈ tgt l v))) ∧ ∃ q, w' = w.drewN q := by
  have HR := Lib.hid (row_q h v hv)
  have HA := Lib.hid (tgt_asc h.up v)
  have HL : Hid ((tgt l v).length ≤ 1000000) := Lib.hid (by rw [tgt_len]; have := deg_le l v; have := h.few; omega)
  have HS := Lib.hid (fun g u W hJ => bsearch_calls g u (tgt l v) x W hJ HA.out HL.out)
  clear h
  generalize decide (x ∈ tgt l v) = r at *
  generalize tgt l v = t at *
  generalize deg l v = d at *
  go_enter Tryd.func30, Tryd.ntmps30
  go_wp2_with (first
    | (go_at_call 55; refine HR.out.mono ?_; rintro e w1 ⟨a, c, g, rfl, HJ, q, rfl⟩)
    | (go_at_call 57; refine (HS.out g _ _ (HJ.out.1.later (Ed.drewN_below _ _ _))).mono ?_; rintro e w2 ⟨i, rfl, rfl⟩))
  go_ret
  exact ⟨rfl, q, rfl⟩
end Go.Proofs.YthnpaiobjmneaaaDoor.Cs
namespace Go.Proofs.YthnpaiobjmneaaaDoor.Ak
open Go.RowKit Go.Proofs.YthnpaiobjmneaaaDoor.Ed Go.Proofs.YthnpaiobjmneaaaDoor.Ro Go.Proofs.YthnpaiobjmneaaaDoor.Cs Go.Lib Go.Sort Go.Shelf
set_option linter.unusedVariables false
set_option linter.unusedSimpArgs false
set_option maxHeartbeats 1000000 in
theorem clos_calls {W : World} {B p bb N : Nat} {tv : Value} {l : List E2} (hc : CS W B p bb tv N l) (b : Nat) (hb : b < N) (b1 b2 : Nat) (h1 : W.cell? ⟨b1, 0, none⟩ = some (pV p)) (h2 : W.cell? ⟨b2, 0, none⟩ = some (.int .i64 (b : Int))) (x : Int) :
    Calls Tryd.prog 62 #[.int .i64 x, .pointer (some ⟨b1, 0, none⟩), .pointer (some ⟨b2, 0, none⟩)] W fun e w' => e = .returned (.bool (!decide (x ∈ tgt l b))) ∧ ∃ q, w' = W.drewN q := by
  have HH := Lib.hid (has_q hc b hb x)
  generalize decide (x ∈ tgt l b) = r at *
  clear hc
  go_enter Tryd.func62, Tryd.ntmps62
  go_wp2_with (go_at_call 30; refine HH.out.mono ?_; rintro e w1 ⟨rfl, q, rfl⟩)
  go_ret
  exact ⟨rfl, q, rfl⟩
theorem below_put {B : Nat} {w0 W : World} (h : Below B w0 W) (hB : B ≤ W.heap.size) (q blk off : Nat) (d : Array Int) (hb : B ≤ blk) : Below B w0 (putRow (Value.int .i64) (Sort.ahead W q) blk off d) := by
  refine ⟨h.os, h.tape, h.output, ?_, fun j hj => ?_⟩
  · have := h.size
    show w0.heap.size ≤ (W.heap.modify blk _).size
    rw [Array.size_modify]; exact this
  · show (W.heap.modify blk _)[j]? = _
    rw [Array.getElem?_modify, if_neg (by omega)]
    exact h.block j hj
theorem below_grow {B : Nat} {w0 W : World} (h : Below B w0 W) (hB : B ≤ W.heap.size) (os : Array Obj) : Below B w0 (grow W os) := by
  refine ⟨h.os, h.tape, h.output, ?_, fun j hj => ?_⟩
  · show w0.heap.size ≤ (W.heap ++ os).size
    rw [Array.size_append]; have := h.size; omega
  · show (W.heap ++ os)[j]? = _
    rw [Array.getElem?_append, if_pos (by omega)]
    exact h.block j hj
set_option maxHeartbeats 2000000 in
theorem idel_calls {w0 : World} {B p bb N : Nat} {tv : Value} {l : List E2} (hc : CS w0 B p bb tv N l) (b : Nat) (hb : b < N) (b1 b2 : Nat) (h1 : w0.cell? ⟨b1, 0, none⟩ = some (pV p)) (h2 : w0.cell? ⟨b2, 0, none⟩ = some (.int .i64 (b : Int)))
    (W : World) (hB : Below w0.heap.size w0 W) (v : Value) (zs : List Int) (ho : OJ W w0.heap.size v zs) (hl : zs.length ≤ 1000000) :
    Calls Tryd.prog 61 #[v, .func (.func 62) #[] #[.pointer (some ⟨b1, 0, none⟩), .pointer (some ⟨b2, 0, none⟩)]] W fun e w' => ∃ v' g, e = .returned v' ∧ JR w' g v' (zs.filter fun x => decide (x ∈ tgt l b)) ∧ Below w0.heap.size w0 w' := by
  have hz := hB.size
  rcases id ho.2 with ⟨rfl, hn⟩ | ⟨g, cap, cur, rfl, hbs, hg, hnc, hcm, hrest⟩
  · obtain rfl : zs = [] := List.eq_nil_of_length_eq_zero hn
    have HB := Lib.hid hB
    have HI := Lib.hid (AnyE.slices_IndexFunc_empty (P := Tryd.prog) (ρ := Tryd.deleteI_ren) { Tryd.deleteI with } none 0 (.func (.func 62) #[] #[.pointer (some ⟨b1, 0, none⟩), .pointer (some ⟨b2, 0, none⟩)]) W)
    clear hc h1 h2 hB ho hn
    go_enter Tryd.func61, Tryd.ntmps61
    go_wp2_with (go_at_call 75; refine HI.out.mono ?_; rintro e w1 ⟨rfl, rfl⟩)
    go_ret
    exact ⟨_, 0, rfl, ⟨none, 0, 0, rfl, Nat.le_refl _, by omega, fun h => by simp at h⟩, HB.out⟩
  · have hH : Holds (Value.int .i64) W g 0 zs.toArray := fun j hj => by
      have hj' : j < zs.length := by simpa using hj
      obtain ⟨q0, q1⟩ := OJ.at ho rfl j hj'
      rw [getElem!_pos zs.toArray j hj]
      simp only [Nat.zero_add]
      refine ⟨?_, q1⟩
      rw [q0, List.getD_eq_getElem?_getD, List.getElem?_eq_getElem hj']
      simp
    have hcl : ∀ W', Below w0.heap.size w0 W' → ∀ x, FnGives Tryd.prog 62 #[.pointer (some ⟨b1, 0, none⟩), .pointer (some ⟨b2, 0, none⟩)] #[.int .i64 x] (.bool (!decide (x ∈ tgt l b))) W' := fun W' h x =>
      clos_calls (hc.later h) b hb b1 b2 ((h.cell (World.block_lt_of_cell? _ _ h1)).trans h1) ((h.cell (World.block_lt_of_cell? _ _ h2)).trans h2) x
    have eg : ∀ args w, (callFunc 62 args).run Tryd.prog w = .ok (.enter 62 args) w := enters_of Tryd.func62 (by kernel_rfl) rfl
    have hcon := AnyE.slices_DeleteFunc (P := Tryd.prog) (ρ := Tryd.deleteI_ren) Tryd.deleteI (Value.int .i64) (fun _ => rfl) (fun x => !decide (x ∈ tgt l b)) 62 #[.pointer (some ⟨b1, 0, none⟩), .pointer (some ⟨b2, 0, none⟩)] eg 0 Tryd.zeroValue3 g 0 cap zs.toArray W
      (fun W' x h => hcl W' (hB.trans (h.mono hz)) x)
      (fun n os dk x hd => hcl _ (below_grow (below_put hB hz n g 0 dk hbs) (by
        show _ ≤ (W.heap.modify g _).size
        rw [Array.size_modify]; exact hz) os) x)
      hH (by simp; omega) (by simpa using hnc)
    simp only [List.size_toArray, Bool.not_not] at hcon
    refine hcon.mono ?_
    rintro e w' ⟨rfl, q, rfl⟩
    obtain ⟨F, hF⟩ : ∃ F, (zs.filter fun x => decide (x ∈ tgt l b)) = F := ⟨_, rfl⟩
    rw [hF]
    have hle : F.length ≤ zs.length := by rw [← hF]; exact List.length_filter_le _ _
    have hsz : (F ++ List.replicate (zs.length - F.length) (0 : Int)).toArray.size = zs.toArray.size := by simp; omega
    have hh := holds_putRow (Value.int .i64) (Sort.ahead W q) g 0 zs.toArray _ (holds_ahead _ W q g 0 _ hH) hsz
    refine ⟨_, g, rfl, ⟨some ⟨g, 0, none⟩, cap, 0, rfl, by omega, by simp only [maxLen] at hcm; omega, fun hp => ⟨rfl, ?_, fun i hi => ?_⟩⟩, below_put hB hz q g 0 _ hbs⟩
    · show g < (W.heap.modify g _).size
      rw [Array.size_modify]; exact (Array.getElem?_eq_some_iff.1 hg).1
    · have := (hh i (by rw [hsz]; simp; omega)).1
      rw [this, getElem!_pos _ i (by rw [hsz]; simp; omega)]
      simp [List.getElem_append, hi, List.getD_eq_getElem?_getD]
end Go.Proofs.YthnpaiobjmneaaaDoor.Ak
