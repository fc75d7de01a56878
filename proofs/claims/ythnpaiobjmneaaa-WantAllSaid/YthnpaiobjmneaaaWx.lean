/- WantAll: in the end nothing is missing. -/
import Derived.Test.YthnpaiobjmneaaaWl
import Derived.Test.YthnpaiobjmneaaaOpen
import Derived.Deep.LoopGhost
namespace Go.Proofs.Ythnpaiobjmneaaa.Wa
open Go.RowKit Go.Maps
set_option linter.unusedVariables false
set_option linter.unusedSimpArgs false

/-- what holds of the numbers at the head of a tick: how much is to come -/
structure All (k : Nat) (now at' : Nat) (M A : List Int) : Prop where
  sub : ∀ i ∈ A, i ∈ M
  full : A.length ≤ k
  few : M.length ≤ 60
  ticks : now ≤ at'
  left : M.length + now ≤ 360
  many : at' ≤ now * 64
theorem All.done {k now at' : Nat} {A : List Int} (h : All k now at' [] A) : A = [] := by
  cases A with
  | nil => rfl
  | cons x xs => exact absurd (h.sub x (by simp)) (by simp)
theorem rest_sub (T : Int → Int) (now : Int) (A : List Int) : ∀ i ∈ restF T now A, i ∈ A := fun i h => (List.mem_filter.1 h).1
theorem rest_len (T : Int → Int) (now : Int) (A : List Int) : (restF T now A).length ≤ A.length := List.length_filter_le _ _
/-- while the window is filled: who is asked for -/
structure Fil (k : Nat) (M A : List Int) : Prop where
  sub : ∀ i ∈ A, i ∈ M
  full : A.length ≤ k
theorem asc_le {A M : List Int} (ha : Asc A) (hm : Asc M) (h : ∀ i ∈ A, i ∈ M) : A.length ≤ M.length := by
  have e : A = M.filter fun i => A.contains i := asc_ext ha (asc_filter hm _) fun x => by
    simp only [List.mem_filter, List.contains_eq_mem, decide_eq_true_eq]
    exact ⟨fun hx => ⟨h x hx, hx⟩, fun hx => hx.2⟩
  rw [e]
  exact List.length_filter_le _ _
theorem Fil.next {k : Nat} {M A : List Int} {i : Int} (h : Fil k M A) (hk : A.length < k) (hn : nxt M A = some i) : Fil k M (ins i A) := by
  refine ⟨fun x hx => ?_, ?_⟩
  · rcases mem_ins.1 hx with rfl | hx
    · exact (nxt_some hn).1
    · exact h.sub x hx
  · rw [nxt_len hn]; omega
/-- while what is asked for comes, or not: j of A0 have been looked at -/
structure Com (M0 A0 : List Int) (j at0 : Nat) (M A : List Int) : Prop where
  sub : ∀ i ∈ A, i ∈ M
  asked : ∀ i ∈ A, i ∈ A0
  there : ∀ l, j ≤ l → l < A0.length → A0.getD l 0 ∈ M
  less : M.length ≤ M0.length
  alen : A.length ≤ A0.length
  left : 300 ≤ at0 → M.length + j ≤ M0.length
theorem Com.start {M0 A0 : List Int} (h : ∀ i ∈ A0, i ∈ M0) (at0 : Nat) : Com M0 A0 0 at0 M0 A0 :=
  ⟨h, fun _ h => h, fun l _ hl => h _ (by rw [List.getD_eq_getElem?_getD, List.getElem?_eq_getElem hl]; exact List.getElem_mem _), Nat.le_refl _, Nat.le_refl _, fun _ => by omega⟩
theorem Com.skip {M0 A0 M A : List Int} {j at0 : Nat} (h : Com M0 A0 j at0 M A) (h3 : ¬ 300 ≤ at0) : Com M0 A0 (j + 1) at0 M A :=
  ⟨h.sub, h.asked, fun l hl hl2 => h.there l (by omega) hl2, h.less, h.alen, fun e => absurd e h3⟩
theorem Com.come {M0 A0 M A : List Int} {j at0 : Nat} (h : Com M0 A0 j at0 M A) (hj : j < A0.length) (hm : Asc M) (ha0 : Asc A0) : Com M0 A0 (j + 1) at0 (del (A0.getD j 0) M) (del (A0.getD j 0) A) := by
  have hin := h.there j (Nat.le_refl _) hj
  have hl := del_len hm hin
  refine ⟨fun i hi => ?_, fun i hi => h.asked i (mem_del.1 hi).1, fun l hl hl2 => ?_, by have := h.less; omega, Nat.le_trans (del_len_le _ _) h.alen, fun e => by have := h.left e; omega⟩
  · obtain ⟨h1, h2⟩ := mem_del.1 hi
    exact mem_del.2 ⟨h.sub i h1, h2⟩
  · refine mem_del.2 ⟨h.there l (by omega) hl2, fun e => ?_⟩
    have := (List.pairwise_iff_getElem.1 ha0) j l hj hl2 (by omega)
    simp only [List.getD_eq_getElem?_getD, List.getElem?_eq_getElem hj, List.getElem?_eq_getElem hl2, Option.getD_some] at e
    omega
theorem Com.all {M0 A0 M A : List Int} {k now at0 : Nat} (h : Com M0 A0 A0.length at0 M A) (hi : All k now at0 M0 A0) (hp : 0 < A0.length) (h64 : A0.length ≤ 64) : All k (now + 1) (at0 + A0.length) M A := by
  have h1 := hi.few
  have h2 := hi.ticks
  have h3 := hi.left
  have h4 := hi.many
  have h5 := h.less
  refine ⟨h.sub, Nat.le_trans h.alen hi.full, by omega, by omega, ?_, by omega⟩
  by_cases e : 300 ≤ at0
  · have := h.left e
    omega
  · omega

theorem st_nil {w0 w : World} {p mb ab : Nat} {k t : Int} {M A : List Int} {T : Int → Int} (h : St w0 w p mb ab k t M A T) (i : Int) (hi : i ∈ M) {g : Nat} {v : Value} {l : List Int} (hr : Hid (JR w g v l)) (hm : g ≠ mb) (ha : g ≠ ab) :
    Calls Try.prog 19 #[.pointer (some ⟨p, 0, none⟩), .int .i64 i] w fun e w' => e = .returned (.bool true) ∧ Hid (St w0 w' p mb ab k t (del i M) (del i A) T) ∧ Hid (JR w' g v l) :=
  (got_calls p mb ab k t M A T i w h.ws (h.ws.bm.wf i hi)).mono fun e w' ⟨he, h1, h2⟩ => by
    rw [if_pos hi] at h1
    exact ⟨by rw [he, decide_eq_true hi], Lib.hid (h.kp h1 h2), Lib.hid (hr.out.kp h2 hm ha)⟩
end Go.Proofs.Ythnpaiobjmneaaa.Wa
