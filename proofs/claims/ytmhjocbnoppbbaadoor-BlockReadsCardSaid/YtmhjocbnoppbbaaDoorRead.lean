/- block.Read over any source of blocks. -/
import Derived.Test.YtmhjocbnoppbbaaDoorSrc
import Derived.Test.YtmhjocbnoppbbaaDoorBlk
import Derived.Test.YtmhjocbnoppbbaaDoorBuil
import Derived.Lib.OthersKept
import Derived.Shelf.Abstract
namespace Go.Proofs.YtmhjocbnoppbbaaDoor.Sha
open Go.RowKit
set_option linter.unusedVariables false
set_option linter.unusedSimpArgs false

/-- of what was there only the blocks in O may have turned -/
structure KeptO (O : Nat → Prop) (w w' : World) : Prop where
  os : w'.os = w.os
  tape : w'.tape = w.tape
  output : w'.output = w.output
  size : w.heap.size ≤ w'.heap.size
  block : ∀ k, k < w.heap.size → ¬ O k → w'.heap[k]? = w.heap[k]?
theorem KeptO.of {O : Nat → Prop} {w w' : World} (h : Below w.heap.size w w') : KeptO O w w' := ⟨h.os, h.tape, h.output, h.size, fun k hk _ => h.block k hk⟩
theorem KeptO.trans {O O' : Nat → Prop} {a b c : World} (h : KeptO O a b) (k : KeptO O' b c) (hO : ∀ i, O' i → O i ∨ a.heap.size ≤ i) : KeptO O a c :=
  ⟨k.os.trans h.os, k.tape.trans h.tape, k.output.trans h.output, Nat.le_trans h.size k.size, fun i hi ho => (k.block i (Nat.lt_of_lt_of_le hi h.size) (fun e => by rcases hO i e with e | e; exact ho e; omega)).trans (h.block i hi ho)⟩

/-- A SOURCE OF BLOCKS: its function F, what it captured, what it tells (by what it was asked before), and, by 'I', which blocks of memory are its own when it was asked for l -/
structure Source (F : Nat) (caps : Array Value) (ans : List Int → Int → ByteArray × Er.Er) (I : (Nat → Prop) → List Int → World → Prop) (ok : List Int → Int → Prop) : Prop where
  enters : ∀ (args : Array Value) (w : World), (callFunc F args).run Tryd.prog w = .ok (.enter F args) w
  keep : ∀ O l w w', I O l w → w.heap.size ≤ w'.heap.size → (∀ k, O k → w'.heap[k]? = w.heap[k]?) → I O l w'
  here : ∀ O l w k, I O l w → O k → ∃ o, w.heap[k]? = some o ∧ ∀ c fz, o ≠ .cells c 5 fz
  call : ∀ O l w i, I O l w → ok l i → Calls Tryd.prog F (#[.int .i64 i] ++ caps) w fun e w' => e = .returned (.tuple #[.string (ans l i).1, (ans l i).2.val]) ∧
    ∃ O', I O' (l ++ [i]) w' ∧ (∀ k, O' k → O k ∨ w.heap.size ≤ k) ∧ KeptO O w w'

/-- what (Source).one makes of what a source told -/
def oneR (n i : Int) (r : ByteArray × Er.Er) : ByteArray × Er.Er :=
  match r.2 with
  | .nil => if (r.1.size : Int) = Blk.siz n i then (r.1, .nil) else (⟨#[]⟩, .at i (.no 4))
  | .no c => (⟨#[]⟩, .at i (.no c))
  | .at k e => (⟨#[]⟩, .at i (.at k e))

section
variable {F : Nat} {caps : Array Value} {ans : List Int → Int → ByteArray × Er.Er} {I : (Nat → Prop) → List Int → World → Prop} {ok : List Int → Int → Prop}
set_option maxHeartbeats 1000000 in
set_option maxRecDepth 100000 in
theorem one_calls (S : Source F caps ans I ok) (O : Nat → Prop) (l : List Int) (n i : Int) (w : World) (h : I O l w) (hi : ok l i) (h0 : 0 ≤ n) (h1 : n ≤ 1000000000) (hi0 : -9000000000000000000 ≤ i) (hi1 : i ≤ 9000000000000000000) :
    Calls Tryd.prog 39 #[.func (.func F) #[] caps, .int .i64 n, .int .i64 i] w fun e w' => e = .returned (.tuple #[.string (oneR n i (ans l i)).1, (oneR n i (ans l i)).2.val]) ∧
      ∃ O', I O' (l ++ [i]) w' ∧ (∀ k, O' k → O k ∨ w.heap.size ≤ k) ∧ KeptO O w w' := by
  have hS := Lib.hid (S.call O l w i h hi)
  have hE := S.enters
  generalize ans l i = r at hS ⊢
  obtain ⟨s, e⟩ := r
  cases e with
  | no c =>
    simp only [Er.Er.val] at hS
    show Calls _ _ _ _ fun e w' => e = .returned (.tuple #[.string ⟨#[]⟩, (Er.Er.at i (.no c)).val]) ∧ _
    simp only [Er.Er.val]
    clear h hi
    go_enter Tryd.func39, Tryd.ntmps39
    go_wp2_with (go_at_fn F; refine hS.out.mono ?_; rintro e w' ⟨rfl, O', hI, hO, hK⟩; have HI := Lib.hid hI; have HO := Lib.hid hO; have HK := Lib.hid hK; clear hI hO hK)
    go_ret2
    exact ⟨rfl, O', HI.out, HO.out, HK.out⟩
  | «at» k e2 =>
    simp only [Er.Er.val] at hS
    show Calls _ _ _ _ fun e w' => e = .returned (.tuple #[.string ⟨#[]⟩, (Er.Er.at i (.at k e2)).val]) ∧ _
    simp only [Er.Er.val]
    clear h hi
    go_enter Tryd.func39, Tryd.ntmps39
    go_wp2_with (go_at_fn F; refine hS.out.mono ?_; rintro e w' ⟨rfl, O', hI, hO, hK⟩; have HI := Lib.hid hI; have HO := Lib.hid hO; have HK := Lib.hid hK; clear hI hO hK)
    go_ret2
    exact ⟨rfl, O', HI.out, HO.out, HK.out⟩
  | nil =>
    simp only [Er.Er.val] at hS
    clear h hi
    by_cases hsz : (s.size : Int) = Blk.siz n i
    · have hr : oneR n i (s, .nil) = (s, .nil) := by unfold oneR; simp only; rw [if_pos hsz]
      have hd : ((s.size : Int) != Blk.siz n i) = false := by rw [hsz]; simp
      rw [hr]
      simp only [Er.Er.val]
      clear hr hsz
      go_enter Tryd.func39, Tryd.ntmps39
      go_wp2_with (first | (go_at_fn F; refine hS.out.mono ?_; rintro e w' ⟨rfl, O', hI, hO, hK⟩; have HI := Lib.hid hI; have HO := Lib.hid hO; have HK := Lib.hid hK; clear hI hO hK) | (go_at_call 36; refine (Blk.size_calls n i _ h0 h1 hi0 hi1).mono ?_; rintro e w6 ⟨rfl, rfl⟩))
      go_ret2
      exact ⟨rfl, O', HI.out, HO.out, HK.out⟩
    · have hr : oneR n i (s, .nil) = (⟨#[]⟩, .at i (.no 4)) := by unfold oneR; simp only; rw [if_neg hsz]
      have hd : ((s.size : Int) != Blk.siz n i) = true := by rw [bne_iff_ne]; exact hsz
      rw [hr]
      simp only [Er.Er.val]
      clear hr hsz
      go_enter Tryd.func39, Tryd.ntmps39
      go_wp2_with (first | (go_at_fn F; refine hS.out.mono ?_; rintro e w' ⟨rfl, O', hI, hO, hK⟩; have HI := Lib.hid hI; have HO := Lib.hid hO; have HK := Lib.hid hK; clear hI hO hK) | (go_at_call 36; refine (Blk.size_calls n i _ h0 h1 hi0 hi1).mono ?_; rintro e w6 ⟨rfl, rfl⟩))
      go_ret2
      exact ⟨rfl, O', HI.out, HO.out, HK.out⟩

/-- the rounds of block.Read: what was asked for, what was read, and why it ended -/
def rdl (n : Int) (ans : List Int → Int → ByteArray × Er.Er) : Nat → List Int → Int → List UInt8 → List Int × List UInt8 × Er.Er
  | 0, l, i, acc => (l, acc, .nil)
  | k + 1, l, i, acc =>
    match oneR n i (ans l i) with
    | (s, .nil) => rdl n ans k (l ++ [i]) (i + 1) (acc ++ s.data.toList)
    | (_, .no c) => (l ++ [i], acc, .no c)
    | (_, .at p e) => (l ++ [i], acc, .at p e)
theorem rdl_nil {n : Int} {ans : List Int → Int → ByteArray × Er.Er} {k : Nat} {l : List Int} {i : Int} {acc : List UInt8} {s : ByteArray} (h : oneR n i (ans l i) = (s, .nil)) :
    rdl n ans (k + 1) l i acc = rdl n ans k (l ++ [i]) (i + 1) (acc ++ s.data.toList) := by rw [rdl, h]
theorem rdl_no {n : Int} {ans : List Int → Int → ByteArray × Er.Er} {k : Nat} {l : List Int} {i : Int} {acc : List UInt8} {s : ByteArray} {e : Er.Er} (h : oneR n i (ans l i) = (s, e)) (hne : e ≠ .nil) :
    rdl n ans (k + 1) l i acc = (l ++ [i], acc, e) := by
  rw [rdl, h]
  cases e with
  | nil => exact absurd rfl hne
  | no c => rfl
  | «at» p e => rfl
theorem oneR_size {n i : Int} {r : ByteArray × Er.Er} {s : ByteArray} (h : oneR n i r = (s, .nil)) : (s.size : Int) = Blk.siz n i := by
  obtain ⟨t, e⟩ := r
  unfold oneR at h
  cases e with
  | no c => simp at h
  | «at» k e => simp at h
  | nil =>
    simp only at h
    split at h
    · next h2 =>
      injection h with h3 _
      rw [← h3]; exact h2
    · simp at h
/-- what a builder that is none of the source's keeps across a call of the source -/
theorem isB_kept {B b : Nat} {bs : List Value} {w w' : World} {O : Nat → Prop} (h : Lib.IsBuilderF 74 5 B b bs w) (hk : KeptO O w w') (hb : ¬ O b)
    (hO : ∀ k, O k → ∃ o, w.heap[k]? = some o ∧ ∀ c fz, o ≠ .cells c 5 fz) : Lib.IsBuilderF 74 5 B b bs w' := by
  have key : ∀ p, Lib.BuilderAtF 74 5 B b p bs w → Lib.BuilderAtF 74 5 B b p bs w' := by
    intro p hp
    have hlt := hp.lt
    obtain ⟨hB, v, hv, hown, hne⟩ := hp
    refine ⟨hB, v, (hk.block b hlt hb).trans hv, ⟨hown.1, ?_⟩, hne⟩
    rcases hown.2 with h1 | ⟨g, cap, cur, fz, h1, h2, h3, h4⟩
    · exact .inl h1
    · refine .inr ⟨g, cap, cur, fz, h1, h2, (hk.block g (Array.getElem?_eq_some_iff.1 h3).1 (fun hg => ?_)).trans h3, h4⟩
      obtain ⟨o, ho, hno⟩ := hO g hg
      rw [h3] at ho
      exact hno cur fz (Option.some.inj ho).symm
  exact h.elim (fun x => .inl (key _ x)) (fun x => .inr (key _ x))
end
end Go.Proofs.YtmhjocbnoppbbaaDoor.Sha
