/- block.Read over any source of blocks: the walk. -/
import Derived.Test.YtmhjocbnoppbbaaDoorRead
namespace Go.Proofs.YtmhjocbnoppbbaaDoor.Sha
open Go.RowKit
set_option linter.unusedVariables false
set_option linter.unusedSimpArgs false

/-- what block.Read makes of its rounds -/
def readV (n f m : Int) (a : Int) (r : List Int × List UInt8 × Er.Er) : ByteArray × Er.Er :=
  match r.2.2 with
  | .nil => ((⟨r.2.1.toArray⟩ : ByteArray).extract (f - a * 64).toNat (f - a * 64 + m).toNat, .nil)
  | .no c => (⟨#[]⟩, .no c)
  | .at p e => (⟨#[]⟩, .at p e)
theorem readV_no {n f m a : Int} {l : List Int} {acc : List UInt8} {e : Er.Er} (h : e ≠ .nil) : readV n f m a (l, acc, e) = (⟨#[]⟩, e) := by
  cases e with
  | nil => exact absurd rfl h
  | no c => rfl
  | «at» p e => rfl

theorem func_nil (F : Nat) (caps : Array Value) (w : World) : (binOp .eql 25 (.func (.func F) #[] caps) .nilFunc).run Tryd.prog w = .ok (.bool false) w := by kernel_rfl
section
variable {F : Nat} {caps : Array Value} {ans : List Int → Int → ByteArray × Er.Er} {I : (Nat → Prop) → List Int → World → Prop} {ok : List Int → Int → Prop}
set_option maxHeartbeats 2000000 in
set_option maxRecDepth 100000 in
/-- nothing is wanted -/
theorem read0_calls (S : Source F caps ans I ok) (O : Nat → Prop) (l : List Int) (n f : Int) (w : World) (h : I O l w) (hn : n ≤ 1000000000) (hf0 : 0 ≤ f) (hf : f ≤ n) :
    Calls Tryd.prog 12 #[.func (.func F) #[] caps, .int .i64 n, .int .i64 f, .int .i64 0] w fun e w' => e = .returned (.tuple #[.string ⟨#[]⟩, .nilIface]) ∧ I O l w' ∧ KeptO O w w' := by
  have hN := Lib.hid (Blk.needs_calls n f 0 w hn hf0 hf (by omega) (by omega))
  have hne : Blk.needs n f 0 = (0, -1) := rfl
  rw [hne] at hN
  simp only at hN
  have H := Lib.hid h
  have hfn := func_nil F caps
  clear h hne
  go_enter Tryd.func12, Tryd.ntmps12
  go_wp2_with (go_at_call 16; refine hN.out.mono ?_; rintro e w' ⟨rfl, rfl⟩)
  refine wp_loop_rounds 1 ?_
  rw [rounds_succ]
  go_wp2
  go_ret2
  have hb : Below w.heap.size w (w.alloc (.cells #[.pointer none, .slice none 0 0] 74)) := (Below.refl _ _).alloc (Nat.le_refl _) _
  exact ⟨rfl, S.keep O l w _ H.out hb.size (fun k hk => by obtain ⟨o, ho, _⟩ := S.here O l w k H.out hk; exact hb.block k (Array.getElem?_eq_some_iff.1 ho).1), KeptO.of hb⟩

theorem isB_new (w : World) : Lib.IsBuilderF 74 5 w.heap.size w.heap.size [] (w.alloc (.cells #[.pointer none, .slice none 0 0] 74)) :=
  .inl ⟨Nat.le_refl _, _, heap_alloc_new w _, ⟨rfl, .inl ⟨rfl, rfl⟩⟩, by simp [Value.ownBlock]⟩

set_option maxHeartbeats 4000000 in
set_option maxRecDepth 100000 in
/-- many bytes, at least one -/
theorem readn_calls (S : Source F caps ans I ok) (O : Nat → Prop) (l : List Int) (n f m a b : Int) (w : World) (h : I O l w) (hn : n ≤ 1000000000) (hf0 : 0 ≤ f) (hm0 : 0 < m) (hm : m ≤ n - f)
    (ha : f / 64 = a) (hb : (f + m - 1) / 64 = b) (hok : ∀ l' i, l'.length = l.length + (i - a).toNat → a ≤ i → i ≤ b → ok l' i) (V : ByteArray × Er.Er) (hV : readV n f m a (rdl n ans (b + 1 - a).toNat l a []) = V) :
    Calls Tryd.prog 12 #[.func (.func F) #[] caps, .int .i64 n, .int .i64 f, .int .i64 m] w fun e w' => e = .returned (.tuple #[.string V.1, V.2.val]) ∧
      ∃ O', I O' (rdl n ans (b + 1 - a).toNat l a []).1 w' ∧ (∀ k, O' k → O k ∨ w.heap.size ≤ k) ∧ KeptO O w w' := by
  have hN := Blk.needs_calls n f m w hn hf0 (by omega) (by omega) hm
  have hne : Blk.needs n f m = (a, b) := by unfold Blk.needs; rw [if_neg (by omega), ha, hb]
  rw [hne] at hN
  simp only at hN
  have HN := Lib.hid hN
  have HV := Lib.hid hV
  have HOK := Lib.hid hok
  have HI0 := Lib.hid h
  have a1 : 64 * a ≤ f := by omega
  have a2 : f < 64 * a + 64 := by omega
  have b1 : 64 * b ≤ f + m - 1 := by omega
  have b2 : f + m - 1 < 64 * b + 64 := by omega
  have ha0 : 0 ≤ a := by omega
  have hab : a ≤ b := by omega
  have hbn : b < Blk.cnt n := by unfold Blk.cnt; omega
  have hb9 : b ≤ 1000000000 := by omega
  have HBN := Lib.hid hbn
  have hmf : ((m : Int) == 0) = false := by rw [beq_eq_false_iff_ne]; omega
  have hfn := func_nil F caps
  clear hN hV hok h hne ha hb hbn
  go_enter Tryd.func12, Tryd.ntmps12
  go_wp2_with (go_at_call 16; refine HN.out.mono ?_; rintro e w' ⟨rfl, rfl⟩)
  have hb0 : Below w.heap.size w (w.alloc (.cells #[.pointer none, .slice none 0 0] 74)) := (Below.refl _ _).alloc (Nat.le_refl _) _
  have HS0 : Hid (I O l (w.alloc (.cells #[.pointer none, .slice none 0 0] 74)) ∧ ¬ O w.heap.size) := Lib.hid ⟨S.keep O l w _ HI0.out hb0.size (fun k hk => by obtain ⟨o, ho, _⟩ := S.here O l w k HI0.out hk; exact hb0.block k (Array.getElem?_eq_some_iff.1 ho).1),
    fun hk => by obtain ⟨o, ho, _⟩ := S.here O l w _ HI0.out hk; have := (Array.getElem?_eq_some_iff.1 ho).1; omega⟩
  have HK0 : Hid (KeptO O w (w.alloc (.cells #[.pointer none, .slice none 0 0] 74))) := Lib.hid (KeptO.of hb0)
  clear hb0
  go_loopw [14] (fun x wr => ∃ (k : Nat) (l' : List Int) (acc : List UInt8) (O' : Nat → Prop), x = .int .i64 (a + (k : Int)) ∧ a + (k : Int) ≤ b + 1 ∧ acc.length ≤ 1000000000 ∧ Hid (l'.length = l.length + k) ∧
    Hid (rdl n ans (b + 1 - a).toNat l a [] = rdl n ans (b + 1 - (a + (k : Int))).toNat l' (a + (k : Int)) acc) ∧
    Hid (64 * (a + (k : Int)) ≤ n ∧ (acc.length : Int) = 64 * (k : Int) ∨ n ≤ 64 * (a + (k : Int)) ∧ (acc.length : Int) = n - 64 * a) ∧ Hid (I O' l' wr) ∧
    Hid (Lib.IsBuilderF 74 5 w.heap.size w.heap.size (Lib.byteCells acc) wr) ∧ Hid (¬ O' w.heap.size) ∧ Hid (∀ i, O' i → O i ∨ w.heap.size ≤ i) ∧ Hid (KeptO O w wr)) (fun x _ => (b + 1 - intOf x).toNat)
  case atStart => exact ⟨0, l, [], O, by simp, by omega, by simp, Lib.hid rfl, Lib.hid (by simp), Lib.hid (by left; exact ⟨by simp; omega, by simp⟩), Lib.hid HS0.out.1, Lib.hid (isB_new w), Lib.hid HS0.out.2, Lib.hid (fun i hi => .inl hi), HK0⟩
  case round =>
    obtain ⟨k, l', acc, O', rfl, hk, hacc, HLL, HR, HL, HI, HB, HNO, HO, HK⟩ := hrel
    by_cases hlt : a + (k : Int) ≤ b
    · have hi0 : 0 ≤ a + (k : Int) := by omega
      have hone := one_calls S O' l' n (a + (k : Int)) wr HI.out (HOK.out l' _ (by have := HLL.out; omega) (by omega) hlt) (by omega) hn (by omega) (by omega)
      have hrk : (b + 1 - (a + (k : Int))).toNat = (b + 1 - (a + ((k + 1 : Nat) : Int))).toNat + 1 := by omega
      have hsz : ∀ s, oneR n (a + (k : Int)) (ans l' (a + (k : Int))) = (s, .nil) → (s.size : Int) = Blk.siz n (a + (k : Int)) := fun s hs => oneR_size hs
      have hrn : ∀ s, oneR n (a + (k : Int)) (ans l' (a + (k : Int))) = (s, .nil) → _ := fun s hs => rdl_nil (k := (b + 1 - (a + ((k + 1 : Nat) : Int))).toNat) (acc := acc) hs
      have hrx : ∀ s e, oneR n (a + (k : Int)) (ans l' (a + (k : Int))) = (s, e) → e ≠ .nil → _ := fun s e hs he => rdl_no (k := (b + 1 - (a + ((k + 1 : Nat) : Int))).toNat) (acc := acc) hs he
      have hBlt : w.heap.size < wr.heap.size := by rcases HB.out with h | h <;> exact h.lt
      generalize oneR n (a + (k : Int)) (ans l' (a + (k : Int))) = r at hone hsz hrn hrx
      obtain ⟨s, e⟩ := r
      have HONE := Lib.hid hone
      by_cases hen : e = .nil
      · subst hen
        have hs1 := hsz s rfl
        have hs2 := hrn s rfl
        clear hone hsz hrn hrx
        obtain ⟨hin, hs3⟩ := Blk.siz_in n (a + (k : Int)) hi0 (by have := HBN.out; omega)
        have hs64 : s.size ≤ 64 := by omega
        have HR2 : Hid (rdl n ans (b + 1 - a).toNat l a [] = rdl n ans (b + 1 - (a + ((k + 1 : Nat) : Int))).toNat (l' ++ [a + (k : Int)]) (a + ((k + 1 : Nat) : Int)) (acc ++ s.data.toList)) := Lib.hid (by
          rw [HR.out, hrk, hs2]; congr 1; omega)
        have hal : (acc ++ s.data.toList).length = acc.length + s.size := by simp
        have HL2 : Hid (64 * (a + ((k + 1 : Nat) : Int)) ≤ n ∧ ((acc ++ s.data.toList).length : Int) = 64 * ((k + 1 : Nat) : Int) ∨ n ≤ 64 * (a + ((k + 1 : Nat) : Int)) ∧ ((acc ++ s.data.toList).length : Int) = n - 64 * a) := Lib.hid (by
          have := HL.out; rw [hal]; omega)
        have hacc2 : acc.length + s.size ≤ 1000000000 := by have := HL2.out; rw [hal] at this; omega
        clear hs1 hs2 hin hs3 hal
        simp only [Er.Er.val] at HONE
        go_wp2_with (first
          | (go_at_call 39; refine HONE.out.mono ?_; rintro e w2 ⟨rfl, O2, hI2, hO2, hK2⟩; have HI2 := Lib.hid hI2; have HO2 := Lib.hid hO2; have HK2 := Lib.hid hK2; clear hI2 hO2 hK2; have HB2 := Lib.hid (isB_kept HB.out HK2.out HNO.out (fun i hi => S.here O' l' wr i HI.out hi)))
          | (go_at_call 40; refine (Go.Proofs.Tryd.write_k w.heap.size w.heap.size (Lib.byteCells acc) s w2 HB2.out (by simp [Lib.byteCells]; omega) (by have := HK2.out.size; omega)).mono ?_; rintro e w3 ⟨rfl, hB3, hW3, hT3⟩; have HB3 := Lib.hid hB3; have HW3 := Lib.hid hW3; have HT3 := Lib.hid hT3; clear hB3 hW3 hT3))
        go_roundw
        case rel =>
          refine ⟨k + 1, l' ++ [a + (k : Int)], acc ++ s.data.toList, O2, by go_num, by omega, by simpa using hacc2, Lib.hid (by have := HLL.out; simp; omega), HR2, HL2, Lib.hid ?_, Lib.hid ?_, Lib.hid ?_, Lib.hid ?_, Lib.hid ?_⟩
          · refine S.keep O2 _ w2 _ HI2.out HW3.out.size (fun i hi => ?_)
            obtain ⟨o, ho, hno⟩ := S.here O2 _ w2 i HI2.out hi
            rw [ho]
            refine HT3.out i o ho (fun e => ?_) hno
            injection e with e
            subst e
            rcases HO2.out _ hi with h | h
            · exact HNO.out h
            · omega
          · refine .inr ?_
            have e : Lib.byteCells (acc ++ s.data.toList) = Lib.byteCells acc ++ Lib.strCells s := by simp [Lib.byteCells, Lib.strCells]
            rw [e]; exact HB3.out
          · intro h
            rcases HO2.out _ h with h | h
            · exact HNO.out h
            · omega
          · intro i hi
            rcases HO2.out i hi with h | h
            · exact HO.out i h
            · right; have := HK.out.size; omega
          · have h23 : KeptO (fun i => w.heap.size ≤ i) w2 w3 := ⟨HW3.out.os, HW3.out.tape, HW3.out.output, HW3.out.size, fun i hi hn => HW3.out.block i (by omega)⟩
            exact (HK.out.trans HK2.out HO.out).trans h23 (fun i hi => .inr hi)
        case measure => simp [intOf]; omega
      · have hs2 := hrx s e rfl hen
        clear hone hsz hrn hrx
        rw [hrk, hs2] at HR
        clear hs2 hrk
        have HENE := Lib.hid hen
        have hval : ∃ t v, e.val = .iface t v := by
          cases e with
          | nil => exact absurd rfl hen
          | no c => exact ⟨_, _, rfl⟩
          | «at» p e => exact ⟨_, _, rfl⟩
        obtain ⟨t, v, hv⟩ := hval
        have hV2 : V = (⟨#[]⟩, e) := by rw [← HV.out, HR.out, readV_no hen]
        subst hV2
        clear hen
        rw [hv] at HONE
        have HVV := Lib.hid hv
        clear hv
        go_wp2_with (go_at_call 39; refine HONE.out.mono ?_; rintro e w2 ⟨rfl, O2, hI2, hO2, hK2⟩; have HI2 := Lib.hid hI2; have HO2 := Lib.hid hO2; have HK2 := Lib.hid hK2; clear hI2 hO2 hK2)
        go_ret2
        refine ⟨?_, O2, ?_, ?_, ?_⟩
        · show _ = Ending.returned (.tuple #[.string ⟨#[]⟩, e.val])
          rw [HVV.out]; rfl
        · rw [HR.out]; exact HI2.out
        · intro i hi
          rcases HO2.out i hi with h | h
          · exact HO.out i h
          · right; have := HK.out.size; omega
        · exact HK.out.trans HK2.out HO.out
    · have hkb : a + (k : Int) = b + 1 := by omega
      have hr2 : rdl n ans (b + 1 - a).toNat l a [] = (l', acc, .nil) := by rw [HR.out, hkb, show (b + 1 - (b + 1)).toNat = 0 by omega]; rfl
      have HR2 := Lib.hid hr2
      have hV2 : V = ((⟨acc.toArray⟩ : ByteArray).extract (f - a * 64).toNat (f - a * 64 + m).toNat, .nil) := by rw [← HV.out, hr2]; rfl
      have hsz : f - a * 64 + m ≤ (((⟨acc.toArray⟩ : ByteArray).size : Nat) : Int) := by
        show _ ≤ ((acc.toArray.size : Nat) : Int)
        rw [List.size_toArray]
        have := HL.out; omega
      have hszn : (⟨acc.toArray⟩ : ByteArray).size ≤ 1000000000 := by
        show acc.toArray.size ≤ _
        rw [List.size_toArray]; exact hacc
      subst hV2
      have hgt : ¬ (a + (k : Int) ≤ b) := hlt
      have HKB := Lib.hid hkb
      clear hr2 hkb HR HV
      have hBw := HK.out.size
      have HST := Lib.hid (Go.Proofs.Tryd.string_k w.heap.size w.heap.size acc wr HB.out hBw)
      obtain ⟨S0, hS0⟩ : ∃ S0, (⟨acc.toArray⟩ : ByteArray) = S0 := ⟨_, rfl⟩
      rw [hS0] at hsz hszn HST
      have HSE := Lib.hid hS0
      clear hS0
      go_wp2_with (go_at_call 41; refine HST.out.mono ?_; rintro e w3 ⟨rfl, hB3, hW3, hT3⟩; have HB3 := Lib.hid hB3; have HW3 := Lib.hid hW3; have HT3 := Lib.hid hT3; clear hB3 hW3 hT3)
      go_ret2
      refine ⟨by rw [HSE.out]; rfl, O', ?_, HO.out, ?_⟩
      · rw [HR2.out]
        refine S.keep O' _ wr _ HI.out HW3.out.size (fun i hi => ?_)
        obtain ⟨o, ho, hno⟩ := S.here O' _ wr i HI.out hi
        rw [ho]
        refine HT3.out i o ho (fun e => ?_) hno
        injection e with e
        subst e
        exact HNO.out hi
      · have h23 : KeptO (fun i => w.heap.size ≤ i) wr w3 := ⟨HW3.out.os, HW3.out.tape, HW3.out.output, HW3.out.size, fun i hi hn => HW3.out.block i (by omega)⟩
        exact HK.out.trans h23 (fun i hi => .inr hi)
end

/-- block.Of's source -/
theorem of_source (B g : Nat) (ss : List ByteArray) (hn : ss.length ≤ 1000000) :
    Source 37 #[.pointer (some ⟨B, 0, none⟩)] (fun _ i => (ofT ss i, ofE ss i)) (fun O _ w => OfS w B g ss ∧ ∀ k, O k ↔ k = B ∨ k = g ∧ ss ≠ []) (fun _ _ => True) where
  enters := by
    intro args w
    have h := Go.Proofs.enters_of (P := Tryd.prog) Tryd.func37 (by kernel_rfl) rfl
    exact h args w
  keep := by
    intro O l w w' ⟨⟨v, h1, h2, h3⟩, h4⟩ hs hk
    refine ⟨⟨v, (hk B ((h4 B).2 (.inl rfl))).trans h1, ?_, ?_⟩, h4⟩
    · by_cases he : ss = []
      · subst he
        obtain ⟨A, c, hv, k1, k2, k3⟩ := h2
        exact ⟨A, c, hv, k1, k2, fun h => by simp at h⟩
      · obtain ⟨A, c, hv, k1, k2, k3⟩ := h2
        refine ⟨A, c, hv, k1, k2, fun h => ?_⟩
        obtain ⟨ad, e1, e2, e3⟩ := k3 h
        refine ⟨ad, e1, e2, fun i hi => ?_⟩
        rw [World.cell?_of_block (w := w)]
        · exact e3 i hi
        · rw [Addr.add_block, e2]; exact hk g ((h4 g).2 (.inr ⟨rfl, he⟩))
    · intro he
      obtain ⟨cur, fz, hc⟩ := h3 he
      exact ⟨cur, fz, (hk g ((h4 g).2 (.inr ⟨rfl, he⟩))).trans hc⟩
  here := by
    intro O l w k ⟨⟨v, h1, h2, h3⟩, h4⟩ hk
    rcases (h4 k).1 hk with rfl | ⟨rfl, he⟩
    · exact ⟨_, h1, fun c fz e => by injection e with _ e _; exact absurd e (by decide)⟩
    · obtain ⟨cur, fz, hc⟩ := h3 he
      exact ⟨_, hc, fun c fz e => by injection e with _ e _; exact absurd e (by decide)⟩
  call := by
    intro O l w i ⟨h1, h4⟩ _
    refine (of1_calls B g ss i w h1 hn).mono ?_
    rintro e w' ⟨rfl, rfl⟩
    exact ⟨rfl, O, ⟨h1, h4⟩, fun k hk => .inl hk, KeptO.of (Below.refl _ _)⟩
end Go.Proofs.YtmhjocbnoppbbaaDoor.Sha
