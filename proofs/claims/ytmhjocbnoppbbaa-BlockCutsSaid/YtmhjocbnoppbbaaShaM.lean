/- A slice of texts among a law's arguments, as the walks ask it; the law ShaGoes, walked. -/
import Derived.Test.YtmhjocbnoppbbaaShaL
import Derived.SliceStrings
import Derived.SizedLaws
import Derived.OpenShut
import Derived.Laws.Concat
namespace Go.Proofs.Ytmhjocbnoppbbaa.Sha
open Go.RowKit
set_option linter.unusedVariables false
set_option linter.unusedSimpArgs false

theorem weightsAll_mem {H : Type} {P : Program} {e : TypeId} : ∀ {l : List (DataW H)} {d : DataW H}, d ∈ l → ∀ n ∈ d.weights P e, n ∈ DataW.weightsAll P e l
  | d' :: r, d, hd, n, hn => by
    simp only [DataW.weightsAll, List.mem_append]
    rcases List.mem_cons.1 hd with rfl | h
    · exact Or.inl hn
    · exact Or.inr (weightsAll_mem h n hn)
open Go.ChangeShapes Go.WideShapes in
theorem strs_open {H : Type} {enc : TypeId × Value → H} {P : Program} {W : World} {base : Nat} {spare : Nat → Bool} {held : Bool} {ts : List TypeId} {ds : List (DataW H)} (hsz : (DataW.weightsEach P ts ds).all (· ≤ reachBytes) = true) {j : Nat} {t e : TypeId} (htj : ts[j]? = some t) {d : DataW H} (hdj : ds[j]? = some d)
    (hu : P.underlying t = some (.slice e)) (he : P.underlying e = some .string) (hc : P.cellsOf e = 1) {a : Option Addr} {len cap : Nat} {cs : List Value} (hcs0 : cs = [.slice a len cap]) {fuel : Nat} {p : List MemPlace} (h : DataW.trod enc P W base spare held fuel t cs = some (d, p)) :
    ∃ g ss, SR W g (.slice a len cap) ss ∧ ∀ s ∈ ss, s.size ≤ 140737488351232 := by
  rcases open_strings hu he hc h with ⟨hcs, hx⟩ | ⟨x, l, c, zs, hcs, _, hl, hm, hz, hx, hcell, hwz⟩
  · rw [hcs0] at hcs
    injection hcs with hcs _
    injection hcs with h1 h2 h3
    subst h1 h2 h3
    exact ⟨0, [], ⟨none, 0, rfl, Nat.le_refl _, by omega, fun h => by simp at h⟩, by simp⟩
  · rw [hcs0] at hcs
    injection hcs with hcs _
    injection hcs with h1 h2 h3
    subst h1 h2 h3
    have hlz : len ≤ zs.length := by rw [hz]; split <;> omega
    refine ⟨x.block, zs.take len, ⟨some x, cap, by rw [List.length_take, Nat.min_eq_left hlz], by rw [List.length_take]; omega, by simpa [maxLen] using hm, fun h => ⟨x, rfl, rfl, fun i hi => ?_⟩⟩, fun s hs => ?_⟩
    · rw [List.length_take] at hi
      rw [hcell i (by omega)]
      simp [List.getD_eq_getElem?_getD, List.getElem?_take_of_lt (show i < len by omega)]
    · injection hx with hd _
      subst hd
      have hmem : (DataW.lit (.string s.data.toList) : DataW H) ∈ strs (zs.take len) := by
        unfold strs
        exact List.mem_map.2 ⟨s, hs, rfl⟩
      have := List.all_eq_true.1 hsz _ (DataW.weights_mem_each htj hdj s.data.toList.length (by
        simp only [DataW.weights, hu, List.mem_cons, List.mem_append]
        exact Or.inr (Or.inl (weightsAll_mem hmem _ (by simp [DataW.weights])))))
      have h2 := of_decide_eq_true this
      rw [Array.length_toList] at h2
      exact h2

theorem lenT_calls {w : World} {sb kb : Nat} {txt : List UInt8} (h : StT w sb kb txt) :
    Calls Try.prog 22 #[.pointer (some ⟨sb, 0, none⟩)] w fun e w' => e = .returned (.int .i64 ((txt.length : Nat) : Int)) ∧ w = w' := by
  obtain ⟨rb, v, h⟩ := h
  exact len_calls h
theorem dig_size (t : List UInt8) : (dig t).size = 32 := by
  show (digB _).toArray.size = _
  rw [List.size_toArray, digB_length, dW_length]
theorem ss_getD {ss : List ByteArray} (h : ∀ s ∈ ss, s.size ≤ 140737488351232) (k : Nat) : (ss.getD k ByteArray.empty).size ≤ 140737488351232 := by
  by_cases hk : k < ss.length
  · have : ss.getD k ByteArray.empty = ss[k] := by simp [List.getD_eq_getElem?_getD, hk]
    rw [this]
    exact h _ (List.getElem_mem hk)
  · have : ss.getD k ByteArray.empty = ByteArray.empty := by simp [List.getD_eq_getElem?_getD, List.getElem?_eq_none (Nat.le_of_not_lt hk)]
    rw [this]; simp
theorem append_bytes (a b : ByteArray) : (a ++ b).data.toList = a.data.toList ++ b.data.toList := by simp
theorem append_sz (a b : ByteArray) : (a ++ b).size = a.size + b.size := ByteArray.size_append
theorem toList_len (b : ByteArray) : b.data.toList.length = b.size := by rw [Array.length_toList]; rfl

set_option maxHeartbeats 4000000 in
set_option maxRecDepth 100000 in
theorem goes_walk (lb : Nat) (lv : Value) (ss : List ByteArray) (w : World) (hl : SR w lb lv ss) (hss : ∀ s ∈ ss, s.size ≤ 140737488351232) :
    Calls Try.prog 6 #[lv] w fun e w' => e = .returned (.bool true) ∧ Below w.heap.size w w' := by
  have hl' := hl
  obtain ⟨A, cp, rfl, hcp, hcm, -⟩ := hl
  have HL := Lib.hid hl'
  have HSS := Lib.hid hss
  clear hl' hss
  obtain ⟨len, hlen⟩ : ∃ len, ss.length = len := ⟨_, rfl⟩
  rw [hlen] at hcp HL ⊢
  have HLEN := Lib.hid hlen
  clear hlen
  go_enter Try.func6, Try.ntmps6
  by_cases h30 : len ≤ 30
  case neg =>
    have k30 : (30 : Int) < (len : Int) := by omega
    clear h30
    go_wp2_with (go_at_call 16; refine (awake_calls w).mono ?_; rintro e w1 ⟨rfl, HB1⟩)
    go_ret
    exact ⟨rfl, HB1.out⟩
  case pos =>
    have k30 : ¬ (30 : Int) < (len : Int) := by omega
    clear h30
    go_wp2_with (first
      | (go_at_call 16; refine (awake_calls w).mono ?_; rintro e w1 ⟨rfl, HB1⟩)
      | (go_at_call 18; refine (newT_calls w1).mono ?_; rintro e w2 ⟨rfl, HS2, HB2⟩))
    have hb2 : Below w.heap.size w w2 := HB1.out.trans (HB2.out.mono HB1.out.size)
    have hsb : w.heap.size ≤ w1.heap.size + 1 := by have := HB1.out.size; omega
    obtain ⟨sb, hsb'⟩ : ∃ sb, w1.heap.size + 1 = sb := ⟨_, rfl⟩
    obtain ⟨kb, hkb'⟩ : ∃ kb, w1.heap.size = kb := ⟨_, rfl⟩
    rw [hsb'] at HS2 hsb ⊢
    rw [hkb'] at HS2
    have HBB := Lib.hid hb2
    clear hb2 HB1 HB2 hsb' hkb'
    go_loopw [4, 16] (fun u i wr => ∃ (k : Nat) (b : ByteArray), k ≤ len ∧ u = .string b ∧ i = .int .i64 k ∧ b.size ≤ 3000 ∧ Hid (b.data.toList = cat (ss.take k)) ∧ Hid (StT wr sb kb b.data.toList) ∧ Hid (Below w.heap.size w wr)) (fun _ i _ => len - (intOf i).toNat)
    case atStart => exact ⟨0, ByteArray.empty, by omega, rfl, rfl, by simp, by simp [Hid, cat], by simpa [Hid] using HS2, HBB⟩
    case round =>
      clear HS2 HBB
      obtain ⟨k, b, hk, rfl, rfl, hbs, HC, HS, HB⟩ := hrel
      by_cases hlt : k < len
      · have hbw := HB.out.size
        have hl1 := HL.out.later HB.out
        obtain ⟨A', c', hv', -, -, hread⟩ := hl1
        rw [HLEN.out] at hread hv'
        obtain ⟨ad, hA, -, hcell⟩ := hread (by omega)
        injection hv' with hv' _ hcc
        subst hcc
        rw [← hv'] at hA
        subst hA
        have ct := hcell k hlt
        have hsn := cat_take ss k (by rw [HLEN.out]; exact hlt)
        have hssz := ss_getD HSS.out k
        obtain ⟨s, hs⟩ : ∃ s, ss.getD k ByteArray.empty = s := ⟨_, rfl⟩
        rw [hs] at ct hsn hssz
        have hb2 : (b ++ s).data.toList = cat (ss.take (k + 1)) := by rw [append_bytes, HC.out, hsn]
        have hadd : ∀ w, (Op.stringOp .add b s).run Try.prog w = .ok (.string (b ++ s)) w := fun w => run_string_add_sum w b s (by omega)
        have hsz2 := append_sz b s
        obtain ⟨b2, hbe⟩ : ∃ b2, b ++ s = b2 := ⟨_, rfl⟩
        rw [hbe] at hb2 hadd hsz2
        have hbb : b2.data.toList = b.data.toList ++ s.data.toList := by rw [← hbe, append_bytes]
        have HN := Lib.hid hb2
        have HBB2 := Lib.hid hbb
        clear hcell hv' hsn hs hb2 hbb hbe hread
        have k0 : (0 : Int) ≤ (k : Int) := by omega
        have k1 : (k : Int) < (len : Int) := by omega
        by_cases h3 : b2.size ≤ 3000
        · have k3 : ¬ (3000 : Int) < (b2.size : Int) := by omega
          have H3 := Lib.hid h3
          have HS2 := Lib.hid hsz2
          clear h3 hsz2
          obtain ⟨D, hD⟩ : ∃ D, dig b2.data.toList = D := ⟨_, rfl⟩
          have hd32 : ((D.size : Int) != 32) = false := by rw [← hD, dig_size]; rfl
          have hD2 : dig (cat [b2]) = D := by rw [cat_one]; exact hD
          have hbl : b2.data.toList.length = b2.size := toList_len b2
          have HD := Lib.hid hD
          have HD2 := Lib.hid hD2
          have HBL := Lib.hid hbl
          have hwsb : wr.heap.size ≠ sb := by have := HS.out.lt; omega
          have hsz4 : b.data.toList.length + (cat [s]).length ≤ 1000000 := by rw [cat_one, toList_len, toList_len]; have := HS2.out; have := H3.out; omega
          have HSZ4 := Lib.hid hsz4
          have hsz5 : b2.data.toList.length ≤ 1000000 := by rw [hbl]; have := H3.out; omega
          have HSZ5 := Lib.hid hsz5
          clear hD hD2 hbl hsz4 hsz5
          go_wp2_with (first
            | (go_at_call 19; refine (write_calls sb kb wr.heap.size b.data.toList _ [s] _ (HS.out.later ((Below.refl _ _).alloc (Nat.le_refl _) _)) (SR.lit wr [s] _ rfl 1 rfl (by simp)) hwsb HSZ4.out).mono ?_; rintro e w4 ⟨rfl, hs4, hg4⟩; rw [cat_one, ← HBB2.out] at hs4; have HB4 : Hid (Below w.heap.size w w4) := Lib.hid ((HB.out.alloc hbw _).grown hg4 (by simp; omega) (fun k hk => by injection hk with hk; omega)); have HS4 := Lib.hid hs4; clear hs4 hg4)
            | (go_at_call 20; refine (sum_calls w5.heap.size _ [b2] _ (SR.lit w5 [b2] _ rfl 1 rfl (by simp)) (by rw [cat_one]; exact HSZ5.out)).mono ?_; rw [HD2.out]; rintro e w6 ⟨rfl, hb6⟩; have hb56 : Below w5.heap.size w5 w6 := Below.trans ((Below.refl _ _).alloc (Nat.le_refl _) _) (hb6.mono (by simp)); have HS6 := Lib.hid (HS5.out.later hb56); have HB6 := Lib.hid (HB5.out.trans (hb56.mono HB5.out.size)); clear hb6 hb56)
            | (go_at_call 21; refine (summed_calls sb kb b2.data.toList w6 HS6.out HSZ5.out).mono ?_; rw [HD.out]; rintro e w7 ⟨rfl, hb7⟩; have HS7 := Lib.hid (HS6.out.later hb7); have HB7 := Lib.hid (HB6.out.trans (hb7.mono HB6.out.size)); clear hb7)
            | (go_at_call 21; refine (summed_calls sb kb b2.data.toList w4 HS4.out HSZ5.out).mono ?_; rw [HD.out]; rintro e w5 ⟨rfl, hb5⟩; have HS5 := Lib.hid (HS4.out.later hb5); have HB5 := Lib.hid (HB4.out.trans (hb5.mono HB4.out.size)); clear hb5)
            | (go_at_call 22; refine (lenT_calls HS7.out).mono ?_; rw [HBL.out]; rintro e w8 ⟨rfl, rfl⟩))
          go_roundw
          case rel => exact ⟨k + 1, b2, by omega, rfl, by go_num, H3.out, HN, HS7, HB7⟩
          case measure => simp [intOf]; omega
        · have k3 : (3000 : Int) < (b2.size : Int) := by omega
          have H3 := Lib.hid h3
          have HS2 := Lib.hid hsz2
          clear h3 hsz2
          go_wp2_with (fail)
          go_ret
          exact ⟨rfl, HB.out⟩
      · obtain rfl : k = len := by omega
        clear hlt hk
        go_wp2
        go_ret
        exact ⟨rfl, HB.out⟩
end Go.Proofs.Ytmhjocbnoppbbaa.Sha
