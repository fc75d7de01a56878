/- gap, walked: a row's bytes. -/
import Derived.Test.YtjokfllldcjheaaOw
import Derived.Test.YtjokfllldcjheaaCu
namespace Go.Proofs.Ytjokfllldcjheaa.Oc
open Go.RowKit Go.Proofs.Ytjokfllldcjheaa.Sha Go.Proofs.Ytjokfllldcjheaa.Ro
set_option linter.unusedVariables false
set_option linter.unusedSimpArgs false
theorem bytes_eq {b : ByteArray} {l : List UInt8} (h : b.data.toList = l) : b = ⟨l.toArray⟩ := by
  subst h; rfl
theorem bytes_len {b : ByteArray} {l : List UInt8} (h : b.data.toList = l) : b.size = l.length := by
  subst h; rw [Array.length_toList]; rfl
theorem bytes_app (a b : ByteArray) : (a ++ b).data.toList = a.data.toList ++ b.data.toList := by simp
set_option maxHeartbeats 1000000 in
theorem may_calls (N v : Nat) (hN : N ≤ 4096) (hv : v < N) (w : World) : Calls Try.prog 32 #[.int .i64 (N : Int), .int .i64 (v : Int)] w fun e w' => e = .returned .nilIface ∧ w = w' := by
  have h0 : ¬ (N : Int) < 0 := by omega
  have h1 : ¬ (N : Int) > 4096 := by omega
  have h2 : ¬ (v : Int) < 0 := by omega
  have h3 : ¬ (v : Int) ≥ (N : Int) := by omega
  go_enter Try.func32, Try.ntmps32
  go_wp2
  go_ret
  exact ⟨rfl, rfl⟩
set_option maxHeartbeats 1000000 in
theorem gwrong_calls (p : Int) (k : Int) (w : World) :
    Calls Try.prog 33 #[.int .i64 p, .iface 45 (.int .i64 k)] w fun e w' => e = .returned (faultV p k) ∧ w = w' := by
  go_enter Try.func33, Try.ntmps33
  go_wp2
  go_ret
  exact ⟨rfl, rfl⟩
/-- targets' bytes behind the count -/
def gapT (v : Int) : List Int → List UInt8
  | [] => []
  | t :: r => shB (turn (t - v)) ++ gaps t r
theorem gapB_eq (v : Int) (l : List Int) : gapB v l = shB l.length ++ gapT v l := by cases l <;> rfl
theorem gaps_snoc (x : Int) : ∀ (r : List Int) (last : Int), gaps last (r ++ [x]) = gaps last r ++ shB (x - (last :: r).getD r.length 0 - 1).toNat
  | [], last => by simp [gaps]
  | t :: r, last => by
    rw [List.cons_append, gaps, gaps_snoc x r t, gaps, List.append_assoc]
    rfl
theorem gapT_step (v : Int) (l : List Int) (k : Nat) (hk : k < l.length) : gapT v (l.take (k + 1)) = gapT v (l.take k) ++ (if k = 0 then shB (turn (l.getD 0 0 - v)) else shB (l.getD k 0 - l.getD (k - 1) 0 - 1).toNat) := by
  cases l with
  | nil => simp at hk
  | cons t r =>
    cases k with
    | zero => simp [gapT, gaps]
    | succ k =>
      have hk' : k < r.length := by simpa using hk
      rw [if_neg (by omega), List.take_succ_cons, List.take_add_one, List.getElem?_eq_getElem hk', Option.toList_some, gapT, gaps_snoc, List.take_succ_cons, gapT, List.append_assoc]
      congr 3
      have e1 : (t :: r).getD (k + 1) 0 = r[k] := by simp [List.getD_eq_getElem?_getD, hk']
      have e2 : (t :: r.take k).getD (r.take k).length 0 = (t :: r).getD (k + 1 - 1) 0 := by
        rw [List.length_take, Nat.min_eq_left (by omega), Nat.add_sub_cancel]
        cases k with
        | zero => rfl
        | succ j => simp [List.getD_eq_getElem?_getD, List.getElem?_take]
      rw [e1, e2]
/-- the one ahead; of the first one -1 -/
def lastOf (l : List Int) (k : Nat) : Int := if k = 0 then -1 else l.getD (k - 1) 0
set_option maxHeartbeats 4000000 in
set_option maxRecDepth 100000 in
theorem gput_calls (N v : Nat) (hN : N ≤ 4096) (hv : v < N) (g : Nat) (u : Value) (l : List Int) (w : World) (hj : JR w g u l) (h0 : ∀ x ∈ l, 0 ≤ x ∧ x < (N : Int)) (hp : l.Pairwise (· < ·)) (hl : l.length ≤ N) :
    Calls Try.prog 45 #[.int .i64 (N : Int), .int .i64 (v : Int), u] w fun e w' => e = .returned (.tuple #[.string ⟨(gapB v l).toArray⟩, .nilIface]) ∧ Hid (Below w.heap.size w w') := by
  have HJ := Lib.hid hj
  have H0 := Lib.hid h0
  have HP := Lib.hid (List.pairwise_iff_getElem.1 hp)
  have HG := Lib.hid (gapT_step (v : Int) l)
  obtain ⟨A, c, o, rfl, h1, h2, hrd⟩ := hj
  obtain ⟨n, hn⟩ : ∃ n, l.length = n := ⟨_, rfl⟩
  rw [hn] at h1 hl hrd ⊢
  have HN := Lib.hid hn
  have HRD := Lib.hid hrd
  obtain ⟨G, hG⟩ : ∃ G, gapB (v : Int) l = G := ⟨_, rfl⟩
  rw [hG]
  have HGB : Hid (shB n ++ gapT v l = G) := Lib.hid (by rw [← hG, gapB_eq, hn])
  have HLT : Hid (∀ k, k < n → (l.getD k 0 > lastOf l k) ∧ 0 ≤ l.getD k 0 ∧ l.getD k 0 < (N : Int)) := Lib.hid (fun k hk => by
    have hk' : k < l.length := by rw [hn]; exact hk
    have hm : l.getD k 0 ∈ l := by rw [List.getD_eq_getElem?_getD, List.getElem?_eq_getElem hk']; exact List.getElem_mem _
    have hb := h0 _ hm
    refine ⟨?_, hb⟩
    unfold lastOf
    split
    · omega
    · rename_i hne
      have := HP.out (k - 1) k (by omega) hk' (by omega)
      rw [List.getD_eq_getElem?_getD, List.getD_eq_getElem?_getD, List.getElem?_eq_getElem hk', List.getElem?_eq_getElem (by omega)]
      exact this)
  have HS0 : Hid ((shS n).data.toList = shB n ++ gapT v (l.take 0)) := Lib.hid (by simp [gapT]; rfl)
  have hn2 : n ≤ 4096 := by omega
  clear hn hG h0 hp hrd
  go_enter Try.func45, Try.ntmps45
  go_upto_region 6 with (go_at_call 32; refine (may_calls N v hN hv _).mono ?_; rintro e w1 ⟨rfl, rfl⟩)
  go_loopw [9, 25] (fun a x wz => ∃ k : Nat, a = .int .i64 (lastOf l k) ∧ x = .int .i64 (k : Int) ∧ k ≤ n ∧ wz = w) (fun _ x _ => n - (intOf x).toNat)
  case atStart => exact ⟨0, rfl, rfl, Nat.zero_le _, rfl⟩
  case round =>
    obtain ⟨k, rfl, rfl, hk, hwz⟩ := hrel
    subst hwz
    by_cases hlt : k < n
    · obtain ⟨rfl, hgl, hcell⟩ := HRD.out (by omega)
      have q := hcell k hlt
      obtain ⟨hgt, hx0, hxN⟩ := HLT.out k hlt
      have hnx : lastOf l (k + 1) = l.getD k 0 := by unfold lastOf; rw [if_neg (by omega)]; rfl
      obtain ⟨x, hx⟩ : ∃ x, l.getD k 0 = x := ⟨_, rfl⟩
      rw [hx] at q hgt hx0 hxN hnx
      obtain ⟨la, hla⟩ : ∃ la, lastOf l k = la := ⟨_, rfl⟩
      rw [hla] at hgt ⊢
      have HNX := Lib.hid hnx
      have i0 : (0 : Int) ≤ (k : Int) := by omega
      have i1 : (k : Int) < (n : Int) := by omega
      have b1 : ¬ x ≤ la := by omega
      have b2 : ¬ x ≥ (N : Int) := by omega
      clear hcell hx hla hnx
      go_wp2
      go_roundw
      case rel => exact ⟨k + 1, by rw [HNX.out], by go_num, by omega, trivial⟩
      case measure => simp [intOf]; omega
    · obtain rfl : n = k := by omega
      go_upto_region 14 with (go_at_call 47; refine (putShort_calls n (by omega) _).mono ?_; rintro e w1 ⟨rfl, HB1⟩)
      have HB0 := HB1
      go_loopw [12, 51] (fun s x wz => ∃ (k : Nat) (b : ByteArray), s = .string b ∧ x = .int .i64 (k : Int) ∧ k ≤ n ∧ Hid (b.data.toList = shB n ++ gapT v (l.take k)) ∧ Hid (b.size ≤ 10 + 10 * k) ∧ Hid (Below wr.heap.size wr wz)) (fun _ x _ => n - (intOf x).toNat)
      case atStart => exact ⟨0, shS n, rfl, rfl, Nat.zero_le _, HS0, Lib.hid (by rw [bytes_len (shS_list n)]; have := shB_le 7 n (by omega); omega), HB1⟩
      case round =>
        clear HS0 HB1 HB0
        obtain ⟨k, b, rfl, rfl, hk, HS, HZ, HB⟩ := hrel
        rename World => wz
        have hbsz := HZ.out
        by_cases hlt2 : k < n
        · obtain ⟨A2, c2, o2, hv2, -, -, hr2⟩ := HJ.out.later HB.out
          rw [HN.out] at hv2 hr2
          obtain ⟨rfl, -, hcell⟩ := hr2 (by omega)
          injection hv2 with hv2 _ hcc
          subst hcc hv2
          have q := hcell k hlt2
          obtain ⟨hgt, hx0, hxN⟩ := HLT.out k hlt2
          have hst := HG.out k (by rw [HN.out]; exact hlt2)
          have i0 : (0 : Int) ≤ (k : Int) := by omega
          have i1 : (k : Int) < (n : Int) := by omega
          by_cases hk0 : k = 0
          · subst hk0
            rw [if_pos rfl] at hst
            obtain ⟨x, hx⟩ : ∃ x, l.getD 0 0 = x := ⟨_, rfl⟩
            rw [hx] at q hx0 hxN hst
            have HTC := Lib.hid (fun W => putTurned_calls (x - (v : Int)) (by omega) (by omega) W)
            have HTL : Hid ((shB (turn (x - (v : Int)))).length ≤ 8) := Lib.hid (shB_le 7 _ (turn_lt (by omega) (by omega)))
            obtain ⟨y, hy⟩ : ∃ y, turn (x - (v : Int)) = y := ⟨_, rfl⟩
            rw [hy] at hst HTC HTL
            have HST := Lib.hid hst
            have hsz2 : (shS y).size ≤ 8 := by rw [bytes_len (shS_list y)]; exact HTL.out
            have q' : wz.cell? ⟨g, o2, none⟩ = some (.int .i64 x) := q
            have i2 : (0 : Int) < (n : Int) := by omega
            clear hcell hst hx hy hgt q i0 i1
            go_wp2_with (go_at_call 65; refine (HTC.out _).mono ?_; rintro e w2 ⟨rfl, HB2⟩)
            go_roundw
            case rel => exact ⟨1, b ++ shS y, rfl, rfl, by omega, Lib.hid (by rw [bytes_app, HS.out, shS_list, HST.out, List.append_assoc]), Lib.hid (by rw [ByteArray.size_append]; omega), Lib.hid (HB.out.trans (HB2.out.mono HB.out.size))⟩
            case measure => simp [intOf]; omega
          · rw [if_neg hk0] at hst
            have q2 := hcell (k - 1) (by omega)
            have hla : lastOf l k = l.getD (k - 1) 0 := by unfold lastOf; rw [if_neg hk0]
            obtain ⟨hgt2, hx2, hxN2⟩ := HLT.out (k - 1) (by omega)
            rw [hla] at hgt
            obtain ⟨j, hj⟩ : ∃ j, k = j + 1 := ⟨k - 1, by omega⟩
            subst hj
            rw [Nat.add_sub_cancel] at q2 hst hgt hx2 hxN2
            obtain ⟨x, hx⟩ : ∃ x, l.getD (j + 1) 0 = x := ⟨_, rfl⟩
            obtain ⟨z, hz⟩ : ∃ z, l.getD j 0 = z := ⟨_, rfl⟩
            rw [hx] at q hx0 hxN hst hgt
            rw [hz] at q2 hst hgt hx2 hxN2
            obtain ⟨y, hy⟩ : ∃ y, (x - z - 1).toNat = y := ⟨_, rfl⟩
            rw [hy] at hst
            have hyx : x - z - 1 = (y : Int) := by omega
            have HTC := Lib.hid (fun W => putShort_calls y (by omega) W)
            have HTL : Hid ((shB y).length ≤ 8) := Lib.hid (shB_le 7 _ (by omega))
            have HST := Lib.hid hst
            have hsz2 : (shS y).size ≤ 8 := by rw [bytes_len (shS_list y)]; exact HTL.out
            have cj : ((j + 1 : Nat) : Int) = (j : Int) + 1 := by omega
            rw [cj] at i0 i1 ⊢
            have j0 : (0 : Int) ≤ (j : Int) := by omega
            have j1 : (j : Int) < (n : Int) := by omega
            have j2 : ((j : Int) + 1).toNat = j + 1 := by omega
            have j3 : ¬ (j : Int) + 1 = 0 := by omega
            have j4 : (j : Int) + 1 - 1 = (j : Int) := by omega
            clear hcell hst hx hz hy hgt hk0 hla
            go_wp2_with (go_at_call 47; refine (HTC.out _).mono ?_; rintro e w2 ⟨rfl, HB2⟩)
            go_roundw
            case rel => exact ⟨j + 2, b ++ shS y, rfl, by go_num, by omega, Lib.hid (by rw [bytes_app, HS.out, shS_list, HST.out, List.append_assoc]), Lib.hid (by rw [ByteArray.size_append]; omega), Lib.hid (HB.out.trans (HB2.out.mono HB.out.size))⟩
            case measure => simp [intOf]; omega
        · obtain rfl : n = k := by omega
          have HF : Hid (b = ⟨G.toArray⟩) := Lib.hid (bytes_eq (by rw [HS.out, List.take_of_length_le (by rw [HN.out]; exact Nat.le_refl _)]; exact HGB.out))
          go_wp2
          go_ret2
          exact ⟨by rw [HF.out]; rfl, HB⟩
end Go.Proofs.Ytjokfllldcjheaa.Oc
