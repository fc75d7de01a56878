/- gap, walked: a row's bytes. · gap, walked: a row is read. · gap, walked: Get. -/
import Derived.Test.YtjokfllldcjheaaGreatDoorOw
import Derived.Test.YtjokfllldcjheaaGreatDoorCu
import Derived.BigQuiet
import Derived.BigRegion
/- gap, walked: a row's bytes. -/
namespace Go.Proofs.YtjokfllldcjheaaGreatDoor.Oc
open Go.RowKit Go.Proofs.YtjokfllldcjheaaGreatDoor.Sha Go.Proofs.YtjokfllldcjheaaGreatDoor.Ro
set_option linter.unusedVariables false
set_option linter.unusedSimpArgs false
theorem bytes_eq {b : ByteArray} {l : List UInt8} (h : b.data.toList = l) : b = ⟨l.toArray⟩ := by
  subst h; rfl
theorem bytes_len {b : ByteArray} {l : List UInt8} (h : b.data.toList = l) : b.size = l.length := by
  subst h; rw [Array.length_toList]; rfl
theorem bytes_app (a b : ByteArray) : (a ++ b).data.toList = a.data.toList ++ b.data.toList := by simp
set_option maxHeartbeats 1000000 in
theorem may_calls (N v : Nat) (hN : N ≤ 4096) (hv : v < N) (w : World) : Calls Tryz.prog 87 #[.int .i64 (N : Int), .int .i64 (v : Int)] w fun e w' => e = .returned .nilIface ∧ w = w' := by
  have h0 : ¬ (N : Int) < 0 := by omega
  have h1 : ¬ (N : Int) > 4096 := by omega
  have h2 : ¬ (v : Int) < 0 := by omega
  have h3 : ¬ (v : Int) ≥ (N : Int) := by omega
  go_enter Tryz.func87, Tryz.ntmps87
  go_wp2
  go_ret
  exact ⟨rfl, rfl⟩
set_option maxHeartbeats 1000000 in
theorem gwrong_calls (p : Int) (k : Int) (w : World) :
    Calls Tryz.prog 88 #[.int .i64 p, .iface 96 (.int .i64 k)] w fun e w' => e = .returned (faultV p k) ∧ w = w' := by
  go_enter Tryz.func88, Tryz.ntmps88
  go_wp2
  go_ret
  exact ⟨rfl, rfl⟩
/-- targets' bytes behind the count -/
def gapT (v : Int) : List Int → List UInt8
  | [] => []
  | t :: r => shB (turn (t - v)) ++ gaps t r
theorem gapB_eq (v : Int) (l : List Int) : gapB v l = shB l.length ++ gapT v l := by cases l <;> rfl
theorem gaps_snoc (x : Int) : ∀ (r : List Int) (last : Int), gaps last (r ++ [x]) = gaps last r ++ shB (x - (last :: r).getD r.length 0 - 1).toNat
  | [], last => by simp [gaps]
  | t :: r, last => by
    rw [List.cons_append, gaps, gaps_snoc x r t, gaps, List.append_assoc]
    rfl
theorem gapT_step (v : Int) (l : List Int) (k : Nat) (hk : k < l.length) : gapT v (l.take (k + 1)) = gapT v (l.take k) ++ (if k = 0 then shB (turn (l.getD 0 0 - v)) else shB (l.getD k 0 - l.getD (k - 1) 0 - 1).toNat) := by
  cases l with
  | nil => simp at hk
  | cons t r =>
    cases k with
    | zero => simp [gapT, gaps]
    | succ k =>
      have hk' : k < r.length := by simpa using hk
      rw [if_neg (by omega), List.take_succ_cons, List.take_add_one, List.getElem?_eq_getElem hk', Option.toList_some, gapT, gaps_snoc, List.take_succ_cons, gapT, List.append_assoc]
      congr 3
      have e1 : (t :: r).getD (k + 1) 0 = r[k] := by simp [List.getD_eq_getElem?_getD, hk']
      have e2 : (t :: r.take k).getD (r.take k).length 0 = (t :: r).getD (k + 1 - 1) 0 := by
        rw [List.length_take, Nat.min_eq_left (by omega), Nat.add_sub_cancel]
        cases k with
        | zero => rfl
        | succ j => simp [List.getD_eq_getElem?_getD, List.getElem?_take]
      rw [e1, e2]
/-- the one ahead; of the first one -1 -/
def lastOf (l : List Int) (k : Nat) : Int := if k = 0 then -1 else l.getD (k - 1) 0
set_option maxHeartbeats 4000000 in
set_option maxRecDepth 100000 in
theorem gput_calls (N v : Nat) (hN : N ≤ 4096) (hv : v < N) (g : Nat) (u : Value) (l : List Int) (w : World) (hj : JR w g u l) (h0 : ∀ x ∈ l, 0 ≤ x ∧ x < (N : Int)) (hp : l.Pairwise (· < ·)) (hl : l.length ≤ N) :
    Calls Tryz.prog 85 #[.int .i64 (N : Int), .int .i64 (v : Int), u] w fun e w' => e = .returned (.tuple #[.string ⟨(gapB v l).toArray⟩, .nilIface]) ∧ Hid (Below w.heap.size w w') := by
  have HJ := Lib.hid hj
  have H0 := Lib.hid h0
  have HP := Lib.hid (List.pairwise_iff_getElem.1 hp)
  have HG := Lib.hid (gapT_step (v : Int) l)
  obtain ⟨A, c, o, rfl, h1, h2, hrd⟩ := hj
  obtain ⟨n, hn⟩ : ∃ n, l.length = n := ⟨_, rfl⟩
  rw [hn] at h1 hl hrd ⊢
  have HN := Lib.hid hn
  have HRD := Lib.hid hrd
  obtain ⟨G, hG⟩ : ∃ G, gapB (v : Int) l = G := ⟨_, rfl⟩
  rw [hG]
  have HGB : Hid (shB n ++ gapT v l = G) := Lib.hid (by rw [← hG, gapB_eq, hn])
  have HLT : Hid (∀ k, k < n → (l.getD k 0 > lastOf l k) ∧ 0 ≤ l.getD k 0 ∧ l.getD k 0 < (N : Int)) := Lib.hid (fun k hk => by
    have hk' : k < l.length := by rw [hn]; exact hk
    have hm : l.getD k 0 ∈ l := by rw [List.getD_eq_getElem?_getD, List.getElem?_eq_getElem hk']; exact List.getElem_mem _
    have hb := h0 _ hm
    refine ⟨?_, hb⟩
    unfold lastOf
    split
    · omega
    · rename_i hne
      have := HP.out (k - 1) k (by omega) hk' (by omega)
      rw [List.getD_eq_getElem?_getD, List.getD_eq_getElem?_getD, List.getElem?_eq_getElem hk', List.getElem?_eq_getElem (by omega)]
      exact this)
  have HS0 : Hid ((shS n).data.toList = shB n ++ gapT v (l.take 0)) := Lib.hid (by simp [gapT]; rfl)
  have hn2 : n ≤ 4096 := by omega
  clear hn hG h0 hp hrd
  go_enter Tryz.func85, Tryz.ntmps85
  go_upto_region 6 with (go_at_call 87; refine (may_calls N v hN hv _).mono ?_; rintro e w1 ⟨rfl, rfl⟩)
  go_loopw [9, 25] (fun a x wz => ∃ k : Nat, a = .int .i64 (lastOf l k) ∧ x = .int .i64 (k : Int) ∧ k ≤ n ∧ wz = w) (fun _ x _ => n - (intOf x).toNat)
  case atStart => exact ⟨0, rfl, rfl, Nat.zero_le _, rfl⟩
  case round =>
    obtain ⟨k, rfl, rfl, hk, hwz⟩ := hrel
    subst hwz
    by_cases hlt : k < n
    · obtain ⟨rfl, hgl, hcell⟩ := HRD.out (by omega)
      have q := hcell k hlt
      obtain ⟨hgt, hx0, hxN⟩ := HLT.out k hlt
      have hnx : lastOf l (k + 1) = l.getD k 0 := by unfold lastOf; rw [if_neg (by omega)]; rfl
      obtain ⟨x, hx⟩ : ∃ x, l.getD k 0 = x := ⟨_, rfl⟩
      rw [hx] at q hgt hx0 hxN hnx
      obtain ⟨la, hla⟩ : ∃ la, lastOf l k = la := ⟨_, rfl⟩
      rw [hla] at hgt ⊢
      have HNX := Lib.hid hnx
      have i0 : (0 : Int) ≤ (k : Int) := by omega
      have i1 : (k : Int) < (n : Int) := by omega
      have b1 : ¬ x ≤ la := by omega
      have b2 : ¬ x ≥ (N : Int) := by omega
      clear hcell hx hla hnx
      go_wp2
      go_roundw
      case rel => exact ⟨k + 1, by rw [HNX.out], by go_num, by omega, trivial⟩
      case measure => simp [intOf]; omega
    · obtain rfl : n = k := by omega
      go_upto_region 14 with (go_at_call 71; refine (putShort_calls n (by omega) _).mono ?_; rintro e w1 ⟨rfl, HB1⟩)
      have HB0 := HB1
      go_loopw [12, 51] (fun s x wz => ∃ (k : Nat) (b : ByteArray), s = .string b ∧ x = .int .i64 (k : Int) ∧ k ≤ n ∧ Hid (b.data.toList = shB n ++ gapT v (l.take k)) ∧ Hid (b.size ≤ 10 + 10 * k) ∧ Hid (Below wr.heap.size wr wz)) (fun _ x _ => n - (intOf x).toNat)
      case atStart => exact ⟨0, shS n, rfl, rfl, Nat.zero_le _, HS0, Lib.hid (by rw [bytes_len (shS_list n)]; have := shB_le 7 n (by omega); omega), HB1⟩
      case round =>
        clear HS0 HB1 HB0
        obtain ⟨k, b, rfl, rfl, hk, HS, HZ, HB⟩ := hrel
        rename World => wz
        have hbsz := HZ.out
        by_cases hlt2 : k < n
        · obtain ⟨A2, c2, o2, hv2, -, -, hr2⟩ := HJ.out.later HB.out
          rw [HN.out] at hv2 hr2
          obtain ⟨rfl, -, hcell⟩ := hr2 (by omega)
          injection hv2 with hv2 _ hcc
          subst hcc hv2
          have q := hcell k hlt2
          obtain ⟨hgt, hx0, hxN⟩ := HLT.out k hlt2
          have hst := HG.out k (by rw [HN.out]; exact hlt2)
          have i0 : (0 : Int) ≤ (k : Int) := by omega
          have i1 : (k : Int) < (n : Int) := by omega
          by_cases hk0 : k = 0
          · subst hk0
            rw [if_pos rfl] at hst
            obtain ⟨x, hx⟩ : ∃ x, l.getD 0 0 = x := ⟨_, rfl⟩
            rw [hx] at q hx0 hxN hst
            have HTC := Lib.hid (fun W => putTurned_calls (x - (v : Int)) (by omega) (by omega) W)
            have HTL : Hid ((shB (turn (x - (v : Int)))).length ≤ 8) := Lib.hid (shB_le 7 _ (turn_lt (by omega) (by omega)))
            obtain ⟨y, hy⟩ : ∃ y, turn (x - (v : Int)) = y := ⟨_, rfl⟩
            rw [hy] at hst HTC HTL
            have HST := Lib.hid hst
            have hsz2 : (shS y).size ≤ 8 := by rw [bytes_len (shS_list y)]; exact HTL.out
            have q' : wz.cell? ⟨g, o2, none⟩ = some (.int .i64 x) := q
            have i2 : (0 : Int) < (n : Int) := by omega
            clear hcell hst hx hy hgt q i0 i1
            go_wp2_with (go_at_call 116; refine (HTC.out _).mono ?_; rintro e w2 ⟨rfl, HB2⟩)
            go_roundw
            case rel => exact ⟨1, b ++ shS y, rfl, rfl, by omega, Lib.hid (by rw [bytes_app, HS.out, shS_list, HST.out, List.append_assoc]), Lib.hid (by rw [ByteArray.size_append]; omega), Lib.hid (HB.out.trans (HB2.out.mono HB.out.size))⟩
            case measure => simp [intOf]; omega
          · rw [if_neg hk0] at hst
            have q2 := hcell (k - 1) (by omega)
            have hla : lastOf l k = l.getD (k - 1) 0 := by unfold lastOf; rw [if_neg hk0]
            obtain ⟨hgt2, hx2, hxN2⟩ := HLT.out (k - 1) (by omega)
            rw [hla] at hgt
            obtain ⟨j, hj⟩ : ∃ j, k = j + 1 := ⟨k - 1, by omega⟩
            subst hj
            rw [Nat.add_sub_cancel] at q2 hst hgt hx2 hxN2
            obtain ⟨x, hx⟩ : ∃ x, l.getD (j + 1) 0 = x := ⟨_, rfl⟩
            obtain ⟨z, hz⟩ : ∃ z, l.getD j 0 = z := ⟨_, rfl⟩
            rw [hx] at q hx0 hxN hst hgt
            rw [hz] at q2 hst hgt hx2 hxN2
            obtain ⟨y, hy⟩ : ∃ y, (x - z - 1).toNat = y := ⟨_, rfl⟩
            rw [hy] at hst
            have hyx : x - z - 1 = (y : Int) := by omega
            have HTC := Lib.hid (fun W => putShort_calls y (by omega) W)
            have HTL : Hid ((shB y).length ≤ 8) := Lib.hid (shB_le 7 _ (by omega))
            have HST := Lib.hid hst
            have hsz2 : (shS y).size ≤ 8 := by rw [bytes_len (shS_list y)]; exact HTL.out
            have cj : ((j + 1 : Nat) : Int) = (j : Int) + 1 := by omega
            rw [cj] at i0 i1 ⊢
            have j0 : (0 : Int) ≤ (j : Int) := by omega
            have j1 : (j : Int) < (n : Int) := by omega
            have j2 : ((j : Int) + 1).toNat = j + 1 := by omega
            have j3 : ¬ (j : Int) + 1 = 0 := by omega
            have j4 : (j : Int) + 1 - 1 = (j : Int) := by omega
            clear hcell hst hx hz hy hgt hk0 hla
            go_wp2_with (go_at_call 71; refine (HTC.out _).mono ?_; rintro e w2 ⟨rfl, HB2⟩)
            go_roundw
            case rel => exact ⟨j + 2, b ++ shS y, rfl, by go_num, by omega, Lib.hid (by rw [bytes_app, HS.out, shS_list, HST.out, List.append_assoc]), Lib.hid (by rw [ByteArray.size_append]; omega), Lib.hid (HB.out.trans (HB2.out.mono HB.out.size))⟩
            case measure => simp [intOf]; omega
        · obtain rfl : n = k := by omega
          have HF : Hid (b = ⟨G.toArray⟩) := Lib.hid (bytes_eq (by rw [HS.out, List.take_of_length_le (by rw [HN.out]; exact Nat.le_refl _)]; exact HGB.out))
          go_wp2
          go_ret2
          exact ⟨by rw [HF.out]; rfl, HB⟩
end Go.Proofs.YtjokfllldcjheaaGreatDoor.Oc
/- gap, walked: a row is read. -/
namespace Go.Proofs.YtjokfllldcjheaaGreatDoor.Oc
open Go.RowKit Go.Proofs.YtjokfllldcjheaaGreatDoor.Sha Go.Proofs.YtjokfllldcjheaaGreatDoor.Ro
set_option linter.unusedVariables false
set_option linter.unusedSimpArgs false
/-- how many targets a row tells -/
def rdCnt (bs : List UInt8) (nodes a : Nat) : Except Bad (Nat × Nat) := match rdAt bs a with
  | .error e => .error e
  | .ok r => if r.1 > nodes then .error (4, a) else .ok r
theorem rdRow_cnt (bs : List UInt8) (nodes a : Nat) (v : Int) : rdRow bs nodes a v = match rdCnt bs nodes a with
    | .error e => .error e
    | .ok r => rdSteps bs nodes r.1 true v r.2 := by
  unfold rdRow rdCnt
  cases rdAt bs a with
  | error e => rfl
  | ok r => simp only; split <;> rfl
theorem rdCnt_len {bs : List UInt8} {nodes a : Nat} {r : Nat × Nat} (h : rdCnt bs nodes a = .ok r) : a < r.2 ∧ r.2 ≤ bs.length ∧ r.1 ≤ nodes := by
  unfold rdCnt at h
  cases e : rdAt bs a with
  | error b => rw [e] at h; simp at h
  | ok q =>
    rw [e] at h
    simp only at h
    split at h
    · simp at h
    · injection h with h
      subst h
      have := rdAt_len e
      omega
section
variable {s : ByteArray} {a : Nat} (h : a ≤ s.size) (hs : s.size ≤ 140737488355328)
theorem list_sz (s : ByteArray) : s.data.toList.length = s.size := by rw [Array.length_toList]; rfl
set_option maxHeartbeats 1000000 in
include h hs in
theorem count_calls (N : Nat) (hN : N ≤ 4096) (w : World) : Calls Tryz.prog 89 #[.string s, .int .i64 (a : Int), .int .i64 (N : Int)] w fun e w' => e = .returned (rdV a (rdCnt s.data.toList N a)) ∧ w = w' := by
  have HS := Lib.hid (Short_calls s a h hs w)
  unfold rdCnt
  cases hR : rdAt s.data.toList a with
  | error b =>
    rw [hR] at HS
    have HS' : Hid (Calls Tryz.prog 86 #[.string s, .int .i64 (a : Int)] w fun e w' => e = .returned (.tuple #[.int .i64 0, .int .i64 (a : Int), faultV (b.2 : Int) (b.1 : Int)]) ∧ w = w') := HS
    clear HS hR
    go_enter Tryz.func89, Tryz.ntmps89
    go_wp2_with (go_at_call 86; refine HS'.out.mono ?_; rintro e w1 ⟨rfl, rfl⟩)
    go_ret3
    exact ⟨rfl, rfl⟩
  | ok r =>
    rw [hR] at HS
    obtain ⟨x, nx⟩ := r
    have HS' : Hid (Calls Tryz.prog 86 #[.string s, .int .i64 (a : Int)] w fun e w' => e = .returned (.tuple #[.int .i64 (x : Int), .int .i64 (nx : Int), .nilIface]) ∧ w = w') := HS
    clear HS hR
    simp only
    by_cases hx : x > N
    · rw [if_pos hx]
      have b1 : (x : Int) > (N : Int) := by omega
      go_enter Tryz.func89, Tryz.ntmps89
      go_wp2_with (first
        | (go_at_call 86; refine HS'.out.mono ?_; rintro e w1 ⟨rfl, rfl⟩)
        | (go_at_call 88; refine (gwrong_calls _ _ _).mono ?_; rintro e w1 ⟨rfl, rfl⟩))
      go_ret3
      exact ⟨rfl, rfl⟩
    · rw [if_neg hx]
      have b1 : ¬ (x : Int) > (N : Int) := by omega
      go_enter Tryz.func89, Tryz.ntmps89
      go_wp2_with (go_at_call 86; refine HS'.out.mono ?_; rintro e w1 ⟨rfl, rfl⟩)
      go_ret3
      exact ⟨rfl, rfl⟩
set_option maxHeartbeats 1000000 in
include h hs in
theorem turned_bad {b : Bad} (hR : rdAt s.data.toList a = .error b) (w : World) : Calls Tryz.prog 118 #[.string s, .int .i64 (a : Int)] w fun e w' => e = .returned (.tuple #[.int .i64 0, .int .i64 (a : Int), faultV (b.2 : Int) (b.1 : Int)]) ∧ w = w' := by
  have HS := Lib.hid (Short_calls s a h hs w)
  rw [hR] at HS
  have HS' : Hid (Calls Tryz.prog 86 #[.string s, .int .i64 (a : Int)] w fun e w' => e = .returned (.tuple #[.int .i64 0, .int .i64 (a : Int), faultV (b.2 : Int) (b.1 : Int)]) ∧ w = w') := HS
  clear HS hR
  go_enter Tryz.func118, Tryz.ntmps118
  go_wp2_with (go_at_call 86; refine HS'.out.mono ?_; rintro e w1 ⟨rfl, rfl⟩)
  go_ret3
  exact ⟨rfl, rfl⟩
set_option maxHeartbeats 1000000 in
include h hs in
theorem turned_ok {x nx : Nat} (hR : rdAt s.data.toList a = .ok (x, nx)) (w : World) : Calls Tryz.prog 118 #[.string s, .int .i64 (a : Int)] w fun e w' => e = .returned (.tuple #[.int .i64 (back x), .int .i64 (nx : Int), .nilIface]) ∧ w = w' := by
  have HS := Lib.hid (Short_calls s a h hs w)
  rw [hR] at HS
  have HS' : Hid (Calls Tryz.prog 86 #[.string s, .int .i64 (a : Int)] w fun e w' => e = .returned (.tuple #[.int .i64 (x : Int), .int .i64 (nx : Int), .nilIface]) ∧ w = w') := HS
  have HB := Lib.hid (back_calls x (by have := (rdAt_len hR).2.2; simpa using this) w)
  generalize back x = y at HB ⊢
  clear HS hR
  go_enter Tryz.func118, Tryz.ntmps118
  go_wp2_with (first
    | (go_at_call 86; refine HS'.out.mono ?_; rintro e w1 ⟨rfl, rfl⟩)
    | (go_at_call 143; refine HB.out.mono ?_; rintro e w1 ⟨rfl, rfl⟩))
  go_ret3
  exact ⟨rfl, rfl⟩
end
/-- a reader, at block rb -/
def RD (w : World) (rb : Nat) (s : ByteArray) (a N : Nat) (now : Int) : Prop := w.heap[rb]? = some (.cells #[.string s, .int .i64 (a : Int), .int .i64 (N : Int), .int .i64 now] 167 (0, 0))
section
variable {w : World} {rb : Nat} {s : ByteArray} {a N : Nat} {now : Int}
theorem RD.lt (h : RD w rb s a N now) : rb < w.heap.size := (Array.getElem?_eq_some_iff.1 h).1
theorem RD.later {w' : World} (h : RD w rb s a N now) (hb : Below w.heap.size w w') : RD w' rb s a N now := (hb.block rb h.lt).trans h
theorem RD.cells (h : RD w rb s a N now) : w.cell? ⟨rb, 0, none⟩ = some (.string s) ∧ w.cell? ⟨rb, 1, none⟩ = some (.int .i64 (a : Int)) ∧ w.cell? ⟨rb, 2, none⟩ = some (.int .i64 (N : Int)) ∧ w.cell? ⟨rb, 3, none⟩ = some (.int .i64 now) :=
  ⟨cell_of_row w rb 0 _ _ _ h, cell_of_row w rb 1 _ _ _ h, cell_of_row w rb 2 _ _ _ h, cell_of_row w rb 3 _ _ _ h⟩
theorem RD.put (h : RD w rb s a N now) (a' : Nat) (now' : Int) : RD ((w.setCell ⟨rb, 3, none⟩ (.int .i64 now')).setCell ⟨rb, 1, none⟩ (.int .i64 (a' : Int))) rb s a' N now' ∧ w.grownBy ((w.setCell ⟨rb, 3, none⟩ (.int .i64 now')).setCell ⟨rb, 1, none⟩ (.int .i64 (a' : Int))) (some rb) := by
  have h1 : (w.setCell ⟨rb, 3, none⟩ (.int .i64 now')).heap[rb]? = some (.cells #[.string s, .int .i64 (a : Int), .int .i64 (N : Int), .int .i64 now'] 167 (0, 0)) := heap_setCell_same w rb 3 _ _ _ h
  have h2 : ((w.setCell ⟨rb, 3, none⟩ (.int .i64 now')).setCell ⟨rb, 1, none⟩ (.int .i64 (a' : Int))).heap[rb]? = some (.cells #[.string s, .int .i64 (a' : Int), .int .i64 (N : Int), .int .i64 now'] 167 (0, 0)) := heap_setCell_same _ rb 1 _ _ _ h1
  refine ⟨h2, rfl, rfl, rfl, by simp, fun j _ hj => ?_⟩
  have hne : rb ≠ j := fun e => hj (by rw [e])
  rw [heap_setCell_other _ ⟨rb, 1, none⟩ j _ (fun e => hne (by simpa using e.symm)), heap_setCell_other _ ⟨rb, 3, none⟩ j _ (fun e => hne (by simpa using e.symm))]
set_option maxHeartbeats 4000000 in
set_option maxRecDepth 100000 in
/-- the next target: an error -/
theorem step_bad (hr : RD w rb s a N now) (hs : s.size ≤ 140737488355328) (ha : a ≤ s.size) (first : Bool) {b : Bad} (hR : rdAt s.data.toList a = .error b) :
    Calls Tryz.prog 90 #[.pointer (some ⟨rb, 0, none⟩), .bool first] w fun e w' => e = .returned (faultV (b.2 : Int) (b.1 : Int)) ∧ Hid (Below w.heap.size w w') := by
  obtain ⟨c0, c1, c2, c3⟩ := hr.cells
  have HT : Hid (∀ n, Calls Tryz.prog 118 #[.string s, .int .i64 (a : Int)] (w.drewN n) fun e w' => e = .returned (.tuple #[.int .i64 0, .int .i64 (a : Int), faultV (b.2 : Int) (b.1 : Int)]) ∧ ∃ m, w' = w.drewN m) := Lib.hid (fun n => (turned_bad ha hs hR _).mono fun _ _ h => ⟨h.1, n, h.2.symm⟩)
  have HS : Hid (∀ n, Calls Tryz.prog 86 #[.string s, .int .i64 (a : Int)] (w.drewN n) fun e w' => e = .returned (.tuple #[.int .i64 0, .int .i64 (a : Int), faultV (b.2 : Int) (b.1 : Int)]) ∧ ∃ m, w' = w.drewN m) := Lib.hid (fun n => (Short_calls s a ha hs _).mono fun _ _ h => ⟨by rw [h.1, hR]; rfl, n, h.2.symm⟩)
  clear hr hR
  cases first
  · go_enter Tryz.func90, Tryz.ntmps90
    go_upto_region 2 with (fail)
    go_big_quiet (first | (go_at_call 86; exact HS.out _))
    have HB := Lib.hid (Ed.drewN_below w.heap.size w nq)
    go_wp2
    go_ret
    exact ⟨rfl, HB⟩
  · go_enter Tryz.func90, Tryz.ntmps90
    go_upto_region 5 with (fail)
    go_big_quiet (first | (go_at_call 118; exact HT.out _))
    have HB := Lib.hid (Ed.drewN_below w.heap.size w nq)
    go_wp2
    go_ret
    exact ⟨rfl, HB⟩
/-- what the next step would be, as the program reckons it -/
def stp (first : Bool) (x : Nat) : Value := .int .i64 (stepY first x)
set_option maxHeartbeats 4000000 in
set_option maxRecDepth 100000 in
/-- the next target lies outside -/
theorem step_far (hr : RD w rb s a N now) (hs : s.size ≤ 140737488355328) (ha : a ≤ s.size) (hN : N ≤ 4096) (hnow : 0 ≤ now ∧ now < (N : Int)) (first : Bool) {x nx : Nat} (hR : rdAt s.data.toList a = .ok (x, nx)) (hy : stepY first x < -now ∨ stepY first x ≥ (N : Int) - now) :
    Calls Tryz.prog 90 #[.pointer (some ⟨rb, 0, none⟩), .bool first] w fun e w' => e = .returned (faultV (a : Int) 4) ∧ Hid (Below w.heap.size w w') := by
  have HRD := Lib.hid hr
  obtain ⟨c0, c1, c2, c3⟩ := hr.cells
  have HT : Hid (∀ n, Calls Tryz.prog 118 #[.string s, .int .i64 (a : Int)] (w.drewN n) fun e w' => e = .returned (.tuple #[.int .i64 (back x), .int .i64 (nx : Int), .nilIface]) ∧ ∃ m, w' = w.drewN m) := Lib.hid (fun n => (turned_ok ha hs hR _).mono fun _ _ h => ⟨h.1, n, h.2.symm⟩)
  have HS : Hid (∀ n, Calls Tryz.prog 86 #[.string s, .int .i64 (a : Int)] (w.drewN n) fun e w' => e = .returned (.tuple #[.int .i64 (x : Int), .int .i64 (nx : Int), .nilIface]) ∧ ∃ m, w' = w.drewN m) := Lib.hid (fun n => (Short_calls s a ha hs _).mono fun _ _ h => ⟨by rw [h.1, hR]; rfl, n, h.2.symm⟩)
  have hxb : x < 72057594037927936 := by have := (rdAt_len hR).2.2; simpa using this
  have hbk : -36028797018963969 < back x ∧ back x < 36028797018963969 := by unfold back; split <;> omega
  have hneg : (0 : Int) - now = -now := by omega
  obtain ⟨hn0, hn1⟩ := hnow
  clear hr hR
  cases first
  · have hyy : (x : Int) + 1 < -now ∨ (x : Int) + 1 ≥ (N : Int) - now := hy
    have g1 : ¬ (x : Int) + 1 < -now := by omega
    have g2 : (x : Int) + 1 ≥ (N : Int) - now := by omega
    clear hy hyy hbk HT
    go_enter Tryz.func90, Tryz.ntmps90
    go_upto_region 2 with (fail)
    go_big_quiet (first | (go_at_call 86; exact HS.out _))
    have HB := Lib.hid (Ed.drewN_below w.heap.size w nq)
    obtain ⟨d0, d1, d2, d3⟩ := (HRD.out.later (Ed.drewN_below _ w nq)).cells
    clear c0 c1 c2 c3
    generalize w.drewN nq = W1 at HB d0 d1 d2 d3 ⊢
    go_upto_region 8 with (fail)
    go_big_quiet (fail)
    obtain ⟨k, hk⟩ : ∃ k, W1.drewN nq = k := ⟨_, rfl⟩
    have HB2 := Lib.hid (HB.out.trans ((Ed.drewN_below W1.heap.size W1 nq).mono HB.out.size))
    have e1 : (W1.drewN nq).cell? ⟨rb, 1, none⟩ = some (.int .i64 (a : Int)) := d1
    rw [hk] at HB2 e1 ⊢
    clear d0 d1 d2 d3 hk
    go_wp2_with (go_at_call 88; refine (gwrong_calls _ _ _).mono ?_; rintro e w1 ⟨rfl, rfl⟩)
    go_ret
    exact ⟨rfl, HB2⟩
  · obtain ⟨y, hyb⟩ : ∃ y, back x = y := ⟨_, rfl⟩
    have hyy : y < -now ∨ y ≥ (N : Int) - now := by rw [← hyb]; exact hy
    rw [hyb] at hbk HT
    clear hy hyb HS
    by_cases g1 : y < -now
    · go_enter Tryz.func90, Tryz.ntmps90
      go_upto_region 5 with (fail)
      go_big_quiet (first | (go_at_call 118; exact HT.out _))
      have HB := Lib.hid (Ed.drewN_below w.heap.size w nq)
      obtain ⟨d0, d1, d2, d3⟩ := (HRD.out.later (Ed.drewN_below _ w nq)).cells
      clear c0 c1 c2 c3
      generalize w.drewN nq = W1 at HB d0 d1 d2 d3 ⊢
      go_upto_region 8 with (fail)
      go_big_quiet (fail)
      obtain ⟨k, hk⟩ : ∃ k, W1.drewN nq = k := ⟨_, rfl⟩
      have HB2 := Lib.hid (HB.out.trans ((Ed.drewN_below W1.heap.size W1 nq).mono HB.out.size))
      have e1 : (W1.drewN nq).cell? ⟨rb, 1, none⟩ = some (.int .i64 (a : Int)) := d1
      rw [hk] at HB2 e1 ⊢
      clear d0 d1 d2 d3 hk
      go_wp2_with (go_at_call 88; refine (gwrong_calls _ _ _).mono ?_; rintro e w1 ⟨rfl, rfl⟩)
      go_ret
      exact ⟨rfl, HB2⟩
    · have g2 : y ≥ (N : Int) - now := by omega
      go_enter Tryz.func90, Tryz.ntmps90
      go_upto_region 5 with (fail)
      go_big_quiet (first | (go_at_call 118; exact HT.out _))
      have HB := Lib.hid (Ed.drewN_below w.heap.size w nq)
      obtain ⟨d0, d1, d2, d3⟩ := (HRD.out.later (Ed.drewN_below _ w nq)).cells
      clear c0 c1 c2 c3
      generalize w.drewN nq = W1 at HB d0 d1 d2 d3 ⊢
      go_upto_region 8 with (fail)
      go_big_quiet (fail)
      obtain ⟨k, hk⟩ : ∃ k, W1.drewN nq = k := ⟨_, rfl⟩
      have HB2 := Lib.hid (HB.out.trans ((Ed.drewN_below W1.heap.size W1 nq).mono HB.out.size))
      have e1 : (W1.drewN nq).cell? ⟨rb, 1, none⟩ = some (.int .i64 (a : Int)) := d1
      rw [hk] at HB2 e1 ⊢
      clear d0 d1 d2 d3 hk
      go_wp2_with (go_at_call 88; refine (gwrong_calls _ _ _).mono ?_; rintro e w1 ⟨rfl, rfl⟩)
      go_ret
      exact ⟨rfl, HB2⟩
set_option maxHeartbeats 4000000 in
set_option maxRecDepth 100000 in
/-- the next target -/
theorem step_ok (hr : RD w rb s a N now) (hs : s.size ≤ 140737488355328) (ha : a ≤ s.size) (hN : N ≤ 4096) (hnow : 0 ≤ now ∧ now < (N : Int)) (first : Bool) {x nx : Nat} (hR : rdAt s.data.toList a = .ok (x, nx)) (hy : ¬ (stepY first x < -now ∨ stepY first x ≥ (N : Int) - now)) :
    Calls Tryz.prog 90 #[.pointer (some ⟨rb, 0, none⟩), .bool first] w fun e w' => e = .returned .nilIface ∧ Hid (RD w' rb s nx N (now + stepY first x)) ∧ Hid (w.grownBy w' (some rb)) := by
  have HRD := Lib.hid hr
  obtain ⟨c0, c1, c2, c3⟩ := hr.cells
  have HT : Hid (∀ n, Calls Tryz.prog 118 #[.string s, .int .i64 (a : Int)] (w.drewN n) fun e w' => e = .returned (.tuple #[.int .i64 (back x), .int .i64 (nx : Int), .nilIface]) ∧ ∃ m, w' = w.drewN m) := Lib.hid (fun n => (turned_ok ha hs hR _).mono fun _ _ h => ⟨h.1, n, h.2.symm⟩)
  have HS : Hid (∀ n, Calls Tryz.prog 86 #[.string s, .int .i64 (a : Int)] (w.drewN n) fun e w' => e = .returned (.tuple #[.int .i64 (x : Int), .int .i64 (nx : Int), .nilIface]) ∧ ∃ m, w' = w.drewN m) := Lib.hid (fun n => (Short_calls s a ha hs _).mono fun _ _ h => ⟨by rw [h.1, hR]; rfl, n, h.2.symm⟩)
  have hxb : x < 72057594037927936 := by have := (rdAt_len hR).2.2; simpa using this
  have hneg : (0 : Int) - now = -now := by omega
  obtain ⟨hn0, hn1⟩ := hnow
  clear hr hR
  cases first
  · have hyy : ¬ ((x : Int) + 1 < -now ∨ (x : Int) + 1 ≥ (N : Int) - now) := hy
    have g1 : ¬ (x : Int) + 1 < -now := by omega
    have g2 : ¬ (x : Int) + 1 ≥ (N : Int) - now := by omega
    have es : stepY false x = (x : Int) + 1 := rfl
    rw [es]
    clear hy hyy HT es
    go_enter Tryz.func90, Tryz.ntmps90
    go_upto_region 2 with (fail)
    go_big_quiet (first | (go_at_call 86; exact HS.out _))
    have HB := Lib.hid (Ed.drewN_below w.heap.size w nq)
    have HR1 := Lib.hid (HRD.out.later (Ed.drewN_below _ w nq))
    obtain ⟨d0, d1, d2, d3⟩ := HR1.out.cells
    clear c0 c1 c2 c3
    generalize w.drewN nq = W1 at HB HR1 d0 d1 d2 d3 ⊢
    go_upto_region 8 with (fail)
    go_big_quiet (fail)
    obtain ⟨W2, hk⟩ : ∃ k, W1.drewN nq = k := ⟨_, rfl⟩
    have HB2 := Lib.hid (HB.out.trans ((Ed.drewN_below W1.heap.size W1 nq).mono HB.out.size))
    have HR2 : Hid (RD (W1.drewN nq) rb s a N now) := HR1
    rw [hk] at HB2 HR2 ⊢
    clear d0 d1 d2 d3 hk
    obtain ⟨e0, e1, e2, e3⟩ := HR2.out.cells
    have f3 : W2.frozen? ⟨rb, 3, none⟩ = false := frozen_of_row W2 rb 3 _ _ HR2.out
    have f1 : W2.frozen? ⟨rb, 1, none⟩ = false := frozen_of_row W2 rb 1 _ _ HR2.out
    have f1' : (W2.setCell ⟨rb, 3, none⟩ (.int .i64 (now + ((x : Int) + 1)))).frozen? ⟨rb, 1, none⟩ = false := frozen_of_row _ rb 1 _ _ (heap_setCell_same W2 rb 3 _ _ _ HR2.out)
    have HPU := Lib.hid (HR2.out.put nx (now + ((x : Int) + 1)))
    clear HR1
    go_wp2
    go_ret
    refine ⟨rfl, Lib.hid HPU.out.1, Lib.hid ?_⟩
    have g0 : w.grownBy W2 (some rb) := ⟨HB2.out.os, HB2.out.tape, HB2.out.output, HB2.out.size, fun i hi _ => HB2.out.block i hi⟩
    exact g0.trans HPU.out.2
  · obtain ⟨y, hyb⟩ : ∃ y, back x = y := ⟨_, rfl⟩
    have hyy : ¬ (y < -now ∨ y ≥ (N : Int) - now) := by rw [← hyb]; exact hy
    have es : stepY true x = y := hyb
    rw [hyb] at HT
    rw [es]
    have g1 : ¬ y < -now := by omega
    have g2 : ¬ y ≥ (N : Int) - now := by omega
    have g3 : y < 4096 := by omega
    have g4 : -4096 ≤ y := by omega
    clear hy hyy hyb HS es
    go_enter Tryz.func90, Tryz.ntmps90
    go_upto_region 5 with (fail)
    go_big_quiet (first | (go_at_call 118; exact HT.out _))
    have HB := Lib.hid (Ed.drewN_below w.heap.size w nq)
    have HR1 := Lib.hid (HRD.out.later (Ed.drewN_below _ w nq))
    obtain ⟨d0, d1, d2, d3⟩ := HR1.out.cells
    clear c0 c1 c2 c3
    generalize w.drewN nq = W1 at HB HR1 d0 d1 d2 d3 ⊢
    go_upto_region 8 with (fail)
    go_big_quiet (fail)
    obtain ⟨W2, hk⟩ : ∃ k, W1.drewN nq = k := ⟨_, rfl⟩
    have HB2 := Lib.hid (HB.out.trans ((Ed.drewN_below W1.heap.size W1 nq).mono HB.out.size))
    have HR2 : Hid (RD (W1.drewN nq) rb s a N now) := HR1
    rw [hk] at HB2 HR2 ⊢
    clear d0 d1 d2 d3 hk
    obtain ⟨e0, e1, e2, e3⟩ := HR2.out.cells
    have f3 : W2.frozen? ⟨rb, 3, none⟩ = false := frozen_of_row W2 rb 3 _ _ HR2.out
    have f1 : W2.frozen? ⟨rb, 1, none⟩ = false := frozen_of_row W2 rb 1 _ _ HR2.out
    have f1' : (W2.setCell ⟨rb, 3, none⟩ (.int .i64 (now + y))).frozen? ⟨rb, 1, none⟩ = false := frozen_of_row _ rb 1 _ _ (heap_setCell_same W2 rb 3 _ _ _ HR2.out)
    have HPU := Lib.hid (HR2.out.put nx (now + y))
    clear HR1
    go_wp2
    go_ret
    refine ⟨rfl, Lib.hid HPU.out.1, Lib.hid ?_⟩
    have g0 : w.grownBy W2 (some rb) := ⟨HB2.out.os, HB2.out.tape, HB2.out.output, HB2.out.size, fun i hi _ => HB2.out.block i hi⟩
    exact g0.trans HPU.out.2
end
end Go.Proofs.YtjokfllldcjheaaGreatDoor.Oc
/- gap, walked: Get. -/
namespace Go.Proofs.YtjokfllldcjheaaGreatDoor.Oc
open Go.RowKit Go.Proofs.YtjokfllldcjheaaGreatDoor.Sha Go.Proofs.YtjokfllldcjheaaGreatDoor.Ro
set_option linter.unusedVariables false
set_option linter.unusedSimpArgs false
theorem RD.kept {w w' : World} {rb : Nat} {s : ByteArray} {a N : Nat} {now : Int} (h : RD w rb s a N now) {row : Option Nat} (hg : w.grownBy w' row) (hr : some rb ≠ row) : RD w' rb s a N now := (hg.block rb h.lt hr).trans h
/-- what Get answers -/
def GG (R : Except Bad (List Int × Nat)) (a : Nat) (w w' : World) (e : Ending) : Prop := match R with
  | .error b => e = .returned (.tuple #[.slice none 0 0, .int .i64 (a : Int), faultV (b.2 : Int) (b.1 : Int)])
  | .ok q => ∃ u, e = .returned (.tuple #[u, .int .i64 (q.2 : Int), .nilIface]) ∧ OJ w' w.heap.size u q.1
/-- what is still to be read leads to R -/
def Lead (R : Except Bad (List Int × Nat)) (L : List Int) (S : Except Bad (List Int × Nat)) : Prop := match S with
  | .error b => R = .error b
  | .ok q => R = .ok (L ++ q.1, q.2)
theorem Lead.bad {R : Except Bad (List Int × Nat)} {L : List Int} {bs : List UInt8} {N k a : Nat} {first : Bool} {now : Int} {b : Bad} (h : Lead R L (rdSteps bs N (k + 1) first now a)) (hR : rdAt bs a = .error b) : R = .error b := by
  rw [rdSteps, hR] at h; exact h
theorem Lead.far {R : Except Bad (List Int × Nat)} {L : List Int} {bs : List UInt8} {N k a x nx : Nat} {first : Bool} {now : Int} (h : Lead R L (rdSteps bs N (k + 1) first now a)) (hR : rdAt bs a = .ok (x, nx)) (hy : stepY first x < -now ∨ stepY first x ≥ (N : Int) - now) : R = .error (4, a) := by
  rw [rdSteps, hR] at h; simp only at h; rw [if_pos hy] at h; exact h
theorem Lead.next {R : Except Bad (List Int × Nat)} {L : List Int} {bs : List UInt8} {N k a x nx : Nat} {first : Bool} {now : Int} (h : Lead R L (rdSteps bs N (k + 1) first now a)) (hR : rdAt bs a = .ok (x, nx)) (hy : ¬ (stepY first x < -now ∨ stepY first x ≥ (N : Int) - now)) : Lead R (L ++ [now + stepY first x]) (rdSteps bs N k false (now + stepY first x) nx) := by
  rw [rdSteps, hR] at h
  simp only at h
  rw [if_neg hy] at h
  cases e : rdSteps bs N k false (now + stepY first x) nx with
  | error b => rw [e] at h; exact h
  | ok q => rw [e] at h; unfold Lead at h ⊢; simp only at h ⊢; rw [h]; simp
theorem Lead.done {R : Except Bad (List Int × Nat)} {L : List Int} {bs : List UInt8} {N a : Nat} {first : Bool} {now : Int} (h : Lead R L (rdSteps bs N 0 first now a)) : R = .ok (L, a) := by
  rw [rdSteps] at h; unfold Lead at h; simpa using h
set_option maxHeartbeats 8000000 in
set_option maxRecDepth 100000 in
theorem gget_calls (s : ByteArray) (a N v : Nat) (ha : a ≤ s.size) (hs : s.size ≤ 140737488355328) (hN : N ≤ 4096) (hv : v < N) (w : World) :
    Calls Tryz.prog 55 #[.string s, .int .i64 (a : Int), .int .i64 (N : Int), .int .i64 (v : Int)] w fun e w' => Hid (GG (rdRow s.data.toList N a v) a w w' e) ∧ Hid (Below w.heap.size w w') := by
  obtain ⟨R, hR⟩ : ∃ R, rdRow s.data.toList N a v = R := ⟨_, rfl⟩
  rw [hR]
  have hcnt := rdRow_cnt s.data.toList N a v
  rw [hR] at hcnt
  have HCC := Lib.hid (count_calls ha hs N hN w)
  cases hC : rdCnt s.data.toList N a with
  | error b =>
    rw [hC] at hcnt HCC
    simp only at hcnt
    subst hcnt
    have HC' : Hid (Calls Tryz.prog 89 #[.string s, .int .i64 (a : Int), .int .i64 (N : Int)] w fun e w' => e = .returned (.tuple #[.int .i64 0, .int .i64 (a : Int), faultV (b.2 : Int) (b.1 : Int)]) ∧ w = w') := HCC
    clear HCC hC hR
    go_enter Tryz.func55, Tryz.ntmps55
    go_wp2_with (first
      | (go_at_call 87; refine (may_calls N v hN hv _).mono ?_; rintro e w1 ⟨rfl, rfl⟩)
      | (go_at_call 89; refine HC'.out.mono ?_; rintro e w1 ⟨rfl, rfl⟩))
    go_ret3
    exact ⟨Lib.hid rfl, Lib.hid (Below.refl _ _)⟩
  | ok r =>
    obtain ⟨n, nx⟩ := r
    rw [hC] at hcnt HCC
    simp only at hcnt
    have hl := rdCnt_len hC
    simp only [list_sz] at hl
    obtain ⟨hl0, hl1, hl2⟩ := hl
    have HLE : Hid (Lead R [] (rdSteps s.data.toList N (n - 0) true (v : Int) nx)) := Lib.hid (by
      rw [Nat.sub_zero]; unfold Lead
      cases e : rdSteps s.data.toList N n true (v : Int) nx with
      | error b => rw [e] at hcnt; exact hcnt
      | ok q => rw [e] at hcnt; simpa using hcnt)
    have HC' : Hid (Calls Tryz.prog 89 #[.string s, .int .i64 (a : Int), .int .i64 (N : Int)] w fun e w' => e = .returned (.tuple #[.int .i64 (n : Int), .int .i64 (nx : Int), .nilIface]) ∧ w = w') := HCC
    have HRD0 : Hid (RD (w.alloc (.cells #[.string s, .int .i64 (nx : Int), .int .i64 (N : Int), .int .i64 (v : Int)] 167)) w.heap.size s nx N (v : Int)) := Lib.hid (heap_alloc_new w _)
    have HB0 : Hid (Below w.heap.size w (w.alloc (.cells #[.string s, .int .i64 (nx : Int), .int .i64 (N : Int), .int .i64 (v : Int)] 167))) := Lib.hid ((Below.refl _ _).alloc (Nat.le_refl _) _)
    have HSZ := hs
    clear HCC hC hR hcnt ha hl0
    go_enter Tryz.func55, Tryz.ntmps55
    go_upto_region 10 with (first
      | (go_at_call 87; refine (may_calls N v hN hv _).mono ?_; rintro e w1 ⟨rfl, rfl⟩)
      | (go_at_call 89; refine HC'.out.mono ?_; rintro e w1 ⟨rfl, rfl⟩))
    go_loopw [16, 47] (fun u x wz => ∃ (i : Nat) (L : List Int) (now : Int) (at_ : Nat), x = .int .i64 (i : Int) ∧ i ≤ n ∧ Hid (L.length = i ∧ 0 ≤ now ∧ now < (N : Int) ∧ at_ ≤ s.size) ∧ Hid (Lead R L (rdSteps s.data.toList N (n - i) (decide (i = 0)) now at_)) ∧ Hid (OJ wz (w.heap.size + 1) u L) ∧ Hid (RD wz w.heap.size s at_ N now) ∧ Hid (Below w.heap.size w wz)) (fun _ x _ => n - (intOf x).toNat)
    case atStart => exact ⟨0, [], (v : Int), nx, rfl, Nat.zero_le _, Lib.hid ⟨rfl, by omega, by omega, hl1⟩, HLE, Lib.hid (OJ.nil _ _), HRD0, HB0⟩
    case round =>
      clear HLE HRD0 HB0 HC'
      obtain ⟨i, L, now, at_, rfl, hi, HI, HLE, HO, HRD, HB⟩ := hrel
      obtain ⟨hLi, hn0, hn1, hat⟩ := HI.out
      obtain ⟨uA, uc, rfl, -⟩ := id HO.out.shape
      rw [hLi] at HO ⊢
      have HOB := Lib.hid HO.out.base
      have HBS := Lib.hid HB.out.size
      by_cases hlt : i < n
      · have i1 : (i : Int) < (n : Int) := by omega
        have hk : n - i = (n - (i + 1)) + 1 := by omega
        rw [hk] at HLE
        have HST : Hid (∀ (b : Bool), decide (i = 0) = b → (∃ bd, rdAt s.data.toList at_ = .error bd ∧ R = .error bd ∧ Calls Tryz.prog 90 #[.pointer (some ⟨w.heap.size, 0, none⟩), .bool b] wr fun e w' => e = .returned (faultV (bd.2 : Int) (bd.1 : Int)) ∧ Hid (Below wr.heap.size wr w')) ∨
            (R = .error (4, at_) ∧ Calls Tryz.prog 90 #[.pointer (some ⟨w.heap.size, 0, none⟩), .bool b] wr fun e w' => e = .returned (faultV (at_ : Int) 4) ∧ Hid (Below wr.heap.size wr w')) ∨
            (∃ y nx2, 0 ≤ y ∧ y < (N : Int) ∧ nx2 ≤ s.size ∧ Lead R (L ++ [y]) (rdSteps s.data.toList N (n - (i + 1)) false y nx2) ∧ Calls Tryz.prog 90 #[.pointer (some ⟨w.heap.size, 0, none⟩), .bool b] wr fun e w' => e = .returned .nilIface ∧ Hid (RD w' w.heap.size s nx2 N y) ∧ Hid (wr.grownBy w' (some w.heap.size)))) := Lib.hid (fun b hb => by
          have hle := HLE.out
          rw [hb] at hle
          cases hA : rdAt s.data.toList at_ with
          | error bd => exact .inl ⟨bd, rfl, hle.bad hA, step_bad HRD.out HSZ hat b hA⟩
          | ok q =>
            obtain ⟨x, nx2⟩ := q
            by_cases hy : stepY b x < -now ∨ stepY b x ≥ (N : Int) - now
            · exact .inr (.inl ⟨hle.far hA hy, step_far HRD.out HSZ hat hN ⟨hn0, hn1⟩ b hA hy⟩)
            · have hq := (rdAt_len hA).2.1
              rw [list_sz] at hq
              exact .inr (.inr ⟨_, nx2, by omega, by omega, hq, hle.next hA hy, step_ok HRD.out HSZ hat hN ⟨hn0, hn1⟩ b hA hy⟩))
        obtain ⟨b, hb⟩ : ∃ b, decide (i = 0) = b := ⟨_, rfl⟩
        have hbi : decide ((i : Int) = 0) = b := by rw [← hb, decide_eq_decide]; omega
        have HBI : Hid (((i : Int) == 0) = b) := Lib.hid (by rw [← hbi]; rfl)
        rcases HST.out b hb with ⟨bd, -, hRb, hcall⟩ | ⟨hRb, hcall⟩ | ⟨y, nx2, hy0, hy1, hnx, hlead, hcall⟩
        · have HCALL := Lib.hid hcall
          have HRB := Lib.hid hRb
          clear HST hcall hRb hb hk hLi
          cases b
          · have hi0 : ¬ (i : Int) = 0 := of_decide_eq_false hbi
            have hiN : ¬ i = 0 := by omega
            have hiB : ((i : Int) == 0) = false := HBI.out
            clear hbi HBI
            go_wp2_with (go_at_call 90; refine HCALL.out.mono ?_; rintro e w2 ⟨rfl, HB2⟩)
            go_ret3
            exact ⟨Lib.hid (by rw [HRB.out]; rfl), Lib.hid (HB.out.trans (HB2.out.mono HBS.out))⟩
          · obtain rfl : i = 0 := by have := of_decide_eq_true hbi; omega
            clear hbi HBI
            go_wp2_with (go_at_call 90; refine HCALL.out.mono ?_; rintro e w2 ⟨rfl, HB2⟩)
            go_ret3
            exact ⟨Lib.hid (by rw [HRB.out]; rfl), Lib.hid (HB.out.trans (HB2.out.mono HBS.out))⟩
        · have HCALL := Lib.hid hcall
          have HRB := Lib.hid hRb
          clear HST hcall hRb hb hk hLi
          cases b
          · have hi0 : ¬ (i : Int) = 0 := of_decide_eq_false hbi
            have hiN : ¬ i = 0 := by omega
            have hiB : ((i : Int) == 0) = false := HBI.out
            clear hbi HBI
            go_wp2_with (go_at_call 90; refine HCALL.out.mono ?_; rintro e w2 ⟨rfl, HB2⟩)
            go_ret3
            exact ⟨Lib.hid (by rw [HRB.out]; rfl), Lib.hid (HB.out.trans (HB2.out.mono HBS.out))⟩
          · obtain rfl : i = 0 := by have := of_decide_eq_true hbi; omega
            clear hbi HBI
            go_wp2_with (go_at_call 90; refine HCALL.out.mono ?_; rintro e w2 ⟨rfl, HB2⟩)
            go_ret3
            exact ⟨Lib.hid (by rw [HRB.out]; rfl), Lib.hid (HB.out.trans (HB2.out.mono HBS.out))⟩
        · have HCALL := Lib.hid hcall
          have HLD := Lib.hid hlead
          have HYY := Lib.hid (And.intro hy0 (And.intro hy1 hnx))
          have HLI := Lib.hid hLi
          have hn4 : i < 4096 := by omega
          clear HST hcall hlead hb hk hLi HLE HI hy0 hy1 hnx hn0 hn1 hat
          have KEY : Hid (∀ w2, Hid (RD w2 w.heap.size s nx2 N y) → Hid (wr.grownBy w2 (some w.heap.size)) → OJ w2 (w.heap.size + 1) (.slice uA i uc) L ∧ Below w.heap.size w w2 ∧ w.heap.size + 1 ≤ w2.heap.size) := Lib.hid (fun w2 h1 h2 => by
            refine ⟨HO.out.kept h2.out (.inr fun e => ?_), HB.out.grown h2.out HBS.out (fun k hk => by injection hk with hk; omega), h1.out.lt⟩
            have := HOB.out _ e
            omega)
          cases b
          · have hi0 : ¬ (i : Int) = 0 := of_decide_eq_false hbi
            have hiN : ¬ i = 0 := by omega
            have hiB : ((i : Int) == 0) = false := HBI.out
            clear hbi HBI
            go_upto_region 15 with (go_at_call 90; refine HCALL.out.mono ?_; rintro e w2 ⟨rfl, HR2, HG2⟩)
            obtain ⟨ho2, hb2, hz2⟩ := KEY.out _ HR2 HG2
            have HO2 := Lib.hid ho2
            have HB2 := Lib.hid hb2
            obtain ⟨c0, c1, c2, c3⟩ := HR2.out.cells
            clear ho2 hb2 HO HB HRD
            go_wp2_with (at_builtin; refine OJ.app_on (base := w.heap.size + 1) (HO2.out.alloc _) (JR.lit _ [y] _ rfl 1 rfl (by simp)) rfl _ _ rfl rfl rfl (by simp; omega) (by rw [HLI.out]; simp only [List.length_cons, List.length_nil]; omega) ?_; intro v1 w3 k1 k2 k3; have K1 := Lib.hid k1; have K2 := Lib.hid k2; clear k1 k2 k3)
            go_roundw
            case rel => exact ⟨i + 1, L ++ [y], y, nx2, by go_num, by omega, Lib.hid ⟨by simp [HLI.out], HYY.out⟩, Lib.hid (by rw [decide_eq_false (by omega)]; exact HLD.out), K1, Lib.hid ((HR2.out.later ((Below.refl _ _).alloc (Nat.le_refl _) _)).kept K2.out (fun e => by have := HOB.out _ e.symm; omega)), Lib.hid ((HB2.out.alloc (by omega) _).grown K2.out (by simp; omega) (fun k hk => by have := HOB.out k hk; omega))⟩
            case measure => simp [intOf]; omega
          · obtain rfl : i = 0 := by have := of_decide_eq_true hbi; omega
            clear hbi HBI
            go_upto_region 15 with (go_at_call 90; refine HCALL.out.mono ?_; rintro e w2 ⟨rfl, HR2, HG2⟩)
            obtain ⟨ho2, hb2, hz2⟩ := KEY.out _ HR2 HG2
            have HO2 := Lib.hid ho2
            have HB2 := Lib.hid hb2
            obtain ⟨c0, c1, c2, c3⟩ := HR2.out.cells
            clear ho2 hb2 HO HB HRD
            go_wp2_with (at_builtin; refine OJ.app_on (base := w.heap.size + 1) (HO2.out.alloc _) (JR.lit _ [y] _ rfl 1 rfl (by simp)) rfl _ _ rfl rfl rfl (by simp; omega) (by rw [HLI.out]; simp only [List.length_cons, List.length_nil]; omega) ?_; intro v1 w3 k1 k2 k3; have K1 := Lib.hid k1; have K2 := Lib.hid k2; clear k1 k2 k3)
            go_roundw
            case rel => exact ⟨1, L ++ [y], y, nx2, rfl, by omega, Lib.hid ⟨by simp [HLI.out], HYY.out⟩, Lib.hid (by rw [decide_eq_false (by omega)]; exact HLD.out), K1, Lib.hid ((HR2.out.later ((Below.refl _ _).alloc (Nat.le_refl _) _)).kept K2.out (fun e => by have := HOB.out _ e.symm; omega)), Lib.hid ((HB2.out.alloc (by omega) _).grown K2.out (by simp; omega) (fun k hk => by have := HOB.out k hk; omega))⟩
            case measure => simp [intOf]; omega
      · obtain rfl : n = i := by omega
        have HF : Hid (R = .ok (L, at_)) := Lib.hid (by have := HLE.out; rw [Nat.sub_self] at this; exact this.done)
        obtain ⟨c0, c1, c2, c3⟩ := HRD.out.cells
        clear HLE hLi
        go_upto_region 17 with (fail)
        go_quiet (fail)
        go_wp2
        go_ret3
        exact ⟨Lib.hid (by rw [HF.out]; exact ⟨_, rfl, (HO.out.mono (Nat.le_succ _)).later (Ed.drewN_below _ _ _)⟩), Lib.hid (HB.out.trans ((Ed.drewN_below _ _ _).mono HBS.out))⟩
end Go.Proofs.YtjokfllldcjheaaGreatDoor.Oc
