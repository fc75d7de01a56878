/- The law BlockReads: what it reads of the blocks of bytes; its walk. -/
import Derived.Test.YtmhjocbnoppbbaaDoorAsk
import Derived.Test.YtmhjocbnoppbbaaDoorErrP
import Derived.Test.YtmhjocbnoppbbaaDoorLacks
namespace Go.Proofs.YtmhjocbnoppbbaaDoor.Sha
open Go.RowKit
set_option linter.unusedVariables false
set_option linter.unusedSimpArgs false

/-- a part that is not there -/
theorem needs_range (n f m : Int) (w : World) (h0 : 0 ≤ n) (h1 : n ≤ 1000000000) (hf0 : -9223372036854775808 ≤ f) (hf1 : f ≤ 9223372036854775807) (hm0 : -9223372036854775808 ≤ m) (hm1 : m ≤ 9223372036854775807)
    (h : f < 0 ∨ m < 0 ∨ n < f ∨ n - f < m) :
    Calls Tryd.prog 16 #[.int .i64 n, .int .i64 f, .int .i64 m] w fun e w' => e = .returned (.tuple #[.int .i64 0, .int .i64 0, .iface 39 (.int .i64 2)]) ∧ w = w' := by
  by_cases c1 : f < 0
  · clear h
    go_enter Tryd.func16, Tryd.ntmps16
    go_wp2
    go_ret3
    exact ⟨rfl, rfl⟩
  · by_cases c2 : m < 0
    · clear h
      have c1' : 0 ≤ f := by omega
      clear c1
      go_enter Tryd.func16, Tryd.ntmps16
      go_wp2
      go_ret3
      exact ⟨rfl, rfl⟩
    · have c1' : 0 ≤ f := by omega
      have c2' : 0 ≤ m := by omega
      clear c1 c2
      by_cases c3 : n < f
      · clear h
        go_enter Tryd.func16, Tryd.ntmps16
        go_wp2
        go_ret3
        exact ⟨rfl, rfl⟩
      · have c3' : f ≤ n := by omega
        have c4 : n - f < m := by omega
        clear h c3
        go_enter Tryd.func16, Tryd.ntmps16
        go_wp2
        go_ret3
        exact ⟨rfl, rfl⟩
set_option maxHeartbeats 2000000 in
set_option maxRecDepth 100000 in
theorem read_range (F : Nat) (caps : Array Value) (n f m : Int) (w : World) (h0 : 0 ≤ n) (h1 : n ≤ 1000000000) (hf0 : -9223372036854775808 ≤ f) (hf1 : f ≤ 9223372036854775807) (hm0 : -9223372036854775808 ≤ m) (hm1 : m ≤ 9223372036854775807)
    (h : f < 0 ∨ m < 0 ∨ n < f ∨ n - f < m) :
    Calls Tryd.prog 12 #[.func (.func F) #[] caps, .int .i64 n, .int .i64 f, .int .i64 m] w fun e w' => e = .returned (.tuple #[.string ⟨#[]⟩, .iface 39 (.int .i64 2)]) ∧ w = w' := by
  have hN := Lib.hid (needs_range n f m w h0 h1 hf0 hf1 hm0 hm1 h)
  have hfn := func_nil F caps
  clear h
  go_enter Tryd.func12, Tryd.ntmps12
  go_wp2_with (go_at_call 16; refine hN.out.mono ?_; rintro e w' ⟨rfl, rfl⟩)
  go_ret2
  exact ⟨rfl, rfl⟩
theorem nil_nil (w : World) : (binOp .eql 25 .nilFunc .nilFunc).run Tryd.prog w = .ok (.bool true) w := by kernel_rfl
set_option maxRecDepth 100000 in
theorem read_nil (n f m : Int) (w : World) :
    Calls Tryd.prog 12 #[.nilFunc, .int .i64 n, .int .i64 f, .int .i64 m] w fun e w' => e = .returned (.tuple #[.string ⟨#[]⟩, .iface 39 (.int .i64 1)]) ∧ w = w' := by
  have hfn := nil_nil
  go_enter Tryd.func12, Tryd.ntmps12
  go_wp2
  go_ret2
  exact ⟨rfl, rfl⟩

/-! ### the blocks of bytes -/
/-- a, a + 1, .. -/
def upto (a : Int) (k : Nat) : List Int := (List.range k).map fun (t : Nat) => a + (t : Int)
theorem upto_length (a : Int) (k : Nat) : (upto a k).length = k := by simp [upto]
theorem upto_getD (a : Int) (k t : Nat) (h : t < k) : (upto a k).getD t 0 = a + (t : Int) := by simp [upto, List.getD_eq_getElem?_getD, h]
theorem rdl_blks (s : ByteArray) (a : Nat) : ∀ (k r : Nat), a + k ≤ bcnt s →
    rdl (s.size : Int) (fun _ i => (ofT (blks s (bcnt s)) i, ofE (blks s (bcnt s)) i)) (r + k) [] (a : Int) [] =
      rdl (s.size : Int) (fun _ i => (ofT (blks s (bcnt s)) i, ofE (blks s (bcnt s)) i)) r (upto (a : Int) k) ((a : Int) + (k : Int)) ((s.data.toList.drop (64 * a)).take (64 * k)) := by
  intro k
  induction k with
  | zero => intro r _; simp [upto]
  | succ k ih =>
    intro r hc
    have hk : a + k < bcnt s := by omega
    have ho : oneR (s.size : Int) ((a : Int) + (k : Int)) (ofT (blks s (bcnt s)) ((a : Int) + (k : Int)), ofE (blks s (bcnt s)) ((a : Int) + (k : Int))) = (pc s (a + k), .nil) := by
      have e : ((a : Int) + (k : Int)).toNat = a + k := by omega
      have hg := oneR_good (ss := blks s (bcnt s)) (n := (s.size : Int)) (i := (a : Int) + (k : Int)) (by omega) (by rw [blks_length]; omega) (by rw [e, blks_getD _ _ _ hk, show (a : Int) + (k : Int) = ((a + k : Nat) : Int) by omega, siz_nat s _ hk])
      rw [hg, e, blks_getD _ _ _ hk]
    rw [show r + (k + 1) = r + 1 + k by omega, ih (r + 1) (by omega), rdl_nil ho]
    have h1 : upto (a : Int) k ++ [(a : Int) + (k : Int)] = upto (a : Int) (k + 1) := by simp [upto, List.range_succ]
    have h2 : (s.data.toList.drop (64 * a)).take (64 * k) ++ (pc s (a + k)).data.toList = (s.data.toList.drop (64 * a)).take (64 * (k + 1)) := by
      have hl := toList_len s
      rw [pc_bytes, show 64 * (k + 1) = 64 * k + 64 by omega, List.take_add, List.drop_drop, show 64 * a + 64 * k = 64 * (a + k) by omega]
      congr 1
      by_cases h3 : 64 * (a + k + 1) ≤ s.size
      · rw [Nat.min_eq_left h3, show 64 * (a + k + 1) - 64 * (a + k) = 64 by omega]
      · rw [Nat.min_eq_right (by omega), List.take_of_length_le (by rw [List.length_drop]; omega), List.take_of_length_le (by rw [List.length_drop]; omega)]
    rw [h1, h2, show (a : Int) + (k : Int) + 1 = (a : Int) + ((k + 1 : Nat) : Int) by omega]
theorem read_blks (s : ByteArray) (f m a b : Nat) (hm : 0 < m) (hfm : f + m ≤ s.size) (ha : f / 64 = a) (hb : (f + m - 1) / 64 = b) :
    rdl (s.size : Int) (fun _ i => (ofT (blks s (bcnt s)) i, ofE (blks s (bcnt s)) i)) ((b : Int) + 1 - (a : Int)).toNat [] (a : Int) [] = (upto (a : Int) (b + 1 - a), (s.data.toList.drop (64 * a)).take (64 * (b + 1 - a)), .nil) := by
  have h := rdl_blks s a (b + 1 - a) 0 (by unfold bcnt; omega)
  rw [Nat.zero_add] at h
  rw [show ((b : Int) + 1 - (a : Int)).toNat = b + 1 - a by omega, h]
  rfl
theorem read_blksV (s : ByteArray) (f m a b : Nat) (hm : 0 < m) (hfm : f + m ≤ s.size) (ha : f / 64 = a) (hb : (f + m - 1) / 64 = b) :
    readV (s.size : Int) (f : Int) (m : Int) (a : Int) (rdl (s.size : Int) (fun _ i => (ofT (blks s (bcnt s)) i, ofE (blks s (bcnt s)) i)) ((b : Int) + 1 - (a : Int)).toNat [] (a : Int) []) = (s.extract f (f + m), .nil) := by
  rw [read_blks s f m a b hm hfm ha hb]
  show ((⟨((s.data.toList.drop (64 * a)).take (64 * (b + 1 - a))).toArray⟩ : ByteArray).extract _ _, Er.Er.nil) = _
  congr 1
  rw [show ((f : Int) - (a : Int) * 64).toNat = f - 64 * a by omega, show ((f : Int) - (a : Int) * 64 + (m : Int)).toNat = f - 64 * a + m by omega]
  apply ByteArray.ext
  rw [ByteArray.data_extract, ByteArray.data_extract]
  apply Array.ext'
  rw [Array.toList_extract, Array.toList_extract]
  show (((s.data.toList.drop (64 * a)).take (64 * (b + 1 - a))).drop (f - 64 * a)).take (f - 64 * a + m - (f - 64 * a)) = (s.data.toList.drop f).take (f + m - f)
  rw [List.drop_take, List.drop_drop, show 64 * a + (f - 64 * a) = f by omega, List.take_take, show f - 64 * a + m - (f - 64 * a) = m by omega, show f + m - f = m by omega, Nat.min_eq_left (by omega)]
end Go.Proofs.YtmhjocbnoppbbaaDoor.Sha
