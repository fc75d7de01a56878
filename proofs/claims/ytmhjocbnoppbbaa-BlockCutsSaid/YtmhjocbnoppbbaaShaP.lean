/- SHA-256 in plain numbers: words as Nat below 2^32; no program in sight. -/
import Derived.WalkKit
import Derived.Test.YtmhjocbnoppbbaaByt
import Derived.Laws.BitsAllLaws
namespace Go.Proofs.Ytmhjocbnoppbbaa.Sha
set_option linter.unusedVariables false
set_option linter.unusedSimpArgs false

/-- x turned right by the exponent of p (p a power of two, at most 2^31) -/
def turnP (x p : Nat) : Nat := x / p + x % p * (4294967296 / p)
/-- x turned right by n places -/
def rotr (x : Nat) (n : Int) : Nat := turnP x (2 ^ n.toNat)

theorem rot_val (x : Nat) (i j : Nat) (hx : x < 4294967296) (hij : i + j = 32) :
    bits .or .u32 ((x : Int) * (2 ^ j : Nat) % 4294967296) ((x : Int) / (2 ^ i : Nat)) = ((turnP x (2 ^ i) : Nat) : Int) := by
  have hp : 2 ^ i * 2 ^ j = 4294967296 := by rw [← Nat.pow_add, hij]
  have hpos : 0 < 2 ^ i := Nat.pow_pos (by omega)
  have hposj : 0 < 2 ^ j := Nat.pow_pos (by omega)
  have e1 : (x : Int) * (2 ^ j : Nat) % 4294967296 = ((x * 2 ^ j % 4294967296 : Nat) : Int) := by simp
  have e2 : (x : Int) / (2 ^ i : Nat) = ((x / 2 ^ i : Nat) : Int) := by simp
  have l2 : x / 2 ^ i < 2 ^ j := Nat.div_lt_of_lt_mul (by rw [hp]; exact hx)
  have e3 : x * 2 ^ j % 4294967296 = x % 2 ^ i * 2 ^ j := by rw [← hp, Nat.mul_mod_mul_right]
  have l3 : x % 2 ^ i * 2 ^ j < 4294967296 := by rw [← hp]; exact Nat.mul_lt_mul_of_pos_right (Nat.mod_lt _ hpos) hposj
  have l4 : 2 ^ j ≤ 4294967296 := by rw [← hp]; exact Nat.le_mul_of_pos_left _ hpos
  rw [e1, e2, u32_or_nat _ _ (by omega) (by omega), e3, nat_join j _ _ (Nat.mul_mod_left _ _) l2]
  unfold turnP
  have e4 : 4294967296 / 2 ^ i = 2 ^ j := by rw [← hp]; exact Nat.mul_div_cancel_left _ hpos
  rw [e4, Nat.add_comm]

theorem rotr_lt (x : Nat) (n : Int) (hx : x < 4294967296) (h0 : 0 ≤ n) (h1 : n ≤ 32) : rotr x n < 4294967296 := by
  unfold rotr turnP
  obtain ⟨i, rfl⟩ := Int.eq_ofNat_of_zero_le h0
  rw [Int.toNat_natCast]
  have hp : 2 ^ i * 2 ^ (32 - i) = 4294967296 := by rw [← Nat.pow_add, show i + (32 - i) = 32 by omega]
  have hpos : 0 < 2 ^ i := Nat.pow_pos (by omega)
  have e4 : 4294967296 / 2 ^ i = 2 ^ (32 - i) := by rw [← hp]; exact Nat.mul_div_cancel_left _ hpos
  rw [e4]
  have l2 : x / 2 ^ i < 2 ^ (32 - i) := Nat.div_lt_of_lt_mul (by rw [hp]; exact hx)
  have l3 : x % 2 ^ i + 1 ≤ 2 ^ i := Nat.mod_lt _ hpos
  have l4 : (x % 2 ^ i + 1) * 2 ^ (32 - i) ≤ 2 ^ i * 2 ^ (32 - i) := Nat.mul_le_mul_right _ l3
  rw [hp, Nat.add_mul, Nat.one_mul] at l4
  omega

/-- s0, s1 of the words; S0, S1 of the state -/
def sml0 (x : Nat) : Nat := rotr x 7 ^^^ rotr x 18 ^^^ x / 8
def sml1 (x : Nat) : Nat := rotr x 17 ^^^ rotr x 19 ^^^ x / 1024
def big0 (x : Nat) : Nat := rotr x 2 ^^^ rotr x 13 ^^^ rotr x 22
def big1 (x : Nat) : Nat := rotr x 6 ^^^ rotr x 11 ^^^ rotr x 25

theorem xor_lt32 {a b : Nat} (ha : a < 4294967296) (hb : b < 4294967296) : a ^^^ b < 4294967296 := Nat.xor_lt_two_pow (n := 32) ha hb
theorem and_lt32 {a b : Nat} (ha : a < 4294967296) : a &&& b < 4294967296 := Nat.lt_of_le_of_lt Nat.and_le_left ha
theorem sml0_lt {x : Nat} (h : x < 4294967296) : sml0 x < 4294967296 :=
  xor_lt32 (xor_lt32 (rotr_lt x 7 h (by omega) (by omega)) (rotr_lt x 18 h (by omega) (by omega))) (by omega)
theorem sml1_lt {x : Nat} (h : x < 4294967296) : sml1 x < 4294967296 :=
  xor_lt32 (xor_lt32 (rotr_lt x 17 h (by omega) (by omega)) (rotr_lt x 19 h (by omega) (by omega))) (by omega)
theorem big0_lt {x : Nat} (h : x < 4294967296) : big0 x < 4294967296 :=
  xor_lt32 (xor_lt32 (rotr_lt x 2 h (by omega) (by omega)) (rotr_lt x 13 h (by omega) (by omega))) (rotr_lt x 22 h (by omega) (by omega))
theorem big1_lt {x : Nat} (h : x < 4294967296) : big1 x < 4294967296 :=
  xor_lt32 (xor_lt32 (rotr_lt x 6 h (by omega) (by omega)) (rotr_lt x 11 h (by omega) (by omega))) (rotr_lt x 25 h (by omega) (by omega))

theorem next_bits (x0 x1 x7 x2 : Nat) (h0 : x0 < 4294967296) (h1 : x1 < 4294967296) (h7 : x7 < 4294967296) (h2 : x2 < 4294967296) :
    ((((x0 : Int) + bits .xor .u32 (bits .xor .u32 ((rotr x1 7 : Nat) : Int) ((rotr x1 18 : Nat) : Int)) ((x1 : Int) / 8)) % 4294967296 + (x7 : Int)) % 4294967296 +
      bits .xor .u32 (bits .xor .u32 ((rotr x2 17 : Nat) : Int) ((rotr x2 19 : Nat) : Int)) ((x2 : Int) / 1024)) % 4294967296 = (((x0 + sml0 x1 + x7 + sml1 x2) % 4294967296 : Nat) : Int) := by
  have a1 := rotr_lt x1 7 h1 (by omega) (by omega)
  have a2 := rotr_lt x1 18 h1 (by omega) (by omega)
  have a3 := rotr_lt x2 17 h2 (by omega) (by omega)
  have a4 := rotr_lt x2 19 h2 (by omega) (by omega)
  rw [u32_xor_nat _ _ a1 a2, u32_xor_nat _ _ a3 a4, show ((x1 : Int) / 8) = ((x1 / 8 : Nat) : Int) by simp, show ((x2 : Int) / 1024) = ((x2 / 1024 : Nat) : Int) by simp,
    u32_xor_nat _ _ (xor_lt32 a1 a2) (by omega), u32_xor_nat _ _ (xor_lt32 a3 a4) (by omega)]
  unfold sml0 sml1
  omega

/-- a piece's i-th word -/
def word4 (bs : List UInt8) (i : Nat) : Nat := byt bs (4 * i) * 16777216 + byt bs (4 * i + 1) * 65536 + byt bs (4 * i + 2) * 256 + byt bs (4 * i + 3)
theorem word4_lt (bs : List UInt8) (i : Nat) : word4 bs i < 4294967296 := by
  have h0 := byt_lt bs (4 * i)
  have h1 := byt_lt bs (4 * i + 1)
  have h2 := byt_lt bs (4 * i + 2)
  have h3 := byt_lt bs (4 * i + 3)
  unfold word4
  omega

theorem word_bits (b0 b1 b2 b3 : Nat) (h0 : b0 < 256) (h1 : b1 < 256) (h2 : b2 < 256) (h3 : b3 < 256) :
    bits .or .u32 (bits .or .u32 (bits .or .u32 ((b0 : Int) * 16777216) ((b1 : Int) * 65536)) ((b2 : Int) * 256)) (b3 : Int) = ((b0 * 16777216 + b1 * 65536 + b2 * 256 + b3 : Nat) : Int) := by
  have e1 : bits .or .u32 ((b0 : Int) * 16777216) ((b1 : Int) * 65536) = ((b0 * 16777216 + b1 * 65536 : Nat) : Int) := by
    have := u32_or_nat (b0 * 16777216) (b1 * 65536) (by omega) (by omega)
    rw [nat_join 24 _ _ (by omega) (by omega)] at this
    simpa using this
  rw [e1]
  have e2 : bits .or .u32 ((b0 * 16777216 + b1 * 65536 : Nat) : Int) ((b2 : Int) * 256) = ((b0 * 16777216 + b1 * 65536 + b2 * 256 : Nat) : Int) := by
    have := u32_or_nat (b0 * 16777216 + b1 * 65536) (b2 * 256) (by omega) (by omega)
    rw [nat_join 16 _ _ (by omega) (by omega)] at this
    simpa using this
  rw [e2, u32_or_nat _ _ (by omega) (by omega), nat_join 8 _ _ (by omega) (by omega)]

/-- the next word of a row of words -/
def nextW (l : List Nat) : Nat := (l.getD (l.length - 16) 0 + sml0 (l.getD (l.length - 15) 0) + l.getD (l.length - 7) 0 + sml1 (l.getD (l.length - 2) 0)) % 4294967296
/-- a piece's first 16 + n words -/
def sched (bs : List UInt8) : Nat → List Nat
  | 0 => (List.range 16).map (word4 bs)
  | n + 1 => sched bs n ++ [nextW (sched bs n)]
theorem sched_length (bs : List UInt8) (n : Nat) : (sched bs n).length = 16 + n := by
  induction n with
  | zero => simp [sched]
  | succ n ih => simp [sched, ih]; omega
theorem sched_lt (bs : List UInt8) (n : Nat) : ∀ x ∈ sched bs n, x < 4294967296 := by
  induction n with
  | zero =>
    intro x hx
    simp only [sched, List.mem_map] at hx
    obtain ⟨i, _, rfl⟩ := hx
    exact word4_lt bs i
  | succ n ih =>
    intro x hx
    simp only [sched, List.mem_append, List.mem_singleton] at hx
    rcases hx with hx | rfl
    · exact ih x hx
    · exact Nat.mod_lt _ (by omega)
theorem getD_lt32 {l : List Nat} (h : ∀ x ∈ l, x < 4294967296) (i : Nat) : l.getD i 0 < 4294967296 := by
  by_cases hi : i < l.length
  · rw [List.getD_eq_getElem?_getD, List.getElem?_eq_getElem hi]
    exact h _ (List.getElem_mem hi)
  · rw [List.getD_eq_getElem?_getD, List.getElem?_eq_none (by omega)]
    decide

/-- what the array holds behind k rounds of the first loop, and behind n of the second -/
def fill1 (bs : List UInt8) (k : Nat) : List Nat := (List.range k).map (word4 bs) ++ List.replicate (64 - k) 0
def fill2 (bs : List UInt8) (n : Nat) : List Nat := sched bs n ++ List.replicate (48 - n) 0
theorem fill1_length (bs : List UInt8) (k : Nat) (h : k ≤ 64) : (fill1 bs k).length = 64 := by simp [fill1]; omega
theorem fill2_length (bs : List UInt8) (n : Nat) (h : n ≤ 48) : (fill2 bs n).length = 64 := by simp [fill2, sched_length]; omega
theorem set_snoc (l : List Nat) (m x : Nat) : (l ++ List.replicate (m + 1) 0).set l.length x = l ++ [x] ++ List.replicate m 0 := by
  rw [List.set_append_right _ _ (Nat.le_refl _)]
  simp [List.replicate_succ]
theorem fill1_set (bs : List UInt8) (k : Nat) (h : k < 16) : (fill1 bs k).set k (word4 bs k) = fill1 bs (k + 1) := by
  unfold fill1
  have := set_snoc ((List.range k).map (word4 bs)) (63 - k) (word4 bs k)
  rw [List.length_map, List.length_range, show 63 - k + 1 = 64 - k by omega] at this
  rw [this, List.range_succ, List.map_append, show 64 - (k + 1) = 63 - k by omega]
  rfl
theorem fill1_16 (bs : List UInt8) : fill1 bs 16 = fill2 bs 0 := rfl
theorem fill2_set (bs : List UInt8) (n : Nat) (h : n < 48) : (fill2 bs n).set (16 + n) (nextW (sched bs n)) = fill2 bs (n + 1) := by
  unfold fill2
  have := set_snoc (sched bs n) (47 - n) (nextW (sched bs n))
  rw [sched_length, show 47 - n + 1 = 48 - n by omega] at this
  rw [this, show 48 - (n + 1) = 47 - n by omega]
  rfl
theorem fill2_get (bs : List UInt8) (n i : Nat) (h : i < 16 + n) : (fill2 bs n).getD i 0 = (sched bs n).getD i 0 := by
  unfold fill2
  rw [List.getD_eq_getElem?_getD, List.getD_eq_getElem?_getD, List.getElem?_append_left (by rw [sched_length]; exact h)]

/-- the round's choice and majority -/
def chW (e f g : Nat) : Nat := (e &&& f) ^^^ ((4294967295 - e) &&& g)
def majW (a b c : Nat) : Nat := (a &&& b) ^^^ (a &&& c) ^^^ (b &&& c)
theorem chW_lt {e f g : Nat} (he : e < 4294967296) : chW e f g < 4294967296 := xor_lt32 (and_lt32 he) (and_lt32 (by omega))
theorem majW_lt {a b c : Nat} (ha : a < 4294967296) (hb : b < 4294967296) : majW a b c < 4294967296 := xor_lt32 (xor_lt32 (and_lt32 ha) (and_lt32 ha)) (and_lt32 hb)
def t1W (e f g h k w : Nat) : Nat := (h + big1 e + chW e f g + k + w) % 4294967296
def t2W (a b c : Nat) : Nat := (big0 a + majW a b c) % 4294967296
theorem not32 (e : Nat) (he : e < 4294967296) : 4294967295 ^^^ e = 4294967295 - e := by
  have h : (BitVec.allOnes 32 ^^^ BitVec.ofNat 32 e).toNat = (~~~ (BitVec.ofNat 32 e)).toNat := by
    congr 1
  rw [BitVec.toNat_xor, BitVec.toNat_not, BitVec.toNat_allOnes, BitVec.toNat_ofNat, Nat.mod_eq_of_lt he] at h
  exact h
theorem ch_bits (e f g : Nat) (he : e < 4294967296) (hf : f < 4294967296) (hg : g < 4294967296) :
    bits .xor .u32 (bits .and .u32 (e : Int) (f : Int)) (bits .and .u32 (bits .xor .u32 (if IntKind.u32.signed = true then -1 else IntKind.u32.max) (e : Int)) (g : Int)) = ((chW e f g : Nat) : Int) := by
  have e1 : (if IntKind.u32.signed = true then (-1 : Int) else IntKind.u32.max) = ((4294967295 : Nat) : Int) := by decide
  rw [e1, u32_and_nat e f he hf, u32_xor_nat 4294967295 e (by omega) he, not32 e he, u32_and_nat _ g (by omega) hg, u32_xor_nat _ _ (and_lt32 he) (and_lt32 (by omega))]
  rfl
theorem big1_bits (e : Nat) (he : e < 4294967296) :
    bits .xor .u32 (bits .xor .u32 ((rotr e 6 : Nat) : Int) ((rotr e 11 : Nat) : Int)) ((rotr e 25 : Nat) : Int) = ((big1 e : Nat) : Int) := by
  have a1 := rotr_lt e 6 he (by omega) (by omega)
  have a2 := rotr_lt e 11 he (by omega) (by omega)
  have a3 := rotr_lt e 25 he (by omega) (by omega)
  rw [u32_xor_nat _ _ a1 a2, u32_xor_nat _ _ (xor_lt32 a1 a2) a3]
  rfl
theorem big0_bits (e : Nat) (he : e < 4294967296) :
    bits .xor .u32 (bits .xor .u32 ((rotr e 2 : Nat) : Int) ((rotr e 13 : Nat) : Int)) ((rotr e 22 : Nat) : Int) = ((big0 e : Nat) : Int) := by
  have a1 := rotr_lt e 2 he (by omega) (by omega)
  have a2 := rotr_lt e 13 he (by omega) (by omega)
  have a3 := rotr_lt e 22 he (by omega) (by omega)
  rw [u32_xor_nat _ _ a1 a2, u32_xor_nat _ _ (xor_lt32 a1 a2) a3]
  rfl
theorem maj_bits (a b c : Nat) (ha : a < 4294967296) (hb : b < 4294967296) (hc : c < 4294967296) :
    bits .xor .u32 (bits .xor .u32 (bits .and .u32 (a : Int) (b : Int)) (bits .and .u32 (a : Int) (c : Int))) (bits .and .u32 (b : Int) (c : Int)) = ((majW a b c : Nat) : Int) := by
  rw [u32_and_nat a b ha hb, u32_and_nat a c ha hc, u32_and_nat b c hb hc, u32_xor_nat _ _ (and_lt32 ha) (and_lt32 ha), u32_xor_nat _ _ (xor_lt32 (and_lt32 ha) (and_lt32 ha)) (and_lt32 hb)]
  rfl
/-- the two sums of a round, as the walk spells them -/
theorem t1_bits (e f g h k w : Nat) (he : e < 4294967296) (hf : f < 4294967296) (hg : g < 4294967296) :
    (((h : Int) + bits .xor .u32 (bits .xor .u32 ((rotr e 6 : Nat) : Int) ((rotr e 11 : Nat) : Int)) ((rotr e 25 : Nat) : Int) +
        bits .xor .u32 (bits .and .u32 (e : Int) (f : Int)) (bits .and .u32 (bits .xor .u32 (if IntKind.u32.signed = true then -1 else IntKind.u32.max) (e : Int)) (g : Int)) + (k : Int)) % 4294967296 + (w : Int)) % 4294967296 = ((t1W e f g h k w : Nat) : Int) := by
  rw [ch_bits e f g he hf hg, big1_bits e he]
  unfold t1W
  omega
theorem t2_bits (a b c : Nat) (ha : a < 4294967296) (hb : b < 4294967296) (hc : c < 4294967296) :
    (bits .xor .u32 (bits .xor .u32 ((rotr a 2 : Nat) : Int) ((rotr a 13 : Nat) : Int)) ((rotr a 22 : Nat) : Int) +
        bits .xor .u32 (bits .xor .u32 (bits .and .u32 (a : Int) (b : Int)) (bits .and .u32 (a : Int) (c : Int))) (bits .and .u32 (b : Int) (c : Int))) % 4294967296 = ((t2W a b c : Nat) : Int) := by
  rw [maj_bits a b c ha hb hc, big0_bits a ha]
  unfold t2W
  omega
theorem t1W_lt (e f g h k w : Nat) : t1W e f g h k w < 4294967296 := Nat.mod_lt _ (by omega)
theorem t2W_lt (a b c : Nat) : t2W a b c < 4294967296 := Nat.mod_lt _ (by omega)
/-- a round -/
def roundW (s : List Nat) (k w : Nat) : List Nat :=
  [(t1W (s.getD 4 0) (s.getD 5 0) (s.getD 6 0) (s.getD 7 0) k w + t2W (s.getD 0 0) (s.getD 1 0) (s.getD 2 0)) % 4294967296, s.getD 0 0, s.getD 1 0, s.getD 2 0,
   (s.getD 3 0 + t1W (s.getD 4 0) (s.getD 5 0) (s.getD 6 0) (s.getD 7 0) k w) % 4294967296, s.getD 4 0, s.getD 5 0, s.getD 6 0]
/-- the state behind i rounds -/
def roundsW (s ks ws : List Nat) : Nat → List Nat
  | 0 => s
  | i + 1 => roundW (roundsW s ks ws i) (ks.getD i 0) (ws.getD i 0)
/-- words added one by one, the first j of them -/
def addW (s c : List Nat) (j : Nat) : List Nat := (List.range 8).map fun i => if i < j then (s.getD i 0 + c.getD i 0) % 4294967296 else s.getD i 0
/-- the state behind a piece -/
def takeW (c ks : List Nat) (bs : List UInt8) : List Nat := addW (roundsW c ks (sched bs 48) 64) c 8
def Words (l : List Nat) : Prop := ∀ x ∈ l, x < 4294967296
theorem roundW_words {s : List Nat} (h : Words s) (k w : Nat) : Words (roundW s k w) := by
  have g := fun i => getD_lt32 h i
  intro x hx
  simp only [roundW, List.mem_cons, List.not_mem_nil, or_false] at hx
  rcases hx with rfl | rfl | rfl | rfl | rfl | rfl | rfl | rfl
  · exact Nat.mod_lt _ (by omega)
  · exact g 0
  · exact g 1
  · exact g 2
  · exact Nat.mod_lt _ (by omega)
  · exact g 4
  · exact g 5
  · exact g 6
theorem roundsW_words {s : List Nat} (h : Words s) (ks ws : List Nat) (i : Nat) : Words (roundsW s ks ws i) := by
  induction i with
  | zero => exact h
  | succ i ih => exact roundW_words ih _ _
theorem roundsW_length {s : List Nat} (h : s.length = 8) (ks ws : List Nat) (i : Nat) : (roundsW s ks ws i).length = 8 := by
  cases i with
  | zero => exact h
  | succ i => rfl
theorem addW_length (s c : List Nat) (j : Nat) : (addW s c j).length = 8 := by simp [addW]
theorem takeW_length (c ks : List Nat) (bs : List UInt8) : (takeW c ks bs).length = 8 := addW_length _ _ _
theorem takeW_words (c ks : List Nat) (bs : List UInt8) : Words (takeW c ks bs) := by
  intro x hx
  simp only [takeW, addW, List.mem_map, List.mem_range] at hx
  obtain ⟨i, hi, rfl⟩ := hx
  rw [if_pos hi]
  exact Nat.mod_lt _ (by omega)
theorem addW_zero {s : List Nat} (h : s.length = 8) (c : List Nat) : addW s c 0 = s := by
  apply List.ext_getElem
  · simp [addW, h]
  · intro i h1 h2
    simp [addW, h2]
theorem addW_get (s c : List Nat) (i j : Nat) (h : j < 8) : (addW s c i).getD j 0 = if j < i then (s.getD j 0 + c.getD j 0) % 4294967296 else s.getD j 0 := by
  simp [addW, h]
theorem addW_set (s c : List Nat) (j : Nat) (h : j < 8) : (addW s c j).set j ((s.getD j 0 + c.getD j 0) % 4294967296) = addW s c (j + 1) := by
  apply List.ext_getElem
  · simp [addW]
  · intro i h1 h2
    rw [List.getElem_set]
    simp only [addW, List.getElem_map, List.getElem_range]
    by_cases e : j = i
    · subst e
      simp
    · rw [if_neg e]
      by_cases e2 : i < j
      · rw [if_pos e2, if_pos (by omega)]
      · rw [if_neg e2, if_neg (by omega)]
end Go.Proofs.Ytmhjocbnoppbbaa.Sha
