/- What a manifest is, and its bytes (plain: no program in sight). · manifest: in, heads, tables, place, Check. · manifest: place, Check. · manifest: Where. · slices.Equal of shards of a table; manifest.Same. · octet: PutText of one text; manifest: Put. · manifest: Put. -/
import Derived.Test.YtjokfllldcjheaaGreatDoorSp
import Derived.Test.YtjokfllldcjheaaGreatDoorEe
import Derived.Test.YtjokfllldcjheaaGreatDoorTb
import Derived.Test.YtjokfllldcjheaaGreatDoorOw
import Derived.OrdersHeld
import Derived.Test.YtjokfllldcjheaaGreatDoorCu
import Derived.Laws.StructEq
import Derived.Test.YtjokfllldcjheaaGreatDoorSw
import Derived.Test.YtjokfllldcjheaaGreatDoorTxt
import Derived.Test.YtjokfllldcjheaaGreatDoorRo
/- What a manifest is, and its bytes (plain: no program in sight). -/
namespace Go.Proofs.YtjokfllldcjheaaGreatDoor.Mn
open Go.Proofs.YtjokfllldcjheaaGreatDoor.Oc Go.Proofs.YtjokfllldcjheaaGreatDoor.Ed
set_option linter.unusedVariables false
set_option linter.unusedSimpArgs false
theorem shB_zero : shB 0 = [0] := by rw [shB_lt (by omega)]; rfl
/-- what is read is written so -/
theorem rd_inv : ∀ (bs : List UInt8) (i x : Nat) (q : Nat × Nat), rd bs i x = .ok q → ∃ z, q.1 = x + z * 128 ^ i ∧ i < q.2 ∧ bs.take (q.2 - i) = shB z ∧ (0 < i → z ≠ 0)
  | [], i, x, q, h => by simp [rd] at h
  | c :: r, i, x, q, h => by
    by_cases h1 : 128 ≤ c.toNat
    · by_cases h7 : i = 7
      · subst h7; rw [rd_seven h1] at h; simp at h
      · rw [rd_go h1 h7] at h
        obtain ⟨z, e1, e2, e3, e4⟩ := rd_inv r (i + 1) _ q h
        have z0 := e4 (by omega)
        have hc := UInt8.toNat_lt c
        refine ⟨c.toNat % 128 + 128 * z, ?_, by omega, ?_, fun _ => by omega⟩
        · rw [e1, Nat.pow_succ, Nat.add_mul]
          have : z * (128 ^ i * 128) = 128 * z * 128 ^ i := by rw [Nat.mul_comm (128 ^ i), ← Nat.mul_assoc, Nat.mul_comm z]
          omega
        · have hq : q.2 - i = (q.2 - (i + 1)) + 1 := by omega
          rw [hq, List.take_succ_cons, e3, shB_ge (x := c.toNat % 128 + 128 * z) (by omega)]
          have a1 : (c.toNat % 128 + 128 * z) % 128 + 128 = c.toNat := by omega
          have a2 : (c.toNat % 128 + 128 * z) / 128 = z := by omega
          rw [a1, a2, UInt8.ofNat_toNat]
    · by_cases h0 : c.toNat = 0 ∧ 0 < i
      · rw [rd_nought h0.1 h0.2] at h; simp at h
      · rw [rd_last (by omega) h0] at h
        injection h with h
        subst h
        refine ⟨c.toNat, rfl, by simp, ?_, fun hi hz => h0 ⟨hz, hi⟩⟩
        have hq : i + 1 - i = 1 := by omega
        show List.take (i + 1 - i) _ = _
        rw [hq, shB_lt (by omega), UInt8.ofNat_toNat]
        rfl
theorem rdAt_inv {bs : List UInt8} {a : Nat} {q : Nat × Nat} (h : rdAt bs a = .ok q) (ha : a ≤ bs.length) : bs.take q.2 = bs.take a ++ shB q.1 := by
  obtain ⟨n, h1, h2⟩ := rdAt_ok h
  obtain ⟨z, e1, e2, e3, -⟩ := rd_inv _ _ _ _ h1
  simp only [Nat.pow_zero, Nat.mul_one, Nat.zero_add, Nat.sub_zero] at e1 e3
  rw [h2, List.take_add, e1, ← e3]
/-- a short number is told by its bytes, whatever stands behind it -/
theorem shB_free {x y : Nat} {t u : List UInt8} (hx : x < 128 ^ 8) (hy : y < 128 ^ 8) (h : shB x ++ t = shB y ++ u) : x = y ∧ t = u := by
  have h1 := rd_put x t hx
  rw [h, rd_put y u hy] at h1
  injection h1 with h1
  injection h1 with h1 h2
  subst h1
  exact ⟨rfl, List.append_cancel_left h⟩
/-- a manifest -/
structure Man where
  ver : Int
  nodes : Int
  edges : Int
  sh : List E2
  blocks : Int
  root : ByteArray
/-- how many bytes the shards have -/
def tot : List E2 → Int
  | [] => 0
  | e :: l => e.2 + tot l
theorem tot_append (a b : List E2) : tot (a ++ b) = tot a + tot b := by
  induction a with
  | nil => simp [tot]
  | cons x a ih => simp only [List.cons_append, tot, ih]; omega
theorem tot_take (l : List E2) (k : Nat) (h : k < l.length) : tot (l.take (k + 1)) = tot (l.take k) + (l.getD k (0, 0)).2 := by
  rw [List.take_add_one, tot_append, List.getElem?_eq_getElem h]
  simp [tot, List.getD, List.getElem?_eq_getElem h]
def fst (l : List E2) (k : Nat) : Int := (l.getD k (0, 0)).1
def snd (l : List E2) (k : Nat) : Int := (l.getD k (0, 0)).2
/-- the k first rows of a table may be -/
def Rows (nodes : Int) (l : List E2) (k : Nat) : Prop := ∀ i, i < k → (if i = 0 then fst l i = 0 else fst l (i - 1) + 1 ≤ fst l i ∧ fst l i ≤ nodes - 1) ∧ 3 ≤ snd l i ∧ snd l i ≤ 1048576
theorem Rows.zero (nodes : Int) (l : List E2) : Rows nodes l 0 := fun i h => by omega
theorem Rows.succ {nodes : Int} {l : List E2} {k : Nat} (h : Rows nodes l k) (h1 : if k = 0 then fst l k = 0 else fst l (k - 1) + 1 ≤ fst l k ∧ fst l k ≤ nodes - 1) (h2 : 3 ≤ snd l k) (h3 : snd l k ≤ 1048576) : Rows nodes l (k + 1) := fun i hi => by
  by_cases e : i = k
  · subst e; exact ⟨h1, h2, h3⟩
  · exact h i (by omega)
/-- how many blocks bytes make -/
def cnt (n : Int) : Int := if n < 1 then 0 else (n - 1) / 64 + 1
def Heads (m : Man) : Prop := (1 ≤ m.ver ∧ m.ver ≤ 1099511627776) ∧ (0 ≤ m.nodes ∧ m.nodes ≤ 4096) ∧ (0 ≤ m.edges ∧ m.edges ≤ 20000) ∧ m.sh.length ≤ 64 ∧ (m.sh.length = 0 ↔ m.nodes = 0)
/-- a manifest that may be -/
def May (m : Man) : Prop := Heads m ∧ Rows m.nodes m.sh m.sh.length ∧ m.blocks = cnt (tot m.sh) ∧ m.blocks ≤ 2048 ∧ m.root.size = 32
theorem rows_tot {nodes : Int} {l : List E2} : ∀ k, Rows nodes l k → k ≤ l.length → 3 * (k : Int) ≤ tot (l.take k) ∧ tot (l.take k) ≤ 1048576 * (k : Int)
  | 0, _, _ => by simp [tot]
  | k + 1, h, hk => by
    have ih := rows_tot k (fun i hi => h i (by omega)) (by omega)
    have h1 := (h k (by omega)).2
    rw [tot_take l k (by omega)]
    unfold snd at h1
    push_cast
    omega
/-- firsts rise from nought -/
theorem rows_fst {nodes : Int} {l : List E2} (h : Rows nodes l l.length) : ∀ i, i < l.length → (i : Int) ≤ fst l i
  | 0, hi => by have := (h 0 hi).1; simp at this; omega
  | i + 1, hi => by
    have ih := rows_fst h i (by omega)
    have := (h (i + 1) hi).1
    simp at this
    push_cast; omega
theorem rows_mono {nodes : Int} {l : List E2} (h : Rows nodes l l.length) (i : Nat) : ∀ j, i ≤ j → j < l.length → fst l i ≤ fst l j
  | 0, hij, hj => by have : i = 0 := by omega
                     subst this; exact Int.le_refl _
  | j + 1, hij, hj => by
    by_cases e : i = j + 1
    · subst e; exact Int.le_refl _
    · have ih := rows_mono h i j (by omega) (by omega)
      have := (h (j + 1) hj).1
      simp at this
      omega
/-- a table's bytes -/
def tabB (l : List E2) : List UInt8 := l.flatMap fun e => shB e.1.toNat ++ shB e.2.toNat
theorem tabB_snoc (l : List E2) (e : E2) : tabB (l ++ [e]) = tabB l ++ (shB e.1.toNat ++ shB e.2.toNat) := by simp [tabB]
/-- a manifest's bytes -/
def manB (m : Man) : List UInt8 := shB m.ver.toNat ++ shB m.nodes.toNat ++ shB m.edges.toNat ++ shB m.sh.length ++ tabB m.sh ++ shB m.blocks.toNat ++ (shB m.root.size ++ m.root.data.toList)
theorem tabB_free : ∀ (l l' : List E2) (t u : List UInt8), l.length = l'.length → (∀ e ∈ l, (0 ≤ e.1 ∧ e.1 < 4096) ∧ 0 ≤ e.2 ∧ e.2 ≤ 1048576) → (∀ e ∈ l', (0 ≤ e.1 ∧ e.1 < 4096) ∧ 0 ≤ e.2 ∧ e.2 ≤ 1048576) → tabB l ++ t = tabB l' ++ u → l = l' ∧ t = u
  | [], [], t, u, _, _, _, h => ⟨rfl, by simpa [tabB] using h⟩
  | e :: l, e' :: l', t, u, hl, h1, h2, h => by
    have a1 := h1 e (by simp)
    have a2 := h2 e' (by simp)
    simp only [tabB, List.flatMap_cons, List.append_assoc] at h
    obtain ⟨b1, h⟩ := shB_free (small (by omega)) (small (by omega)) h
    obtain ⟨b2, h⟩ := shB_free (Nat.lt_of_le_of_lt (by omega : e.2.toNat ≤ 1048576) (by decide)) (Nat.lt_of_le_of_lt (by omega : e'.2.toNat ≤ 1048576) (by decide)) h
    obtain ⟨b3, b4⟩ := tabB_free l l' t u (by simpa using hl) (fun x hx => h1 x (by simp [hx])) (fun x hx => h2 x (by simp [hx])) h
    refine ⟨?_, b4⟩
    rw [b3]
    congr 1
    exact Prod.ext (by omega) (by omega)
theorem May.each {m : Man} (h : May m) : ∀ e ∈ m.sh, (0 ≤ e.1 ∧ e.1 < 4096) ∧ 0 ≤ e.2 ∧ e.2 ≤ 1048576 := by
  intro e he
  obtain ⟨⟨-, ⟨n0, n1⟩, -, -, hn⟩, hr, -⟩ := h
  obtain ⟨i, hi, rfl⟩ := List.getElem_of_mem he
  have a := rows_fst hr i hi
  have b := hr i hi
  have c : fst m.sh i = (m.sh[i]).1 := by simp [fst, List.getD, List.getElem?_eq_getElem hi]
  have d : snd m.sh i = (m.sh[i]).2 := by simp [snd, List.getD, List.getElem?_eq_getElem hi]
  have n2 : m.nodes ≠ 0 := fun h0 => by have := hn.2 h0; omega
  rw [c] at a b
  rw [d] at b
  refine ⟨⟨by omega, ?_⟩, by omega, by omega⟩
  by_cases e0 : i = 0
  · simp only [e0, if_true] at b; have := b.1; simp only [e0]; omega
  · rw [if_neg e0] at b; omega
theorem cnt_pos {n : Int} (h : 0 ≤ n) : 0 ≤ cnt n := by unfold cnt; split <;> omega
/-- unlike manifests that may be have unlike bytes -/
theorem manB_free {a b : Man} (ha : May a) (hb : May b) (h : manB a = manB b) : a = b := by
  have ea := ha.each
  have eb := hb.each
  have ta := (rows_tot a.sh.length ha.2.1 (Nat.le_refl _)).1
  have tb := (rows_tot b.sh.length hb.2.1 (Nat.le_refl _)).1
  rw [List.take_length] at ta tb
  obtain ⟨⟨av, an, ae, al, -⟩, -, ab, ab2, ar⟩ := ha
  obtain ⟨⟨bv, bn, be, bl, -⟩, -, bb, bb2, br⟩ := hb
  have ca := cnt_pos (n := tot a.sh) (by omega)
  have cb := cnt_pos (n := tot b.sh) (by omega)
  simp only [manB, List.append_assoc] at h
  have big : 1099511627776 < 128 ^ 8 := by decide
  obtain ⟨e1, h⟩ := shB_free (Nat.lt_of_le_of_lt (by omega : a.ver.toNat ≤ 1099511627776) big) (Nat.lt_of_le_of_lt (by omega : b.ver.toNat ≤ 1099511627776) big) h
  obtain ⟨e2, h⟩ := shB_free (small (by omega)) (small (by omega)) h
  obtain ⟨e3, h⟩ := shB_free (Nat.lt_of_le_of_lt (by omega : a.edges.toNat ≤ 1099511627776) big) (Nat.lt_of_le_of_lt (by omega : b.edges.toNat ≤ 1099511627776) big) h
  obtain ⟨e4, h⟩ := shB_free (small (by omega)) (small (by omega)) h
  obtain ⟨e5, h⟩ := tabB_free _ _ _ _ e4 ea eb h
  obtain ⟨e6, h⟩ := shB_free (small (by omega)) (small (by omega)) h
  obtain ⟨e7, h⟩ := shB_free (small (by omega)) (small (by omega)) h
  obtain ⟨a1, a2, a3, a4, a5, a6⟩ := a
  obtain ⟨b1, b2, b3, b4, b5, b6⟩ := b
  simp only at *
  have x1 : a1 = b1 := by omega
  have x2 : a2 = b2 := by omega
  have x3 : a3 = b3 := by omega
  have x5 : a5 = b5 := by omega
  have x6 : a6 = b6 := ByteArray.ext (Array.toList_inj.1 h)
  subst x1 x2 x3 x5 x6 e5
  rfl
end Go.Proofs.YtjokfllldcjheaaGreatDoor.Mn
/- manifest: in, heads, tables, place, Check. -/
namespace Go.Proofs.YtjokfllldcjheaaGreatDoor.Mn
open Go.RowKit Go.Proofs.YtjokfllldcjheaaGreatDoor.Oc Go.Proofs.YtjokfllldcjheaaGreatDoor.Ed Go.Proofs.YtjokfllldcjheaaGreatDoor.Tb Go.Proofs.YtjokfllldcjheaaGreatDoor.Sha
set_option linter.unusedVariables false
set_option linter.unusedSimpArgs false
set_option maxHeartbeats 1000000 in
theorem min_calls (n a b : Int) (w : World) : Calls Tryz.prog 144 #[.int .i64 n, .int .i64 a, .int .i64 b] w fun e w' => e = .returned (.bool (decide (a ≤ n ∧ n ≤ b))) ∧ w = w' := by
  by_cases h1 : a ≤ n
  · by_cases h2 : n ≤ b
    · rw [decide_eq_true (show a ≤ n ∧ n ≤ b from ⟨h1, h2⟩)]
      go_enter Tryz.func144, Tryz.ntmps144
      go_wp2
      go_ret
      exact ⟨rfl, rfl⟩
    · rw [decide_eq_false (show ¬ (a ≤ n ∧ n ≤ b) from fun h => h2 h.2)]
      go_enter Tryz.func144, Tryz.ntmps144
      go_wp2
      go_ret
      exact ⟨rfl, rfl⟩
  · rw [decide_eq_false (show ¬ (a ≤ n ∧ n ≤ b) from fun h => h1 h.1)]
    go_enter Tryz.func144, Tryz.ntmps144
    go_wp2
    go_ret
    exact ⟨rfl, rfl⟩
set_option maxHeartbeats 1000000 in
theorem mcount_calls (n : Int) (w : World) (h : -1000000000000 ≤ n ∧ n ≤ 1000000000000) : Calls Tryz.prog 32 #[.int .i64 n] w fun e w' => e = .returned (.int .i64 (cnt n)) ∧ w = w' := by
  by_cases h1 : n < 1
  · have e : cnt n = 0 := by unfold cnt; rw [if_pos h1]
    rw [e]
    go_enter Tryz.func32, Tryz.ntmps32
    go_wp2
    go_ret
    exact ⟨rfl, rfl⟩
  · have e : cnt n = (n - 1) / 64 + 1 := by unfold cnt; rw [if_neg h1]
    rw [e]
    obtain ⟨k, rfl⟩ := Int.eq_ofNat_of_zero_le (show 0 ≤ n by omega)
    go_enter Tryz.func32, Tryz.ntmps32
    go_wp2
    go_ret
    exact ⟨by go_num, rfl⟩
/-- a manifest, as a value -/
abbrev manV (m : Man) (tv : Value) : Value := .agg #[.int .i64 m.ver, .int .i64 m.nodes, .int .i64 m.edges, tv, .int .i64 m.blocks, .string m.root]
set_option maxHeartbeats 4000000 in
set_option maxRecDepth 100000 in
theorem mtotal_calls (i0 i1 i2 i4 : Int) (rt : ByteArray) (g : Nat) (tv : Value) (l : List E2) (w : World) (hr : TBR w g tv l) (hl : l.length ≤ 100) (hb : ∀ k, k ≤ l.length → 0 ≤ tot (l.take k) ∧ tot (l.take k) ≤ 1048576 * k) :
    Calls Tryz.prog 123 #[.agg #[.int .i64 i0, .int .i64 i1, .int .i64 i2, tv, .int .i64 i4, .string rt]] w fun e w' => e = .returned (.int .i64 (tot l)) ∧ Hid (Below w.heap.size w w') := by
  have HR := Lib.hid hr
  obtain ⟨o, A, c, rfl, h1, h2, -⟩ := id hr
  obtain ⟨len, hlen⟩ : ∃ len, l.length = len := ⟨_, rfl⟩
  rw [hlen] at h1 hl ⊢
  have HL := Lib.hid hlen
  have HB0 := Lib.hid hb
  have hl7 : (len : Int) ≤ 100 := by omega
  have HBX : Hid (Below w.heap.size w (w.alloc (.cells #[.int .i64 i0, .int .i64 i1, .int .i64 i2, .slice A len c, .int .i64 i4, .string rt] 73))) := Lib.hid ((Below.refl _ _).alloc (Nat.le_refl _) _)
  clear hr hlen hb
  go_enter Tryz.func123, Tryz.ntmps123
  go_upto_region 3 with (fail)
  generalize w.alloc (.cells #[.int .i64 i0, .int .i64 i1, .int .i64 i2, .slice A len c, .int .i64 i4, .string rt] 73) = W1 at *
  go_loopw [3, 9] (fun u x wz => ∃ k : Nat, x = .int .i64 (k : Int) ∧ k ≤ len ∧ u = .int .i64 (tot (l.take k)) ∧ Hid (Below w.heap.size w wz)) (fun _ x _ => len - (intOf x).toNat)
  case atStart => exact ⟨0, rfl, by omega, rfl, HBX⟩
  case round =>
    obtain ⟨k, rfl, hk, rfl, HB⟩ := hrel
    have hb := HB0.out k (by rw [HL.out]; exact hk)
    obtain ⟨q, hq⟩ : ∃ q, tot (l.take k) = q := ⟨_, rfl⟩
    rw [hq] at hb ⊢
    obtain ⟨hb1, hb2⟩ := hb
    have hb3 : q ≤ 104857600 := by omega
    clear hb2
    by_cases hlt : k < len
    · obtain ⟨o', A', c', hv', -, -, hread⟩ := HR.out.later HB.out
      rw [HL.out] at hread hv'
      obtain ⟨rfl, -, hcell⟩ := hread (by omega)
      injection hv' with hv' _ hcc
      subst hcc hv'
      obtain ⟨q0, q1⟩ := hcell k hlt
      have hst := tot_take l k (by rw [HL.out]; exact hlt)
      have hb' := HB0.out (k + 1) (by rw [HL.out]; omega)
      obtain ⟨⟨x, y⟩, hxy⟩ : ∃ x, l.getD k (0, 0) = x := ⟨_, rfl⟩
      rw [hxy] at q0 q1 hst
      rw [hq] at hst
      simp only at q0 q1 hst
      rw [hst] at hb'
      have hy : -104857600 ≤ y ∧ y ≤ 104857600 := by omega
      have hy2 : 0 ≤ q + y ∧ q + y ≤ 104857600 := by omega
      obtain ⟨hy3, hy4⟩ := hy2
      obtain ⟨hy5, hy6⟩ := hy
      have HS := Lib.hid hst
      clear hcell hread hst hxy hb' hq
      go_wp2
      go_roundw
      case rel => exact ⟨k + 1, by go_num, by omega, by rw [HS.out], Lib.hid (HB.out.alloc HB.out.size _)⟩
      case measure => simp [intOf]; omega
    · obtain rfl : k = len := by omega
      have HQ : Hid (tot l = q) := Lib.hid (by rw [← hq, ← HL.out, List.take_length])
      clear hq
      go_wp2
      go_ret
      exact ⟨by rw [HQ.out]; rfl, HB⟩
set_option maxHeartbeats 4000000 in
set_option maxRecDepth 100000 in
theorem mheads_calls (m : Man) (A : Option Addr) (n c : Nat) (hn : m.sh.length = n) (w : World) :
    Calls Tryz.prog 121 #[manV m (.slice A n c)] w fun e w' => ∃ z : Int, e = .returned (.int .i64 z) ∧ (z = -1 ∧ Heads m ∨ 0 ≤ z ∧ ¬ Heads m) ∧ Hid (Below w.heap.size w w') := by
  have HBX : Hid (Below w.heap.size w (w.alloc (.cells #[.int .i64 m.ver, .int .i64 m.nodes, .int .i64 m.edges, .slice A n c, .int .i64 m.blocks, .string m.root] 73))) := Lib.hid ((Below.refl _ _).alloc (Nat.le_refl _) _)
  obtain ⟨i0, i1, i2, l, i4, rt⟩ := m
  simp only at hn HBX ⊢
  by_cases h0 : 1 ≤ i0 ∧ i0 ≤ 1099511627776
  case neg =>
    have t0 : decide (1 ≤ i0 ∧ i0 ≤ 1099511627776) = false := decide_eq_false h0
    have H0 : Hid (¬ Heads ⟨i0, i1, i2, l, i4, rt⟩) := Lib.hid fun h => h0 h.1
    clear h0 hn
    go_enter Tryz.func121, Tryz.ntmps121
    go_wp2_with (go_at_call 144; refine (min_calls _ _ _ _).mono ?_; rintro e w' ⟨rfl, rfl⟩; (try rw [t0]))
    go_ret
    exact ⟨0, rfl, .inr ⟨by omega, H0.out⟩, HBX⟩
  have t0 : decide (1 ≤ i0 ∧ i0 ≤ 1099511627776) = true := decide_eq_true h0
  by_cases h1 : 0 ≤ i1 ∧ i1 ≤ 4096
  case neg =>
    have t1 : decide (0 ≤ i1 ∧ i1 ≤ 4096) = false := decide_eq_false h1
    have H0 : Hid (¬ Heads ⟨i0, i1, i2, l, i4, rt⟩) := Lib.hid fun h => h1 h.2.1
    clear h0 h1 hn
    go_enter Tryz.func121, Tryz.ntmps121
    go_wp2_with (go_at_call 144; refine (min_calls _ _ _ _).mono ?_; rintro e w' ⟨rfl, rfl⟩; (try rw [t0]); (try rw [t1]))
    go_ret
    exact ⟨1, rfl, .inr ⟨by omega, H0.out⟩, HBX⟩
  have t1 : decide (0 ≤ i1 ∧ i1 ≤ 4096) = true := decide_eq_true h1
  by_cases h2 : 0 ≤ i2 ∧ i2 ≤ 20000
  case neg =>
    have t2 : decide (0 ≤ i2 ∧ i2 ≤ 20000) = false := decide_eq_false h2
    have H0 : Hid (¬ Heads ⟨i0, i1, i2, l, i4, rt⟩) := Lib.hid fun h => h2 h.2.2.1
    clear h0 h1 h2 hn
    go_enter Tryz.func121, Tryz.ntmps121
    go_wp2_with (go_at_call 144; refine (min_calls _ _ _ _).mono ?_; rintro e w' ⟨rfl, rfl⟩; (try rw [t0]); (try rw [t1]); (try rw [t2]))
    go_ret
    exact ⟨2, rfl, .inr ⟨by omega, H0.out⟩, HBX⟩
  have t2 : decide (0 ≤ i2 ∧ i2 ≤ 20000) = true := decide_eq_true h2
  by_cases h3 : n ≤ 64 ∧ (n = 0 ↔ i1 = 0)
  case neg =>
    have H0 : Hid (¬ Heads ⟨i0, i1, i2, l, i4, rt⟩) := Lib.hid fun h => h3 (by rw [← hn]; exact h.2.2.2)
    clear h0 h1 h2 hn
    by_cases h4 : n ≤ 64
    case neg =>
      have h5 : (n : Int) > 64 := by omega
      clear h3
      go_enter Tryz.func121, Tryz.ntmps121
      go_wp2_with (go_at_call 144; refine (min_calls _ _ _ _).mono ?_; rintro e w' ⟨rfl, rfl⟩; (try rw [t0]); (try rw [t1]); (try rw [t2]))
      go_ret
      exact ⟨3, rfl, .inr ⟨by omega, H0.out⟩, HBX⟩
    have h5 : ¬ (n : Int) > 64 := by omega
    by_cases h6 : n = 0
    · have h7 : (n : Int) = 0 := by omega
      have h8 : ¬ i1 = 0 := fun h => h3 ⟨h4, by omega⟩
      have b8 : (i1 == 0) = false := beq_eq_false_iff_ne.2 h8
      have b7 : ((n : Int) == 0) = true := beq_iff_eq.2 h7
      have d5 : decide ((64 : Int) < (n : Int)) = false := decide_eq_false (by omega)
      clear h3 h6 h7 h8 h5 h4
      go_enter Tryz.func121, Tryz.ntmps121
      go_wp2_with (go_at_call 144; refine (min_calls _ _ _ _).mono ?_; rintro e w' ⟨rfl, rfl⟩; (try rw [t0]); (try rw [t1]); (try rw [t2]))
      go_ret
      exact ⟨3, rfl, .inr ⟨by omega, H0.out⟩, HBX⟩
    · have h7 : ¬ (n : Int) = 0 := by omega
      have h8 : i1 = 0 := by
        by_cases h : i1 = 0
        · exact h
        · exact (h3 ⟨h4, by omega⟩).elim
      have b7 : ((n : Int) == 0) = false := beq_eq_false_iff_ne.2 h7
      have d5 : decide ((64 : Int) < (n : Int)) = false := decide_eq_false (by omega)
      clear h3 h7 h5 h4 h6
      subst h8
      go_enter Tryz.func121, Tryz.ntmps121
      go_wp2_with (go_at_call 144; refine (min_calls _ _ _ _).mono ?_; rintro e w' ⟨rfl, rfl⟩; (try rw [t0]); (try rw [t1]); (try rw [t2]))
      go_ret
      exact ⟨3, rfl, .inr ⟨by omega, H0.out⟩, HBX⟩
  have H0 : Hid (Heads ⟨i0, i1, i2, l, i4, rt⟩) := Lib.hid ⟨h0, h1, h2, by rw [← hn] at h3; exact h3⟩
  obtain ⟨h4, h3⟩ := h3
  have h5 : ¬ (n : Int) > 64 := by omega
  clear h0 h1 h2 hn
  by_cases h6 : n = 0
  · have h7 : (n : Int) = 0 := by omega
    have h8 : i1 = 0 := h3.1 h6
    have b7 : ((n : Int) == 0) = true := beq_iff_eq.2 h7
    have d5 : decide ((64 : Int) < (n : Int)) = false := decide_eq_false (by omega)
    clear h3 h6 h7 h5 h4
    subst h8
    go_enter Tryz.func121, Tryz.ntmps121
    go_wp2_with (go_at_call 144; refine (min_calls _ _ _ _).mono ?_; rintro e w' ⟨rfl, rfl⟩; (try rw [t0]); (try rw [t1]); (try rw [t2]))
    go_ret
    exact ⟨-1, rfl, .inl ⟨rfl, H0.out⟩, HBX⟩
  · have h7 : ¬ (n : Int) = 0 := by omega
    have h8 : ¬ i1 = 0 := fun h => h6 (h3.2 h)
    have b8 : (i1 == 0) = false := beq_eq_false_iff_ne.2 h8
    have b7 : ((n : Int) == 0) = false := beq_eq_false_iff_ne.2 h7
    have d5 : decide ((64 : Int) < (n : Int)) = false := decide_eq_false (by omega)
    clear h3 h8 h7 h5 h4 h6
    go_enter Tryz.func121, Tryz.ntmps121
    go_wp2_with (go_at_call 144; refine (min_calls _ _ _ _).mono ?_; rintro e w' ⟨rfl, rfl⟩; (try rw [t0]); (try rw [t1]); (try rw [t2]))
    go_ret
    exact ⟨-1, rfl, .inl ⟨rfl, H0.out⟩, HBX⟩
set_option maxHeartbeats 4000000 in
set_option maxRecDepth 100000 in
theorem mtables_calls (m : Man) (g : Nat) (tv : Value) (w : World) (hr : TBR w g tv m.sh) (hN : 0 ≤ m.nodes ∧ m.nodes ≤ 4096) (hl : m.sh.length ≤ 64) :
    Calls Tryz.prog 122 #[manV m tv] w fun e w' => ∃ z : Int, e = .returned (.int .i64 z) ∧ (z = -1 ∧ Rows m.nodes m.sh m.sh.length ∨ 0 ≤ z ∧ ¬ Rows m.nodes m.sh m.sh.length) ∧ Hid (Below w.heap.size w w') := by
  obtain ⟨i0, i1, i2, l, i4, rt⟩ := m
  simp only at hr hN hl ⊢
  have HR := Lib.hid hr
  obtain ⟨o, A, c, rfl, h1, h2, -⟩ := id hr
  obtain ⟨len, hlen⟩ : ∃ len, l.length = len := ⟨_, rfl⟩
  rw [hlen] at h1 hl ⊢
  have HL := Lib.hid hlen
  obtain ⟨N, rfl⟩ := Int.eq_ofNat_of_zero_le hN.1
  have hN2 : N ≤ 4096 := by omega
  have HBX : Hid (Below w.heap.size w (w.alloc (.cells #[.int .i64 i0, .int .i64 (N : Int), .int .i64 i2, .slice A len c, .int .i64 i4, .string rt] 73))) := Lib.hid ((Below.refl _ _).alloc (Nat.le_refl _) _)
  have HXW : Hid ((w.alloc (.cells #[.int .i64 i0, .int .i64 (N : Int), .int .i64 i2, .slice A len c, .int .i64 i4, .string rt] 73)).heap[w.heap.size]? = some (.cells #[.int .i64 i0, .int .i64 (N : Int), .int .i64 i2, .slice A len c, .int .i64 i4, .string rt] 73 (0, 0))) := Lib.hid (heap_alloc_new w _)
  clear hr hlen hN
  go_enter Tryz.func122, Tryz.ntmps122
  go_upto_region 2 with (fail)
  generalize w.alloc (.cells #[.int .i64 i0, .int .i64 (N : Int), .int .i64 i2, .slice A len c, .int .i64 i4, .string rt] 73) = W1 at *
  have HW1 : Hid (w.heap.size < W1.heap.size) := Lib.hid (Array.getElem?_eq_some_iff.1 HXW.out).1
  have HK1 : Hid (Below W1.heap.size W1 W1) := Lib.hid (Below.refl _ _)
  go_loopw [9] (fun x wz => ∃ k : Nat, x = .int .i64 (k : Int) ∧ k ≤ len ∧ Hid (Rows (N : Int) l k) ∧ Hid (Below W1.heap.size W1 wz)) (fun x _ => len - (intOf x).toNat)
  case atStart => exact ⟨0, rfl, by omega, Lib.hid (Rows.zero _ _), HK1⟩
  case round =>
    obtain ⟨k, rfl, hk, HP, HK⟩ := hrel
    have HB : Hid (Below w.heap.size w wr) := Lib.hid (HBX.out.trans (HK.out.mono HBX.out.size))
    by_cases hlt : k < len
    · obtain ⟨o', A', c', hv', -, -, hread⟩ := HR.out.later HB.out
      rw [HL.out] at hread hv'
      obtain ⟨rfl, hgl, hcell⟩ := hread (by omega)
      injection hv' with hv' _ hcc
      subst hcc hv'
      obtain ⟨q0, q1⟩ := hcell k hlt
      have hfx : fst l k = (l.getD k (0, 0)).1 := rfl
      have hfy : snd l k = (l.getD k (0, 0)).2 := rfl
      obtain ⟨⟨x, y⟩, hxy⟩ : ∃ x, l.getD k (0, 0) = x := ⟨_, rfl⟩
      rw [hxy] at q0 q1 hfx hfy
      simp only at q0 q1 hfx hfy
      have HFX := Lib.hid hfx
      have HFY := Lib.hid hfy
      clear hxy hfx hfy
      by_cases hk0 : k = 0
      · subst hk0
        clear hcell
        rw [Nat.zero_mul, Nat.add_zero] at q0 q1
        by_cases hx : x = 0
        · subst hx
          by_cases hy : 3 ≤ y ∧ y ≤ 1048576
          · have t3 : decide (3 ≤ y ∧ y ≤ 1048576) = true := decide_eq_true hy
            have HNX : Hid (Rows (N : Int) l (0 + 1)) := Lib.hid (HP.out.succ (by rw [if_pos rfl]; exact HFX.out) (by rw [HFY.out]; exact hy.1) (by rw [HFY.out]; exact hy.2))
            clear hy
            go_wp2_with (go_at_call 144; refine (min_calls _ _ _ _).mono ?_; rintro e w' ⟨rfl, rfl⟩; (try rw [t3]))
            go_roundw
            case rel => exact ⟨0 + 1, by go_num, by omega, HNX, Lib.hid (HK.out.alloc HK.out.size _)⟩
            case measure => simp [intOf]; omega
          · have t3 : decide (3 ≤ y ∧ y ≤ 1048576) = false := decide_eq_false hy
            have HNX : Hid (¬ Rows (N : Int) l len) := Lib.hid (fun h => hy (by have := (h 0 hlt).2; rw [HFY.out] at this; exact this))
            clear hy
            go_wp2_with (go_at_call 144; refine (min_calls _ _ _ _).mono ?_; rintro e w' ⟨rfl, rfl⟩; (try rw [t3]))
            go_ret
            exact ⟨5, rfl, .inr ⟨by omega, HNX.out⟩, Lib.hid (HB.out.alloc HB.out.size _)⟩
        · have HNX : Hid (¬ Rows (N : Int) l len) := Lib.hid (fun h => hx (by have := (h 0 hlt).1; rw [if_pos rfl, HFX.out] at this; exact this))
          have bx : (x == 0) = false := beq_eq_false_iff_ne.2 hx
          clear hx
          go_wp2
          go_ret
          exact ⟨4, rfl, .inr ⟨by omega, HNX.out⟩, Lib.hid (HB.out.alloc HB.out.size _)⟩
      · obtain ⟨j, rfl⟩ : ∃ j, k = j + 1 := ⟨k - 1, by omega⟩
        obtain ⟨p0, -⟩ := hcell j (by omega)
        have hfz : fst l j = (l.getD j (0, 0)).1 := rfl
        obtain ⟨z, hz⟩ : ∃ z, (l.getD j (0, 0)).1 = z := ⟨_, rfl⟩
        rw [hz] at p0 hfz
        have HFZ := Lib.hid hfz
        have hzr : 0 ≤ z ∧ z ≤ 4096 := by
          have hrow := HP.out j (by omega)
          rw [hfz] at hrow
          by_cases hj : j = 0
          · rw [if_pos hj] at hrow; omega
          · rw [if_neg hj] at hrow
            have hf := rows_fst (l := l.take (j + 1)) (nodes := (N : Int)) (fun i hi => by
              rw [List.length_take] at hi
              have := HP.out i (by omega)
              have e1 : ∀ i, i < j + 1 → fst (l.take (j + 1)) i = fst l i := fun i hi => by unfold fst; rw [List.getD_eq_getElem?_getD, List.getD_eq_getElem?_getD, List.getElem?_take, if_pos hi]
              have e2 : ∀ i, i < j + 1 → snd (l.take (j + 1)) i = snd l i := fun i hi => by unfold snd; rw [List.getD_eq_getElem?_getD, List.getD_eq_getElem?_getD, List.getElem?_take, if_pos hi]
              rw [e1 i (by omega), e2 i (by omega), e1 (i - 1) (by omega)]
              exact this) j (by rw [List.length_take, HL.out]; omega)
            have e1 : fst (l.take (j + 1)) j = fst l j := by unfold fst; rw [List.getD_eq_getElem?_getD, List.getD_eq_getElem?_getD, List.getElem?_take, if_pos (by omega)]
            rw [e1, hfz] at hf
            omega
        obtain ⟨hz0, hz1⟩ := hzr
        clear hcell hz hfz hk0
        obtain ⟨k, hkj⟩ : ∃ k, j + 1 = k := ⟨_, rfl⟩
        rw [hkj] at hk HP hlt q0 q1 HFX HFY ⊢
        have hkw : IntKind.i64.wrap ((k : Int) - 1) = (j : Int) := by rw [IntWalk.i64_in _ (by omega)]; omega
        have hk1 : (0 : Int) < (k : Int) := by omega
        have hj1 : (0 : Int) ≤ (j : Int) := by omega
        have hj2 : (j : Int) < (len : Int) := by omega
        have hj3 : j < len := by omega
        have HKJ := Lib.hid hkj
        clear hkj
        go_upto_region 6 with (fail)
        have hW0 := heap_alloc_new wr (.cells #[.int .i64 x, .int .i64 y] 43)
        have p1 : (wr.alloc (.cells #[.int .i64 x, .int .i64 y] 43)).cell? ⟨g, o' + j * 2, none⟩ = some (.int .i64 z) := (World.cell?_alloc_lt _ _ _ (World.block_lt_of_cell? _ _ p0)).trans p0
        have hbw := HB.out.alloc HB.out.size (.cells #[.int .i64 x, .int .i64 y] 43)
        have hkk := HK.out.alloc HK.out.size (.cells #[.int .i64 x, .int .i64 y] 43)
        clear p0 q0 q1
        generalize wr.alloc (.cells #[.int .i64 x, .int .i64 y] 43) = W at *
        generalize wr.heap.size = xb at *
        have d0 : W.cell? ⟨xb, 0, none⟩ = some (.int .i64 x) := cell_of_row W xb 0 _ _ _ hW0
        have d1 : W.cell? ⟨xb, 1, none⟩ = some (.int .i64 y) := cell_of_row W xb 1 _ _ _ hW0
        have hbx := (hkk.block w.heap.size HW1.out).trans HXW.out
        have d2 : W.cell? ⟨w.heap.size, 1, none⟩ = some (.int .i64 (N : Int)) := cell_of_row W _ 1 _ _ _ hbx
        have d3 : W.cell? ⟨w.heap.size, 3, none⟩ = some (.slice (some ⟨g, o', none⟩) len c) := cell_of_row W _ 3 _ _ _ hbx
        have HBW := Lib.hid hbw
        have HKW := Lib.hid hkk
        clear hW0 hbw hkk hbx
        by_cases hx : z + 1 ≤ x ∧ x ≤ (N : Int) - 1
        · have t5 : decide (z + 1 ≤ x ∧ x ≤ (N : Int) - 1) = true := decide_eq_true hx
          by_cases hy : 3 ≤ y ∧ y ≤ 1048576
          · have t3 : decide (3 ≤ y ∧ y ≤ 1048576) = true := decide_eq_true hy
            have HNX : Hid (Rows (N : Int) l (k + 1)) := Lib.hid (HP.out.succ (by rw [if_neg (by omega), HFX.out, ← HKJ.out, Nat.add_sub_cancel, HFZ.out]; exact hx) (by rw [HFY.out]; exact hy.1) (by rw [HFY.out]; exact hy.2))
            clear hy hx
            go_quiet ((go_at_call 144; first | exact quiet_left (min_calls _ _ _ _) | exact quiet_add_left (min_calls _ _ _ _)))
            have HBW := Lib.hid (below_drewN HBW.out nq)
            have HKW := Lib.hid (below_drewN HKW.out nq)
            (try rw [t5])
            go_wp2_with (go_at_call 144; refine (min_calls _ _ _ _).mono ?_; rintro e w' ⟨rfl, rfl⟩; (try rw [t3]))
            go_roundw
            case rel => exact ⟨k + 1, by go_num, by omega, HNX, HKW⟩
            case measure => simp [intOf]; omega
          · have t3 : decide (3 ≤ y ∧ y ≤ 1048576) = false := decide_eq_false hy
            have HNX : Hid (¬ Rows (N : Int) l len) := Lib.hid (fun h => hy (by have := (h k hlt).2; rw [HFY.out] at this; exact this))
            clear hy hx
            go_quiet ((go_at_call 144; first | exact quiet_left (min_calls _ _ _ _) | exact quiet_add_left (min_calls _ _ _ _)))
            have HBW := Lib.hid (below_drewN HBW.out nq)
            (try rw [t5])
            go_wp2_with (go_at_call 144; refine (min_calls _ _ _ _).mono ?_; rintro e w' ⟨rfl, rfl⟩; (try rw [t3]))
            go_ret
            exact ⟨5 + 2 * k, by go_num, .inr ⟨by omega, HNX.out⟩, HBW⟩
        · have t5 : decide (z + 1 ≤ x ∧ x ≤ (N : Int) - 1) = false := decide_eq_false hx
          have HNX : Hid (¬ Rows (N : Int) l len) := Lib.hid (fun h => hx (by have := (h k hlt).1; rw [if_neg (by omega), HFX.out, ← HKJ.out, Nat.add_sub_cancel, HFZ.out] at this; exact this))
          clear hx
          go_quiet ((go_at_call 144; first | exact quiet_left (min_calls _ _ _ _) | exact quiet_add_left (min_calls _ _ _ _)))
          have HBW := Lib.hid (below_drewN HBW.out nq)
          (try rw [t5])
          go_wp2
          go_ret
          exact ⟨4 + 2 * k, by go_num, .inr ⟨by omega, HNX.out⟩, HBW⟩
    · obtain rfl : k = len := by omega
      go_wp2
      go_ret
      exact ⟨-1, rfl, .inl ⟨rfl, HP.out⟩, HB⟩
end Go.Proofs.YtjokfllldcjheaaGreatDoor.Mn
/- manifest: place, Check. -/
namespace Go.Proofs.YtjokfllldcjheaaGreatDoor.Mn
open Go.RowKit Go.Proofs.YtjokfllldcjheaaGreatDoor.Oc Go.Proofs.YtjokfllldcjheaaGreatDoor.Ed Go.Proofs.YtjokfllldcjheaaGreatDoor.Tb Go.Proofs.YtjokfllldcjheaaGreatDoor.Sha
set_option linter.unusedVariables false
set_option linter.unusedSimpArgs false
theorem tot_all {m : Man} (h : Rows m.nodes m.sh m.sh.length) : ∀ k, k ≤ m.sh.length → 0 ≤ tot (m.sh.take k) ∧ tot (m.sh.take k) ≤ 1048576 * k := fun k hk => by
  have := rows_tot k (fun i hi => h i (by omega)) hk
  omega
set_option maxHeartbeats 4000000 in
set_option maxRecDepth 100000 in
theorem mplace_calls (m : Man) (g : Nat) (tv : Value) (w : World) (hr : TBR w g tv m.sh) :
    Calls Tryz.prog 95 #[manV m tv] w fun e w' => ∃ z : Int, e = .returned (.int .i64 z) ∧ (z = -1 ∧ May m ∨ 0 ≤ z ∧ ¬ May m) ∧ Hid (Below w.heap.size w w') := by
  have HR := Lib.hid hr
  have HBX : Hid (∀ tv, Below w.heap.size w (w.alloc (.cells #[.int .i64 m.ver, .int .i64 m.nodes, .int .i64 m.edges, tv, .int .i64 m.blocks, .string m.root] 73))) := Lib.hid (fun _ => (Below.refl _ _).alloc (Nat.le_refl _) _)
  obtain ⟨o, A, c, rfl, h1, h2, -⟩ := id hr
  obtain ⟨len, hlen⟩ : ∃ len, m.sh.length = len := ⟨_, rfl⟩
  rw [hlen] at h1 ⊢
  have HL := Lib.hid hlen
  have HH : Hid (∀ W, Calls Tryz.prog 121 #[manV m (.slice A len c)] W fun e w' => ∃ z : Int, e = .returned (.int .i64 z) ∧ (z = -1 ∧ Heads m ∨ 0 ≤ z ∧ ¬ Heads m) ∧ Hid (Below W.heap.size W w')) := Lib.hid (fun W => mheads_calls m A len c HL.out W)
  have HTB : Hid (Heads m → ∀ W, Below w.heap.size w W → Calls Tryz.prog 122 #[manV m (.slice A len c)] W fun e w' => ∃ z : Int, e = .returned (.int .i64 z) ∧ (z = -1 ∧ Rows m.nodes m.sh m.sh.length ∨ 0 ≤ z ∧ ¬ Rows m.nodes m.sh m.sh.length) ∧ Hid (Below W.heap.size W w')) := Lib.hid (fun h W hb => mtables_calls m g _ W (by have := HR.out.later hb; rw [HL.out] at this; exact this) h.2.1 h.2.2.2.1)
  have HTOT : Hid (Heads m → Rows m.nodes m.sh m.sh.length → ∀ W, Below w.heap.size w W → Calls Tryz.prog 123 #[manV m (.slice A len c)] W fun e w' => e = .returned (.int .i64 (tot m.sh)) ∧ Hid (Below W.heap.size W w')) := Lib.hid (fun h h2 W hb => mtotal_calls _ _ _ _ _ g _ m.sh W (by have := HR.out.later hb; rw [HL.out] at this; exact this) (Nat.le_trans h.2.2.2.1 (by decide)) (tot_all h2))
  have HMAY : Hid (May m ↔ Heads m ∧ Rows m.nodes m.sh m.sh.length ∧ m.blocks = cnt (tot m.sh) ∧ m.blocks ≤ 2048 ∧ m.root.size = 32) := Lib.hid Iff.rfl
  clear hr
  obtain ⟨i0, i1, i2, l, i4, rt⟩ := m
  simp only at hlen
  have HBX := Lib.hid (HBX.out (.slice A len c))
  dsimp only at HBX HH HTB HTOT
  clear hlen
  obtain ⟨W1, hW1⟩ : ∃ W1, w.alloc (.cells #[.int .i64 i0, .int .i64 i1, .int .i64 i2, .slice A len c, .int .i64 i4, .string rt] 73) = W1 := ⟨_, rfl⟩
  have HX0 : Hid (W1.heap[w.heap.size]? = some (.cells #[.int .i64 i0, .int .i64 i1, .int .i64 i2, .slice A len c, .int .i64 i4, .string rt] 73 (0, 0))) := Lib.hid (by rw [← hW1]; exact heap_alloc_new w _)
  rw [hW1] at HBX
  obtain ⟨xb, hxb⟩ : ∃ xb, w.heap.size = xb := ⟨_, rfl⟩
  have HXB := Lib.hid hxb
  have HSS : Hid (∀ X, Below W1.heap.size W1 X → X.cell? ⟨xb, 0, none⟩ = some (.int .i64 i0) ∧ X.cell? ⟨xb, 1, none⟩ = some (.int .i64 i1) ∧ X.cell? ⟨xb, 2, none⟩ = some (.int .i64 i2) ∧ X.cell? ⟨xb, 3, none⟩ = some (.slice A len c) ∧ X.cell? ⟨xb, 4, none⟩ = some (.int .i64 i4) ∧ X.cell? ⟨xb, 5, none⟩ = some (.string rt)) := Lib.hid (fun X h => by
    have h0 := HX0.out
    rw [hxb] at h0
    have h1 := (h.block xb (Array.getElem?_eq_some_iff.1 h0).1).trans h0
    exact ⟨cell_of_row X xb 0 _ _ _ h1, cell_of_row X xb 1 _ _ _ h1, cell_of_row X xb 2 _ _ _ h1, cell_of_row X xb 3 _ _ _ h1, cell_of_row X xb 4 _ _ _ h1, cell_of_row X xb 5 _ _ _ h1⟩)
  have HUF : Hid (∀ X, Below W1.heap.size W1 X → Below w.heap.size w X) := Lib.hid (fun X h => HBX.out.trans (h.mono HBX.out.size))
  have HU : Hid (Below W1.heap.size W1 W1) := Lib.hid (Below.refl _ _)
  clear HX0 HBX
  have hxs : w.heap.size = xb := hxb
  clear hxb
  by_cases hh : Heads ⟨i0, i1, i2, l, i4, rt⟩
  case neg =>
    have H0 : Hid (¬ May ⟨i0, i1, i2, l, i4, rt⟩) := Lib.hid fun h => hh h.1
    have H1 := Lib.hid hh
    clear hh
    go_enter Tryz.func95, Tryz.ntmps95
    go_upto_region 1 with (fail)
    clear hW1 hxs
    obtain ⟨s0, s1, s2, s3, s4, s5⟩ := HSS.out _ HU.out
    go_wp2_with (go_at_call 121; refine (HH.out _).mono ?_; rintro e w1 ⟨z, rfl, hz, HB1⟩; replace hz := (hz.resolve_left (fun h => H1.out h.2)).1)
    go_ret
    exact ⟨z, rfl, .inr ⟨hz, H0.out⟩, Lib.hid (HUF.out _ HB1.out)⟩
  have H1 := Lib.hid hh
  have HTB := Lib.hid (HTB.out hh)
  have HTOT := Lib.hid (HTOT.out hh)
  have hl64 : len ≤ 64 := by rw [← HL.out]; exact hh.2.2.2.1
  clear hh
  by_cases ht : Rows i1 l l.length
  case neg =>
    have H0 : Hid (¬ May ⟨i0, i1, i2, l, i4, rt⟩) := Lib.hid fun h => ht h.2.1
    have H2 := Lib.hid ht
    clear ht
    go_enter Tryz.func95, Tryz.ntmps95
    go_upto_region 1 with (fail)
    clear hW1 hxs
    obtain ⟨s0, s1, s2, s3, s4, s5⟩ := HSS.out _ HU.out
    go_wp2_with (first
      | (go_at_call 121; refine (HH.out _).mono ?_; rintro e w1 ⟨z, rfl, hz, HB1⟩; replace hz := (hz.resolve_right (fun h => h.2 H1.out)).1; subst hz; obtain ⟨z0, z1, z2, z3, z4, z5⟩ := HSS.out _ HB1.out)
      | (go_at_call 122; refine (HTB.out _ (HUF.out _ HB1.out)).mono ?_; rintro e w2 ⟨z, rfl, hz, HB2⟩; replace hz := (hz.resolve_left (fun h => H2.out h.2)).1))
    go_ret
    exact ⟨z, rfl, .inr ⟨hz, H0.out⟩, Lib.hid (HUF.out _ (HB1.out.trans (HB2.out.mono HB1.out.size)))⟩
  have H2 := Lib.hid ht
  have HTOT := Lib.hid (HTOT.out ht)
  have htt := tot_all (m := ⟨i0, i1, i2, l, i4, rt⟩) ht l.length (Nat.le_refl _)
  simp only [List.take_length] at htt
  clear ht
  obtain ⟨T, hT⟩ : ∃ T, tot l = T := ⟨_, rfl⟩
  simp only at HTOT HMAY
  rw [hT] at HTOT htt HMAY
  have hT2 : 0 ≤ T ∧ T ≤ 67108864 := by rw [HL.out] at htt; omega
  clear hT htt
  have HCNT : Hid (∀ W, Calls Tryz.prog 32 #[.int .i64 T] W fun e w' => e = .returned (.int .i64 (cnt T)) ∧ W = w') := Lib.hid (fun W => mcount_calls T W (by omega))
  obtain ⟨C, hC⟩ : ∃ C, cnt T = C := ⟨_, rfl⟩
  rw [hC] at HCNT HMAY
  clear hC hT2
  go_enter Tryz.func95, Tryz.ntmps95
  go_upto_region 1 with (fail)
  clear hW1 hxs
  obtain ⟨s0, s1, s2, s3, s4, s5⟩ := HSS.out _ HU.out
  go_upto_region 8 with (first
    | (go_at_call 121; refine (HH.out _).mono ?_; rintro e w1 ⟨z, rfl, hz, HB1⟩; replace hz := (hz.resolve_right (fun h => h.2 H1.out)).1; subst hz; obtain ⟨z0, z1, z2, z3, z4, z5⟩ := HSS.out _ HB1.out)
    | (go_at_call 122; refine (HTB.out _ (HUF.out _ HB1.out)).mono ?_; rintro e w2 ⟨z, rfl, hz, HB2⟩; replace hz := (hz.resolve_right (fun h => h.2 H2.out)).1; subst hz; have HU := Lib.hid (HB1.out.trans (HB2.out.mono HB1.out.size)); obtain ⟨y0, y1, y2, y3, y4, y5⟩ := HSS.out _ HU.out))
  clear s0 s1 s2 s3 s4 s5 z0 z1 z2 z3 z4 z5 HB1 HB2
  by_cases hb : i4 = C
  case neg =>
    have H0 : Hid (¬ May ⟨i0, i1, i2, l, i4, rt⟩) := Lib.hid fun h => hb (HMAY.out.1 h).2.2.1
    have b1 : (i4 != C) = true := by rw [bne_iff_ne]; exact hb
    clear hb y0 y1 y2 y3 y4 y5
    refine wp_region_noPanic ?_
    refine wp_region_held_drew (S := fun X => X.cell? ⟨xb, 0, none⟩ = some (.int .i64 i0) ∧ X.cell? ⟨xb, 1, none⟩ = some (.int .i64 i1) ∧ X.cell? ⟨xb, 2, none⟩ = some (.int .i64 i2) ∧ X.cell? ⟨xb, 3, none⟩ = some (.slice A len c) ∧ X.cell? ⟨xb, 4, none⟩ = some (.int .i64 i4) ∧ X.cell? ⟨xb, 5, none⟩ = some (.string rt)) (by kernel_rfl) (HSS.out _ HU.out.drew) (fun hHeld => ?_)
    refine wpAnyH_take (i := 0) (oi := _) (v := ?_) rfl (by kernel_rfl) (by kernel_rfl) (by kernel_rfl) (fun _ _ _ h => h) (Or.inl ⟨by rfl, ?_⟩) (by assumption) ?_
    rotate_left
    · (intro w hSw; obtain ⟨s0, s1, s2, s3, s4, s5⟩ := hSw; go_simp; (try with_reducible rfl))
    try simp only [Act.put, List.setIfInBounds_toArray, List.set_cons_zero, List.set_cons_succ]
    refine wpAnyH_take (i := 1) (oi := _) (v := ?_) rfl (by kernel_rfl) (by kernel_rfl) (by kernel_rfl) (fun _ _ _ h => h) (Or.inl ⟨by rfl, ?_⟩) (by assumption) ?_
    rotate_left
    · (intro w hSw; obtain ⟨s0, s1, s2, s3, s4, s5⟩ := hSw; go_simp; (try with_reducible rfl))
    try simp only [Act.put, List.setIfInBounds_toArray, List.set_cons_zero, List.set_cons_succ]
    refine wpAnyH_take (i := 2) (oi := _) (v := ?_) rfl (by kernel_rfl) (by kernel_rfl) (by kernel_rfl) (fun _ _ _ h => h) (Or.inl ⟨by rfl, ?_⟩) (by assumption) ?_
    rotate_left
    · (intro w hSw; obtain ⟨s0, s1, s2, s3, s4, s5⟩ := hSw; go_simp; (try with_reducible rfl))
    try simp only [Act.put, List.setIfInBounds_toArray, List.set_cons_zero, List.set_cons_succ]
    refine wpAnyH_ready (rs := [3]) (by kernel_rfl) (by simp) ?_
    refine AllReadyH.cons (o := _) rfl (fun K hK => ?_) (AllReadyH.nil)
    (go_simp)
    go_at_call 123
    refine (HTOT.out _ (HUF.out _ HU.out.drew)).mono ?_
    rintro r w5 ⟨rfl, HBx⟩
    have HU := Lib.hid (HU.out.drew.trans (HBx.out.mono HU.out.size))
    clear HBx
    dsimp only
    refine hK.out _ _ (HSS.out _ HU.out) (fun hHeld => ?_)
    clear hK K
    try simp only [Act.put, List.setIfInBounds_toArray, List.set_cons_zero, List.set_cons_succ]
    refine wpAnyH_ready (rs := [4]) (by kernel_rfl) (by simp) ?_
    refine AllReadyH.cons (o := _) rfl (fun K hK => ?_) (AllReadyH.nil)
    (go_simp)
    go_at_call 32
    refine (HCNT.out _).mono ?_
    rintro r w6 ⟨rfl, rfl⟩
    dsimp only
    refine hK.out _ _ (HSS.out _ HU.out) (fun hHeld => ?_)
    clear hK K
    try simp only [Act.put, List.setIfInBounds_toArray, List.set_cons_zero, List.set_cons_succ]
    refine wpAnyH_take (i := 5) (oi := _) (v := ?_) rfl (by kernel_rfl) (by kernel_rfl) (by kernel_rfl) (fun _ _ _ h => h) (Or.inl ⟨by rfl, ?_⟩) (by assumption) ?_
    rotate_left
    · (intro w hSw; obtain ⟨s0, s1, s2, s3, s4, s5⟩ := hSw; go_simp; (try with_reducible rfl))
    try simp only [Act.put, List.setIfInBounds_toArray, List.set_cons_zero, List.set_cons_succ]
    refine wpAnyH_take (i := 6) (oi := _) (v := ?_) rfl (by kernel_rfl) (by kernel_rfl) (by kernel_rfl) (fun _ _ _ h => h) (Or.inl ⟨by rfl, ?_⟩) (by assumption) ?_
    rotate_left
    · (intro w hSw; obtain ⟨s0, s1, s2, s3, s4, s5⟩ := hSw; go_simp; (try with_reducible rfl))
    try simp only [Act.put, List.setIfInBounds_toArray, List.set_cons_zero, List.set_cons_succ]
    refine wpAnyH_take (i := 7) (oi := _) (v := undef) rfl (by kernel_rfl) (by kernel_rfl) (by kernel_rfl) (fun _ _ _ h => h) (Or.inr ⟨by rfl, rfl⟩) (by assumption) ?_
    try simp only [Act.put, List.setIfInBounds_toArray, List.set_cons_zero, List.set_cons_succ]
    refine wpAnyH_take (i := 8) (oi := _) (v := undef) rfl (by kernel_rfl) (by kernel_rfl) (by kernel_rfl) (fun _ _ _ h => h) (Or.inr ⟨by rfl, rfl⟩) (by assumption) ?_
    try simp only [Act.put, List.setIfInBounds_toArray, List.set_cons_zero, List.set_cons_succ]
    refine wpAnyH_take (i := 9) (oi := _) (v := undef) rfl (by kernel_rfl) (by kernel_rfl) (by kernel_rfl) (fun _ _ _ h => h) (Or.inr ⟨by rfl, rfl⟩) (by assumption) ?_
    try simp only [Act.put, List.setIfInBounds_toArray, List.set_cons_zero, List.set_cons_succ]
    refine wpAnyH_take (i := 10) (oi := _) (v := ?_) rfl (by kernel_rfl) (by kernel_rfl) (by kernel_rfl) (fun _ _ _ h => h) (Or.inl ⟨by rfl, ?_⟩) (by assumption) ?_
    rotate_left
    · (intro w hSw; obtain ⟨s0, s1, s2, s3, s4, s5⟩ := hSw; go_simp; (try with_reducible rfl))
    try simp only [Act.put, List.setIfInBounds_toArray, List.set_cons_zero, List.set_cons_succ]
    refine wpAnyH_take (i := 11) (oi := _) (v := ?_) rfl (by kernel_rfl) (by kernel_rfl) (by kernel_rfl) (fun _ _ _ h => h) (Or.inl ⟨by rfl, ?_⟩) (by assumption) ?_
    rotate_left
    · (intro w hSw; obtain ⟨s0, s1, s2, s3, s4, s5⟩ := hSw; go_simp; (try with_reducible rfl))
    try simp only [Act.put, List.setIfInBounds_toArray, List.set_cons_zero, List.set_cons_succ]
    refine wpAnyH_done (by kernel_rfl) ?_ _
    refine NoPanic.normal ?_
    simp only [List.getElem_toArray, List.getElem_cons_succ, List.getElem_cons_zero, List.setIfInBounds_toArray, List.set_cons_zero, List.set_cons_succ]
    clear hHeld
    go_wp2
    go_ret
    exact ⟨4 + 2 * len, by go_num, .inr ⟨by omega, H0.out⟩, Lib.hid (HUF.out _ HU.out)⟩
  case pos =>
    subst hb
    have b1 : (i4 != i4) = false := by simp
    clear y0 y1 y2 y3 y4 y5
    by_cases h4 : i4 ≤ 2048
    case neg =>
      have H0 : Hid (¬ May ⟨i0, i1, i2, l, i4, rt⟩) := Lib.hid fun h => h4 (HMAY.out.1 h).2.2.2.1
      have b2 : decide (2048 < i4) = true := decide_eq_true (by omega)
      clear h4
      refine wp_region_noPanic ?_
      refine wp_region_held_drew (S := fun X => X.cell? ⟨xb, 0, none⟩ = some (.int .i64 i0) ∧ X.cell? ⟨xb, 1, none⟩ = some (.int .i64 i1) ∧ X.cell? ⟨xb, 2, none⟩ = some (.int .i64 i2) ∧ X.cell? ⟨xb, 3, none⟩ = some (.slice A len c) ∧ X.cell? ⟨xb, 4, none⟩ = some (.int .i64 i4) ∧ X.cell? ⟨xb, 5, none⟩ = some (.string rt)) (by kernel_rfl) (HSS.out _ HU.out.drew) (fun hHeld => ?_)
      refine wpAnyH_take (i := 0) (oi := _) (v := ?_) rfl (by kernel_rfl) (by kernel_rfl) (by kernel_rfl) (fun _ _ _ h => h) (Or.inl ⟨by rfl, ?_⟩) (by assumption) ?_
      rotate_left
      · (intro w hSw; obtain ⟨s0, s1, s2, s3, s4, s5⟩ := hSw; go_simp; (try with_reducible rfl))
      try simp only [Act.put, List.setIfInBounds_toArray, List.set_cons_zero, List.set_cons_succ]
      refine wpAnyH_take (i := 1) (oi := _) (v := ?_) rfl (by kernel_rfl) (by kernel_rfl) (by kernel_rfl) (fun _ _ _ h => h) (Or.inl ⟨by rfl, ?_⟩) (by assumption) ?_
      rotate_left
      · (intro w hSw; obtain ⟨s0, s1, s2, s3, s4, s5⟩ := hSw; go_simp; (try with_reducible rfl))
      try simp only [Act.put, List.setIfInBounds_toArray, List.set_cons_zero, List.set_cons_succ]
      refine wpAnyH_take (i := 2) (oi := _) (v := ?_) rfl (by kernel_rfl) (by kernel_rfl) (by kernel_rfl) (fun _ _ _ h => h) (Or.inl ⟨by rfl, ?_⟩) (by assumption) ?_
      rotate_left
      · (intro w hSw; obtain ⟨s0, s1, s2, s3, s4, s5⟩ := hSw; go_simp; (try with_reducible rfl))
      try simp only [Act.put, List.setIfInBounds_toArray, List.set_cons_zero, List.set_cons_succ]
      refine wpAnyH_ready (rs := [3]) (by kernel_rfl) (by simp) ?_
      refine AllReadyH.cons (o := _) rfl (fun K hK => ?_) (AllReadyH.nil)
      (go_simp)
      go_at_call 123
      refine (HTOT.out _ (HUF.out _ HU.out.drew)).mono ?_
      rintro r w5 ⟨rfl, HBx⟩
      have HU := Lib.hid (HU.out.drew.trans (HBx.out.mono HU.out.size))
      clear HBx
      dsimp only
      refine hK.out _ _ (HSS.out _ HU.out) (fun hHeld => ?_)
      clear hK K
      try simp only [Act.put, List.setIfInBounds_toArray, List.set_cons_zero, List.set_cons_succ]
      refine wpAnyH_ready (rs := [4]) (by kernel_rfl) (by simp) ?_
      refine AllReadyH.cons (o := _) rfl (fun K hK => ?_) (AllReadyH.nil)
      (go_simp)
      go_at_call 32
      refine (HCNT.out _).mono ?_
      rintro r w6 ⟨rfl, rfl⟩
      dsimp only
      refine hK.out _ _ (HSS.out _ HU.out) (fun hHeld => ?_)
      clear hK K
      try simp only [Act.put, List.setIfInBounds_toArray, List.set_cons_zero, List.set_cons_succ]
      refine wpAnyH_take (i := 5) (oi := _) (v := ?_) rfl (by kernel_rfl) (by kernel_rfl) (by kernel_rfl) (fun _ _ _ h => h) (Or.inl ⟨by rfl, ?_⟩) (by assumption) ?_
      rotate_left
      · (intro w hSw; obtain ⟨s0, s1, s2, s3, s4, s5⟩ := hSw; go_simp; (try with_reducible rfl))
      try simp only [Act.put, List.setIfInBounds_toArray, List.set_cons_zero, List.set_cons_succ]
      refine wpAnyH_take (i := 6) (oi := _) (v := ?_) rfl (by kernel_rfl) (by kernel_rfl) (by kernel_rfl) (fun _ _ _ h => h) (Or.inl ⟨by rfl, ?_⟩) (by assumption) ?_
      rotate_left
      · (intro w hSw; obtain ⟨s0, s1, s2, s3, s4, s5⟩ := hSw; go_simp; (try with_reducible rfl))
      try simp only [Act.put, List.setIfInBounds_toArray, List.set_cons_zero, List.set_cons_succ]
      refine wpAnyH_take (i := 7) (oi := _) (v := ?_) rfl (by kernel_rfl) (by kernel_rfl) (by kernel_rfl) (fun _ _ _ h => h) (Or.inl ⟨by rfl, ?_⟩) (by assumption) ?_
      rotate_left
      · (intro w hSw; obtain ⟨s0, s1, s2, s3, s4, s5⟩ := hSw; go_simp; (try with_reducible rfl))
      try simp only [Act.put, List.setIfInBounds_toArray, List.set_cons_zero, List.set_cons_succ]
      refine wpAnyH_take (i := 8) (oi := _) (v := ?_) rfl (by kernel_rfl) (by kernel_rfl) (by kernel_rfl) (fun _ _ _ h => h) (Or.inl ⟨by rfl, ?_⟩) (by assumption) ?_
      rotate_left
      · (intro w hSw; obtain ⟨s0, s1, s2, s3, s4, s5⟩ := hSw; go_simp; (try with_reducible rfl))
      try simp only [Act.put, List.setIfInBounds_toArray, List.set_cons_zero, List.set_cons_succ]
      refine wpAnyH_take (i := 9) (oi := _) (v := ?_) rfl (by kernel_rfl) (by kernel_rfl) (by kernel_rfl) (fun _ _ _ h => h) (Or.inl ⟨by rfl, ?_⟩) (by assumption) ?_
      rotate_left
      · (intro w hSw; obtain ⟨s0, s1, s2, s3, s4, s5⟩ := hSw; go_simp; (try with_reducible rfl))
      try simp only [Act.put, List.setIfInBounds_toArray, List.set_cons_zero, List.set_cons_succ]
      refine wpAnyH_take (i := 10) (oi := _) (v := ?_) rfl (by kernel_rfl) (by kernel_rfl) (by kernel_rfl) (fun _ _ _ h => h) (Or.inl ⟨by rfl, ?_⟩) (by assumption) ?_
      rotate_left
      · (intro w hSw; obtain ⟨s0, s1, s2, s3, s4, s5⟩ := hSw; go_simp; (try with_reducible rfl))
      try simp only [Act.put, List.setIfInBounds_toArray, List.set_cons_zero, List.set_cons_succ]
      refine wpAnyH_take (i := 11) (oi := _) (v := ?_) rfl (by kernel_rfl) (by kernel_rfl) (by kernel_rfl) (fun _ _ _ h => h) (Or.inl ⟨by rfl, ?_⟩) (by assumption) ?_
      rotate_left
      · (intro w hSw; obtain ⟨s0, s1, s2, s3, s4, s5⟩ := hSw; go_simp; (try with_reducible rfl))
      try simp only [Act.put, List.setIfInBounds_toArray, List.set_cons_zero, List.set_cons_succ]
      refine wpAnyH_done (by kernel_rfl) ?_ _
      refine NoPanic.normal ?_
      simp only [List.getElem_toArray, List.getElem_cons_succ, List.getElem_cons_zero, List.setIfInBounds_toArray, List.set_cons_zero, List.set_cons_succ]
      clear hHeld
      go_wp2
      go_ret
      exact ⟨4 + 2 * len, by go_num, .inr ⟨by omega, H0.out⟩, Lib.hid (HUF.out _ HU.out)⟩
    have b2 : decide (2048 < i4) = false := decide_eq_false (by omega)
    refine wp_region_noPanic ?_
    refine wp_region_held_drew (S := fun X => X.cell? ⟨xb, 0, none⟩ = some (.int .i64 i0) ∧ X.cell? ⟨xb, 1, none⟩ = some (.int .i64 i1) ∧ X.cell? ⟨xb, 2, none⟩ = some (.int .i64 i2) ∧ X.cell? ⟨xb, 3, none⟩ = some (.slice A len c) ∧ X.cell? ⟨xb, 4, none⟩ = some (.int .i64 i4) ∧ X.cell? ⟨xb, 5, none⟩ = some (.string rt)) (by kernel_rfl) (HSS.out _ HU.out.drew) (fun hHeld => ?_)
    refine wpAnyH_take (i := 0) (oi := _) (v := ?_) rfl (by kernel_rfl) (by kernel_rfl) (by kernel_rfl) (fun _ _ _ h => h) (Or.inl ⟨by rfl, ?_⟩) (by assumption) ?_
    rotate_left
    · (intro w hSw; obtain ⟨s0, s1, s2, s3, s4, s5⟩ := hSw; go_simp; (try with_reducible rfl))
    try simp only [Act.put, List.setIfInBounds_toArray, List.set_cons_zero, List.set_cons_succ]
    refine wpAnyH_take (i := 1) (oi := _) (v := ?_) rfl (by kernel_rfl) (by kernel_rfl) (by kernel_rfl) (fun _ _ _ h => h) (Or.inl ⟨by rfl, ?_⟩) (by assumption) ?_
    rotate_left
    · (intro w hSw; obtain ⟨s0, s1, s2, s3, s4, s5⟩ := hSw; go_simp; (try with_reducible rfl))
    try simp only [Act.put, List.setIfInBounds_toArray, List.set_cons_zero, List.set_cons_succ]
    refine wpAnyH_take (i := 2) (oi := _) (v := ?_) rfl (by kernel_rfl) (by kernel_rfl) (by kernel_rfl) (fun _ _ _ h => h) (Or.inl ⟨by rfl, ?_⟩) (by assumption) ?_
    rotate_left
    · (intro w hSw; obtain ⟨s0, s1, s2, s3, s4, s5⟩ := hSw; go_simp; (try with_reducible rfl))
    try simp only [Act.put, List.setIfInBounds_toArray, List.set_cons_zero, List.set_cons_succ]
    refine wpAnyH_ready (rs := [3]) (by kernel_rfl) (by simp) ?_
    refine AllReadyH.cons (o := _) rfl (fun K hK => ?_) (AllReadyH.nil)
    (go_simp)
    go_at_call 123
    refine (HTOT.out _ (HUF.out _ HU.out.drew)).mono ?_
    rintro r w5 ⟨rfl, HBx⟩
    have HU := Lib.hid (HU.out.drew.trans (HBx.out.mono HU.out.size))
    clear HBx
    dsimp only
    refine hK.out _ _ (HSS.out _ HU.out) (fun hHeld => ?_)
    clear hK K
    try simp only [Act.put, List.setIfInBounds_toArray, List.set_cons_zero, List.set_cons_succ]
    refine wpAnyH_ready (rs := [4]) (by kernel_rfl) (by simp) ?_
    refine AllReadyH.cons (o := _) rfl (fun K hK => ?_) (AllReadyH.nil)
    (go_simp)
    go_at_call 32
    refine (HCNT.out _).mono ?_
    rintro r w6 ⟨rfl, rfl⟩
    dsimp only
    refine hK.out _ _ (HSS.out _ HU.out) (fun hHeld => ?_)
    clear hK K
    try simp only [Act.put, List.setIfInBounds_toArray, List.set_cons_zero, List.set_cons_succ]
    refine wpAnyH_take (i := 5) (oi := _) (v := ?_) rfl (by kernel_rfl) (by kernel_rfl) (by kernel_rfl) (fun _ _ _ h => h) (Or.inl ⟨by rfl, ?_⟩) (by assumption) ?_
    rotate_left
    · (intro w hSw; obtain ⟨s0, s1, s2, s3, s4, s5⟩ := hSw; go_simp; (try with_reducible rfl))
    try simp only [Act.put, List.setIfInBounds_toArray, List.set_cons_zero, List.set_cons_succ]
    refine wpAnyH_take (i := 6) (oi := _) (v := ?_) rfl (by kernel_rfl) (by kernel_rfl) (by kernel_rfl) (fun _ _ _ h => h) (Or.inl ⟨by rfl, ?_⟩) (by assumption) ?_
    rotate_left
    · (intro w hSw; obtain ⟨s0, s1, s2, s3, s4, s5⟩ := hSw; go_simp; (try with_reducible rfl))
    try simp only [Act.put, List.setIfInBounds_toArray, List.set_cons_zero, List.set_cons_succ]
    refine wpAnyH_take (i := 7) (oi := _) (v := ?_) rfl (by kernel_rfl) (by kernel_rfl) (by kernel_rfl) (fun _ _ _ h => h) (Or.inl ⟨by rfl, ?_⟩) (by assumption) ?_
    rotate_left
    · (intro w hSw; obtain ⟨s0, s1, s2, s3, s4, s5⟩ := hSw; go_simp; (try with_reducible rfl))
    try simp only [Act.put, List.setIfInBounds_toArray, List.set_cons_zero, List.set_cons_succ]
    refine wpAnyH_take (i := 8) (oi := _) (v := ?_) rfl (by kernel_rfl) (by kernel_rfl) (by kernel_rfl) (fun _ _ _ h => h) (Or.inl ⟨by rfl, ?_⟩) (by assumption) ?_
    rotate_left
    · (intro w hSw; obtain ⟨s0, s1, s2, s3, s4, s5⟩ := hSw; go_simp; (try with_reducible rfl))
    try simp only [Act.put, List.setIfInBounds_toArray, List.set_cons_zero, List.set_cons_succ]
    refine wpAnyH_take (i := 9) (oi := _) (v := ?_) rfl (by kernel_rfl) (by kernel_rfl) (by kernel_rfl) (fun _ _ _ h => h) (Or.inl ⟨by rfl, ?_⟩) (by assumption) ?_
    rotate_left
    · (intro w hSw; obtain ⟨s0, s1, s2, s3, s4, s5⟩ := hSw; go_simp; (try with_reducible rfl))
    try simp only [Act.put, List.setIfInBounds_toArray, List.set_cons_zero, List.set_cons_succ]
    refine wpAnyH_take (i := 10) (oi := _) (v := ?_) rfl (by kernel_rfl) (by kernel_rfl) (by kernel_rfl) (fun _ _ _ h => h) (Or.inl ⟨by rfl, ?_⟩) (by assumption) ?_
    rotate_left
    · (intro w hSw; obtain ⟨s0, s1, s2, s3, s4, s5⟩ := hSw; go_simp; (try with_reducible rfl))
    try simp only [Act.put, List.setIfInBounds_toArray, List.set_cons_zero, List.set_cons_succ]
    refine wpAnyH_take (i := 11) (oi := _) (v := ?_) rfl (by kernel_rfl) (by kernel_rfl) (by kernel_rfl) (fun _ _ _ h => h) (Or.inl ⟨by rfl, ?_⟩) (by assumption) ?_
    rotate_left
    · (intro w hSw; obtain ⟨s0, s1, s2, s3, s4, s5⟩ := hSw; go_simp; (try with_reducible rfl))
    try simp only [Act.put, List.setIfInBounds_toArray, List.set_cons_zero, List.set_cons_succ]
    refine wpAnyH_done (by kernel_rfl) ?_ _
    refine NoPanic.normal ?_
    simp only [List.getElem_toArray, List.getElem_cons_succ, List.getElem_cons_zero, List.setIfInBounds_toArray, List.set_cons_zero, List.set_cons_succ]
    clear hHeld
    obtain ⟨s0, s1, s2, s3, s4, s5⟩ := HSS.out _ HU.out
    by_cases h5 : rt.size = 32
    · have H0 : Hid (May ⟨i0, i1, i2, l, i4, rt⟩) := Lib.hid (HMAY.out.2 ⟨H1.out, H2.out, rfl, h4, h5⟩)
      have b3 : (((rt.size : Nat) : Int) != 32) = false := by rw [bne_eq_false_iff_eq]; omega
      clear h5 h4
      go_wp2
      go_ret
      exact ⟨-1, rfl, .inl ⟨rfl, H0.out⟩, Lib.hid (HUF.out _ HU.out)⟩
    · have H0 : Hid (¬ May ⟨i0, i1, i2, l, i4, rt⟩) := Lib.hid fun h => h5 (HMAY.out.1 h).2.2.2.2
      have b3 : (((rt.size : Nat) : Int) != 32) = true := by rw [bne_iff_ne]; omega
      clear h5 h4
      go_wp2
      go_ret
      exact ⟨4 + 2 * len + 1, by go_num, .inr ⟨by omega, H0.out⟩, Lib.hid (HUF.out _ HU.out)⟩
set_option maxHeartbeats 4000000 in
set_option maxRecDepth 100000 in
theorem mcheck_calls (m : Man) (g : Nat) (tv : Value) (w : World) (hr : TBR w g tv m.sh) :
    Calls Tryz.prog 60 #[manV m tv] w fun e w' => (e = .returned .nilIface ∧ May m ∨ (∃ z : Int, e = .returned (faultV z 4) ∧ 0 ≤ z) ∧ ¬ May m) ∧ Hid (Below w.heap.size w w') := by
  have HP : Hid (∀ W, Below w.heap.size w W → Calls Tryz.prog 95 #[manV m tv] W fun e w' => ∃ z : Int, e = .returned (.int .i64 z) ∧ (z = -1 ∧ May m ∨ 0 ≤ z ∧ ¬ May m) ∧ Hid (Below W.heap.size W w')) := Lib.hid (fun W h => mplace_calls m g tv W (hr.later h))
  obtain ⟨i0, i1, i2, l, i4, rt⟩ := m
  try simp only at HP ⊢
  have HBX : Hid (Below w.heap.size w (w.alloc (.cells #[.int .i64 i0, .int .i64 i1, .int .i64 i2, tv, .int .i64 i4, .string rt] 73))) := Lib.hid ((Below.refl _ _).alloc (Nat.le_refl _) _)
  have HN : Hid (∃ A n c, tv = .slice A n c) := Lib.hid (by obtain ⟨o, A, c, rfl, -⟩ := hr; exact ⟨A, _, c, rfl⟩)
  clear hr
  obtain ⟨A, n, c, rfl⟩ := HN.out
  by_cases hm : May ⟨i0, i1, i2, l, i4, rt⟩
  · have H0 := Lib.hid hm
    clear hm
    go_enter Tryz.func60, Tryz.ntmps60
    go_wp2_with (go_at_call 95; refine (HP.out _ HBX.out).mono ?_; rintro e w1 ⟨z, rfl, hz, HB1⟩; replace hz := (hz.resolve_right (fun h => h.2 H0.out)).1; subst hz)
    go_ret
    exact ⟨.inl ⟨rfl, H0.out⟩, Lib.hid (HBX.out.trans (HB1.out.mono HBX.out.size))⟩
  · have H0 := Lib.hid hm
    clear hm
    go_enter Tryz.func60, Tryz.ntmps60
    go_wp2_with (go_at_call 95; refine (HP.out _ HBX.out).mono ?_; rintro e w1 ⟨z, rfl, hz, HB1⟩; replace hz := (hz.resolve_left (fun h => H0.out h.2)).1)
    go_ret
    exact ⟨.inr ⟨⟨z, rfl, hz⟩, H0.out⟩, Lib.hid (HBX.out.trans (HB1.out.mono HBX.out.size))⟩
end Go.Proofs.YtjokfllldcjheaaGreatDoor.Mn
/- manifest: Where. -/
namespace Go.Proofs.YtjokfllldcjheaaGreatDoor.Mn
open Go.RowKit Go.Proofs.YtjokfllldcjheaaGreatDoor.Oc Go.Proofs.YtjokfllldcjheaaGreatDoor.Ed Go.Proofs.YtjokfllldcjheaaGreatDoor.Tb Go.Proofs.YtjokfllldcjheaaGreatDoor.Sha Go.Proofs.YtjokfllldcjheaaGreatDoor.Cs
set_option linter.unusedVariables false
set_option linter.unusedSimpArgs false
/-- the box of a manifest -/
abbrev manO (m : Man) (tv : Value) : Obj := .cells #[.int .i64 m.ver, .int .i64 m.nodes, .int .i64 m.edges, tv, .int .i64 m.blocks, .string m.root] 73
theorem man_cells {W : World} {b : Nat} {m : Man} {tv : Value} (h : W.heap[b]? = some (.cells #[.int .i64 m.ver, .int .i64 m.nodes, .int .i64 m.edges, tv, .int .i64 m.blocks, .string m.root] 73 (0, 0))) :
    W.cell? ⟨b, 0, none⟩ = some (.int .i64 m.ver) ∧ W.cell? ⟨b, 1, none⟩ = some (.int .i64 m.nodes) ∧ W.cell? ⟨b, 2, none⟩ = some (.int .i64 m.edges) ∧ W.cell? ⟨b, 3, none⟩ = some tv ∧ W.cell? ⟨b, 4, none⟩ = some (.int .i64 m.blocks) ∧ W.cell? ⟨b, 5, none⟩ = some (.string m.root) :=
  ⟨cell_of_row W b 0 _ _ _ h, cell_of_row W b 1 _ _ _ h, cell_of_row W b 2 _ _ _ h, cell_of_row W b 3 _ _ _ h, cell_of_row W b 4 _ _ _ h, cell_of_row W b 5 _ _ _ h⟩
/-- Check of one that may be -/
theorem mcheck_ok (m : Man) (g : Nat) (tv : Value) (w : World) (hr : TBR w g tv m.sh) (hm : May m) :
    Calls Tryz.prog 60 #[manV m tv] w fun e w' => e = .returned .nilIface ∧ Hid (Below w.heap.size w w') :=
  (mcheck_calls m g tv w hr).mono fun e w' h => ⟨(h.1.resolve_right fun x => x.2 hm).1, h.2⟩
theorem mcheck_bad (m : Man) (g : Nat) (tv : Value) (w : World) (hr : TBR w g tv m.sh) (hm : ¬ May m) :
    Calls Tryz.prog 60 #[manV m tv] w fun e w' => ∃ z : Int, e = .returned (faultV z 4) ∧ 0 ≤ z ∧ Hid (Below w.heap.size w w') :=
  (mcheck_calls m g tv w hr).mono fun e w' h => by
    obtain ⟨⟨z, h1, h2⟩, -⟩ := h.1.resolve_left fun x => hm x.2
    exact ⟨z, h1, h2, h.2⟩
set_option maxHeartbeats 4000000 in
set_option maxRecDepth 100000 in
theorem mwhere_out (m : Man) (g : Nat) (tv : Value) (w : World) (hr : TBR w g tv m.sh) (hm : May m) (v : Int) (hv : v < 0 ∨ m.nodes ≤ v) :
    Calls Tryz.prog 37 #[manV m tv, .int .i64 v] w fun e w' => e = .returned (.tuple #[.int .i64 0, .int .i64 0, noV 2]) ∧ Hid (Below w.heap.size w w') := by
  have HC : Hid (∀ W, Below w.heap.size w W → Calls Tryz.prog 60 #[manV m tv] W fun e w' => e = .returned .nilIface ∧ Hid (Below W.heap.size W w')) := Lib.hid (fun W h => mcheck_ok m g tv W (hr.later h) hm)
  have HN : Hid (∃ A n c, tv = .slice A n c) := Lib.hid (by obtain ⟨o, A, c, rfl, -⟩ := hr; exact ⟨A, _, c, rfl⟩)
  clear hr hm
  obtain ⟨A, n, c, rfl⟩ := HN.out
  obtain ⟨i0, i1, i2, l, i4, rt⟩ := m
  simp only at HC hv ⊢
  obtain ⟨W1, hW1⟩ : ∃ W1, w.alloc (.cells #[.int .i64 i0, .int .i64 i1, .int .i64 i2, .slice A n c, .int .i64 i4, .string rt] 73) = W1 := ⟨_, rfl⟩
  have HX0 : Hid (W1.heap[w.heap.size]? = some (.cells #[.int .i64 i0, .int .i64 i1, .int .i64 i2, .slice A n c, .int .i64 i4, .string rt] 73 (0, 0))) := Lib.hid (by rw [← hW1]; exact heap_alloc_new w _)
  have HBX : Hid (Below w.heap.size w W1) := Lib.hid (by rw [← hW1]; exact (Below.refl _ _).alloc (Nat.le_refl _) _)
  obtain ⟨xb, hxb⟩ : ∃ xb, w.heap.size = xb := ⟨_, rfl⟩
  have HXB := Lib.hid hxb
  rw [hxb] at HX0
  have HSS : Hid (∀ X, Below W1.heap.size W1 X → X.cell? ⟨xb, 1, none⟩ = some (.int .i64 i1)) := Lib.hid (fun X h => (man_cells (m := ⟨i0, i1, i2, l, i4, rt⟩) ((h.block xb (Array.getElem?_eq_some_iff.1 HX0.out).1).trans HX0.out)).2.1)
  have HUF : Hid (∀ X, Below W1.heap.size W1 X → Below w.heap.size w X) := Lib.hid (fun X h => HBX.out.trans (h.mono HBX.out.size))
  have HU : Hid (Below W1.heap.size W1 W1) := Lib.hid (Below.refl _ _)
  have HW0 := Lib.hid hW1
  clear HX0 HBX
  have s0 : W1.cell? ⟨xb, 0, none⟩ = some (.int .i64 i0) := by rw [← hW1, ← hxb]; exact cell_of_row _ _ 0 _ _ _ (heap_alloc_new w _)
  have s1 : W1.cell? ⟨xb, 1, none⟩ = some (.int .i64 i1) := by rw [← hW1, ← hxb]; exact cell_of_row _ _ 1 _ _ _ (heap_alloc_new w _)
  have s2 : W1.cell? ⟨xb, 2, none⟩ = some (.int .i64 i2) := by rw [← hW1, ← hxb]; exact cell_of_row _ _ 2 _ _ _ (heap_alloc_new w _)
  have s3 : W1.cell? ⟨xb, 3, none⟩ = some (.slice A n c) := by rw [← hW1, ← hxb]; exact cell_of_row _ _ 3 _ _ _ (heap_alloc_new w _)
  have s4 : W1.cell? ⟨xb, 4, none⟩ = some (.int .i64 i4) := by rw [← hW1, ← hxb]; exact cell_of_row _ _ 4 _ _ _ (heap_alloc_new w _)
  have s5 : W1.cell? ⟨xb, 5, none⟩ = some (.string rt) := by rw [← hW1, ← hxb]; exact cell_of_row _ _ 5 _ _ _ (heap_alloc_new w _)
  by_cases h0 : v < 0
  case' neg => have h1 : i1 ≤ v := by omega
  all_goals
    clear hv
    go_enter Tryz.func37, Tryz.ntmps37
    go_upto_region 1 with (fail)
    clear hW1 hxb
    go_wp2_with (go_at_call 60; refine (HC.out _ (HUF.out _ HU.out)).mono ?_; rintro e w1 ⟨rfl, HB1⟩; have z1 := HSS.out _ HB1.out)
    go_ret3
    exact ⟨rfl, Lib.hid (HUF.out _ HB1.out)⟩
set_option maxHeartbeats 4000000 in
set_option maxRecDepth 100000 in
theorem mwhere_ok (m : Man) (g : Nat) (tv : Value) (w : World) (hr : TBR w g tv m.sh) (hm : May m) (v : Nat) (hv : (v : Int) < m.nodes) :
    Calls Tryz.prog 37 #[manV m tv, .int .i64 (v : Int)] w fun e w' => ∃ i : Nat, i < m.sh.length ∧ fst m.sh i ≤ (v : Int) ∧ (i + 1 < m.sh.length → (v : Int) < fst m.sh (i + 1)) ∧ e = .returned (.tuple #[.int .i64 (i : Int), .int .i64 (tot (m.sh.take i)), .nilIface]) ∧ Hid (Below w.heap.size w w') := by
  have HC : Hid (∀ W, Below w.heap.size w W → Calls Tryz.prog 60 #[manV m tv] W fun e w' => e = .returned .nilIface ∧ Hid (Below W.heap.size W w')) := Lib.hid (fun W h => mcheck_ok m g tv W (hr.later h) hm)
  have HR := Lib.hid hr
  have HM := Lib.hid hm
  obtain ⟨o, A, c, rfl, h1, h2, -⟩ := id hr
  obtain ⟨i0, i1, i2, l, i4, rt⟩ := m
  simp only at HC hv hr HR hm h1 ⊢
  have hl64 : l.length ≤ 64 := hm.1.2.2.2.1
  have hl0 : 0 < l.length := by
    rcases Nat.eq_zero_or_pos l.length with h | h
    · have := hm.1.2.2.2.2.1 h
      simp only at this
      omega
    · exact h
  have hN := hm.1.2.1
  simp only at hN
  obtain ⟨N, rfl⟩ := Int.eq_ofNat_of_zero_le hN.1
  have hN2 : N ≤ 4096 := by omega
  have hf0 : fst l 0 ≤ (v : Int) := by
    have := (hm.2.1 0 hl0).1
    rw [if_pos rfl] at this
    simp only at this
    omega
  have HTT : Hid (∀ k, k ≤ l.length → 0 ≤ tot (l.take k) ∧ tot (l.take k) ≤ 1048576 * k) := Lib.hid (tot_all (m := ⟨i0, N, i2, l, i4, rt⟩) hm.2.1)
  have HFB : Hid (∀ i, i < l.length → 0 ≤ fst l i ∧ fst l i ≤ 4096) := Lib.hid (fun i hi => by
    have a := rows_fst hm.2.1 i hi
    have b := (May.each hm) _ (List.getElem_mem (show i < l.length from hi))
    have e : fst l i = (l[i]).1 := by simp [fst, List.getD, List.getElem?_eq_getElem hi]
    simp only at a b
    rw [e] at a ⊢
    omega)
  obtain ⟨len, hlen⟩ : ∃ len, l.length = len := ⟨_, rfl⟩
  rw [hlen] at h1 hl64 hl0 HTT HFB ⊢
  have HL := Lib.hid hlen
  clear hr hm hN hlen
  rw [HL.out] at HC
  obtain ⟨W1, hW1⟩ : ∃ W1, w.alloc (.cells #[.int .i64 i0, .int .i64 (N : Int), .int .i64 i2, .slice A len c, .int .i64 i4, .string rt] 73) = W1 := ⟨_, rfl⟩
  have HX0 : Hid (W1.heap[w.heap.size]? = some (.cells #[.int .i64 i0, .int .i64 (N : Int), .int .i64 i2, .slice A len c, .int .i64 i4, .string rt] 73 (0, 0))) := Lib.hid (by rw [← hW1]; exact heap_alloc_new w _)
  have HBX : Hid (Below w.heap.size w W1) := Lib.hid (by rw [← hW1]; exact (Below.refl _ _).alloc (Nat.le_refl _) _)
  obtain ⟨xb, hxb⟩ : ∃ xb, w.heap.size = xb := ⟨_, rfl⟩
  have HXB := Lib.hid hxb
  rw [hxb] at HX0
  have HSS : Hid (∀ X, Below W1.heap.size W1 X → X.cell? ⟨xb, 1, none⟩ = some (.int .i64 (N : Int)) ∧ X.cell? ⟨xb, 3, none⟩ = some (.slice A len c)) := Lib.hid (fun X h => by
    have z := man_cells (m := ⟨i0, N, i2, l, i4, rt⟩) ((h.block xb (Array.getElem?_eq_some_iff.1 HX0.out).1).trans HX0.out)
    exact ⟨z.2.1, z.2.2.2.1⟩)
  have HUF : Hid (∀ X, Below W1.heap.size W1 X → Below w.heap.size w X) := Lib.hid (fun X h => HBX.out.trans (h.mono HBX.out.size))
  have HU : Hid (Below W1.heap.size W1 W1) := Lib.hid (Below.refl _ _)
  obtain ⟨s0, s1, s2, s3, s4, s5⟩ := man_cells (m := ⟨i0, N, i2, l, i4, rt⟩) HX0.out
  simp only at s0 s1 s2 s3 s4 s5
  clear HX0 HBX
  go_enter Tryz.func37, Tryz.ntmps37
  go_upto_region 1 with (fail)
  clear hW1 hxb
  go_upto_region 7 with (go_at_call 60; refine (HC.out _ (HUF.out _ HU.out)).mono ?_; rintro e w1 ⟨rfl, HB1⟩; obtain ⟨z1, z3⟩ := HSS.out _ HB1.out)
  clear s0 s1 s2 s3 s4 s5 z1 z3
  have HTT0 : Hid (tot (l.take 0) = 0) := Lib.hid rfl
  go_loopw [8, 9] (fun u x wz => ∃ i : Nat, u = .int .i64 (i : Int) ∧ x = .int .i64 (tot (l.take i)) ∧ i < len ∧ Hid (fst l i ≤ (v : Int)) ∧ Hid (Below W1.heap.size W1 wz)) (fun u _ _ => len - (intOf u).toNat)
  case atStart => exact ⟨0, rfl, rfl, hl0, Lib.hid hf0, HB1⟩
  case round =>
    obtain ⟨i, rfl, rfl, hi, HFI, HK⟩ := hrel
    obtain ⟨z1, z3⟩ := HSS.out _ HK.out
    have hb := HTT.out i (by omega)
    have hst := tot_take l i (by rw [HL.out]; exact hi)
    have hb' := HTT.out (i + 1) (by omega)
    rw [hst] at hb'
    obtain ⟨q, hq⟩ : ∃ q, tot (l.take i) = q := ⟨_, rfl⟩
    rw [hq] at hb hb' hst ⊢
    have HQ := Lib.hid hq
    have HST := Lib.hid hst
    obtain ⟨hb1, hb2⟩ := hb
    have hb3 : q ≤ 67108864 := by omega
    obtain ⟨o', A', c', hv', -, -, hread⟩ := HR.out.later (HUF.out _ HK.out)
    rw [HL.out] at hread hv'
    obtain ⟨rfl, -, hcell⟩ := hread (by omega)
    injection hv' with hv' _ hcc
    subst hcc hv'
    obtain ⟨j, hj⟩ : ∃ j, i + 1 = j := ⟨_, rfl⟩
    have hwj : IntKind.i64.wrap ((i : Int) + 1) = (j : Int) := by rw [IntWalk.i64_in _ (by omega)]; omega
    have HJ := Lib.hid hj
    have hi0 : (0 : Int) ≤ (i : Int) := by omega
    have hi1 : (i : Int) < (len : Int) := by omega
    have hj0 : (0 : Int) ≤ (j : Int) := by omega
    by_cases hlt : j < len
    · have hj1 : (j : Int) < (len : Int) := by omega
      obtain ⟨p0, -⟩ := hcell j hlt
      obtain ⟨-, p1⟩ := hcell i hi
      have hfj := HFB.out j hlt
      have hfx : fst l j = (l.getD j (0, 0)).1 := rfl
      obtain ⟨x, hx⟩ : ∃ x, (l.getD j (0, 0)).1 = x := ⟨_, rfl⟩
      obtain ⟨y, hy⟩ : ∃ y, (l.getD i (0, 0)).2 = y := ⟨_, rfl⟩
      rw [hx] at p0 hfx
      rw [hy] at p1 hst hb' HST
      rw [hfx] at hfj
      have HFX := Lib.hid hfx
      have hy2 : IntKind.i64.wrap (q + y) = q + y := IntWalk.i64_in _ (by omega)
      clear hcell hread hx hy hfx hst hj hq hb' hb2
      by_cases hxv : x ≤ (v : Int)
      · go_wp2
        go_roundw
        case rel => exact ⟨j, rfl, by rw [← HJ.out, HST.out], hlt, Lib.hid (by rw [HFX.out]; exact hxv), HK⟩
        case measure => simp [intOf]; have := HJ.out; omega
      · go_wp2
        go_ret3
        exact ⟨i, hi, HFI.out, fun _ => by rw [HJ.out, HFX.out]; omega, by rw [HQ.out]; rfl, Lib.hid (HUF.out _ HK.out)⟩
    · have hj1 : ¬ (j : Int) < (len : Int) := by omega
      clear hcell hread hst hj hq hb' hb2
      go_wp2
      go_ret3
      exact ⟨i, hi, HFI.out, fun h => by have := HJ.out; omega, by rw [HQ.out]; rfl, Lib.hid (HUF.out _ HK.out)⟩
end Go.Proofs.YtjokfllldcjheaaGreatDoor.Mn
/- slices.Equal of shards of a table; manifest.Same. -/
namespace Go.Proofs.YtjokfllldcjheaaGreatDoor.Tb
open Go.RowKit Go.Proofs.YtjokfllldcjheaaGreatDoor.Ed
set_option linter.unusedVariables false
set_option linter.unusedSimpArgs false
theorem eql_run (a b : E2) (w : World) : (binOp .eql 43 (.agg #[.int .i64 a.1, .int .i64 a.2]) (.agg #[.int .i64 b.1, .int .i64 b.2])).run Tryz.prog w = .ok (.bool (decide (a = b))) w := by
  have u3 := Tryz.underlying3
  have a3 := Tryz.isAgg3
  have z3 := Tryz.sizeOf3
  have hS : Tryz.prog.underlying 43 = some (.struct (Tryz.prog.fieldsOf 43)) := by kernel_rfl
  have hp : Tryz.prog.stoodInHeld 43 = false := by kernel_rfl
  rw [run_eql_struct, show (10000 : Nat) = 9999 + 1 from rfl, run_equalIn_agg w 9999 43 _ _ hS hp]
  simp only [Program.fieldsOf, Tryz.underlying43]
  go_simp
  obtain ⟨x, x'⟩ := a
  obtain ⟨y, y'⟩ := b
  by_cases h1 : x = y <;> by_cases h2 : x' = y' <;> simp [h1, h2]
theorem neq_run (a b : E2) (w : World) : (binOp .neq 43 (.agg #[.int .i64 a.1, .int .i64 a.2]) (.agg #[.int .i64 b.1, .int .i64 b.2])).run Tryz.prog w = .ok (.bool (!decide (a = b))) w := by
  have u3 := Tryz.underlying3
  have a3 := Tryz.isAgg3
  have z3 := Tryz.sizeOf3
  have hS : Tryz.prog.underlying 43 = some (.struct (Tryz.prog.fieldsOf 43)) := by kernel_rfl
  have hp : Tryz.prog.stoodInHeld 43 = false := by kernel_rfl
  rw [run_neq_struct, show (10000 : Nat) = 9999 + 1 from rfl, run_equalIn_agg w 9999 43 _ _ hS hp]
  simp only [Program.fieldsOf, Tryz.underlying43]
  go_simp
  obtain ⟨x, x'⟩ := a
  obtain ⟨y, y'⟩ := b
  by_cases h1 : x = y <;> by_cases h2 : x' = y' <;> simp [h1, h2]
theorem guard_run (op : BinOp) (p q : Operand) (a b : E2) (w : World) : (eqGuard op 43 p q (.agg #[.int .i64 a.1, .int .i64 a.2]) (.agg #[.int .i64 b.1, .int .i64 b.2])).run Tryz.prog w = .ok () w :=
  run_eqGuard_agg w op 43 p q _ _ (by kernel_rfl)
set_option maxHeartbeats 2000000 in
set_option maxRecDepth 100000 in
/-- slices.Equal -/
theorem tequal_calls (g1 g2 : Nat) (v1 v2 : Value) (a b : List E2) (w : World) (h1 : TBR w g1 v1 a) (h2 : TBR w g2 v2 b) :
    Calls Tryz.prog 62 #[v1, v2] w fun e w' => e = .returned (.bool (decide (a = b))) ∧ ∃ q, w' = w.drewN q := by
  obtain ⟨o1, A1, c1, rfl, hc1, hm1, hr1⟩ := h1
  obtain ⟨o2, A2, c2, rfl, hc2, hm2, hr2⟩ := h2
  obtain ⟨n, hn⟩ : ∃ n, a.length = n := ⟨_, rfl⟩
  obtain ⟨m, hm⟩ : ∃ m, b.length = m := ⟨_, rfl⟩
  rw [hn] at hc1 hr1 ⊢
  rw [hm] at hc2 hr2 ⊢
  by_cases hnm : n = m
  case neg =>
    have hd : decide (a = b) = false := decide_eq_false (fun e => hnm (by rw [← hn, ← hm, e]))
    have hb : ((n : Int) != (m : Int)) = true := by rw [bne_iff_ne]; omega
    rw [hd]
    clear hd hn hm hnm hr1 hr2
    go_enter Tryz.func62, Tryz.ntmps62
    go_wp2
    go_ret
    exact ⟨rfl, 0, rfl⟩
  case pos =>
    subst hnm
    have HN := Lib.hid hn
    have HM := Lib.hid hm
    have H1 := Lib.hid hr1
    have H2 := Lib.hid hr2
    obtain ⟨r, hr⟩ : ∃ r, decide (a = b) = r := ⟨_, rfl⟩
    rw [hr]
    have HR := Lib.hid hr
    clear hn hm hr1 hr2 hr
    have hb : ((n : Int) != (n : Int)) = false := by simp
    go_enter Tryz.func62, Tryz.ntmps62
    go_wp2
    go_loopw [13] (fun i wr => ∃ (k q : Nat), i = .int .i64 (k : Int) ∧ k ≤ n ∧ Hid (samE a b k) ∧ wr = w.drewN q) (fun i _ => n - (intOf i).toNat)
    case atStart => exact ⟨0, 0, rfl, by omega, Lib.hid (fun j hj => by omega), rfl⟩
    case round =>
      obtain ⟨k, q, rfl, hk, HS, rfl⟩ := hrel
      by_cases hlt : k < n
      · obtain ⟨rfl, -, hq1⟩ := H1.out (by omega)
        obtain ⟨rfl, -, hq2⟩ := H2.out (by omega)
        obtain ⟨q1, q3⟩ := hq1 k hlt
        obtain ⟨q2, q4⟩ := hq2 k hlt
        clear hq1 hq2
        obtain ⟨⟨x, x'⟩, hx⟩ : ∃ x, a.getD k (0, 0) = x := ⟨_, rfl⟩
        obtain ⟨⟨y, y'⟩, hy⟩ : ∃ y, b.getD k (0, 0) = y := ⟨_, rfl⟩
        rw [hx] at q1 q3
        rw [hy] at q2 q4
        simp only at q1 q2 q3 q4
        have HX := Lib.hid hx
        have HY := Lib.hid hy
        clear hx hy
        have i0 : (0 : Int) ≤ (k : Int) := by omega
        have i1 : (k : Int) < (n : Int) := by omega
        have hgd := fun (op : BinOp) (p q : Operand) (w : World) => guard_run op p q (x, x') (y, y') w
        simp only at hgd
        by_cases hxy : (x, x') = (y, y')
        · have hne : ∀ w, (binOp .neq 43 (.agg #[.int .i64 x, .int .i64 x']) (.agg #[.int .i64 y, .int .i64 y'])).run Tryz.prog w = .ok (.bool false) w := fun w => by
            have := neq_run (x, x') (y, y') w
            rwa [decide_eq_true hxy] at this
          have HXY : Hid (samE a b (k + 1)) := Lib.hid (samE_succ HS.out (by rw [HX.out, HY.out, hxy]))
          clear hxy
          go_upto_region 6 with (fail)
          go_quiet (fail)
          go_wp2
          go_roundw
          case rel => exact ⟨k + 1, q + nq, by go_num, by omega, HXY, rfl⟩
          case measure => simp [intOf]; omega
        · have hne : ∀ w, (binOp .neq 43 (.agg #[.int .i64 x, .int .i64 x']) (.agg #[.int .i64 y, .int .i64 y'])).run Tryz.prog w = .ok (.bool true) w := fun w => by
            have := neq_run (x, x') (y, y') w
            rwa [decide_eq_false hxy] at this
          have hd : r = false := by rw [← HR.out]; exact decide_eq_false (fun e => hxy (by rw [← HX.out, ← HY.out, e]))
          subst hd
          clear hxy
          go_upto_region 6 with (fail)
          go_quiet (fail)
          go_wp2
          go_ret
          exact ⟨rfl, q + nq, rfl⟩
      · obtain rfl : k = n := by omega
        have hd : r = true := by rw [← HR.out]; exact decide_eq_true (samE_all (by rw [HN.out, HM.out]) (by rw [HN.out]; exact HS.out))
        subst hd
        clear hlt
        go_wp2
        go_ret
        exact ⟨rfl, q, rfl⟩

end Go.Proofs.YtjokfllldcjheaaGreatDoor.Tb
namespace Go.Proofs.YtjokfllldcjheaaGreatDoor.Mn
open Go.RowKit Go.Proofs.YtjokfllldcjheaaGreatDoor.Oc Go.Proofs.YtjokfllldcjheaaGreatDoor.Ed Go.Proofs.YtjokfllldcjheaaGreatDoor.Tb Go.Proofs.YtjokfllldcjheaaGreatDoor.Sha Go.Proofs.YtjokfllldcjheaaGreatDoor.Cs
set_option linter.unusedVariables false
set_option linter.unusedSimpArgs false
theorem bytes_ne {a b : ByteArray} (h : a ≠ b) : (a.toList == b.toList) = false := by
  rw [beq_eq_false_iff_ne]
  intro he
  refine h ?_
  rw [ByteArray.toList_eq, ByteArray.toList_eq] at he
  exact ByteArray.ext (Array.toList_inj.1 he)
theorem bytes_eq {a b : ByteArray} (h : a = b) : (a.toList == b.toList) = true := by rw [h]; simp
set_option maxHeartbeats 8000000 in
set_option maxRecDepth 100000 in
/-- Same -/
theorem msame_calls (m1 m2 : Man) (g1 g2 : Nat) (v1 v2 : Value) (w : World) (h1 : TBR w g1 v1 m1.sh) (h2 : TBR w g2 v2 m2.sh) :
    Calls Tryz.prog 29 #[manV m1 v1, manV m2 v2] w fun e w' => ∃ r, e = .returned (.bool r) ∧ (r = true ↔ m1 = m2) ∧ Hid (Below w.heap.size w w') := by
  have HE : Hid (∀ W, Below w.heap.size w W → Calls Tryz.prog 62 #[v1, v2] W fun e w' => e = .returned (.bool (decide (m1.sh = m2.sh))) ∧ Hid (Below W.heap.size W w')) := Lib.hid (fun W h => (tequal_calls g1 g2 v1 v2 _ _ W (h1.later h) (h2.later h)).mono fun e w' ⟨he, q, hq⟩ => ⟨he, Lib.hid (by rw [hq]; exact drewN_below _ _ _)⟩)
  have HN1 : Hid (∃ A n c, v1 = .slice A n c) := Lib.hid (by obtain ⟨o, A, c, rfl, -⟩ := h1; exact ⟨A, _, c, rfl⟩)
  have HN2 : Hid (∃ A n c, v2 = .slice A n c) := Lib.hid (by obtain ⟨o, A, c, rfl, -⟩ := h2; exact ⟨A, _, c, rfl⟩)
  clear h1 h2
  obtain ⟨A, n, c, rfl⟩ := HN1.out
  obtain ⟨B, k, d, rfl⟩ := HN2.out
  obtain ⟨x0, x1, x2, l1, x4, s1⟩ := m1
  obtain ⟨y0, y1, y2, l2, y4, s2⟩ := m2
  simp only at HE ⊢
  have HEQ : Hid ((⟨x0, x1, x2, l1, x4, s1⟩ : Man) = ⟨y0, y1, y2, l2, y4, s2⟩ ↔ x0 = y0 ∧ x1 = y1 ∧ x2 = y2 ∧ l1 = l2 ∧ x4 = y4 ∧ s1 = s2) := Lib.hid ⟨fun h => by injection h with h1 h2 h3 h4 h5 h6; exact ⟨h1, h2, h3, h4, h5, h6⟩, fun ⟨h1, h2, h3, h4, h5, h6⟩ => by subst h1 h2 h3 h4 h5 h6; rfl⟩
  have HBX : Hid (Below w.heap.size w ((w.alloc (.cells #[.int .i64 x0, .int .i64 x1, .int .i64 x2, .slice A n c, .int .i64 x4, .string s1] 73)).alloc (.cells #[.int .i64 y0, .int .i64 y1, .int .i64 y2, .slice B k d, .int .i64 y4, .string s2] 73))) := Lib.hid (((Below.refl _ _).alloc (Nat.le_refl _) _).alloc (by simp) _)
  by_cases h0 : x0 = y0
  case neg =>
    have b0 : (x0 == y0) = false := beq_eq_false_iff_ne.2 h0
    have HF : Hid (¬ (⟨x0, x1, x2, l1, x4, s1⟩ : Man) = ⟨y0, y1, y2, l2, y4, s2⟩) := Lib.hid fun h => h0 (HEQ.out.1 h).1
    clear h0
    go_enter Tryz.func29, Tryz.ntmps29
    go_wp2
    go_ret
    exact ⟨false, rfl, by simp [HF.out], HBX⟩
  have b0 : (x0 == y0) = true := beq_iff_eq.2 h0
  by_cases h1 : x1 = y1
  case neg =>
    have b1 : (x1 == y1) = false := beq_eq_false_iff_ne.2 h1
    have HF : Hid (¬ (⟨x0, x1, x2, l1, x4, s1⟩ : Man) = ⟨y0, y1, y2, l2, y4, s2⟩) := Lib.hid fun h => h1 (HEQ.out.1 h).2.1
    clear h0 h1
    go_enter Tryz.func29, Tryz.ntmps29
    go_wp2
    go_ret
    exact ⟨false, rfl, by simp [HF.out], HBX⟩
  have b1 : (x1 == y1) = true := beq_iff_eq.2 h1
  by_cases h2 : x2 = y2
  case neg =>
    have b2 : (x2 == y2) = false := beq_eq_false_iff_ne.2 h2
    have HF : Hid (¬ (⟨x0, x1, x2, l1, x4, s1⟩ : Man) = ⟨y0, y1, y2, l2, y4, s2⟩) := Lib.hid fun h => h2 (HEQ.out.1 h).2.2.1
    clear h0 h1 h2
    go_enter Tryz.func29, Tryz.ntmps29
    go_wp2
    go_ret
    exact ⟨false, rfl, by simp [HF.out], HBX⟩
  have b2 : (x2 == y2) = true := beq_iff_eq.2 h2
  by_cases h3 : x4 = y4
  case neg =>
    have b3 : (x4 == y4) = false := beq_eq_false_iff_ne.2 h3
    have HF : Hid (¬ (⟨x0, x1, x2, l1, x4, s1⟩ : Man) = ⟨y0, y1, y2, l2, y4, s2⟩) := Lib.hid fun h => h3 (HEQ.out.1 h).2.2.2.2.1
    clear h0 h1 h2 h3
    go_enter Tryz.func29, Tryz.ntmps29
    go_wp2
    go_ret
    exact ⟨false, rfl, by simp [HF.out], HBX⟩
  have b3 : (x4 == y4) = true := beq_iff_eq.2 h3
  by_cases h4 : s1 = s2
  case neg =>
    have b4 : (s1.toList == s2.toList) = false := bytes_ne h4
    have HF : Hid (¬ (⟨x0, x1, x2, l1, x4, s1⟩ : Man) = ⟨y0, y1, y2, l2, y4, s2⟩) := Lib.hid fun h => h4 (HEQ.out.1 h).2.2.2.2.2
    clear h0 h1 h2 h3 h4
    go_enter Tryz.func29, Tryz.ntmps29
    go_wp2
    go_ret
    exact ⟨false, rfl, by simp [HF.out], HBX⟩
  have b4 : (s1.toList == s2.toList) = true := bytes_eq h4
  have HF : Hid (decide (l1 = l2) = true ↔ (⟨x0, x1, x2, l1, x4, s1⟩ : Man) = ⟨y0, y1, y2, l2, y4, s2⟩) := Lib.hid (by rw [decide_eq_true_iff]; exact ⟨fun h => HEQ.out.2 ⟨h0, h1, h2, h, h3, h4⟩, fun h => (HEQ.out.1 h).2.2.2.1⟩)
  clear h0 h1 h2 h3 h4
  obtain ⟨r, hr⟩ : ∃ r, decide (l1 = l2) = r := ⟨_, rfl⟩
  rw [hr] at HE HF
  clear hr
  go_enter Tryz.func29, Tryz.ntmps29
  go_wp2_with (go_at_call 62; refine (HE.out _ HBX.out).mono ?_; rintro e w1 ⟨rfl, HB1⟩)
  go_ret
  exact ⟨r, rfl, HF.out, Lib.hid (HBX.out.trans (HB1.out.mono HBX.out.size))⟩
end Go.Proofs.YtjokfllldcjheaaGreatDoor.Mn
/- octet: PutText of one text; manifest: Put. -/
namespace Go.Proofs.YtjokfllldcjheaaGreatDoor.Mn
open Go.RowKit Go.Proofs.YtjokfllldcjheaaGreatDoor.Oc Go.Proofs.YtjokfllldcjheaaGreatDoor.Ed Go.Proofs.YtjokfllldcjheaaGreatDoor.Tb Go.Proofs.YtjokfllldcjheaaGreatDoor.Sha Go.Proofs.YtjokfllldcjheaaGreatDoor.Cs
set_option linter.unusedVariables false
set_option linter.unusedSimpArgs false
theorem wb_below {w wz wy : World} {B b : Nat} {v v' : Value} {bs : List UInt8} (h : Below B w wz) (hd : BD wz B b v bs) (hw : Wb wz wy b v v') (hB : B ≤ wz.heap.size) : Below B w wy :=
  h.trans ⟨hw.os, hw.tape, hw.output, hw.size, fun k hk => hw.block k (by omega) (by have := hd.base; omega) (fun e => by have := OB.base hd.row k e; omega)⟩
/-- a text's bytes -/
def txtB (s : ByteArray) : List UInt8 := shB s.size ++ s.data.toList
set_option maxHeartbeats 4000000 in
set_option maxRecDepth 100000 in
theorem puttext_calls (g : Nat) (lv : Value) (s : ByteArray) (w : World) (hl : SR w g lv [s]) (hs : s.size ≤ 1000000) :
    Calls Tryz.prog 72 #[lv] w fun e w' => e = .returned (.string ⟨(txtB s).toArray⟩) ∧ Hid (Below w.heap.size w w') := by
  have HL := Lib.hid hl
  obtain ⟨A, c, hv, h1, h2, h3⟩ := id hl
  have hv : lv = .slice A 1 c := hv
  subst hv
  have HSH : Hid (∀ W, Calls Tryz.prog 105 #[.int .i64 (s.size : Int)] W fun e w' => e = .returned (.string (shS s.size)) ∧ Hid (Below W.heap.size W w')) := Lib.hid (fun W => short_calls s.size (by omega) W)
  have HB0 : Hid (BD (w.alloc (.cells #[.pointer none, .slice none 0 0] 130)) w.heap.size w.heap.size (.slice none 0 0) [] ∧ Below w.heap.size w (w.alloc (.cells #[.pointer none, .slice none 0 0] 130))) := Lib.hid ⟨⟨⟨_, .inl rfl, heap_alloc_new w _⟩, OB.nil _ _, Nat.le_refl _, by simp [Value.ownBlock]⟩, (Below.refl _ w).alloc (Nat.le_refl _) _⟩
  obtain ⟨W1, hW1⟩ : ∃ W1, w.alloc (.cells #[.pointer none, .slice none 0 0] 130) = W1 := ⟨_, rfl⟩
  rw [hW1] at HB0
  obtain ⟨b, hb⟩ : ∃ b, w.heap.size = b := ⟨_, rfl⟩
  have HBB := Lib.hid hb
  clear hl h1 h2 h3
  go_enter Tryz.func72, Tryz.ntmps72
  go_upto_region 3 with (fail)
  clear hW1
  go_loopw [8] (fun x wz => ∃ k : Nat, x = .int .i64 (k : Int) ∧ k ≤ 1 ∧ Hid (∃ v, BD wz w.heap.size b v (if k = 0 then [] else txtB s) ∧ Below w.heap.size w wz)) (fun x _ => 1 - (intOf x).toNat)
  case atStart => exact ⟨0, rfl, by omega, Lib.hid ⟨_, by rw [← HBB.out]; exact HB0.out.1, HB0.out.2⟩⟩
  case round =>
    obtain ⟨k, rfl, hk, HV⟩ := hrel
    obtain ⟨v, hd, hbw⟩ := HV.out
    by_cases hk0 : k = 0
    · subst hk0
      rw [if_pos rfl] at hd
      have HD := Lib.hid hd
      have HBW := Lib.hid hbw
      obtain ⟨o, c2, hA, -, -, hcell⟩ := (HL.out.later hbw).form (by simp)
      injection hA with hA hA2 hA3
      clear hA2
      subst hA hA3
      have d1 := hcell 0 s rfl
      rw [Nat.add_zero] at d1
      clear hcell hd hbw HV
      have HW : Hid (∀ W, Below wr.heap.size wr W → Calls Tryz.prog 64 #[.pointer (some ⟨b, 0, none⟩), .string ⟨(txtB s).toArray⟩] W fun e w' => e = .returned (.tuple #[.int .i64 ((⟨(txtB s).toArray⟩ : ByteArray).size : Int), .nilIface]) ∧ ∃ v', Hid (BD w' w.heap.size b v' ([] ++ txtB s)) ∧ Hid (Wb W w' b v v')) := Lib.hid (fun W h => wstr_calls (HD.out.later h) ⟨(txtB s).toArray⟩ (by
        have e1 : (⟨(txtB s).toArray⟩ : ByteArray).size = (txtB s).length := rfl
        have e2 : s.data.toList.length = s.size := list_sz0 s
        have e3 := shB_le 7 s.size (by omega)
        rw [e1]
        simp only [txtB, List.length_append, List.length_nil]
        omega))
      have HEQ : Hid ((shS s.size) ++ s = (⟨(txtB s).toArray⟩ : ByteArray)) := Lib.hid (ByteArray.ext (Array.toList_inj.1 (by rw [ByteArray.data_append, Array.toList_append]; rfl)))
      have hzz : ¬ 9223372036854775807 < (shS s.size).size + s.size := by
        have e3 := shB_le 7 s.size (by omega)
        have e4 : (shS s.size).size = (shB s.size).length := rfl
        omega
      go_wp2_with (first
        | (go_at_call 105; refine (HSH.out _).mono ?_; rintro e w1 ⟨rfl, HB1⟩)
        | (go_at_call 64; rw [HEQ.out]; refine (HW.out _ HB1.out).mono ?_; rintro e w2 ⟨rfl, v', HD2, HW2⟩))
      go_roundw
      case rel => exact ⟨1, rfl, by omega, Lib.hid ⟨v', HD2.out, wb_below (HBW.out.trans (HB1.out.mono HBW.out.size)) (HD.out.later HB1.out) HW2.out (Nat.le_trans HBW.out.size HB1.out.size)⟩⟩
      case measure => simp [intOf]
    · obtain rfl : k = 1 := by omega
      rw [if_neg (by omega)] at hd
      have HD := Lib.hid hd
      have HBW := Lib.hid hbw
      have HS := Lib.hid (bstr_calls hd (by have := shB_pos s.size; intro e; rw [txtB, List.append_eq_nil_iff] at e; rw [e.1] at this; simp at this) (by
        have e2 : s.data.toList.length = s.size := list_sz0 s
        have e3 := shB_le 7 s.size (by omega)
        simp only [txtB, List.length_append]
        omega))
      clear hd hbw HV
      go_wp2_with (go_at_call 65; refine HS.out.mono ?_; rintro e w2 ⟨rfl, hg, hsz⟩; have HG := Lib.hid hg; clear hg hsz)
      go_ret
      exact ⟨rfl, Lib.hid (HBW.out.grown HG.out HBW.out.size (OB.base HD.out.row))⟩
end Go.Proofs.YtjokfllldcjheaaGreatDoor.Mn
/- manifest: Put. -/
namespace Go.Proofs.YtjokfllldcjheaaGreatDoor.Ro
open Go.RowKit
theorem OJ.push2_run {w : World} {base : Nat} {v : Value} {xs : List Int} (HO : OJ w base v xs) {g : Nat} {x z : Int} (hc : w.cell? ⟨g, 0, none⟩ = some (.int .i64 x)) (hd : w.cell? ⟨g, 1, none⟩ = some (.int .i64 z)) (ty : TypeId) (hbase : base ≤ w.heap.size) (hl : xs.length ≤ 1000000000) :
    ∃ v1 w1, (Builtin.append_ #[53, 53] ty #[v, .slice (some ⟨g, 0, none⟩) 2 2]).run Tryz.prog w = .ok v1 w1 ∧ OJ w1 base v1 (xs ++ [x, z]) ∧ w.grownBy w1 v.ownBlock ∧ (v1.ownBlock = v.ownBlock ∨ v1.ownBlock = some w.heap.size) := by
  obtain ⟨i0, hi, hzz⟩ := Option.map_eq_some_iff.1 infoInt
  simp only [Prod.mk.injEq] at hzz
  obtain ⟨hz0, hz1, hz2⟩ := hzz
  obtain ⟨v1, w1, hr, k2, k3, _, k5⟩ := run_append_own_at (P := Tryz.prog) w base 53 ty 3 i0 (.int .i64 0) 1 8 Tryz.underlying53 hi hz0 hz1 hz2 rfl (by omega) v xs.length (xs.map fun z => .int .i64 z) HO ⟨g, 0, none⟩ 2 2 [.int .i64 x, .int .i64 z] rfl (fun j u hu => by
    match j with
    | 0 =>
      obtain rfl : u = .int .i64 x := by simpa using hu.symm
      rw [add_none]
      exact hc
    | 1 =>
      obtain rfl : u = .int .i64 z := by simpa using hu.symm
      rw [add_none]
      exact hd
    | j + 2 => simp at hu) (by simp [Value.oneCell']) (by simp only [maxLen]; omega) (by omega) hbase
  refine ⟨v1, w1, hr, ?_, k3, k5⟩
  unfold OJ
  rw [List.length_append, List.map_append]
  exact k2
section
variable {ops : Array Oper} {rest : List Oper} {o : Oper} {a : Act} {w : World} {Q : Exit → Act → World → Prop}
theorem OJ.push2_on {base : Nat} {v : Value} {xs : List Int} (HO : OJ w base v xs) {g : Nat} {y z : Int} (hc : w.cell? ⟨g, 0, none⟩ = some (.int .i64 y)) (hd : w.cell? ⟨g, 1, none⟩ = some (.int .i64 z)) (hgd : o.guard = none) (s x : Operand)
    (ho : o.op = .call { callee := .builtin .append, args := #[s, x], argTypes := #[53, 53] }) (hs : a.eval s = v) (hx : a.eval x = .slice (some ⟨g, 0, none⟩) 2 2)
    (hbase : base ≤ w.heap.size) (hl : xs.length ≤ 1000000000)
    (k : ∀ v1 w1, OJ w1 base v1 (xs ++ [y, z]) → w.grownBy w1 v.ownBlock → (v1.ownBlock = v.ownBlock ∨ v1.ownBlock = some w.heap.size) → wpList Tryz.prog ops Q rest (a.put o.dst v1) w1) : wpList Tryz.prog ops Q (o :: rest) a w := by
  obtain ⟨v1, w1, hr, k2, k3, k5⟩ := OJ.push2_run HO hc hd o.type hbase hl
  exact append_step hgd s x _ _ ho hs hx hr (k v1 w1 k2 k3 k5)
end
theorem OJ_lit4 (w : World) (base : Nat) (hb : base ≤ w.heap.size) (a b c d : Int) : OJ (w.alloc (.cells #[.int .i64 a, .int .i64 b, .int .i64 c, .int .i64 d] 3)) base (.slice (some ⟨w.heap.size, 0, none⟩) 4 4) [a, b, c, d] :=
  World.ownsRow_lit w #[.int .i64 a, .int .i64 b, .int .i64 c, .int .i64 d] 4 hb (by simp only [maxLen]; omega) rfl
end Go.Proofs.YtjokfllldcjheaaGreatDoor.Ro
namespace Go.Proofs.YtjokfllldcjheaaGreatDoor.Mn
open Go.RowKit Go.Proofs.YtjokfllldcjheaaGreatDoor.Oc Go.Proofs.YtjokfllldcjheaaGreatDoor.Ed Go.Proofs.YtjokfllldcjheaaGreatDoor.Tb Go.Proofs.YtjokfllldcjheaaGreatDoor.Sha Go.Proofs.YtjokfllldcjheaaGreatDoor.Cs Go.Proofs.YtjokfllldcjheaaGreatDoor.Ro
set_option linter.unusedVariables false
set_option linter.unusedSimpArgs false
/-- the numbers that are written: the k first rows -/
def numsK (m : Man) (k : Nat) : List Int := [m.ver, m.nodes, m.edges, (m.sh.length : Int)] ++ (m.sh.take k).flatMap fun e => [e.1, e.2]
def nums (m : Man) : List Int := numsK m m.sh.length ++ [m.blocks]
theorem numsK_succ (m : Man) (k : Nat) (h : k < m.sh.length) : numsK m (k + 1) = numsK m k ++ [(m.sh.getD k (0, 0)).1, (m.sh.getD k (0, 0)).2] := by
  unfold numsK
  rw [List.take_add_one, List.flatMap_append, List.append_assoc, List.getElem?_eq_getElem h]
  simp [List.getD, List.getElem?_eq_getElem h]
theorem numsK_len (m : Man) : ∀ k, k ≤ m.sh.length → (numsK m k).length = 4 + 2 * k
  | 0, _ => by simp [numsK]
  | k + 1, h => by rw [numsK_succ m k (by omega), List.length_append, numsK_len m k (by omega)]; simp; omega
def shorts (l : List Int) : List UInt8 := l.flatMap fun z => shB z.toNat
theorem shorts_snoc (l : List Int) (z : Int) : shorts (l ++ [z]) = shorts l ++ shB z.toNat := by simp [shorts]
theorem shorts_take (l : List Int) (k : Nat) (h : k < l.length) : shorts (l.take (k + 1)) = shorts (l.take k) ++ shB (l.getD k 0).toNat := by
  unfold shorts
  rw [List.take_add_one, List.getElem?_eq_getElem h, List.flatMap_append]
  simp [List.getD, List.getElem?_eq_getElem h]
theorem shorts_le (l : List Int) (h : ∀ z ∈ l, 0 ≤ z ∧ z < 72057594037927936) : (shorts l).length ≤ 8 * l.length := by
  induction l with
  | nil => simp [shorts]
  | cons x r ih =>
    have a := shB_le 7 x.toNat (by have := h x (List.mem_cons_self ..); omega)
    have b := ih fun z hz => h z (List.mem_cons_of_mem _ hz)
    have e : shorts (x :: r) = shB x.toNat ++ shorts r := rfl
    rw [e, List.length_append, List.length_cons]
    omega
theorem manB_eq (m : Man) : manB m = shorts (nums m) ++ txtB m.root := by
  unfold nums numsK
  rw [List.take_length]
  have e : ∀ l : List E2, shorts (l.flatMap fun e => [e.1, e.2]) = tabB l := fun l => by
    induction l with
    | nil => rfl
    | cons x r ih =>
      have e1 : shorts ((x :: r).flatMap fun e => [e.1, e.2]) = shB x.1.toNat ++ (shB x.2.toNat ++ shorts (r.flatMap fun e => [e.1, e.2])) := rfl
      have e2 : tabB (x :: r) = (shB x.1.toNat ++ shB x.2.toNat) ++ tabB r := rfl
      rw [e1, e2, ih, List.append_assoc]
  have e3 : shorts ([m.ver, m.nodes, m.edges, (m.sh.length : Int)] ++ (m.sh.flatMap fun e => [e.1, e.2]) ++ [m.blocks]) = shB m.ver.toNat ++ (shB m.nodes.toNat ++ (shB m.edges.toNat ++ (shB (m.sh.length : Int).toNat ++ (tabB m.sh ++ shB m.blocks.toNat)))) := by
    rw [← e]
    simp [shorts]
  rw [e3]
  simp [manB, txtB]
theorem nums_ok {m : Man} (h : May m) : ∀ z ∈ nums m, 0 ≤ z ∧ z < 72057594037927936 := by
  intro z hz
  have he := h.each
  have ht := (rows_tot m.sh.length h.2.1 (Nat.le_refl _)).1
  rw [List.take_length] at ht
  obtain ⟨⟨a1, a2, a3, a4, -⟩, -, a5, a6, -⟩ := h
  have hc := cnt_pos (n := tot m.sh) (by omega)
  unfold nums numsK at hz
  rw [List.take_length] at hz
  simp only [List.mem_append, List.mem_cons, List.mem_flatMap, List.not_mem_nil, or_false] at hz
  rcases hz with ((rfl | rfl | rfl | rfl) | ⟨e, h1, rfl | rfl⟩) | rfl
  · omega
  · omega
  · omega
  · omega
  · have := he e h1; omega
  · have := he e h1; omega
  · omega
theorem manB_len {m : Man} (h : May m) : (manB m).length ≤ 2000 := by
  have a := shorts_le (nums m) (nums_ok h)
  have b := numsK_len m m.sh.length (Nat.le_refl _)
  have c := shB_le 7 m.root.size (by rw [h.2.2.2.2]; decide)
  have d : m.root.data.toList.length = m.root.size := list_sz0 _
  have e := h.2.2.2.2
  have f := h.1.2.2.2.1
  rw [manB_eq, List.length_append]
  unfold txtB
  unfold nums at a
  rw [List.length_append, b, List.length_singleton] at a
  rw [List.length_append]
  unfold nums
  omega
set_option maxHeartbeats 8000000 in
set_option maxRecDepth 100000 in
theorem mput_ok (m : Man) (g : Nat) (tv : Value) (w : World) (hr : TBR w g tv m.sh) (hm : May m) :
    Calls Tryz.prog 40 #[manV m tv] w fun e w' => e = .returned (.tuple #[.string ⟨(manB m).toArray⟩, .nilIface]) ∧ Hid (Below w.heap.size w w') := by
  have HC : Hid (∀ W, Below w.heap.size w W → Calls Tryz.prog 60 #[manV m tv] W fun e w' => e = .returned .nilIface ∧ Hid (Below W.heap.size W w')) := Lib.hid (fun W h => mcheck_ok m g tv W (hr.later h) hm)
  have HR := Lib.hid hr
  have HME := Lib.hid (manB_eq m)
  have HNO := Lib.hid (nums_ok hm)
  have HKS := Lib.hid (numsK_succ m)
  have HKL := Lib.hid (numsK_len m)
  have HN0 : Hid (numsK m 0 = [m.ver, m.nodes, m.edges, (m.sh.length : Int)]) := Lib.hid (by simp [numsK])
  have HNU : Hid (nums m = numsK m m.sh.length ++ [m.blocks]) := Lib.hid rfl
  have hrt : m.root.size = 32 := hm.2.2.2.2
  have hl64 : m.sh.length ≤ 64 := hm.1.2.2.2.1
  obtain ⟨o, A, c, rfl, h1, h2, -⟩ := id hr
  obtain ⟨nk, hnk⟩ : ∃ nk, numsK m = nk := ⟨_, rfl⟩
  obtain ⟨L, hL⟩ : ∃ L, nums m = L := ⟨_, rfl⟩
  obtain ⟨mb, hmb⟩ : ∃ mb, manB m = mb := ⟨_, rfl⟩
  rw [hmb, hL] at HME
  rw [hL] at HNO HNU
  rw [hnk] at HKS HKL HN0 HNU
  rw [hmb]
  clear hnk hL hmb hr hm
  obtain ⟨i0, i1, i2, l, i4, rt⟩ := m
  simp only at HC HR HME HNO HKS HKL HN0 HNU hrt hl64 h1 ⊢
  obtain ⟨len, hlen⟩ : ∃ len, l.length = len := ⟨_, rfl⟩
  rw [hlen] at h1 hl64 HC HKS HKL HN0 HNU ⊢
  have HL := Lib.hid hlen
  clear hlen
  obtain ⟨W1, hW1⟩ : ∃ W1, w.alloc (.cells #[.int .i64 i0, .int .i64 i1, .int .i64 i2, .slice A len c, .int .i64 i4, .string rt] 73) = W1 := ⟨_, rfl⟩
  have HX0 : Hid (W1.heap[w.heap.size]? = some (.cells #[.int .i64 i0, .int .i64 i1, .int .i64 i2, .slice A len c, .int .i64 i4, .string rt] 73 (0, 0))) := Lib.hid (by rw [← hW1]; exact heap_alloc_new w _)
  have HBX : Hid (Below w.heap.size w W1) := Lib.hid (by rw [← hW1]; exact (Below.refl _ _).alloc (Nat.le_refl _) _)
  obtain ⟨xb, hxb⟩ : ∃ xb, w.heap.size = xb := ⟨_, rfl⟩
  have HXB := Lib.hid hxb
  rw [hxb] at HX0
  have HXL : Hid (xb < W1.heap.size) := Lib.hid (Array.getElem?_eq_some_iff.1 HX0.out).1
  have HSS : Hid (∀ X, Below W1.heap.size W1 X → X.cell? ⟨xb, 0, none⟩ = some (.int .i64 i0) ∧ X.cell? ⟨xb, 1, none⟩ = some (.int .i64 i1) ∧ X.cell? ⟨xb, 2, none⟩ = some (.int .i64 i2) ∧ X.cell? ⟨xb, 3, none⟩ = some (.slice A len c) ∧ X.cell? ⟨xb, 4, none⟩ = some (.int .i64 i4) ∧ X.cell? ⟨xb, 5, none⟩ = some (.string rt)) := Lib.hid (fun X h => man_cells (m := ⟨i0, i1, i2, l, i4, rt⟩) ((h.block xb (Array.getElem?_eq_some_iff.1 HX0.out).1).trans HX0.out))
  have HUF : Hid (∀ X, Below W1.heap.size W1 X → Below w.heap.size w X) := Lib.hid (fun X h => HBX.out.trans (h.mono HBX.out.size))
  have HU : Hid (Below W1.heap.size W1 W1) := Lib.hid (Below.refl _ _)
  obtain ⟨s0, s1, s2, s3, s4, s5⟩ := HSS.out _ HU.out
  clear HX0
  go_enter Tryz.func40, Tryz.ntmps40
  go_upto_region 1 with (fail)
  clear hW1 hxb
  go_upto_region 6 with (go_at_call 60; refine (HC.out _ (HUF.out _ HU.out)).mono ?_; rintro e w1 ⟨rfl, HB1⟩; obtain ⟨z0, z1, z2, z3, z4, z5⟩ := HSS.out _ HB1.out; have z6 := (fun o => Lib.cell?_alloc_some o z3))
  have HO0 := Lib.hid (OJ_lit4 w1 W1.heap.size HB1.out.size i0 i1 i2 (len : Int))
  have HK0 := Lib.hid (HB1.out.alloc HB1.out.size (.cells #[.int .i64 i0, .int .i64 i1, .int .i64 i2, .int .i64 (len : Int)] 3))
  clear s0 s1 s2 s3 s4 s5 z0 z1 z2 z3 z4 z5 z6
  go_loopw [5, 31] (fun u x wz => ∃ k : Nat, x = .int .i64 (k : Int) ∧ k ≤ len ∧ Hid (OJ wz W1.heap.size u (nk k)) ∧ Hid (Below W1.heap.size W1 wz)) (fun _ x _ => len - (intOf x).toNat)
  case atStart => exact ⟨0, rfl, by omega, Lib.hid (by rw [HN0.out]; exact HO0.out), HK0⟩
  case round =>
    clear HO0 HK0 HB1
    obtain ⟨k, rfl, hk, HO, HK⟩ := hrel
    by_cases hlt : k < len
    · obtain ⟨o', A', c', hv', -, -, hread⟩ := HR.out.later (HUF.out _ HK.out)
      rw [HL.out] at hread hv'
      obtain ⟨rfl, -, hcell⟩ := hread (by omega)
      injection hv' with hv' _ hcc
      subst hcc hv'
      obtain ⟨q0, q1⟩ := hcell k hlt
      have hks := HKS.out k hlt
      obtain ⟨⟨x, y⟩, hxy⟩ : ∃ x, l.getD k (0, 0) = x := ⟨_, rfl⟩
      rw [hxy] at q0 q1 hks
      simp only at q0 q1 hks
      have HKN := Lib.hid hks
      clear hcell hread hxy hks
      have hi1 : (k : Int) < (len : Int) := by omega
      go_upto_region 8 with (fail)
      have hW0 := heap_alloc_new wr (.cells #[.int .i64 x, .int .i64 y] 43)
      have hbw := HK.out.alloc HK.out.size (.cells #[.int .i64 x, .int .i64 y] 43)
      have hoo := HO.out.alloc (.cells #[.int .i64 x, .int .i64 y] 43)
      clear q0 q1
      generalize wr.alloc (.cells #[.int .i64 x, .int .i64 y] 43) = W at *
      generalize wr.heap.size = tb at *
      have d0 : W.cell? ⟨tb, 0, none⟩ = some (.int .i64 x) := cell_of_row W tb 0 _ _ _ hW0
      have d1 : W.cell? ⟨tb, 1, none⟩ = some (.int .i64 y) := cell_of_row W tb 1 _ _ _ hW0
      have HBW := Lib.hid hbw
      have HOW := Lib.hid hoo
      obtain ⟨uA, uc, hu, -⟩ := hoo.shape
      rw [HKL.out k hk] at hu
      subst hu
      clear hW0 hbw hoo HO
      go_wp2_with (at_builtin; refine OJ.push2_on (base := W1.heap.size) (HOW.out.alloc _) (g := W.heap.size) (cell_of_row _ _ 0 _ _ _ (heap_alloc_new W _)) (cell_of_row _ _ 1 _ _ _ (heap_alloc_new W _)) rfl _ _ rfl rfl rfl (by have := HBW.out.size; simp; omega) (by rw [HKL.out k hk]; omega) ?_; intro v3 w3 k1 k2 k3; have K1 := Lib.hid k1; have K2 := Lib.hid k2; clear k1 k2 k3)
      go_roundw
      case rel => exact ⟨k + 1, by go_num, by omega, Lib.hid (by rw [HKN.out]; exact K1.out), Lib.hid ((HBW.out.alloc HBW.out.size _).grown K2.out (by have := HBW.out.size; simp; omega) HOW.out.base)⟩
      case measure => simp [intOf]; omega
    · obtain rfl : k = len := by omega
      obtain ⟨z0, z1, z2, z3, z4, z5⟩ := HSS.out _ HK.out
      have hoo := HO.out
      obtain ⟨uA, uc, hu, -⟩ := hoo.shape
      rw [HKL.out k hk] at hu
      subst hu
      have HOW := Lib.hid hoo
      clear hoo HO
      have z6 := (fun o => Lib.cell?_alloc_some o z5)
      obtain ⟨n, hn⟩ : ∃ n, 4 + 2 * k + 1 = n := ⟨_, rfl⟩
      have HN := Lib.hid hn
      go_upto_region 12 with (at_builtin; refine OJ.push_on (base := W1.heap.size) (HOW.out.alloc _) (g := wr.heap.size) (cell_of_row _ _ 0 _ _ _ (heap_alloc_new wr _)) rfl _ _ rfl rfl rfl (by have := HK.out.size; simp; omega) (by rw [HKL.out k hk]; omega) ?_; intro v3 w3 k1 k2 k3; have K1 := Lib.hid k1; have K2 := Lib.hid k2; obtain ⟨vA, vc, hv3, -⟩ := k1.shape; rw [List.length_append, HKL.out k hk, List.length_singleton, HN.out] at hv3; subst hv3; clear k1 k2 k3)
      have hll : L.length = n := by rw [HNU.out, List.length_append, HKL.out k hk]; exact hn
      have hn133 : n ≤ 133 := by omega
      have HLL := Lib.hid hll
      obtain ⟨g2, hj, -⟩ := K1.out.reads
      rw [← HNU.out] at hj
      have HJ := Lib.hid hj
      have HK3 : Hid (Below W1.heap.size W1 w3) := Lib.hid ((HK.out.alloc HK.out.size _).grown K2.out (by have := HK.out.size; simp; omega) HOW.out.base)
      clear hj K1 K2 HOW hn z0 z1 z2 z3 z4 z5 z6 hll
      have HS0 : Hid (ByteArray.empty.data.toList = shorts (L.take 0)) := Lib.hid rfl
      go_loopw [8, 49] (fun u x wz => ∃ (j : Nat) (s : ByteArray), u = .string s ∧ x = .int .i64 (j : Int) ∧ j ≤ n ∧ Hid (s.data.toList = shorts (L.take j)) ∧ Hid (Below w3.heap.size w3 wz)) (fun _ x _ => n - (intOf x).toNat)
      case atStart => exact ⟨0, ByteArray.empty, rfl, rfl, by omega, HS0, Lib.hid (Below.refl _ _)⟩
      case round =>
        clear HS0
        obtain ⟨j, s, rfl, rfl, hj, HS, HB⟩ := hrel
        have hsl : s.size ≤ 1064 := by
          have a := shorts_le (L.take j) (fun z hz => HNO.out z (List.mem_of_mem_take hz))
          rw [List.length_take] at a
          have b := list_sz0 s
          rw [HS.out] at b
          omega
        by_cases hlt : j < n
        · have hst := shorts_take L j (by rw [HLL.out]; exact hlt)
          have hzb := HNO.out (L.getD j 0) (by
            rw [List.getD_eq_getElem?_getD, List.getElem?_eq_getElem (by rw [HLL.out]; exact hlt)]
            exact List.getElem_mem _)
          have HJ2 := HJ.out.later HB.out
          obtain ⟨A', c', o2, hv', -, -, hread⟩ := HJ2
          rw [HLL.out] at hread hv'
          obtain ⟨rfl, -, hcell⟩ := hread (by omega)
          injection hv' with hv' _ hcc
          subst hcc hv'
          have d1 := hcell j hlt
          obtain ⟨z, hz⟩ : ∃ z, L.getD j 0 = z := ⟨_, rfl⟩
          rw [hz] at d1 hst hzb
          obtain ⟨x, rfl⟩ := Int.eq_ofNat_of_zero_le hzb.1
          have hx : x < 72057594037927936 := by omega
          have HST := Lib.hid hst
          clear hcell hread hz hst hzb
          have hlt2 : (j : Int) < (n : Int) := by omega
          have hj0 : (0 : Int) ≤ (j : Int) := by omega
          have HPS : Hid (∀ W, Calls Tryz.prog 71 #[.int .i64 (x : Int)] W fun e w' => e = .returned (.tuple #[.string (shS x), .nilIface]) ∧ Hid (Below W.heap.size W w')) := Lib.hid (fun W => putShort_calls x hx W)
          have hzz : ¬ 9223372036854775807 < s.size + (shS x).size := by
            have e3 := shB_le 7 x (by simpa using hx)
            have e4 : (shS x).size = (shB x).length := rfl
            omega
          have HEQ : Hid ((s ++ shS x).data.toList = shorts (L.take (j + 1))) := Lib.hid (by
            rw [HST.out, ← HS.out, ByteArray.data_append, Array.toList_append]; rfl)
          clear hx
          go_wp2_with (go_at_call 71; refine (HPS.out _).mono ?_; rintro e w4 ⟨rfl, HB4⟩)
          go_roundw
          case rel => exact ⟨j + 1, s ++ shS x, rfl, by go_num, by omega, HEQ, Lib.hid (HB.out.trans (HB4.out.mono HB.out.size))⟩
          case measure => simp [intOf]; omega
        · obtain rfl : j = n := by omega
          have HS2 : Hid (s.data.toList = shorts L) := Lib.hid (by rw [HS.out, ← HLL.out, List.take_length])
          have HKZ : Hid (Below W1.heap.size W1 wr) := Lib.hid (HK3.out.trans (HB.out.mono HK3.out.size))
          obtain ⟨z0, z1, z2, z3, z4, z5⟩ := HSS.out _ HKZ.out
          clear z0 z1 z2 z3 z4 HS hlt
          have HPT : Hid (Calls Tryz.prog 72 #[.slice (some ⟨wr.heap.size, 0, none⟩) 1 1] (wr.alloc (.cells #[.string rt] 9)) fun e w' => e = .returned (.string ⟨(txtB rt).toArray⟩) ∧ Hid (Below (wr.alloc (.cells #[.string rt] 9)).heap.size (wr.alloc (.cells #[.string rt] 9)) w')) := Lib.hid (puttext_calls wr.heap.size _ rt _ (SR.lit wr [rt] _ rfl 1 rfl (by simp)) (by omega))
          have hzz : ¬ 9223372036854775807 < s.size + (⟨(txtB rt).toArray⟩ : ByteArray).size := by
            have e1 : (⟨(txtB rt).toArray⟩ : ByteArray).size = (txtB rt).length := rfl
            have e3 := shB_le 7 rt.size (by omega)
            have e2 := list_sz0 rt
            rw [e1]
            simp only [txtB, List.length_append]
            omega
          have HEQ : Hid (s ++ (⟨(txtB rt).toArray⟩ : ByteArray) = ⟨mb.toArray⟩) := Lib.hid (ByteArray.ext (Array.toList_inj.1 (by rw [ByteArray.data_append, Array.toList_append, HS2.out, HME.out])))
          go_wp2_with (go_at_call 72; refine HPT.out.mono ?_; rintro e w5 ⟨rfl, HB5⟩)
          go_ret2
          exact ⟨by rw [← HEQ.out]; rfl, Lib.hid (HUF.out _ (HKZ.out.trans (((Below.refl _ _).alloc (Nat.le_refl _) _).trans (HB5.out.mono (by simp)) |>.mono HKZ.out.size)))⟩
end Go.Proofs.YtjokfllldcjheaaGreatDoor.Mn
