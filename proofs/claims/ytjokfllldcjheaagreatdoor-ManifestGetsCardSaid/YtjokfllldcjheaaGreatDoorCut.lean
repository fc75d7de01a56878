/- block.Cut: texts joined and cut in blocks; rows of texts of one's own. -/
import Derived.Test.YtjokfllldcjheaaGreatDoorBlk
import Derived.Test.YtjokfllldcjheaaGreatDoorTxt
import Derived.Test.YtjokfllldcjheaaGreatDoorJoin
import Derived.Laws.Strings2
namespace Go.Proofs.YtjokfllldcjheaaGreatDoor.Sha
open Go.RowKit
set_option linter.unusedVariables false
set_option linter.unusedSimpArgs false

theorem join_cat (ss : List ByteArray) : Lib.join (ss.map (·.data.toList)) [] = cat ss := by
  unfold Lib.join cat
  induction ss with
  | nil => rfl
  | cons x r ih =>
    cases r with
    | nil => simp [List.intercalate]
    | cons y r =>
      rw [List.map_cons, List.map_cons] at *
      simp only [List.intercalate, List.intersperse_cons_cons, List.flatten_cons, List.nil_append, List.flatMap_cons] at ih ⊢
      rw [ih]
theorem join_calls (lb : Nat) (lv : Value) (ss : List ByteArray) (w : World) (hl : SR w lb lv ss) (hn : ss.length ≤ 1000000) (hsz : (cat ss).length ≤ 1000000) :
    Calls Tryz.prog 30 #[lv, .string ⟨#[]⟩] w fun e w' => e = .returned (.string ⟨(cat ss).toArray⟩) ∧ Hid (Below w.heap.size w w') := by
  by_cases h0 : ss.length = 0
  · obtain rfl : ss = [] := List.eq_nil_of_length_eq_zero h0
    obtain ⟨A, c, rfl, -⟩ := hl
    exact (Tryz.strings_Join_none A c ⟨#[]⟩ w).mono fun e w' ⟨he, hw⟩ => ⟨he, by subst hw; exact Below.refl _ _⟩
  · have hlt := hl.lt
    obtain ⟨o, c, rfl, h1, h2, h3⟩ := hl.form (by omega)
    have e : Lib.join (ss.map (·.data.toList)) (⟨#[]⟩ : ByteArray).data.toList = cat ss := join_cat ss
    have hg : lb < w.heap.size := by
      rcases hlt with hlt | hlt
      · rw [hlt] at h0; simp at h0
      · exact hlt
    have := Tryz.strings_Join lb o c ss ⟨#[]⟩ w h3 hg (by omega) h1 (by rw [e]; omega)
    rw [e] at this
    exact this

/-- the k-th block of bytes, and all of them -/
def pc (b : ByteArray) (k : Nat) : ByteArray := b.extract (64 * k) (min (64 * (k + 1)) b.size)
def bcnt (b : ByteArray) : Nat := (b.size + 63) / 64
def blks (b : ByteArray) (n : Nat) : List ByteArray := (List.range n).map (pc b)
theorem blks_length (b : ByteArray) (n : Nat) : (blks b n).length = n := by simp [blks]
theorem blks_succ (b : ByteArray) (n : Nat) : blks b (n + 1) = blks b n ++ [pc b n] := by simp [blks, List.range_succ]
theorem blks_getD (b : ByteArray) (n k : Nat) (h : k < n) : (blks b n).getD k ByteArray.empty = pc b k := by simp [blks, List.getD_eq_getElem?_getD, h]
theorem pc_size (b : ByteArray) (k : Nat) (h : 64 * k < b.size) : (pc b k).size = min 64 (b.size - 64 * k) := by
  unfold pc
  rw [ByteArray.size_extract]
  omega
theorem cat_append (xs ys : List ByteArray) : cat (xs ++ ys) = cat xs ++ cat ys := by simp [cat]
theorem pc_bytes (b : ByteArray) (k : Nat) : (pc b k).data.toList = (b.data.toList.drop (64 * k)).take (min (64 * (k + 1)) b.size - 64 * k) := by
  unfold pc
  rw [ByteArray.data_extract, Array.toList_extract]
theorem cat_blks (b : ByteArray) : ∀ n, n ≤ bcnt b → cat (blks b n) = b.data.toList.take (64 * n)
  | 0, _ => by simp [blks, cat]
  | n + 1, h => by
    have hl := toList_len b
    have hn : 64 * n < b.size := by unfold bcnt at h; omega
    rw [blks_succ, cat_append, cat_blks b n (by omega), cat_one, pc_bytes]
    by_cases hc : 64 * (n + 1) ≤ b.size
    · rw [Nat.min_eq_left hc, show 64 * (n + 1) - 64 * n = 64 by omega, show 64 * (n + 1) = 64 * n + 64 by omega, List.take_add]
    · rw [Nat.min_eq_right (by omega), List.take_of_length_le (l := List.drop _ _) (by rw [List.length_drop]; omega), List.take_append_drop, List.take_of_length_le (by omega)]
theorem cat_all (b : ByteArray) : cat (blks b (bcnt b)) = b.data.toList := by
  rw [cat_blks b _ (Nat.le_refl _), List.take_of_length_le]
  rw [toList_len]; unfold bcnt; omega
theorem cnt_nat (b : ByteArray) : Blk.cnt (b.size : Int) = (bcnt b : Int) := by unfold Blk.cnt bcnt; omega
theorem siz_nat (b : ByteArray) (k : Nat) (h : k < bcnt b) : Blk.siz (b.size : Int) (k : Int) = ((pc b k).size : Int) := by
  have hk : 64 * k < b.size := by unfold bcnt at h; omega
  rw [pc_size b k hk]
  have := Blk.siz_in (b.size : Int) (k : Int) (by omega) (by rw [cnt_nat]; omega)
  omega

set_option maxHeartbeats 2000000 in
set_option maxRecDepth 100000 in
theorem cut_callsT (lb : Nat) (lv : Value) (ss : List ByteArray) (b : ByteArray) (w : World) (hl : SR w lb lv ss) (hn : ss.length ≤ 1000000) (hb : cat ss = b.data.toList) (hsz : b.size ≤ 1000000) :
    Calls Tryz.prog 61 #[lv] w fun e w' => ∃ v g, e = .returned v ∧ Hid (SR w' g v (blks b (bcnt b))) ∧ Hid (w.heap.size ≤ g ∧ TagS w' g (blks b (bcnt b))) ∧ Hid (Below w.heap.size w w') := by
  have hc : (cat ss).length ≤ 1000000 := by rw [hb, toList_len]; exact hsz
  have he : (⟨(cat ss).toArray⟩ : ByteArray) = b := by rw [hb]
  have HE := Lib.hid he
  have HL := Lib.hid hl
  clear he hl
  have hcn := cnt_nat b
  have hbc : bcnt b ≤ 16000 := by unfold bcnt; omega
  have HCN := Lib.hid hcn
  clear hcn
  go_enter Tryz.func61, Tryz.ntmps61
  go_wp2_with (first
    | (go_at_call 30; refine (join_calls lb lv ss w HL.out hn hc).mono ?_; rw [HE.out]; rintro e w1 ⟨rfl, HB1⟩)
    | (go_at_call 32; refine (Blk.count_calls _ _ (by omega) (by omega)).mono ?_; rw [HCN.out]; rintro e w' ⟨rfl, rfl⟩))
  have HO : Hid (OT w1 w.heap.size (.slice none 0 0) (blks b 0)) := Lib.hid (OT.nil w1 w.heap.size)
  go_loopw [4, 11] (fun u i wr => ∃ (k : Nat), i = .int .i64 (k : Int) ∧ k ≤ bcnt b ∧ Hid (OT wr w.heap.size u (blks b k)) ∧ Hid (Below w.heap.size w wr)) (fun _ i _ => bcnt b - (intOf i).toNat)
  case atStart => exact ⟨0, rfl, by omega, HO, HB1⟩
  case round =>
    clear HO HB1
    obtain ⟨k, rfl, hk, HO, HB⟩ := hrel
    have hbw := HB.out.size
    by_cases hlt : k < bcnt b
    · have hs := siz_nat b k hlt
      have hk2 : 64 * k < b.size := by unfold bcnt at hlt; omega
      have hps := pc_size b k hk2
      have hcut : ∀ w, (Instr.slice 9 (.string b) (some (.int .i64 ((k : Int) * 64))) (some (.int .i64 ((k : Int) * 64 + ((pc b k).size : Int)))) none).run Tryz.prog w = .ok (.string (pc b k)) w := fun w => by
        have e := run_slice_string (P := Tryz.prog) w 9 b .i64 .i64 ((k : Int) * 64) ((k : Int) * 64 + ((pc b k).size : Int)) Tryz.underlying9 (by omega) (by omega) (by omega)
        rw [e]
        unfold pc at hps ⊢
        congr 3
        · omega
        · omega
      have hpl : ((pc b k).size : Int) ≤ 64 := by omega
      have hpl0 : (0 : Int) ≤ ((pc b k).size : Int) := by omega
      have hsn := blks_succ b k
      obtain ⟨p, hp⟩ : ∃ p, pc b k = p := ⟨_, rfl⟩
      rw [hp] at hcut hs hsn hpl hpl0
      have HS := Lib.hid hs
      have HSN := Lib.hid hsn
      have hkb : (k : Int) ≤ 16000 := by omega
      have hk0 : (0 : Int) ≤ (k : Int) := by omega
      have hlt' : (k : Int) < (bcnt b : Int) := by omega
      clear hs hsn hp hps hlt
      go_wp2_with (first
        | (go_at_call 96; refine (Blk.size_calls _ _ _ (by omega) (by omega) (by omega) (by omega)).mono ?_; rw [HS.out]; rintro e w' ⟨rfl, rfl⟩)
        | (at_builtin; refine OT.append_on (base := w.heap.size) (w := wr.alloc _) (OT.alloc HO.out _) (SR.lit wr [p] _ rfl 1 rfl (by simp)) (by simp) rfl _ _ rfl rfl rfl (by simp; omega) (by rw [blks_length]; simp; omega) ?_; intro v1 w1 h1 hg1))
      go_roundw
      case rel =>
        refine ⟨k + 1, by go_num, by omega, ?_, Lib.hid ((HB.out.alloc hbw _).grown hg1 (by simp; omega) (OT.base HO.out))⟩
        rw [HSN.out]
        exact h1
      case measure => simp [intOf]; omega
    · obtain rfl : k = bcnt b := by omega
      obtain ⟨g2, hr2, hbg, htg⟩ := HO.out.readsAt
      have HR2 := Lib.hid hr2
      have HTG := Lib.hid (And.intro hbg htg)
      clear hr2 hlt hk hbg htg
      go_wp2
      go_ret
      exact ⟨_, g2, rfl, HR2, HTG, HB⟩
theorem cut_calls (lb : Nat) (lv : Value) (ss : List ByteArray) (b : ByteArray) (w : World) (hl : SR w lb lv ss) (hn : ss.length ≤ 1000000) (hb : cat ss = b.data.toList) (hsz : b.size ≤ 1000000) :
    Calls Tryz.prog 61 #[lv] w fun e w' => ∃ v g, e = .returned v ∧ Hid (SR w' g v (blks b (bcnt b))) ∧ Hid (Below w.heap.size w w') := by
  refine (cut_callsT lb lv ss b w hl hn hb hsz).mono ?_
  rintro e w' ⟨v, g, h1, h2, _, h4⟩
  exact ⟨v, g, h1, h2, h4⟩
end Go.Proofs.YtjokfllldcjheaaGreatDoor.Sha
