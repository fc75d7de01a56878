/- block.Cut: texts joined and cut in blocks; rows of texts of one's own. -/
import Derived.Test.YtmhjocbnoppbbaaBlk
import Derived.Test.YtmhjocbnoppbbaaShaM
import Derived.Test.YtmhjocbnoppbbaaJoin
import Derived.Laws.Strings2
namespace Go.Proofs.Ytmhjocbnoppbbaa.Sha
open Go.RowKit
set_option linter.unusedVariables false
set_option linter.unusedSimpArgs false

theorem SR.form {w : World} {g : Nat} {v : Value} {ss : List ByteArray} (h : SR w g v ss) (hp : 0 < ss.length) :
    ∃ o c, v = .slice (some ⟨g, o, none⟩) ss.length c ∧ ss.length ≤ c ∧ c ≤ 9223372036854775807 ∧ ∀ (j : Nat) x, ss[j]? = some x → w.cell? ⟨g, o + j, none⟩ = some (.string x) := by
  obtain ⟨A, c, hv, h1, h2, h3⟩ := h
  obtain ⟨ad, rfl, rfl, hc⟩ := h3 hp
  obtain ⟨b, o, sp⟩ := ad
  have h0 := hc 0 hp
  have hsp : sp = none := by
    cases sp with
    | none => rfl
    | some q =>
      exfalso
      simp only [Addr.add, World.cell?, if_pos] at h0
      split at h0 <;> simp at h0
  subst hsp
  refine ⟨o, c, hv, h1, h2, fun j x hx => ?_⟩
  have hj : j < ss.length := (List.getElem?_eq_some_iff.1 hx).1
  have := hc j hj
  rw [show (⟨b, o, none⟩ : Addr).add j = ⟨b, o + j, none⟩ by unfold Addr.add; split <;> simp_all] at this
  rw [this]
  simp [List.getD_eq_getElem?_getD, hx]
theorem join_cat (ss : List ByteArray) : Lib.join (ss.map (·.data.toList)) [] = cat ss := by
  unfold Lib.join cat
  induction ss with
  | nil => rfl
  | cons x r ih =>
    cases r with
    | nil => simp [List.intercalate]
    | cons y r =>
      rw [List.map_cons, List.map_cons] at *
      simp only [List.intercalate, List.intersperse_cons_cons, List.flatten_cons, List.nil_append, List.flatMap_cons] at ih ⊢
      rw [ih]
theorem join_calls (lb : Nat) (lv : Value) (ss : List ByteArray) (w : World) (hl : SR w lb lv ss) (hn : ss.length ≤ 1000000) (hsz : (cat ss).length ≤ 1000000) :
    Calls Try.prog 37 #[lv, .string ⟨#[]⟩] w fun e w' => e = .returned (.string ⟨(cat ss).toArray⟩) ∧ Hid (Below w.heap.size w w') := by
  by_cases h0 : ss.length = 0
  · obtain rfl : ss = [] := List.eq_nil_of_length_eq_zero h0
    obtain ⟨A, c, rfl, -⟩ := hl
    exact (Try.strings_Join_none A c ⟨#[]⟩ w).mono fun e w' ⟨he, hw⟩ => ⟨he, by subst hw; exact Below.refl _ _⟩
  · have hlt := hl.lt
    obtain ⟨o, c, rfl, h1, h2, h3⟩ := hl.form (by omega)
    have e : Lib.join (ss.map (·.data.toList)) (⟨#[]⟩ : ByteArray).data.toList = cat ss := join_cat ss
    have hg : lb < w.heap.size := by
      rcases hlt with hlt | hlt
      · rw [hlt] at h0; simp at h0
      · exact hlt
    have := Try.strings_Join lb o c ss ⟨#[]⟩ w h3 hg (by omega) h1 (by rw [e]; omega)
    rw [e] at this
    exact this

/-- the k-th block of bytes, and all of them -/
def pc (b : ByteArray) (k : Nat) : ByteArray := b.extract (64 * k) (min (64 * (k + 1)) b.size)
def bcnt (b : ByteArray) : Nat := (b.size + 63) / 64
def blks (b : ByteArray) (n : Nat) : List ByteArray := (List.range n).map (pc b)
theorem blks_length (b : ByteArray) (n : Nat) : (blks b n).length = n := by simp [blks]
theorem blks_succ (b : ByteArray) (n : Nat) : blks b (n + 1) = blks b n ++ [pc b n] := by simp [blks, List.range_succ]
theorem blks_getD (b : ByteArray) (n k : Nat) (h : k < n) : (blks b n).getD k ByteArray.empty = pc b k := by simp [blks, List.getD_eq_getElem?_getD, h]
theorem pc_size (b : ByteArray) (k : Nat) (h : 64 * k < b.size) : (pc b k).size = min 64 (b.size - 64 * k) := by
  unfold pc
  rw [ByteArray.size_extract]
  omega
theorem cat_append (xs ys : List ByteArray) : cat (xs ++ ys) = cat xs ++ cat ys := by simp [cat]
theorem pc_bytes (b : ByteArray) (k : Nat) : (pc b k).data.toList = (b.data.toList.drop (64 * k)).take (min (64 * (k + 1)) b.size - 64 * k) := by
  unfold pc
  rw [ByteArray.data_extract, Array.toList_extract]
theorem cat_blks (b : ByteArray) : ∀ n, n ≤ bcnt b → cat (blks b n) = b.data.toList.take (64 * n)
  | 0, _ => by simp [blks, cat]
  | n + 1, h => by
    have hl := toList_len b
    have hn : 64 * n < b.size := by unfold bcnt at h; omega
    rw [blks_succ, cat_append, cat_blks b n (by omega), cat_one, pc_bytes]
    by_cases hc : 64 * (n + 1) ≤ b.size
    · rw [Nat.min_eq_left hc, show 64 * (n + 1) - 64 * n = 64 by omega, show 64 * (n + 1) = 64 * n + 64 by omega, List.take_add]
    · rw [Nat.min_eq_right (by omega), List.take_of_length_le (l := List.drop _ _) (by rw [List.length_drop]; omega), List.take_append_drop, List.take_of_length_le (by omega)]
theorem cat_all (b : ByteArray) : cat (blks b (bcnt b)) = b.data.toList := by
  rw [cat_blks b _ (Nat.le_refl _), List.take_of_length_le]
  rw [toList_len]; unfold bcnt; omega
theorem cnt_nat (b : ByteArray) : Blk.cnt (b.size : Int) = (bcnt b : Int) := by unfold Blk.cnt bcnt; omega
theorem siz_nat (b : ByteArray) (k : Nat) (h : k < bcnt b) : Blk.siz (b.size : Int) (k : Int) = ((pc b k).size : Int) := by
  have hk : 64 * k < b.size := by unfold bcnt at h; omega
  rw [pc_size b k hk]
  have := Blk.siz_in (b.size : Int) (k : Int) (by omega) (by rw [cnt_nat]; omega)
  omega

/-- v is a row of texts of the call's own -/
def OT (w : World) (base : Nat) (v : Value) (ss : List ByteArray) : Prop := w.ownsRow base 9 1 v ss.length (ss.map Value.string)
theorem OT.nil (w : World) (base : Nat) : OT w base (.slice none 0 0) [] := World.ownsRow_nil w base 9 1
theorem OT.alloc {w : World} {base : Nat} {v : Value} {ss : List ByteArray} (h : OT w base v ss) (o : Obj) : OT (w.alloc o) base v ss := World.ownsRow.alloc h o
theorem OT.base {w : World} {base : Nat} {v : Value} {ss : List ByteArray} (h : OT w base v ss) : ∀ k, v.ownBlock = some k → base ≤ k := fun k hk => (World.ownsRow.lt h k hk).1
theorem OT.reads {w : World} {base : Nat} {v : Value} {ss : List ByteArray} (h : OT w base v ss) : ∃ g, SR w g v ss := by
  rcases h.2 with ⟨hv, hn⟩ | ⟨g, cap, cur, hv, hb, hh, hnc, hcm, hcs, htk⟩
  · exact ⟨0, none, 0, by rw [hv, hn], by omega, by omega, fun h => by omega⟩
  · refine ⟨g, some ⟨g, 0, none⟩, cap, hv, hnc, by simp only [maxLen] at hcm; omega, fun _ => ⟨_, rfl, rfl, fun i hi => ?_⟩⟩
    have := World.ownsRow.cells h (g := g) (by rw [hv]; rfl) i (.string (ss.getD i ByteArray.empty)) (by simp [List.getD_eq_getElem?_getD, hi])
    exact this
theorem infoStr : (Try.prog.info? 9).map (fun i => (i.zero, i.size, i.bytes)) = some (some (.string ByteArray.empty), 1, 16) := by kernel_rfl
section
variable {ops : Array Oper} {rest : List Oper} {o : Oper} {a : Act} {w : World} {Q : Exit → Act → World → Prop}
theorem OT.append_on {base : Nat} {v : Value} {xs : List ByteArray} (HO : OT w base v xs) {g : Nat} {y : Value} {ys : List ByteArray} (HR : SR w g y ys) (hp : 0 < ys.length) (hgd : o.guard = none) (s x : Operand)
    (ho : o.op = .call { callee := .builtin .append, args := #[s, x], argTypes := #[31, 31] }) (hs : a.eval s = v) (hx : a.eval x = y)
    (hbase : base ≤ w.heap.size) (hl : xs.length + ys.length ≤ 1000000000)
    (k : ∀ v1 w1, OT w1 base v1 (xs ++ ys) → w.grownBy w1 v.ownBlock → wpList Try.prog ops Q rest (a.put o.dst v1) w1) : wpList Try.prog ops Q (o :: rest) a w := by
  obtain ⟨i0, hi, hzz⟩ := Option.map_eq_some_iff.1 infoStr
  simp only [Prod.mk.injEq] at hzz
  obtain ⟨hz0, hz1, hz2⟩ := hzz
  obtain ⟨off, c, rfl, h1, h2, h3⟩ := HR.form hp
  obtain ⟨v1, w1, hr, k2, k3, _, k5⟩ := run_append_own_at (P := Try.prog) w base 31 o.type 9 i0 (.string ByteArray.empty) 1 16 Try.underlying31 hi hz0 hz1 hz2 rfl (by omega) v xs.length (xs.map Value.string) HO ⟨g, off, none⟩ ys.length c (ys.map Value.string) (by simp) (fun j u hu => by
    have hj : j < ys.length := by
      have := (List.getElem?_eq_some_iff.1 hu).1
      simpa using this
    have e : u = .string ys[j] := by simpa [hj] using hu.symm
    rw [e, show (⟨g, off, none⟩ : Addr).add j = ⟨g, off + j, none⟩ by unfold Addr.add; split <;> simp_all]
    exact h3 j _ (List.getElem?_eq_getElem hj)) (by simp [Value.oneCell']) (by simp only [maxLen]; omega) (by omega) hbase
  refine append_step hgd s x _ _ ho hs hx hr (k v1 w1 ?_ k3)
  unfold OT
  rw [List.length_append, List.map_append]
  exact k2
end

set_option maxHeartbeats 2000000 in
set_option maxRecDepth 100000 in
theorem cut_calls (lb : Nat) (lv : Value) (ss : List ByteArray) (b : ByteArray) (w : World) (hl : SR w lb lv ss) (hn : ss.length ≤ 1000000) (hb : cat ss = b.data.toList) (hsz : b.size ≤ 1000000) :
    Calls Try.prog 15 #[lv] w fun e w' => ∃ v g, e = .returned v ∧ Hid (SR w' g v (blks b (bcnt b))) ∧ Hid (Below w.heap.size w w') := by
  have hc : (cat ss).length ≤ 1000000 := by rw [hb, toList_len]; exact hsz
  have he : (⟨(cat ss).toArray⟩ : ByteArray) = b := by rw [hb]
  have HE := Lib.hid he
  have HL := Lib.hid hl
  clear he hl
  have hcn := cnt_nat b
  have hbc : bcnt b ≤ 16000 := by unfold bcnt; omega
  have HCN := Lib.hid hcn
  clear hcn
  go_enter Try.func15, Try.ntmps15
  go_wp2_with (first
    | (go_at_call 37; refine (join_calls lb lv ss w HL.out hn hc).mono ?_; rw [HE.out]; rintro e w1 ⟨rfl, HB1⟩)
    | (go_at_call 13; refine (Blk.count_calls _ _ (by omega) (by omega)).mono ?_; rw [HCN.out]; rintro e w' ⟨rfl, rfl⟩))
  have HO : Hid (OT w1 w.heap.size (.slice none 0 0) (blks b 0)) := Lib.hid (OT.nil w1 w.heap.size)
  go_loopw [4, 11] (fun u i wr => ∃ (k : Nat), i = .int .i64 (k : Int) ∧ k ≤ bcnt b ∧ Hid (OT wr w.heap.size u (blks b k)) ∧ Hid (Below w.heap.size w wr)) (fun _ i _ => bcnt b - (intOf i).toNat)
  case atStart => exact ⟨0, rfl, by omega, HO, HB1⟩
  case round =>
    clear HO HB1
    obtain ⟨k, rfl, hk, HO, HB⟩ := hrel
    have hbw := HB.out.size
    by_cases hlt : k < bcnt b
    · have hs := siz_nat b k hlt
      have hk2 : 64 * k < b.size := by unfold bcnt at hlt; omega
      have hps := pc_size b k hk2
      have hcut : ∀ w, (Instr.slice 9 (.string b) (some (.int .i64 ((k : Int) * 64))) (some (.int .i64 ((k : Int) * 64 + ((pc b k).size : Int)))) none).run Try.prog w = .ok (.string (pc b k)) w := fun w => by
        have e := run_slice_string (P := Try.prog) w 9 b .i64 .i64 ((k : Int) * 64) ((k : Int) * 64 + ((pc b k).size : Int)) Try.underlying9 (by omega) (by omega) (by omega)
        rw [e]
        unfold pc at hps ⊢
        congr 3
        · omega
        · omega
      have hpl : ((pc b k).size : Int) ≤ 64 := by omega
      have hpl0 : (0 : Int) ≤ ((pc b k).size : Int) := by omega
      have hsn := blks_succ b k
      obtain ⟨p, hp⟩ : ∃ p, pc b k = p := ⟨_, rfl⟩
      rw [hp] at hcut hs hsn hpl hpl0
      have HS := Lib.hid hs
      have HSN := Lib.hid hsn
      have hkb : (k : Int) ≤ 16000 := by omega
      have hk0 : (0 : Int) ≤ (k : Int) := by omega
      have hlt' : (k : Int) < (bcnt b : Int) := by omega
      clear hs hsn hp hps hlt
      go_wp2_with (first
        | (go_at_call 14; refine (Blk.size_calls _ _ _ (by omega) (by omega) (by omega) (by omega)).mono ?_; rw [HS.out]; rintro e w' ⟨rfl, rfl⟩)
        | (at_builtin; refine OT.append_on (base := w.heap.size) (w := wr.alloc _) (OT.alloc HO.out _) (SR.lit wr [p] _ rfl 1 rfl (by simp)) (by simp) rfl _ _ rfl rfl rfl (by simp; omega) (by rw [blks_length]; simp; omega) ?_; intro v1 w1 h1 hg1))
      go_roundw
      case rel =>
        refine ⟨k + 1, by go_num, by omega, ?_, Lib.hid ((HB.out.alloc hbw _).grown hg1 (by simp; omega) (OT.base HO.out))⟩
        rw [HSN.out]
        exact h1
      case measure => simp [intOf]; omega
    · obtain rfl : k = bcnt b := by omega
      obtain ⟨g2, hr2⟩ := HO.out.reads
      have HR2 := Lib.hid hr2
      clear hr2 hlt hk
      go_wp2
      go_ret
      exact ⟨_, g2, rfl, HR2, HB⟩
end Go.Proofs.Ytmhjocbnoppbbaa.Sha
