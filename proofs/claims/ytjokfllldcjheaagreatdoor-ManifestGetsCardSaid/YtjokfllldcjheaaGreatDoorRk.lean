/- The reference of layer 1: ReadShort. · References 06: Count, Get; 01: Back. · Reference 06: Get. -/
import Derived.Test.YtjokfllldcjheaaGreatDoorPe
import Derived.BigQuiet
/- The reference of layer 1: ReadShort. -/
namespace Go.Proofs.YtjokfllldcjheaaGreatDoor.Oc
open Go.RowKit Go.Proofs.YtjokfllldcjheaaGreatDoor.Sha Go.Proofs.YtjokfllldcjheaaGreatDoor.Ro Go.Proofs.YtjokfllldcjheaaGreatDoor.Cs Go.Proofs.YtjokfllldcjheaaGreatDoor.Ed
set_option linter.unusedVariables false
set_option linter.unusedSimpArgs false
theorem cell1_result {w : World} {b : Nat} {t : TypeId} {cs : Array Value} {fs : Array Field} (h : w.heap[b]? = some (.cells cs t (0, 0))) {fn : Func} {p : Tmp} {ty : TypeId} (hr : fn.results = #[.cell p ty]) (tmps : Array Value) (hp : tmps.getD p undef = .pointer (some ⟨b, 0, none⟩))
    (hu : Tryz.prog.underlying ty = some (.struct fs)) (hi : (Tryz.prog.info? ty).map (·.size) = some cs.size) : (results fn tmps).run Tryz.prog w = .ok (.agg cs) w := by
  have hp' : tmps[p]?.getD undef = .pointer (some ⟨b, 0, none⟩) := by simpa using hp
  simp [results, hr, hp', asAddr, run_loadVar_row w b t ty _ (0, 0) _ h hu rfl hi]
/-- what j bytes tell -/
def valB (bs : List UInt8) (a : Nat) : Nat → Nat
  | 0 => 0
  | j + 1 => valB bs a j + (bs.getD (a + j) 0).toNat % 128 * 128 ^ j
/-- what was read of j bytes that go on -/
def InvR (bs : List UInt8) (a j : Nat) : Prop := (j ≤ 7 → rd (bs.drop (a + j)) j (valB bs a j) = rd (bs.drop a) 0 0) ∧ (j = 8 → rd (bs.drop a) 0 0 = .error 4)
theorem drop_at {bs : List UInt8} {k : Nat} (h : k < bs.length) : bs.drop k = bs.getD k 0 :: bs.drop (k + 1) := by
  rw [List.drop_eq_getElem_cons h, List.getD_eq_getElem?_getD, List.getElem?_eq_getElem h]; rfl
theorem InvR.step {bs : List UInt8} {a j : Nat} (h : InvR bs a j) (hj : j < 8) (hl : a + j < bs.length) (hc : 128 ≤ (bs.getD (a + j) 0).toNat) : InvR bs a (j + 1) := by
  have h1 := h.1 (by omega)
  rw [drop_at hl] at h1
  refine ⟨fun h7 => ?_, fun h8 => ?_⟩
  · rw [rd_go hc (by omega)] at h1
    exact h1
  · obtain rfl : j = 7 := by omega
    rw [rd_seven hc] at h1
    exact h1.symm
theorem InvR.over {bs : List UInt8} {a : Nat} (h : InvR bs a 8) : rdAt bs a = .error (4, a) := by
  unfold rdAt; rw [h.2 rfl]; rfl
theorem InvR.short {bs : List UInt8} {a j : Nat} (h : InvR bs a j) (hj : j < 8) (hl : bs.length = a + j) : rdAt bs a = .error (3, bs.length) := by
  have h1 := h.1 (by omega)
  rw [List.drop_eq_nil_of_le (by omega), rd] at h1
  unfold rdAt; rw [← h1]; rfl
theorem InvR.nought {bs : List UInt8} {a j : Nat} (h : InvR bs a j) (hj : j < 8) (hl : a + j < bs.length) (hc : (bs.getD (a + j) 0).toNat = 0) (h0 : 0 < j) : rdAt bs a = .error (4, a) := by
  have h1 := h.1 (by omega)
  rw [drop_at hl, rd_nought hc h0] at h1
  unfold rdAt; rw [← h1]; rfl
theorem InvR.last {bs : List UInt8} {a j : Nat} (h : InvR bs a j) (hj : j < 8) (hl : a + j < bs.length) (hc : (bs.getD (a + j) 0).toNat < 128) (h0 : ¬ ((bs.getD (a + j) 0).toNat = 0 ∧ 0 < j)) : rdAt bs a = .ok (valB bs a (j + 1), a + (j + 1)) := by
  have h1 := h.1 (by omega)
  rw [drop_at hl, rd_last hc h0] at h1
  unfold rdAt; rw [← h1]
  simp only [valB]
  rw [Nat.mod_eq_of_lt hc]
/-- what ReadShort answers -/
def rdG (a : Nat) : Except Bad (Nat × Nat) → Value
  | .ok r => .agg #[.int .i64 (r.1 : Int), .int .i64 (r.2 : Int), .int .i64 0, .int .i64 0]
  | .error b => .agg #[.int .i64 0, .int .i64 (a : Int), .int .i64 (b.1 : Int), .int .i64 (b.2 : Int)]
set_option maxHeartbeats 8000000 in
set_option maxRecDepth 100000 in
theorem readShort_calls (s : ByteArray) (a : Nat) (h : a ≤ s.size) (hs : s.size ≤ 140737488355328) (w : World) :
    Calls Tryz.prog 58 #[.string s, .int .i64 (a : Int)] w fun e w' => e = .returned (rdG a (rdAt s.data.toList a)) ∧ Hid (Below w.heap.size w w') := by
  obtain ⟨R, hR⟩ : ∃ R, rdAt s.data.toList a = R := ⟨_, rfl⟩
  rw [hR]
  have HR := Lib.hid hR
  have HLN : Hid (s.data.toList.length = s.size) := Lib.hid (list_sz s)
  have HI0 : Hid (InvR s.data.toList a 0) := Lib.hid ⟨fun _ => rfl, fun h => by omega⟩
  have HBA : ∀ o : Obj, Hid (Below w.heap.size w (w.alloc o)) := fun o => Lib.hid ((Below.refl _ _).alloc (Nat.le_refl _) _)
  obtain ⟨n, hn⟩ : ∃ n, s.size = n := ⟨_, rfl⟩
  rw [hn] at h hs HLN
  have HN := Lib.hid hn
  have g0 : ¬ (a : Int) < 0 := by omega
  have g1 : ¬ (a : Int) > (n : Int) := by omega
  clear hR
  go_enter Tryz.func58, Tryz.ntmps58
  go_upto_region 4 with (fail)
  go_loopw [5] (fun x wz => ∃ j : Nat, x = .int .i64 ((a : Int) + (j : Int)) ∧ a + j ≤ n ∧ j ≤ 8 ∧ Hid (InvR s.data.toList a j) ∧ wz = w.alloc (.cells #[.int .i64 0, .int .i64 0, .int .i64 0, .int .i64 0] 119)) (fun x _ => n - (intOf x).toNat)
  case atStart => exact ⟨0, by simp, by omega, by omega, HI0, rfl⟩
  case round =>
    clear HI0
    obtain ⟨j, rfl, hj, hj8, HI, hwz⟩ := hrel
    subst hwz
    by_cases hlt : a + j < n
    · have hidx : ∀ (k : IntKind) (w : World), (Instr.index 9 (.string s) (.int k ((a : Int) + (j : Int)))).run Tryz.prog w = .ok (.int .u8 ((byt s.data.toList (a + j) : Nat) : Int)) w := fun k w => by
        rw [show ((a : Int) + (j : Int)) = ((a + j : Nat) : Int) by omega]
        exact run_index_byte (P := Tryz.prog) 9 Tryz.underlying9 s (a + j) (by rw [HN.out]; exact hlt) k w
      have hcl : (s.data.toList.getD (a + j) 0).toNat < 256 := UInt8.toNat_lt _
      have hb : byt s.data.toList (a + j) = (s.data.toList.getD (a + j) 0).toNat := rfl
      rw [hb] at hidx
      obtain ⟨c, hc⟩ : ∃ c, (s.data.toList.getD (a + j) 0).toNat = c := ⟨_, rfl⟩
      rw [hc] at hidx hcl
      have HC := Lib.hid hc
      have i0 : (a : Int) + (j : Int) < (n : Int) := by omega
      clear hb hc
      by_cases hj7 : j < 8
      · have i8 : (j : Int) < 8 := by omega
        have i9 : (a : Int) + (j : Int) < (a : Int) + 8 := by omega
        have i10 : ¬ (a : Int) + (j : Int) = (a : Int) + 8 := by omega
        by_cases hc8 : 128 ≤ c
        · have b1 : (c : Int) ≥ 128 := by omega
          have HIN := Lib.hid (HI.out.step hj7 (by rw [HLN.out]; exact hlt) (by rw [HC.out]; exact hc8))
          go_wp2
          go_roundw
          case rel => exact ⟨j + 1, by go_num, by omega, by omega, HIN, trivial⟩
          case measure => simp [intOf]; omega
        · have b1 : ¬ (c : Int) ≥ 128 := by omega
          by_cases hc0 : c = 0 ∧ 0 < j
          · have HF : Hid (R = .error (4, a)) := Lib.hid (by rw [← HR.out]; exact HI.out.nought hj7 (by rw [HLN.out]; exact hlt) (by rw [HC.out]; exact hc0.1) hc0.2)
            have b3 : (c : Int) = 0 := by omega
            have b4 : (0 : Int) < (j : Int) := by omega
            have b5 : (a : Int) + (j : Int) > (a : Int) := by omega
            have b6 : ¬ (a : Int) + (j : Int) = (n : Int) := by omega
            clear hc0
            go_wp2
            exact bodyPost_ret (cell1_result (heap_alloc_new w _) rfl _ rfl Tryz.underlying119 (by kernel_rfl)) rfl ⟨by rw [HF.out]; rfl, HBA _⟩
          · have hrl := HI.out.last hj7 (by rw [HLN.out]; exact hlt) (by rw [HC.out]; omega) (by rw [HC.out]; exact hc0)
            rw [HR.out] at hrl
            have HRL := Lib.hid hrl
            have htb : valB s.data.toList a (j + 1) < 72057594037927936 := by
              have := (rdAt_len (HR.out.trans hrl)).2.2
              simpa using this
            obtain ⟨T, hT⟩ : ∃ T, valB s.data.toList a (j + 1) = T := ⟨_, rfl⟩
            rw [hT] at HRL htb
            have HT := Lib.hid hT
            have b6 : ¬ (a : Int) + (j : Int) = (n : Int) := by omega
            have hcj : ¬ (c : Int) = 0 ∨ ((c : Int) = 0 ∧ ¬ (0 : Int) < (j : Int)) := by omega
            clear hrl hT hc0
            have ec : ((a + (j + 1) : Nat) : Int) = (a : Int) + (j : Int) + 1 := by omega
            have HEC := Lib.hid ec
            clear ec
            rcases hcj with b3 | ⟨b3, b4⟩
            all_goals
              go_upto_region 14 with (fail)
              go_loopw [6, 7] (fun u x wz => ∃ q X : Nat, u = .int .i64 (X : Int) ∧ x = .int .i64 ((a : Int) + (q : Int) - 1) ∧ q ≤ j + 1 ∧ Hid (X * 128 ^ q + valB s.data.toList a q = T) ∧ wz = w.alloc (.cells #[.int .i64 0, .int .i64 0, .int .i64 0, .int .i64 0] 119)) (fun _ x _ => (intOf x - (a : Int) + 1).toNat)
              case atStart => exact ⟨j + 1, 0, rfl, by (congr 1; omega), Nat.le_refl _, Lib.hid (by rw [Nat.zero_mul, Nat.zero_add]; exact HT.out), rfl⟩
              case round =>
                obtain ⟨q, X, rfl, rfl, hq, HQ, hwz⟩ := hrel
                subst hwz
                by_cases hq0 : q = 0
                · subst hq0
                  have HX : Hid (X = T) := Lib.hid (by have := HQ.out; rw [Nat.pow_zero, Nat.mul_one, valB, Nat.add_zero] at this; exact this)
                  have z0 : ((0 : Nat) : Int) = 0 := rfl
                  have z1 : ¬ (a : Int) - 1 ≥ (a : Int) := by omega
                  have z2 : ¬ (a : Int) ≤ (a : Int) - 1 := by omega
                  have z3 : (a : Int) - 1 < (a : Int) := by omega
                  go_wp2
                  exact bodyPost_ret (cell1_result (heap_alloc_new w _) rfl _ rfl Tryz.underlying119 (by kernel_rfl)) rfl ⟨by rw [HRL.out]; simp only [rdG]; rw [HEC.out, HX.out], HBA _⟩
                · obtain ⟨p, rfl⟩ : ∃ p, q = p + 1 := ⟨q - 1, by omega⟩
                  have hpn : a + p < n := by omega
                  have hidp : ∀ (k : IntKind) (w : World), (Instr.index 9 (.string s) (.int k ((a : Int) + (p : Int)))).run Tryz.prog w = .ok (.int .u8 ((byt s.data.toList (a + p) : Nat) : Int)) w := fun k w => by
                    rw [show ((a : Int) + (p : Int)) = ((a + p : Nat) : Int) by omega]
                    exact run_index_byte (P := Tryz.prog) 9 Tryz.underlying9 s (a + p) (by rw [HN.out]; exact hpn) k w
                  have hbl : (s.data.toList.getD (a + p) 0).toNat < 256 := UInt8.toNat_lt _
                  have hbb : byt s.data.toList (a + p) = (s.data.toList.getD (a + p) 0).toNat := rfl
                  rw [hbb] at hidp
                  have hq2 := HQ.out
                  rw [valB] at hq2
                  obtain ⟨b, hbv⟩ : ∃ b, (s.data.toList.getD (a + p) 0).toNat = b := ⟨_, rfl⟩
                  rw [hbv] at hidp hbl hq2
                  obtain ⟨d, hd⟩ : ∃ d, b % 128 = d := ⟨_, rfl⟩
                  rw [hd] at hq2
                  have hx2 : (128 * X + d) * 128 ^ p + valB s.data.toList a p = T := by
                    rw [Nat.pow_succ] at hq2
                    rw [Nat.add_mul]
                    generalize 128 ^ p = P at *
                    have : 128 * X * P = X * (P * 128) := by rw [Nat.mul_comm 128 X, Nat.mul_assoc, Nat.mul_comm 128 P]
                    omega
                  have hxT : 128 * X + d ≤ T := by
                    have hpp : 0 < 128 ^ p := Nat.pos_of_ne_zero (by simp)
                    have := Nat.le_mul_of_pos_right (128 * X + d) hpp
                    omega
                  have HX2 := Lib.hid hx2
                  have e1 : (a : Int) + ((p + 1 : Nat) : Int) - 1 = (a : Int) + (p : Int) := by omega
                  have e2 : (b : Int) % 128 = (d : Int) := by omega
                  have e3 : (b : Int).tmod 128 = (d : Int) := by rw [Int.tmod_eq_emod_of_nonneg (by omega)]; exact e2
                  have z0 : (a : Int) + (p : Int) ≥ (a : Int) := by omega
                  have z1 : (a : Int) + (p : Int) < (n : Int) := by omega
                  rw [e1]
                  clear hq2 hx2 hbb hbv hd e1 hq0
                  go_wp2
                  go_roundw
                  case rel => exact ⟨p, 128 * X + d, by first | rfl | (congr 1; omega), by first | rfl | (congr 1; omega), by omega, HX2, trivial⟩
                  case measure => simp [intOf]; omega
      · obtain rfl : j = 8 := by omega
        have HF : Hid (R = .error (4, a)) := Lib.hid (by rw [← HR.out]; exact HI.out.over)
        have i9 : ¬ (a : Int) + 8 < (a : Int) + 8 := by omega
        have b2 : ((8 : Nat) : Int) = 8 := rfl
        by_cases hc8 : 128 ≤ c
        · have b1 : (c : Int) ≥ 128 := by omega
          go_wp2
          all_goals exact bodyPost_ret (cell1_result (heap_alloc_new w _) rfl _ rfl Tryz.underlying119 (by kernel_rfl)) rfl ⟨by rw [HF.out]; rfl, HBA _⟩
        · have b1 : ¬ (c : Int) ≥ 128 := by omega
          go_wp2
          all_goals exact bodyPost_ret (cell1_result (heap_alloc_new w _) rfl _ rfl Tryz.underlying119 (by kernel_rfl)) rfl ⟨by rw [HF.out]; rfl, HBA _⟩
    · have hje : a + j = n := by omega
      have i0 : ¬ (a : Int) + (j : Int) < (n : Int) := by omega
      have i1 : (a : Int) + (j : Int) = (n : Int) := by omega
      by_cases hj7 : j < 8
      · have HF : Hid (R = .error (3, n)) := Lib.hid (by rw [← HR.out, HI.out.short hj7 (by rw [HLN.out]; omega), HLN.out])
        have i10 : ¬ (j : Int) = 8 := by omega
        have i11 : ¬ (n : Int) = (a : Int) + 8 := by omega
        have i12 : ¬ (a : Int) + (j : Int) = (a : Int) + 8 := by omega
        go_wp2
        exact bodyPost_ret (cell1_result (heap_alloc_new w _) rfl _ rfl Tryz.underlying119 (by kernel_rfl)) rfl ⟨by rw [HF.out]; rfl, HBA _⟩
      · obtain rfl : j = 8 := by omega
        have HF : Hid (R = .error (4, a)) := Lib.hid (by rw [← HR.out]; exact HI.out.over)
        have b2 : ((8 : Nat) : Int) = 8 := rfl
        have i11 : (n : Int) = (a : Int) + 8 := by omega
        clear i1
        go_wp2
        exact bodyPost_ret (cell1_result (heap_alloc_new w _) rfl _ rfl Tryz.underlying119 (by kernel_rfl)) rfl ⟨by rw [HF.out]; rfl, HBA _⟩
end Go.Proofs.YtjokfllldcjheaaGreatDoor.Oc
/- References 06: Count, Get; 01: Back. -/
namespace Go.Proofs.YtjokfllldcjheaaGreatDoor.Oc
open Go.RowKit Go.Proofs.YtjokfllldcjheaaGreatDoor.Sha Go.Proofs.YtjokfllldcjheaaGreatDoor.Ro Go.Proofs.YtjokfllldcjheaaGreatDoor.Cs Go.Proofs.YtjokfllldcjheaaGreatDoor.Ed
set_option linter.unusedVariables false
set_option linter.unusedSimpArgs false
/-- a store of four cells into an older box -/
theorem box4 {W : World} {n : Nat} {a0 a1 a2 a3 : Value} {t : TypeId} (h : W.heap[n]? = some (.cells #[a0, a1, a2, a3] t (0, 0))) (b0 b1 b2 b3 : Value) :
    (W.cell? ⟨n, 0, none⟩ = some a0 ∧ W.frozen? ⟨n, 0, none⟩ = false) ∧ ((W.setCell ⟨n, 0, none⟩ b0).cell? ⟨n, 1, none⟩ = some a1 ∧ (W.setCell ⟨n, 0, none⟩ b0).frozen? ⟨n, 1, none⟩ = false) ∧
    (((W.setCell ⟨n, 0, none⟩ b0).setCell ⟨n, 1, none⟩ b1).cell? ⟨n, 2, none⟩ = some a2 ∧ ((W.setCell ⟨n, 0, none⟩ b0).setCell ⟨n, 1, none⟩ b1).frozen? ⟨n, 2, none⟩ = false) ∧
    ((((W.setCell ⟨n, 0, none⟩ b0).setCell ⟨n, 1, none⟩ b1).setCell ⟨n, 2, none⟩ b2).cell? ⟨n, 3, none⟩ = some a3 ∧ (((W.setCell ⟨n, 0, none⟩ b0).setCell ⟨n, 1, none⟩ b1).setCell ⟨n, 2, none⟩ b2).frozen? ⟨n, 3, none⟩ = false) ∧
    ((((W.setCell ⟨n, 0, none⟩ b0).setCell ⟨n, 1, none⟩ b1).setCell ⟨n, 2, none⟩ b2).setCell ⟨n, 3, none⟩ b3).heap[n]? = some (.cells #[b0, b1, b2, b3] t (0, 0)) := by
  have h1 := heap_setCell_same W n 0 _ t b0 h
  have h2 := heap_setCell_same _ n 1 _ t b1 h1
  have h3 := heap_setCell_same _ n 2 _ t b2 h2
  have h4 := heap_setCell_same _ n 3 _ t b3 h3
  exact ⟨⟨cell_of_row W n 0 _ _ _ h, frozen_of_row W n 0 _ _ h⟩, ⟨cell_of_row _ n 1 _ _ _ h1, frozen_of_row _ n 1 _ _ h1⟩, ⟨cell_of_row _ n 2 _ _ _ h2, frozen_of_row _ n 2 _ _ h2⟩, ⟨cell_of_row _ n 3 _ _ _ h3, frozen_of_row _ n 3 _ _ h3⟩, h4⟩
set_option maxHeartbeats 1000000 in
theorem rback_calls (x : Nat) (h1 : x < 72057594037927936) (w : World) :
    Calls Tryz.prog 94 #[.int .i64 (x : Int)] w fun e w' => e = .returned (.int .i64 (back x)) ∧ w = w' := by
  by_cases hx : x % 2 = 1
  · have e : back x = -(((x : Int) + 1) / 2) := by unfold back; rw [if_pos hx]; omega
    have b1 : (x : Int) % 2 = 1 := by omega
    have b2 : (x : Int).tmod 2 = 1 := by rw [Int.tmod_eq_emod_of_nonneg (by omega)]; exact b1
    rw [e]
    go_enter Tryz.func94, Tryz.ntmps94
    go_wp2
    go_ret
    exact ⟨rfl, rfl⟩
  · have e : back x = (x : Int) / 2 := by unfold back; rw [if_neg hx]; omega
    have b1 : ¬ (x : Int) % 2 = 1 := by omega
    have b2 : ¬ (x : Int).tmod 2 = 1 := by rw [Int.tmod_eq_emod_of_nonneg (by omega)]; exact b1
    have b3 : (x : Int) % 2 = 0 := by omega
    rw [e]
    go_enter Tryz.func94, Tryz.ntmps94
    go_wp2
    go_ret
    exact ⟨rfl, rfl⟩
theorem rd_bad : ∀ {bs : List UInt8} {i x k : Nat}, rd bs i x = .error k → k = 3 ∨ k = 4
  | [], i, x, k, h => by injection h with h; exact .inl h.symm
  | c :: bs, i, x, k, h => by
    rw [rd] at h
    split at h
    · split at h
      · injection h with h; exact .inr h.symm
      · exact rd_bad h
    · split at h
      · injection h with h; exact .inr h.symm
      · simp at h
theorem rdAt_bad {bs : List UInt8} {a : Nat} {b : Bad} (h : rdAt bs a = .error b) : b.1 = 3 ∨ b.1 = 4 := by
  unfold rdAt at h
  cases e : rd (bs.drop a) 0 0 with
  | ok r => rw [e] at h; simp at h
  | error k =>
    rw [e] at h
    injection h with h
    rw [← h]
    exact rd_bad e
/-- the four numbers of a Got -/
def gotA (a : Nat) : Except Bad (Nat × Nat) → Int × Int × Int × Int
  | .ok r => (r.1, r.2, 0, 0)
  | .error b => (0, a, b.1, b.2)
theorem rdG_gotA (a : Nat) (R : Except Bad (Nat × Nat)) : rdG a R = .agg #[.int .i64 (gotA a R).1, .int .i64 (gotA a R).2.1, .int .i64 (gotA a R).2.2.1, .int .i64 (gotA a R).2.2.2] := by cases R <;> rfl
set_option maxHeartbeats 4000000 in
set_option maxRecDepth 100000 in
theorem rcount_calls (s : ByteArray) (a N : Nat) (ha : a ≤ s.size) (hs : s.size ≤ 140737488355328) (hN : N ≤ 4096) (w : World) :
    Calls Tryz.prog 93 #[.string s, .int .i64 (a : Int), .int .i64 (N : Int)] w fun e w' => e = .returned (rdG a (rdCnt s.data.toList N a)) ∧ Hid (Below w.heap.size w w') := by
  have HS := Lib.hid (fun W => readShort_calls s a ha hs W)
  have HB0 : Hid (Below w.heap.size w (w.alloc (.cells #[.int .i64 0, .int .i64 0, .int .i64 0, .int .i64 0] 119))) := Lib.hid ((Below.refl _ _).alloc (Nat.le_refl _) _)
  have HR0 : Hid ((w.alloc (.cells #[.int .i64 0, .int .i64 0, .int .i64 0, .int .i64 0] 119)).heap[w.heap.size]? = some (.cells #[.int .i64 0, .int .i64 0, .int .i64 0, .int .i64 0] 119 (0, 0))) := Lib.hid (heap_alloc_new w _)
  unfold rdCnt
  cases hR : rdAt s.data.toList a with
  | error b =>
    have hk : (b.1 : Int) ≠ 0 := by
      have := rdAt_bad hR
      omega
    have HS' : Hid (∀ W, Calls Tryz.prog 58 #[.string s, .int .i64 (a : Int)] W fun e w' => e = .returned (.agg #[.int .i64 0, .int .i64 (a : Int), .int .i64 (b.1 : Int), .int .i64 (b.2 : Int)]) ∧ Hid (Below W.heap.size W w')) := Lib.hid (fun W => by have := HS.out W; rw [hR] at this; exact this)
    clear HS hR
    obtain ⟨b1, b2⟩ := b
    simp only at hk HS' ⊢
    have hk2 : ¬ (b1 : Int) = 0 := hk
    clear hk
    go_enter Tryz.func93, Tryz.ntmps93
    go_upto_region 2 with (go_at_call 58; refine (HS'.out _).mono ?_; rintro e w1 ⟨rfl, HB1⟩)
    obtain ⟨hBW, hrW⟩ := box_later HB0.out HR0.out (HB1.out.alloc HB1.out.size (.cells #[.int .i64 0, .int .i64 (a : Int), .int .i64 (b1 : Int), .int .i64 (b2 : Int)] 119))
    have hx := heap_alloc_new w1 (.cells #[.int .i64 0, .int .i64 (a : Int), .int .i64 (b1 : Int), .int .i64 (b2 : Int)] 119)
    generalize w1.alloc (.cells #[.int .i64 0, .int .i64 (a : Int), .int .i64 (b1 : Int), .int .i64 (b2 : Int)] 119) = W at *
    generalize w1.heap.size = xb at *
    have HBW := Lib.hid hBW
    obtain ⟨⟨f0, f1⟩, ⟨f2, f3⟩, ⟨f4, f5⟩, ⟨f6, f7⟩, f8⟩ := box4 hrW (.int .i64 0) (.int .i64 (a : Int)) (.int .i64 (b1 : Int)) (.int .i64 (b2 : Int))
    have HF8 := Lib.hid f8
    have d0 : W.cell? ⟨xb, 0, none⟩ = some (.int .i64 0) := cell_of_row W xb 0 _ _ _ hx
    have d1 : W.cell? ⟨xb, 1, none⟩ = some (.int .i64 (a : Int)) := cell_of_row W xb 1 _ _ _ hx
    have d2 : W.cell? ⟨xb, 2, none⟩ = some (.int .i64 (b1 : Int)) := cell_of_row W xb 2 _ _ _ hx
    have d3 : W.cell? ⟨xb, 3, none⟩ = some (.int .i64 (b2 : Int)) := cell_of_row W xb 3 _ _ _ hx
    clear hBW hrW hx f8
    go_wp2
    exact bodyPost_ret (cell1_result HF8.out rfl _ rfl Tryz.underlying119 (by kernel_rfl)) rfl ⟨rfl, Lib.hid ((((HBW.out.setCell (Nat.le_refl _) _).setCell (Nat.le_refl _) _).setCell (Nat.le_refl _) _).setCell (Nat.le_refl _) _)⟩
  | ok r =>
    obtain ⟨x, nx⟩ := r
    have HS' : Hid (∀ W, Calls Tryz.prog 58 #[.string s, .int .i64 (a : Int)] W fun e w' => e = .returned (.agg #[.int .i64 (x : Int), .int .i64 (nx : Int), .int .i64 0, .int .i64 0]) ∧ Hid (Below W.heap.size W w')) := Lib.hid (fun W => by have := HS.out W; rw [hR] at this; exact this)
    clear HS hR
    simp only
    by_cases hx : x > N
    · rw [if_pos hx]
      have b1 : (x : Int) > (N : Int) := by omega
      go_enter Tryz.func93, Tryz.ntmps93
      go_upto_region 2 with (go_at_call 58; refine (HS'.out _).mono ?_; rintro e w1 ⟨rfl, HB1⟩)
      obtain ⟨hBW, hrW⟩ := box_later HB0.out HR0.out (HB1.out.alloc HB1.out.size (.cells #[.int .i64 (x : Int), .int .i64 (nx : Int), .int .i64 0, .int .i64 0] 119))
      have hxx := heap_alloc_new w1 (.cells #[.int .i64 (x : Int), .int .i64 (nx : Int), .int .i64 0, .int .i64 0] 119)
      generalize w1.alloc (.cells #[.int .i64 (x : Int), .int .i64 (nx : Int), .int .i64 0, .int .i64 0] 119) = W at *
      generalize w1.heap.size = xb at *
      have HBW := Lib.hid hBW
      obtain ⟨⟨f0, f1⟩, ⟨f2, f3⟩, ⟨f4, f5⟩, ⟨f6, f7⟩, f8⟩ := box4 hrW (.int .i64 0) (.int .i64 (a : Int)) (.int .i64 4) (.int .i64 (a : Int))
      have HF8 := Lib.hid f8
      have d0 : W.cell? ⟨xb, 0, none⟩ = some (.int .i64 (x : Int)) := cell_of_row W xb 0 _ _ _ hxx
      have d2 : W.cell? ⟨xb, 2, none⟩ = some (.int .i64 0) := cell_of_row W xb 2 _ _ _ hxx
      clear hBW hrW hxx f8
      go_wp2
      exact bodyPost_ret (cell1_result HF8.out rfl _ rfl Tryz.underlying119 (by kernel_rfl)) rfl ⟨rfl, Lib.hid ((((HBW.out.setCell (Nat.le_refl _) _).setCell (Nat.le_refl _) _).setCell (Nat.le_refl _) _).setCell (Nat.le_refl _) _)⟩
    · rw [if_neg hx]
      have b1 : ¬ (x : Int) > (N : Int) := by omega
      go_enter Tryz.func93, Tryz.ntmps93
      go_upto_region 2 with (go_at_call 58; refine (HS'.out _).mono ?_; rintro e w1 ⟨rfl, HB1⟩)
      obtain ⟨hBW, hrW⟩ := box_later HB0.out HR0.out (HB1.out.alloc HB1.out.size (.cells #[.int .i64 (x : Int), .int .i64 (nx : Int), .int .i64 0, .int .i64 0] 119))
      have hxx := heap_alloc_new w1 (.cells #[.int .i64 (x : Int), .int .i64 (nx : Int), .int .i64 0, .int .i64 0] 119)
      generalize w1.alloc (.cells #[.int .i64 (x : Int), .int .i64 (nx : Int), .int .i64 0, .int .i64 0] 119) = W at *
      generalize w1.heap.size = xb at *
      have HBW := Lib.hid hBW
      obtain ⟨⟨f0, f1⟩, ⟨f2, f3⟩, ⟨f4, f5⟩, ⟨f6, f7⟩, f8⟩ := box4 hrW (.int .i64 (x : Int)) (.int .i64 (nx : Int)) (.int .i64 0) (.int .i64 0)
      have HF8 := Lib.hid f8
      have d0 : W.cell? ⟨xb, 0, none⟩ = some (.int .i64 (x : Int)) := cell_of_row W xb 0 _ _ _ hxx
      have d1 : W.cell? ⟨xb, 1, none⟩ = some (.int .i64 (nx : Int)) := cell_of_row W xb 1 _ _ _ hxx
      have d2 : W.cell? ⟨xb, 2, none⟩ = some (.int .i64 0) := cell_of_row W xb 2 _ _ _ hxx
      have d3 : W.cell? ⟨xb, 3, none⟩ = some (.int .i64 0) := cell_of_row W xb 3 _ _ _ hxx
      clear hBW hrW hxx f8
      go_wp2
      exact bodyPost_ret (cell1_result HF8.out rfl _ rfl Tryz.underlying119 (by kernel_rfl)) rfl ⟨rfl, Lib.hid ((((HBW.out.setCell (Nat.le_refl _) _).setCell (Nat.le_refl _) _).setCell (Nat.le_refl _) _).setCell (Nat.le_refl _) _)⟩
end Go.Proofs.YtjokfllldcjheaaGreatDoor.Oc
/- Reference 06: Get. -/
namespace Go.Proofs.YtjokfllldcjheaaGreatDoor.Oc
open Go.RowKit Go.Proofs.YtjokfllldcjheaaGreatDoor.Sha Go.Proofs.YtjokfllldcjheaaGreatDoor.Ro Go.Proofs.YtjokfllldcjheaaGreatDoor.Cs Go.Proofs.YtjokfllldcjheaaGreatDoor.Ed
set_option linter.unusedVariables false
set_option linter.unusedSimpArgs false
/-- what the reference's Get answers -/
def RG6 (R : Except Bad (List Int × Nat)) (a : Nat) (w w' : World) (e : Ending) : Prop := match R with
  | .error b => e = .returned (.agg #[.slice none 0 0, .int .i64 (a : Int), .int .i64 (b.1 : Int), .int .i64 (b.2 : Int)])
  | .ok q => ∃ u, e = .returned (.agg #[u, .int .i64 (q.2 : Int), .int .i64 0, .int .i64 0]) ∧ OJ w' w.heap.size u q.1
abbrev gotO (x nx k p : Int) : Obj := .cells #[.int .i64 x, .int .i64 nx, .int .i64 k, .int .i64 p] 119
abbrev rowO : Obj := .cells #[.slice none 0 0, .int .i64 0, .int .i64 0, .int .i64 0] 122
theorem got_cells {W : World} {n : Nat} {x nx k p : Int} (h : W.heap[n]? = some (gotO x nx k p)) : W.cell? ⟨n, 0, none⟩ = some (.int .i64 x) ∧ W.cell? ⟨n, 1, none⟩ = some (.int .i64 nx) ∧ W.cell? ⟨n, 2, none⟩ = some (.int .i64 k) ∧ W.cell? ⟨n, 3, none⟩ = some (.int .i64 p) :=
  ⟨cell_of_row W n 0 _ _ _ h, cell_of_row W n 1 _ _ _ h, cell_of_row W n 2 _ _ _ h, cell_of_row W n 3 _ _ _ h⟩
theorem set4_below {B : Nat} {w W : World} {n : Nat} (h : Below B w W) (hn : B ≤ n) (b0 b1 b2 b3 : Value) : Below B w ((((W.setCell ⟨n, 0, none⟩ b0).setCell ⟨n, 1, none⟩ b1).setCell ⟨n, 2, none⟩ b2).setCell ⟨n, 3, none⟩ b3) :=
  (((h.setCell hn _).setCell hn _).setCell hn _).setCell hn _
theorem set4_grown (W : World) (n : Nat) (b0 b1 b2 b3 : Value) : W.grownBy ((((W.setCell ⟨n, 0, none⟩ b0).setCell ⟨n, 1, none⟩ b1).setCell ⟨n, 2, none⟩ b2).setCell ⟨n, 3, none⟩ b3) (some n) := by
  have h := set4_below (B := 0) (Below.refl 0 W) (Nat.zero_le n) b0 b1 b2 b3
  refine ⟨h.os, h.tape, h.output, h.size, fun k hk hne => ?_⟩
  have hn : k ≠ n := fun e => hne (by rw [e])
  rw [Below.heap_setCell _ _ _ _ hn, Below.heap_setCell _ _ _ _ hn, Below.heap_setCell _ _ _ _ hn, Below.heap_setCell _ _ _ _ hn]
set_option maxHeartbeats 8000000 in
set_option maxRecDepth 100000 in
theorem rgget_calls (s : ByteArray) (a N : Nat) (v : Int) (ha : a ≤ s.size) (hs : s.size ≤ 140737488355328) (hN : N ≤ 4096) (hv : 0 ≤ v ∧ v < (N : Int)) (w : World) :
    Calls Tryz.prog 59 #[.string s, .int .i64 (a : Int), .int .i64 (N : Int), .int .i64 v] w fun e w' => Hid (RG6 (rdRow s.data.toList N a v) a w w' e) ∧ Hid (Below w.heap.size w w') := by
  obtain ⟨R, hR⟩ : ∃ R, rdRow s.data.toList N a v = R := ⟨_, rfl⟩
  rw [hR]
  have hcnt := rdRow_cnt s.data.toList N a v
  rw [hR] at hcnt
  have HCC := Lib.hid (fun W => rcount_calls s a N ha hs hN W)
  have HB0 : Hid (Below w.heap.size w (w.alloc rowO)) := Lib.hid ((Below.refl _ _).alloc (Nat.le_refl _) _)
  have HR0 : Hid ((w.alloc rowO).heap[w.heap.size]? = some rowO) := Lib.hid (heap_alloc_new w _)
  cases hC : rdCnt s.data.toList N a with
  | error b =>
    rw [hC] at hcnt
    simp only at hcnt
    have hk : ¬ ((b.1 : Nat) : Int) = 0 := by
      unfold rdCnt at hC
      cases e : rdAt s.data.toList a with
      | error bd => rw [e] at hC; injection hC with hC; rw [← hC]; have := rdAt_bad e; omega
      | ok r =>
        rw [e] at hC
        simp only at hC
        split at hC
        · injection hC with hC; rw [← hC]; show ¬ ((4 : Nat) : Int) = 0; omega
        · simp at hC
    have HC' : Hid (∀ W, Calls Tryz.prog 93 #[.string s, .int .i64 (a : Int), .int .i64 (N : Int)] W fun e w' => e = .returned (.agg #[.int .i64 0, .int .i64 (a : Int), .int .i64 (b.1 : Int), .int .i64 (b.2 : Int)]) ∧ Hid (Below W.heap.size W w')) := Lib.hid (fun W => by have := HCC.out W; rw [hC] at this; exact this)
    have HRE := Lib.hid hcnt
    clear HCC hC hR hcnt
    obtain ⟨b1, b2⟩ := b
    simp only at hk HC'
    go_enter Tryz.func59, Tryz.ntmps59
    go_upto_region 2 with (go_at_call 93; refine (HC'.out _).mono ?_; rintro e w1 ⟨rfl, HB1⟩)
    obtain ⟨hBW, hrW⟩ := box_later HB0.out HR0.out (HB1.out.alloc HB1.out.size (gotO 0 (a : Int) (b1 : Int) (b2 : Int)))
    have hx := heap_alloc_new w1 (gotO 0 (a : Int) (b1 : Int) (b2 : Int))
    generalize w1.alloc (gotO 0 (a : Int) (b1 : Int) (b2 : Int)) = W at *
    generalize w1.heap.size = xb at *
    have HBW := Lib.hid hBW
    obtain ⟨⟨f0, f1⟩, ⟨f2, f3⟩, ⟨f4, f5⟩, ⟨f6, f7⟩, f8⟩ := box4 hrW (.slice none 0 0) (.int .i64 (a : Int)) (.int .i64 (b1 : Int)) (.int .i64 (b2 : Int))
    have HF8 := Lib.hid f8
    obtain ⟨d0, d1, d2, d3⟩ := got_cells hx
    clear hBW hrW hx f8
    go_wp2
    exact bodyPost_ret (cell1_result HF8.out rfl _ rfl Tryz.underlying122 (by kernel_rfl)) rfl ⟨Lib.hid (by rw [HRE.out]; rfl), Lib.hid (set4_below HBW.out (Nat.le_refl _) _ _ _ _)⟩
  | ok r =>
    obtain ⟨n, nx⟩ := r
    rw [hC] at hcnt
    simp only at hcnt
    have hl := rdCnt_len hC
    simp only [list_sz] at hl
    obtain ⟨hl0, hl1, hl2⟩ := hl
    have HLE : Hid (Lead R [] (rdSteps s.data.toList N (n - 0) (decide (0 = 0)) v nx)) := Lib.hid (by
      rw [Nat.sub_zero]; unfold Lead
      show match rdSteps s.data.toList N n true v nx with | .error b => R = .error b | .ok q => R = .ok ([] ++ q.1, q.2)
      cases e : rdSteps s.data.toList N n true v nx with
      | error b => rw [e] at hcnt; exact hcnt
      | ok q => rw [e] at hcnt; simpa using hcnt)
    have HC' : Hid (∀ W, Calls Tryz.prog 93 #[.string s, .int .i64 (a : Int), .int .i64 (N : Int)] W fun e w' => e = .returned (.agg #[.int .i64 (n : Int), .int .i64 (nx : Int), .int .i64 0, .int .i64 0]) ∧ Hid (Below W.heap.size W w')) := Lib.hid (fun W => by have := HCC.out W; rw [hC] at this; exact this)
    have HV := Lib.hid hv
    clear HCC hC hR hcnt ha hl0
    go_enter Tryz.func59, Tryz.ntmps59
    go_upto_region 2 with (go_at_call 93; refine (HC'.out _).mono ?_; rintro e w1 ⟨rfl, HB1⟩)
    obtain ⟨hBW, hrW⟩ := box_later HB0.out HR0.out (HB1.out.alloc HB1.out.size (gotO (n : Int) (nx : Int) 0 0))
    have hx := heap_alloc_new w1 (gotO (n : Int) (nx : Int) 0 0)
    generalize w1.alloc (gotO (n : Int) (nx : Int) 0 0) = W at *
    generalize w1.heap.size = xb at *
    have HBW := Lib.hid hBW
    have HRW := Lib.hid hrW
    have HXW := Lib.hid hx
    obtain ⟨d0, d1, d2, d3⟩ := got_cells hx
    clear hBW hrW hx HB0 HR0 hv
    have HO0 : Hid (OJ (W.alloc (.cells #[] 3)) W.heap.size (.slice (some ⟨W.heap.size, 0, none⟩) 0 0) []) := Lib.hid (OJ.fresh W _ (Nat.le_refl _))
    have HBA : Hid (Below W.heap.size W (W.alloc (.cells #[] 3))) := Lib.hid ((Below.refl _ _).alloc (Nat.le_refl _) _)
    go_upto_region 5 with (fail)
    have y1 : (W.alloc (.cells #[] 3)).cell? ⟨xb, 1, none⟩ = some (.int .i64 (nx : Int)) := (HBA.out.cell (p := ⟨xb, 1, none⟩) (World.block_lt_of_cell? _ _ d1)).trans d1
    go_quiet (fail)
    have HOQ : Hid (OJ ((W.alloc (.cells #[] 3)).drewN nq) W.heap.size (.slice (some ⟨W.heap.size, 0, none⟩) 0 0) []) := HO0
    have HBQ : Hid (Below W.heap.size W ((W.alloc (.cells #[] 3)).drewN nq)) := Lib.hid (HBA.out.trans (Ed.drewN_below _ _ _))
    generalize (W.alloc (.cells #[] 3)).drewN nq = W1 at *
    clear y1 d0 d1 d2 d3 HO0 HBA
    have HXF : Hid (∀ X, Below W.heap.size W X → X.cell? ⟨xb, 0, none⟩ = some (.int .i64 (n : Int))) := Lib.hid (fun X h => cell_of_row X xb 0 _ _ _ ((h.block xb (Array.getElem?_eq_some_iff.1 HXW.out).1).trans HXW.out))
    have HRF : Hid (∀ X, Below W.heap.size W X → X.heap[w.heap.size]? = some rowO) := Lib.hid (fun X h => (h.block _ (Array.getElem?_eq_some_iff.1 HRW.out).1).trans HRW.out)
    have HBF : Hid (∀ X, Below W.heap.size W X → Below w.heap.size w X) := Lib.hid (fun X h => HBW.out.trans (h.mono HBW.out.size))
    go_upto_region 7 with (fail)
    go_loopw [10, 11, 12, 13] (fun u p q x wz => ∃ (i : Nat) (L : List Int) (now : Int) (at_ : Nat), p = .int .i64 now ∧ q = .int .i64 (at_ : Int) ∧ x = .int .i64 (i : Int) ∧ i ≤ n ∧ Hid (L.length = i ∧ 0 ≤ now ∧ now < (N : Int) ∧ at_ ≤ s.size) ∧ Hid (Lead R L (rdSteps s.data.toList N (n - i) (decide (i = 0)) now at_)) ∧ Hid (OJ wz W.heap.size u L) ∧ Hid (Below W.heap.size W wz)) (fun _ _ _ x _ => n - (intOf x).toNat)
    case atStart => exact ⟨0, [], v, nx, rfl, rfl, rfl, Nat.zero_le _, Lib.hid ⟨rfl, HV.out.1, HV.out.2, hl1⟩, HLE, HOQ, HBQ⟩
    case round =>
      clear HLE HOQ HBQ HC'
      obtain ⟨i, L, now, at_, rfl, rfl, rfl, hi, HI, HLE, HO, HB⟩ := hrel
      generalize wr = wi at *
      obtain ⟨hLi, hn0, hn1, hat⟩ := HI.out
      obtain ⟨uA, uc, hu, -⟩ := id HO.out.shape
      rw [hLi] at hu
      subst hu
      have c0 := HXF.out _ HB.out
      have HBS := Lib.hid HB.out.size
      by_cases hlt : i < n
      · have i1 : (i : Int) < (n : Int) := by omega
        have hk : n - i = (n - (i + 1)) + 1 := by omega
        rw [hk] at HLE
        have HRS := Lib.hid (readShort_calls s at_ hat hs wi)
        cases hA : rdAt s.data.toList at_ with
        | error bd =>
          have HRB := Lib.hid (HLE.out.bad hA)
          have hkb : ¬ ((bd.1 : Nat) : Int) = 0 := by have := rdAt_bad hA; omega
          have HS' : Hid (Calls Tryz.prog 58 #[.string s, .int .i64 (at_ : Int)] wi fun e w' => e = .returned (.agg #[.int .i64 0, .int .i64 (at_ : Int), .int .i64 (bd.1 : Int), .int .i64 (bd.2 : Int)]) ∧ Hid (Below wi.heap.size wi w')) := Lib.hid (by have := HRS.out; rw [hA] at this; exact this)
          clear HRS HLE hA hk
          obtain ⟨k1, k2⟩ := bd
          simp only at hkb HS'
          go_upto_region 10 with (go_at_call 58; refine HS'.out.mono ?_; rintro e w3 ⟨rfl, HB3⟩)
          have hb3 : Below W.heap.size W (w3.alloc (gotO 0 (at_ : Int) (k1 : Int) (k2 : Int))) := (HB.out.trans (HB3.out.mono HBS.out)).alloc (Nat.le_trans HBS.out HB3.out.size) _
          have hx3 := heap_alloc_new w3 (gotO 0 (at_ : Int) (k1 : Int) (k2 : Int))
          generalize w3.alloc (gotO 0 (at_ : Int) (k1 : Int) (k2 : Int)) = W3 at *
          generalize w3.heap.size = yb at *
          have HB4 := Lib.hid hb3
          obtain ⟨⟨f0, f1⟩, ⟨f2, f3⟩, ⟨f4, f5⟩, ⟨f6, f7⟩, f8⟩ := box4 (HRF.out _ hb3) (.slice none 0 0) (.int .i64 (a : Int)) (.int .i64 (k1 : Int)) (.int .i64 (k2 : Int))
          have HF8 := Lib.hid f8
          obtain ⟨d0, d1, d2, d3⟩ := got_cells hx3
          clear hb3 hx3 f8
          go_wp2
          exact bodyPost_ret (cell1_result HF8.out rfl _ rfl Tryz.underlying122 (by kernel_rfl)) rfl ⟨Lib.hid (by rw [HRB.out]; rfl), Lib.hid (set4_below (HBF.out _ HB4.out) (Nat.le_refl _) _ _ _ _)⟩
        | ok r2 =>
          obtain ⟨x, nx2⟩ := r2
          have hq := rdAt_len hA
          rw [list_sz] at hq
          simp only at hq
          obtain ⟨-, hq1, hq2⟩ := hq
          have hx5 : x < 72057594037927936 := by simpa using hq2
          have HS' : Hid (Calls Tryz.prog 58 #[.string s, .int .i64 (at_ : Int)] wi fun e w' => e = .returned (.agg #[.int .i64 (x : Int), .int .i64 (nx2 : Int), .int .i64 0, .int .i64 0]) ∧ Hid (Below wi.heap.size wi w')) := Lib.hid (by have := HRS.out; rw [hA] at this; exact this)
          have HBK := Lib.hid (fun X => rback_calls x hx5 X)
          obtain ⟨y, hy⟩ : ∃ y, stepY (decide (i = 0)) x = y := ⟨_, rfl⟩
          have hyb : -72057594037927936 < y ∧ y < 72057594037927937 := by
            rw [← hy]; unfold stepY back
            split
            · split <;> omega
            · omega
          have HYI : Hid (i = 0 → back x = y) := Lib.hid (fun h => by rw [← hy]; unfold stepY; rw [decide_eq_true h, if_pos rfl])
          have HYN : Hid (¬ i = 0 → (x : Int) + 1 = y) := Lib.hid (fun h => by rw [← hy]; unfold stepY; rw [decide_eq_false h]; rfl)
          have HFA : Hid ((y < -now ∨ y ≥ (N : Int) - now) → R = .error (4, at_)) := Lib.hid (fun h => HLE.out.far hA (by rw [hy]; exact h))
          have HNE : Hid (¬ (y < -now ∨ y ≥ (N : Int) - now) → Lead R (L ++ [now + y]) (rdSteps s.data.toList N (n - (i + 1)) false (now + y) nx2)) := Lib.hid (fun h => by have := HLE.out.next hA (by rw [hy]; exact h); rw [hy] at this; exact this)
          have HLL : Hid (L.length ≤ 4096) := Lib.hid (by omega)
          clear HRS HLE hA hk hq2 hy
          go_upto_region 10 with (go_at_call 58; refine HS'.out.mono ?_; rintro e w3 ⟨rfl, HB3⟩)
          have hb3 : Below W.heap.size W (w3.alloc (gotO (x : Int) (nx2 : Int) 0 0)) := (HB.out.trans (HB3.out.mono HBS.out)).alloc (Nat.le_trans HBS.out HB3.out.size) _
          have hx3 := heap_alloc_new w3 (gotO (x : Int) (nx2 : Int) 0 0)
          have ho3 : OJ (w3.alloc (gotO (x : Int) (nx2 : Int) 0 0)) W.heap.size (.slice uA i uc) L := (HO.out.later HB3.out).alloc _
          have hne : ∀ k, (Value.slice uA i uc).ownBlock = some k → k ≠ w3.heap.size := fun k hk e => by
            have := OJ.lt HO.out k hk
            have := HB3.out.size
            omega
          generalize w3.alloc (gotO (x : Int) (nx2 : Int) 0 0) = W3 at *
          generalize w3.heap.size = yb at *
          have HB4 := Lib.hid hb3
          have HO4 := Lib.hid ho3
          have HNE2 := Lib.hid hne
          have HWS := Lib.hid hb3.size
          obtain ⟨d0, d1, d2, d3⟩ := got_cells hx3
          have hrr := HRF.out _ hb3
          clear hb3 hx3 ho3 hne hLi HB3
          obtain ⟨ny, hny⟩ : ∃ ny, now + y = ny := ⟨_, rfl⟩
          have n1 : -80000000000000000 < ny := by omega
          have n2 : ny < 80000000000000000 := by omega
          by_cases hfar : y < -now ∨ y ≥ (N : Int) - now
          · have HRB := Lib.hid (HFA.out hfar)
            obtain ⟨⟨f0, f1⟩, ⟨f2, f3⟩, ⟨f4, f5⟩, ⟨f6, f7⟩, f8⟩ := box4 hrr (.slice none 0 0) (.int .i64 (a : Int)) (.int .i64 4) (.int .i64 (at_ : Int))
            have HF8 := Lib.hid f8
            have hs2 : ny < 0 ∨ (¬ ny < 0 ∧ ny ≥ (N : Int)) := by omega
            clear f8 hrr hfar
            by_cases hi0 : i = 0
            · have hyx := HYI.out hi0
              rw [hyx] at HBK
              subst hi0
              have z0 : ((0 : Nat) : Int) = 0 := rfl
              rcases hs2 with s1 | ⟨s1, s2⟩
              all_goals
                clear HYI HYN HFA HNE hyx
                go_wp2_with (go_at_call 94; refine (HBK.out _).mono ?_; rintro e w4 ⟨rfl, rfl⟩)
                exact bodyPost_ret (cell1_result HF8.out rfl _ rfl Tryz.underlying122 (by kernel_rfl)) rfl ⟨Lib.hid (by rw [HRB.out]; rfl), Lib.hid (set4_below (HBF.out _ HB4.out) (Nat.le_refl _) _ _ _ _)⟩
            · have e14 : now + (x : Int) + 1 = ny := by have := HYN.out hi0; omega
              have hi1 : ¬ (i : Int) = 0 := by omega
              rcases hs2 with s1 | ⟨s1, s2⟩
              · exfalso; omega
              · clear HYI HYN HFA HNE HBK hny
                go_wp2
                exact bodyPost_ret (cell1_result HF8.out rfl _ rfl Tryz.underlying122 (by kernel_rfl)) rfl ⟨Lib.hid (by rw [HRB.out]; rfl), Lib.hid (set4_below (HBF.out _ HB4.out) (Nat.le_refl _) _ _ _ _)⟩
          · have HLD : Hid (Lead R (L ++ [ny]) (rdSteps s.data.toList N (n - (i + 1)) (decide (i + 1 = 0)) ny nx2)) := Lib.hid (by
              rw [decide_eq_false (by omega), ← hny]; exact HNE.out hfar)
            have s1 : ¬ ny < 0 := by omega
            have s2 : ¬ ny ≥ (N : Int) := by omega
            have HL1 : Hid ((L ++ [ny]).length = i + 1 ∧ 0 ≤ ny ∧ ny < (N : Int) ∧ nx2 ≤ s.size) := Lib.hid ⟨by rw [List.length_append, HI.out.1]; rfl, by omega, by omega, hq1⟩
            have HGR : Hid (∀ o w5, (W3.alloc o).grownBy w5 (Value.slice uA i uc).ownBlock → Below W.heap.size W w5) := Lib.hid (fun o w5 h => (HB4.out.alloc HWS.out o).grown h (by have := HWS.out; simp; omega) (OJ.base HO4.out))
            clear hfar hrr
            by_cases hi0 : i = 0
            · have hyx := HYI.out hi0
              rw [hyx] at HBK
              subst hi0
              have z0 : ((0 : Nat) : Int) = 0 := rfl
              clear HYI HYN HFA HNE hyx
              go_wp2_with (first
                | (go_at_call 94; refine (HBK.out _).mono ?_; rintro e w4 ⟨rfl, rfl⟩)
                | (at_builtin; refine OJ.app_on (base := W.heap.size) (HO4.out.alloc _) (JR.lit _ [ny] _ rfl 1 rfl (by simp)) rfl _ _ rfl rfl rfl (by have := HWS.out; simp; omega) (by have := HLL.out; simp only [List.length_cons, List.length_nil]; omega) ?_; intro v5 w5 q1 q2 q3; have e5 := q2.cell (Go.Lib.cell?_alloc_some _ d1) (fun e => HNE2.out yb e.symm rfl); have Q1 := Lib.hid q1; have Q2 := Lib.hid q2; clear q1 q2 q3))
              go_roundw
              case rel => exact ⟨1, L ++ [ny], ny, nx2, rfl, rfl, rfl, by omega, HL1, HLD, Q1, Lib.hid (HGR.out _ _ Q2.out)⟩
              case measure => simp [intOf]; omega
            · have e14 : now + (x : Int) + 1 = ny := by have := HYN.out hi0; omega
              have hi1 : ¬ (i : Int) = 0 := by omega
              clear HYI HYN HFA HNE HBK hny
              go_wp2_with (at_builtin; refine OJ.app_on (base := W.heap.size) (HO4.out.alloc _) (JR.lit _ [ny] _ rfl 1 rfl (by simp)) rfl _ _ rfl rfl rfl (by have := HWS.out; simp; omega) (by have := HLL.out; simp only [List.length_cons, List.length_nil]; omega) ?_; intro v5 w5 q1 q2 q3; have e5 := q2.cell (Go.Lib.cell?_alloc_some _ d1) (fun e => HNE2.out yb e.symm rfl); have Q1 := Lib.hid q1; have Q2 := Lib.hid q2; clear q1 q2 q3)
              go_roundw
              case rel => exact ⟨i + 1, L ++ [ny], ny, nx2, rfl, rfl, by go_num, by omega, HL1, HLD, Q1, Lib.hid (HGR.out _ _ Q2.out)⟩
              case measure => simp [intOf]; omega
      · obtain rfl : n = i := by omega
        have HF : Hid (R = .ok (L, at_)) := Lib.hid (by have := HLE.out; rw [Nat.sub_self] at this; exact this.done)
        have i1 : ¬ (n : Int) < (n : Int) := by omega
        obtain ⟨⟨f0, f1⟩, ⟨f2, f3⟩, ⟨f4, f5⟩, ⟨f6, f7⟩, f8⟩ := box4 (HRF.out _ HB.out) (.slice uA n uc) (.int .i64 (at_ : Int)) (.int .i64 0) (.int .i64 0)
        have HF8 := Lib.hid f8
        clear f8
        go_wp2
        exact bodyPost_ret (cell1_result HF8.out rfl _ rfl Tryz.underlying122 (by kernel_rfl)) rfl ⟨Lib.hid (by
          rw [HF.out]
          refine ⟨_, rfl, ?_⟩
          refine (HO.out.kept (set4_grown _ _ _ _ _ _) ?_).mono HBW.out.size
          cases hk : (Value.slice uA n uc).ownBlock with
          | none => exact .inl rfl
          | some k =>
            refine .inr fun e => ?_
            injection e with e
            have h1 := OJ.base HO.out k hk
            have h2 := (Array.getElem?_eq_some_iff.1 HRW.out).1
            omega), Lib.hid (set4_below (HBF.out _ HB.out) (Nat.le_refl _) _ _ _ _)⟩
end Go.Proofs.YtjokfllldcjheaaGreatDoor.Oc
