/- The manifest that is made of a graph (plain): it may be. -/
import Derived.Test.YtjokfllldcjheaaGreatDoorMu
import Derived.Test.YtjokfllldcjheaaGreatDoorSt
import Derived.Test.YtjokfllldcjheaaGreatDoorCut
import Derived.Test.YtjokfllldcjheaaGreatDoorNew
namespace Go.Proofs.YtjokfllldcjheaaGreatDoor.Mn
open Go.Proofs.YtjokfllldcjheaaGreatDoor.Oc Go.Proofs.YtjokfllldcjheaaGreatDoor.Ed Go.Proofs.YtjokfllldcjheaaGreatDoor.Sha Go.Proofs.YtjokfllldcjheaaGreatDoor.Cs Go.Proofs.YtjokfllldcjheaaGreatDoor.Mk
set_option linter.unusedVariables false
set_option linter.unusedSimpArgs false
theorem rowsB_le2 (t : Int → List Int) (nodes : Nat) (hN : nodes ≤ 4096) (ht : ∀ v : Int, 0 ≤ v ∧ v < nodes → (∀ x ∈ t v, 0 ≤ x ∧ x < nodes) ∧ (t v).Pairwise (· < ·) ∧ (t v).length ≤ nodes) (v : Int) (hv : 0 ≤ v) :
    ∀ k : Nat, v + k ≤ nodes → (rowsB t v k).length ≤ 2 * k + 2 * rowsN ((List.range k).map fun (i : Nat) => t (v + (i : Nat)))
  | 0, _ => by simp [rowsB]
  | k + 1, hk => by
    have ih := rowsB_le2 t nodes hN ht v hv k (by omega)
    obtain ⟨g1, g2, g3⟩ := ht (v + k) ⟨by omega, by omega⟩
    have a := gapB_le nodes hN (v + k) ⟨by omega, by omega⟩ (t (v + k)) g1 g3
    rw [rowsB_snoc, List.length_append, List.range_succ, List.map_append, rowsN_app]
    have e : rowsN (List.map (fun (i : Nat) => t (v + (i : Nat))) [k]) = (t (v + k)).length := by simp [rowsN]
    rw [e]
    omega
theorem idxB_le2 : ∀ (ms : List Nat), (∀ x ∈ ms, x < 16384) → (idxB ms).length ≤ 2 * ms.length
  | [], _ => by simp [idxB]
  | x :: r, h => by
    have a := shB_len (h x (List.mem_cons_self ..))
    have b := idxB_le2 r fun y hy => h y (List.mem_cons_of_mem _ hy)
    have e : idxB (x :: r) = shB x ++ idxB r := rfl
    rw [e, List.length_append, List.length_cons]
    omega
theorem lists_le {w : World} {B p bb N : Nat} {tv : Value} {l : List E2} (hc : CS w B p bb tv N l) (n : Nat) : (lists l n).length ≤ l.length := by
  rw [lists_take hc.up (fun e he => (hc.ok e he).1), List.length_take]
  omega
theorem rowsB_small {w : World} {B p bb N : Nat} {tv : Value} {l : List E2} (hc : CS w B p bb tv N l) (a k : Nat) (h : a + k ≤ N) : (rowsB (tgt l) (a : Int) k).length ≤ 2 * k + 2 * l.length := by
  have h1 := rowsB_le2 (tgt l) N hc.nodes (rows_ok hc) (a : Int) (by omega) k (by omega)
  have h2 := rowsN_map l a k
  have h3 := lists_le hc (a + k)
  omega
theorem idxB_pos : ∀ (ms : List Nat), 0 < ms.length → 0 < (idxB ms).length
  | [], h => by simp at h
  | x :: r, _ => by
    have a := shB_pos x
    have e : idxB (x :: r) = shB x ++ idxB r := rfl
    rw [e, List.length_append]
    omega
/-- how long a part is -/
theorem part_small {w : World} {B p bb N : Nat} {tv : Value} {l : List E2} (hc : CS w B p bb tv N l) (hN : N ≤ 300) (hl : l.length ≤ 200) (e : Nat) (he : 1 ≤ e) (k : Nat) (hk : k < (N + e - 1) / e) : 3 ≤ (partB (tgt l) N e k).size ∧ (partB (tgt l) N e k).size ≤ 2000 := by
  have hlt := lt_parts he hk
  obtain ⟨a, ha⟩ : ∃ a, k * e = a := ⟨_, rfl⟩
  obtain ⟨m, hm⟩ : ∃ m, min e (N - k * e) = m := ⟨_, rfl⟩
  have e1 : (partB (tgt l) N e k).size = (shardB (tgt l) (k * e) (min e (N - k * e))).length := rfl
  rw [e1, hm, ha]
  rw [ha] at hlt hm
  have r1 := rowsB_small hc a m (by omega)
  have c := idxB_le2 (marksOf (tgt l) (a : Int) m) (fun x hx => by
    unfold marksOf at hx
    obtain ⟨i, hi, rfl⟩ := List.mem_map.1 hx
    have hi := List.mem_range.1 hi
    have r2 := rowsB_small hc a (8 * i) (by omega)
    omega)
  have c2 := idxB_pos (marksOf (tgt l) (a : Int) m) (by rw [marksOf_len]; omega)
  rw [marksOf_len] at c
  have d := shB_len (x := a) (by omega)
  have d2 := shB_len (x := m) (by omega)
  have d3 := shB_pos a
  have d4 := shB_pos m
  rw [shardB]
  simp only [List.length_append]
  omega
theorem tabP_succ (t : Int → List Int) (N e m : Nat) : tabP t N e (m + 1) = tabP t N e m ++ [(((m * e : Nat) : Int), ((partB t N e m).size : Int))] := by
  unfold tabP
  rw [List.range_succ, List.map_append]
  rfl
theorem tot_tab (t : Int → List Int) (N e : Nat) : ∀ m, tot (tabP t N e m) = ((cat (partsB t N e m)).length : Int)
  | 0 => rfl
  | m + 1 => by
    rw [tabP_succ, tot_append, tot_tab t N e m, partsB_succ]
    have e1 : (partB t N e m).data.toList.length = (partB t N e m).size := toList_len _
    simp only [cat, List.flatMap_append, List.length_append, List.flatMap_cons, List.flatMap_nil, List.append_nil, tot, e1]
    omega
/-- all bytes -/
def allB (t : Int → List Int) (N e m : Nat) : ByteArray := ⟨(cat (partsB t N e m)).toArray⟩
theorem allB_cat (t : Int → List Int) (N e m : Nat) : cat (partsB t N e m) = (allB t N e m).data.toList := rfl
theorem allB_size (t : Int → List Int) (N e m : Nat) : (allB t N e m).size = (cat (partsB t N e m)).length := rfl
theorem cat_small {w : World} {B p bb N : Nat} {tv : Value} {l : List E2} (hc : CS w B p bb tv N l) (hN : N ≤ 300) (hl : l.length ≤ 200) (e : Nat) (he : 1 ≤ e) : ∀ m, m ≤ (N + e - 1) / e → (cat (partsB (tgt l) N e m)).length ≤ 2000 * m
  | 0, _ => by simp [partsB, cat]
  | m + 1, h => by
    have ih := cat_small hc hN hl e he m (by omega)
    have a := (part_small hc hN hl e he m (by omega)).2
    have e1 : (partB (tgt l) N e m).data.toList.length = (partB (tgt l) N e m).size := toList_len _
    rw [partsB_succ]
    simp only [cat, List.flatMap_append, List.length_append, List.flatMap_cons, List.flatMap_nil, List.append_nil, e1]
    simp only [cat] at ih
    omega
theorem rootD_size (ss : List ByteArray) : (rootD ss).size = 32 := by
  unfold rootD
  split
  · exact dig_size _
  · rename_i h
    refine treeR_size (leaves_size ss) ss.length 0 (List.length_pos_iff.2 h) ?_
    rw [leaves_length]
    omega
/-- the manifest -/
def made (V : Int) (t : Int → List Int) (N n e m : Nat) : Man := ⟨V, N, n, tabP t N e m, bcnt (allB t N e m), rootD (blks (allB t N e m) (bcnt (allB t N e m)))⟩
theorem fst_tab (t : Int → List Int) (N e m k : Nat) (hk : k < m) : fst (tabP t N e m) k = ((k * e : Nat) : Int) := by unfold fst; rw [tabP_at _ _ _ _ _ hk]
theorem snd_tab (t : Int → List Int) (N e m k : Nat) (hk : k < m) : snd (tabP t N e m) k = ((partB t N e k).size : Int) := by unfold snd; rw [tabP_at _ _ _ _ _ hk]
theorem bcnt_cnt (b : ByteArray) : ((bcnt b : Nat) : Int) = cnt (b.size : Int) := by unfold bcnt cnt; split <;> omega
theorem made_may {w : World} {B p bb N : Nat} {tv : Value} {l : List E2} (hc : CS w B p bb tv N l) (hN : N ≤ 300) (hl : l.length ≤ 200) (e : Nat) (he : 1 ≤ e) (m : Nat) (hm : (N + e - 1) / e = m) (hm2 : m ≤ 64) (V : Int) (hV : 1 ≤ V ∧ V ≤ 1099511627776) : May (made V (tgt l) N l.length e m) := by
  have hs := cat_small hc hN hl e he m (by omega)
  have hz := allB_size (tgt l) N e m
  refine ⟨⟨hV, ⟨by show (0 : Int) ≤ (N : Int); omega, by show (N : Int) ≤ 4096; omega⟩, ⟨by show (0 : Int) ≤ (l.length : Int); omega, by show (l.length : Int) ≤ 20000; omega⟩, by show (tabP (tgt l) N e m).length ≤ 64; rw [tabP_len]; exact hm2, ?_⟩, ?_, ?_, ?_, rootD_size _⟩
  · show (tabP (tgt l) N e m).length = 0 ↔ (N : Int) = 0
    rw [tabP_len]
    constructor
    · intro h0
      rcases Nat.eq_zero_or_pos N with h | h
      · omega
      · have := many_le (N := N) (e := e) (k := 0) he (by omega)
        omega
    · intro h0
      have h0 : N = 0 := by omega
      subst h0
      rw [← hm]
      exact Nat.div_eq_of_lt (by omega)
  · show Rows (N : Int) (tabP (tgt l) N e m) (tabP (tgt l) N e m).length
    rw [tabP_len]
    intro i hi
    have hp := part_small hc hN hl e he i (by omega)
    have hlt := lt_parts (N := N) (e := e) (k := i) he (by omega)
    rw [fst_tab _ _ _ _ _ hi, snd_tab _ _ _ _ _ hi]
    refine ⟨?_, by omega, by omega⟩
    split
    · rename_i h; subst h; simp
    · rw [fst_tab _ _ _ _ _ (by omega)]
      have : (i - 1) * e + e = i * e := by
        rw [← Nat.succ_mul]; congr 1; omega
      omega
  · show ((bcnt (allB (tgt l) N e m) : Nat) : Int) = cnt (tot (tabP (tgt l) N e m))
    rw [bcnt_cnt, tot_tab, hz]
  · show ((bcnt (allB (tgt l) N e m) : Nat) : Int) ≤ 2048
    have : bcnt (allB (tgt l) N e m) ≤ 2048 := by unfold bcnt; omega
    omega
end Go.Proofs.YtjokfllldcjheaaGreatDoor.Mn
