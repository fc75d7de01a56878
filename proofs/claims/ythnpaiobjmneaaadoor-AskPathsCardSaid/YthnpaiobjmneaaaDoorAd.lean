/- ask: what a whole search tells of walks, in plain words. -/
import Derived.Test.YthnpaiobjmneaaaDoorAp
namespace Go.Proofs.YthnpaiobjmneaaaDoor.Ak
open Go.Proofs.YthnpaiobjmneaaaDoor.Ed
set_option linter.unusedVariables false
set_option linter.unusedSimpArgs false
/-- a walk of n edges -/
def Wk (t : Int → List Int) : Nat → Int → Int → Prop
  | 0, a, b => a = b
  | n + 1, a, b => ∃ c, Wk t n a c ∧ b ∈ t c
theorem Wk.cons {t : Int → List Int} {a b : Int} (h : b ∈ t a) : ∀ {n : Nat} {c : Int}, Wk t n b c → Wk t (n + 1) a c
  | 0, c, e => by cases e; exact ⟨a, rfl, h⟩
  | n + 1, c, ⟨x, h1, h2⟩ => ⟨x, Wk.cons h h1, h2⟩
theorem Wk.app {t : Int → List Int} {a b : Int} {n : Nat} (h : Wk t n a b) : ∀ {m : Nat} {c : Int}, Wk t m b c → Wk t (n + m) a c
  | 0, c, e => by cases e; exact h
  | m + 1, c, ⟨x, h1, h2⟩ => ⟨x, Wk.app h h1, h2⟩
theorem Wk.turn {t t' : Int → List Int} (ht : ∀ x y, y ∈ t x → x ∈ t' y) : ∀ {n : Nat} {a b : Int}, Wk t n a b → Wk t' n b a
  | 0, a, b, e => e.symm
  | n + 1, a, b, ⟨x, h1, h2⟩ => Wk.cons (ht _ _ h2) (Wk.turn ht h1)
theorem Wk.inn {t : Int → List Int} {N : Nat} (ht : ∀ v : Int, 0 ≤ v ∧ v < (N : Int) → ∀ x ∈ t v, 0 ≤ x ∧ x < (N : Int)) : ∀ {n : Nat} {a b : Int}, 0 ≤ a ∧ a < (N : Int) → Wk t n a b → 0 ≤ b ∧ b < (N : Int)
  | 0, a, b, h, e => by cases e; exact h
  | n + 1, a, b, h, ⟨x, h1, h2⟩ => ht _ (Wk.inn ht h h1) _ h2
def nd (L : List T3) (j : Nat) : Int := (L.getD j (0, 0, 0)).1
def th (L : List T3) (j : Nat) : Int := (L.getD j (0, 0, 0)).2.2
theorem get_pre {L M : List T3} (h : L <+: M) {j : Nat} (hj : j < L.length) : M.getD j (0, 0, 0) = L.getD j (0, 0, 0) := by
  obtain ⟨r, rfl⟩ := h
  rw [List.getD_eq_getElem?_getD, List.getD_eq_getElem?_getD, List.getElem?_append_left hj]
theorem nd_pre {L M : List T3} (h : L <+: M) {j : Nat} (hj : j < L.length) : nd M j = nd L j := by unfold nd; rw [get_pre h hj]
theorem th_pre {L M : List T3} (h : L <+: M) {j : Nat} (hj : j < L.length) : th M j = th L j := by unfold th; rw [get_pre h hj]
theorem tf_pre {L M : List T3} (h : L <+: M) {j : Nat} (hj : j < L.length) : tf M j = tf L j := by unfold tf; rw [get_pre h hj]
theorem get_new (L : List T3) (x : T3) : (L ++ [x]).getD L.length (0, 0, 0) = x := by
  rw [List.getD_eq_getElem?_getD, List.getElem?_append_right (Nat.le_refl _)]; simp
theorem nd_mem {L : List T3} {j : Nat} (hj : j < L.length) : nd L j ∈ nds L := by
  unfold nd nds
  rw [List.getD_eq_getElem?_getD, List.getElem?_eq_getElem hj]
  exact List.mem_map_of_mem (List.getElem_mem hj)
theorem mem_nd {L : List T3} {v : Int} (h : v ∈ nds L) : ∃ j, j < L.length ∧ nd L j = v := by
  obtain ⟨x, hx, rfl⟩ := List.mem_map.1 h
  obtain ⟨j, hj, rfl⟩ := List.getElem_of_mem hx
  exact ⟨j, hj, by unfold nd; rw [List.getD_eq_getElem?_getD, List.getElem?_eq_getElem hj]; rfl⟩
theorem nd_one {L : List T3} (h : (nds L).Nodup) {i j : Nat} (hi : i < L.length) (hj : j < L.length) (e : nd L i = nd L j) : i = j := by
  have hl' : (nds L).length = L.length := by unfold nds; exact List.length_map _
  have g : ∀ k (hk : k < L.length), nd L k = (nds L)[k]'(by rw [hl']; exact hk) := fun k hk => by
    unfold nd nds
    rw [List.getD_eq_getElem?_getD, List.getElem?_eq_getElem hk, List.getElem_map]; rfl
  rw [g i hi, g j hj] at e
  have hp := List.pairwise_iff_getElem.1 h
  rcases Nat.lt_trichotomy i j with hl | hl | hl
  · exact absurd e (hp i j (by rw [hl']; exact hi) (by rw [hl']; exact hj) hl)
  · exact hl
  · exact absurd e.symm (hp j i (by rw [hl']; exact hj) (by rw [hl']; exact hi) hl)
/-- everyone was met through one that was met ahead, one edge nearer -/
structure V (t : Int → List Int) (fr : Int) (L : List T3) : Prop where
  zero : nd L 0 = fr ∧ tf L 0 = 0
  via : ∀ j, 0 < j → j < L.length → ∃ i, i < j ∧ nd L i = th L j ∧ tf L i + 1 = tf L j ∧ nd L j ∈ t (nd L i)
theorem V.start (t : Int → List Int) (fr : Int) : V t fr [(fr, 0, fr)] := ⟨⟨rfl, rfl⟩, fun j h0 hj => by simp at hj; omega⟩
theorem V.meet {t : Int → List Int} {fr m v f h : Int} {L : List T3} {i : Nat} (hV : V t fr L) (hi : i < L.length) (hf : tf L i = f) (hh : nd L i = h) (hv : v ∈ t h) : V t fr (Ak.meet m L v (f + 1) h) := by
  unfold Ak.meet
  split
  · have hp : L <+: L ++ [(v, f + 1, h)] := List.prefix_append _ _
    refine ⟨by rw [nd_pre hp (by omega), tf_pre hp (by omega)]; exact hV.zero, fun j h0 hj => ?_⟩
    have hj : j < L.length + 1 := by simpa using hj
    by_cases e : j < L.length
    · obtain ⟨k, k1, k2, k3, k4⟩ := hV.via j h0 e
      refine ⟨k, k1, ?_, ?_, ?_⟩
      · rw [nd_pre hp (by omega), th_pre hp e]; exact k2
      · rw [tf_pre hp (by omega), tf_pre hp e]; exact k3
      · rw [nd_pre hp (by omega), nd_pre hp e]; exact k4
    · obtain rfl : j = L.length := by omega
      refine ⟨i, hi, ?_, ?_, ?_⟩
      · rw [nd_pre hp hi, hh]; unfold th; rw [get_new]
      · rw [tf_pre hp hi, hf]; unfold tf; rw [get_new]
      · rw [nd_pre hp hi, hh]; unfold nd; rw [get_new]; exact hv
  · exact hV
theorem V.meets {t : Int → List Int} {fr m f h : Int} {i : Nat} : ∀ (ts : List Int) {L : List T3}, V t fr L → i < L.length → tf L i = f → nd L i = h → (∀ v ∈ ts, v ∈ t h) → V t fr (Ak.meets m L ts (f + 1) h)
  | [], L, hV, _, _, _, _ => hV
  | v :: ts, L, hV, hi, hf, hh, hv => by
    have hp := meet_pre m L v (f + 1) h
    exact V.meets ts (hV.meet hi hf hh (hv v (List.mem_cons_self ..))) (Nat.lt_of_lt_of_le hi hp.length_le) (by rw [tf_pre hp hi]; exact hf) (by rw [nd_pre hp hi]; exact hh) (fun x hx => hv x (List.mem_cons_of_mem _ hx))
/-- the targets of those below i are met -/
def Dn (t : Int → List Int) (L : List T3) (i : Nat) : Prop := ∀ j, j < i → j < L.length → ∀ y ∈ t (nd L j), ∃ k, k < L.length ∧ nd L k = y ∧ tf L k ≤ tf L j + 1
theorem Dn.pre {t : Int → List Int} {L M : List T3} {i : Nat} (h : Dn t L i) (hp : L <+: M) (hi : i ≤ L.length) : Dn t M i := fun j h1 h2 y hy => by
  have hj : j < L.length := by omega
  rw [nd_pre hp hj] at hy
  obtain ⟨k, k1, k2, k3⟩ := h j h1 hj y hy
  exact ⟨k, Nat.lt_of_lt_of_le k1 hp.length_le, by rw [nd_pre hp k1]; exact k2, by rw [tf_pre hp k1, tf_pre hp hj]; exact k3⟩
theorem meet_eq {N : Nat} {d m m' : Int} {i : Nat} {L : List T3} (hQ : Q N d m i L) (h1 : (N : Int) < m) (h2 : (N : Int) < m') (v f h : Int) : Ak.meet m L v f h = Ak.meet m' L v f h := by
  have hl := hQ.len
  unfold Ak.meet
  by_cases hv : v ∉ nds L
  · rw [if_pos ⟨hv, by omega⟩, if_pos ⟨hv, by omega⟩]
  · rw [if_neg (fun h => hv h.1), if_neg (fun h => hv h.1)]
theorem meet_has {N : Nat} {d m : Int} {i : Nat} {L : List T3} (hQ : Q N d m i L) (h1 : (N : Int) < m) (v f h : Int) : v ∈ nds (Ak.meet m L v f h) := by
  have hl := hQ.len
  unfold Ak.meet
  by_cases hv : v ∉ nds L
  · rw [if_pos ⟨hv, by omega⟩]; simp [nds]
  · rw [if_neg (fun h => hv h.1)]; exact Classical.not_not.1 hv
theorem nds_pre {L M : List T3} (h : L <+: M) {v : Int} (hv : v ∈ nds L) : v ∈ nds M := by
  obtain ⟨j, hj, rfl⟩ := mem_nd hv
  rw [← nd_pre h hj]
  exact nd_mem (Nat.lt_of_lt_of_le hj h.length_le)
theorem meets_has {N : Nat} {d m m' : Int} {i : Nat} {h : Int} (hth : 0 ≤ h ∧ h < (N : Int)) (hm : (N : Int) < m) (hm' : (N : Int) < m') (f : Int) : ∀ (ts : List Int) {L : List T3}, Q N d m i L → (∀ v ∈ ts, 0 ≤ v ∧ v < (N : Int)) → i < L.length → tf L i < d → f = tf L i →
    (∀ v ∈ ts, v ∈ nds (Ak.meets m L ts (f + 1) h)) ∧ Ak.meets m L ts (f + 1) h = Ak.meets m' L ts (f + 1) h
  | [], L, _, _, _, _, _ => ⟨by simp, rfl⟩
  | v :: ts, L, hQ, hv, hi, hd, hf => by
    subst hf
    have h1 := hQ.meet (hv v (List.mem_cons_self ..)) hth hi hd
    have hp := meet_pre m L v (tf L i + 1) h
    obtain ⟨a1, a2⟩ := meets_has hth hm hm' (tf L i) ts h1.1 (fun x hx => hv x (List.mem_cons_of_mem _ hx)) (Nat.lt_of_lt_of_le hi hp.length_le) (by rw [h1.2]; exact hd) h1.2.symm
    have hc : ∀ m, Ak.meets m L (v :: ts) (tf L i + 1) h = Ak.meets m (Ak.meet m L v (tf L i + 1) h) ts (tf L i + 1) h := fun _ => rfl
    rw [hc, hc, ← meet_eq hQ hm hm']
    refine ⟨fun x hx => ?_, a2⟩
    rcases List.mem_cons.1 hx with rfl | hx
    · exact nds_pre (meets_pre m ts _ _ _) (meet_has hQ hm _ _ _)
    · exact a1 x hx
/-- a whole search -/
theorem run_whole {N : Nat} {t : Int → List Int} {d m d' m' fr : Int} (ht : ∀ v : Int, 0 ≤ v ∧ v < (N : Int) → ∀ x ∈ t v, 0 ≤ x ∧ x < (N : Int)) (hd : (N : Int) ≤ d) (hm : (N : Int) < m) (hd' : (N : Int) ≤ d') (hm' : (N : Int) < m') :
    ∀ (f i : Nat) {L : List T3}, i + f = N → i ≤ L.length → Q N d m i L → V t fr L → Dn t L i →
      run t d m f i L = run t d' m' f i L ∧ (∃ k, Q N d m k (run t d m f i L)) ∧ V t fr (run t d m f i L) ∧ Dn t (run t d m f i L) (run t d m f i L).length
  | 0, i, L, hN, hi, hQ, hV, hD => by
    have hl := hQ.len
    exact ⟨rfl, ⟨i, hQ⟩, hV, fun j h1 h2 => hD j (by have h3 : j < L.length := h1; omega) h2⟩
  | f + 1, i, L, hN, hi, hQ, hV, hD => by
    by_cases hlt : i < L.length
    · have e : L[i]? = some L[i] := List.getElem?_eq_getElem hlt
      have hc := hQ.cap i hlt
      have hn : nd L i = L[i].1 := by unfold nd; rw [List.getD_eq_getElem?_getD, e]; rfl
      have hf := tf_get e
      have h1 : ¬ L[i].2.1 ≥ d := by omega
      have h2 : ¬ L[i].2.1 ≥ d' := by omega
      rw [run_go e h1, run_go e h2]
      have hx := (hQ.inn L[i] (List.getElem_mem hlt)).1
      have hts := ht _ hx
      obtain ⟨a1, a2⟩ := meets_has hx hm hm' L[i].2.1 (t L[i].1) hQ hts hlt (by omega) hf.symm
      have hq := hQ.meets hx L[i].2.1 (t L[i].1) hts hlt (by omega) hf.symm
      have hp := meets_pre m (t L[i].1) (L[i].2.1 + 1) L[i].1 L
      have hv := hV.meets (m := m) (t L[i].1) hlt hf hn (fun v hv => hv)
      rw [← a2]
      have hle := hp.length_le
      refine run_whole ht hd hm hd' hm' f (i + 1) (by omega) (by omega) hq.1.next hv (fun j h3 h4 y hy => ?_)
      by_cases e2 : j = i
      · subst e2
        rw [nd_pre hp hlt, hn] at hy
        obtain ⟨k, k1, k2⟩ := mem_nd (a1 y hy)
        exact ⟨k, k1, k2, hq.1.top (by omega) k k1⟩
      · exact hD.pre hp hi j (by omega) h4 y hy
    · have hle : L.length ≤ i := by omega
      rw [run_end hle, run_end hle]
      exact ⟨rfl, ⟨i, hQ⟩, hV, fun j h1 h2 => hD j (by have h3 : j < L.length := h1; omega) h2⟩
/-- what a whole search is -/
structure Whole (N : Nat) (t : Int → List Int) (fr : Int) (L : List T3) : Prop where
  pos : 0 < L.length
  len : L.length ≤ N
  nodup : (nds L).Nodup
  v : V t fr L
  dn : Dn t L L.length
  inn : ∀ x ∈ L, (0 ≤ x.1 ∧ x.1 < N) ∧ 0 ≤ x.2.2 ∧ x.2.2 < N
  cap : ∀ j, j < L.length → 0 ≤ tf L j ∧ tf L j ≤ j
theorem bfs_whole {N : Nat} {t : Int → List Int} {d m fr : Int} (ht : ∀ v : Int, 0 ≤ v ∧ v < (N : Int) → ∀ x ∈ t v, 0 ≤ x ∧ x < (N : Int)) (hf : 0 ≤ fr ∧ fr < (N : Int)) (hd : (N : Int) ≤ d) (hm : (N : Int) < m) : Whole N t fr (bfs N t d m fr) := by
  have hq := Q.start (d := d) (m := m) fr hf (by omega) (by omega)
  obtain ⟨-, ⟨k, a⟩, b, c⟩ := run_whole (fr := fr) ht hd hm hd hm N 0 (by omega) (by simp) hq (V.start t fr) (fun j h => by omega)
  exact ⟨a.pos, a.len, a.nodup, b, c, a.inn, fun j hj => ⟨(a.cap j hj).1, (a.cap j hj).2.2⟩⟩
theorem bfs_same {N : Nat} {t : Int → List Int} {d m d' m' fr : Int} (ht : ∀ v : Int, 0 ≤ v ∧ v < (N : Int) → ∀ x ∈ t v, 0 ≤ x ∧ x < (N : Int)) (hf : 0 ≤ fr ∧ fr < (N : Int)) (hd : (N : Int) ≤ d) (hm : (N : Int) < m) (hd' : (N : Int) ≤ d') (hm' : (N : Int) < m') : bfs N t d m fr = bfs N t d' m' fr :=
  (run_whole (fr := fr) ht hd hm hd' hm' N 0 (by omega) (by simp) (Q.start (d := d) (m := m) fr hf (by omega) (by omega)) (V.start t fr) (fun j h => by omega)).1
theorem Whole.has {N : Nat} {t : Int → List Int} {fr : Int} {L : List T3} (h : Whole N t fr L) : ∀ {n : Nat} {v : Int}, Wk t n fr v → ∃ k, k < L.length ∧ nd L k = v ∧ tf L k ≤ n
  | 0, v, e => by
    cases e
    exact ⟨0, h.pos, h.v.zero.1, by rw [h.v.zero.2]; omega⟩
  | n + 1, v, ⟨x, h1, h2⟩ => by
    obtain ⟨k, k1, k2, k3⟩ := h.has h1
    obtain ⟨j, j1, j2, j3⟩ := h.dn k k1 k1 v (by rw [k2]; exact h2)
    exact ⟨j, j1, j2, by omega⟩
theorem Whole.walk {N : Nat} {t : Int → List Int} {fr : Int} {L : List T3} (h : Whole N t fr L) : ∀ (j : Nat), j < L.length → Wk t (tf L j).toNat fr (nd L j) := by
  intro j
  induction j using Nat.strongRecOn with
  | ind j ih =>
    intro hj
    by_cases e : j = 0
    · subst e
      rw [h.v.zero.1, h.v.zero.2]
      rfl
    · obtain ⟨i, i1, i2, i3, i4⟩ := h.v.via j (by omega) hj
      have hc := h.cap i (by omega)
      have := ih i i1 (by omega)
      rw [show (tf L j).toNat = (tf L i).toNat + 1 by omega]
      exact ⟨_, this, i4⟩
/-- how far a node is; none: it isn't met -/
def Dst (t : Int → List Int) (a b : Int) (n : Nat) : Prop := Wk t n a b ∧ ∀ k, Wk t k a b → n ≤ k
theorem Dst.one {t : Int → List Int} {a b : Int} {n m : Nat} (h1 : Dst t a b n) (h2 : Dst t a b m) : n = m := by
  have := h1.2 m h2.1
  have := h2.2 n h1.1
  omega
theorem Dst.turn {t t' : Int → List Int} (ht : ∀ x y, y ∈ t x ↔ x ∈ t' y) {a b : Int} {n : Nat} (h : Dst t a b n) : Dst t' b a n :=
  ⟨h.1.turn fun x y => (ht x y).1, fun k hk => h.2 k (hk.turn fun x y => (ht y x).2)⟩
theorem Whole.dst {N : Nat} {t : Int → List Int} {fr : Int} {L : List T3} (h : Whole N t fr L) {j : Nat} (hj : j < L.length) : Dst t fr (nd L j) (tf L j).toNat := by
  refine ⟨h.walk j hj, fun k hk => ?_⟩
  obtain ⟨i, i1, i2, i3⟩ := h.has hk
  obtain rfl := nd_one h.nodup i1 hj i2
  omega
theorem Whole.none {N : Nat} {t : Int → List Int} {fr : Int} {L : List T3} (h : Whole N t fr L) {v : Int} (hv : v ∉ nds L) (n : Nat) : ¬ Wk t n fr v := fun hw => by
  obtain ⟨k, k1, k2, -⟩ := h.has hw
  exact hv (k2 ▸ nd_mem k1)
end Go.Proofs.YthnpaiobjmneaaaDoor.Ak
