/-
  Plain: pairings as sets of pairs; the most that can be saved hangs on neither order nor side; a job more.
-/
import Derived.Test.YtggogohoakbepaaPm
namespace Go.Proofs.Ytggogohoakbepaa
set_option linter.unusedVariables false
set_option linter.unusedSimpArgs false

def mv (ss gs : List Spot) (m : List (Nat × Nat)) : Int := (m.map fun p => sv (ss.getD p.1 (0, 0)) (gs.getD p.2 (0, 0))).sum
structure Mt (ss gs : List Spot) (m : List (Nat × Nat)) : Prop where
  inn : ∀ p ∈ m, p.1 < ss.length ∧ p.2 < gs.length
  d1 : (m.map (·.1)).Nodup
  d2 : (m.map (·.2)).Nodup

theorem sum_perm {a b : List Int} (h : a.Perm b) : a.sum = b.sum := by
  induction h with
  | nil => rfl
  | cons x _ ih => simp [ih]
  | swap x y l => simp; omega
  | trans _ _ h1 h2 => exact h1.trans h2
theorem mv_perm {ss gs : List Spot} {m m' : List (Nat × Nat)} (h : m.Perm m') : mv ss gs m = mv ss gs m' := sum_perm (h.map _)
theorem Mt.perm {ss gs : List Spot} {m m' : List (Nat × Nat)} (h : m.Perm m') (k : Mt ss gs m) : Mt ss gs m' :=
  ⟨fun p hp => k.inn p (h.mem_iff.2 hp), (h.map _).nodup_iff.1 k.d1, (h.map _).nodup_iff.1 k.d2⟩

theorem nodup_map {α β : Type} {l : List α} {f : α → β} (h : l.Nodup) (hf : ∀ a ∈ l, ∀ b ∈ l, f a = f b → a = b) : (l.map f).Nodup := by
  induction l with
  | nil => simp
  | cons x r ih =>
    rw [List.map_cons, List.nodup_cons]
    rw [List.nodup_cons] at h
    refine ⟨fun hx => ?_, ih h.2 (fun a ha b hb => hf a (by simp [ha]) b (by simp [hb]))⟩
    obtain ⟨y, hy, he⟩ := List.mem_map.1 hx
    exact h.1 (hf y (by simp [hy]) x (by simp) he ▸ hy)

theorem tb_or (t g j : Nat) : (t ||| 2 ^ g).testBit j = (t.testBit j || decide (g = j)) := by rw [Nat.testBit_or, Nat.testBit_two_pow]

theorem Mt.of_pr {gs ss : List Spot} {t : Nat} {p : List Int} {v : Int} (h : Pr gs ss t p v) : ∃ m, Mt ss gs m ∧ mv ss gs m = v ∧ ∀ q ∈ m, t.testBit q.2 = false := by
  induction h with
  | nil t => exact ⟨[], ⟨by simp, by simp, by simp⟩, rfl, by simp⟩
  | @skip s r t p v h ih =>
    obtain ⟨m, hm, hv, hb⟩ := ih
    refine ⟨m.map fun q => (q.1 + 1, q.2), ⟨?_, ?_, ?_⟩, ?_, ?_⟩
    · intro q hq
      obtain ⟨q', hq', rfl⟩ := List.mem_map.1 hq
      have := hm.inn q' hq'
      simp; omega
    · rw [List.map_map]
      have := nodup_map (f := fun n : Nat => n + 1) hm.d1 (fun a _ b _ e => by simpa using e)
      rwa [List.map_map] at this
    · rw [List.map_map]; exact hm.d2
    · rw [← hv]; unfold mv; rw [List.map_map]; congr 1
    · intro q hq
      obtain ⟨q', hq', rfl⟩ := List.mem_map.1 hq
      exact hb q' hq'
  | @take s r t p v g hg ht h ih =>
    obtain ⟨m, hm, hv, hb⟩ := ih
    refine ⟨(0, g) :: m.map fun q => (q.1 + 1, q.2), ⟨?_, ?_, ?_⟩, ?_, ?_⟩
    · intro q hq
      rcases List.mem_cons.1 hq with rfl | hq
      · simpa using hg
      · obtain ⟨q', hq', rfl⟩ := List.mem_map.1 hq
        have := hm.inn q' hq'
        simp; omega
    · rw [List.map_cons, List.nodup_cons, List.map_map]
      refine ⟨by simp, ?_⟩
      have := nodup_map (f := fun n : Nat => n + 1) hm.d1 (fun a _ b _ e => by simpa using e)
      rwa [List.map_map] at this
    · rw [List.map_cons, List.nodup_cons, List.map_map]
      refine ⟨?_, hm.d2⟩
      intro hx
      obtain ⟨q, hq, he⟩ := List.mem_map.1 hx
      have := hb q hq
      rw [tb_or] at this
      simp at this he
      exact this.2 he.symm
    · rw [← hv]; unfold mv; rw [List.map_cons, List.map_map, List.sum_cons]; congr 1
    · intro q hq
      rcases List.mem_cons.1 hq with rfl | hq
      · exact ht
      · obtain ⟨q', hq', rfl⟩ := List.mem_map.1 hq
        have := hb q' hq'
        rw [tb_or] at this
        simp at this
        exact this.1

/-- Pairs without store 0, the stores renumbered. -/
theorem Mt.down {gs r : List Spot} {s : Spot} {m : List (Nat × Nat)} (h : Mt (s :: r) gs m) (h0 : ∀ q ∈ m, q.1 ≠ 0) : Mt r gs (m.map fun q => (q.1 - 1, q.2)) ∧ mv r gs (m.map fun q => (q.1 - 1, q.2)) = mv (s :: r) gs m := by
  refine ⟨⟨?_, ?_, ?_⟩, ?_⟩
  · intro q hq
    obtain ⟨q', hq', rfl⟩ := List.mem_map.1 hq
    have := h.inn q' hq'
    have := h0 q' hq'
    simp at *; omega
  · rw [List.map_map]
    have := nodup_map (f := fun n : Nat => n - 1) h.d1 (fun a ha b hb e => by
      obtain ⟨q, hq, rfl⟩ := List.mem_map.1 ha
      obtain ⟨q', hq', rfl⟩ := List.mem_map.1 hb
      have := h0 q hq
      have := h0 q' hq'
      simp at *; omega)
    rwa [List.map_map] at this
  · rw [List.map_map]; exact h.d2
  · unfold mv
    rw [List.map_map]
    congr 1
    apply List.map_congr_left
    intro q hq
    obtain ⟨n, hn⟩ : ∃ n, q.1 = n + 1 := ⟨q.1 - 1, by have := h0 q hq; omega⟩
    simp [hn]

theorem Mt.to_pr (gs : List Spot) : ∀ (ss : List Spot) (t : Nat) (m : List (Nat × Nat)), Mt ss gs m → (∀ q ∈ m, t.testBit q.2 = false) → ∃ p, Pr gs ss t p (mv ss gs m)
  | [], t, m, h, hb => by
    cases m with
    | nil => exact ⟨[], .nil t⟩
    | cons q r => have := (h.inn q (by simp)).1; simp at this
  | s :: r, t, m, h, hb => by
    by_cases h0 : ∃ q ∈ m, q.1 = 0
    · obtain ⟨⟨i, g⟩, hq, hi⟩ := h0
      simp only at hi
      subst hi
      obtain ⟨m1, m2, rfl⟩ := List.append_of_mem hq
      have hp : (m1 ++ (0, g) :: m2).Perm ((0, g) :: (m1 ++ m2)) := List.perm_middle
      have h' := h.perm hp
      have d1 := h'.d1
      have d2 := h'.d2
      rw [List.map_cons, List.nodup_cons] at d1 d2
      have hm' : Mt (s :: r) gs (m1 ++ m2) := ⟨fun q hq => h'.inn q (List.mem_cons_of_mem _ hq), d1.2, d2.2⟩
      have hn0 : ∀ q ∈ m1 ++ m2, q.1 ≠ 0 := fun q hq e => d1.1 (List.mem_map.2 ⟨q, hq, e⟩)
      obtain ⟨h1, h2⟩ := hm'.down hn0
      have htg : t.testBit g = false := hb (0, g) (by simp)
      obtain ⟨p, hp'⟩ := Mt.to_pr gs r (t ||| 2 ^ g) _ h1 (fun q hq => by
        obtain ⟨q', hq', rfl⟩ := List.mem_map.1 hq
        rw [tb_or]
        simp only [Bool.or_eq_false_iff, decide_eq_false_iff_not]
        refine ⟨hb q' (hp.mem_iff.2 (List.mem_cons_of_mem _ hq')), fun e => d2.1 (List.mem_map.2 ⟨q', hq', e.symm⟩)⟩)
      refine ⟨(g : Int) :: p, ?_⟩
      have := Pr.take (s := s) g (h'.inn (0, g) (by simp)).2 htg hp'
      rw [h2] at this
      rw [mv_perm hp]
      exact this
    · have hn0 : ∀ q ∈ m, q.1 ≠ 0 := fun q hq e => h0 ⟨q, hq, e⟩
      obtain ⟨h1, h2⟩ := h.down hn0
      obtain ⟨p, hp'⟩ := Mt.to_pr gs r t _ h1 (fun q hq => by
        obtain ⟨q', hq', rfl⟩ := List.mem_map.1 hq
        exact hb q' hq')
      exact ⟨-1 :: p, by rw [← h2]; exact .skip hp'⟩

/-- The most, over sets of pairs. -/
theorem Mt.le {ss gs : List Spot} {m : List (Nat × Nat)} (h : Mt ss gs m) : mv ss gs m ≤ M gs ss 0 := by
  obtain ⟨p, hp⟩ := h.to_pr gs ss 0 m (fun q _ => by simp)
  exact hp.le
theorem Mt.best (ss gs : List Spot) : ∃ m, Mt ss gs m ∧ mv ss gs m = M gs ss 0 := by
  obtain ⟨m, h, hv, _⟩ := Mt.of_pr (Pr.best gs ss 0)
  exact ⟨m, h, hv⟩

theorem M_map {ss gs ss' gs' : List Spot} (f g : Nat → Nat) (f1 : ∀ i, i < ss.length → f i < ss'.length ∧ ss'.getD (f i) (0, 0) = ss.getD i (0, 0)) (f2 : ∀ i j, i < ss.length → j < ss.length → f i = f j → i = j)
    (g1 : ∀ i, i < gs.length → g i < gs'.length ∧ gs'.getD (g i) (0, 0) = gs.getD i (0, 0)) (g2 : ∀ i j, i < gs.length → j < gs.length → g i = g j → i = j) : M gs ss 0 ≤ M gs' ss' 0 := by
  obtain ⟨m, h, hv⟩ := Mt.best ss gs
  have h' : Mt ss' gs' (m.map fun q => (f q.1, g q.2)) := by
    refine ⟨?_, ?_, ?_⟩
    · intro q hq
      obtain ⟨q', hq', rfl⟩ := List.mem_map.1 hq
      have := h.inn q' hq'
      exact ⟨(f1 _ this.1).1, (g1 _ this.2).1⟩
    · rw [List.map_map]
      have := nodup_map (f := f) h.d1 (fun a ha b hb e => by
        obtain ⟨q, hq, rfl⟩ := List.mem_map.1 ha
        obtain ⟨q', hq', rfl⟩ := List.mem_map.1 hb
        exact f2 _ _ (h.inn q hq).1 (h.inn q' hq').1 e)
      rwa [List.map_map] at this
    · rw [List.map_map]
      have := nodup_map (f := g) h.d2 (fun a ha b hb e => by
        obtain ⟨q, hq, rfl⟩ := List.mem_map.1 ha
        obtain ⟨q', hq', rfl⟩ := List.mem_map.1 hb
        exact g2 _ _ (h.inn q hq).2 (h.inn q' hq').2 e)
      rwa [List.map_map] at this
  rw [← hv]
  have e : mv ss' gs' (m.map fun q => (f q.1, g q.2)) = mv ss gs m := by
    unfold mv
    rw [List.map_map]
    congr 1
    apply List.map_congr_left
    intro q hq
    have := h.inn q hq
    simp only [Function.comp]
    rw [(f1 _ this.1).2, (g1 _ this.2).2]
  rw [← e]
  exact h'.le

theorem M_swap_le (ss gs : List Spot) : M gs ss 0 ≤ M ss gs 0 := by
  obtain ⟨m, h, hv⟩ := Mt.best ss gs
  have h' : Mt gs ss (m.map fun q => (q.2, q.1)) := by
    refine ⟨?_, ?_, ?_⟩
    · intro q hq
      obtain ⟨q', hq', rfl⟩ := List.mem_map.1 hq
      have := h.inn q' hq'
      exact ⟨this.2, this.1⟩
    · rw [List.map_map]; exact h.d2
    · rw [List.map_map]; exact h.d1
  have e : mv gs ss (m.map fun q => (q.2, q.1)) = mv ss gs m := by
    unfold mv
    rw [List.map_map]
    congr 1
    apply List.map_congr_left
    intro q _
    exact sv_comm _ _
  rw [← hv, ← e]
  exact h'.le
theorem M_swap (ss gs : List Spot) : M gs ss 0 = M ss gs 0 := Int.le_antisymm (M_swap_le ss gs) (M_swap_le gs ss)

/-- Turned by k places. -/
def rot (l : List Spot) (k : Nat) : List Spot := l.drop (k % l.length) ++ l.take (k % l.length)
theorem rot_len (l : List Spot) (k : Nat) : (rot l k).length = l.length := by
  unfold rot
  rcases Nat.eq_zero_or_pos l.length with h | h
  · have := List.eq_nil_of_length_eq_zero h; subst this; simp
  · have := Nat.mod_lt k h
    simp; omega
theorem rot_at (l : List Spot) (k i : Nat) (hi : i < l.length) : (rot l k).getD i (0, 0) = l.getD ((i + k) % l.length) (0, 0) := by
  have hk := Nat.mod_lt k (show l.length > 0 by omega)
  unfold rot
  have e : (i + k) % l.length = (i + k % l.length) % l.length := by rw [Nat.add_mod_mod]
  rw [e]
  generalize k % l.length = q at *
  simp only [List.getD_eq_getElem?_getD]
  by_cases h : i + q < l.length
  · rw [Nat.mod_eq_of_lt h, List.getElem?_append_left (by simp; omega), List.getElem?_drop, Nat.add_comm]
  · rw [Nat.mod_eq_sub_mod (by omega), Nat.mod_eq_of_lt (by omega), List.getElem?_append_right (by simp; omega), List.getElem?_take, if_pos (by simp; omega)]
    congr 2
    simp; omega
theorem alone_append (a b : List Spot) : alone (a ++ b) = alone a + alone b := by simp [alone]
theorem alone_rot (l : List Spot) (k : Nat) : alone (rot l k) = alone l := by
  unfold rot
  rw [alone_append]
  conv => rhs; rw [← List.take_append_drop (k % l.length) l, alone_append]
  omega
theorem mod_inj (n k i j : Nat) (hi : i < n) (hj : j < n) (h : (i + k) % n = (j + k) % n) : i = j := by
  have e : ∀ x, (x + k) % n = (x + k % n) % n := fun x => by rw [Nat.add_mod_mod]
  rw [e, e] at h
  have hk := Nat.mod_lt k (show n > 0 by omega)
  generalize k % n = q at *
  have c : ∀ x, x < n → (x + q) % n = if x + q < n then x + q else x + q - n := fun x hx => by
    split
    · exact Nat.mod_eq_of_lt ‹_›
    · rw [Nat.mod_eq_sub_mod (by omega), Nat.mod_eq_of_lt (by omega)]
  rw [c i hi, c j hj] at h
  split at h <;> split at h <;> omega
theorem mod_back (n k i : Nat) (hi : i < n) : (i + (n - k % n) + k) % n = i := by
  have hk := Nat.mod_lt k (show n > 0 by omega)
  rw [← Nat.add_mod_mod]
  rw [show i + (n - k % n) + k % n = i + n by omega, Nat.add_mod_right, Nat.mod_eq_of_lt hi]
theorem M_rot (ss gs : List Spot) (k l : Nat) : M (rot gs l) (rot ss k) 0 = M gs ss 0 := by
  refine Int.le_antisymm ?_ ?_
  · refine M_map (fun i => (i + k) % ss.length) (fun i => (i + l) % gs.length) ?_ ?_ ?_ ?_
    · intro i hi
      rw [rot_len] at hi
      exact ⟨Nat.mod_lt _ (by omega), (rot_at ss k i hi).symm⟩
    · intro i j hi hj h
      rw [rot_len] at hi hj
      exact mod_inj _ _ _ _ hi hj h
    · intro i hi
      rw [rot_len] at hi
      exact ⟨Nat.mod_lt _ (by omega), (rot_at gs l i hi).symm⟩
    · intro i j hi hj h
      rw [rot_len] at hi hj
      exact mod_inj _ _ _ _ hi hj h
  · refine M_map (fun i => (i + (ss.length - k % ss.length)) % ss.length) (fun i => (i + (gs.length - l % gs.length)) % gs.length) ?_ ?_ ?_ ?_
    · intro i hi
      have := Nat.mod_lt (i + (ss.length - k % ss.length)) (show ss.length > 0 by omega)
      refine ⟨by rw [rot_len]; exact this, ?_⟩
      rw [rot_at _ _ _ this, Nat.mod_add_mod, mod_back _ _ _ hi]
    · intro i j hi hj h
      exact mod_inj _ _ _ _ hi hj h
    · intro i hi
      have := Nat.mod_lt (i + (gs.length - l % gs.length)) (show gs.length > 0 by omega)
      refine ⟨by rw [rot_len]; exact this, ?_⟩
      rw [rot_at _ _ _ this, Nat.mod_add_mod, mod_back _ _ _ hi]
    · intro i j hi hj h
      exact mod_inj _ _ _ _ hi hj h

theorem M_more_s (ss gs : List Spot) (x : Spot) : M gs ss 0 ≤ M gs (ss ++ [x]) 0 ∧ M gs (ss ++ [x]) 0 ≤ M gs ss 0 + 2 * hm x := by
  constructor
  · refine M_map id id ?_ (fun _ _ _ _ h => h) (fun i hi => ⟨hi, rfl⟩) (fun _ _ _ _ h => h)
    intro i hi
    simp only [id, List.getD_eq_getElem?_getD]
    exact ⟨by simp; omega, by rw [List.getElem?_append_left hi]⟩
  · obtain ⟨m, h, hv⟩ := Mt.best (ss ++ [x]) gs
    have hnn := hm_nonneg x
    have hsame : ∀ m', Mt (ss ++ [x]) gs m' → (∀ q ∈ m', q.1 ≠ ss.length) → mv (ss ++ [x]) gs m' ≤ M gs ss 0 := fun m' h' hne => by
      have hlt : ∀ q ∈ m', q.1 < ss.length := fun q hq => by have := (h'.inn q hq).1; have := hne q hq; simp at *; omega
      have hm : Mt ss gs m' := ⟨fun q hq => ⟨hlt q hq, (h'.inn q hq).2⟩, h'.d1, h'.d2⟩
      have e : mv (ss ++ [x]) gs m' = mv ss gs m' := by
        unfold mv
        congr 1
        apply List.map_congr_left
        intro q hq
        simp only [List.getD_eq_getElem?_getD]
        rw [List.getElem?_append_left (hlt q hq)]
      rw [e]
      exact hm.le
    rw [← hv]
    by_cases h0 : ∃ q ∈ m, q.1 = ss.length
    · obtain ⟨⟨i, g⟩, hq, hi⟩ := h0
      simp only at hi
      subst hi
      obtain ⟨m1, m2, rfl⟩ := List.append_of_mem hq
      have hp : (m1 ++ (ss.length, g) :: m2).Perm ((ss.length, g) :: (m1 ++ m2)) := List.perm_middle
      have h' := h.perm hp
      have d1 := h'.d1
      have d2 := h'.d2
      rw [List.map_cons, List.nodup_cons] at d1 d2
      have := hsame (m1 ++ m2) ⟨fun q hq => h'.inn q (List.mem_cons_of_mem _ hq), d1.2, d2.2⟩ (fun q hq e => d1.1 (List.mem_map.2 ⟨q, hq, e⟩))
      rw [mv_perm hp]
      have e : mv (ss ++ [x]) gs ((ss.length, g) :: (m1 ++ m2)) = sv x (gs.getD g (0, 0)) + mv (ss ++ [x]) gs (m1 ++ m2) := by simp [mv]
      rw [e]
      have := sv_le_s x (gs.getD g (0, 0))
      omega
    · have := hsame m h (fun q hq e => h0 ⟨q, hq, e⟩)
      omega
theorem M_more_g (ss gs : List Spot) (x : Spot) : M gs ss 0 ≤ M (gs ++ [x]) ss 0 ∧ M (gs ++ [x]) ss 0 ≤ M gs ss 0 + 2 * hm x := by
  have := M_more_s gs ss x
  rw [M_swap ss gs, M_swap ss (gs ++ [x])]
  exact this

end Go.Proofs.Ytggogohoakbepaa
