/-
  Plain: what the law of plans looks at.
-/
import Derived.Test.YtegoilhkooneaaaGp3
namespace Go.Proofs.Ytegoilhkooneaaa
set_option linter.unusedVariables false
set_option linter.unusedSimpArgs false

/-- Where tote x stands in its lane. -/
theorem lane_eq {l : List Int} {x : Int} {i : Nat} (h : l.count x ≤ 1) (hi : idx x l = i) (k : Nat) (hk : k < l.length) : l.getD k 0 = x ↔ k = i := by
  obtain ⟨P, Q, e, hP⟩ := idx_split hi
  subst e
  simp only [List.count_append, List.count_cons_self] at h
  have hp : P.count x = 0 := by omega
  have hq : Q.count x = 0 := by omega
  rw [List.count_eq_zero] at hp hq
  simp only [List.getD]
  rcases Nat.lt_trichotomy k P.length with h1 | h1 | h1
  · rw [List.getElem?_append_left h1, List.getElem?_eq_getElem h1, Option.getD_some]
    constructor
    · intro e; exact absurd (e ▸ List.getElem_mem h1) hp
    · omega
  · subst h1; simp [hP]
  · rw [List.getElem?_append_right (by omega), show k - P.length = (k - P.length - 1) + 1 by omega, List.getElem?_cons_succ]
    have h2 : k - P.length - 1 < Q.length := by simp at hk; omega
    rw [List.getElem?_eq_getElem h2, Option.getD_some]
    constructor
    · intro e; exact absurd (e ▸ List.getElem_mem h2) hq
    · omega
theorem ahead_len (ts : List Int) (t : Int) (i : Nat) (h : idx t ts = i) : (aheadL ts t).length = ts.length - (i + 1) := by unfold aheadL; rw [h]; simp

/-- The room of the first k lanes but lane a. -/
def roomK (R : List Lan) (a k : Nat) : Int := roomR (R.take k) - if a < k then ((lan R a).1 : Int) - (lan R a).2.length else 0
theorem roomK_zero (R : List Lan) (a : Nat) : roomK R a 0 = 0 := by simp [roomK, roomR]
theorem roomK_step (R : List Lan) (a k : Nat) (hk : k < R.length) : roomK R a (k + 1) = if k = a then roomK R a k else roomK R a k + (((lan R k).1 : Int) - (lan R k).2.length) := by
  unfold roomK
  rw [roomR_take R k hk]
  by_cases e : k = a
  · subst e
    simp only [Nat.lt_irrefl, if_false, Nat.lt_succ_self, if_true]
    omega
  · rw [if_neg e]
    by_cases e2 : a < k
    · rw [if_pos e2, if_pos (show a < k + 1 by omega)]; omega
    · rw [if_neg e2, if_neg (show ¬ a < k + 1 by omega)]; omega
theorem roomK_all (R : List Lan) (a : Nat) (ha : a < R.length) : roomK R a R.length = roomX R a := by
  unfold roomK roomX
  rw [List.take_of_length_le (Nat.le_refl _), if_pos ha]

/-- The depths stay. -/
theorem putR_dep (R : List Lan) (t : Int) (i : Nat) : (lan (putR R t) i).1 = (lan R i).1 := by
  unfold putR
  split
  · by_cases h : (putB R).toNat < R.length
    · rw [lan_set _ _ _ _ h]
      split
      · subst_vars; rfl
      · rfl
    · rw [List.set_eq_of_length_le (by omega)]
  · rfl
theorem fill_dep (R : List Lan) (ts : List Int) (i : Nat) : (lan (fill R ts) i).1 = (lan R i).1 := by
  induction ts generalizing R with
  | nil => rfl
  | cons t r ih => rw [show fill R (t :: r) = fill (putR R (tt t)) r from rfl, ih, putR_dep]
theorem rack0_dep (ds : List Int) (h : okDs ds) (i : Nat) (hi : i < ds.length) : ((lan (rack0 ds) i).1 : Int) = ds.getD i 0 := by
  have hx := h.2.2 ds[i] (List.getElem_mem hi)
  unfold okD at hx
  unfold lan rack0
  simp only [List.getD, List.getElem?_map, List.getElem?_eq_getElem hi, Option.map_some, Option.getD_some]
  omega

theorem cnt_take (t : Int) (R : List Lan) (k : Nat) (hk : k < R.length) : cnt t (R.take (k + 1)) = cnt t (R.take k) + (lan R k).2.count t := by
  unfold cnt allT lan
  rw [List.take_succ_eq_append_getElem hk, List.flatMap_append, List.count_append]
  simp [List.getD, List.getElem?_eq_getElem hk]
theorem cnt_take_le (t : Int) (R : List Lan) (k : Nat) : cnt t (R.take k) ≤ cnt t R := by
  have h : R = R.take k ++ R.drop k := (List.take_append_drop k R).symm
  have h2 : cnt t R = cnt t (R.take k) + cnt t (R.drop k) := by
    conv => lhs; rw [h]
    unfold cnt allT
    rw [List.flatMap_append, List.count_append]
  omega
theorem count_take_le (t : Int) (l : List Int) (k : Nat) : (l.take k).count t ≤ l.count t := (List.take_sublist k l).count_le t
theorem count_take (t : Int) (l : List Int) (k : Nat) (hk : k < l.length) : (l.take (k + 1)).count t = (l.take k).count t + if l.getD k 0 = t then 1 else 0 := by
  rw [List.take_succ_eq_append_getElem hk, List.count_append, List.count_singleton]
  simp only [List.getD, List.getElem?_eq_getElem hk, Option.getD_some]
  by_cases e : l[k] = t
  · simp [e]
  · simp [e]
theorem where_min {R : List Lan} (h : WF R) (t : Int) : min (whereR t R + 1) 1 = (cnt t R : Int) := by
  have h1 := where_cnt t R
  have h2 := whereR_ge t R
  have h3 := h.nd t
  by_cases e : 0 < cnt t R
  · have := h1.2 e; omega
  · have : ¬ 0 ≤ whereR t R := fun q => e (h1.1 q)
    omega
theorem runL_head {R Rf : List Lan} {m : Mv} {r : List Mv} (h : runL R (m :: r) = some Rf) : doE R m.1 m.2.1 m.2.2 = 0 ∧ runL (doR R m.1 m.2.1 m.2.2) r = some Rf := by
  rw [runL_cons] at h
  split at h
  · exact ⟨by assumption, h⟩
  · cases h
theorem roomR_le (R : List Lan) (h : ∀ i, i < R.length → (lan R i).1 ≤ 8) : roomR R ≤ 8 * (R.length : Int) := by
  induction R with
  | nil => simp [roomR]
  | cons x r ih =>
    have h1 := ih (fun i hi => by have := h (i + 1) (by simpa using hi); simpa [lan_succ] using this)
    have h2 := h 0 (by simp)
    rw [lan_zero] at h2
    rw [roomR_cons, List.length_cons]
    omega
theorem roomR_bd {w : Go.World} {p : Nat} {gs : List Nat} {R : List Lan} (h : RackAt w p gs R) : roomR R ≤ 8 * (R.length : Int) := roomR_le R (fun i hi => (h.lane i hi).2.2.1)
/-- The rack behind a whole plan. -/
structure OutOf (R Rf : List Lan) (x : Int) : Prop where
  wf : WF Rf
  len : Rf.length = R.length
  cnt : ∀ u, cnt u Rf + (if u = x then 1 else 0) = cnt u R
  room : roomR Rf = roomR R + 1
  dep : ∀ i, i < R.length → (lan Rf i).1 = (lan R i).1
theorem out_of {R R1 : List Lan} {x : Int} {a : Nat} {P : List Int} (ha : a < R.length) (h : Ran R R1 a (P ++ [x])) : OutOf R (outT R1 a P) x := by
  have ha1 : a < R1.length := by rw [h.len]; exact ha
  refine ⟨h.wf.out ha1 h.lane, by rw [outT_len, h.len], fun u => by rw [outT_cnt ha1 h.lane, h.cnt], by rw [outT_room ha1 h.lane, h.room], fun i hi => ?_⟩
  rw [outT_lan ha1]
  split
  · subst_vars; exact h.dep _ hi
  · exact h.dep i hi
end Go.Proofs.Ytegoilhkooneaaa
