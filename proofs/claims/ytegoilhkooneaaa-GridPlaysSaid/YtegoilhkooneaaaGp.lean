/-
  Plain: how often a tote stands in a rack; the room; what Put and Do do to both.
-/
import Derived.Test.YtegoilhkooneaaaGr11
namespace Go.Proofs.Ytegoilhkooneaaa
set_option linter.unusedVariables false
set_option linter.unusedSimpArgs false

theorem idx_mem (t : Int) (l : List Int) : 0 ≤ idx t l ↔ t ∈ l := by
  induction l with
  | nil => simp [idx]
  | cons x r ih =>
    unfold idx
    have := idx_ge t r
    by_cases e : t = x
    · simp [e]
    · rw [if_neg e]
      simp only [List.mem_cons, e, false_or, ← ih]
      split <;> omega
theorem idx_cnt (t : Int) (l : List Int) : 0 ≤ idx t l ↔ 0 < l.count t := by rw [idx_mem, List.count_pos_iff]

/-- All totes of a rack. -/
def allT (R : List Lan) : List Int := R.flatMap (·.2)
def cnt (t : Int) (R : List Lan) : Nat := (allT R).count t
theorem cnt_nil (t : Int) : cnt t [] = 0 := rfl
theorem cnt_cons (t : Int) (x : Lan) (R : List Lan) : cnt t (x :: R) = x.2.count t + cnt t R := by simp [cnt, allT, List.count_append]
theorem roomR_cons (x : Lan) (R : List Lan) : roomR (x :: R) = ((x.1 : Int) - x.2.length) + roomR R := by simp [roomR]
theorem lan_zero (x : Lan) (R : List Lan) : lan (x :: R) 0 = x := rfl
theorem lan_succ (x : Lan) (R : List Lan) (i : Nat) : lan (x :: R) (i + 1) = lan R i := rfl

theorem cnt_set (t : Int) (R : List Lan) (i : Nat) (hi : i < R.length) (y : Lan) : cnt t (R.set i y) + (lan R i).2.count t = cnt t R + y.2.count t := by
  induction R generalizing i with
  | nil => simp at hi
  | cons x r ih =>
    cases i with
    | zero => rw [List.set_cons_zero, cnt_cons, cnt_cons, lan_zero]; omega
    | succ i =>
      have := ih i (by simpa using hi)
      rw [List.set_cons_succ, cnt_cons, cnt_cons, lan_succ]
      omega
theorem roomR_set (R : List Lan) (i : Nat) (hi : i < R.length) (y : Lan) : roomR (R.set i y) + (((lan R i).1 : Int) - (lan R i).2.length) = roomR R + ((y.1 : Int) - y.2.length) := by
  induction R generalizing i with
  | nil => simp at hi
  | cons x r ih =>
    cases i with
    | zero => rw [List.set_cons_zero, roomR_cons, roomR_cons, lan_zero]; omega
    | succ i =>
      have := ih i (by simpa using hi)
      rw [List.set_cons_succ, roomR_cons, roomR_cons, lan_succ]
      omega
theorem cnt_lane (t : Int) (R : List Lan) (i : Nat) (hi : i < R.length) : (lan R i).2.count t ≤ cnt t R := by
  induction R generalizing i with
  | nil => simp at hi
  | cons x r ih =>
    cases i with
    | zero => rw [cnt_cons, lan_zero]; omega
    | succ i =>
      have := ih i (by simpa using hi)
      rw [cnt_cons, lan_succ]
      omega
theorem cnt_two (t : Int) (R : List Lan) (i j : Nat) (hi : i < R.length) (hj : j < R.length) (hij : i ≠ j) : (lan R i).2.count t + (lan R j).2.count t ≤ cnt t R := by
  induction R generalizing i j with
  | nil => simp at hi
  | cons x r ih =>
    cases i with
    | zero =>
      cases j with
      | zero => exact absurd rfl hij
      | succ j =>
        have := cnt_lane t r j (by simpa using hj)
        rw [cnt_cons, lan_zero, lan_succ]; omega
    | succ i =>
      cases j with
      | zero =>
        have := cnt_lane t r i (by simpa using hi)
        rw [cnt_cons, lan_zero, lan_succ]; omega
      | succ j =>
        have := ih i j (by simpa using hi) (by simpa using hj) (by omega)
        rw [cnt_cons, lan_succ, lan_succ]; omega
theorem cnt_some (t : Int) (R : List Lan) (h : 0 < cnt t R) : ∃ i, i < R.length ∧ 0 < (lan R i).2.count t := by
  induction R with
  | nil => simp [cnt, allT] at h
  | cons x r ih =>
    rw [cnt_cons] at h
    by_cases e : 0 < x.2.count t
    · exact ⟨0, by simp, e⟩
    · obtain ⟨i, hi, hc⟩ := ih (by omega)
      exact ⟨i + 1, by simpa using hi, hc⟩
theorem where_cnt (t : Int) (R : List Lan) : 0 ≤ whereR t R ↔ 0 < cnt t R := by
  constructor
  · intro h
    obtain ⟨n, hn⟩ : ∃ n : Nat, whereR t R = n := ⟨(whereR t R).toNat, by omega⟩
    obtain ⟨h1, h2, _⟩ := whereR_at t R n hn
    have := (idx_cnt t (lan R n).2).1 h2
    have := cnt_lane t R n h1
    omega
  · intro h
    obtain ⟨i, hi, hc⟩ := cnt_some t R h
    rcases Int.lt_or_le (whereR t R) 0 with h' | h'
    · have := where_none (t := t) (R := R) (by omega) i hi
      have := (idx_cnt t (lan R i).2).2 hc
      omega
    · exact h'

/-- No lane holds more than its depth. -/
def Good (R : List Lan) : Prop := ∀ i, i < R.length → (lan R i).2.length ≤ (lan R i).1
theorem RackAt.good {w : Go.World} {p : Nat} {gs : List Nat} {R : List Lan} (h : RackAt w p gs R) : Good R := fun i hi => (h.lane i hi).1
theorem Good.tail {x : Lan} {R : List Lan} (h : Good (x :: R)) : Good R := fun i hi => by have := h (i + 1) (by simpa using hi); simpa [lan_succ] using this
theorem Good.head {x : Lan} {R : List Lan} (h : Good (x :: R)) : x.2.length ≤ x.1 := h 0 (by simp)
theorem roomR_nonneg {R : List Lan} (h : Good R) : 0 ≤ roomR R := by
  induction R with
  | nil => simp [roomR]
  | cons x r ih =>
    have := ih h.tail
    have := h.head
    rw [roomR_cons]; omega
theorem roomR_lane {R : List Lan} (h : Good R) (i : Nat) (hi : i < R.length) : ((lan R i).1 : Int) - (lan R i).2.length ≤ roomR R := by
  induction R generalizing i with
  | nil => simp at hi
  | cons x r ih =>
    have h1 := roomR_nonneg h.tail
    have h2 := h.head
    cases i with
    | zero => rw [roomR_cons, lan_zero]; omega
    | succ i =>
      have := ih h.tail i (by simpa using hi)
      rw [roomR_cons, lan_succ]; omega
theorem roomR_pos {R : List Lan} (h : Good R) (hr : 0 < roomR R) : ∃ i, i < R.length ∧ (lan R i).2.length < (lan R i).1 := by
  induction R with
  | nil => simp [roomR] at hr
  | cons x r ih =>
    rw [roomR_cons] at hr
    have h2 := h.head
    by_cases e : x.2.length < x.1
    · exact ⟨0, by simp, e⟩
    · obtain ⟨i, hi, hc⟩ := ih h.tail (by omega)
      exact ⟨i + 1, by simpa using hi, hc⟩

/-! ### Put -/
theorem putB_some {R : List Lan} (h : Good R) (hr : 0 < roomR R) : ∃ i : Nat, i < R.length ∧ putB R = i ∧ (lan R i).2.length < (lan R i).1 ∧ ∀ j, j < R.length → (lan R j).2.length < (lan R j).1 → (lan R i).2.length ≤ (lan R j).2.length ∧ (j < i → (lan R i).2.length < (lan R j).2.length) := by
  have hok : ∀ j, okR (-1) R (zer R.length) j ↔ (lan R j).2.length < (lan R j).1 := fun j => by unfold okR; rw [zer_get]; omega
  have hct : ∀ j, cntR R (zer R.length) j = (lan R j).2.length := fun j => by unfold cntR; rw [zer_get]; omega
  rcases bstR_spec (-1) R (zer R.length) R.length with ⟨h1, h2⟩ | ⟨i, hi, h1, h2, h3⟩
  · exfalso
    obtain ⟨i, hi, hc⟩ := roomR_pos h hr
    exact h2 i hi ((hok i).2 hc)
  · refine ⟨i, hi, by unfold putB bestR; rw [h1], (hok i).1 h2, fun j hj hc => ?_⟩
    have := h3 j hj ((hok j).2 hc)
    rw [hct, hct] at this
    omega
theorem putB_none {R : List Lan} (h : Good R) (hr : roomR R ≤ 0) : putB R = -1 := by
  rcases bstR_spec (-1) R (zer R.length) R.length with ⟨h1, h2⟩ | ⟨i, hi, h1, h2, h3⟩
  · unfold putB bestR; rw [h1]
  · exfalso
    have := roomR_lane h i hi
    unfold okR at h2; rw [zer_get] at h2
    omega
/-- A Put that is done. -/
theorem put_done {R : List Lan} {t : Int} (h : Good R) (h1 : 1 ≤ t) (h30 : t ≤ 30) (hc : cnt t R = 0) (hr : 0 < roomR R) :
    putE R t = 0 ∧ ∃ i : Nat, i < R.length ∧ putB R = i ∧ (lan R i).2.length < (lan R i).1 ∧ putR R t = R.set i ((lan R i).1, (lan R i).2 ++ [t]) := by
  obtain ⟨i, hi, hb, hlt, _⟩ := putB_some h hr
  have hw : ¬ 0 ≤ whereR t R := fun e => by have := (where_cnt t R).1 e; omega
  have e1 : putE R t = 0 := by unfold putE; rw [if_neg (by omega), if_neg hw, if_neg (by omega)]
  refine ⟨e1, i, hi, hb, hlt, ?_⟩
  unfold putR
  rw [if_pos e1, hb]; simp
theorem put_full {R : List Lan} {t : Int} (h : Good R) (h1 : 1 ≤ t) (h30 : t ≤ 30) (hc : cnt t R = 0) (hr : roomR R ≤ 0) : putE R t = 5 ∧ putR R t = R ∧ putI R t = 0 := by
  have hw : ¬ 0 ≤ whereR t R := fun e => by have := (where_cnt t R).1 e; omega
  have e1 : putE R t = 5 := by unfold putE; rw [if_neg (by omega), if_neg hw, if_pos (by rw [putB_none h hr]; omega)]
  refine ⟨e1, ?_, ?_⟩
  · unfold putR; rw [if_neg (by rw [e1]; decide)]
  · unfold putI; rw [if_neg (by rw [e1]; decide)]
theorem put_twice {R : List Lan} {t : Int} (h1 : 1 ≤ t) (h30 : t ≤ 30) (hc : 0 < cnt t R) : putE R t = 2 ∧ putR R t = R ∧ putI R t = 0 := by
  have e1 : putE R t = 2 := by unfold putE; rw [if_neg (by omega), if_pos ((where_cnt t R).2 hc)]
  refine ⟨e1, ?_, ?_⟩
  · unfold putR; rw [if_neg (by rw [e1]; decide)]
  · unfold putI; rw [if_neg (by rw [e1]; decide)]
theorem good_set {R : List Lan} (h : Good R) (i : Nat) (hi : i < R.length) (d : Nat) (T : List Int) (hT : T.length ≤ d) : Good (R.set i (d, T)) := fun j hj => by
  rw [lan_set _ _ _ _ hi]
  rw [List.length_set] at hj
  split
  · exact hT
  · exact h j hj
theorem putR_len (R : List Lan) (t : Int) : (putR R t).length = R.length := by unfold putR; split <;> simp

/-- What the Put of a tote does to counts and room. -/
structure PutTo (R R' : List Lan) (t : Int) : Prop where
  good : Good R'
  room : roomR R' = roomR R - 1
  cnt : ∀ u, cnt u R' = cnt u R + if u = t then 1 else 0
  len : R'.length = R.length
theorem put_to {R : List Lan} {t : Int} (h : Good R) (h1 : 1 ≤ t) (h30 : t ≤ 30) (hc : cnt t R = 0) (hr : 0 < roomR R) : PutTo R (putR R t) t := by
  obtain ⟨_, i, hi, _, hlt, e⟩ := put_done h h1 h30 hc hr
  rw [e]
  refine ⟨good_set h i hi _ _ (by simp; omega), ?_, fun u => ?_, by simp⟩
  · have := roomR_set R i hi ((lan R i).1, (lan R i).2 ++ [t])
    simp only [List.length_append, List.length_singleton] at this
    omega
  · have := cnt_set u R i hi ((lan R i).1, (lan R i).2 ++ [t])
    simp only [List.count_append, List.count_singleton] at this
    by_cases e : u = t
    · subst e; simp at this ⊢; omega
    · have e' : (t == u) = false := by simp; exact fun h => e h.symm
      rw [e'] at this
      rw [if_neg e]
      simp at this; omega
end Go.Proofs.Ytegoilhkooneaaa
