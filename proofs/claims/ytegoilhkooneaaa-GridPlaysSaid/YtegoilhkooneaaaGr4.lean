/-
  Package grid: a lane of the rack has turned; Put.
-/
import Derived.Test.YtegoilhkooneaaaGr3
namespace Go.Proofs.Ytegoilhkooneaaa
open Go.RowKit Go.Sort
set_option linter.unusedVariables false
set_option linter.unusedSimpArgs false

theorem lan_set (R : List Lan) (i j : Nat) (x : Lan) (hi : i < R.length) : lan (R.set i x) j = if i = j then x else lan R j := by
  unfold lan
  simp only [List.getD, List.getElem?_set]
  split
  · subst_vars; simp [hi]
  · rfl
/-- Lane i has turned. -/
theorem RackAt.upd {w w' : World} {p : Nat} {gs : List Nat} {R : List Lan} (h : RackAt w p gs R) (i : Nat) (hi : i < R.length) {T : List Int} (hL : LaneAt w' (gs.getD i 0) T (lan R i).1) (hf : Fr w w' (One (gs.getD i 0))) :
    RackAt w' p gs (R.set i ((lan R i).1, T)) := by
  obtain ⟨v, h1, h2⟩ := h.row
  have h0 := h.lane i hi
  obtain ⟨_, _, _, r, _, hb⟩ := h0
  refine ⟨⟨v, hf.blk h1 (fun e => blk_ne h1 hb (by decide) e), h2.keep hf (fun g e e' => Sl.ne h2 hb (by decide) (by rw [e, show g = gs.getD i 0 from e']))⟩, ⟨by rw [List.length_set]; exact h.len, fun j hj => ?_, fun a b ha hb' e => h.lanes.inj a b (by simpa using ha) (by simpa using hb') e⟩, by rw [List.length_set]; exact h.le⟩
  rw [List.length_set] at hj
  have e : (R.set i ((lan R i).1, T)).getD j (1, []) = if i = j then ((lan R i).1, T) else R.getD j (1, []) := lan_set R i j ((lan R i).1, T) hi
  rw [e]
  by_cases hij : i = j
  · subst hij
    rw [if_pos rfl]
    exact hL
  · rw [if_neg hij]
    exact (h.lane j hj).keep hf (fun e' => hij (h.lanes.inj i j hi hj (show gs.getD j 0 = gs.getD i 0 from e').symm))

theorem bstR_spec (but : Int) (R : List Lan) (ms : List Int) (k : Nat) : (bstR but R ms k = (-1, 0) ∧ ∀ i, i < k → ¬ okR but R ms i) ∨
    ∃ i, i < k ∧ bstR but R ms k = ((i : Int), cntR R ms i) ∧ okR but R ms i ∧ ∀ j, j < k → okR but R ms j → cntR R ms i ≤ cntR R ms j ∧ (j < i → cntR R ms i < cntR R ms j) := by
  induction k with
  | zero => exact .inl ⟨rfl, fun i hi => absurd hi (Nat.not_lt_zero i)⟩
  | succ k ih =>
    have hst : bstR but R ms (k + 1) = if okR but R ms k ∧ ((bstR but R ms k).1 < 0 ∨ cntR R ms k < (bstR but R ms k).2) then ((k : Int), cntR R ms k) else bstR but R ms k := rfl
    rcases ih with ⟨h1, h2⟩ | ⟨i, hi, h1, h2, h3⟩
    · rw [h1] at hst
      by_cases ho : okR but R ms k
      · rw [if_pos ⟨ho, .inl (by decide)⟩] at hst
        refine .inr ⟨k, by omega, hst, ho, fun j hj hoj => ?_⟩
        rcases Nat.lt_or_ge j k with h | h
        · exact absurd hoj (h2 j h)
        · obtain rfl : j = k := by omega
          exact ⟨Int.le_refl _, fun h => by omega⟩
      · rw [if_neg (fun h => ho h.1)] at hst
        refine .inl ⟨hst, fun j hj => ?_⟩
        rcases Nat.lt_or_ge j k with h | h
        · exact h2 j h
        · obtain rfl : j = k := by omega
          exact ho
    · rw [h1] at hst
      simp only at hst
      by_cases ho : okR but R ms k ∧ cntR R ms k < cntR R ms i
      · rw [if_pos ⟨ho.1, .inr ho.2⟩] at hst
        refine .inr ⟨k, by omega, hst, ho.1, fun j hj hoj => ?_⟩
        rcases Nat.lt_or_ge j k with h | h
        · have := h3 j h hoj
          exact ⟨by omega, fun _ => by omega⟩
        · obtain rfl : j = k := by omega
          exact ⟨Int.le_refl _, fun h => by omega⟩
      · rw [if_neg (fun h => ho ⟨h.1, by rcases h.2 with h' | h'; omega; exact h'⟩)] at hst
        refine .inr ⟨i, by omega, hst, h2, fun j hj hoj => ?_⟩
        rcases Nat.lt_or_ge j k with h | h
        · exact h3 j h hoj
        · obtain rfl : j = k := by omega
          refine ⟨?_, fun h => by omega⟩
          rcases Int.lt_or_le (cntR R ms j) (cntR R ms i) with h' | h'
          · exact absurd ⟨hoj, h'⟩ ho
          · exact h'
end Go.Proofs.Ytegoilhkooneaaa
