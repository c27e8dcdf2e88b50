/-
  Plain: a plan, and the doing of it.
-/
import Derived.Test.YtegoilhkooneaaaGp2
namespace Go.Proofs.Ytegoilhkooneaaa
set_option linter.unusedVariables false
set_option linter.unusedSimpArgs false

/-- The plan, made with the totes moved at once. -/
def planS (a : Nat) : List Lan → List Int → Option (List Mv)
  | _, [] => some []
  | R, x :: r => if bestR a R (zer R.length) < 0 then none else (planS a (movT R x a (bestR a R (zer R.length)).toNat (lan R a).2.dropLast) r).map ((x, (a : Int), bestR a R (zer R.length)) :: ·)
theorem planS_nil (a : Nat) (R : List Lan) : planS a R [] = some [] := by unfold planS; rfl
theorem planS_cons (a : Nat) (R : List Lan) (x : Int) (r : List Int) : planS a R (x :: r) = if bestR a R (zer R.length) < 0 then none else (planS a (movT R x a (bestR a R (zer R.length)).toNat (lan R a).2.dropLast) r).map ((x, (a : Int), bestR a R (zer R.length)) :: ·) := by rw [planS]

/-- What best looks at is the same. -/
theorem bestR_same {but : Int} {R R' : List Lan} {ms ms' : List Int} (hl : R.length = R'.length) (h : ∀ i, i < R.length → (i : Int) ≠ but → cntR R ms i = cntR R' ms' i ∧ (okR but R ms i ↔ okR but R' ms' i)) : bestR but R ms = bestR but R' ms' := by
  have key : ∀ k, k ≤ R.length → bstR but R ms k = bstR but R' ms' k := by
    intro k
    induction k with
    | zero => intro _; rfl
    | succ k ih =>
      intro hk
      have h0 := ih (by omega)
      have e1 : bstR but R ms (k + 1) = if okR but R ms k ∧ ((bstR but R ms k).1 < 0 ∨ cntR R ms k < (bstR but R ms k).2) then ((k : Int), cntR R ms k) else bstR but R ms k := rfl
      have e2 : bstR but R' ms' (k + 1) = if okR but R' ms' k ∧ ((bstR but R' ms' k).1 < 0 ∨ cntR R' ms' k < (bstR but R' ms' k).2) then ((k : Int), cntR R' ms' k) else bstR but R' ms' k := rfl
      rw [e1, e2, h0]
      by_cases hb : (k : Int) = but
      · rw [if_neg (fun q => q.1.1 hb), if_neg (fun q => q.1.1 hb)]
      · obtain ⟨c, o⟩ := h k (by omega) hb
        rw [c]
        simp only [o]
  unfold bestR
  rw [← hl, key _ (Nat.le_refl _)]

/-- The rack as it will stand, when so many totes have come. -/
structure Sim (a : Nat) (R Rk : List Lan) (ms : List Int) : Prop where
  len : Rk.length = R.length
  mlen : ms.length = R.length
  dep : ∀ i, i < R.length → (lan Rk i).1 = (lan R i).1
  cnt : ∀ i, i < R.length → i ≠ a → ((lan Rk i).2.length : Int) = (lan R i).2.length + ms.getD i 0
theorem Sim.best {a : Nat} {R Rk : List Lan} {ms : List Int} (h : Sim a R Rk ms) : bestR a R ms = bestR a Rk (zer Rk.length) := by
  refine bestR_same h.len.symm (fun i hi hne => ?_)
  have h1 := h.dep i hi
  have h2 := h.cnt i hi (by omega)
  unfold cntR okR
  rw [zer_get, h1]
  refine ⟨by omega, ?_⟩
  constructor
  · rintro ⟨q1, q2⟩; exact ⟨q1, by omega⟩
  · rintro ⟨q1, q2⟩; exact ⟨q1, by omega⟩
theorem Sim.init (a : Nat) (R : List Lan) : Sim a R R (zer R.length) := ⟨rfl, by simp [zer], fun _ _ => rfl, fun i _ _ => by rw [zer_get]; omega⟩
theorem best_spec {a : Nat} {R : List Lan} (h : ¬ bestR a R (zer R.length) < 0) : ∃ m : Nat, m < R.length ∧ bestR a R (zer R.length) = m ∧ m ≠ a ∧ (lan R m).2.length < (lan R m).1 := by
  obtain ⟨i, hi, hb, hok⟩ := bestR_lt a R (zer R.length) h
  unfold okR at hok
  rw [zer_get] at hok
  exact ⟨i, hi, hb, by omega, by omega⟩
theorem best_full {a : Nat} {R : List Lan} (h : bestR a R (zer R.length) < 0) : ∀ i, i < R.length → i ≠ a → ¬ (lan R i).2.length < (lan R i).1 := by
  intro i hi hne hlt
  rcases bstR_spec a R (zer R.length) R.length with ⟨h1, h2⟩ | ⟨j, hj, h1, h2, h3⟩
  · exact h2 i hi (by unfold okR; rw [zer_get]; omega)
  · unfold bestR at h; rw [h1] at h; simp at h; omega
theorem Sim.step {a : Nat} {R Rk : List Lan} {ms : List Int} (h : Sim a R Rk ms) (ha : a < R.length) (x : Int) {m : Nat} (hm : m < R.length) (hma : m ≠ a) (T : List Int) : Sim a R (movT Rk x a m T) (inc ms m) := by
  have hl := h.len
  have hlan := movT_lan (R := Rk) (t := x) (n := a) (m := m) (T := T) (by omega) (by omega) hma
  refine ⟨by rw [movT_len]; exact hl, by rw [inc_len]; exact h.mlen, fun i hi => ?_, fun i hi hne => ?_⟩
  · rw [hlan]
    split
    · subst_vars; exact h.dep _ ha
    · split
      · subst_vars; exact h.dep _ hm
      · exact h.dep i hi
  · rw [hlan, if_neg hne, inc_get _ _ _ (by rw [h.mlen]; exact hm)]
    by_cases e : i = m
    · subst e
      rw [if_pos rfl, if_pos rfl]
      have := h.cnt i hi hne
      simp only [List.length_append, List.length_singleton]
      omega
    · rw [if_neg e, if_neg (Ne.symm e)]
      exact h.cnt i hi hne
theorem plan_sim {a : Nat} {R : List Lan} (ha : a < R.length) (A : List Int) : ∀ {Rk : List Lan} {ms : List Int}, Sim a R Rk ms → plan a R ms A = planS a Rk A := by
  induction A with
  | nil => intro Rk ms h; rw [plan_nil, planS_nil]
  | cons x r ih =>
    intro Rk ms h
    rw [plan_cons, planS_cons, h.best]
    by_cases hb : bestR a Rk (zer Rk.length) < 0
    · rw [if_pos hb, if_pos hb]
    · rw [if_neg hb, if_neg hb]
      obtain ⟨m, hm, hbm, hma, hr⟩ := best_spec hb
      have hl := h.len
      rw [hbm, Int.toNat_natCast]
      rw [ih (h.step ha x (by omega) hma _)]

/-- Moves done in order; none: one was refused. -/
def runL : List Lan → List Mv → Option (List Lan)
  | R, [] => some R
  | R, m :: r => if doE R m.1 m.2.1 m.2.2 = 0 then runL (doR R m.1 m.2.1 m.2.2) r else none
theorem runL_nil (R : List Lan) : runL R [] = some R := by unfold runL; rfl
theorem runL_cons (R : List Lan) (m : Mv) (r : List Mv) : runL R (m :: r) = if doE R m.1 m.2.1 m.2.2 = 0 then runL (doR R m.1 m.2.1 m.2.2) r else none := by rw [runL]
theorem runL_append (l : List Mv) : ∀ (R : List Lan) (l' : List Mv), runL R (l ++ l') = (runL R l).bind (fun R' => runL R' l') := by
  induction l with
  | nil => intro R l'; rw [List.nil_append, runL_nil]; rfl
  | cons m r ih =>
    intro R l'
    rw [List.cons_append, runL_cons, runL_cons]
    split
    · exact ih _ _
    · rfl

/-- The room outside lane a. -/
def roomX (R : List Lan) (a : Nat) : Int := roomR R - (((lan R a).1 : Int) - (lan R a).2.length)
theorem roomX_full {R : List Lan} (a : Nat) (h : Good R) (ha : a < R.length) (hf : ∀ i, i < R.length → i ≠ a → ¬ (lan R i).2.length < (lan R i).1) : roomX R a = 0 := by
  unfold roomX
  induction R generalizing a with
  | nil => simp at ha
  | cons x r ih =>
    rw [roomR_cons]
    cases a with
    | zero =>
      rw [lan_zero]
      have : roomR r = 0 := by
        have h1 := roomR_nonneg h.tail
        rcases Int.lt_or_le 0 (roomR r) with h' | h'
        · obtain ⟨i, hi, hc⟩ := roomR_pos h.tail h'
          exact absurd hc (by have := hf (i + 1) (by simpa using hi) (by omega); simpa [lan_succ] using this)
        · omega
      omega
    | succ a =>
      rw [lan_succ]
      have h1 := ih a h.tail (by simpa using ha) (fun i hi hne => by have := hf (i + 1) (by simpa using hi) (by omega); simpa [lan_succ] using this)
      have h2 := hf 0 (by simp) (by omega)
      have h3 := h.head
      rw [lan_zero] at h2
      omega
theorem roomX_lane {R : List Lan} (a m : Nat) (h : Good R) (ha : a < R.length) (hm : m < R.length) (hma : m ≠ a) : ((lan R m).1 : Int) - (lan R m).2.length ≤ roomX R a := by
  unfold roomX
  induction R generalizing a m with
  | nil => simp at ha
  | cons x r ih =>
    rw [roomR_cons]
    have h3 := h.head
    cases a with
    | zero =>
      cases m with
      | zero => exact absurd rfl hma
      | succ m =>
        have := roomR_lane h.tail m (by simpa using hm)
        rw [lan_zero, lan_succ]; omega
    | succ a =>
      cases m with
      | zero =>
        have := roomR_lane h.tail a (by simpa using ha)
        rw [lan_zero, lan_succ]; omega
      | succ m =>
        have := ih a m h.tail (by simpa using ha) (by simpa using hm) (by omega)
        rw [lan_succ, lan_succ]; omega

/-- What a plan's moves make of the rack. -/
structure Ran (R R' : List Lan) (a : Nat) (P : List Int) : Prop where
  wf : WF R'
  len : R'.length = R.length
  lane : (lan R' a).2 = P
  dep : ∀ i, i < R.length → (lan R' i).1 = (lan R i).1
  cnt : ∀ u, cnt u R' = cnt u R
  room : roomR R' = roomR R
theorem planS_run {a : Nat} (A : List Int) : ∀ {R : List Lan} {P : List Int}, WF R → a < R.length → (lan R a).2 = P ++ A.reverse →
    (planS a R A = none ∧ roomX R a < A.length) ∨ ∃ l R', planS a R A = some l ∧ l.length = A.length ∧ (A.length : Int) ≤ roomX R a ∧ runL R l = some R' ∧ Ran R R' a P := by
  induction A with
  | nil =>
    intro R P h ha hP
    refine .inr ⟨[], R, planS_nil _ _, rfl, ?_, runL_nil _, h, rfl, by simpa using hP, fun _ _ => rfl, fun _ => rfl, rfl⟩
    have := roomR_lane h.good a ha
    unfold roomX
    simp; omega
  | cons x r ih =>
    intro R P h ha hP
    rw [planS_cons]
    by_cases hb : bestR a R (zer R.length) < 0
    · rw [if_pos hb]
      refine .inl ⟨rfl, ?_⟩
      rw [roomX_full a h.good ha (best_full hb)]
      simp only [List.length_cons]
      omega
    · rw [if_neg hb]
      obtain ⟨m, hm, hbm, hma, hr⟩ := best_spec hb
      have hT : (lan R a).2 = (P ++ r.reverse) ++ [x] := by rw [hP]; simp
      have hT' : (lan R a).2.dropLast = P ++ r.reverse := by rw [hT]; simp
      rw [hbm, Int.toNat_natCast, hT']
      have hw := h.mov ha hT hm hma hr
      have hlan := movT_lan (R := R) (t := x) (n := a) (m := m) (T := P ++ r.reverse) ha hm hma
      have hroom := movT_room (T := P ++ r.reverse) ha hT hm hma
      have hla : lan (movT R x a m (P ++ r.reverse)) a = ((lan R a).1, P ++ r.reverse) := by rw [hlan, if_pos rfl]
      have hX : roomX (movT R x a m (P ++ r.reverse)) a = roomX R a - 1 := by
        unfold roomX
        rw [hroom, hla, hT]
        simp; omega
      rcases ih hw (by rw [movT_len]; exact ha) (P := P) (by rw [hla]) with ⟨h1, h2⟩ | ⟨l, R', h1, h2, h3, h4, h5⟩
      · rw [h1]
        refine .inl ⟨rfl, ?_⟩
        rw [hX] at h2
        simp; omega
      · rw [h1]
        obtain ⟨d1, d2⟩ := do_to h ha hT hm hma hr
        refine .inr ⟨_, R', rfl, by simp [h2], by rw [hX] at h3; simp; omega, ?_, ⟨h5.wf, by rw [h5.len, movT_len], h5.lane, fun i hi => ?_, fun u => by rw [h5.cnt, movT_cnt ha hT hm hma], by rw [h5.room, hroom]⟩⟩
        · rw [runL_cons]
          simp only
          rw [if_pos d1, d2]
          exact h4
        · rw [h5.dep i (by rw [movT_len]; exact hi), hlan]
          split
          · subst_vars; rfl
          · split
            · subst_vars; rfl
            · rfl

theorem idx_split {x : Int} {l : List Int} {i : Nat} (h : idx x l = i) : ∃ P Q, l = P ++ x :: Q ∧ P.length = i := by
  induction l generalizing i with
  | nil => simp [idx] at h
  | cons y r ih =>
    unfold idx at h
    split at h
    · rename_i e
      subst e
      exact ⟨[], r, rfl, by simp at *; omega⟩
    · split at h
      · omega
      · cases i with
        | zero => have := idx_ge x r; omega
        | succ i =>
          obtain ⟨P, Q, e, hl⟩ := ih (i := i) (by omega)
          exact ⟨y :: P, Q, by rw [e]; rfl, by simp [hl]⟩

/-- What a plan of the rack is: none, or the moves, done in order, bring the tote out. -/
inductive PlanIs_ (R : List Lan) (x : Int) (a : Nat) : Prop
  | full (hE : planE R x = 5) (hL : planL R x = []) (hr : roomX R a < (aheadL (lan R a).2 x).length)
  | ok (P : List Int) (l : List Mv) (R1 : List Lan) (hE : planE R x = 0) (hL : planL R x = l ++ [(x, (a : Int), -1)]) (hl : l.length = (aheadL (lan R a).2 x).length) (hr : ((aheadL (lan R a).2 x).length : Int) ≤ roomX R a)
      (hrun : runL R l = some R1) (hran : Ran R R1 a (P ++ [x])) (hlast : runL R (l ++ [(x, (a : Int), -1)]) = some (outT R1 a P))
theorem planIs {R : List Lan} {x : Int} {a : Nat} (h : WF R) (hw : whereR x R = a) : PlanIs_ R x a := by
  obtain ⟨ha, hi, _⟩ := whereR_at x R a hw
  have hi' : 0 ≤ idx x (lan R a).2 := hi
  obtain ⟨i, hx⟩ : ∃ i : Nat, idx x (lan R a).2 = i := ⟨(idx x (lan R a).2).toNat, by omega⟩
  obtain ⟨P, Q, hPQ, hPl⟩ := idx_split hx
  have hA : aheadL (lan R a).2 x = Q.reverse := by
    unfold aheadL
    rw [hx, hPQ, Int.toNat_natCast, ← hPl]
    simp
  have hsim : plan a R (zer R.length) (aheadL (lan R a).2 x) = planS a R (aheadL (lan R a).2 x) := plan_sim ha _ (Sim.init a R)
  have hO : planO R x = (planS a R (aheadL (lan R a).2 x)).map (· ++ [(x, (a : Int), -1)]) := by
    unfold planO
    rw [if_neg (by omega), hw, Int.toNat_natCast, hsim]
  have hlane : (lan R a).2 = (P ++ [x]) ++ (aheadL (lan R a).2 x).reverse := by rw [hA]; simp [hPQ]
  rcases planS_run (aheadL (lan R a).2 x) h ha hlane with ⟨h1, h2⟩ | ⟨l, R1, h1, h2, h3, h4, h5⟩
  · refine .full ?_ ?_ h2
    · unfold planE; rw [if_neg (by omega), hO, h1]; rfl
    · unfold planL; rw [hO, h1]; rfl
  · refine .ok P l R1 ?_ ?_ h2 h3 h4 h5 ?_
    · unfold planE; rw [if_neg (by omega), hO, h1]; rfl
    · unfold planL; rw [hO, h1]; rfl
    · obtain ⟨d1, d2⟩ := do_out h5.wf (by rw [h5.len]; exact ha) h5.lane
      rw [runL_append, h4]
      show runL R1 [(x, (a : Int), -1)] = _
      rw [runL_cons]
      simp only
      rw [if_pos d1, d2, runL_nil]
end Go.Proofs.Ytegoilhkooneaaa
