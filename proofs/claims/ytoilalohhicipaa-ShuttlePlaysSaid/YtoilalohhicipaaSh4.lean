/-
  What holds of a shuttle at all times.
-/
import Derived.Test.YtoilalohhicipaaSh3
namespace Go.Proofs.Ytoilalohhicipaa
open Go.RowKit
set_option linter.unusedVariables false
set_option linter.unusedSimpArgs false

structure Ok (s : St) : Prop where
  n1 : 1 ≤ s.n
  n2 : s.n ≤ 40
  p1 : 1 ≤ s.pat
  p2 : s.pat ≤ 1000
  pl1 : 0 ≤ s.place
  pl2 : s.place < s.n
  st1 : 0 ≤ s.state
  st2 : s.state ≤ 5
  w1 : 0 ≤ s.was
  w2 : s.was ≤ 4
  t1 : 0 ≤ s.ticks
  t2 : s.ticks ≤ s.pat + 1
  t3 : s.state ≠ 5 → s.ticks ≤ s.pat
  f1 : 0 ≤ s.fr
  f2 : s.fr < s.n
  o1 : 0 ≤ s.to_
  o2 : s.to_ < s.n
  k5 : s.state = 5 → 1 ≤ s.was
  k1 : loadK s = 1 → s.place ≠ s.fr
  k2 : loadK s = 2 → s.place = s.fr
  k3 : loadK s = 3 → s.place ≠ s.to_
  k4 : loadK s = 4 → s.place = s.to_
  tt : loadK s ≠ 0 → 1 ≤ s.tote
  d1 : 0 ≤ s.done

theorem Ok.lk (s : St) (h : s.state ≠ 5) : loadK s = s.state := by unfold loadK; rw [if_neg h]
theorem Ok.lk5 (s : St) (h : s.state = 5) : loadK s = s.was := by unfold loadK; rw [if_pos h]

theorem ok_new (n a p : Int) (h : ¬ newBad n a p) : Ok (newS n a p) := by
  unfold newBad at h
  constructor <;> simp [newS, loadK] <;> omega

theorem tickOff_eq (s : St) : tickOff s = decide (s.state = 0 ∨ s.state = 5) := by
  unfold tickOff; by_cases a : s.state = 0 <;> by_cases b : s.state = 5 <;> simp [a, b]

theorem Ok.tick {s : St} (h : Ok s) : Ok (tickS s) := by
  unfold tickS
  rw [tickOff_eq]
  by_cases a : s.state = 0 ∨ s.state = 5
  · rw [if_pos (by simpa using a)]; exact h
  · rw [if_neg (by simpa using a)]
    unfold tickLate
    obtain ⟨n1, n2, p1, p2, pl1, pl2, st1, st2, w1, w2, t1, t2, t3, f1, f2, o1, o2, k5, k1, k2, k3, k4, tt, d1⟩ := h
    have e := Ok.lk s (fun e => a (.inr e))
    rw [e] at k1 k2 k3 k4 tt
    by_cases b : s.pat < s.ticks + 1
    · rw [if_pos (by simpa using b)]
      have e2 : loadK { s with ticks := s.ticks + 1, was := s.state, state := 5 } = s.state := by unfold loadK; rw [if_pos rfl]
      constructor <;> first | (intro q; rw [e2] at q; simp; omega) | (intro q; simp at q ⊢; omega) | (simp; omega) | (simp; done)
    · rw [if_neg (by simpa using b)]
      have e2 : loadK { s with ticks := s.ticks + 1 } = s.state := by unfold loadK; rw [if_neg (fun e => a (.inr e))]
      constructor <;> first | (intro q; rw [e2] at q; simp; omega) | (intro q; simp at q ⊢; omega) | (simp; omega) | (simp; done)

/-- What `on` needs, and what it keeps. -/
theorem ok_on {s : St} (k : Int) (n1 : 1 ≤ s.n) (n2 : s.n ≤ 40) (p1 : 1 ≤ s.pat) (p2 : s.pat ≤ 1000) (pl1 : 0 ≤ s.place) (pl2 : s.place < s.n)
    (w1 : 0 ≤ s.was) (w2 : s.was ≤ 4) (f1 : 0 ≤ s.fr) (f2 : s.fr < s.n) (o1 : 0 ≤ s.to_) (o2 : s.to_ < s.n) (hk : 0 ≤ k) (hk4 : k ≤ 4)
    (k2 : k = 2 → s.place = s.fr) (k4 : k = 4 → s.place = s.to_) (tt : k ≠ 0 → 1 ≤ s.tote) (d1 : 0 ≤ s.done) : Ok (onS s k) := by
  have key : ∀ x : Int, 0 ≤ x → x ≤ 4 → (x = 1 → s.place ≠ s.fr) → (x = 2 → s.place = s.fr) → (x = 3 → s.place ≠ s.to_) → (x = 4 → s.place = s.to_) → (x ≠ 0 → 1 ≤ s.tote) → Ok { s with ticks := 0, state := x } := by
    intro x x0 x4 x1 x2 x3 x5 xt
    have e2 : loadK { s with ticks := 0, state := x } = x := by unfold loadK; rw [if_neg (by simp; omega)]
    constructor
    all_goals first | (intro q; rw [e2] at q; first | (simp; omega) | (exfalso; omega)) | (intro q; simp at q ⊢; omega) | (simp; omega) | (simp; done)
  by_cases a : k = 1
  · subst a
    by_cases b : s.place = s.fr
    · rw [show onS s 1 = { s with ticks := 0, state := 2 } by unfold onS onB; simp [b]]
      apply key <;> omega
    · rw [show onS s 1 = { s with ticks := 0, state := 1 } by unfold onS onB; simp [b]]
      apply key <;> omega
  · by_cases a3 : k = 3
    · subst a3
      by_cases b : s.place = s.to_
      · rw [show onS s 3 = { s with ticks := 0, state := 4 } by unfold onS onB; simp [b]]
        apply key <;> omega
      · rw [show onS s 3 = { s with ticks := 0, state := 3 } by unfold onS onB; simp [b]]
        apply key <;> omega
    · rw [show onS s k = { s with ticks := 0, state := k } by unfold onS onB; simp [a, a3]]
      apply key <;> omega

theorem noneB_false {s : St} {p : Int} : noneB s p = false ↔ 0 ≤ p ∧ p < s.n := by
  unfold noneB; simp

theorem Ok.assign {s : St} (h : Ok s) (t f o : Int) : Ok (assignS s t f o) := by
  unfold assignS
  split
  · rename_i e
    unfold assignE at e
    split at e
    · exact absurd e (by decide)
    · split at e
      · exact absurd e (by decide)
      · rename_i hb hst
        unfold assignBad at hb
        simp [noneB_false] at hb
        obtain ⟨n1, n2, p1, p2, pl1, pl2, st1, st2, w1, w2, t1, t2, t3, f1, f2, o1, o2, k5, k1, k2, k3, k4, tt, d1⟩ := h
        apply ok_on <;> first | omega | (simp; omega)
  · exact h

theorem Ok.moved {s : St} (h : Ok s) (p : Int) : Ok (movedS s p) := by
  unfold movedS
  split
  · rename_i e
    unfold movedE at e
    split at e
    · exact absurd e (by decide)
    · rename_i hb
      simp [noneB_false] at hb
      split at e
      · exact absurd e (by decide)
      · rename_i hc
        have e2 := Ok.lk s (by omega)
        obtain ⟨n1, n2, p1, p2, pl1, pl2, st1, st2, w1, w2, t1, t2, t3, f1, f2, o1, o2, k5, k1, k2, k3, k4, tt, d1⟩ := h
        rw [e2] at k1 k2 k3 k4 tt
        apply ok_on <;> first | omega | (simp; omega)
  · exact h

theorem handE_zero {s : St} {st t : Int} (h : handE s st t = 0) : s.state = st ∧ t = s.tote := by
  unfold handE at h
  split at h
  · exact absurd h (by decide)
  · split at h
    · exact absurd h (by decide)
    · rename_i a b
      exact ⟨by omega, by omega⟩

theorem Ok.picked {s : St} (h : Ok s) (t : Int) : Ok (handS s 2 3 t) := by
  unfold handS
  split
  · rename_i e
    obtain ⟨e1, e3⟩ := handE_zero e
    have e2 := Ok.lk s (by omega)
    obtain ⟨n1, n2, p1, p2, pl1, pl2, st1, st2, w1, w2, t1, t2, t3, f1, f2, o1, o2, k5, k1, k2, k3, k4, tt, d1⟩ := h
    rw [e2] at k1 k2 k3 k4 tt
    apply ok_on <;> omega
  · exact h

theorem Ok.done {s : St} (h : Ok s) (d : Int) (hd : 0 ≤ d) : Ok { s with done := d } := by
  obtain ⟨n1, n2, p1, p2, pl1, pl2, st1, st2, w1, w2, t1, t2, t3, f1, f2, o1, o2, k5, k1, k2, k3, k4, tt, d1⟩ := h
  exact ⟨n1, n2, p1, p2, pl1, pl2, st1, st2, w1, w2, t1, t2, t3, f1, f2, o1, o2, k5, k1, k2, k3, k4, tt, hd⟩

theorem Ok.dropped {s : St} (h : Ok s) (t : Int) : Ok (dropS s t) := by
  unfold dropS
  split
  · rename_i e
    have hd := h.d1
    refine Ok.done ?_ _ (by omega)
    unfold handS
    rw [if_pos e]
    obtain ⟨n1, n2, p1, p2, pl1, pl2, st1, st2, w1, w2, t1, t2, t3, f1, f2, o1, o2, k5, k1, k2, k3, k4, tt, d1⟩ := h
    apply ok_on <;> omega
  · exact h

theorem Ok.reset {s : St} (h : Ok s) : Ok (resetS s) := by
  unfold resetS
  split
  · rename_i e
    unfold resetE at e
    split at e
    · exact absurd e (by decide)
    · rename_i e1
      have e2 := Ok.lk5 s (by omega)
      obtain ⟨n1, n2, p1, p2, pl1, pl2, st1, st2, w1, w2, t1, t2, t3, f1, f2, o1, o2, k5, k1, k2, k3, k4, tt, d1⟩ := h
      rw [e2] at k1 k2 k3 k4 tt
      apply ok_on <;> omega
  · exact h

/-! ### The load, over each step -/
theorem load_on (s : St) (k : Int) (h0 : 0 ≤ k) (h4 : k ≤ 4) : loadS (onS s k) = if k = 3 ∨ k = 4 then s.tote else 0 := by
  by_cases a : k = 1
  · subst a
    unfold onS onB loadS
    by_cases b : s.place = s.fr <;> simp [b, loadK]
  · by_cases a3 : k = 3
    · subst a3
      unfold onS onB loadS
      by_cases b : s.place = s.to_ <;> simp [b, loadK]
    · rw [show onS s k = { s with ticks := 0, state := k } by unfold onS onB; simp [a, a3]]
      unfold loadS
      rw [show loadK { s with ticks := 0, state := k } = k by unfold loadK; rw [if_neg (by simp; omega)]]
theorem Ok.load {s : St} (h : s.state ≠ 5) : loadS s = if s.state = 3 ∨ s.state = 4 then s.tote else 0 := by
  unfold loadS; rw [Ok.lk s h]
theorem assign_load {s : St} (t f o : Int) : loadS (assignS s t f o) = loadS s ∧ (assignS s t f o).done = s.done := by
  unfold assignS
  split
  · rename_i e
    unfold assignE at e
    split at e
    · exact absurd e (by decide)
    · split at e
      · exact absurd e (by decide)
      · refine ⟨?_, rfl⟩
        rw [load_on _ 1 (by decide) (by decide), Ok.load (by omega), if_neg (by decide), if_neg (by omega)]
  · exact ⟨rfl, rfl⟩
theorem moved_load {s : St} (p : Int) : loadS (movedS s p) = loadS s ∧ (movedS s p).done = s.done := by
  unfold movedS
  split
  · rename_i e
    unfold movedE at e
    split at e
    · exact absurd e (by decide)
    · split at e
      · exact absurd e (by decide)
      · refine ⟨?_, rfl⟩
        rw [load_on _ _ (by omega) (by omega), Ok.load (by omega)]
  · exact ⟨rfl, rfl⟩
theorem reset_load {s : St} (h : Ok s) : loadS (resetS s) = loadS s ∧ (resetS s).done = s.done := by
  unfold resetS
  split
  · rename_i e
    unfold resetE at e
    split at e
    · exact absurd e (by decide)
    · refine ⟨?_, rfl⟩
      rw [load_on _ _ h.w1 h.w2]
      unfold loadS
      rw [Ok.lk5 s (by omega)]
  · exact ⟨rfl, rfl⟩
theorem tick_load {s : St} : loadS (tickS s) = loadS s ∧ (tickS s).done = s.done ∧ (tickS s).place = s.place ∧ (tickS s).tote = s.tote ∧ (tickS s).fr = s.fr ∧ (tickS s).to_ = s.to_ := by
  unfold tickS
  rw [tickOff_eq]
  by_cases a : s.state = 0 ∨ s.state = 5
  · rw [if_pos (by simpa using a)]; simp
  · rw [if_neg (by simpa using a)]
    split
    · refine ⟨?_, rfl, rfl, rfl, rfl, rfl⟩
      unfold loadS
      rw [Ok.lk s (by omega), Ok.lk5 _ rfl]
    · refine ⟨?_, rfl, rfl, rfl, rfl, rfl⟩
      unfold loadS
      rw [Ok.lk s (by omega), Ok.lk _ (by simpa using (by omega : s.state ≠ 5))]
theorem picked_load {s : St} (t : Int) : (handE s 2 t = 0 → loadS s = 0 ∧ t = s.tote ∧ loadS (handS s 2 3 t) = t) ∧ (handE s 2 t ≠ 0 → handS s 2 3 t = s) ∧ (handS s 2 3 t).done = s.done ∧ (handS s 2 3 t).tote = s.tote ∧ (handS s 2 3 t).fr = s.fr ∧ (handS s 2 3 t).to_ = s.to_ := by
  refine ⟨fun e => ?_, fun e => by unfold handS; rw [if_neg e], handS_done _ _ _ _, by unfold handS; split <;> rfl, by unfold handS; split <;> rfl, by unfold handS; split <;> rfl⟩
  obtain ⟨h1, h2⟩ := handE_zero e
  refine ⟨by rw [Ok.load (by omega), if_neg (by omega)], h2, ?_⟩
  unfold handS
  rw [if_pos e, load_on _ 3 (by decide) (by decide), if_pos (by decide), h2]
theorem dropped_load {s : St} (h : Ok s) (t : Int) : (handE s 4 t = 0 → loadS s ≠ 0 ∧ t = loadS s ∧ loadS (dropS s t) = 0 ∧ (dropS s t).done = s.done + 1) ∧ (handE s 4 t ≠ 0 → dropS s t = s) ∧ (dropS s t).tote = s.tote ∧ (dropS s t).fr = s.fr ∧ (dropS s t).to_ = s.to_ := by
  refine ⟨fun e => ?_, fun e => by unfold dropS; rw [if_neg e], by unfold dropS handS; split <;> (try split) <;> rfl, by unfold dropS handS; split <;> (try split) <;> rfl, by unfold dropS handS; split <;> (try split) <;> rfl⟩
  obtain ⟨h1, h2⟩ := handE_zero e
  have ht := h.tt (by rw [Ok.lk s (by omega)]; omega)
  have hl : loadS s = s.tote := by rw [Ok.load (by omega), if_pos (by omega)]
  refine ⟨by omega, by omega, ?_, by unfold dropS; rw [if_pos e]⟩
  unfold dropS
  rw [if_pos e]
  unfold handS
  rw [if_pos e]
  have := load_on s 0 (by decide) (by decide)
  rw [if_neg (by decide)] at this
  exact this
theorem assign_job {s : St} (t f o : Int) : (assignE s t f o = 0 → (assignS s t f o).tote = t ∧ (assignS s t f o).fr = f ∧ (assignS s t f o).to_ = o) ∧ (assignE s t f o ≠ 0 → assignS s t f o = s) := by
  unfold assignS
  refine ⟨fun e => ?_, fun e => by rw [if_neg e]⟩
  rw [if_pos e]
  exact ⟨rfl, rfl, rfl⟩
theorem moved_job {s : St} (p : Int) : (movedS s p).tote = s.tote ∧ (movedS s p).fr = s.fr ∧ (movedS s p).to_ = s.to_ := by
  unfold movedS; split <;> exact ⟨rfl, rfl, rfl⟩
theorem reset_job {s : St} : (resetS s).tote = s.tote ∧ (resetS s).fr = s.fr ∧ (resetS s).to_ = s.to_ := by
  unfold resetS; split <;> exact ⟨rfl, rfl, rfl⟩

theorem Rd.get {w : World} {a : Option Addr} {n c : Nat} {fl : List Int} {m : Nat} (h : Rd w (.slice a n c) n (fl.map (Value.int .i64)) m) (k : Nat) (hk : k < n) :
    ∃ b off, a = some ⟨b, off, none⟩ ∧ ∀ j, j < m → w.cell? ⟨b, off + k * m + j, none⟩ = some (.int .i64 (fl.getD (k * m + j) 0)) := by
  obtain ⟨hl, a', c', hv, _, hs⟩ := h
  cases hv
  obtain ⟨b, off, rfl, hc⟩ := hs (by omega)
  refine ⟨b, off, rfl, fun j hj => ?_⟩
  have hlt : k * m + j < fl.length := by
    have : k * m + m ≤ n * m := by rw [← Nat.succ_mul]; exact Nat.mul_le_mul_right _ hk
    simp at hl; omega
  rw [Nat.add_assoc]
  exact hc _ _ (by simp [List.getElem?_eq_getElem hlt, List.getD])

/-- What a tick tells, case by case. -/
theorem tick_tells {s : St} (h : Ok s) : (tickK s = 0 ∧ tickW s = 0) ∨ (s.state = 1 ∧ tickK s = 1 ∧ tickW s = s.fr) ∨ (s.state = 2 ∧ tickK s = 2 ∧ tickW s = s.tote ∧ loadS s = 0 ∧ s.place = s.fr) ∨ (s.state = 3 ∧ tickK s = 1 ∧ tickW s = s.to_) ∨
    (s.state = 4 ∧ tickK s = 3 ∧ tickW s = s.tote ∧ loadS s = s.tote ∧ s.place = s.to_) := by
  have h1 := h.st1
  have h2 := h.st2
  unfold tickK tickW
  by_cases a : (tickOff s || tickLate s) = true
  · rw [if_pos a, if_pos a]; exact .inl ⟨rfl, rfl⟩
  · rw [if_neg a, if_neg a]
    have ho : tickOff s = false := by cases hh : tickOff s <;> simp_all
    rw [tickOff_eq] at ho
    have ho : s.state ≠ 0 ∧ s.state ≠ 5 := by simpa using ho
    have hl := Ok.lk s ho.2
    have hd := Ok.load ho.2
    by_cases c1 : s.state = 1
    · rw [if_pos c1, if_pos c1]; exact .inr (.inl ⟨c1, rfl, rfl⟩)
    · rw [if_neg c1, if_neg c1]
      by_cases c2 : s.state = 2
      · rw [if_pos c2, if_pos c2]
        exact .inr (.inr (.inl ⟨c2, rfl, rfl, by rw [hd, if_neg (by omega)], h.k2 (by omega)⟩))
      · rw [if_neg c2, if_neg c2]
        by_cases c3 : s.state = 3
        · rw [if_pos c3, if_pos c3]; exact .inr (.inr (.inr (.inl ⟨c3, rfl, rfl⟩)))
        · rw [if_neg c3, if_neg c3]
          exact .inr (.inr (.inr (.inr ⟨by omega, rfl, rfl, by rw [hd, if_pos (by omega)], h.k4 (by omega)⟩)))

end Go.Proofs.Ytoilalohhicipaa
