/-
  A shuttle whose orders are done as they are told.
-/
import Derived.Test.YtoilalohhicipaaSh4
namespace Go.Proofs.Ytoilalohhicipaa
open Go.RowKit
set_option linter.unusedVariables false
set_option linter.unusedSimpArgs false

theorem umod (x m : Int) (h0 : 0 < m) (hm : m ≤ 1000000) : wrap64 ((IntKind.u64.wrap x).tmod m) = (IntKind.u64.wrap x) % m ∧ 0 ≤ (IntKind.u64.wrap x) % m ∧ (IntKind.u64.wrap x) % m < m := by
  have hx : 0 ≤ IntKind.u64.wrap x := by unfold IntKind.wrap; simp [IntKind.signed, IntKind.bits]; omega
  have h1 := Int.emod_nonneg (IntKind.u64.wrap x) (show m ≠ 0 by omega)
  have h2 := Int.emod_lt_of_pos (IntKind.u64.wrap x) h0
  rw [Int.tmod_eq_emod_of_nonneg hx]
  refine ⟨?_, h1, h2⟩
  unfold wrap64; omega
/-- 'int(uint(x) % m) + 1' -/
theorem umod1 (x m : Int) (h0 : 0 < m) (hm : m ≤ 1000000) : ∃ d : Nat, 1 ≤ d ∧ (d : Int) ≤ m ∧ wrap64 (wrap64 ((IntKind.u64.wrap x).tmod m) + 1) = d := by
  obtain ⟨e, h1, h2⟩ := umod x m h0 hm
  rw [e]
  refine ⟨((IntKind.u64.wrap x) % m + 1).toNat, by omega, by omega, ?_⟩
  unfold wrap64; omega

theorem u64_small (x : Int) (h0 : 0 ≤ x) (h1 : x ≤ 1000000) : IntKind.u64.wrap x = x := by
  show x % _ = x
  exact Int.emod_eq_of_lt h0 (by show x < 18446744073709551616; omega)
theorem umodn (y : Int) (n : Nat) (h0 : 0 < n) (h1 : n ≤ 1000000) : ∃ m : Nat, m < n ∧ wrap64 ((IntKind.u64.wrap y).tmod (n : Int)) = m := by
  obtain ⟨e0, m1, m2⟩ := umod y n (by omega) (by omega)
  refine ⟨((IntKind.u64.wrap y) % (n : Int)).toNat, by omega, ?_⟩
  rw [e0]
  omega

/-- A shuttle that waits since q ticks. -/
def tk (s : St) (q : Int) : St := { s with ticks := q }
def kOf (s : St) : Int := if s.state = 1 then 1 else if s.state = 2 then 2 else if s.state = 3 then 1 else if s.state = 4 then 3 else 0
def wOf (s : St) : Int := if s.state = 1 then s.fr else if s.state = 2 then s.tote else if s.state = 3 then s.to_ else if s.state = 4 then s.tote else 0

theorem Ok.tk {s : St} (h : Ok s) (q : Int) (h0 : 0 ≤ q) (h1 : q ≤ s.pat) : Ok (tk s q) := by
  obtain ⟨n1, n2, p1, p2, pl1, pl2, st1, st2, w1, w2, t1, t2, t3, f1, f2, o1, o2, k5, k1, k2, k3, k4, tt, d1⟩ := h
  have e : loadK (Go.Proofs.Ytoilalohhicipaa.tk s q) = loadK s := rfl
  exact ⟨n1, n2, p1, p2, pl1, pl2, st1, st2, w1, w2, h0, by simp [Go.Proofs.Ytoilalohhicipaa.tk]; omega, fun _ => h1, f1, f2, o1, o2, k5, k1, k2, k3, k4, tt, d1⟩

theorem tick_tk {s : St} {q : Int} (h1 : 1 ≤ s.state) (h4 : s.state ≤ 4) (hq : q + 1 ≤ s.pat) : tickK (tk s q) = kOf s ∧ tickW (tk s q) = wOf s ∧ tickS (tk s q) = tk s (q + 1) := by
  have ho : tickOff (tk s q) = false := by rw [tickOff_eq]; exact decide_eq_false (fun h => by have h : s.state = 0 ∨ s.state = 5 := h; omega)
  have hl : tickLate (tk s q) = false := decide_eq_false (fun h => by have h : s.pat < q + 1 := h; omega)
  unfold tickK tickW tickS
  rw [ho, hl]
  unfold kOf wOf
  simp only [tk, Bool.or_self, Bool.false_eq_true, if_false]
  refine ⟨?_, ?_, trivial⟩
  · repeat' split
    all_goals first | rfl | omega
  · repeat' split
    all_goals first | rfl | omega
theorem tick_late {s : St} (h1 : 1 ≤ s.state) (h4 : s.state ≤ 4) : tickK (tk s s.pat) = 0 ∧ tickW (tk s s.pat) = 0 ∧ tickS (tk s s.pat) = { s with ticks := s.pat + 1, was := s.state, state := 5 } := by
  have ho : tickOff (tk s s.pat) = false := by rw [tickOff_eq]; exact decide_eq_false (fun h => by have h : s.state = 0 ∨ s.state = 5 := h; omega)
  have hl : tickLate (tk s s.pat) = true := decide_eq_true (by show s.pat < s.pat + 1; omega)
  unfold tickK tickW tickS
  rw [ho, hl]
  simp [tk]
theorem tick_off {s : St} (h1 : s.state = 0 ∨ s.state = 5) : tickK s = 0 ∧ tickW s = 0 ∧ tickS s = s := by
  have ho : tickOff s = true := by rw [tickOff_eq]; simpa using h1
  unfold tickK tickW tickS
  rw [ho]
  simp

/-- The answer in each state. -/
theorem ans1 {s : St} {q : Int} (h : Ok s) (hs : s.state = 1) : movedE (tk s q) s.fr = 0 ∧ movedS (tk s q) s.fr = { s with ticks := 0, place := s.fr, state := 2 } := by
  have hn : noneB (tk s q) s.fr = false := noneB_false.2 ⟨h.f1, h.f2⟩
  have he : movedE (tk s q) s.fr = 0 := by unfold movedE; rw [hn]; simp [tk, hs]
  refine ⟨he, ?_⟩
  unfold movedS
  rw [if_pos he]
  unfold onS onB
  simp [tk, hs]
theorem ans2 {s : St} {q : Int} (hs : s.state = 2) : handE (tk s q) 2 s.tote = 0 ∧ handS (tk s q) 2 3 s.tote = { s with ticks := 0, state := if s.place = s.to_ then 4 else 3 } := by
  have he : handE (tk s q) 2 s.tote = 0 := by unfold handE; simp [tk, hs]
  refine ⟨he, ?_⟩
  unfold handS
  rw [if_pos he]
  unfold onS onB
  by_cases h : s.place = s.to_ <;> simp [tk, h]
theorem ans3 {s : St} {q : Int} (h : Ok s) (hs : s.state = 3) : movedE (tk s q) s.to_ = 0 ∧ movedS (tk s q) s.to_ = { s with ticks := 0, place := s.to_, state := 4 } := by
  have hn : noneB (tk s q) s.to_ = false := noneB_false.2 ⟨h.o1, h.o2⟩
  have he : movedE (tk s q) s.to_ = 0 := by unfold movedE; rw [hn]; simp [tk, hs]
  refine ⟨he, ?_⟩
  unfold movedS
  rw [if_pos he]
  unfold onS onB
  simp [tk, hs]
theorem ans4 {s : St} {q : Int} (hs : s.state = 4) : handE (tk s q) 4 s.tote = 0 ∧ dropS (tk s q) s.tote = { s with ticks := 0, state := 0, done := s.done + 1 } := by
  have he : handE (tk s q) 4 s.tote = 0 := by unfold handE; simp [tk, hs]
  refine ⟨he, ?_⟩
  unfold dropS
  rw [if_pos he]
  unfold handS
  rw [if_pos he]
  unfold onS onB
  simp [tk]

/-- What the order's answer makes of it. -/
def ans (s : St) : St :=
  if s.state = 1 then { s with ticks := 0, place := s.fr, state := 2 } else if s.state = 2 then { s with ticks := 0, state := if s.place = s.to_ then 4 else 3 }
  else if s.state = 3 then { s with ticks := 0, place := s.to_, state := 4 } else if s.state = 4 then { s with ticks := 0, state := 0, done := s.done + 1 } else s
theorem Ok.ans {s : St} (h : Ok s) (h0 : s.ticks = 0) : Ok (ans s) ∧ (ans s).ticks = 0 := by
  have hp := h.p1
  have e : Go.Proofs.Ytoilalohhicipaa.tk s 0 = s := by obtain ⟨⟩ := s; simp [Go.Proofs.Ytoilalohhicipaa.tk] at *; exact h0.symm
  unfold Go.Proofs.Ytoilalohhicipaa.ans
  split
  · rename_i c; have r := (ans1 (q := 0) h c).2; rw [e] at r; rw [← r]; exact ⟨h.moved _, by rw [r]⟩
  · split
    · rename_i c; have r := (ans2 (q := 0) c).2; rw [e] at r; rw [← r]; exact ⟨h.picked _, by rw [r]⟩
    · split
      · rename_i c; have r := (ans3 (q := 0) h c).2; rw [e] at r; rw [← r]; exact ⟨h.moved _, by rw [r]⟩
      · split
        · rename_i c; have r := (ans4 (q := 0) c).2; rw [e] at r; rw [← r]; exact ⟨h.dropped _, by rw [r]⟩
        · exact ⟨h, h0⟩

/-- Stalled; and behind a Reset. -/
def late (s : St) : St := { s with ticks := s.pat + 1, was := s.state, state := 5 }
def back (s : St) : St := { s with was := s.state, ticks := 0 }
theorem late_tick {s : St} (h1 : 1 ≤ s.state) (h4 : s.state ≤ 4) : tickK (tk s s.pat) = 0 ∧ tickW (tk s s.pat) = 0 ∧ tickS (tk s s.pat) = late s := tick_late h1 h4
theorem late_tick2 (s : St) : tickK (late s) = 0 ∧ tickW (late s) = 0 ∧ tickS (late s) = late s := tick_off (.inr rfl)
theorem late_load {s : St} (h4 : s.state ≤ 4) : loadS (late s) = loadS s := by
  unfold loadS
  rw [Ok.lk s (by omega), Ok.lk5 (late s) rfl]
  rfl
theorem late_moved {s : St} (h : Ok s) : movedE (late s) 0 = 140 ∧ movedS (late s) 0 = late s := by
  have hn : noneB (late s) 0 = false := noneB_false.2 ⟨by decide, by have := h.n1; show 0 < s.n; omega⟩
  have he : movedE (late s) 0 = 140 := by unfold movedE; rw [hn]; simp [late]
  refine ⟨he, ?_⟩
  unfold movedS
  rw [he]; rfl
theorem late_assign {s : St} {t f o : Int} (h : assignBad s t f o = false) : assignE (late s) t f o = 140 ∧ assignS (late s) t f o = late s := by
  have he : assignE (late s) t f o = 140 := by unfold assignE; rw [show assignBad (late s) t f o = false from h]; simp [late]
  refine ⟨he, ?_⟩
  unfold assignS
  rw [he]; rfl
theorem late_reset {s : St} (h : Ok s) (h1 : 1 ≤ s.state) (h4 : s.state ≤ 4) : resetE (late s) = 0 ∧ resetS (late s) = back s := by
  have he : resetE (late s) = 0 := by unfold resetE; simp [late]
  refine ⟨he, ?_⟩
  unfold resetS
  rw [if_pos he]
  have k1 := h.k1
  have k3 := h.k3
  rw [Ok.lk s (by omega)] at k1 k3
  have hb : onB (late s) (late s).was = false := by
    unfold onB
    show ((s.state == 1) && (s.place == s.fr) || (s.state == 3) && (s.place == s.to_)) = false
    by_cases c1 : s.state = 1
    · have := k1 c1; simp [c1, this]
    · by_cases c3 : s.state = 3
      · have := k3 c3; simp [c3, this]
      · simp [c1, c3]
  unfold onS
  rw [hb]
  rfl
theorem back_tick {s : St} (h1 : 1 ≤ s.state) (h4 : s.state ≤ 4) (hp : 1 ≤ s.pat) : tickK (back s) = kOf s ∧ tickW (back s) = wOf s ∧ loadS (tickS (back s)) = loadS s := by
  have h := tick_tk (s := { s with was := s.state }) (q := 0) h1 h4 (by show (0 : Int) + 1 ≤ s.pat; omega)
  refine ⟨h.1, h.2.1, ?_⟩
  rw [tick_load.1]
  unfold loadS
  rw [Ok.lk s (by omega), Ok.lk (back s) (by show s.state ≠ 5; omega)]
  rfl

end Go.Proofs.Ytoilalohhicipaa
