import Derived.Test.YtoilalohhicipaaSh
namespace Go.Proofs.Ytoilalohhicipaa
open Go.RowKit
set_option linter.unusedVariables false
set_option linter.unusedSimpArgs false

/-! ### handled, Picked, Dropped -/
def handE (s : St) (st t : Int) : Int := if s.state ≠ st then 140 else if t ≠ s.tote then 160 else 0
def handS (s : St) (st nx t : Int) : St := if handE s st t = 0 then onS s nx else s
set_option maxRecDepth 100000 in
set_option maxHeartbeats 1000000 in
theorem hand_any (w : World) (g : Nat) (s : St) (st nx t : Int) (h0 : 0 ≤ nx) (h5 : nx ≤ 5) (hs : ShAt w g s) :
    Calls Try.prog 30 #[.pointer (some ⟨g, 0, none⟩), .int .i64 st, .int .i64 nx, .int .i64 t] w fun e w' => e = .returned (.int .i64 (handE s st t)) ∧ ShAt w' g (handS s st nx t) ∧ Fr w w' (One g) := by
  have HS := Lib.hid hs
  obtain ⟨_, _, _, c3, _, _, c6, _, _, _⟩ := hs.all
  clear hs
  by_cases a : s.state = st
  · have a1 : (s.state != st) = false := by simp [a]
    by_cases b : t = s.tote
    · have b1 : (t != s.tote) = false := by simp [b]
      have e1 : handE s st t = 0 := by unfold handE; rw [if_neg (by simp [a]), if_neg (by simp [b])]
      have e2 : handS s st nx t = onS s nx := by unfold handS; rw [if_pos e1]
      rw [e1, e2]
      clear e1 e2 a b
      go_enter Try.func30, Try.ntmps30
      go_wp2_with fail
      refine (on_any w g s nx h0 h5 HS.out).mono ?_
      rintro e w' ⟨rfl, hs', hf⟩
      go_wp2
      go_ret
      exact ⟨rfl, hs', hf⟩
    · have b1 : (t != s.tote) = true := by simp [b]
      have e1 : handE s st t = 160 := by unfold handE; rw [if_neg (by simp [a]), if_pos b]
      have e2 : handS s st nx t = s := by unfold handS; rw [e1]; rfl
      rw [e1, e2]
      clear e1 e2 a b
      go_enter Try.func30, Try.ntmps30
      go_wp2
      go_ret
      exact ⟨rfl, HS.out, Fr.refl _ _⟩
  · have a1 : (s.state != st) = true := by simp [a]
    have e1 : handE s st t = 140 := by unfold handE; rw [if_pos a]
    have e2 : handS s st nx t = s := by unfold handS; rw [e1]; rfl
    rw [e1, e2]
    clear e1 e2 a
    go_enter Try.func30, Try.ntmps30
    go_wp2
    go_ret
    exact ⟨rfl, HS.out, Fr.refl _ _⟩

set_option maxHeartbeats 1000000 in
theorem picked_any (w : World) (g : Nat) (s : St) (t : Int) (hs : ShAt w g s) :
    Calls Try.prog 14 #[.pointer (some ⟨g, 0, none⟩), .int .i64 t] w fun e w' => e = .returned (.int .i64 (handE s 2 t)) ∧ ShAt w' g (handS s 2 3 t) ∧ Fr w w' (One g) := by
  go_enter Try.func14, Try.ntmps14
  go_wp2_with fail
  refine (hand_any w g s 2 3 t (by decide) (by decide) hs).mono ?_
  rintro e w' ⟨rfl, hs', hf⟩
  go_wp2
  go_ret
  exact ⟨rfl, hs', hf⟩

def dropS (s : St) (t : Int) : St := if handE s 4 t = 0 then { handS s 4 0 t with done := s.done + 1 } else s
theorem handS_done (s : St) (st nx t : Int) : (handS s st nx t).done = s.done := by unfold handS; split <;> rfl
set_option maxHeartbeats 1000000 in
theorem dropped_any (w : World) (g : Nat) (s : St) (t : Int) (h0 : 0 ≤ s.done) (h1 : s.done ≤ 1000000) (hs : ShAt w g s) :
    Calls Try.prog 15 #[.pointer (some ⟨g, 0, none⟩), .int .i64 t] w fun e w' => e = .returned (.int .i64 (handE s 4 t)) ∧ ShAt w' g (dropS s t) ∧ Fr w w' (One g) := by
  by_cases a : handE s 4 t = 0
  · have e1 : dropS s t = { handS s 4 0 t with done := s.done + 1 } := by unfold dropS; rw [if_pos a]
    rw [e1, a]
    have HA := Lib.hid a
    clear e1 a
    go_enter Try.func15, Try.ntmps15
    go_wp2_with fail
    refine (hand_any w g s 4 0 t (by decide) (by decide) hs).mono ?_
    rintro e w1 ⟨he, hs', hf⟩
    rw [HA.out] at he
    subst he
    obtain ⟨_, _, _, _, _, _, _, _, _, c9⟩ := hs'.all
    rw [handS_done] at c9
    have f9 := hs'.frz 9
    have HS' := Lib.hid hs'
    clear hs hs'
    go_wp2
    go_ret
    exact ⟨rfl, HS'.out.s9 (s.done + 1), hf.to_one _ _⟩
  · have e1 : dropS s t = s := by unfold dropS; rw [if_neg a]
    have e2 : handS s 4 0 t = s := by unfold handS; rw [if_neg a]
    have hb : (handE s 4 t == 0) = false := by simp [a]
    rw [e1]
    clear e1 a
    go_enter Try.func15, Try.ntmps15
    go_wp2_with fail
    refine (hand_any w g s 4 0 t (by decide) (by decide) hs).mono ?_
    rintro e w1 ⟨rfl, hs', hf⟩
    rw [e2] at hs'
    clear hs e2
    have HS' := Lib.hid hs'
    clear hs'
    go_wp2
    go_ret
    exact ⟨rfl, HS'.out, hf⟩

/-! ### Moved -/
def movedE (s : St) (p : Int) : Int := if noneB s p then 1 else if s.state ≠ 1 ∧ s.state ≠ 3 then 140 else 0
def movedS (s : St) (p : Int) : St := if movedE s p = 0 then onS { s with place := p } s.state else s
set_option maxRecDepth 100000 in
set_option maxHeartbeats 1000000 in
theorem moved_any (w : World) (g : Nat) (s : St) (p : Int) (hs : ShAt w g s) :
    Calls Try.prog 13 #[.pointer (some ⟨g, 0, none⟩), .int .i64 p] w fun e w' => e = .returned (.int .i64 (movedE s p)) ∧ ShAt w' g (movedS s p) ∧ Fr w w' (One g) := by
  have HS := Lib.hid hs
  obtain ⟨_, _, c2, c3, _, _, _, _, _, _⟩ := hs.all
  have f2 := hs.frz 2
  clear hs
  by_cases a : noneB s p = true
  · have e1 : movedE s p = 1 := by unfold movedE; rw [if_pos a]
    have e2 : movedS s p = s := by unfold movedS; rw [e1]; rfl
    rw [e1, e2]
    clear e1 e2
    go_enter Try.func13, Try.ntmps13
    go_wp2_with fail
    refine (none_any w g s p HS.out).mono ?_
    rintro e w' ⟨rfl, rfl⟩
    go_wp2
    go_ret
    exact ⟨rfl, HS.out, Fr.refl _ _⟩
  · have a' : noneB s p = false := by simpa using a
    clear a
    by_cases b : s.state ≠ 1 ∧ s.state ≠ 3
    · have b1 : (s.state != 1) = true := by simp [b.1]
      have b2 : (s.state != 3) = true := by simp [b.2]
      have e1 : movedE s p = 140 := by unfold movedE; rw [a', if_neg (by simp), if_pos b]
      have e2 : movedS s p = s := by unfold movedS; rw [e1]; rfl
      rw [e1, e2]
      clear e1 e2 b
      go_enter Try.func13, Try.ntmps13
      go_wp2_with fail
      refine (none_any w g s p HS.out).mono ?_
      rintro e w' ⟨rfl, rfl⟩
      go_wp2
      go_ret
      exact ⟨rfl, HS.out, Fr.refl _ _⟩
    · have e1 : movedE s p = 0 := by unfold movedE; rw [a', if_neg (by simp), if_neg b]
      have e2 : movedS s p = onS { s with place := p } s.state := by unfold movedS; rw [if_pos e1]
      rw [e1, e2]
      have hst : s.state = 1 ∨ s.state = 3 := by omega
      have hb : (s.state != 1) = false ∨ ((s.state != 1) = true ∧ (s.state != 3) = false) := by
        rcases hst with h | h <;> simp [h]
      clear e1 e2 b
      have HST := Lib.hid hst
      clear hst
      rcases hb with b1 | ⟨b1, b2⟩
      all_goals
        go_enter Try.func13, Try.ntmps13
        go_wp2_with fail
        refine (none_any w g s p HS.out).mono ?_
        rintro e w' ⟨rfl, rfl⟩
        go_wp2_with fail
        refine (on_any _ g { s with place := p } s.state (by have := HST.out; omega) (by have := HST.out; omega) (HS.out.s2 p)).mono ?_
        rintro e w' ⟨rfl, hs', hf⟩
        go_wp2
        go_ret
        exact ⟨rfl, hs', ((Fr.refl w (One g)).to_one _ _).rr hf⟩

/-! ### Reset -/
def resetE (s : St) : Int := if s.state ≠ 5 then 140 else 0
def resetS (s : St) : St := if resetE s = 0 then onS s s.was else s
set_option maxRecDepth 100000 in
set_option maxHeartbeats 1000000 in
theorem reset_any (w : World) (g : Nat) (s : St) (h0 : 0 ≤ s.was) (h5 : s.was ≤ 5) (hs : ShAt w g s) :
    Calls Try.prog 19 #[.pointer (some ⟨g, 0, none⟩)] w fun e w' => e = .returned (.int .i64 (resetE s)) ∧ ShAt w' g (resetS s) ∧ Fr w w' (One g) := by
  have HS := Lib.hid hs
  obtain ⟨_, _, _, c3, c4, _, _, _, _, _⟩ := hs.all
  clear hs
  by_cases a : s.state = 5
  · have a1 : (s.state != 5) = false := by simp [a]
    have e1 : resetE s = 0 := by unfold resetE; rw [if_neg (by simp [a])]
    have e2 : resetS s = onS s s.was := by unfold resetS; rw [if_pos e1]
    rw [e1, e2]
    clear e1 e2 a
    go_enter Try.func19, Try.ntmps19
    go_wp2_with fail
    refine (on_any w g s s.was h0 h5 HS.out).mono ?_
    rintro e w' ⟨rfl, hs', hf⟩
    go_wp2
    go_ret
    exact ⟨rfl, hs', hf⟩
  · have a1 : (s.state != 5) = true := by simp [a]
    have e1 : resetE s = 140 := by unfold resetE; rw [if_pos a]
    have e2 : resetS s = s := by unfold resetS; rw [e1]; rfl
    rw [e1, e2]
    clear e1 e2 a
    go_enter Try.func19, Try.ntmps19
    go_wp2
    go_ret
    exact ⟨rfl, HS.out, Fr.refl _ _⟩

/-! ### Assign -/
def assignBad (s : St) (t f o : Int) : Bool := decide (t < 1) || decide (30 < t) || noneB s f || noneB s o
def assignE (s : St) (t f o : Int) : Int := if assignBad s t f o then 1 else if s.state ≠ 0 then 140 else 0
def assignS (s : St) (t f o : Int) : St := if assignE s t f o = 0 then onS { s with tote := t, fr := f, to_ := o } 1 else s
set_option maxRecDepth 100000 in
set_option maxHeartbeats 2000000 in
theorem assign_any (w : World) (g : Nat) (s : St) (t f o : Int) (hs : ShAt w g s) :
    Calls Try.prog 10 #[.pointer (some ⟨g, 0, none⟩), .agg #[.int .i64 t, .int .i64 f, .int .i64 o]] w fun e w' => e = .returned (.int .i64 (assignE s t f o)) ∧ ShAt w' g (assignS s t f o) ∧ Fr w w' (One g) := by
  have HS := Lib.hid hs
  have hlt := hs.lt
  have hs1 := hs.keep0 (Fr.alloc w (.cells #[.int .i64 t, .int .i64 f, .int .i64 o] 33) No)
  have HS1 := Lib.hid hs1
  obtain ⟨_, _, _, c3, _, _, c6, c7, c8, _⟩ := hs1.all
  have f6 := hs1.frz 6
  have f7 := hs1.frz 7
  have f8 := hs1.frz 8
  clear hs hs1
  have hcase : t < 1 ∨ (¬ t < 1 ∧ 30 < t) ∨ (¬ t < 1 ∧ ¬ 30 < t ∧ noneB s f = true) ∨ (¬ t < 1 ∧ ¬ 30 < t ∧ noneB s f = false ∧ noneB s o = true) ∨ (¬ t < 1 ∧ ¬ 30 < t ∧ noneB s f = false ∧ noneB s o = false) := by
    by_cases a : t < 1 <;> by_cases b : 30 < t <;> cases noneB s f <;> cases noneB s o <;> simp [a, b]
  rcases hcase with h1 | ⟨h1, h2⟩ | ⟨h1, h2, h3⟩ | ⟨h1, h2, h3, h4⟩ | ⟨h1, h2, h3, h4⟩
  · have e1 : assignE s t f o = 1 := by unfold assignE assignBad; simp [h1]
    have e2 : assignS s t f o = s := by unfold assignS; rw [e1]; rfl
    rw [e1, e2]
    clear e1 e2
    go_enter Try.func10, Try.ntmps10
    go_wp2
    go_ret
    exact ⟨rfl, HS1.out, Fr.alloc _ _ _⟩
  · have e1 : assignE s t f o = 1 := by unfold assignE assignBad; simp [h2]
    have e2 : assignS s t f o = s := by unfold assignS; rw [e1]; rfl
    rw [e1, e2]
    clear e1 e2
    go_enter Try.func10, Try.ntmps10
    go_wp2
    go_ret
    exact ⟨rfl, HS1.out, Fr.alloc _ _ _⟩
  · have e1 : assignE s t f o = 1 := by unfold assignE assignBad; simp [h3]
    have e2 : assignS s t f o = s := by unfold assignS; rw [e1]; rfl
    rw [e1, e2]
    clear e1 e2
    go_enter Try.func10, Try.ntmps10
    go_wp2_with fail
    refine (none_any _ g s f HS1.out).mono ?_
    rintro e w' ⟨rfl, rfl⟩
    go_wp2
    go_ret
    exact ⟨rfl, HS1.out, Fr.alloc _ _ _⟩
  · have e1 : assignE s t f o = 1 := by unfold assignE assignBad; simp [h4]
    have e2 : assignS s t f o = s := by unfold assignS; rw [e1]; rfl
    rw [e1, e2]
    clear e1 e2
    go_enter Try.func10, Try.ntmps10
    go_wp2_with fail
    refine (none_any _ g s f HS1.out).mono ?_
    rintro e w' ⟨rfl, rfl⟩
    go_wp2_with fail
    refine (none_any _ g s o HS1.out).mono ?_
    rintro e w' ⟨rfl, rfl⟩
    go_wp2
    go_ret
    exact ⟨rfl, HS1.out, Fr.alloc _ _ _⟩
  · have hB : assignBad s t f o = false := by unfold assignBad; simp [h1, h2, h3, h4]
    by_cases a : s.state = 0
    · have a1 : (s.state != 0) = false := by simp [a]
      have e1 : assignE s t f o = 0 := by unfold assignE; rw [hB, if_neg (by simp), if_neg (by simp [a])]
      have e2 : assignS s t f o = onS { s with tote := t, fr := f, to_ := o } 1 := by unfold assignS; rw [if_pos e1]
      rw [e1, e2]
      clear e1 e2 a hB
      have hb := blk_new w (.cells #[.int .i64 t, .int .i64 f, .int .i64 o] 33)
      have hfa := Fr.alloc w (.cells #[.int .i64 t, .int .i64 f, .int .i64 o] 33) (One g)
      have hne : w.heap.size ≠ g := by omega
      go_enter Try.func10, Try.ntmps10
      go_upto_region 1 with (fail)
      generalize w.alloc (.cells #[.int .i64 t, .int .i64 f, .int .i64 o] 33) = w1 at *
      have d0 : w1.cell? ⟨w.heap.size, 0, none⟩ = some (.int .i64 t) := blk_cell hb 0
      have d1 : w1.cell? ⟨w.heap.size, 1, none⟩ = some (.int .i64 f) := blk_cell hb 1
      have d2 : w1.cell? ⟨w.heap.size, 2, none⟩ = some (.int .i64 o) := blk_cell hb 2
      have HFA := Lib.hid hfa
      clear hb hfa
      go_wp2_with fail
      refine (none_any _ g s f HS1.out).mono ?_
      rintro e w' ⟨rfl, rfl⟩
      go_wp2_with fail
      refine (none_any _ g s o HS1.out).mono ?_
      rintro e w' ⟨rfl, rfl⟩
      go_wp2_with fail
      refine (on_any _ g { s with tote := t, fr := f, to_ := o } 1 (by decide) (by decide) (((HS1.out.s6 t).s7 f).s8 o)).mono ?_
      rintro e w' ⟨rfl, hs', hf⟩
      go_wp2
      go_ret
      exact ⟨rfl, hs', (((HFA.out.to_one _ _).to_one _ _).to_one _ _).rr hf⟩
    · have a1 : (s.state != 0) = true := by simp [a]
      have e1 : assignE s t f o = 140 := by unfold assignE; rw [hB, if_neg (by simp), if_pos a]
      have e2 : assignS s t f o = s := by unfold assignS; rw [e1]; rfl
      rw [e1, e2]
      clear e1 e2 a hB
      go_enter Try.func10, Try.ntmps10
      go_wp2_with fail
      refine (none_any _ g s f HS1.out).mono ?_
      rintro e w' ⟨rfl, rfl⟩
      go_wp2_with fail
      refine (none_any _ g s o HS1.out).mono ?_
      rintro e w' ⟨rfl, rfl⟩
      go_wp2
      go_ret
      exact ⟨rfl, HS1.out, Fr.alloc _ _ _⟩

/-! ### Tick -/
def tickOff (s : St) : Bool := (s.state == 0) || (s.state == 5)
def tickLate (s : St) : Bool := decide (s.pat < s.ticks + 1)
def tickK (s : St) : Int := if tickOff s || tickLate s then 0 else if s.state = 1 then 1 else if s.state = 2 then 2 else if s.state = 3 then 1 else 3
def tickW (s : St) : Int := if tickOff s || tickLate s then 0 else if s.state = 1 then s.fr else if s.state = 2 then s.tote else if s.state = 3 then s.to_ else s.tote
def tickS (s : St) : St := if tickOff s then s else if tickLate s then { s with ticks := s.ticks + 1, was := s.state, state := 5 } else { s with ticks := s.ticks + 1 }
set_option maxRecDepth 100000 in
set_option maxHeartbeats 2000000 in
theorem tick_any (w : World) (g : Nat) (s : St) (h0 : 0 ≤ s.ticks) (h1 : s.ticks ≤ 1000000) (hs : ShAt w g s) :
    Calls Try.prog 12 #[.pointer (some ⟨g, 0, none⟩)] w fun e w' => e = .returned (.agg #[.int .i64 (tickK s), .int .i64 (tickW s)]) ∧ ShAt w' g (tickS s) ∧ Fr w w' (One g) := by
  have hlt := hs.lt
  have hR := blk_new w (.cells #[.int .i64 0, .int .i64 0] 37)
  have hne : w.heap.size ≠ g := by omega
  have hs1 := hs.keep0 (Fr.alloc w (.cells #[.int .i64 0, .int .i64 0] 37) No)
  have HFA := Lib.hid (Fr.alloc w (.cells #[.int .i64 0, .int .i64 0] 37) (One g))
  clear hs
  by_cases a0 : s.state = 0
  · have e2 : tickK s = 0 := by unfold tickK tickOff tickLate; simp [a0]
    have e3 : tickW s = 0 := by unfold tickW tickOff tickLate; simp [a0]
    have e4 : tickS s = s := by unfold tickS tickOff tickLate; simp [a0]
    rw [e2, e3, e4]
    clear e2 e3 e4
    have b0 : (s.state == 0) = true := by simp [a0]
    clear a0
    go_enter Try.func12, Try.ntmps12
    go_upto_region 1 with (fail)
    generalize w.alloc (.cells #[.int .i64 0, .int .i64 0] 37) = w1 at *
    obtain ⟨_, c1, _, c3, _, c5, c6, c7, c8, _⟩ := hs1.all
    have HS1 := Lib.hid hs1
    have f3 := hs1.frz 3
    have f4 := hs1.frz 4
    have f5 := hs1.frz 5
    have r0 : w1.cell? ⟨w.heap.size, 0, none⟩ = some (.int .i64 0) := blk_cell hR 0
    have r1 : w1.cell? ⟨w.heap.size, 1, none⟩ = some (.int .i64 0) := blk_cell hR 1
    have z0 := blk_frozen hR 0
    have z1 := blk_frozen hR 1
    have hne' : g ≠ w.heap.size := fun e => hne e.symm
    clear hs1
    go_wp2
    repeat (go_quiet (fail); go_wp2)
    refine bodyPost_ret (v := .agg #[.int .i64 0, .int .i64 0]) (by simp [results, Try.results12, go_sem, r0, r1, hne, hne']) rfl ⟨rfl, ((HS1.out).far hne _ _).far hne _ _, ?_⟩
    repeat (first | exact HFA.out | apply Fr.to_one | apply Fr.to_drewN | (refine Fr.to_new ?_ _ _ (Nat.le_refl _)))
  by_cases a5 : s.state = 5
  · have e2 : tickK s = 0 := by unfold tickK tickOff tickLate; simp [a5]
    have e3 : tickW s = 0 := by unfold tickW tickOff tickLate; simp [a5]
    have e4 : tickS s = s := by unfold tickS tickOff tickLate; simp [a5]
    rw [e2, e3, e4]
    clear e2 e3 e4
    have b0 : (s.state == 0) = false := by simp [a0]
    have b5 : (s.state == 5) = true := by simp [a5]
    clear a0 a5
    go_enter Try.func12, Try.ntmps12
    go_upto_region 1 with (fail)
    generalize w.alloc (.cells #[.int .i64 0, .int .i64 0] 37) = w1 at *
    obtain ⟨_, c1, _, c3, _, c5, c6, c7, c8, _⟩ := hs1.all
    have HS1 := Lib.hid hs1
    have f3 := hs1.frz 3
    have f4 := hs1.frz 4
    have f5 := hs1.frz 5
    have r0 : w1.cell? ⟨w.heap.size, 0, none⟩ = some (.int .i64 0) := blk_cell hR 0
    have r1 : w1.cell? ⟨w.heap.size, 1, none⟩ = some (.int .i64 0) := blk_cell hR 1
    have z0 := blk_frozen hR 0
    have z1 := blk_frozen hR 1
    have hne' : g ≠ w.heap.size := fun e => hne e.symm
    clear hs1
    go_wp2
    repeat (go_quiet (fail); go_wp2)
    refine bodyPost_ret (v := .agg #[.int .i64 0, .int .i64 0]) (by simp [results, Try.results12, go_sem, r0, r1, hne, hne']) rfl ⟨rfl, ((HS1.out).far hne _ _).far hne _ _, ?_⟩
    repeat (first | exact HFA.out | apply Fr.to_one | apply Fr.to_drewN | (refine Fr.to_new ?_ _ _ (Nat.le_refl _)))
  have b0 : (s.state == 0) = false := by simp [a0]
  have b5 : (s.state == 5) = false := by simp [a5]
  by_cases al : s.pat < s.ticks + 1
  · have e2 : tickK s = 0 := by unfold tickK tickOff tickLate; simp [a0, a5, al]
    have e3 : tickW s = 0 := by unfold tickW tickOff tickLate; simp [a0, a5, al]
    have e4 : tickS s = { s with ticks := s.ticks + 1, was := s.state, state := 5 } := by unfold tickS tickOff tickLate; simp [a0, a5, al]
    rw [e2, e3, e4]
    clear e2 e3 e4
    clear a0 a5
    go_enter Try.func12, Try.ntmps12
    go_upto_region 1 with (fail)
    generalize w.alloc (.cells #[.int .i64 0, .int .i64 0] 37) = w1 at *
    obtain ⟨_, c1, _, c3, _, c5, c6, c7, c8, _⟩ := hs1.all
    have HS1 := Lib.hid hs1
    have f3 := hs1.frz 3
    have f4 := hs1.frz 4
    have f5 := hs1.frz 5
    have r0 : w1.cell? ⟨w.heap.size, 0, none⟩ = some (.int .i64 0) := blk_cell hR 0
    have r1 : w1.cell? ⟨w.heap.size, 1, none⟩ = some (.int .i64 0) := blk_cell hR 1
    have z0 := blk_frozen hR 0
    have z1 := blk_frozen hR 1
    have hne' : g ≠ w.heap.size := fun e => hne e.symm
    clear hs1
    go_wp2
    repeat (go_quiet (fail); go_wp2)
    refine bodyPost_ret (v := .agg #[.int .i64 0, .int .i64 0]) (by simp [results, Try.results12, go_sem, r0, r1, hne, hne']) rfl ⟨rfl, (((((HS1.out.s5 (s.ticks + 1)).s4 s.state).s3 5)).far hne _ _).far hne _ _, ?_⟩
    repeat (first | exact HFA.out | apply Fr.to_one | apply Fr.to_drewN | (refine Fr.to_new ?_ _ _ (Nat.le_refl _)))
  by_cases a1 : s.state = 1
  · have e2 : tickK s = 1 := by unfold tickK tickOff tickLate; simp [a1, al]
    have e3 : tickW s = s.fr := by unfold tickW tickOff tickLate; simp [a1, al]
    have e4 : tickS s = { s with ticks := s.ticks + 1 } := by unfold tickS tickOff tickLate; simp [a1, al]
    rw [e2, e3, e4]
    clear e2 e3 e4
    have b1 : (s.state == 1) = true := by simp [a1]
    clear a0 a5 a1
    go_enter Try.func12, Try.ntmps12
    go_upto_region 1 with (fail)
    generalize w.alloc (.cells #[.int .i64 0, .int .i64 0] 37) = w1 at *
    obtain ⟨_, c1, _, c3, _, c5, c6, c7, c8, _⟩ := hs1.all
    have HS1 := Lib.hid hs1
    have f3 := hs1.frz 3
    have f4 := hs1.frz 4
    have f5 := hs1.frz 5
    have r0 : w1.cell? ⟨w.heap.size, 0, none⟩ = some (.int .i64 0) := blk_cell hR 0
    have r1 : w1.cell? ⟨w.heap.size, 1, none⟩ = some (.int .i64 0) := blk_cell hR 1
    have z0 := blk_frozen hR 0
    have z1 := blk_frozen hR 1
    have hne' : g ≠ w.heap.size := fun e => hne e.symm
    clear hs1
    go_wp2
    repeat (go_quiet (fail); go_wp2)
    refine bodyPost_ret (v := .agg #[.int .i64 1, .int .i64 s.fr]) (by simp [results, Try.results12, go_sem, r0, r1, hne, hne']) rfl ⟨rfl, ((HS1.out.s5 (s.ticks + 1)).far hne _ _).far hne _ _, ?_⟩
    repeat (first | exact HFA.out | apply Fr.to_one | apply Fr.to_drewN | (refine Fr.to_new ?_ _ _ (Nat.le_refl _)))
  have b1 : (s.state == 1) = false := by simp [a1]
  by_cases a2 : s.state = 2
  · have e2 : tickK s = 2 := by unfold tickK tickOff tickLate; simp [a2, al]
    have e3 : tickW s = s.tote := by unfold tickW tickOff tickLate; simp [a2, al]
    have e4 : tickS s = { s with ticks := s.ticks + 1 } := by unfold tickS tickOff tickLate; simp [a2, al]
    rw [e2, e3, e4]
    clear e2 e3 e4
    have b2 : (s.state == 2) = true := by simp [a2]
    clear a0 a5 a1 a2
    go_enter Try.func12, Try.ntmps12
    go_upto_region 1 with (fail)
    generalize w.alloc (.cells #[.int .i64 0, .int .i64 0] 37) = w1 at *
    obtain ⟨_, c1, _, c3, _, c5, c6, c7, c8, _⟩ := hs1.all
    have HS1 := Lib.hid hs1
    have f3 := hs1.frz 3
    have f4 := hs1.frz 4
    have f5 := hs1.frz 5
    have r0 : w1.cell? ⟨w.heap.size, 0, none⟩ = some (.int .i64 0) := blk_cell hR 0
    have r1 : w1.cell? ⟨w.heap.size, 1, none⟩ = some (.int .i64 0) := blk_cell hR 1
    have z0 := blk_frozen hR 0
    have z1 := blk_frozen hR 1
    have hne' : g ≠ w.heap.size := fun e => hne e.symm
    clear hs1
    go_wp2
    repeat (go_quiet (fail); go_wp2)
    refine bodyPost_ret (v := .agg #[.int .i64 2, .int .i64 s.tote]) (by simp [results, Try.results12, go_sem, r0, r1, hne, hne']) rfl ⟨rfl, ((HS1.out.s5 (s.ticks + 1)).far hne _ _).far hne _ _, ?_⟩
    repeat (first | exact HFA.out | apply Fr.to_one | apply Fr.to_drewN | (refine Fr.to_new ?_ _ _ (Nat.le_refl _)))
  have b2 : (s.state == 2) = false := by simp [a2]
  by_cases a3 : s.state = 3
  · have e2 : tickK s = 1 := by unfold tickK tickOff tickLate; simp [a3, al]
    have e3 : tickW s = s.to_ := by unfold tickW tickOff tickLate; simp [a3, al]
    have e4 : tickS s = { s with ticks := s.ticks + 1 } := by unfold tickS tickOff tickLate; simp [a3, al]
    rw [e2, e3, e4]
    clear e2 e3 e4
    have b3 : (s.state == 3) = true := by simp [a3]
    clear a0 a5 a1 a2 a3
    go_enter Try.func12, Try.ntmps12
    go_upto_region 1 with (fail)
    generalize w.alloc (.cells #[.int .i64 0, .int .i64 0] 37) = w1 at *
    obtain ⟨_, c1, _, c3, _, c5, c6, c7, c8, _⟩ := hs1.all
    have HS1 := Lib.hid hs1
    have f3 := hs1.frz 3
    have f4 := hs1.frz 4
    have f5 := hs1.frz 5
    have r0 : w1.cell? ⟨w.heap.size, 0, none⟩ = some (.int .i64 0) := blk_cell hR 0
    have r1 : w1.cell? ⟨w.heap.size, 1, none⟩ = some (.int .i64 0) := blk_cell hR 1
    have z0 := blk_frozen hR 0
    have z1 := blk_frozen hR 1
    have hne' : g ≠ w.heap.size := fun e => hne e.symm
    clear hs1
    go_wp2
    repeat (go_quiet (fail); go_wp2)
    refine bodyPost_ret (v := .agg #[.int .i64 1, .int .i64 s.to_]) (by simp [results, Try.results12, go_sem, r0, r1, hne, hne']) rfl ⟨rfl, ((HS1.out.s5 (s.ticks + 1)).far hne _ _).far hne _ _, ?_⟩
    repeat (first | exact HFA.out | apply Fr.to_one | apply Fr.to_drewN | (refine Fr.to_new ?_ _ _ (Nat.le_refl _)))
  have b3 : (s.state == 3) = false := by simp [a3]
  · have e2 : tickK s = 3 := by unfold tickK tickOff tickLate; simp [a0, a5, a1, a2, a3, al]
    have e3 : tickW s = s.tote := by unfold tickW tickOff tickLate; simp [a0, a5, a1, a2, a3, al]
    have e4 : tickS s = { s with ticks := s.ticks + 1 } := by unfold tickS tickOff tickLate; simp [a0, a5, a1, a2, a3, al]
    rw [e2, e3, e4]
    clear e2 e3 e4
    clear a0 a5 a1 a2 a3
    go_enter Try.func12, Try.ntmps12
    go_upto_region 1 with (fail)
    generalize w.alloc (.cells #[.int .i64 0, .int .i64 0] 37) = w1 at *
    obtain ⟨_, c1, _, c3, _, c5, c6, c7, c8, _⟩ := hs1.all
    have HS1 := Lib.hid hs1
    have f3 := hs1.frz 3
    have f4 := hs1.frz 4
    have f5 := hs1.frz 5
    have r0 : w1.cell? ⟨w.heap.size, 0, none⟩ = some (.int .i64 0) := blk_cell hR 0
    have r1 : w1.cell? ⟨w.heap.size, 1, none⟩ = some (.int .i64 0) := blk_cell hR 1
    have z0 := blk_frozen hR 0
    have z1 := blk_frozen hR 1
    have hne' : g ≠ w.heap.size := fun e => hne e.symm
    clear hs1
    go_wp2
    repeat (go_quiet (fail); go_wp2)
    refine bodyPost_ret (v := .agg #[.int .i64 3, .int .i64 s.tote]) (by simp [results, Try.results12, go_sem, r0, r1, hne, hne']) rfl ⟨rfl, ((HS1.out.s5 (s.ticks + 1)).far hne _ _).far hne _ _, ?_⟩
    repeat (first | exact HFA.out | apply Fr.to_one | apply Fr.to_drewN | (refine Fr.to_new ?_ _ _ (Nat.le_refl _)))

end Go.Proofs.Ytoilalohhicipaa
