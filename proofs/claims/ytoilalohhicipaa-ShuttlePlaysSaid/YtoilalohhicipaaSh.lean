/-
  What the walks of package shuttle say: a shuttle as its ten numbers, and what each method does to them.
-/
import Derived.Test.YtoilalohhicipaaProg
import Derived.Test.YtoilalohhicipaaM
namespace Go.Proofs.Ytoilalohhicipaa
open Go.RowKit
set_option linter.unusedVariables false
set_option linter.unusedSimpArgs false

/-- A shuttle. -/
structure St where
  n : Int
  pat : Int
  place : Int
  state : Int
  was : Int
  ticks : Int
  tote : Int
  fr : Int
  to_ : Int
  done : Int

def St.cells (s : St) : Array Value := #[.int .i64 s.n, .int .i64 s.pat, .int .i64 s.place, .int .i64 s.state, .int .i64 s.was, .int .i64 s.ticks, .int .i64 s.tote, .int .i64 s.fr, .int .i64 s.to_, .int .i64 s.done]
/-- A shuttle in block g. -/
def ShAt (w : World) (g : Nat) (s : St) : Prop := w.heap[g]? = some (.cells s.cells 60 (0, 0))

theorem ShAt.keep {w w' : World} {S : Nat → Prop} {g : Nat} {s : St} (h : ShAt w g s) (hf : Fr w w' S) (hS : ¬ S g) : ShAt w' g s := hf.blk h hS
theorem ShAt.keep0 {w w' : World} {g : Nat} {s : St} (h : ShAt w g s) (hf : Fr w w' No) : ShAt w' g s := hf.blk h (fun h => h)
theorem ShAt.drewN {w : World} {g : Nat} {s : St} (h : ShAt w g s) (n : Nat) : ShAt (w.drewN n) g s := h
theorem ShAt.lt {w : World} {g : Nat} {s : St} (h : ShAt w g s) : g < w.heap.size := blk_lt h
theorem ShAt.all {w : World} {g : Nat} {s : St} (h : ShAt w g s) :
    w.cell? ⟨g, 0, none⟩ = some (.int .i64 s.n) ∧ w.cell? ⟨g, 1, none⟩ = some (.int .i64 s.pat) ∧ w.cell? ⟨g, 2, none⟩ = some (.int .i64 s.place) ∧ w.cell? ⟨g, 3, none⟩ = some (.int .i64 s.state) ∧ w.cell? ⟨g, 4, none⟩ = some (.int .i64 s.was) ∧
    w.cell? ⟨g, 5, none⟩ = some (.int .i64 s.ticks) ∧ w.cell? ⟨g, 6, none⟩ = some (.int .i64 s.tote) ∧ w.cell? ⟨g, 7, none⟩ = some (.int .i64 s.fr) ∧ w.cell? ⟨g, 8, none⟩ = some (.int .i64 s.to_) ∧ w.cell? ⟨g, 9, none⟩ = some (.int .i64 s.done) :=
  ⟨blk_cell h 0, blk_cell h 1, blk_cell h 2, blk_cell h 3, blk_cell h 4, blk_cell h 5, blk_cell h 6, blk_cell h 7, blk_cell h 8, blk_cell h 9⟩
theorem ShAt.frz {w : World} {g : Nat} {s : St} (h : ShAt w g s) (j : Nat) : w.frozen? ⟨g, j, none⟩ = false := blk_frozen h j
theorem ShAt.s2 {w : World} {g : Nat} {s : St} (h : ShAt w g s) (x : Int) : ShAt (w.setCell ⟨g, 2, none⟩ (.int .i64 x)) g { s with place := x } := blk_set h 2 _
theorem ShAt.s3 {w : World} {g : Nat} {s : St} (h : ShAt w g s) (x : Int) : ShAt (w.setCell ⟨g, 3, none⟩ (.int .i64 x)) g { s with state := x } := blk_set h 3 _
theorem ShAt.s4 {w : World} {g : Nat} {s : St} (h : ShAt w g s) (x : Int) : ShAt (w.setCell ⟨g, 4, none⟩ (.int .i64 x)) g { s with was := x } := blk_set h 4 _
theorem ShAt.s5 {w : World} {g : Nat} {s : St} (h : ShAt w g s) (x : Int) : ShAt (w.setCell ⟨g, 5, none⟩ (.int .i64 x)) g { s with ticks := x } := blk_set h 5 _
theorem ShAt.s6 {w : World} {g : Nat} {s : St} (h : ShAt w g s) (x : Int) : ShAt (w.setCell ⟨g, 6, none⟩ (.int .i64 x)) g { s with tote := x } := blk_set h 6 _
theorem ShAt.s7 {w : World} {g : Nat} {s : St} (h : ShAt w g s) (x : Int) : ShAt (w.setCell ⟨g, 7, none⟩ (.int .i64 x)) g { s with fr := x } := blk_set h 7 _
theorem ShAt.s8 {w : World} {g : Nat} {s : St} (h : ShAt w g s) (x : Int) : ShAt (w.setCell ⟨g, 8, none⟩ (.int .i64 x)) g { s with to_ := x } := blk_set h 8 _
theorem ShAt.s9 {w : World} {g : Nat} {s : St} (h : ShAt w g s) (x : Int) : ShAt (w.setCell ⟨g, 9, none⟩ (.int .i64 x)) g { s with done := x } := blk_set h 9 _

theorem ShAt.far {w : World} {g : Nat} {s : St} (h : ShAt w g s) {b : Nat} (hb : b ≠ g) (o : Nat) (u : Value) : ShAt (w.setCell ⟨b, o, none⟩ u) g s := blk_far h (fun e => hb e.symm) u

/-! ### on -/
def onB (s : St) (k : Int) : Bool := ((k == 1) && (s.place == s.fr)) || ((k == 3) && (s.place == s.to_))
def onS (s : St) (k : Int) : St := { s with ticks := 0, state := if onB s k then k + 1 else k }

set_option maxRecDepth 100000 in
set_option maxHeartbeats 1000000 in
theorem on_any (w : World) (g : Nat) (s : St) (k : Int) (hk : 0 ≤ k) (hk5 : k ≤ 5) (hs : ShAt w g s) :
    Calls Try.prog 29 #[.pointer (some ⟨g, 0, none⟩), .int .i64 k] w fun e w' => e = .returned (.tuple #[]) ∧ ShAt w' g (onS s k) ∧ Fr w w' (One g) := by
  have HS := Lib.hid hs
  obtain ⟨c0, c1, c2, c3, c4, c5, c6, c7, c8, c9⟩ := hs.all
  have f3 := hs.frz 3
  have f5 := hs.frz 5
  clear hs c0 c1 c4 c6 c9
  have hcase : ((k == 1) = true ∧ (s.place == s.fr) = true) ∨ ((k == 1) = true ∧ (s.place == s.fr) = false ∧ (k == 3) = false) ∨ ((k == 1) = false ∧ (k == 3) = true ∧ (s.place == s.to_) = true) ∨ ((k == 1) = false ∧ (k == 3) = true ∧ (s.place == s.to_) = false) ∨ ((k == 1) = false ∧ (k == 3) = false) := by
    by_cases a : k = 1
    · subst a; by_cases b : s.place = s.fr <;> simp [b]
    · by_cases a3 : k = 3
      · subst a3; by_cases b : s.place = s.to_ <;> simp [b]
      · simp [a, a3]
  rcases hcase with ⟨a1, a2⟩ | ⟨a1, a2, a3⟩ | ⟨a1, a3, a4⟩ | ⟨a1, a3, a4⟩ | ⟨a1, a3⟩
  · have hB : Hid (onS s k = { s with ticks := 0, state := k + 1 }) := Lib.hid (by unfold onS onB; rw [a1, a2]; rfl)
    rw [hB.out]
    go_enter Try.func29, Try.ntmps29
    go_wp2
    repeat (go_quiet (fail); go_wp2)
    go_end0
    exact ⟨rfl, ((HS.out.s5 0).s3 k).s3 (k + 1), by repeat (first | exact Fr.refl _ _ | apply Fr.to_one | apply Fr.to_drewN | apply Fr.to_drew | apply Fr.to_alloc)⟩
  · have hB : Hid (onS s k = { s with ticks := 0, state := k }) := Lib.hid (by unfold onS onB; rw [a1, a2, a3]; rfl)
    rw [hB.out]
    go_enter Try.func29, Try.ntmps29
    go_wp2
    repeat (go_quiet (fail); go_wp2)
    go_end0
    exact ⟨rfl, (HS.out.s5 0).s3 k, by repeat (first | exact Fr.refl _ _ | apply Fr.to_one | apply Fr.to_drewN | apply Fr.to_drew | apply Fr.to_alloc)⟩
  · have hB : Hid (onS s k = { s with ticks := 0, state := k + 1 }) := Lib.hid (by unfold onS onB; rw [a1, a3, a4]; rfl)
    rw [hB.out]
    go_enter Try.func29, Try.ntmps29
    go_wp2
    repeat (go_quiet (fail); go_wp2)
    go_end0
    exact ⟨rfl, ((HS.out.s5 0).s3 k).s3 (k + 1), by repeat (first | exact Fr.refl _ _ | apply Fr.to_one | apply Fr.to_drewN | apply Fr.to_drew | apply Fr.to_alloc)⟩
  · have hB : Hid (onS s k = { s with ticks := 0, state := k }) := Lib.hid (by unfold onS onB; rw [a1, a3, a4]; rfl)
    rw [hB.out]
    go_enter Try.func29, Try.ntmps29
    go_wp2
    repeat (go_quiet (fail); go_wp2)
    go_end0
    exact ⟨rfl, (HS.out.s5 0).s3 k, by repeat (first | exact Fr.refl _ _ | apply Fr.to_one | apply Fr.to_drewN | apply Fr.to_drew | apply Fr.to_alloc)⟩
  · have hB : Hid (onS s k = { s with ticks := 0, state := k }) := Lib.hid (by unfold onS onB; rw [a1, a3]; rfl)
    rw [hB.out]
    go_enter Try.func29, Try.ntmps29
    go_wp2
    repeat (go_quiet (fail); go_wp2)
    go_end0
    exact ⟨rfl, (HS.out.s5 0).s3 k, by repeat (first | exact Fr.refl _ _ | apply Fr.to_one | apply Fr.to_drewN | apply Fr.to_drew | apply Fr.to_alloc)⟩

/-! ### none -/
def noneB (s : St) (p : Int) : Bool := decide (p < 0) || decide (s.n ≤ p)
set_option maxHeartbeats 1000000 in
theorem none_any (w : World) (g : Nat) (s : St) (p : Int) (hs : ShAt w g s) :
    Calls Try.prog 28 #[.pointer (some ⟨g, 0, none⟩), .int .i64 p] w fun e w' => e = .returned (.bool (noneB s p)) ∧ w = w' := by
  obtain ⟨c0, _, _, _, _, _, _, _, _, _⟩ := hs.all
  clear hs
  by_cases a : p < 0
  · have hB : Hid (noneB s p = true) := Lib.hid (by unfold noneB; simp [a])
    rw [hB.out]
    go_enter Try.func28, Try.ntmps28
    go_wp2
    go_ret
    exact ⟨rfl, rfl⟩
  · have hB : Hid (noneB s p = decide (s.n ≤ p)) := Lib.hid (by unfold noneB; simp [a])
    rw [hB.out]
    go_enter Try.func28, Try.ntmps28
    go_wp2
    go_ret
    exact ⟨rfl, rfl⟩

/-! ### New -/
def newBad (n at_ pat : Int) : Prop := n < 1 ∨ 40 < n ∨ pat < 1 ∨ 1000 < pat ∨ at_ < 0 ∨ n ≤ at_
instance (n at_ pat : Int) : Decidable (newBad n at_ pat) := by unfold newBad; infer_instance
def newS (n at_ pat : Int) : St := { n := n, pat := pat, place := at_, state := 0, was := 0, ticks := 0, tote := 0, fr := 0, to_ := 0, done := 0 }
set_option maxRecDepth 100000 in
set_option maxHeartbeats 1000000 in
theorem new_bad (w : World) (n at_ pat : Int) (h : newBad n at_ pat) :
    Calls Try.prog 9 #[.int .i64 n, .int .i64 at_, .int .i64 pat] w fun e w' => e = .returned (.tuple #[.pointer none, .int .i64 1]) ∧ w = w' := by
  have hcase : n < 1 ∨ (¬ n < 1 ∧ 40 < n) ∨ (¬ n < 1 ∧ ¬ 40 < n ∧ pat < 1) ∨ (¬ n < 1 ∧ ¬ 40 < n ∧ ¬ pat < 1 ∧ 1000 < pat) ∨ (¬ n < 1 ∧ ¬ 40 < n ∧ ¬ pat < 1 ∧ ¬ 1000 < pat ∧ at_ < 0) ∨ (¬ n < 1 ∧ ¬ 40 < n ∧ ¬ pat < 1 ∧ ¬ 1000 < pat ∧ ¬ at_ < 0 ∧ n ≤ at_) := by
    unfold newBad at h; omega
  clear h
  rcases hcase with h1 | ⟨h1, h2⟩ | ⟨h1, h2, h3⟩ | ⟨h1, h2, h3, h4⟩ | ⟨h1, h2, h3, h4, h5⟩ | ⟨h1, h2, h3, h4, h5, h6⟩
  all_goals
    go_enter Try.func9, Try.ntmps9
    go_wp2
    go_ret2
    exact ⟨rfl, rfl⟩
set_option maxRecDepth 100000 in
set_option maxHeartbeats 1000000 in
theorem new_ok (w : World) (n at_ pat : Int) (h : ¬ newBad n at_ pat) :
    Calls Try.prog 9 #[.int .i64 n, .int .i64 at_, .int .i64 pat] w fun e w' => e = .returned (.tuple #[.pointer (some ⟨w.heap.size, 0, none⟩), .int .i64 0]) ∧ ShAt w' w.heap.size (newS n at_ pat) ∧ Fr w w' No := by
  have hcase : ¬ n < 1 ∧ ¬ 40 < n ∧ ¬ pat < 1 ∧ ¬ 1000 < pat ∧ ¬ at_ < 0 ∧ ¬ n ≤ at_ := by unfold newBad at h; omega
  clear h
  obtain ⟨h1, h2, h3, h4, h5, h6⟩ := hcase
  go_enter Try.func9, Try.ntmps9
  go_wp2
  go_ret2
  exact ⟨rfl, blk_new _ _, Fr.alloc _ _ _⟩

/-! ### State, Place, Done, Load -/
theorem state_any (w : World) (g : Nat) (s : St) (hs : ShAt w g s) : Calls Try.prog 11 #[.pointer (some ⟨g, 0, none⟩)] w fun e w' => e = .returned (.int .i64 s.state) ∧ w = w' := by
  obtain ⟨_, _, _, c3, _, _, _, _, _, _⟩ := hs.all
  clear hs
  go_enter Try.func11, Try.ntmps11
  go_wp2
  go_ret
  exact ⟨rfl, rfl⟩
theorem place_any (w : World) (g : Nat) (s : St) (hs : ShAt w g s) : Calls Try.prog 16 #[.pointer (some ⟨g, 0, none⟩)] w fun e w' => e = .returned (.int .i64 s.place) ∧ w = w' := by
  obtain ⟨_, _, c2, _, _, _, _, _, _, _⟩ := hs.all
  clear hs
  go_enter Try.func16, Try.ntmps16
  go_wp2
  go_ret
  exact ⟨rfl, rfl⟩
theorem done_any (w : World) (g : Nat) (s : St) (hs : ShAt w g s) : Calls Try.prog 18 #[.pointer (some ⟨g, 0, none⟩)] w fun e w' => e = .returned (.int .i64 s.done) ∧ w = w' := by
  obtain ⟨_, _, _, _, _, _, _, _, _, c9⟩ := hs.all
  clear hs
  go_enter Try.func18, Try.ntmps18
  go_wp2
  go_ret
  exact ⟨rfl, rfl⟩
def loadK (s : St) : Int := if s.state = 5 then s.was else s.state
def loadS (s : St) : Int := if loadK s = 3 ∨ loadK s = 4 then s.tote else 0
set_option maxHeartbeats 1000000 in
theorem load_any (w : World) (g : Nat) (s : St) (hs : ShAt w g s) : Calls Try.prog 17 #[.pointer (some ⟨g, 0, none⟩)] w fun e w' => e = .returned (.int .i64 (loadS s)) ∧ w = w' := by
  obtain ⟨_, _, _, c3, c4, _, c6, _, _, _⟩ := hs.all
  clear hs
  by_cases a : s.state = 5
  · have a5 : (s.state == 5) = true := by simp [a]
    have hK : loadK s = s.was := by unfold loadK; rw [if_pos a]
    clear a
    by_cases b3 : s.was = 3
    · have b3' : (s.was == 3) = true := by simp [b3]
      have hB : Hid (loadS s = s.tote) := Lib.hid (by unfold loadS; rw [hK, if_pos (.inl b3)])
      rw [hB.out]
      clear hK b3
      go_enter Try.func17, Try.ntmps17
      go_wp2
      go_ret
      exact ⟨rfl, rfl⟩
    · have b3' : (s.was == 3) = false := by simp [b3]
      by_cases b4 : s.was = 4
      · have b4' : (s.was == 4) = true := by simp [b4]
        have hB : Hid (loadS s = s.tote) := Lib.hid (by unfold loadS; rw [hK, if_pos (.inr b4)])
        rw [hB.out]
        clear hK b3 b4
        go_enter Try.func17, Try.ntmps17
        go_wp2
        go_ret
        exact ⟨rfl, rfl⟩
      · have b4' : (s.was == 4) = false := by simp [b4]
        have hB : Hid (loadS s = 0) := Lib.hid (by unfold loadS; rw [hK, if_neg (by omega)])
        rw [hB.out]
        clear hK b3 b4
        go_enter Try.func17, Try.ntmps17
        go_wp2
        go_ret
        exact ⟨rfl, rfl⟩
  · have a5 : (s.state == 5) = false := by simp [a]
    have hK : loadK s = s.state := by unfold loadK; rw [if_neg a]
    clear a
    by_cases b3 : s.state = 3
    · have b3' : (s.state == 3) = true := by simp [b3]
      have hB : Hid (loadS s = s.tote) := Lib.hid (by unfold loadS; rw [hK, if_pos (.inl b3)])
      rw [hB.out]
      clear hK b3
      go_enter Try.func17, Try.ntmps17
      go_wp2
      go_ret
      exact ⟨rfl, rfl⟩
    · have b3' : (s.state == 3) = false := by simp [b3]
      by_cases b4 : s.state = 4
      · have b4' : (s.state == 4) = true := by simp [b4]
        have hB : Hid (loadS s = s.tote) := Lib.hid (by unfold loadS; rw [hK, if_pos (.inr b4)])
        rw [hB.out]
        clear hK b3 b4
        go_enter Try.func17, Try.ntmps17
        go_wp2
        go_ret
        exact ⟨rfl, rfl⟩
      · have b4' : (s.state == 4) = false := by simp [b4]
        have hB : Hid (loadS s = 0) := Lib.hid (by unfold loadS; rw [hK, if_neg (by omega)])
        rw [hB.out]
        clear hK b3 b4
        go_enter Try.func17, Try.ntmps17
        go_wp2
        go_ret
        exact ⟨rfl, rfl⟩

end Go.Proofs.Ytoilalohhicipaa
