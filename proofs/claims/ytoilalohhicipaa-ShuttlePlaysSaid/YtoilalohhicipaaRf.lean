import Derived.Test.YtoilalohhicipaaSh4
namespace Go.Proofs.Ytoilalohhicipaa
open Go.RowKit
set_option linter.unusedVariables false
set_option linter.unusedSimpArgs false

/-! ### on -/
set_option maxRecDepth 100000 in
set_option maxHeartbeats 1000000 in
theorem refOn_any (w : World) (s : St) (k : Int) :
    Calls Try.prog 31 #[.agg #[.int .i64 s.n, .int .i64 s.pat, .int .i64 s.place, .int .i64 s.state, .int .i64 s.was, .int .i64 s.ticks, .int .i64 s.tote, .int .i64 s.fr, .int .i64 s.to_, .int .i64 s.done], .int .i64 k] w fun e w' => e = .returned (.agg #[.int .i64 (onS s k).n, .int .i64 (onS s k).pat, .int .i64 (onS s k).place, .int .i64 (onS s k).state, .int .i64 (onS s k).was, .int .i64 (onS s k).ticks, .int .i64 (onS s k).tote, .int .i64 (onS s k).fr, .int .i64 (onS s k).to_, .int .i64 (onS s k).done]) ∧ Fr w w' No := by
  have hcase : ((k == 1) = true ∧ (s.place == s.fr) = true) ∨ ((k == 1) = true ∧ (s.place == s.fr) = false ∧ (k == 3) = false) ∨ ((k == 1) = false ∧ (k == 3) = true ∧ (s.place == s.to_) = true) ∨ ((k == 1) = false ∧ (k == 3) = true ∧ (s.place == s.to_) = false) ∨ ((k == 1) = false ∧ (k == 3) = false) := by
    by_cases a : k = 1
    · subst a; by_cases b : s.place = s.fr <;> simp [b]
    · by_cases a3 : k = 3
      · subst a3; by_cases b : s.place = s.to_ <;> simp [b]
      · simp [a, a3]
  rcases hcase with ⟨a1, a2⟩ | ⟨a1, a2, a3⟩ | ⟨a1, a3, a4⟩ | ⟨a1, a3, a4⟩ | ⟨a1, a3⟩
  · have hB : Hid (onS s k = { s with ticks := 0, state := k + 1 }) := Lib.hid (by unfold onS onB; simp [a1, a2])
    rw [hB.out]
    have hk : k = 1 := by simpa using a1
    subst hk
    go_enter Try.func31, Try.ntmps31
    go_wp2
    refine bodyPost_ret (v := .agg #[.int .i64 s.n, .int .i64 s.pat, .int .i64 s.place, .int .i64 2, .int .i64 s.was, .int .i64 0, .int .i64 s.tote, .int .i64 s.fr, .int .i64 s.to_, .int .i64 s.done]) (by simp [results, Try.results31, go_sem]) rfl ⟨by first | rfl | simp, by repeat (first | exact Fr.refl _ _ | apply Fr.to_drewN | apply Fr.to_drew | apply Fr.to_alloc)⟩
  · have hB : Hid (onS s k = { s with ticks := 0, state := k }) := Lib.hid (by unfold onS onB; simp [a1, a2, a3])
    rw [hB.out]
    go_enter Try.func31, Try.ntmps31
    go_wp2
    refine bodyPost_ret (v := .agg #[.int .i64 s.n, .int .i64 s.pat, .int .i64 s.place, .int .i64 k, .int .i64 s.was, .int .i64 0, .int .i64 s.tote, .int .i64 s.fr, .int .i64 s.to_, .int .i64 s.done]) (by simp [results, Try.results31, go_sem]) rfl ⟨by first | rfl | simp, by repeat (first | exact Fr.refl _ _ | apply Fr.to_drewN | apply Fr.to_drew | apply Fr.to_alloc)⟩
  · have hB : Hid (onS s k = { s with ticks := 0, state := k + 1 }) := Lib.hid (by unfold onS onB; simp [a1, a3, a4])
    rw [hB.out]
    have hk : k = 3 := by simpa using a3
    subst hk
    go_enter Try.func31, Try.ntmps31
    go_wp2
    refine bodyPost_ret (v := .agg #[.int .i64 s.n, .int .i64 s.pat, .int .i64 s.place, .int .i64 4, .int .i64 s.was, .int .i64 0, .int .i64 s.tote, .int .i64 s.fr, .int .i64 s.to_, .int .i64 s.done]) (by simp [results, Try.results31, go_sem]) rfl ⟨by first | rfl | simp, by repeat (first | exact Fr.refl _ _ | apply Fr.to_drewN | apply Fr.to_drew | apply Fr.to_alloc)⟩
  · have hB : Hid (onS s k = { s with ticks := 0, state := k }) := Lib.hid (by unfold onS onB; simp [a1, a3, a4])
    rw [hB.out]
    go_enter Try.func31, Try.ntmps31
    go_wp2
    refine bodyPost_ret (v := .agg #[.int .i64 s.n, .int .i64 s.pat, .int .i64 s.place, .int .i64 k, .int .i64 s.was, .int .i64 0, .int .i64 s.tote, .int .i64 s.fr, .int .i64 s.to_, .int .i64 s.done]) (by simp [results, Try.results31, go_sem]) rfl ⟨by first | rfl | simp, by repeat (first | exact Fr.refl _ _ | apply Fr.to_drewN | apply Fr.to_drew | apply Fr.to_alloc)⟩
  · have hB : Hid (onS s k = { s with ticks := 0, state := k }) := Lib.hid (by unfold onS onB; simp [a1, a3])
    rw [hB.out]
    go_enter Try.func31, Try.ntmps31
    go_wp2
    refine bodyPost_ret (v := .agg #[.int .i64 s.n, .int .i64 s.pat, .int .i64 s.place, .int .i64 k, .int .i64 s.was, .int .i64 0, .int .i64 s.tote, .int .i64 s.fr, .int .i64 s.to_, .int .i64 s.done]) (by simp [results, Try.results31, go_sem]) rfl ⟨by first | rfl | simp, by repeat (first | exact Fr.refl _ _ | apply Fr.to_drewN | apply Fr.to_drew | apply Fr.to_alloc)⟩

/-- Ten cells are stored. -/
theorem ten {w : World} {g : Nat} {c : Array Value} (h : w.heap[g]? = some (.cells c 45 (0, 0))) (hc : c.size = 10) (v0 v1 v2 v3 v4 v5 v6 v7 v8 v9 : Value) :
    (w.setCell ⟨g, 0, none⟩ v0).cell? ⟨g, 0, none⟩ = some v0 ∧
    ((w.setCell ⟨g, 0, none⟩ v0).setCell ⟨g, 1, none⟩ v1).cell? ⟨g, 1, none⟩ = some v1 ∧
    (((w.setCell ⟨g, 0, none⟩ v0).setCell ⟨g, 1, none⟩ v1).setCell ⟨g, 2, none⟩ v2).cell? ⟨g, 2, none⟩ = some v2 ∧
    ((((w.setCell ⟨g, 0, none⟩ v0).setCell ⟨g, 1, none⟩ v1).setCell ⟨g, 2, none⟩ v2).setCell ⟨g, 3, none⟩ v3).cell? ⟨g, 3, none⟩ = some v3 ∧
    (((((w.setCell ⟨g, 0, none⟩ v0).setCell ⟨g, 1, none⟩ v1).setCell ⟨g, 2, none⟩ v2).setCell ⟨g, 3, none⟩ v3).setCell ⟨g, 4, none⟩ v4).cell? ⟨g, 4, none⟩ = some v4 ∧
    ((((((w.setCell ⟨g, 0, none⟩ v0).setCell ⟨g, 1, none⟩ v1).setCell ⟨g, 2, none⟩ v2).setCell ⟨g, 3, none⟩ v3).setCell ⟨g, 4, none⟩ v4).setCell ⟨g, 5, none⟩ v5).cell? ⟨g, 5, none⟩ = some v5 ∧
    (((((((w.setCell ⟨g, 0, none⟩ v0).setCell ⟨g, 1, none⟩ v1).setCell ⟨g, 2, none⟩ v2).setCell ⟨g, 3, none⟩ v3).setCell ⟨g, 4, none⟩ v4).setCell ⟨g, 5, none⟩ v5).setCell ⟨g, 6, none⟩ v6).cell? ⟨g, 6, none⟩ = some v6 ∧
    ((((((((w.setCell ⟨g, 0, none⟩ v0).setCell ⟨g, 1, none⟩ v1).setCell ⟨g, 2, none⟩ v2).setCell ⟨g, 3, none⟩ v3).setCell ⟨g, 4, none⟩ v4).setCell ⟨g, 5, none⟩ v5).setCell ⟨g, 6, none⟩ v6).setCell ⟨g, 7, none⟩ v7).cell? ⟨g, 7, none⟩ = some v7 ∧
    (((((((((w.setCell ⟨g, 0, none⟩ v0).setCell ⟨g, 1, none⟩ v1).setCell ⟨g, 2, none⟩ v2).setCell ⟨g, 3, none⟩ v3).setCell ⟨g, 4, none⟩ v4).setCell ⟨g, 5, none⟩ v5).setCell ⟨g, 6, none⟩ v6).setCell ⟨g, 7, none⟩ v7).setCell ⟨g, 8, none⟩ v8).cell? ⟨g, 8, none⟩ = some v8 ∧
    ((((((((((w.setCell ⟨g, 0, none⟩ v0).setCell ⟨g, 1, none⟩ v1).setCell ⟨g, 2, none⟩ v2).setCell ⟨g, 3, none⟩ v3).setCell ⟨g, 4, none⟩ v4).setCell ⟨g, 5, none⟩ v5).setCell ⟨g, 6, none⟩ v6).setCell ⟨g, 7, none⟩ v7).setCell ⟨g, 8, none⟩ v8).setCell ⟨g, 9, none⟩ v9).cell? ⟨g, 9, none⟩ = some v9 := by
  have q0 := h
  have q1 := blk_set q0 0 v0
  have q2 := blk_set q1 1 v1
  have q3 := blk_set q2 2 v2
  have q4 := blk_set q3 3 v3
  have q5 := blk_set q4 4 v4
  have q6 := blk_set q5 5 v5
  have q7 := blk_set q6 6 v6
  have q8 := blk_set q7 7 v7
  have q9 := blk_set q8 8 v8
  exact ⟨set_at q0 0 (by simp [hc]) v0, set_at q1 1 (by simp [hc]) v1, set_at q2 2 (by simp [hc]) v2, set_at q3 3 (by simp [hc]) v3, set_at q4 4 (by simp [hc]) v4, set_at q5 5 (by simp [hc]) v5, set_at q6 6 (by simp [hc]) v6, set_at q7 7 (by simp [hc]) v7, set_at q8 8 (by simp [hc]) v8, set_at q9 9 (by simp [hc]) v9⟩

/-- What the walks want of the block that waits for an answer. -/
theorem wait {w w' : World} {a b : Obj} (hf : Fr ((w.alloc a).alloc b) w' No) {c : Array Value} (hb : b = .cells c 45 (0, 0)) (h0 : c = #[.int .i64 0, .int .i64 0, .int .i64 0, .int .i64 0, .int .i64 0, .int .i64 0, .int .i64 0, .int .i64 0, .int .i64 0, .int .i64 0]) :
    w'.heap[w.heap.size + 1]? = some (.cells #[.int .i64 0, .int .i64 0, .int .i64 0, .int .i64 0, .int .i64 0, .int .i64 0, .int .i64 0, .int .i64 0, .int .i64 0, .int .i64 0] 45 (0, 0)) ∧ w'.cell? ⟨w.heap.size + 1, 0, none⟩ = some (.int .i64 0) ∧ w'.cell? ⟨w.heap.size + 1, 1, none⟩ = some (.int .i64 0) ∧ w'.cell? ⟨w.heap.size + 1, 2, none⟩ = some (.int .i64 0) ∧ w'.cell? ⟨w.heap.size + 1, 3, none⟩ = some (.int .i64 0) ∧ w'.cell? ⟨w.heap.size + 1, 4, none⟩ = some (.int .i64 0) ∧ w'.cell? ⟨w.heap.size + 1, 5, none⟩ = some (.int .i64 0) ∧ w'.cell? ⟨w.heap.size + 1, 6, none⟩ = some (.int .i64 0) ∧ w'.cell? ⟨w.heap.size + 1, 7, none⟩ = some (.int .i64 0) ∧ w'.cell? ⟨w.heap.size + 1, 8, none⟩ = some (.int .i64 0) ∧ w'.cell? ⟨w.heap.size + 1, 9, none⟩ = some (.int .i64 0) ∧ w'.frozen? ⟨w.heap.size + 1, 0, none⟩ = false ∧ w'.frozen? ⟨w.heap.size + 1, 1, none⟩ = false ∧ w'.frozen? ⟨w.heap.size + 1, 2, none⟩ = false ∧ w'.frozen? ⟨w.heap.size + 1, 3, none⟩ = false ∧ w'.frozen? ⟨w.heap.size + 1, 4, none⟩ = false ∧ w'.frozen? ⟨w.heap.size + 1, 5, none⟩ = false ∧ w'.frozen? ⟨w.heap.size + 1, 6, none⟩ = false ∧ w'.frozen? ⟨w.heap.size + 1, 7, none⟩ = false ∧ w'.frozen? ⟨w.heap.size + 1, 8, none⟩ = false ∧ w'.frozen? ⟨w.heap.size + 1, 9, none⟩ = false := by
  subst hb
  subst h0
  have h := hf.blk (two_blk w a (.cells #[.int .i64 0, .int .i64 0, .int .i64 0, .int .i64 0, .int .i64 0, .int .i64 0, .int .i64 0, .int .i64 0, .int .i64 0, .int .i64 0] 45)).2.1 (fun h => h)
  exact ⟨h, blk_cell h 0, blk_cell h 1, blk_cell h 2, blk_cell h 3, blk_cell h 4, blk_cell h 5, blk_cell h 6, blk_cell h 7, blk_cell h 8, blk_cell h 9, blk_frozen h 0, blk_frozen h 1, blk_frozen h 2, blk_frozen h 3, blk_frozen h 4, blk_frozen h 5, blk_frozen h 6, blk_frozen h 7, blk_frozen h 8, blk_frozen h 9⟩

theorem tenFr {a w : World} {g : Nat} (h : Fr a w No) (hg : a.heap.size ≤ g) (v0 v1 v2 v3 v4 v5 v6 v7 v8 v9 : Value) : Fr a ((((((((((w.setCell ⟨g, 0, none⟩ v0).setCell ⟨g, 1, none⟩ v1).setCell ⟨g, 2, none⟩ v2).setCell ⟨g, 3, none⟩ v3).setCell ⟨g, 4, none⟩ v4).setCell ⟨g, 5, none⟩ v5).setCell ⟨g, 6, none⟩ v6).setCell ⟨g, 7, none⟩ v7).setCell ⟨g, 8, none⟩ v8).setCell ⟨g, 9, none⟩ v9) No :=
  Fr.to_new (Fr.to_new (Fr.to_new (Fr.to_new (Fr.to_new (Fr.to_new (Fr.to_new (Fr.to_new (Fr.to_new (Fr.to_new (h) _ _ hg) _ _ hg) _ _ hg) _ _ hg) _ _ hg) _ _ hg) _ _ hg) _ _ hg) _ _ hg) _ _ hg

/-! ### Moved -/
set_option maxRecDepth 100000 in
set_option maxHeartbeats 2000000 in
theorem refMoved_any (w : World) (s : St) (p : Int) :
    Calls Try.prog 23 #[.agg #[.int .i64 s.n, .int .i64 s.pat, .int .i64 s.place, .int .i64 s.state, .int .i64 s.was, .int .i64 s.ticks, .int .i64 s.tote, .int .i64 s.fr, .int .i64 s.to_, .int .i64 s.done], .int .i64 p] w fun e w' => e = .returned (.tuple #[.agg #[.int .i64 (movedS s p).n, .int .i64 (movedS s p).pat, .int .i64 (movedS s p).place, .int .i64 (movedS s p).state, .int .i64 (movedS s p).was, .int .i64 (movedS s p).ticks, .int .i64 (movedS s p).tote, .int .i64 (movedS s p).fr, .int .i64 (movedS s p).to_, .int .i64 (movedS s p).done], .int .i64 (movedE s p)]) ∧ Fr w w' No := by
  have hcase : (p < 0) ∨ (¬ p < 0 ∧ s.n ≤ p) ∨ (¬ p < 0 ∧ ¬ s.n ≤ p ∧ (s.state != 1) = true ∧ (s.state != 3) = true) ∨ (¬ p < 0 ∧ ¬ s.n ≤ p ∧ (s.state != 1) = false) ∨ (¬ p < 0 ∧ ¬ s.n ≤ p ∧ (s.state != 1) = true ∧ (s.state != 3) = false) := by
    by_cases a : p < 0 <;> by_cases b : s.n ≤ p <;> by_cases c : s.state = 1 <;> by_cases d : s.state = 3 <;> simp [a, b, c, d]
  rcases hcase with h1 | ⟨h1, h2⟩ | ⟨h1, h2, h3, h4⟩ | ⟨h1, h2, h3⟩ | ⟨h1, h2, h3, h4⟩
  · have he : movedE s p = 1 := by unfold movedE noneB; simp [h1]
    have hS : movedS s p = s := by unfold movedS; rw [he]; rfl
    rw [he, hS]
    clear he hS 
    go_enter Try.func23, Try.ntmps23
    go_wp2
    refine bodyPost_ret (v := .tuple #[.agg #[.int .i64 s.n, .int .i64 s.pat, .int .i64 s.place, .int .i64 s.state, .int .i64 s.was, .int .i64 s.ticks, .int .i64 s.tote, .int .i64 s.fr, .int .i64 s.to_, .int .i64 s.done], .int .i64 1]) (by simp [results, Try.results23, go_sem]) rfl ⟨rfl, by repeat (first | exact Fr.refl _ _ | apply Fr.to_drewN | apply Fr.to_drew | apply Fr.to_alloc)⟩
  · have he : movedE s p = 1 := by unfold movedE noneB; simp [h1, h2]
    have hS : movedS s p = s := by unfold movedS; rw [he]; rfl
    rw [he, hS]
    clear he hS 
    go_enter Try.func23, Try.ntmps23
    go_wp2
    refine bodyPost_ret (v := .tuple #[.agg #[.int .i64 s.n, .int .i64 s.pat, .int .i64 s.place, .int .i64 s.state, .int .i64 s.was, .int .i64 s.ticks, .int .i64 s.tote, .int .i64 s.fr, .int .i64 s.to_, .int .i64 s.done], .int .i64 1]) (by simp [results, Try.results23, go_sem]) rfl ⟨rfl, by repeat (first | exact Fr.refl _ _ | apply Fr.to_drewN | apply Fr.to_drew | apply Fr.to_alloc)⟩
  · have a1 : s.state ≠ 1 := by simpa using h3
    have a2 : s.state ≠ 3 := by simpa using h4
    have he : movedE s p = 140 := by unfold movedE noneB; simp [h1, h2, a1, a2]
    have hS : movedS s p = s := by unfold movedS; rw [he]; rfl
    rw [he, hS]
    clear he hS a1 a2
    go_enter Try.func23, Try.ntmps23
    go_wp2
    refine bodyPost_ret (v := .tuple #[.agg #[.int .i64 s.n, .int .i64 s.pat, .int .i64 s.place, .int .i64 s.state, .int .i64 s.was, .int .i64 s.ticks, .int .i64 s.tote, .int .i64 s.fr, .int .i64 s.to_, .int .i64 s.done], .int .i64 140]) (by simp [results, Try.results23, go_sem]) rfl ⟨rfl, by repeat (first | exact Fr.refl _ _ | apply Fr.to_drewN | apply Fr.to_drew | apply Fr.to_alloc)⟩
  · have a1 : s.state = 1 := by simpa using h3
    have he : movedE s p = 0 := by unfold movedE noneB; simp [h1, h2, a1]
    have hS : movedS s p = onS { s with place := p } s.state := by unfold movedS; rw [he]; rfl
    rw [he, hS]
    clear he hS a1
    go_enter Try.func23, Try.ntmps23
    go_wp2_with fail
    refine (refOn_any _ { s with place := p } s.state).mono ?_
    rintro e w3 ⟨rfl, hf3⟩
    have HF := Lib.hid hf3
    obtain ⟨p1, k0, k1, k2, k3, k4, k5, k6, k7, k8, k9, z0, z1, z2, z3, z4, z5, z6, z7, z8, z9⟩ := wait hf3 rfl rfl
    generalize hT : onS { s with place := p } s.state = T at *
    have HT := Lib.hid hT
    clear hT hf3
    obtain ⟨s0, s1, s2, s3, s4, s5, s6, s7, s8, s9⟩ := ten p1 rfl (.int .i64 T.n) (.int .i64 T.pat) (.int .i64 T.place) (.int .i64 T.state) (.int .i64 T.was) (.int .i64 T.ticks) (.int .i64 T.tote) (.int .i64 T.fr) (.int .i64 T.to_) (.int .i64 T.done)
    clear p1
    go_wp2
    refine bodyPost_ret (v := .tuple #[.agg #[.int .i64 T.n, .int .i64 T.pat, .int .i64 T.place, .int .i64 T.state, .int .i64 T.was, .int .i64 T.ticks, .int .i64 T.tote, .int .i64 T.fr, .int .i64 T.to_, .int .i64 T.done], .int .i64 0]) (by simp [results, Try.results23, go_sem, s0, s1, s2, s3, s4, s5, s6, s7, s8, s9]) rfl ⟨?_, ?_⟩
    · rw [HT.out]
    · exact tenFr ((((Fr.refl w No).to_alloc _).to_alloc _).nn HF.out) (Nat.le_succ _) _ _ _ _ _ _ _ _ _ _
  · have a1 : s.state = 3 := by simpa using h4
    have he : movedE s p = 0 := by unfold movedE noneB; simp [h1, h2, a1]
    have hS : movedS s p = onS { s with place := p } s.state := by unfold movedS; rw [he]; rfl
    rw [he, hS]
    clear he hS a1
    go_enter Try.func23, Try.ntmps23
    go_wp2_with fail
    refine (refOn_any _ { s with place := p } s.state).mono ?_
    rintro e w3 ⟨rfl, hf3⟩
    have HF := Lib.hid hf3
    obtain ⟨p1, k0, k1, k2, k3, k4, k5, k6, k7, k8, k9, z0, z1, z2, z3, z4, z5, z6, z7, z8, z9⟩ := wait hf3 rfl rfl
    generalize hT : onS { s with place := p } s.state = T at *
    have HT := Lib.hid hT
    clear hT hf3
    obtain ⟨s0, s1, s2, s3, s4, s5, s6, s7, s8, s9⟩ := ten p1 rfl (.int .i64 T.n) (.int .i64 T.pat) (.int .i64 T.place) (.int .i64 T.state) (.int .i64 T.was) (.int .i64 T.ticks) (.int .i64 T.tote) (.int .i64 T.fr) (.int .i64 T.to_) (.int .i64 T.done)
    clear p1
    go_wp2
    refine bodyPost_ret (v := .tuple #[.agg #[.int .i64 T.n, .int .i64 T.pat, .int .i64 T.place, .int .i64 T.state, .int .i64 T.was, .int .i64 T.ticks, .int .i64 T.tote, .int .i64 T.fr, .int .i64 T.to_, .int .i64 T.done], .int .i64 0]) (by simp [results, Try.results23, go_sem, s0, s1, s2, s3, s4, s5, s6, s7, s8, s9]) rfl ⟨?_, ?_⟩
    · rw [HT.out]
    · exact tenFr ((((Fr.refl w No).to_alloc _).to_alloc _).nn HF.out) (Nat.le_succ _) _ _ _ _ _ _ _ _ _ _

theorem wait3 {w w' : World} {a b c : Obj} (hf : Fr (((w.alloc a).alloc b).alloc c) w' No) (hc : c = .cells #[.int .i64 0, .int .i64 0, .int .i64 0, .int .i64 0, .int .i64 0, .int .i64 0, .int .i64 0, .int .i64 0, .int .i64 0, .int .i64 0] 45) :
    w'.heap[w.heap.size + 1 + 1]? = some (.cells #[.int .i64 0, .int .i64 0, .int .i64 0, .int .i64 0, .int .i64 0, .int .i64 0, .int .i64 0, .int .i64 0, .int .i64 0, .int .i64 0] 45 (0, 0)) ∧ w'.cell? ⟨w.heap.size + 1 + 1, 0, none⟩ = some (.int .i64 0) ∧ w'.cell? ⟨w.heap.size + 1 + 1, 1, none⟩ = some (.int .i64 0) ∧ w'.cell? ⟨w.heap.size + 1 + 1, 2, none⟩ = some (.int .i64 0) ∧ w'.cell? ⟨w.heap.size + 1 + 1, 3, none⟩ = some (.int .i64 0) ∧ w'.cell? ⟨w.heap.size + 1 + 1, 4, none⟩ = some (.int .i64 0) ∧ w'.cell? ⟨w.heap.size + 1 + 1, 5, none⟩ = some (.int .i64 0) ∧ w'.cell? ⟨w.heap.size + 1 + 1, 6, none⟩ = some (.int .i64 0) ∧ w'.cell? ⟨w.heap.size + 1 + 1, 7, none⟩ = some (.int .i64 0) ∧ w'.cell? ⟨w.heap.size + 1 + 1, 8, none⟩ = some (.int .i64 0) ∧ w'.cell? ⟨w.heap.size + 1 + 1, 9, none⟩ = some (.int .i64 0) ∧ w'.frozen? ⟨w.heap.size + 1 + 1, 0, none⟩ = false ∧ w'.frozen? ⟨w.heap.size + 1 + 1, 1, none⟩ = false ∧ w'.frozen? ⟨w.heap.size + 1 + 1, 2, none⟩ = false ∧ w'.frozen? ⟨w.heap.size + 1 + 1, 3, none⟩ = false ∧ w'.frozen? ⟨w.heap.size + 1 + 1, 4, none⟩ = false ∧ w'.frozen? ⟨w.heap.size + 1 + 1, 5, none⟩ = false ∧ w'.frozen? ⟨w.heap.size + 1 + 1, 6, none⟩ = false ∧ w'.frozen? ⟨w.heap.size + 1 + 1, 7, none⟩ = false ∧ w'.frozen? ⟨w.heap.size + 1 + 1, 8, none⟩ = false ∧ w'.frozen? ⟨w.heap.size + 1 + 1, 9, none⟩ = false := by
  subst hc
  have h := hf.blk (two_blk (w.alloc a) b (.cells #[.int .i64 0, .int .i64 0, .int .i64 0, .int .i64 0, .int .i64 0, .int .i64 0, .int .i64 0, .int .i64 0, .int .i64 0, .int .i64 0] 45)).2.1 (fun h => h)
  simp only [World.size_alloc] at h
  exact ⟨h, blk_cell h 0, blk_cell h 1, blk_cell h 2, blk_cell h 3, blk_cell h 4, blk_cell h 5, blk_cell h 6, blk_cell h 7, blk_cell h 8, blk_cell h 9, blk_frozen h 0, blk_frozen h 1, blk_frozen h 2, blk_frozen h 3, blk_frozen h 4, blk_frozen h 5, blk_frozen h 6, blk_frozen h 7, blk_frozen h 8, blk_frozen h 9⟩

set_option maxRecDepth 100000 in
set_option maxHeartbeats 2000000 in
theorem refPicked_any (w : World) (s : St) (t : Int) :
    Calls Try.prog 24 #[.agg #[.int .i64 s.n, .int .i64 s.pat, .int .i64 s.place, .int .i64 s.state, .int .i64 s.was, .int .i64 s.ticks, .int .i64 s.tote, .int .i64 s.fr, .int .i64 s.to_, .int .i64 s.done], .int .i64 2, .int .i64 t] w fun e w' => e = .returned (.tuple #[.agg #[.int .i64 (handS s 2 3 t).n, .int .i64 (handS s 2 3 t).pat, .int .i64 (handS s 2 3 t).place, .int .i64 (handS s 2 3 t).state, .int .i64 (handS s 2 3 t).was, .int .i64 (handS s 2 3 t).ticks, .int .i64 (handS s 2 3 t).tote, .int .i64 (handS s 2 3 t).fr, .int .i64 (handS s 2 3 t).to_, .int .i64 (handS s 2 3 t).done], .int .i64 (handE s 2 t)]) ∧ Fr w w' No := by
  have hcase : (s.state != 2) = true ∨ ((s.state != 2) = false ∧ (s.tote != t) = true) ∨ ((s.state != 2) = false ∧ (s.tote != t) = false) := by
    by_cases a : s.state = 2 <;> by_cases b : s.tote = t <;> simp [a, b]
  rcases hcase with h | ⟨h, h2⟩ | ⟨h, h2⟩
  · have a1 : s.state ≠ 2 := by simpa using h
    have he : handE s 2 t = 140 := by unfold handE; rw [if_pos a1]
    have hS : (handS s 2 3 t) = s := by unfold handS; rw [he]; rfl
    rw [he, hS]
    clear he hS a1
    go_enter Try.func24, Try.ntmps24
    go_wp2
    refine bodyPost_ret (v := .tuple #[.agg #[.int .i64 s.n, .int .i64 s.pat, .int .i64 s.place, .int .i64 s.state, .int .i64 s.was, .int .i64 s.ticks, .int .i64 s.tote, .int .i64 s.fr, .int .i64 s.to_, .int .i64 s.done], .int .i64 140]) (by simp [results, Try.results24, go_sem]) rfl ⟨rfl, by repeat (first | exact Fr.refl _ _ | apply Fr.to_drewN | apply Fr.to_drew | apply Fr.to_alloc)⟩
  · have a1 : s.state = 2 := by simpa using h
    have a2 : t ≠ s.tote := by intro e; subst e; simp at h2
    have he : handE s 2 t = 160 := by unfold handE; rw [if_neg (by omega), if_pos a2]
    have hS : (handS s 2 3 t) = s := by unfold handS; rw [he]; rfl
    rw [he, hS]
    clear he hS a1 a2
    go_enter Try.func24, Try.ntmps24
    go_wp2
    refine bodyPost_ret (v := .tuple #[.agg #[.int .i64 s.n, .int .i64 s.pat, .int .i64 s.place, .int .i64 s.state, .int .i64 s.was, .int .i64 s.ticks, .int .i64 s.tote, .int .i64 s.fr, .int .i64 s.to_, .int .i64 s.done], .int .i64 160]) (by simp [results, Try.results24, go_sem]) rfl ⟨rfl, by repeat (first | exact Fr.refl _ _ | apply Fr.to_drewN | apply Fr.to_drew | apply Fr.to_alloc)⟩
  · have a1 : s.state = 2 := by simpa using h
    have a2 : s.tote = t := by simpa using h2
    have he : handE s 2 t = 0 := by unfold handE; rw [if_neg (by omega), if_neg (by omega)]
    have hS : (handS s 2 3 t) = onS s 3 := by unfold handS; rw [he]; rfl
    rw [he, hS]
    clear he hS a1 a2
    go_enter Try.func24, Try.ntmps24
    go_wp2_with fail
    refine (refOn_any _ s 3).mono ?_
    rintro e w3 ⟨rfl, hf3⟩
    have HF := Lib.hid hf3
    obtain ⟨p1, k0, k1, k2, k3, k4, k5, k6, k7, k8, k9, z0, z1, z2, z3, z4, z5, z6, z7, z8, z9⟩ := wait hf3 rfl rfl
    generalize hT : onS s 3 = T at *
    have HT := Lib.hid hT
    clear hT hf3
    obtain ⟨s0, s1, s2, s3, s4, s5, s6, s7, s8, s9⟩ := ten p1 rfl (.int .i64 T.n) (.int .i64 T.pat) (.int .i64 T.place) (.int .i64 T.state) (.int .i64 T.was) (.int .i64 T.ticks) (.int .i64 T.tote) (.int .i64 T.fr) (.int .i64 T.to_) (.int .i64 T.done)
    clear p1
    go_wp2
    refine bodyPost_ret (v := .tuple #[.agg #[.int .i64 T.n, .int .i64 T.pat, .int .i64 T.place, .int .i64 T.state, .int .i64 T.was, .int .i64 T.ticks, .int .i64 T.tote, .int .i64 T.fr, .int .i64 T.to_, .int .i64 T.done], .int .i64 0]) (by simp [results, Try.results24, go_sem, s0, s1, s2, s3, s4, s5, s6, s7, s8, s9]) rfl ⟨?_, ?_⟩
    · rw [HT.out]
    · exact tenFr ((((Fr.refl w No).to_alloc _).to_alloc _).nn HF.out) (Nat.le_succ _) _ _ _ _ _ _ _ _ _ _

set_option maxRecDepth 100000 in
set_option maxHeartbeats 2000000 in
theorem refDropped_any (w : World) (s : St) (t : Int) (h0 : 0 ≤ s.done) (h1 : s.done ≤ 1000000) :
    Calls Try.prog 24 #[.agg #[.int .i64 s.n, .int .i64 s.pat, .int .i64 s.place, .int .i64 s.state, .int .i64 s.was, .int .i64 s.ticks, .int .i64 s.tote, .int .i64 s.fr, .int .i64 s.to_, .int .i64 s.done], .int .i64 4, .int .i64 t] w fun e w' => e = .returned (.tuple #[.agg #[.int .i64 (dropS s t).n, .int .i64 (dropS s t).pat, .int .i64 (dropS s t).place, .int .i64 (dropS s t).state, .int .i64 (dropS s t).was, .int .i64 (dropS s t).ticks, .int .i64 (dropS s t).tote, .int .i64 (dropS s t).fr, .int .i64 (dropS s t).to_, .int .i64 (dropS s t).done], .int .i64 (handE s 4 t)]) ∧ Fr w w' No := by
  have hcase : (s.state != 4) = true ∨ ((s.state != 4) = false ∧ (s.tote != t) = true) ∨ ((s.state != 4) = false ∧ (s.tote != t) = false) := by
    by_cases a : s.state = 4 <;> by_cases b : s.tote = t <;> simp [a, b]
  rcases hcase with h | ⟨h, h2⟩ | ⟨h, h2⟩
  · have a1 : s.state ≠ 4 := by simpa using h
    have he : handE s 4 t = 140 := by unfold handE; rw [if_pos a1]
    have hS : (dropS s t) = s := by unfold dropS; rw [he]; rfl
    rw [he, hS]
    clear he hS a1
    go_enter Try.func24, Try.ntmps24
    go_wp2
    refine bodyPost_ret (v := .tuple #[.agg #[.int .i64 s.n, .int .i64 s.pat, .int .i64 s.place, .int .i64 s.state, .int .i64 s.was, .int .i64 s.ticks, .int .i64 s.tote, .int .i64 s.fr, .int .i64 s.to_, .int .i64 s.done], .int .i64 140]) (by simp [results, Try.results24, go_sem]) rfl ⟨rfl, by repeat (first | exact Fr.refl _ _ | apply Fr.to_drewN | apply Fr.to_drew | apply Fr.to_alloc)⟩
  · have a1 : s.state = 4 := by simpa using h
    have a2 : t ≠ s.tote := by intro e; subst e; simp at h2
    have he : handE s 4 t = 160 := by unfold handE; rw [if_neg (by omega), if_pos a2]
    have hS : (dropS s t) = s := by unfold dropS; rw [he]; rfl
    rw [he, hS]
    clear he hS a1 a2
    go_enter Try.func24, Try.ntmps24
    go_wp2
    refine bodyPost_ret (v := .tuple #[.agg #[.int .i64 s.n, .int .i64 s.pat, .int .i64 s.place, .int .i64 s.state, .int .i64 s.was, .int .i64 s.ticks, .int .i64 s.tote, .int .i64 s.fr, .int .i64 s.to_, .int .i64 s.done], .int .i64 160]) (by simp [results, Try.results24, go_sem]) rfl ⟨rfl, by repeat (first | exact Fr.refl _ _ | apply Fr.to_drewN | apply Fr.to_drew | apply Fr.to_alloc)⟩
  · have a1 : s.state = 4 := by simpa using h
    have a2 : s.tote = t := by simpa using h2
    have he : handE s 4 t = 0 := by unfold handE; rw [if_neg (by omega), if_neg (by omega)]
    have hS : (dropS s t) = onS { s with done := s.done + 1 } 0 := by unfold dropS handS; rw [he]; rfl
    rw [he, hS]
    clear he hS a1 a2
    go_enter Try.func24, Try.ntmps24
    go_wp2_with fail
    refine (refOn_any _ { s with done := s.done + 1 } 0).mono ?_
    rintro e w3 ⟨rfl, hf3⟩
    have HF := Lib.hid hf3
    obtain ⟨p1, k0, k1, k2, k3, k4, k5, k6, k7, k8, k9, z0, z1, z2, z3, z4, z5, z6, z7, z8, z9⟩ := wait hf3 rfl rfl
    generalize hT : onS { s with done := s.done + 1 } 0 = T at *
    have HT := Lib.hid hT
    clear hT hf3
    obtain ⟨s0, s1, s2, s3, s4, s5, s6, s7, s8, s9⟩ := ten p1 rfl (.int .i64 T.n) (.int .i64 T.pat) (.int .i64 T.place) (.int .i64 T.state) (.int .i64 T.was) (.int .i64 T.ticks) (.int .i64 T.tote) (.int .i64 T.fr) (.int .i64 T.to_) (.int .i64 T.done)
    clear p1
    go_wp2
    refine bodyPost_ret (v := .tuple #[.agg #[.int .i64 T.n, .int .i64 T.pat, .int .i64 T.place, .int .i64 T.state, .int .i64 T.was, .int .i64 T.ticks, .int .i64 T.tote, .int .i64 T.fr, .int .i64 T.to_, .int .i64 T.done], .int .i64 0]) (by simp [results, Try.results24, go_sem, s0, s1, s2, s3, s4, s5, s6, s7, s8, s9]) rfl ⟨?_, ?_⟩
    · rw [HT.out]
    · exact tenFr ((((Fr.refl w No).to_alloc _).to_alloc _).nn HF.out) (Nat.le_succ _) _ _ _ _ _ _ _ _ _ _

set_option maxRecDepth 100000 in
set_option maxHeartbeats 2000000 in
theorem refReset_any (w : World) (s : St) :
    Calls Try.prog 25 #[.agg #[.int .i64 s.n, .int .i64 s.pat, .int .i64 s.place, .int .i64 s.state, .int .i64 s.was, .int .i64 s.ticks, .int .i64 s.tote, .int .i64 s.fr, .int .i64 s.to_, .int .i64 s.done]] w fun e w' => e = .returned (.tuple #[.agg #[.int .i64 (resetS s).n, .int .i64 (resetS s).pat, .int .i64 (resetS s).place, .int .i64 (resetS s).state, .int .i64 (resetS s).was, .int .i64 (resetS s).ticks, .int .i64 (resetS s).tote, .int .i64 (resetS s).fr, .int .i64 (resetS s).to_, .int .i64 (resetS s).done], .int .i64 (resetE s)]) ∧ Fr w w' No := by
  have hcase : (s.state != 5) = true ∨ (s.state != 5) = false := by
    by_cases a : s.state = 5 <;> simp [a]
  rcases hcase with h | h
  · have a1 : s.state ≠ 5 := by simpa using h
    have he : resetE s = 140 := by unfold resetE; rw [if_pos a1]
    have hS : resetS s = s := by unfold resetS; rw [he]; rfl
    rw [he, hS]
    clear he hS a1
    go_enter Try.func25, Try.ntmps25
    go_wp2
    refine bodyPost_ret (v := .tuple #[.agg #[.int .i64 s.n, .int .i64 s.pat, .int .i64 s.place, .int .i64 s.state, .int .i64 s.was, .int .i64 s.ticks, .int .i64 s.tote, .int .i64 s.fr, .int .i64 s.to_, .int .i64 s.done], .int .i64 140]) (by simp [results, Try.results25, go_sem]) rfl ⟨rfl, by repeat (first | exact Fr.refl _ _ | apply Fr.to_drewN | apply Fr.to_drew | apply Fr.to_alloc)⟩
  · have a1 : s.state = 5 := by simpa using h
    have he : resetE s = 0 := by unfold resetE; rw [if_neg (by omega)]
    have hS : resetS s = onS s s.was := by unfold resetS; rw [he]; rfl
    rw [he, hS]
    clear he hS a1
    go_enter Try.func25, Try.ntmps25
    go_wp2_with fail
    refine (refOn_any _ s s.was).mono ?_
    rintro e w3 ⟨rfl, hf3⟩
    have HF := Lib.hid hf3
    obtain ⟨p1, k0, k1, k2, k3, k4, k5, k6, k7, k8, k9, z0, z1, z2, z3, z4, z5, z6, z7, z8, z9⟩ := wait hf3 rfl rfl
    generalize hT : onS s s.was = T at *
    have HT := Lib.hid hT
    clear hT hf3
    obtain ⟨s0, s1, s2, s3, s4, s5, s6, s7, s8, s9⟩ := ten p1 rfl (.int .i64 T.n) (.int .i64 T.pat) (.int .i64 T.place) (.int .i64 T.state) (.int .i64 T.was) (.int .i64 T.ticks) (.int .i64 T.tote) (.int .i64 T.fr) (.int .i64 T.to_) (.int .i64 T.done)
    clear p1
    go_wp2
    refine bodyPost_ret (v := .tuple #[.agg #[.int .i64 T.n, .int .i64 T.pat, .int .i64 T.place, .int .i64 T.state, .int .i64 T.was, .int .i64 T.ticks, .int .i64 T.tote, .int .i64 T.fr, .int .i64 T.to_, .int .i64 T.done], .int .i64 0]) (by simp [results, Try.results25, go_sem, s0, s1, s2, s3, s4, s5, s6, s7, s8, s9]) rfl ⟨?_, ?_⟩
    · rw [HT.out]
    · exact tenFr ((((Fr.refl w No).to_alloc _).to_alloc _).nn HF.out) (Nat.le_succ _) _ _ _ _ _ _ _ _ _ _

set_option maxRecDepth 100000 in
set_option maxHeartbeats 2000000 in
theorem refAssign_any (w : World) (s : St) (t f o : Int) :
    Calls Try.prog 21 #[.agg #[.int .i64 s.n, .int .i64 s.pat, .int .i64 s.place, .int .i64 s.state, .int .i64 s.was, .int .i64 s.ticks, .int .i64 s.tote, .int .i64 s.fr, .int .i64 s.to_, .int .i64 s.done], .agg #[.int .i64 t, .int .i64 f, .int .i64 o]] w fun e w' => e = .returned (.tuple #[.agg #[.int .i64 (assignS s t f o).n, .int .i64 (assignS s t f o).pat, .int .i64 (assignS s t f o).place, .int .i64 (assignS s t f o).state, .int .i64 (assignS s t f o).was, .int .i64 (assignS s t f o).ticks, .int .i64 (assignS s t f o).tote, .int .i64 (assignS s t f o).fr, .int .i64 (assignS s t f o).to_, .int .i64 (assignS s t f o).done], .int .i64 (assignE s t f o)]) ∧ Fr w w' No := by
  have hcase : t < 1 ∨ (¬ t < 1 ∧ 30 < t) ∨ (¬ t < 1 ∧ ¬ 30 < t ∧ f < 0) ∨ (¬ t < 1 ∧ ¬ 30 < t ∧ ¬ f < 0 ∧ s.n ≤ f) ∨ (¬ t < 1 ∧ ¬ 30 < t ∧ ¬ f < 0 ∧ ¬ s.n ≤ f ∧ o < 0) ∨ (¬ t < 1 ∧ ¬ 30 < t ∧ ¬ f < 0 ∧ ¬ s.n ≤ f ∧ ¬ o < 0 ∧ s.n ≤ o) ∨
      (¬ t < 1 ∧ ¬ 30 < t ∧ ¬ f < 0 ∧ ¬ s.n ≤ f ∧ ¬ o < 0 ∧ ¬ s.n ≤ o ∧ (s.state != 0) = true) ∨ (¬ t < 1 ∧ ¬ 30 < t ∧ ¬ f < 0 ∧ ¬ s.n ≤ f ∧ ¬ o < 0 ∧ ¬ s.n ≤ o ∧ (s.state != 0) = false) := by
    by_cases c : s.state = 0 <;> simp [c] <;> omega
  rcases hcase with h1 | ⟨h1, h2⟩ | ⟨h1, h2, h3⟩ | ⟨h1, h2, h3, h4⟩ | ⟨h1, h2, h3, h4, h5⟩ | ⟨h1, h2, h3, h4, h5, h6⟩ | ⟨h1, h2, h3, h4, h5, h6, h7⟩ | ⟨h1, h2, h3, h4, h5, h6, h7⟩
  · have he : assignE s t f o = 1 := by unfold assignE assignBad noneB; rw [if_pos (by simp [h1])]
    have hS : assignS s t f o = s := by unfold assignS; rw [he]; rfl
    rw [he, hS]
    clear he hS
    go_enter Try.func21, Try.ntmps21
    go_wp2
    refine bodyPost_ret (v := .tuple #[.agg #[.int .i64 s.n, .int .i64 s.pat, .int .i64 s.place, .int .i64 s.state, .int .i64 s.was, .int .i64 s.ticks, .int .i64 s.tote, .int .i64 s.fr, .int .i64 s.to_, .int .i64 s.done], .int .i64 1]) (by simp [results, Try.results21, go_sem]) rfl ⟨rfl, by repeat (first | exact Fr.refl _ _ | apply Fr.to_drewN | apply Fr.to_drew | apply Fr.to_alloc)⟩
  · have he : assignE s t f o = 1 := by unfold assignE assignBad noneB; rw [if_pos (by simp [h1, h2])]
    have hS : assignS s t f o = s := by unfold assignS; rw [he]; rfl
    rw [he, hS]
    clear he hS
    go_enter Try.func21, Try.ntmps21
    go_wp2
    refine bodyPost_ret (v := .tuple #[.agg #[.int .i64 s.n, .int .i64 s.pat, .int .i64 s.place, .int .i64 s.state, .int .i64 s.was, .int .i64 s.ticks, .int .i64 s.tote, .int .i64 s.fr, .int .i64 s.to_, .int .i64 s.done], .int .i64 1]) (by simp [results, Try.results21, go_sem]) rfl ⟨rfl, by repeat (first | exact Fr.refl _ _ | apply Fr.to_drewN | apply Fr.to_drew | apply Fr.to_alloc)⟩
  · have he : assignE s t f o = 1 := by unfold assignE assignBad noneB; rw [if_pos (by simp [h1, h2, h3])]
    have hS : assignS s t f o = s := by unfold assignS; rw [he]; rfl
    rw [he, hS]
    clear he hS
    go_enter Try.func21, Try.ntmps21
    go_wp2
    refine bodyPost_ret (v := .tuple #[.agg #[.int .i64 s.n, .int .i64 s.pat, .int .i64 s.place, .int .i64 s.state, .int .i64 s.was, .int .i64 s.ticks, .int .i64 s.tote, .int .i64 s.fr, .int .i64 s.to_, .int .i64 s.done], .int .i64 1]) (by simp [results, Try.results21, go_sem]) rfl ⟨rfl, by repeat (first | exact Fr.refl _ _ | apply Fr.to_drewN | apply Fr.to_drew | apply Fr.to_alloc)⟩
  · have he : assignE s t f o = 1 := by unfold assignE assignBad noneB; rw [if_pos (by simp [h1, h2, h3, h4])]
    have hS : assignS s t f o = s := by unfold assignS; rw [he]; rfl
    rw [he, hS]
    clear he hS
    go_enter Try.func21, Try.ntmps21
    go_wp2
    refine bodyPost_ret (v := .tuple #[.agg #[.int .i64 s.n, .int .i64 s.pat, .int .i64 s.place, .int .i64 s.state, .int .i64 s.was, .int .i64 s.ticks, .int .i64 s.tote, .int .i64 s.fr, .int .i64 s.to_, .int .i64 s.done], .int .i64 1]) (by simp [results, Try.results21, go_sem]) rfl ⟨rfl, by repeat (first | exact Fr.refl _ _ | apply Fr.to_drewN | apply Fr.to_drew | apply Fr.to_alloc)⟩
  · have he : assignE s t f o = 1 := by unfold assignE assignBad noneB; rw [if_pos (by simp [h1, h2, h3, h4, h5])]
    have hS : assignS s t f o = s := by unfold assignS; rw [he]; rfl
    rw [he, hS]
    clear he hS
    go_enter Try.func21, Try.ntmps21
    go_wp2
    refine bodyPost_ret (v := .tuple #[.agg #[.int .i64 s.n, .int .i64 s.pat, .int .i64 s.place, .int .i64 s.state, .int .i64 s.was, .int .i64 s.ticks, .int .i64 s.tote, .int .i64 s.fr, .int .i64 s.to_, .int .i64 s.done], .int .i64 1]) (by simp [results, Try.results21, go_sem]) rfl ⟨rfl, by repeat (first | exact Fr.refl _ _ | apply Fr.to_drewN | apply Fr.to_drew | apply Fr.to_alloc)⟩
  · have he : assignE s t f o = 1 := by unfold assignE assignBad noneB; rw [if_pos (by simp [h1, h2, h3, h4, h5, h6])]
    have hS : assignS s t f o = s := by unfold assignS; rw [he]; rfl
    rw [he, hS]
    clear he hS
    go_enter Try.func21, Try.ntmps21
    go_wp2
    refine bodyPost_ret (v := .tuple #[.agg #[.int .i64 s.n, .int .i64 s.pat, .int .i64 s.place, .int .i64 s.state, .int .i64 s.was, .int .i64 s.ticks, .int .i64 s.tote, .int .i64 s.fr, .int .i64 s.to_, .int .i64 s.done], .int .i64 1]) (by simp [results, Try.results21, go_sem]) rfl ⟨rfl, by repeat (first | exact Fr.refl _ _ | apply Fr.to_drewN | apply Fr.to_drew | apply Fr.to_alloc)⟩
  · have a1 : s.state ≠ 0 := by simpa using h7
    have he : assignE s t f o = 140 := by unfold assignE assignBad noneB; rw [if_neg (by simp; omega), if_pos a1]
    have hS : assignS s t f o = s := by unfold assignS; rw [he]; rfl
    rw [he, hS]
    clear he hS a1
    go_enter Try.func21, Try.ntmps21
    go_wp2
    refine bodyPost_ret (v := .tuple #[.agg #[.int .i64 s.n, .int .i64 s.pat, .int .i64 s.place, .int .i64 s.state, .int .i64 s.was, .int .i64 s.ticks, .int .i64 s.tote, .int .i64 s.fr, .int .i64 s.to_, .int .i64 s.done], .int .i64 140]) (by simp [results, Try.results21, go_sem]) rfl ⟨rfl, by repeat (first | exact Fr.refl _ _ | apply Fr.to_drewN | apply Fr.to_drew | apply Fr.to_alloc)⟩
  · have a1 : s.state = 0 := by simpa using h7
    have he : assignE s t f o = 0 := by unfold assignE assignBad noneB; rw [if_neg (by simp; omega), if_neg (by omega)]
    have hS : assignS s t f o = onS { s with tote := t, fr := f, to_ := o } 1 := by unfold assignS; rw [he]; rfl
    rw [he, hS]
    clear he hS a1
    go_enter Try.func21, Try.ntmps21
    go_wp2_with fail
    refine (refOn_any _ { s with tote := t, fr := f, to_ := o } 1).mono ?_
    rintro e w3 ⟨rfl, hf3⟩
    have HF := Lib.hid hf3
    obtain ⟨p1, k0, k1, k2, k3, k4, k5, k6, k7, k8, k9, z0, z1, z2, z3, z4, z5, z6, z7, z8, z9⟩ := wait3 hf3 rfl
    generalize hT : onS { s with tote := t, fr := f, to_ := o } 1 = T at *
    have HT := Lib.hid hT
    clear hT hf3
    obtain ⟨s0, s1, s2, s3, s4, s5, s6, s7, s8, s9⟩ := ten p1 rfl (.int .i64 T.n) (.int .i64 T.pat) (.int .i64 T.place) (.int .i64 T.state) (.int .i64 T.was) (.int .i64 T.ticks) (.int .i64 T.tote) (.int .i64 T.fr) (.int .i64 T.to_) (.int .i64 T.done)
    clear p1
    go_wp2
    refine bodyPost_ret (v := .tuple #[.agg #[.int .i64 T.n, .int .i64 T.pat, .int .i64 T.place, .int .i64 T.state, .int .i64 T.was, .int .i64 T.ticks, .int .i64 T.tote, .int .i64 T.fr, .int .i64 T.to_, .int .i64 T.done], .int .i64 0]) (by simp [results, Try.results21, go_sem, s0, s1, s2, s3, s4, s5, s6, s7, s8, s9]) rfl ⟨?_, ?_⟩
    · rw [HT.out]
    · exact tenFr (((((Fr.refl w No).to_alloc _).to_alloc _).to_alloc _).nn HF.out) (by omega) _ _ _ _ _ _ _ _ _ _

set_option maxRecDepth 100000 in
set_option maxHeartbeats 2000000 in
theorem refNew_bad (w : World) (n at_ pat : Int) (h : newBad n at_ pat) :
    Calls Try.prog 20 #[.int .i64 n, .int .i64 at_, .int .i64 pat] w fun e w' => e = .returned (.tuple #[.agg #[.int .i64 0, .int .i64 0, .int .i64 0, .int .i64 0, .int .i64 0, .int .i64 0, .int .i64 0, .int .i64 0, .int .i64 0, .int .i64 0], .int .i64 1]) ∧ Fr w w' No := by
  have hcase : n < 1 ∨ (¬ n < 1 ∧ 40 < n) ∨ (¬ n < 1 ∧ ¬ 40 < n ∧ pat < 1) ∨ (¬ n < 1 ∧ ¬ 40 < n ∧ ¬ pat < 1 ∧ 1000 < pat) ∨ (¬ n < 1 ∧ ¬ 40 < n ∧ ¬ pat < 1 ∧ ¬ 1000 < pat ∧ at_ < 0) ∨ (¬ n < 1 ∧ ¬ 40 < n ∧ ¬ pat < 1 ∧ ¬ 1000 < pat ∧ ¬ at_ < 0 ∧ n ≤ at_) := by
    unfold newBad at h; omega
  clear h
  rcases hcase with h1 | ⟨h1, h2⟩ | ⟨h1, h2, h3⟩ | ⟨h1, h2, h3, h4⟩ | ⟨h1, h2, h3, h4, h5⟩ | ⟨h1, h2, h3, h4, h5, h6⟩
  all_goals
    go_enter Try.func20, Try.ntmps20
    go_wp2
    refine bodyPost_ret (v := .tuple #[.agg #[.int .i64 0, .int .i64 0, .int .i64 0, .int .i64 0, .int .i64 0, .int .i64 0, .int .i64 0, .int .i64 0, .int .i64 0, .int .i64 0], .int .i64 1]) (by simp [results, Try.results20, go_sem]) rfl ⟨rfl, by repeat (first | exact Fr.refl _ _ | apply Fr.to_drewN | apply Fr.to_drew | apply Fr.to_alloc)⟩
set_option maxRecDepth 100000 in
set_option maxHeartbeats 2000000 in
theorem refNew_ok (w : World) (n at_ pat : Int) (h : ¬ newBad n at_ pat) :
    Calls Try.prog 20 #[.int .i64 n, .int .i64 at_, .int .i64 pat] w fun e w' => e = .returned (.tuple #[.agg #[.int .i64 (newS n at_ pat).n, .int .i64 (newS n at_ pat).pat, .int .i64 (newS n at_ pat).place, .int .i64 (newS n at_ pat).state, .int .i64 (newS n at_ pat).was, .int .i64 (newS n at_ pat).ticks, .int .i64 (newS n at_ pat).tote, .int .i64 (newS n at_ pat).fr, .int .i64 (newS n at_ pat).to_, .int .i64 (newS n at_ pat).done], .int .i64 0]) ∧ Fr w w' No := by
  have hcase : ¬ n < 1 ∧ ¬ 40 < n ∧ ¬ pat < 1 ∧ ¬ 1000 < pat ∧ ¬ at_ < 0 ∧ ¬ n ≤ at_ := by unfold newBad at h; omega
  clear h
  obtain ⟨h1, h2, h3, h4, h5, h6⟩ := hcase
  go_enter Try.func20, Try.ntmps20
  go_wp2
  refine bodyPost_ret (v := .tuple #[.agg #[.int .i64 (newS n at_ pat).n, .int .i64 (newS n at_ pat).pat, .int .i64 (newS n at_ pat).place, .int .i64 (newS n at_ pat).state, .int .i64 (newS n at_ pat).was, .int .i64 (newS n at_ pat).ticks, .int .i64 (newS n at_ pat).tote, .int .i64 (newS n at_ pat).fr, .int .i64 (newS n at_ pat).to_, .int .i64 (newS n at_ pat).done], .int .i64 0]) (by simp [results, Try.results20, go_sem, newS]) rfl ⟨rfl, by repeat (first | exact Fr.refl _ _ | apply Fr.to_drewN | apply Fr.to_drew | apply Fr.to_alloc)⟩

end Go.Proofs.Ytoilalohhicipaa
