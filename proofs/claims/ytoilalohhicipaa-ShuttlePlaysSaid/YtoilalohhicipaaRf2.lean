import Derived.Test.YtoilalohhicipaaRf
namespace Go.Proofs.Ytoilalohhicipaa
open Go.RowKit
set_option linter.unusedVariables false
set_option linter.unusedSimpArgs false

/-! ### Load -/
set_option maxRecDepth 100000 in
set_option maxHeartbeats 2000000 in
theorem refLoad_any (w : World) (s : St) : Calls Try.prog 32 #[.agg #[.int .i64 s.n, .int .i64 s.pat, .int .i64 s.place, .int .i64 s.state, .int .i64 s.was, .int .i64 s.ticks, .int .i64 s.tote, .int .i64 s.fr, .int .i64 s.to_, .int .i64 s.done]] w fun e w' => e = .returned (.int .i64 (loadS s)) ∧ Fr w w' No := by
  have hcase : ((s.state == 5) = true ∧ (s.was == 3) = true ∧ loadS s = s.tote) ∨ ((s.state == 5) = true ∧ (s.was == 3) = false ∧ (s.was == 4) = true ∧ loadS s = s.tote) ∨ ((s.state == 5) = true ∧ (s.was == 3) = false ∧ (s.was == 4) = false ∧ loadS s = 0) ∨
      ((s.state == 5) = false ∧ (s.state == 3) = true ∧ loadS s = s.tote) ∨ ((s.state == 5) = false ∧ (s.state == 3) = false ∧ (s.state == 4) = true ∧ loadS s = s.tote) ∨ ((s.state == 5) = false ∧ (s.state == 3) = false ∧ (s.state == 4) = false ∧ loadS s = 0) := by
    unfold loadS loadK
    by_cases a : s.state = 5
    · by_cases b : s.was = 3 <;> by_cases c : s.was = 4 <;> simp [a, b, c]
    · by_cases b : s.state = 3 <;> by_cases c : s.state = 4 <;> simp [a, b, c]
  rcases hcase with ⟨h1, h2, h⟩ | ⟨h1, h2, h3, h⟩ | ⟨h1, h2, h3, h⟩ | ⟨h1, h2, h⟩ | ⟨h1, h2, h3, h⟩ | ⟨h1, h2, h3, h⟩
  all_goals
    rw [h]
    clear h
    go_enter Try.func32, Try.ntmps32
    go_wp2
    go_ret
    exact ⟨rfl, by repeat (first | exact Fr.refl _ _ | apply Fr.to_drewN | apply Fr.to_drew | apply Fr.to_alloc)⟩

/-! ### Tick -/
set_option maxRecDepth 100000 in
set_option maxHeartbeats 2000000 in
theorem refTick_any (w : World) (s : St) (hO : Ok s) :
    Calls Try.prog 22 #[.agg #[.int .i64 s.n, .int .i64 s.pat, .int .i64 s.place, .int .i64 s.state, .int .i64 s.was, .int .i64 s.ticks, .int .i64 s.tote, .int .i64 s.fr, .int .i64 s.to_, .int .i64 s.done]] w fun e w' => e = .returned (.tuple #[.agg #[.int .i64 (tickS s).n, .int .i64 (tickS s).pat, .int .i64 (tickS s).place, .int .i64 (tickS s).state, .int .i64 (tickS s).was, .int .i64 (tickS s).ticks, .int .i64 (tickS s).tote, .int .i64 (tickS s).fr, .int .i64 (tickS s).to_, .int .i64 (tickS s).done], .int .i64 (tickK s), .int .i64 (tickW s)]) ∧ Fr w w' No := by
  have h1 := hO.st1
  have h2 := hO.st2
  have ht := hO.t1
  have ht2 := hO.t2
  have hp := hO.p2
  clear hO
  by_cases hoff : s.state = 0 ∨ s.state = 5
  · have hB : tickOff s = true := by rw [tickOff_eq]; simpa using hoff
    have e1 : tickK s = 0 ∧ tickW s = 0 ∧ tickS s = s := by unfold tickK tickW tickS; rw [hB]; simp
    rw [e1.1, e1.2.1, e1.2.2]
    have hcase : (s.state == 0) = true ∨ ((s.state == 0) = false ∧ (s.state == 5) = true) := by
      by_cases a : s.state = 0 <;> simp [a] <;> omega
    clear e1 hB hoff
    rcases hcase with a | ⟨a, b⟩
    all_goals
      go_enter Try.func22, Try.ntmps22
      go_wp2
      refine bodyPost_ret (v := .tuple #[.agg #[.int .i64 s.n, .int .i64 s.pat, .int .i64 s.place, .int .i64 s.state, .int .i64 s.was, .int .i64 s.ticks, .int .i64 s.tote, .int .i64 s.fr, .int .i64 s.to_, .int .i64 s.done], .int .i64 0, .int .i64 0]) (by simp [results, Try.results22, go_sem]) rfl ⟨rfl, by repeat (first | exact Fr.refl _ _ | apply Fr.to_drewN | apply Fr.to_drew | apply Fr.to_alloc)⟩
  · have hB : tickOff s = false := by rw [tickOff_eq]; simpa using hoff
    have a0 : (s.state == 0) = false := by simp; omega
    have a5 : (s.state == 5) = false := by simp; omega
    have hw : IntKind.i64.wrap (s.ticks + 1) = s.ticks + 1 := IntWalk.i64_in _ (by omega)
    by_cases hl : s.pat < s.ticks + 1
    · have hC : tickLate s = true := by unfold tickLate; simpa using hl
      have e1 : tickK s = 0 ∧ tickW s = 0 ∧ tickS s = { s with ticks := s.ticks + 1, was := s.state, state := 5 } := by unfold tickK tickW tickS; rw [hB, hC]; simp
      rw [e1.1, e1.2.1, e1.2.2]
      clear e1 hB hoff hC
      go_enter Try.func22, Try.ntmps22
      go_wp2
      refine bodyPost_ret (v := .tuple #[.agg #[.int .i64 s.n, .int .i64 s.pat, .int .i64 s.place, .int .i64 5, .int .i64 s.state, .int .i64 (s.ticks + 1), .int .i64 s.tote, .int .i64 s.fr, .int .i64 s.to_, .int .i64 s.done], .int .i64 0, .int .i64 0]) (by simp [results, Try.results22, go_sem]) rfl ⟨rfl, by repeat (first | exact Fr.refl _ _ | apply Fr.to_drewN | apply Fr.to_drew | apply Fr.to_alloc)⟩
    · have hC : tickLate s = false := by unfold tickLate; simpa using hl
      have hcase : (s.state = 1 ∧ tickK s = 1 ∧ tickW s = s.fr) ∨ (s.state = 2 ∧ tickK s = 2 ∧ tickW s = s.tote) ∨ (s.state = 3 ∧ tickK s = 1 ∧ tickW s = s.to_) ∨ (s.state = 4 ∧ tickK s = 3 ∧ tickW s = s.tote) := by
        have : s.state = 1 ∨ s.state = 2 ∨ s.state = 3 ∨ s.state = 4 := by omega
        rcases this with h | h | h | h <;> simp [tickK, tickW, hB, hC, h]
      have e1 : tickS s = { s with ticks := s.ticks + 1 } := by unfold tickS; rw [hB, hC]; simp
      rw [e1]
      clear e1 hB hC hoff
      rcases hcase with ⟨hx, hk, hv⟩ | ⟨hx, hk, hv⟩ | ⟨hx, hk, hv⟩ | ⟨hx, hk, hv⟩
      all_goals
        rw [hk, hv]
        clear hk hv
        have HX := Lib.hid hx
        obtain ⟨n, pat, place, state, was, ticks, tote, fr, to_, done⟩ := s
        dsimp only at *
        subst hx
        go_enter Try.func22, Try.ntmps22
        go_wp2_with fail
        go_region
        all_goals
          go_wp2
          first
            | (refine bodyPost_ret (v := .tuple #[.agg #[.int .i64 n, .int .i64 pat, .int .i64 place, .int .i64 1, .int .i64 was, .int .i64 (ticks + 1), .int .i64 tote, .int .i64 fr, .int .i64 to_, .int .i64 done], .int .i64 1, .int .i64 fr]) (by simp [results, Try.results22, go_sem]) rfl ⟨rfl, by repeat (first | exact Fr.refl _ _ | apply Fr.to_drewN | apply Fr.to_drew | apply Fr.to_alloc)⟩)
            | (refine bodyPost_ret (v := .tuple #[.agg #[.int .i64 n, .int .i64 pat, .int .i64 place, .int .i64 2, .int .i64 was, .int .i64 (ticks + 1), .int .i64 tote, .int .i64 fr, .int .i64 to_, .int .i64 done], .int .i64 2, .int .i64 tote]) (by simp [results, Try.results22, go_sem]) rfl ⟨rfl, by repeat (first | exact Fr.refl _ _ | apply Fr.to_drewN | apply Fr.to_drew | apply Fr.to_alloc)⟩)
            | (refine bodyPost_ret (v := .tuple #[.agg #[.int .i64 n, .int .i64 pat, .int .i64 place, .int .i64 3, .int .i64 was, .int .i64 (ticks + 1), .int .i64 tote, .int .i64 fr, .int .i64 to_, .int .i64 done], .int .i64 1, .int .i64 to_]) (by simp [results, Try.results22, go_sem]) rfl ⟨rfl, by repeat (first | exact Fr.refl _ _ | apply Fr.to_drewN | apply Fr.to_drew | apply Fr.to_alloc)⟩)
            | (refine bodyPost_ret (v := .tuple #[.agg #[.int .i64 n, .int .i64 pat, .int .i64 place, .int .i64 4, .int .i64 was, .int .i64 (ticks + 1), .int .i64 tote, .int .i64 fr, .int .i64 to_, .int .i64 done], .int .i64 3, .int .i64 tote]) (by simp [results, Try.results22, go_sem]) rfl ⟨rfl, by repeat (first | exact Fr.refl _ _ | apply Fr.to_drewN | apply Fr.to_drew | apply Fr.to_alloc)⟩)

/-! ### tells -/
set_option maxRecDepth 100000 in
set_option maxHeartbeats 2000000 in
theorem tells_any (w : World) (g : Nat) (s : St) (hs : ShAt w g s) :
    Calls Try.prog 26 #[.pointer (some ⟨g, 0, none⟩), .agg #[.int .i64 s.n, .int .i64 s.pat, .int .i64 s.place, .int .i64 s.state, .int .i64 s.was, .int .i64 s.ticks, .int .i64 s.tote, .int .i64 s.fr, .int .i64 s.to_, .int .i64 s.done]] w fun e w' => e = .returned (.bool true) ∧ Fr w w' No := by
  have HS := Lib.hid (hs.keep0 (Fr.alloc w (.cells #[.int .i64 s.n, .int .i64 s.pat, .int .i64 s.place, .int .i64 s.state, .int .i64 s.was, .int .i64 s.ticks, .int .i64 s.tote, .int .i64 s.fr, .int .i64 s.to_, .int .i64 s.done] 45) No))
  have HB := Lib.hid (blk_new w (.cells #[.int .i64 s.n, .int .i64 s.pat, .int .i64 s.place, .int .i64 s.state, .int .i64 s.was, .int .i64 s.ticks, .int .i64 s.tote, .int .i64 s.fr, .int .i64 s.to_, .int .i64 s.done] 45))
  have HF := Lib.hid (Fr.alloc w (.cells #[.int .i64 s.n, .int .i64 s.pat, .int .i64 s.place, .int .i64 s.state, .int .i64 s.was, .int .i64 s.ticks, .int .i64 s.tote, .int .i64 s.fr, .int .i64 s.to_, .int .i64 s.done] 45) No)
  have x1 : (s.state == s.state) = true := beq_self_eq_true _
  have x2 : (s.place == s.place) = true := beq_self_eq_true _
  have x3 : (loadS s == loadS s) = true := beq_self_eq_true _
  have x4 : (s.done == s.done) = true := beq_self_eq_true _
  clear hs
  go_enter Try.func26, Try.ntmps26
  go_wp2_with fail
  go_region_with (first | (go_at_call 11; refine (state_is _ g s _ (HS.out.drewN _) rfl).mono ?_; rintro e w' ⟨rfl, rfl⟩) | (go_at_call 16; refine (place_is _ g s _ (HS.out.drewN _) rfl).mono ?_; rintro e w' ⟨rfl, rfl⟩) | (go_at_call 17; refine (load_is _ g s _ (HS.out.drewN _) rfl).mono ?_; rintro e w' ⟨rfl, rfl⟩) |
    (go_at_call 32; refine (refLoad_any _ s).mono ?_; rintro e w2 ⟨rfl, hf2⟩; have hs2 := (HS.out.drewN _).keep0 hf2; have hm9 : w2.cell? ⟨w.heap.size, 9, none⟩ = some (.int .i64 s.done) := blk_cell (hf2.blk HB.out (fun h => h)) 9) |
    (go_at_call 18; refine (done_is _ g s _ hs2 rfl).mono ?_; rintro e w' ⟨rfl, rfl⟩))
  all_goals
    go_wp2
    go_ret
    exact ⟨rfl, HF.out.nn ((Fr.drewN _ _ _).nn hf2)⟩

end Go.Proofs.Ytoilalohhicipaa
