/-
  The law PairDrives, walked.
-/
import Derived.Test.YtggogohoakbepaaP3
namespace Go.Proofs.Ytggogohoakbepaa
open Go.RowKit Go.Sort
set_option linter.unusedVariables false
set_option linter.unusedSimpArgs false

set_option maxRecDepth 100000 in
set_option maxHeartbeats 1000000 in
theorem refDrive_any (a b : Spot) (w : World) (ha : nearS a) (hb : nearS b) :
    Calls Try.prog 12 #[spV a, spV b] w fun e w' => e = .returned (.int .i64 (drv a b)) ∧ Fr w w' No := by
  obtain ⟨a1, a2⟩ := a
  obtain ⟨b1, b2⟩ := b
  unfold nearS at ha hb
  simp only at ha hb
  obtain ⟨p1, p2, p3, p4⟩ := ha
  obtain ⟨q1, q2, q3, q4⟩ := hb
  go_enter Try.func12, Try.ntmps12
  go_wp2_with fail
  go_quiet (fail)
  go_wp2
  all_goals
    go_ret
    exact ⟨ret_int (by unfold drv apart; simp only; omega), (((Fr.refl w No).to_alloc _).to_alloc _).to_drewN _⟩

/-- Is a coordinate out of the law's bounds? -/
theorem far_cases (x y : Int) : (decide (x < -1073741824) = true ∧ ¬ nearS (x, y)) ∨ (decide (x < -1073741824) = false ∧ decide ((1073741824 : Int) < x) = true ∧ ¬ nearS (x, y)) ∨ (decide (x < -1073741824) = false ∧ decide ((1073741824 : Int) < x) = false ∧ decide (y < -1073741824) = true ∧ ¬ nearS (x, y)) ∨
      (decide (x < -1073741824) = false ∧ decide ((1073741824 : Int) < x) = false ∧ decide (y < -1073741824) = false ∧ decide ((1073741824 : Int) < y) = true ∧ ¬ nearS (x, y)) ∨ (decide (x < -1073741824) = false ∧ decide ((1073741824 : Int) < x) = false ∧ decide (y < -1073741824) = false ∧ decide ((1073741824 : Int) < y) = false ∧ nearS (x, y)) := by
    simp only [decide_eq_true_eq, decide_eq_false_iff_not]
    unfold nearS
    simp only
    omega

theorem eq23 (a1 a2 b1 b2 : Int) (w : World) : (binOp .eql 23 (.agg #[.int .i64 a1, .int .i64 a2]) (.agg #[.int .i64 b1, .int .i64 b2])).run Try.prog w = .ok (.bool (decide ((a1, a2) = (b1, b2)))) w := by
  by_cases h1 : a1 = b1
  · by_cases h2 : a2 = b2
    · simp [go_sem, h1, h2]
    · simp [go_sem, h1, h2]
  · simp [go_sem, h1]

set_option maxRecDepth 100000 in
set_option maxHeartbeats 2000000 in
theorem pairDrives_row (w : World) (a1 a2 b1 b2 c1 c2 : Int) :
    Calls Try.prog 3 #[spV (a1, a2), spV (b1, b2), spV (c1, c2)] w fun e w' => e = .returned (.bool true) ∧ Fr w w' No := by
  have i0 : ∀ w, (Instr.index 25 (.agg #[.int .i64 a1, .int .i64 a2, .int .i64 b1, .int .i64 b2, .int .i64 c1, .int .i64 c2]) (.int .i64 0)).run Try.prog w = .ok (.agg #[.int .i64 a1, .int .i64 a2]) w := fun _ => by kernel_rfl
  have i1 : ∀ w, (Instr.index 25 (.agg #[.int .i64 a1, .int .i64 a2, .int .i64 b1, .int .i64 b2, .int .i64 c1, .int .i64 c2]) (.int .i64 1)).run Try.prog w = .ok (.agg #[.int .i64 b1, .int .i64 b2]) w := fun _ => by kernel_rfl
  have i2 : ∀ w, (Instr.index 25 (.agg #[.int .i64 a1, .int .i64 a2, .int .i64 b1, .int .i64 b2, .int .i64 c1, .int .i64 c2]) (.int .i64 2)).run Try.prog w = .ok (.agg #[.int .i64 c1, .int .i64 c2]) w := fun _ => by kernel_rfl
  go_enter Try.func3, Try.ntmps3
  go_wp2_with fail
  refine (awake_any _).mono ?_
  rintro e w1 ⟨rfl, hf1⟩
  have HF := Lib.hid (((((Fr.refl w No).to_alloc (.cells #[.int .i64 a1, .int .i64 a2] 23)).to_alloc (.cells #[.int .i64 b1, .int .i64 b2] 23)).to_alloc (.cells #[.int .i64 c1, .int .i64 c2] 23)).nn hf1)
  have ka := hf1.blk (blk_old (blk_old (blk_new w (.cells #[.int .i64 a1, .int .i64 a2] 23)) (.cells #[.int .i64 b1, .int .i64 b2] 23)) (.cells #[.int .i64 c1, .int .i64 c2] 23)) id
  have kb := hf1.blk (blk_old (blk_new (w.alloc (.cells #[.int .i64 a1, .int .i64 a2] 23)) (.cells #[.int .i64 b1, .int .i64 b2] 23)) (.cells #[.int .i64 c1, .int .i64 c2] 23)) id
  have kc := hf1.blk (blk_new ((w.alloc (.cells #[.int .i64 a1, .int .i64 a2] 23)).alloc (.cells #[.int .i64 b1, .int .i64 b2] 23)) (.cells #[.int .i64 c1, .int .i64 c2] 23)) id
  simp only [World.size_alloc] at kb kc
  have KA := Lib.hid ka
  have KB := Lib.hid kb
  have KC := Lib.hid kc
  have ca1 : w1.cell? ⟨w.heap.size, 0, none⟩ = some (.int .i64 a1) := blk_cell ka 0
  have ca2 : w1.cell? ⟨w.heap.size, 1, none⟩ = some (.int .i64 a2) := blk_cell ka 1
  have cb1 : w1.cell? ⟨w.heap.size + 1, 0, none⟩ = some (.int .i64 b1) := blk_cell kb 0
  have cb2 : w1.cell? ⟨w.heap.size + 1, 1, none⟩ = some (.int .i64 b2) := blk_cell kb 1
  have cc1 : w1.cell? ⟨w.heap.size + 1 + 1, 0, none⟩ = some (.int .i64 c1) := blk_cell kc 0
  have cc2 : w1.cell? ⟨w.heap.size + 1 + 1, 1, none⟩ = some (.int .i64 c2) := blk_cell kc 1
  clear ka kb kc hf1
  go_wp2_with fail
  clear ca1 ca2 cb1 cb2 cc1 cc2
  go_loopg [8, 16] 4 (fun g v8 v16 wr => ∃ k : Nat, k + g = 4 ∧ v16 = .int .i64 k ∧ k ≤ 3 ∧ (0 < k → nearS (a1, a2)) ∧ (1 < k → nearS (b1, b2)) ∧ (2 < k → nearS (c1, c2)) ∧ Fr w1 wr No)
  case atStart => exact ⟨0, rfl, rfl, by omega, by omega, by omega, by omega, Fr.refl _ _⟩
  case round =>
    obtain ⟨k, hkg, rfl, hk3, hA, hB, hC, hf⟩ := hrel
    have HKG := Lib.hid hkg
    have HA := Lib.hid hA
    have HB := Lib.hid hB
    have HC := Lib.hid hC
    have HF1 := Lib.hid hf
    clear hkg hA hB hC hf
    rcases (show k = 0 ∨ k = 1 ∨ k = 2 ∨ k = 3 by omega) with rfl | rfl | rfl | rfl
    · rcases far_cases a1 a2 with ⟨e1, hO⟩ | ⟨e1, e2, hO⟩ | ⟨e1, e2, e3, hO⟩ | ⟨e1, e2, e3, e4, hO⟩ | ⟨e1, e2, e3, e4, hO⟩
      all_goals
        have HO := Lib.hid hO
        clear hO
        go_wp2_with fail
        first
          | (go_ret
             exact ⟨rfl, HF.out.nn (HF1.out.to_alloc _)⟩)
          | (go_roundg (gk - 1)
             case measure => have := HKG.out; omega
             case rel => exact ⟨1, by have := HKG.out; omega, rfl, by omega, (fun _ => HO.out), (by omega), (by omega), HF1.out.to_alloc _⟩)
    · rcases far_cases b1 b2 with ⟨e1, hO⟩ | ⟨e1, e2, hO⟩ | ⟨e1, e2, e3, hO⟩ | ⟨e1, e2, e3, e4, hO⟩ | ⟨e1, e2, e3, e4, hO⟩
      all_goals
        have HO := Lib.hid hO
        clear hO
        go_wp2_with fail
        first
          | (go_ret
             exact ⟨rfl, HF.out.nn (HF1.out.to_alloc _)⟩)
          | (go_roundg (gk - 1)
             case measure => have := HKG.out; omega
             case rel => exact ⟨2, by have := HKG.out; omega, rfl, by omega, (fun _ => HA.out (by omega)), (fun _ => HO.out), (by omega), HF1.out.to_alloc _⟩)
    · rcases far_cases c1 c2 with ⟨e1, hO⟩ | ⟨e1, e2, hO⟩ | ⟨e1, e2, e3, hO⟩ | ⟨e1, e2, e3, e4, hO⟩ | ⟨e1, e2, e3, e4, hO⟩
      all_goals
        have HO := Lib.hid hO
        clear hO
        go_wp2_with fail
        first
          | (go_ret
             exact ⟨rfl, HF.out.nn (HF1.out.to_alloc _)⟩)
          | (go_roundg (gk - 1)
             case measure => have := HKG.out; omega
             case rel => exact ⟨3, by have := HKG.out; omega, rfl, by omega, (fun _ => HA.out (by omega)), (fun _ => HB.out (by omega)), (fun _ => HO.out), HF1.out.to_alloc _⟩)
    · have nA := HA.out (by omega)
      have nB := HB.out (by omega)
      have nC := HC.out (by omega)
      have ka := HF1.out.blk KA.out id
      have kb := HF1.out.blk KB.out id
      have kc := HF1.out.blk KC.out id
      have ca1 : wr.cell? ⟨w.heap.size, 0, none⟩ = some (.int .i64 a1) := blk_cell ka 0
      have ca2 : wr.cell? ⟨w.heap.size, 1, none⟩ = some (.int .i64 a2) := blk_cell ka 1
      have cb1 : wr.cell? ⟨w.heap.size + 1, 0, none⟩ = some (.int .i64 b1) := blk_cell kb 0
      have cb2 : wr.cell? ⟨w.heap.size + 1, 1, none⟩ = some (.int .i64 b2) := blk_cell kb 1
      go_wp2_with fail
      refine (drive_any (a1, a2) (b1, b2) _ nA nB).mono ?_
      rintro e w2 ⟨rfl, hf2⟩
      have HF2 := Lib.hid ((HF.out.nn HF1.out).nn hf2)
      have ka := hf2.blk ka id
      have kb := hf2.blk kb id
      have kc := hf2.blk kc id
      clear ca1 ca2 cb1 cb2 hf2
      have qa1 := cell_regrown (v := .int .i64 a1) (a := ⟨w.heap.size, 0, none⟩) (w := w2) (blk_cell ka 0)
      have qa2 := cell_regrown (v := .int .i64 a2) (a := ⟨w.heap.size, 1, none⟩) (w := w2) (blk_cell ka 1)
      have qb1 := cell_regrown (v := .int .i64 b1) (a := ⟨w.heap.size + 1, 0, none⟩) (w := w2) (blk_cell kb 0)
      have qb2 := cell_regrown (v := .int .i64 b2) (a := ⟨w.heap.size + 1, 1, none⟩) (w := w2) (blk_cell kb 1)
      have qc1 := cell_regrown (v := .int .i64 c1) (a := ⟨w.heap.size + 1 + 1, 0, none⟩) (w := w2) (blk_cell kc 0)
      have qc2 := cell_regrown (v := .int .i64 c2) (a := ⟨w.heap.size + 1 + 1, 1, none⟩) (w := w2) (blk_cell kc 1)
      clear ka kb kc
      have R1 := fun d os => Calls.regrown_of (d := d) (os := os) (w := w2) ((refDrive_any (a1, a2) (b1, b2) _ nA nB).mono fun e w' ⟨he, hf⟩ => ⟨he, hf.below (Nat.le_refl _) (fun _ _ h => h)⟩)
      have R2 := fun d os => Calls.regrown_of (d := d) (os := os) (w := w2) ((drive_any (b1, b2) (a1, a2) _ nB nA).mono fun e w' ⟨he, hf⟩ => ⟨he, hf.below (Nat.le_refl _) (fun _ _ h => h)⟩)
      have R3 := fun d os => Calls.regrown_of (d := d) (os := os) (w := w2) ((drive_any (a1, a2) (c1, c2) _ nA nC).mono fun e w' ⟨he, hf⟩ => ⟨he, hf.below (Nat.le_refl _) (fun _ _ h => h)⟩)
      have R4 := fun d os => Calls.regrown_of (d := d) (os := os) (w := w2) ((drive_any (c1, c2) (b1, b2) _ nC nB).mono fun e w' ⟨he, hf⟩ => ⟨he, hf.below (Nat.le_refl _) (fun _ _ h => h)⟩)
      have d1 := drv_comm (b1, b2) (a1, a2)
      rw [d1] at R2
      have d2 := drv_tri (a1, a2) (b1, b2) (c1, c2)
      have d3 := drv_near nA nC
      have d4 := drv_near nC nB
      have d5 := drv_nonneg (a1, a2) (c1, c2)
      have d6 := drv_nonneg (c1, c2) (b1, b2)
      have d7 := drv_zero (a1, a2) (b1, b2)
      obtain ⟨D, hD⟩ : ∃ D, D = drv (a1, a2) (b1, b2) := ⟨_, rfl⟩
      rw [← hD] at R1 R2 d2 d7 ⊢
      clear hD d1
      have b1' : (D == D) = true := by simp
      have hw : IntKind.i64.wrap (drv (a1, a2) (c1, c2) + drv (c1, c2) (b1, b2)) = drv (a1, a2) (c1, c2) + drv (c1, c2) (b1, b2) := IntWalk.i64_in _ (by omega)
      have he : ∀ w, (binOp .eql 23 (.agg #[.int .i64 a1, .int .i64 a2]) (.agg #[.int .i64 b1, .int .i64 b2])).run Try.prog w = .ok (.bool (D == 0)) w := fun w => by
        rw [eq23]
        congr 2
        exact dec_eq (by simp only [beq_iff_eq]; exact d7.symm)
      clear d7
      go_wp2_with fail
      refine wp_region_quiet_below (by kernel_rfl) (by kernel_rfl) ?_
      repeat (go_big_quiet_step ((first | (with_reducible exact R1 _ _) | (with_reducible exact R2 _ _) | (with_reducible exact R3 _ _) | (with_reducible exact R4 _ _))))
      refine wpQuiet_nil ?_
      intro w7 hw7
      obtain ⟨p, rfl⟩ := hw7
      have HF7 := Lib.hid (HF2.out.nn (Fr.of_below (below_regrown w2 p.d p.os) No))
      generalize grow (redrawn w2 p.d) p.os = w7 at *
      clear R1 R2 R3 R4 qa1 qa2 qb1 qb2 qc1 qc2 hw he
      go_wp2_with fail
      go_ret
      exact ⟨by simp, HF7.out⟩
/-- As the row wants it. -/
theorem pairDrives_all (w : World) (a1 a2 : Int) (_ : ∀ z ∈ [a1, a2], (Lit.int .i64 z).wf = true) (b1 b2 : Int) (_ : ∀ z ∈ [b1, b2], (Lit.int .i64 z).wf = true) (c1 c2 : Int) (_ : ∀ z ∈ [c1, c2], (Lit.int .i64 z).wf = true) :
    Calls Try.prog 3 #[.agg #[.int .i64 a1, .int .i64 a2], .agg #[.int .i64 b1, .int .i64 b2], .agg #[.int .i64 c1, .int .i64 c2]] w fun e w' => e = .returned (.bool true) ∧ Fr w w' No := pairDrives_row w a1 a2 b1 b2 c1 c2
end Go.Proofs.Ytggogohoakbepaa
