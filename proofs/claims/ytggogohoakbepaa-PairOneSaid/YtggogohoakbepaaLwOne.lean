/-
  The law PairOne, walked.
-/
import Derived.Test.YtggogohoakbepaaP3
namespace Go.Proofs.Ytggogohoakbepaa
open Go.RowKit Go.Sort
set_option linter.unusedVariables false
set_option linter.unusedSimpArgs false

theorem out_cases (x y u v : Int) (h : ¬ (okS (x, y) ∧ okS (u, v))) :
    (decide (x < 0) = true) ∨ (decide (x < 0) = false ∧ decide ((1000 : Int) < x) = true) ∨ (decide (x < 0) = false ∧ decide ((1000 : Int) < x) = false ∧ decide (y < 0) = true) ∨
    (decide (x < 0) = false ∧ decide ((1000 : Int) < x) = false ∧ decide (y < 0) = false ∧ decide ((1000 : Int) < y) = true) ∨
    (decide (x < 0) = false ∧ decide ((1000 : Int) < x) = false ∧ decide (y < 0) = false ∧ decide ((1000 : Int) < y) = false ∧ decide (u < 0) = true) ∨
    (decide (x < 0) = false ∧ decide ((1000 : Int) < x) = false ∧ decide (y < 0) = false ∧ decide ((1000 : Int) < y) = false ∧ decide (u < 0) = false ∧ decide ((1000 : Int) < u) = true) ∨
    (decide (x < 0) = false ∧ decide ((1000 : Int) < x) = false ∧ decide (y < 0) = false ∧ decide ((1000 : Int) < y) = false ∧ decide (u < 0) = false ∧ decide ((1000 : Int) < u) = false ∧ decide (v < 0) = true) ∨
    (decide (x < 0) = false ∧ decide ((1000 : Int) < x) = false ∧ decide (y < 0) = false ∧ decide ((1000 : Int) < y) = false ∧ decide (u < 0) = false ∧ decide ((1000 : Int) < u) = false ∧ decide (v < 0) = false ∧ decide ((1000 : Int) < v) = true) := by
  unfold okS at h
  simp only [decide_eq_true_eq, decide_eq_false_iff_not]
  simp only at h
  omega

theorem M_one (s g : Spot) : M [g] [s] 0 = sv s g := by
  have := sv_nonneg s g
  simp [M, bst]
  omega
theorem R_one (s g : Spot) : R [g] [s] 0 = if sv s g = 0 then [-1] else [0] := by
  have h := M_one s g
  by_cases e : sv s g = 0
  · rw [R, if_pos (by rw [h, e]; rfl), if_pos e]; rfl
  · rw [R, if_neg (by rw [h]; exact e), if_neg e]
    have : fstg [g] s (M [g] []) 0 (M [g] [s] 0) = some 0 := by
      unfold fstg
      rw [h]
      simp [List.range, List.range.loop, M]
    rw [this]
    rfl
theorem okL_one (s : Spot) : okL [s] ↔ okS s := by simp [okL]

set_option maxRecDepth 100000 in
set_option maxHeartbeats 4000000 in
theorem pairOne_row (w : World) (x y u v : Int) :
    Calls Try.prog 7 #[spV (x, y), spV (u, v)] w fun e w' => e = .returned (.bool true) ∧ Fr w w' No := by
  go_enter Try.func7, Try.ntmps7
  go_wp2_with fail
  refine (awake_any _).mono ?_
  rintro e w1 ⟨rfl, hf1⟩
  have HF := Lib.hid ((((Fr.refl w No).to_alloc (.cells #[.int .i64 x, .int .i64 y] 23)).to_alloc (.cells #[.int .i64 u, .int .i64 v] 23)).nn hf1)
  have ka := hf1.blk (blk_old (blk_new w (.cells #[.int .i64 x, .int .i64 y] 23)) (.cells #[.int .i64 u, .int .i64 v] 23)) id
  have kb := hf1.blk (blk_new (w.alloc (.cells #[.int .i64 x, .int .i64 y] 23)) (.cells #[.int .i64 u, .int .i64 v] 23)) id
  simp only [World.size_alloc] at kb
  clear hf1
  have KA := Lib.hid ka
  have KB := Lib.hid kb
  clear ka kb
  go_upto_region 4 with (fail)
  have hF2 := HF.out.to_alloc (.cells #[.int .i64 0, .int .i64 0] 23)
  have ka := blk_old KA.out (.cells #[.int .i64 0, .int .i64 0] 23)
  have kb := blk_old KB.out (.cells #[.int .i64 0, .int .i64 0] 23)
  have kh := blk_new w1 (.cells #[.int .i64 0, .int .i64 0] 23)
  clear KA KB HF
  generalize w1.alloc (.cells #[.int .i64 0, .int .i64 0] 23) = w2 at *
  generalize w1.heap.size = hb at *
  have HF := Lib.hid hF2
  have KA := Lib.hid ka
  have KB := Lib.hid kb
  have KH := Lib.hid kh
  clear hF2
  have ca1 : w2.cell? ⟨w.heap.size, 0, none⟩ = some (.int .i64 x) := blk_cell ka 0
  have ca2 : w2.cell? ⟨w.heap.size, 1, none⟩ = some (.int .i64 y) := blk_cell ka 1
  have hf3 := Fr.alloc w2 (.cells #[.int .i64 x, .int .i64 y] 23) No
  have cb1 : (w2.alloc (.cells #[.int .i64 x, .int .i64 y] 23)).cell? ⟨w.heap.size + 1, 0, none⟩ = some (.int .i64 u) := blk_cell (hf3.blk kb id) 0
  have cb2 : (w2.alloc (.cells #[.int .i64 x, .int .i64 y] 23)).cell? ⟨w.heap.size + 1, 1, none⟩ = some (.int .i64 v) := blk_cell (hf3.blk kb id) 1
  clear ka kb kh hf3
  go_wp2_with fail
  clear ca1 ca2 cb1 cb2
  obtain ⟨k1, k2, hf4, _⟩ := two_blk w2 (.cells #[.int .i64 x, .int .i64 y] 23) (.cells #[.int .i64 u, .int .i64 v] 23)
  have r1 : RdS ((w2.alloc (.cells #[.int .i64 x, .int .i64 y] 23)).alloc (.cells #[.int .i64 u, .int .i64 v] 23)) (.slice (some ⟨w2.heap.size, 0, none⟩) 1 1) [(x, y)] := RdS.made (l := [(x, y)]) k1 rfl (by simp)
  have r2 : RdS ((w2.alloc (.cells #[.int .i64 x, .int .i64 y] 23)).alloc (.cells #[.int .i64 u, .int .i64 v] 23)) (.slice (some ⟨w2.heap.size + 1, 0, none⟩) 1 1) [(u, v)] := RdS.made (l := [(u, v)]) k2 rfl (by simp)
  have HR1 := Lib.hid r1
  have HR2 := Lib.hid r2
  have HF4 := Lib.hid hf4
  clear k1 k2 hf4 r1 r2
  by_cases hO : okS (x, y) ∧ okS (u, v)
  · have e1 := M_one (x, y) (u, v)
    have e2 := R_one (x, y) (u, v)
    have E1 := Lib.hid e1
    have E2 := Lib.hid e2
    clear e1 e2
    have HO := Lib.hid hO
    clear hO
    refine (best_ok _ _ [(x, y)] [(u, v)] _ HR1.out HR2.out ((okL_one _).2 HO.out.1) ((okL_one _).2 HO.out.2)).mono ?_
    rintro e w5 ⟨q, rfl, hN⟩
    rw [E1.out]
    rw [E2.out] at hN
    obtain ⟨L, hLd⟩ : ∃ L, L = (if sv (x, y) (u, v) = 0 then ([-1] : List Int) else [0]) := ⟨_, rfl⟩
    rw [← hLd] at hN
    have HLD := Lib.hid hLd
    clear hLd
    have ea : alone [(x, y)] = 2 * hm (x, y) := by simp [alone]
    have eb : alone [(u, v)] = 2 * hm (u, v) := by simp [alone]
    rw [ea, eb]
    clear ea eb E1 E2
    have hF5 := (HF.out.nn HF4.out).nn hN.2.1
    have kf := HF4.out.nn hN.2.1
    have HF5 := Lib.hid hF5
    have HA := Lib.hid (kf.blk KA.out id)
    have HB := Lib.hid (kf.blk KB.out id)
    have HH := Lib.hid (kf.blk KH.out id)
    have HN := Lib.hid hN
    clear kf hF5 hN KA KB KH HR1 HR2 HF HF4
    obtain ⟨a, c, rfl, _⟩ := HN.out.1.form
    have nS := HO.out.1.near
    have nG := HO.out.2.near
    have hb1 := hm_ok HO.out.1
    have hb2 := hm_ok HO.out.2
    have hb3 := drv_ok HO.out.1 HO.out.2
    have hb4 := hm_nonneg (x, y)
    have hb5 := hm_nonneg (u, v)
    have hb6 := drv_nonneg (x, y) (u, v)
    have HSV : Hid (sv (x, y) (u, v) = hm (x, y) + hm (u, v) - drv (x, y) (u, v)) := Lib.hid rfl
    have hsv0 := sv_nonneg (x, y) (u, v)
    go_upto_region 7 with (fail)
    have ka := HA.out
    have kb := HB.out
    have kh := HH.out
    have qa1 := cell_regrown (v := .int .i64 x) (a := ⟨w.heap.size, 0, none⟩) (w := w5) (blk_cell ka 0)
    have qa2 := cell_regrown (v := .int .i64 y) (a := ⟨w.heap.size, 1, none⟩) (w := w5) (blk_cell ka 1)
    have qb1 := cell_regrown (v := .int .i64 u) (a := ⟨w.heap.size + 1, 0, none⟩) (w := w5) (blk_cell kb 0)
    have qb2 := cell_regrown (v := .int .i64 v) (a := ⟨w.heap.size + 1, 1, none⟩) (w := w5) (blk_cell kb 1)
    have qh1 := cell_regrown (v := .int .i64 0) (a := ⟨hb, 0, none⟩) (w := w5) (blk_cell kh 0)
    have qh2 := cell_regrown (v := .int .i64 0) (a := ⟨hb, 1, none⟩) (w := w5) (blk_cell kh 1)
    have R1 : ∀ d os, Calls Try.prog 11 #[spV (0, 0), spV (x, y)] (grow (redrawn w5 d) os) fun e w'' => e = .returned (.int .i64 (hm (x, y))) ∧ ∃ p : Regrown, w'' = grow (redrawn w5 p.d) p.os := fun d os => Calls.regrown_of ((drive_any (0, 0) (x, y) _ nearS.zero nS).mono fun e w' ⟨he, hf⟩ => ⟨he, hf.below (Nat.le_refl _) (fun _ _ h => h)⟩)
    have R2 : ∀ d os, Calls Try.prog 11 #[spV (0, 0), spV (u, v)] (grow (redrawn w5 d) os) fun e w'' => e = .returned (.int .i64 (hm (u, v))) ∧ ∃ p : Regrown, w'' = grow (redrawn w5 p.d) p.os := fun d os => Calls.regrown_of ((drive_any (0, 0) (u, v) _ nearS.zero nG).mono fun e w' ⟨he, hf⟩ => ⟨he, hf.below (Nat.le_refl _) (fun _ _ h => h)⟩)
    have w1' : IntKind.i64.wrap (2 * hm (x, y)) = 2 * hm (x, y) := IntWalk.i64_in _ (by omega)
    have w2' : IntKind.i64.wrap (2 * hm (u, v)) = 2 * hm (u, v) := IntWalk.i64_in _ (by omega)
    have w3' : IntKind.i64.wrap (2 * hm (x, y) + 2 * hm (u, v)) = 2 * hm (x, y) + 2 * hm (u, v) := IntWalk.i64_in _ (by omega)
    have w4' : IntKind.i64.wrap (hm (x, y) + drv (x, y) (u, v)) = hm (x, y) + drv (x, y) (u, v) := IntWalk.i64_in _ (by omega)
    have w5' : IntKind.i64.wrap (hm (x, y) + drv (x, y) (u, v) + hm (u, v)) = hm (x, y) + drv (x, y) (u, v) + hm (u, v) := IntWalk.i64_in _ (by omega)
    refine wp_region_quiet_below (by kernel_rfl) (by kernel_rfl) ?_
    repeat (go_big_quiet_step ((first | (with_reducible exact R1 _ _) | (with_reducible exact R2 _ _))))
    refine wpQuiet_nil ?_
    intro w7 hw7
    obtain ⟨p, rfl⟩ := hw7
    have hf7 := Fr.of_below (below_regrown w5 p.d p.os) No
    generalize grow (redrawn w5 p.d) p.os = w7 at *
    have HF7 := Lib.hid (HF5.out.nn hf7)
    have HN7 := Lib.hid (HN.out.keep hf7 (fun _ _ h => h) (fun _ h => h.elim))
    have ka := hf7.blk ka id
    have kb := hf7.blk kb id
    have kh := hf7.blk kh id
    clear qa1 qa2 qb1 qb2 qh1 qh2 R1 R2 HF5 HN HA HB HH hf7
    have qa1 := cell_regrown (v := .int .i64 x) (a := ⟨w.heap.size, 0, none⟩) (w := w7) (blk_cell ka 0)
    have qa2 := cell_regrown (v := .int .i64 y) (a := ⟨w.heap.size, 1, none⟩) (w := w7) (blk_cell ka 1)
    have qb1 := cell_regrown (v := .int .i64 u) (a := ⟨w.heap.size + 1, 0, none⟩) (w := w7) (blk_cell kb 0)
    have qb2 := cell_regrown (v := .int .i64 v) (a := ⟨w.heap.size + 1, 1, none⟩) (w := w7) (blk_cell kb 1)
    have qh1 := cell_regrown (v := .int .i64 0) (a := ⟨hb, 0, none⟩) (w := w7) (blk_cell kh 0)
    have qh2 := cell_regrown (v := .int .i64 0) (a := ⟨hb, 1, none⟩) (w := w7) (blk_cell kh 1)
    have R1 : ∀ d os, Calls Try.prog 11 #[spV (0, 0), spV (x, y)] (grow (redrawn w7 d) os) fun e w'' => e = .returned (.int .i64 (hm (x, y))) ∧ ∃ p : Regrown, w'' = grow (redrawn w7 p.d) p.os := fun d os => Calls.regrown_of ((drive_any (0, 0) (x, y) _ nearS.zero nS).mono fun e w' ⟨he, hf⟩ => ⟨he, hf.below (Nat.le_refl _) (fun _ _ h => h)⟩)
    have R2 : ∀ d os, Calls Try.prog 11 #[spV (u, v), spV (0, 0)] (grow (redrawn w7 d) os) fun e w'' => e = .returned (.int .i64 (hm (u, v))) ∧ ∃ p : Regrown, w'' = grow (redrawn w7 p.d) p.os := fun d os => Calls.regrown_of ((drive_any (u, v) (0, 0) _ nG nearS.zero).mono fun e w' ⟨he, hf⟩ => ⟨by rw [he, drv_comm]; rfl, hf.below (Nat.le_refl _) (fun _ _ h => h)⟩)
    have R3 : ∀ d os, Calls Try.prog 11 #[spV (x, y), spV (u, v)] (grow (redrawn w7 d) os) fun e w'' => e = .returned (.int .i64 (drv (x, y) (u, v))) ∧ ∃ p : Regrown, w'' = grow (redrawn w7 p.d) p.os := fun d os => Calls.regrown_of ((drive_any (x, y) (u, v) _ nS nG).mono fun e w' ⟨he, hf⟩ => ⟨he, hf.below (Nat.le_refl _) (fun _ _ h => h)⟩)
    clear ka kb kh
    go_upto_region 8 with (fail)
    refine wp_region_quiet_below (by kernel_rfl) (by kernel_rfl) ?_
    repeat (go_big_quiet_step ((first | (with_reducible exact R1 _ _) | (with_reducible exact R2 _ _) | (with_reducible exact R3 _ _))))
    refine wpQuiet_nil ?_
    intro w8 hw8
    obtain ⟨p, rfl⟩ := hw8
    have hf8 := Fr.of_below (below_regrown w7 p.d p.os) No
    generalize grow (redrawn w7 p.d) p.os = w8 at *
    have HF8 := Lib.hid (HF7.out.nn hf8)
    have HN8 := Lib.hid (HN7.out.keep hf8 (fun _ _ h => h) (fun _ h => h.elim))
    clear qa1 qa2 qb1 qb2 qh1 qh2 R1 R2 R3 HF7 HN7 hf8 w1' w2' w3' w4' w5'
    generalize hm (x, y) = H1 at *
    generalize hm (u, v) = H2 at *
    generalize drv (x, y) (u, v) = D at *
    generalize sv (x, y) (u, v) = V at *
    by_cases hV : V = 0
    · have hd : decide (H1 + D + H2 < 2 * H1 + 2 * H2) = false := by have := HSV.out; simp; omega
      have he : (2 * H1 + 2 * H2 - V == 2 * H1 + 2 * H2) = true := by have := HSV.out; simp; omega
      have hL : L = [-1] := by rw [HLD.out, if_pos hV]
      have hl := HN8.out.1
      have hll : SlI w8 (.slice a L.length c) [-1] := by
        have key : ∀ v, SlI w8 v L → SlI w8 v [-1] := fun v h => hL ▸ h
        exact key _ hl
      have HLL := Lib.hid hll
      clear HN8 hV hL hl hll HLD
      generalize L.length = n at *
      go_wp2_with fail
      refine (ints_true _ _ [-1] _ (SlI.rd (Sl.keep0 HLL.out (Fr.alloc _ _ _)) (by decide)) (SlI.rd (zs := [-1]) (Sl.made (blk_new _ _) rfl (by decide)) (by decide))).mono ?_
      rintro e w9 ⟨rfl, hf9⟩
      have HF9 := Lib.hid ((HF8.out.to_alloc _).nn hf9)
      clear hf9
      go_wp2_with fail
      go_ret
      exact ⟨rfl, HF9.out⟩
    · have hd : decide (H1 + D + H2 < 2 * H1 + 2 * H2) = true := by have := HSV.out; simp; omega
      have he : (2 * H1 + 2 * H2 - V == H1 + D + H2) = true := by have := HSV.out; simp; omega
      have hL : L = [0] := by rw [HLD.out, if_neg hV]
      have hl := HN8.out.1
      have hll : SlI w8 (.slice a L.length c) [0] := by
        have key : ∀ v, SlI w8 v L → SlI w8 v [0] := fun v h => hL ▸ h
        exact key _ hl
      have HLL := Lib.hid hll
      clear HN8 hV hL hl hll HLD
      generalize L.length = n at *
      go_wp2_with fail
      refine (ints_true _ _ [0] _ (SlI.rd (Sl.keep0 HLL.out (Fr.alloc _ _ _)) (by decide)) (SlI.rd (zs := [0]) (Sl.made (blk_new _ _) rfl (by decide)) (by decide))).mono ?_
      rintro e w9 ⟨rfl, hf9⟩
      have HF9 := Lib.hid ((HF8.out.to_alloc _).nn hf9)
      clear hf9
      go_wp2_with fail
      go_ret
      exact ⟨rfl, HF9.out⟩
  · have hL : ¬ okL [(x, y)] ∨ ¬ okL [(u, v)] := by
      simp only [okL_one]
      by_cases h : okS (x, y)
      · exact .inr (fun h' => hO ⟨h, h'⟩)
      · exact .inl h
    refine (best_bad _ _ [(x, y)] [(u, v)] _ HR1.out HR2.out hL).mono ?_
    rintro e w5 ⟨rfl, hf5⟩
    have kf := HF4.out.nn hf5
    have ka := kf.blk KA.out id
    have kb := kf.blk KB.out id
    have ca1 : w5.cell? ⟨w.heap.size, 0, none⟩ = some (.int .i64 x) := blk_cell ka 0
    have ca2 : w5.cell? ⟨w.heap.size, 1, none⟩ = some (.int .i64 y) := blk_cell ka 1
    have cb1 : w5.cell? ⟨w.heap.size + 1, 0, none⟩ = some (.int .i64 u) := blk_cell kb 0
    have cb2 : w5.cell? ⟨w.heap.size + 1, 1, none⟩ = some (.int .i64 v) := blk_cell kb 1
    have HF5 := Lib.hid ((HF.out.nn HF4.out).nn hf5)
    have hC := out_cases x y u v hO
    clear hO hL kf ka kb hf5 KA KB KH HR1 HR2 HF HF4
    rcases hC with a1 | ⟨a1, a2⟩ | ⟨a1, a2, a3⟩ | ⟨a1, a2, a3, a4⟩ | ⟨a1, a2, a3, a4, a5⟩ | ⟨a1, a2, a3, a4, a5, a6⟩ | ⟨a1, a2, a3, a4, a5, a6, a7⟩ | ⟨a1, a2, a3, a4, a5, a6, a7, a8⟩
    all_goals
      go_wp2_with fail
      go_ret
      exact ⟨rfl, HF5.out⟩
/-- As the row wants it. -/
theorem pairOne_all (w : World) (a1 a2 : Int) (_ : ∀ z ∈ [a1, a2], (Lit.int .i64 z).wf = true) (b1 b2 : Int) (_ : ∀ z ∈ [b1, b2], (Lit.int .i64 z).wf = true) :
    Calls Try.prog 7 #[.agg #[.int .i64 a1, .int .i64 a2], .agg #[.int .i64 b1, .int .i64 b2]] w fun e w' => e = .returned (.bool true) ∧ Fr w w' No := pairOne_row w a1 a2 b1 b2
end Go.Proofs.Ytggogohoakbepaa
