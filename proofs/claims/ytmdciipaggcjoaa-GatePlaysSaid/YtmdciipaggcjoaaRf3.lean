/-
  The document's gate: Accept, Arrive.
-/
import Derived.Test.YtmdciipaggcjoaaRf2
namespace Go.Proofs.Ytmdciipaggcjoaa
open Go.RowKit Go.Conc
set_option linter.unusedVariables false
set_option linter.unusedSimpArgs false

theorem acc_no0 {W I : List Int} {id : Int} (hE : accE W I id ≠ 0) : accW W I id = W := by unfold accW; rw [if_neg hE]
theorem two_ne (w : World) (o1 o2 : Obj) : w.heap.size < ((w.alloc o1).alloc o2).heap.size := by simp; omega

set_option maxRecDepth 100000 in
set_option maxHeartbeats 4000000 in
theorem refAcc_any (w : World) (d : Nat) (vW vI : Value) (W I : List Int) (id : Int) (hW : SlI w vW W) (hI : SlI w vI I) (hl : W.length + I.length ≤ 64) (hd : d ≤ 16) (hid_ : I.length ≤ d) :
    Calls Try.prog 19 #[.agg #[.int .i64 d, vW, vI], .int .i64 id] w fun e w' => RefG d vW vI (accW W I id) I (accE W I id) w e w' := by
  obtain ⟨aW, cW, rfl⟩ := slv_form hW
  obtain ⟨aI, cI, rfl⟩ := slv_form hI
  have HW := Lib.hid hW
  have HI := Lib.hid hI
  clear hW hI
  by_cases c1 : has id W = true
  · have e1 : accE W I id = 2 := by unfold accE; rw [if_pos (.inl c1)]
    have e2 := acc_no0 (W := W) (I := I) (id := id) (by rw [e1]; decide)
    rw [e1, e2]
    have c1' := has_idx c1
    clear e1 e2 c1
    go_enter Try.func19, Try.ntmps19
    go_wp2_with fail
    obtain ⟨q0, q1, hq, hqs⟩ := two_blk w (.cells #[.int .i64 d, .slice aW W.length cW, .slice aI I.length cI] 42) (.cells #[.int .i64 0, .slice none 0 0, .slice none 0 0] 42)
    generalize (w.alloc (.cells #[.int .i64 d, .slice aW W.length cW, .slice aI I.length cI] 42)).alloc (.cells #[.int .i64 0, .slice none 0 0, .slice none 0 0] 42) = w1 at *
    have Q0 := Lib.hid q0
    have Q1 := Lib.hid q1
    have HQ := Lib.hid hq
    have hz1 : w.heap.size < w1.heap.size := blk_lt q0
    have hz2 : w.heap.size + 1 < w1.heap.size := blk_lt q1
    obtain ⟨k00, k01, k02⟩ := cells_three q0
    obtain ⟨k10, k11, k12⟩ := cells_three q1
    obtain ⟨z00, z01, z02⟩ := frz_three q0
    obtain ⟨z10, z11, z12⟩ := frz_three q1
    clear q0 q1 hq hqs
    refine (at_any _ W id w1 (SlI.rd (HW.out.keep0 HQ.out) (by omega))).mono ?_
    rintro e w2 ⟨rfl, rfl⟩
    go_wp2
    obtain ⟨w5, hw5, s0, s1, s2, hf5, hf5'⟩ := three_end (x := .int .i64 d) (y := .slice aW W.length cW) (z := .slice aI I.length cI) Q1.out rfl (by omega) HQ.out
    rw [← hw5]
    refine bodyPost_ret (v := .tuple #[.agg #[.int .i64 d, .slice aW W.length cW, .slice aI I.length cI], .int .i64 2]) (by simp [results, Try.results19, go_sem, s0, s1, s2]) rfl ⟨_, _, rfl, HW.out.keep0 hf5, HI.out.keep0 hf5, hf5, .inl rfl, .inl rfl⟩
  have c1' := has_idx' c1
  by_cases c2 : has id I = true
  · have e1 : accE W I id = 2 := by unfold accE; rw [if_pos (.inr c2)]
    have e2 := acc_no0 (W := W) (I := I) (id := id) (by rw [e1]; decide)
    rw [e1, e2]
    have c2' := has_idx c2
    clear e1 e2 c1 c2
    go_enter Try.func19, Try.ntmps19
    go_wp2_with fail
    obtain ⟨q0, q1, hq, hqs⟩ := two_blk w (.cells #[.int .i64 d, .slice aW W.length cW, .slice aI I.length cI] 42) (.cells #[.int .i64 0, .slice none 0 0, .slice none 0 0] 42)
    generalize (w.alloc (.cells #[.int .i64 d, .slice aW W.length cW, .slice aI I.length cI] 42)).alloc (.cells #[.int .i64 0, .slice none 0 0, .slice none 0 0] 42) = w1 at *
    have Q0 := Lib.hid q0
    have Q1 := Lib.hid q1
    have HQ := Lib.hid hq
    have hz1 : w.heap.size < w1.heap.size := blk_lt q0
    have hz2 : w.heap.size + 1 < w1.heap.size := blk_lt q1
    obtain ⟨k00, k01, k02⟩ := cells_three q0
    obtain ⟨k10, k11, k12⟩ := cells_three q1
    obtain ⟨z00, z01, z02⟩ := frz_three q0
    obtain ⟨z10, z11, z12⟩ := frz_three q1
    clear q0 q1 hq hqs
    refine (at_any _ W id w1 (SlI.rd (HW.out.keep0 HQ.out) (by omega))).mono ?_
    rintro e w2 ⟨rfl, rfl⟩
    go_wp2_with fail
    refine (at_any _ I id w1 (SlI.rd (HI.out.keep0 HQ.out) (by omega))).mono ?_
    rintro e w2 ⟨rfl, rfl⟩
    go_wp2
    obtain ⟨w5, hw5, s0, s1, s2, hf5, hf5'⟩ := three_end (x := .int .i64 d) (y := .slice aW W.length cW) (z := .slice aI I.length cI) Q1.out rfl (by omega) HQ.out
    rw [← hw5]
    refine bodyPost_ret (v := .tuple #[.agg #[.int .i64 d, .slice aW W.length cW, .slice aI I.length cI], .int .i64 2]) (by simp [results, Try.results19, go_sem, s0, s1, s2]) rfl ⟨_, _, rfl, HW.out.keep0 hf5, HI.out.keep0 hf5, hf5, .inl rfl, .inl rfl⟩
  have c2' := has_idx' c2
  by_cases c3 : 64 ≤ W.length + I.length
  · have e1 : accE W I id = 5 := by unfold accE; rw [if_neg (by simp [c1, c2]), if_pos c3]
    have e2 := acc_no0 (W := W) (I := I) (id := id) (by rw [e1]; decide)
    rw [e1, e2]
    have hd3 : (64 : Int) ≤ (W.length : Int) + (I.length : Int) := by omega
    clear e1 e2 c1 c2
    go_enter Try.func19, Try.ntmps19
    go_wp2_with fail
    obtain ⟨q0, q1, hq, hqs⟩ := two_blk w (.cells #[.int .i64 d, .slice aW W.length cW, .slice aI I.length cI] 42) (.cells #[.int .i64 0, .slice none 0 0, .slice none 0 0] 42)
    generalize (w.alloc (.cells #[.int .i64 d, .slice aW W.length cW, .slice aI I.length cI] 42)).alloc (.cells #[.int .i64 0, .slice none 0 0, .slice none 0 0] 42) = w1 at *
    have Q0 := Lib.hid q0
    have Q1 := Lib.hid q1
    have HQ := Lib.hid hq
    have hz1 : w.heap.size < w1.heap.size := blk_lt q0
    have hz2 : w.heap.size + 1 < w1.heap.size := blk_lt q1
    obtain ⟨k00, k01, k02⟩ := cells_three q0
    obtain ⟨k10, k11, k12⟩ := cells_three q1
    obtain ⟨z00, z01, z02⟩ := frz_three q0
    obtain ⟨z10, z11, z12⟩ := frz_three q1
    clear q0 q1 hq hqs
    refine (at_any _ W id w1 (SlI.rd (HW.out.keep0 HQ.out) (by omega))).mono ?_
    rintro e w2 ⟨rfl, rfl⟩
    go_wp2_with fail
    refine (at_any _ I id w1 (SlI.rd (HI.out.keep0 HQ.out) (by omega))).mono ?_
    rintro e w2 ⟨rfl, rfl⟩
    go_wp2
    obtain ⟨w5, hw5, s0, s1, s2, hf5, hf5'⟩ := three_end (x := .int .i64 d) (y := .slice aW W.length cW) (z := .slice aI I.length cI) Q1.out rfl (by omega) HQ.out
    rw [← hw5]
    refine bodyPost_ret (v := .tuple #[.agg #[.int .i64 d, .slice aW W.length cW, .slice aI I.length cI], .int .i64 5]) (by simp [results, Try.results19, go_sem, s0, s1, s2]) rfl ⟨_, _, rfl, HW.out.keep0 hf5, HI.out.keep0 hf5, hf5, .inl rfl, .inl rfl⟩
  have e1 : accE W I id = 0 := by unfold accE; rw [if_neg (by simp [c1, c2]), if_neg c3]
  have e2 : accW W I id = W ++ [id] := by unfold accW; rw [if_pos e1]
  rw [e1, e2]
  have hd3 : ¬ (64 : Int) ≤ (W.length : Int) + (I.length : Int) := by omega
  clear e1 e2 c1 c2
  go_enter Try.func19, Try.ntmps19
  go_wp2_with fail
  obtain ⟨q0, q1, hq, hqs⟩ := two_blk w (.cells #[.int .i64 d, .slice aW W.length cW, .slice aI I.length cI] 42) (.cells #[.int .i64 0, .slice none 0 0, .slice none 0 0] 42)
  generalize (w.alloc (.cells #[.int .i64 d, .slice aW W.length cW, .slice aI I.length cI] 42)).alloc (.cells #[.int .i64 0, .slice none 0 0, .slice none 0 0] 42) = w1 at *
  have Q0 := Lib.hid q0
  have Q1 := Lib.hid q1
  have HQ := Lib.hid hq
  have hz1 : w.heap.size < w1.heap.size := blk_lt q0
  have hz2 : w.heap.size + 1 < w1.heap.size := blk_lt q1
  obtain ⟨k00, k01, k02⟩ := cells_three q0
  obtain ⟨k10, k11, k12⟩ := cells_three q1
  obtain ⟨z00, z01, z02⟩ := frz_three q0
  obtain ⟨z10, z11, z12⟩ := frz_three q1
  clear q0 q1 hq hqs
  refine (at_any _ W id w1 (SlI.rd (HW.out.keep0 HQ.out) (by omega))).mono ?_
  rintro e w2 ⟨rfl, rfl⟩
  go_wp2_with fail
  refine (at_any _ I id w1 (SlI.rd (HI.out.keep0 HQ.out) (by omega))).mono ?_
  rintro e w2 ⟨rfl, rfl⟩
  have HD : Hid (∀ g, (Value.slice aI I.length cI).ownBlock = some g → g < w1.heap.size) := Lib.hid (fun g e => by have := Sl.lt HI.out g e; omega)
  go_wp2_with (at_builtin; refine wpList_appS rfl _ _ rfl _ [] rfl ?c1 _ W rfl ?c2 ?c3 ?_)
  case c1 => exact Sl.made (blk_new _ _) rfl (by decide)
  case c2 => exact (SlI.rd HW.out (by omega)).keep0 (HQ.out.nn (Fr.alloc _ _ _))
  case c3 => simp; omega
  intro v1 w3 hs1 hf3 ho3
  obtain ⟨hN1, hf3', ho3'⟩ := NewI.app0 HQ.out hs1 hf3 ho3
  have N1 := Lib.hid hN1
  have P03 := Lib.hid (hf3'.blk Q0.out (fun h => h))
  have P13 := Lib.hid (hf3'.blk Q1.out (fun h => h))
  have HSZ : w.heap.size + 1 < w1.heap.size := blk_lt Q1.out
  have HO1 : Hid (∀ k, v1.ownBlock = some k → w.heap.size + 1 < k) := Lib.hid (fun k hk => by have := ho3' k hk; omega)
  have HV1 : Hid (∀ k, v1.ownBlock = some k → w1.heap.size ≤ k) := Lib.hid ho3'
  have HF3 := Lib.hid (HQ.out.nn hf3')
  have HY3 := Lib.hid ((Lib.hid (HI.out.keep0 HQ.out)).out.keep0 hf3')
  clear hs1 hf3 ho3 hf3' ho3' hN1
  clear k00 k01 k02 k10 k11 k12 z00 z01 z02 z10 z11 z12
  go_wp2_with (at_builtin; refine wpList_appI rfl _ _ rfl _ W rfl ?c1 _ id rfl ?c2 ?c3 ?_)
  case c1 => exact Sl.keep0 N1.out.1 (Fr.alloc _ _ _)
  case c2 => exact blk_new _ _
  case c3 => omega
  intro v2 w4 hs2 hf4 ho4
  obtain ⟨a2, c2', hv2⟩ := slv_form hs2
  have N2 := Lib.hid (N1.out.app (Fr.alloc _ _ _) hs2 hf4 (by simpa using ho4))
  have p0 := hf4.blk (blk_old P03.out _) (fun e => by have := HO1.out _ e; omega)
  have p1 := hf4.blk (blk_old P13.out _) (fun e => by have := HO1.out _ e; omega)
  have HY4 := Lib.hid (Sl.keep (Sl.keep0 HY3.out (Fr.alloc w3 (.cells #[.int .i64 id] 3) No)) hf4 (fun g e e' => by have h1 := HD.out g e; have h2 := HV1.out g e'; omega))
  obtain ⟨k00, k01, k02⟩ := cells_three p0
  obtain ⟨k10, k11, k12⟩ := cells_three p1
  obtain ⟨z00, z01, z02⟩ := frz_three p0
  obtain ⟨z10, z11, z12⟩ := frz_three p1
  have R0 := Lib.hid p0
  have R1 := Lib.hid p1
  clear p0 p1 hs2 hf4 ho4 HO1 P03 P13
  generalize hnn : (W ++ [id]).length = n2 at hv2
  subst hv2
  clear hnn
  go_wp2
  have hb4 := blk_far (p := ⟨w.heap.size, 1, none⟩) R1.out (by simp) (.slice a2 n2 c2')
  have hf5 := N2.out.2.1.to_new ⟨w.heap.size, 1, none⟩ (.slice a2 n2 c2') (by simp)
  have hs5 := Fr.setCell w4 ⟨w.heap.size, 1, none⟩ (.slice a2 n2 c2')
  obtain ⟨w5, hw5, s0, s1, s2, hf6, hf6'⟩ := three_end (x := .int .i64 d) (y := .slice a2 n2 c2') (z := .slice aI I.length cI) hb4 rfl (by omega) hf5
  rw [← hw5]
  refine bodyPost_ret (v := .tuple #[.agg #[.int .i64 d, .slice a2 n2 c2', .slice aI I.length cI], .int .i64 0]) (by simp [results, Try.results19, go_sem, s0, s1, s2]) rfl ⟨_, _, rfl, ?_, ?_, hf6, .inr N2.out.2.2, .inl rfl⟩
  · exact sl_far (sl_far N2.out.1 R0.out (by decide) hs5) hb4 (by decide) hf6'
  · exact sl_far (sl_far HY4.out R0.out (by decide) hs5) hb4 (by decide) hf6'

set_option maxRecDepth 100000 in
set_option maxHeartbeats 4000000 in
theorem refArr_any (w : World) (d : Nat) (vW vI : Value) (W I : List Int) (id : Int) (hW : SlI w vW W) (hI : SlI w vI I) (hl : W.length + I.length ≤ 64) (hd : d ≤ 16) (hid_ : I.length ≤ d) :
    Calls Try.prog 21 #[.agg #[.int .i64 d, vW, vI], .int .i64 id] w fun e w' => RefG d vW vI (arrW d W I id) (arrI d W I id) (arrE d W I id) w e w' := by
  obtain ⟨aW, cW, rfl⟩ := slv_form hW
  obtain ⟨aI, cI, rfl⟩ := slv_form hI
  have HW := Lib.hid hW
  have HI := Lib.hid hI
  clear hW hI
  have hno : ∀ E, E ≠ 0 → arrE d W I id = E → arrW d W I id = W ∧ arrI d W I id = I := fun E h0 hE => by
    unfold arrW arrI; rw [if_neg (by rw [hE]; exact h0), if_neg (by rw [hE]; exact h0)]; exact ⟨rfl, rfl⟩
  have hge := idx_ge id W
  by_cases c1 : has id I = true
  · have e0 : lookE W I id = 140 := by unfold lookE; rw [if_pos c1]
    have e1 : arrE d W I id = 140 := by unfold arrE; rw [if_pos (by rw [e0]; decide), e0]
    obtain ⟨e2, e3⟩ := hno 140 (by decide) e1
    rw [e1, e2, e3]
    have c1' := has_idx c1
    clear e0 e1 e2 e3 c1 hno
    go_enter Try.func21, Try.ntmps21
    go_wp2_with fail
    obtain ⟨q0, q1, hq, hqs⟩ := two_blk w (.cells #[.int .i64 d, .slice aW W.length cW, .slice aI I.length cI] 42) (.cells #[.int .i64 0, .slice none 0 0, .slice none 0 0] 42)
    generalize (w.alloc (.cells #[.int .i64 d, .slice aW W.length cW, .slice aI I.length cI] 42)).alloc (.cells #[.int .i64 0, .slice none 0 0, .slice none 0 0] 42) = w1 at *
    have Q0 := Lib.hid q0
    have Q1 := Lib.hid q1
    have HQ := Lib.hid hq
    have hz1 : w.heap.size < w1.heap.size := blk_lt q0
    have hz2 : w.heap.size + 1 < w1.heap.size := blk_lt q1
    obtain ⟨k00, k01, k02⟩ := cells_three q0
    obtain ⟨k10, k11, k12⟩ := cells_three q1
    obtain ⟨z00, z01, z02⟩ := frz_three q0
    obtain ⟨z10, z11, z12⟩ := frz_three q1
    clear q0 q1 hq hqs
    refine (at_any _ I id w1 (SlI.rd (HI.out.keep0 HQ.out) (by omega))).mono ?_
    rintro e w2 ⟨rfl, rfl⟩
    go_wp2
    obtain ⟨w5, hw5, s0, s1, s2, hf5, hf5'⟩ := three_end (x := .int .i64 d) (y := .slice aW W.length cW) (z := .slice aI I.length cI) Q1.out rfl (by omega) HQ.out
    rw [← hw5]
    refine bodyPost_ret (v := .tuple #[.agg #[.int .i64 d, .slice aW W.length cW, .slice aI I.length cI], .int .i64 140]) (by simp [results, Try.results21, go_sem, s0, s1, s2]) rfl ⟨_, _, rfl, HW.out.keep0 hf5, HI.out.keep0 hf5, hf5, .inl rfl, .inl rfl⟩
  have c1' := has_idx' c1
  by_cases c2 : idx id W < 0
  · have e0 : lookE W I id = 4 := by unfold lookE; rw [if_neg c1, if_pos c2]
    have e1 : arrE d W I id = 4 := by unfold arrE; rw [if_pos (by rw [e0]; decide), e0]
    obtain ⟨e2, e3⟩ := hno 4 (by decide) e1
    rw [e1, e2, e3]
    clear e0 e1 e2 e3 c1 hno
    go_enter Try.func21, Try.ntmps21
    go_wp2_with fail
    obtain ⟨q0, q1, hq, hqs⟩ := two_blk w (.cells #[.int .i64 d, .slice aW W.length cW, .slice aI I.length cI] 42) (.cells #[.int .i64 0, .slice none 0 0, .slice none 0 0] 42)
    generalize (w.alloc (.cells #[.int .i64 d, .slice aW W.length cW, .slice aI I.length cI] 42)).alloc (.cells #[.int .i64 0, .slice none 0 0, .slice none 0 0] 42) = w1 at *
    have Q0 := Lib.hid q0
    have Q1 := Lib.hid q1
    have HQ := Lib.hid hq
    have hz1 : w.heap.size < w1.heap.size := blk_lt q0
    have hz2 : w.heap.size + 1 < w1.heap.size := blk_lt q1
    obtain ⟨k00, k01, k02⟩ := cells_three q0
    obtain ⟨k10, k11, k12⟩ := cells_three q1
    obtain ⟨z00, z01, z02⟩ := frz_three q0
    obtain ⟨z10, z11, z12⟩ := frz_three q1
    clear q0 q1 hq hqs
    refine (at_any _ I id w1 (SlI.rd (HI.out.keep0 HQ.out) (by omega))).mono ?_
    rintro e w2 ⟨rfl, rfl⟩
    go_wp2_with fail
    refine (at_any _ W id w1 (SlI.rd (HW.out.keep0 HQ.out) (by omega))).mono ?_
    rintro e w2 ⟨rfl, rfl⟩
    go_wp2
    obtain ⟨w5, hw5, s0, s1, s2, hf5, hf5'⟩ := three_end (x := .int .i64 d) (y := .slice aW W.length cW) (z := .slice aI I.length cI) Q1.out rfl (by omega) HQ.out
    rw [← hw5]
    refine bodyPost_ret (v := .tuple #[.agg #[.int .i64 d, .slice aW W.length cW, .slice aI I.length cI], .int .i64 4]) (by simp [results, Try.results21, go_sem, s0, s1, s2]) rfl ⟨_, _, rfl, HW.out.keep0 hf5, HI.out.keep0 hf5, hf5, .inl rfl, .inl rfl⟩
  have e0 : lookE W I id = 0 := by unfold lookE; rw [if_neg c1, if_neg c2]
  by_cases c3 : 0 < idx id W
  · have e1 : arrE d W I id = 110 := by unfold arrE; rw [if_neg (by rw [e0]; decide), if_pos c3]
    obtain ⟨e2, e3⟩ := hno 110 (by decide) e1
    rw [e1, e2, e3]
    clear e0 e1 e2 e3 c1 hno
    go_enter Try.func21, Try.ntmps21
    go_wp2_with fail
    obtain ⟨q0, q1, hq, hqs⟩ := two_blk w (.cells #[.int .i64 d, .slice aW W.length cW, .slice aI I.length cI] 42) (.cells #[.int .i64 0, .slice none 0 0, .slice none 0 0] 42)
    generalize (w.alloc (.cells #[.int .i64 d, .slice aW W.length cW, .slice aI I.length cI] 42)).alloc (.cells #[.int .i64 0, .slice none 0 0, .slice none 0 0] 42) = w1 at *
    have Q0 := Lib.hid q0
    have Q1 := Lib.hid q1
    have HQ := Lib.hid hq
    have hz1 : w.heap.size < w1.heap.size := blk_lt q0
    have hz2 : w.heap.size + 1 < w1.heap.size := blk_lt q1
    obtain ⟨k00, k01, k02⟩ := cells_three q0
    obtain ⟨k10, k11, k12⟩ := cells_three q1
    obtain ⟨z00, z01, z02⟩ := frz_three q0
    obtain ⟨z10, z11, z12⟩ := frz_three q1
    clear q0 q1 hq hqs
    refine (at_any _ I id w1 (SlI.rd (HI.out.keep0 HQ.out) (by omega))).mono ?_
    rintro e w2 ⟨rfl, rfl⟩
    go_wp2_with fail
    refine (at_any _ W id w1 (SlI.rd (HW.out.keep0 HQ.out) (by omega))).mono ?_
    rintro e w2 ⟨rfl, rfl⟩
    go_wp2
    obtain ⟨w5, hw5, s0, s1, s2, hf5, hf5'⟩ := three_end (x := .int .i64 d) (y := .slice aW W.length cW) (z := .slice aI I.length cI) Q1.out rfl (by omega) HQ.out
    rw [← hw5]
    refine bodyPost_ret (v := .tuple #[.agg #[.int .i64 d, .slice aW W.length cW, .slice aI I.length cI], .int .i64 110]) (by simp [results, Try.results21, go_sem, s0, s1, s2]) rfl ⟨_, _, rfl, HW.out.keep0 hf5, HI.out.keep0 hf5, hf5, .inl rfl, .inl rfl⟩
  by_cases c4 : d ≤ I.length
  · have e1 : arrE d W I id = 5 := by unfold arrE; rw [if_neg (by rw [e0]; decide), if_neg c3, if_neg (by omega)]
    obtain ⟨e2, e3⟩ := hno 5 (by decide) e1
    rw [e1, e2, e3]
    have c4' : (d : Int) ≤ (I.length : Int) := by omega
    clear e0 e1 e2 e3 c1 hno
    go_enter Try.func21, Try.ntmps21
    go_wp2_with fail
    obtain ⟨q0, q1, hq, hqs⟩ := two_blk w (.cells #[.int .i64 d, .slice aW W.length cW, .slice aI I.length cI] 42) (.cells #[.int .i64 0, .slice none 0 0, .slice none 0 0] 42)
    generalize (w.alloc (.cells #[.int .i64 d, .slice aW W.length cW, .slice aI I.length cI] 42)).alloc (.cells #[.int .i64 0, .slice none 0 0, .slice none 0 0] 42) = w1 at *
    have Q0 := Lib.hid q0
    have Q1 := Lib.hid q1
    have HQ := Lib.hid hq
    have hz1 : w.heap.size < w1.heap.size := blk_lt q0
    have hz2 : w.heap.size + 1 < w1.heap.size := blk_lt q1
    obtain ⟨k00, k01, k02⟩ := cells_three q0
    obtain ⟨k10, k11, k12⟩ := cells_three q1
    obtain ⟨z00, z01, z02⟩ := frz_three q0
    obtain ⟨z10, z11, z12⟩ := frz_three q1
    clear q0 q1 hq hqs
    refine (at_any _ I id w1 (SlI.rd (HI.out.keep0 HQ.out) (by omega))).mono ?_
    rintro e w2 ⟨rfl, rfl⟩
    go_wp2_with fail
    refine (at_any _ W id w1 (SlI.rd (HW.out.keep0 HQ.out) (by omega))).mono ?_
    rintro e w2 ⟨rfl, rfl⟩
    go_wp2
    obtain ⟨w5, hw5, s0, s1, s2, hf5, hf5'⟩ := three_end (x := .int .i64 d) (y := .slice aW W.length cW) (z := .slice aI I.length cI) Q1.out rfl (by omega) HQ.out
    rw [← hw5]
    refine bodyPost_ret (v := .tuple #[.agg #[.int .i64 d, .slice aW W.length cW, .slice aI I.length cI], .int .i64 5]) (by simp [results, Try.results21, go_sem, s0, s1, s2]) rfl ⟨_, _, rfl, HW.out.keep0 hf5, HI.out.keep0 hf5, hf5, .inl rfl, .inl rfl⟩
  have e1 : arrE d W I id = 0 := by unfold arrE; rw [if_neg (by rw [e0]; decide), if_neg c3, if_pos (by omega)]
  have hi0 : idx id W = 0 := by omega
  obtain ⟨R, rfl⟩ := idx0 id W hi0
  have e2 : arrW d (id :: R) I id = R := by unfold arrW; rw [if_pos e1]; rfl
  have e3 : arrI d (id :: R) I id = I ++ [id] := by unfold arrI; rw [if_pos e1]
  rw [e1, e2, e3]
  have c4' : ¬ (d : Int) ≤ (I.length : Int) := by omega
  have HI0 := Lib.hid hi0
  clear e0 e1 e2 e3 c1 hno hge c2 c3 hi0
  generalize hnW : (id :: R).length = nW at *
  have HNW := Lib.hid hnW
  clear hnW
  go_enter Try.func21, Try.ntmps21
  go_wp2_with fail
  obtain ⟨q0, q1, hq, hqs⟩ := two_blk w (.cells #[.int .i64 d, .slice aW nW cW, .slice aI I.length cI] 42) (.cells #[.int .i64 0, .slice none 0 0, .slice none 0 0] 42)
  generalize (w.alloc (.cells #[.int .i64 d, .slice aW nW cW, .slice aI I.length cI] 42)).alloc (.cells #[.int .i64 0, .slice none 0 0, .slice none 0 0] 42) = w1 at *
  have Q0 := Lib.hid q0
  have Q1 := Lib.hid q1
  have HQ := Lib.hid hq
  have hz1 : w.heap.size < w1.heap.size := blk_lt q0
  have hz2 : w.heap.size + 1 < w1.heap.size := blk_lt q1
  obtain ⟨k00, k01, k02⟩ := cells_three q0
  obtain ⟨k10, k11, k12⟩ := cells_three q1
  obtain ⟨z00, z01, z02⟩ := frz_three q0
  obtain ⟨z10, z11, z12⟩ := frz_three q1
  clear q0 q1 hq hqs
  refine (at_any _ I id w1 (SlI.rd (HI.out.keep0 HQ.out) (by omega))).mono ?_
  rintro e w2 ⟨rfl, rfl⟩
  go_wp2_with fail
  refine (at_any _ (id :: R) id w1 (SlI.rd (HW.out.keep0 HQ.out) (by have := HNW.out; omega))).mono ?_
  rintro e w2 ⟨rfl, rfl⟩
  rw [HI0.out]
  go_wp2_with fail
  refine (without_any _ (id :: R) 0 w1 (by have := HW.out.keep0 HQ.out; exact this) (by simp) (by have := HNW.out; omega)).mono ?_
  rintro e w3 ⟨v', rfl, hN⟩
  simp only [List.eraseIdx_cons_zero] at hN
  obtain ⟨a', c', hv'⟩ := slv_form hN.1
  generalize hn' : R.length = n' at hv'
  subst hv'
  clear hn'
  have r0 := hN.2.1.blk Q0.out (fun h => h)
  have r1 := hN.2.1.blk Q1.out (fun h => h)
  have R0' := Lib.hid r0
  have R1' := Lib.hid r1
  have HF0 := Lib.hid (HQ.out.nn hN.2.1)
  have HN1 := Lib.hid hN.1
  have HN3 := Lib.hid hN.2.2
  clear k00 k01 k02 k10 k11 k12 z00 z01 z02 z10 z11 z12 hN
  obtain ⟨k00, k01, k02⟩ := cells_three r0
  obtain ⟨z00, z01, z02⟩ := frz_three r0
  clear r0 r1
  go_upto_region 11 with (fail)
  have Q0b : Hid ((w3.setCell ⟨w.heap.size, 1, none⟩ (.slice a' n' c')).heap[w.heap.size]? = some (.cells #[.int .i64 d, .slice a' n' c', .slice aI I.length cI] 42 (0, 0))) := Lib.hid (blk_set R0'.out 1 _)
  have Q1b := Lib.hid (blk_far (p := ⟨w.heap.size, 1, none⟩) R1'.out (by simp) (.slice a' n' c'))
  have HFb := Lib.hid (HF0.out.to_new ⟨w.heap.size, 1, none⟩ (.slice a' n' c') (by simp))
  have HYb := Lib.hid (sl_far HN1.out R0'.out (by decide) (Fr.setCell w3 ⟨w.heap.size, 1, none⟩ (.slice a' n' c')))
  clear k00 k01 k02 z00 z01 z02 R0' R1' HF0 HN1
  generalize w3.setCell ⟨w.heap.size, 1, none⟩ (.slice a' n' c') = wb at *
  obtain ⟨k00, k01, k02⟩ := cells_three Q0b.out
  obtain ⟨k10, k11, k12⟩ := cells_three Q1b.out
  obtain ⟨z00, z01, z02⟩ := frz_three Q0b.out
  obtain ⟨z10, z11, z12⟩ := frz_three Q1b.out
  have hz1 : w.heap.size < wb.heap.size := blk_lt Q0b.out
  have hz2 : w.heap.size + 1 < wb.heap.size := blk_lt Q1b.out
  have HD : Hid (∀ g, (Value.slice a' n' c').ownBlock = some g → g < wb.heap.size) := Lib.hid (Sl.lt HYb.out)
  have HNZ : Hid (∀ k, (Value.slice a' n' c').ownBlock = some k → w.heap.size ≤ k) := Lib.hid (fun k hk => Nat.le_trans HQ.out.size (HN3.out k hk))
  go_wp2_with (at_builtin; refine wpList_appS rfl _ _ rfl _ [] rfl ?c1 _ I rfl ?c2 ?c3 ?_)
  case c1 => exact Sl.made (blk_new _ _) rfl (by decide)
  case c2 => exact (SlI.rd HI.out (by omega)).keep0 (HFb.out.nn (Fr.alloc _ _ _))
  case c3 => simp; omega
  intro v1 w3 hs1 hf3 ho3
  obtain ⟨hN1, hf3', ho3'⟩ := NewI.app0 HFb.out hs1 hf3 ho3
  have N1 := Lib.hid hN1
  have P03 := Lib.hid (hf3'.blk Q0b.out (fun h => h))
  have P13 := Lib.hid (hf3'.blk Q1b.out (fun h => h))
  have HSZ : w.heap.size + 1 < wb.heap.size := blk_lt Q1b.out
  have HO1 : Hid (∀ k, v1.ownBlock = some k → w.heap.size + 1 < k) := Lib.hid (fun k hk => by have := ho3' k hk; omega)
  have HV1 : Hid (∀ k, v1.ownBlock = some k → wb.heap.size ≤ k) := Lib.hid ho3'
  have HF3 := Lib.hid (HFb.out.nn hf3')
  have HY3 := Lib.hid (HYb.out.keep0 hf3')
  clear hs1 hf3 ho3 hf3' ho3' hN1
  clear k00 k01 k02 k10 k11 k12 z00 z01 z02 z10 z11 z12
  go_wp2_with (at_builtin; refine wpList_appI rfl _ _ rfl _ I rfl ?c1 _ id rfl ?c2 ?c3 ?_)
  case c1 => exact Sl.keep0 N1.out.1 (Fr.alloc _ _ _)
  case c2 => exact blk_new _ _
  case c3 => omega
  intro v2 w4 hs2 hf4 ho4
  obtain ⟨a2, c2', hv2⟩ := slv_form hs2
  have N2 := Lib.hid (N1.out.app (Fr.alloc _ _ _) hs2 hf4 (by simpa using ho4))
  have p0 := hf4.blk (blk_old P03.out _) (fun e => by have := HO1.out _ e; omega)
  have p1 := hf4.blk (blk_old P13.out _) (fun e => by have := HO1.out _ e; omega)
  have HY4 := Lib.hid (Sl.keep (Sl.keep0 HY3.out (Fr.alloc w3 (.cells #[.int .i64 id] 3) No)) hf4 (fun g e e' => by have h1 := HD.out g e; have h2 := HV1.out g e'; omega))
  obtain ⟨k00, k01, k02⟩ := cells_three p0
  obtain ⟨k10, k11, k12⟩ := cells_three p1
  obtain ⟨z00, z01, z02⟩ := frz_three p0
  obtain ⟨z10, z11, z12⟩ := frz_three p1
  have R0 := Lib.hid p0
  have R1 := Lib.hid p1
  clear p0 p1 hs2 hf4 ho4 HO1 P03 P13
  generalize hnn : (I ++ [id]).length = n2 at hv2
  subst hv2
  clear hnn
  go_wp2
  have hb4 := blk_far (p := ⟨w.heap.size, 2, none⟩) R1.out (by simp) (.slice a2 n2 c2')
  have hf5 := N2.out.2.1.to_new ⟨w.heap.size, 2, none⟩ (.slice a2 n2 c2') (by simp)
  have hs5 := Fr.setCell w4 ⟨w.heap.size, 2, none⟩ (.slice a2 n2 c2')
  obtain ⟨w5, hw5, s0, s1, s2, hf6, hf6'⟩ := three_end (x := .int .i64 d) (y := .slice a' n' c') (z := .slice a2 n2 c2') hb4 rfl (by omega) hf5
  rw [← hw5]
  refine bodyPost_ret (v := .tuple #[.agg #[.int .i64 d, .slice a' n' c', .slice a2 n2 c2'], .int .i64 0]) (by simp [results, Try.results21, go_sem, s0, s1, s2]) rfl ⟨_, _, rfl, ?_, ?_, hf6, .inr HNZ.out, .inr N2.out.2.2⟩
  · exact sl_far (sl_far HY4.out R0.out (by decide) hs5) hb4 (by decide) hf6'
  · exact sl_far (sl_far N2.out.1 R0.out (by decide) hs5) hb4 (by decide) hf6'

end Go.Proofs.Ytmdciipaggcjoaa
