import Derived.Test.YtegoilhkooneaaaRf
namespace Go.Proofs.Ytegoilhkooneaaa
open Go.RowKit
set_option linter.unusedVariables false
set_option linter.unusedSimpArgs false

theorem takeE_zero {ts : List Int} {t : Int} (h : takeE ts t = 0) : ts ≠ [] := by
  rintro rfl
  simp [takeE, idx] at h

set_option maxRecDepth 100000 in
set_option maxHeartbeats 1000000 in
theorem refTake_any (w : World) (d : Nat) (v : Value) (ts : List Int) (t : Int) (hv : SlI w v ts) (hd : ts.length ≤ d) (h8 : d ≤ 8) :
    Calls Try.prog 25 #[.agg #[.int .i64 d, v], .int .i64 t] w fun e w' => ∃ v', e = .returned (.tuple #[.agg #[.int .i64 d, v'], .int .i64 (takeE ts t)]) ∧ RefL w w' v v' (takeT ts t) := by
  have HV := Lib.hid hv
  obtain ⟨a, c, rfl, _⟩ := hv.form
  have hi := idx_ge t ts
  clear hv
  have hstart : ∀ w2 : World, w2.heap[w.heap.size]? = some (.cells #[.int .i64 d, .slice a ts.length c] 42 (0, 0)) → w2.heap[w.heap.size + 1]? = some (.cells #[.int .i64 0, .slice none 0 0] 42 (0, 0)) →
      w2.cell? ⟨w.heap.size, 0, none⟩ = some (.int .i64 d) ∧ w2.cell? ⟨w.heap.size, 1, none⟩ = some (.slice a ts.length c) ∧ w2.cell? ⟨w.heap.size + 1, 0, none⟩ = some (.int .i64 0) ∧ w2.cell? ⟨w.heap.size + 1, 1, none⟩ = some (.slice none 0 0) ∧
      w2.frozen? ⟨w.heap.size + 1, 0, none⟩ = false ∧ w2.frozen? ⟨w.heap.size + 1, 1, none⟩ = false ∧ w2.frozen? ⟨w.heap.size, 0, none⟩ = false ∧ w2.frozen? ⟨w.heap.size, 1, none⟩ = false := fun w2 p0 p1 =>
    ⟨blk_cell p0 0, blk_cell p0 1, blk_cell p1 0, blk_cell p1 1, blk_frozen p1 0, blk_frozen p1 1, blk_frozen p0 0, blk_frozen p0 1⟩
  by_cases c1 : idx t ts < 0
  · have e1 : takeE ts t = 160 := by unfold takeE; rw [if_pos c1]
    have e2 : takeT ts t = ts := by unfold takeT; rw [e1]; rfl
    rw [e1, e2]
    clear e1 e2 hi
    go_enter Try.func25, Try.ntmps25
    go_wp2_with fail
    obtain ⟨q0, q1, hq, hqs⟩ := two_blk w (.cells #[.int .i64 d, .slice a ts.length c] 42) (.cells #[.int .i64 0, .slice none 0 0] 42)
    generalize (w.alloc (.cells #[.int .i64 d, .slice a ts.length c] 42)).alloc (.cells #[.int .i64 0, .slice none 0 0] 42) = w1 at *
    refine (refAt_any w1 d _ ts t ((SlI.rd HV.out (by omega)).keep0 hq)).mono ?_
    rintro e w2 ⟨rfl, hf2⟩
    have hF2 := Lib.hid (hq.nn hf2)
    have p0 := hf2.blk q0 (fun h => h)
    have p1 := hf2.blk q1 (fun h => h)
    obtain ⟨k00, k01, k10, k11, z10, z11, _, _⟩ := hstart _ p0 p1
    have s0 := set_at p1 0 (by decide) (.int .i64 d)
    have s1 := set_at (blk_set p1 0 (.int .i64 d)) 1 (by simp) (.slice a ts.length c)
    clear p0 p1 q0 q1 hq hqs hf2 hstart
    go_wp2
    refine bodyPost_ret (v := .tuple #[.agg #[.int .i64 d, .slice a ts.length c], .int .i64 160]) (by simp [results, Try.results25, go_sem, s0, s1]) rfl ⟨_, rfl, HV.out.keep0 ?_, ?_, .inl rfl⟩
    all_goals repeat (first | exact hF2.out | (refine Fr.to_new ?_ _ _ (by simp)))
  by_cases c2 : idx t ts < (ts.length : Int) - 1
  · have e1 : takeE ts t = 110 := by unfold takeE; rw [if_neg c1, if_pos c2]
    have e2 : takeT ts t = ts := by unfold takeT; rw [e1]; rfl
    rw [e1, e2]
    clear e1 e2 hi
    go_enter Try.func25, Try.ntmps25
    go_wp2_with fail
    obtain ⟨q0, q1, hq, hqs⟩ := two_blk w (.cells #[.int .i64 d, .slice a ts.length c] 42) (.cells #[.int .i64 0, .slice none 0 0] 42)
    generalize (w.alloc (.cells #[.int .i64 d, .slice a ts.length c] 42)).alloc (.cells #[.int .i64 0, .slice none 0 0] 42) = w1 at *
    refine (refAt_any w1 d _ ts t ((SlI.rd HV.out (by omega)).keep0 hq)).mono ?_
    rintro e w2 ⟨rfl, hf2⟩
    have hF2 := Lib.hid (hq.nn hf2)
    have p0 := hf2.blk q0 (fun h => h)
    have p1 := hf2.blk q1 (fun h => h)
    obtain ⟨k00, k01, k10, k11, z10, z11, _, _⟩ := hstart _ p0 p1
    have s0 := set_at p1 0 (by decide) (.int .i64 d)
    have s1 := set_at (blk_set p1 0 (.int .i64 d)) 1 (by simp) (.slice a ts.length c)
    clear p0 p1 q0 q1 hq hqs hf2 hstart
    go_wp2
    refine bodyPost_ret (v := .tuple #[.agg #[.int .i64 d, .slice a ts.length c], .int .i64 110]) (by simp [results, Try.results25, go_sem, s0, s1]) rfl ⟨_, rfl, HV.out.keep0 ?_, ?_, .inl rfl⟩
    all_goals repeat (first | exact hF2.out | (refine Fr.to_new ?_ _ _ (by simp)))
  · have e1 : takeE ts t = 0 := by unfold takeE; rw [if_neg c1, if_neg c2]
    have e2 : takeT ts t = ts.dropLast := by unfold takeT; rw [e1]; rfl
    rw [e1, e2]
    have h8' : ts.length ≤ 8 := by omega
    clear e1 e2 hi
    go_enter Try.func25, Try.ntmps25
    go_wp2_with fail
    obtain ⟨q0, q1, hq, hqs⟩ := two_blk w (.cells #[.int .i64 d, .slice a ts.length c] 42) (.cells #[.int .i64 0, .slice none 0 0] 42)
    generalize (w.alloc (.cells #[.int .i64 d, .slice a ts.length c] 42)).alloc (.cells #[.int .i64 0, .slice none 0 0] 42) = w1 at *
    refine (refAt_any w1 d _ ts t ((SlI.rd HV.out (by omega)).keep0 hq)).mono ?_
    rintro e w2 ⟨rfl, hf2⟩
    have hF2 := Lib.hid (hq.nn hf2)
    have p0 := hf2.blk q0 (fun h => h)
    have p1 := hf2.blk q1 (fun h => h)
    have P0 := Lib.hid p0
    have P1 := Lib.hid p1
    obtain ⟨k00, k01, _, _, _, _, _, _⟩ := hstart _ p0 p1
    clear p0 p1 q0 q1 hq hqs hf2 hstart
    go_wp2_with fail
    refine (refPop_any w2 d _ ts (HV.out.keep0 hF2.out) hd h8).mono ?_
    rintro e w3 ⟨v3, rfl, hR⟩
    obtain ⟨a3, c3, rfl, _⟩ := hR.1.form
    have p0 := hR.2.1.blk P0.out (fun h => h)
    have p1 := hR.2.1.blk P1.out (fun h => h)
    have HR := Lib.hid hR
    have HF3 := Lib.hid (hF2.out.nn hR.2.1)
    have NB := Lib.hid (And.intro (Sl.ne hR.1 p0 (by decide)) (Sl.ne hR.1 p1 (by decide)))
    clear hR k00 k01
    have k00 := blk_cell p0 0
    have k01 := blk_cell p0 1
    have k10 := blk_cell p1 0
    have k11 := blk_cell p1 1
    have z00 := blk_frozen p0 0
    have z01 := blk_frozen p0 1
    have z10 := blk_frozen p1 0
    have z11 := blk_frozen p1 1
    simp only [List.getElem?_toArray, List.getElem?_cons_zero, List.getElem?_cons_succ] at k00 k01 k10 k11
    have p1' := blk_far (blk_far p1 (p := ⟨w.heap.size, 0, none⟩) (by simp) (.int .i64 d)) (p := ⟨w.heap.size, 1, none⟩) (by simp) (.slice a3 ts.dropLast.length c3)
    have s0 := set_at p1' 0 (by decide) (.int .i64 d)
    have s1 := set_at (blk_set p1' 0 (.int .i64 d)) 1 (by simp) (.slice a3 ts.dropLast.length c3)
    clear p0 p1 p1' P0 P1
    go_wp2
    rw [List.length_dropLast] at s0 s1 HR NB
    refine bodyPost_ret (v := .tuple #[.agg #[.int .i64 d, .slice a3 (ts.length - 1) c3], .int .i64 0]) (by simp [results, Try.results25, go_sem, s0, s1]) rfl ⟨_, rfl, ?_, ?_, ?_⟩
    · exact ((((HR.out.1.set_far NB.out.1 _ _).set_far NB.out.1 _ _).set_far NB.out.2 _ _).set_far NB.out.2 _ _)
    · repeat (first | exact HF3.out | (refine Fr.to_new ?_ _ _ (by simp)))
    · rcases HR.out.2.2 with h | h
      · exact .inl h
      · exact .inr fun k hk => by have := h k hk; have := hF2.out.size; omega

/-- What Ahead answers: the totes between it and the mouth. -/
def aheadOf (ts : List Int) (t : Int) : List Int := if idx t ts < 0 then [] else (ts.drop ((idx t ts).toNat + 1)).reverse
def aheadE (ts : List Int) (t : Int) : Int := if idx t ts < 0 then 160 else 0

set_option maxRecDepth 100000 in
set_option maxHeartbeats 1000000 in
theorem refAhead_any (w : World) (d : Nat) (v : Value) (ts : List Int) (t : Int) (hv : SlI w v ts) (h8 : ts.length ≤ 8) :
    Calls Try.prog 27 #[.agg #[.int .i64 d, v], .int .i64 t] w fun e w' => ∃ v', e = .returned (.tuple #[v', .int .i64 (aheadE ts t)]) ∧ NewI w w' v' (aheadOf ts t) := by
  have HV := Lib.hid hv
  obtain ⟨a, c, rfl, _⟩ := hv.form
  have hi := idx_ge t ts
  have hlt := idx_lt t ts
  clear hv
  by_cases c1 : idx t ts < 0
  · have e1 : aheadE ts t = 160 := by unfold aheadE; rw [if_pos c1]
    have e2 : aheadOf ts t = [] := by unfold aheadOf; rw [if_pos c1]
    rw [e1, e2]
    clear e1 e2 hi hlt
    go_enter Try.func27, Try.ntmps27
    go_wp2_with fail
    have q0 := blk_new w (.cells #[.int .i64 d, .slice a ts.length c] 42)
    have hq := Fr.alloc w (.cells #[.int .i64 d, .slice a ts.length c] 42) No
    generalize w.alloc (.cells #[.int .i64 d, .slice a ts.length c] 42) = w1 at *
    refine (refAt_any w1 d _ ts t ((SlI.rd HV.out (by omega)).keep0 hq)).mono ?_
    rintro e w2 ⟨rfl, hf2⟩
    have hF2 := Lib.hid (hq.nn hf2)
    clear q0 hq hf2
    go_wp2
    go_ret2
    exact ⟨_, rfl, Sl.nil _ _ _, hF2.out, by simp [Value.ownBlock]⟩
  · obtain ⟨i, hi'⟩ : ∃ i : Nat, idx t ts = i := ⟨(idx t ts).toNat, by omega⟩
    have e1 : aheadE ts t = 0 := by unfold aheadE; rw [if_neg c1]
    have e2 : aheadOf ts t = (ts.drop (i + 1)).reverse := by unfold aheadOf; rw [if_neg c1, hi']; rfl
    rw [e1, e2]
    rw [hi'] at hlt
    have hilt : i < ts.length := by omega
    have HI := Lib.hid hi'
    have hi0 : ¬ (i : Int) < 0 := by omega
    clear e1 e2 hi hlt c1 hi'
    go_enter Try.func27, Try.ntmps27
    go_wp2_with fail
    have q0 := blk_new w (.cells #[.int .i64 d, .slice a ts.length c] 42)
    have hq := Fr.alloc w (.cells #[.int .i64 d, .slice a ts.length c] 42) No
    generalize w.alloc (.cells #[.int .i64 d, .slice a ts.length c] 42) = w1 at *
    refine (refAt_any w1 d _ ts t ((SlI.rd HV.out (by omega)).keep0 hq)).mono ?_
    rintro e w2 ⟨he, hf2⟩
    rw [HI.out] at he
    subst he
    have hF2 := Lib.hid (hq.nn hf2)
    have P0 := Lib.hid (hf2.blk q0 (fun h => h))
    have k01 : w2.cell? ⟨w.heap.size, 1, none⟩ = some (.slice a ts.length c) := blk_cell P0.out 1
    clear q0 hq hf2
    go_wp2_with fail
    have hb0 : w.heap.size < w2.heap.size := blk_lt P0.out
    go_loopw [7, 8] (fun v7 v8 wr => ∃ q : Nat, q ≤ ts.length - (i + 1) ∧ v8 = .int .i64 ((ts.length : Int) - 1 - q) ∧ NewI w wr v7 (ts.drop (ts.length - q)).reverse ∧ wr.heap[w.heap.size]? = some (.cells #[.int .i64 d, .slice a ts.length c] 42 (0, 0))) (fun _ u _ => (intOf u).toNat)
    case atStart => exact ⟨0, Nat.zero_le _, by simp, ⟨by rw [Nat.sub_zero, List.drop_length]; exact Sl.nil _ _ _, hF2.out, by simp [Value.ownBlock]⟩, P0.out⟩
    case round =>
      obtain ⟨q, hq, rfl, hN, hP⟩ := hrel
      have HP := Lib.hid hP
      have k01' : wr.cell? ⟨w.heap.size, 1, none⟩ = some (.slice a ts.length c) := blk_cell hP 1
      have hbw : w.heap.size < wr.heap.size := blk_lt hP
      have HN := Lib.hid hN
      clear hN hP k01
      by_cases hql : q < ts.length - (i + 1)
      · have g1 : (i : Int) < (ts.length : Int) - 1 - q := by omega
        have e1 : ((ts.length : Int) - 1 - q).toNat = ts.length - 1 - q := by omega
        obtain ⟨b, off, rfl, hcell⟩ := ((SlI.rd HV.out (by omega)).keep0 HN.out.2.1).get (ts.length - 1 - q) (by omega)
        have hz := List.getD_eq_getElem?_getD (l := ts) (i := ts.length - 1 - q) (a := 0)
        have HT : Hid ((ts.drop (ts.length - (q + 1))).reverse = (ts.drop (ts.length - q)).reverse ++ [ts.getD (ts.length - 1 - q) 0]) := Lib.hid (by
          have e2 : ts.length - (q + 1) = ts.length - 1 - q := by omega
          rw [e2, List.drop_eq_getElem_cons (by omega), List.reverse_cons, show ts.length - 1 - q + 1 = ts.length - q by omega]
          simp [List.getD, List.getElem?_eq_getElem (show ts.length - 1 - q < ts.length by omega)])
        clear hz
        generalize ts.getD (ts.length - 1 - q) 0 = z at *
        go_wp2_with (at_builtin; refine wpList_appI rfl _ _ rfl _ (ts.drop (ts.length - q)).reverse rfl ?c1 _ z rfl ?c2 ?c3 ?_)
        case c1 => exact Sl.keep0 HN.out.1 (Fr.alloc _ _ _)
        case c2 => exact blk_new _ _
        case c3 => simp; omega
        intro v' w4 hs4 hf4 ho4
        have hP4 := hf4.blk (blk_old HP.out _) (fun e => Sl.ne HN.out.1 HP.out (by decide) e)
        go_wp2
        go_roundw
        case rel => exact ⟨q + 1, by omega, by rw [show (ts.length : Int) - 1 - q - 1 = (ts.length : Int) - 1 - (q + 1 : Nat) by omega], by rw [HT.out]; exact HN.out.app (Fr.alloc _ _ _) hs4 hf4 (by simpa using ho4), hP4⟩
        case measure => simp [intOf]; omega
      · have g1 : ¬ (i : Int) < (ts.length : Int) - 1 - q := by omega
        obtain rfl : q = ts.length - (i + 1) := by omega
        have HN' := HN.out
        rw [show ts.length - (ts.length - (i + 1)) = i + 1 by omega] at HN'
        have HN' := Lib.hid HN'
        go_wp2
        go_ret2
        exact ⟨_, rfl, HN'.out⟩

end Go.Proofs.Ytegoilhkooneaaa
