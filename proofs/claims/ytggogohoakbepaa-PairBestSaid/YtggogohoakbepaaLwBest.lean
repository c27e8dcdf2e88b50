/-
  The law PairBest, walked.
-/
import Derived.Test.YtggogohoakbepaaP7
namespace Go.Proofs.Ytggogohoakbepaa
open Go.RowKit Go.Sort
set_option linter.unusedVariables false
set_option linter.unusedSimpArgs false

set_option maxRecDepth 100000 in
set_option maxHeartbeats 2000000 in
theorem pairBest_row (w : World) (u v : Value) (ss gs : List Spot) (hu : RdS w u ss) (hv : RdS w v gs) :
    Calls Try.prog 4 #[u, v] w fun e w' => e = .returned (.bool true) ∧ Fr w w' No := by
  have l1 := hu.2
  have l2 := hv.2
  obtain ⟨a, c, rfl⟩ := hu.form
  obtain ⟨a', c', rfl⟩ := hv.form
  have HU := Lib.hid hu
  have HV := Lib.hid hv
  clear hu hv
  go_enter Try.func4, Try.ntmps4
  go_wp2_with fail
  refine (awake_any _).mono ?_
  rintro e w1 ⟨rfl, hf1⟩
  have HF := Lib.hid hf1
  clear hf1
  by_cases h100 : 100 < ss.length + gs.length
  · have hd : decide ((100 : Int) < (ss.length : Int) + (gs.length : Int)) = true := by simp; omega
    go_wp2_with fail
    refine (awake_any _).mono ?_
    rintro e w2 ⟨rfl, hf2⟩
    have HF2 := Lib.hid (HF.out.nn hf2)
    clear hf2
    go_wp2_with fail
    go_ret
    exact ⟨rfl, HF2.out⟩
  · have hd : decide ((100 : Int) < (ss.length : Int) + (gs.length : Int)) = false := by simp; omega
    have hcase : (4 < ss.length ∧ 4 < gs.length) ∨ (ss.length ≤ 4 ∧ ss.length < gs.length) ∨ (ss.length ≤ 4 ∧ gs.length < ss.length) ∨ (ss.length ≤ 4 ∧ ss.length = gs.length) ∨ (4 < ss.length ∧ gs.length ≤ 4) := by omega
    rcases hcase with ⟨c1, c2⟩ | hcase
    · have c3 : decide ((4 : Int) < (ss.length : Int)) = true := by simp; omega
      have c4 : decide ((4 : Int) < (gs.length : Int)) = true := by simp; omega
      by_cases c5 : gs.length < ss.length
      · go_wp2_with fail
        refine (awake_any _).mono ?_
        rintro e w2 ⟨rfl, hf2⟩
        have HF2 := Lib.hid (HF.out.nn hf2)
        clear hf2
        go_wp2_with fail
        go_ret
        exact ⟨rfl, HF2.out⟩
      · go_wp2_with fail
        refine (awake_any _).mono ?_
        rintro e w2 ⟨rfl, hf2⟩
        have HF2 := Lib.hid (HF.out.nn hf2)
        clear hf2
        go_wp2_with fail
        go_ret
        exact ⟨rfl, HF2.out⟩
    have hmin : (gs.length < ss.length ∧ decide ((4 : Int) < (gs.length : Int)) = false) ∨ (¬ gs.length < ss.length ∧ decide ((4 : Int) < (ss.length : Int)) = false) := by
      simp only [decide_eq_false_iff_not]; omega
    clear hcase
    rcases hmin with ⟨c1, c2⟩ | ⟨c1, c2⟩
    all_goals
      go_wp2_with fail
      refine (own_any _ ss _ (HU.out.keep0 HF.out)).mono ?_
      rintro e w2 ⟨v2, rfl, hN2⟩
      have HN2 := Lib.hid hN2
      have HF2 := Lib.hid (HF.out.nn hN2.2.1)
      clear hN2 HF
      go_wp2_with fail
      refine (own_any _ gs _ (HV.out.keep0 HF2.out)).mono ?_
      rintro e w3 ⟨v3, rfl, hN3⟩
      have HN3 := Lib.hid hN3
      have HN2' := Lib.hid (HN2.out.keep0 hN3.2.1)
      have HF3 := Lib.hid (HF2.out.nn hN3.2.1)
      clear hN3 HF2 HN2
      go_wp2_with fail
      refine (best_any _ _ ss gs _ (HN2'.out.rd (by omega)) (HN3.out.rd (by omega))).mono ?_
      rintro e w4 ⟨q4, rfl, hN4⟩
      have HN4 := Lib.hid hN4
      have HF4 := Lib.hid (HF3.out.nn hN4.2.1)
      have HN2'' := Lib.hid (HN2'.out.keep0 hN4.2.1)
      have HN3'' := Lib.hid (HN3.out.keep0 hN4.2.1)
      clear hN4 HF3 HN2' HN3
      go_wp2_with fail
      refine (ref_any _ ss _ (HU.out.keep0 HF4.out) (by omega)).mono ?_
      rintro e w6 ⟨v6, rfl, hN6⟩
      have HN6 := Lib.hid hN6
      have HF6 := Lib.hid (HF4.out.nn hN6.2.1)
      have HF46 := Lib.hid hN6.2.1
      clear hN6 HF4
      go_wp2_with fail
      refine (ref_any _ gs _ (HV.out.keep0 HF6.out) (by omega)).mono ?_
      rintro e w7 ⟨v7, rfl, hN7⟩
      have HN7 := Lib.hid hN7
      have HN6' := Lib.hid (HN6.out.keep0 hN7.2.1)
      have HF7 := Lib.hid (HF6.out.nn hN7.2.1)
      have HF47 := Lib.hid (HF46.out.nn hN7.2.1)
      clear hN7 HF6 HN6 HF46
      go_wp2_with fail
      refine (refBest_any _ _ ss gs _ (HN6'.out.rd (by omega)) (HN7.out.rd (by omega))).mono ?_
      rintro e w8 ⟨v8, rfl, hr8, hf8⟩
      have HF8 := Lib.hid (HF7.out.nn hf8)
      have HF48 := Lib.hid (HF47.out.nn hf8)
      have HR8 := Lib.hid hr8
      clear hr8 hf8 HF7 HN6' HN7 HF47
      have hq1 : (bestE ss gs == bestE ss gs) = true := by simp
      have hq2 : (bestN ss gs == bestN ss gs) = true := by simp
      have hblen : (bestL ss gs).length ≤ 100 := by
        unfold bestL
        split
        · rw [(Pr.best gs ss 0).len]; omega
        · simp
      have hn4 := SlI.rd (zs := bestL ss gs) (Sl.keep0 HN4.out.1 HF48.out) (by omega)
      have HI4 := Lib.hid hn4
      clear hn4
      go_wp2_with fail
      clear hq1 hq2
      refine (ints_true _ _ (bestL ss gs) _ HI4.out HR8.out).mono ?_
      rintro e w9 ⟨rfl, hf9⟩
      have HF9 := Lib.hid (HF8.out.nn hf9)
      have HF49 := Lib.hid (HF48.out.nn hf9)
      clear hf9 HF8 HF48 HI4 HR8
      go_wp2_with fail
      refine (same_true _ _ ss _ ((HN2''.out.rd (by omega)).keep0 HF49.out) (HU.out.keep0 HF9.out)).mono ?_
      rintro e w10 ⟨rfl, hf10⟩
      have HF10 := Lib.hid (HF9.out.nn hf10)
      have HF410 := Lib.hid (HF49.out.nn hf10)
      clear hf10 HF9 HF49
      go_wp2_with fail
      refine (same_true _ _ gs _ ((HN3''.out.rd (by omega)).keep0 HF410.out) (HV.out.keep0 HF10.out)).mono ?_
      rintro e w11 ⟨rfl, hf11⟩
      have HF11 := Lib.hid (HF10.out.nn hf11)
      clear hf11 HF10 HF410
      go_wp2_with fail
      go_ret
      exact ⟨rfl, HF11.out⟩

/-- As the row wants it. -/
theorem pairBest_all (w : World) (u : Value) (n1 : Nat) (f1 : List Int) (h1 : Rd w u n1 (f1.map (Value.int .i64)) 2) (b1 : n1 ≤ 8796093022207) (v : Value) (n2 : Nat) (f2 : List Int) (h2 : Rd w v n2 (f2.map (Value.int .i64)) 2) (b2 : n2 ≤ 8796093022207) :
    Calls Try.prog 4 #[u, v] w fun e w' => e = .returned (.bool true) ∧ Fr w w' No := by
  obtain ⟨ss, hs, _⟩ := Rd.spots h1 b1
  obtain ⟨gs, hg, _⟩ := Rd.spots h2 b2
  exact pairBest_row w u v ss gs hs hg
end Go.Proofs.Ytggogohoakbepaa
