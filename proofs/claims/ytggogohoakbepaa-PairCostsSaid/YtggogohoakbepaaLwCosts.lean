/-
  The law PairCosts, walked.
-/
import Derived.Test.YtggogohoakbepaaP6
namespace Go.Proofs.Ytggogohoakbepaa
open Go.RowKit Go.Sort
set_option linter.unusedVariables false
set_option linter.unusedSimpArgs false

set_option maxRecDepth 100000 in
set_option maxHeartbeats 2000000 in
theorem pairCosts_row (w : World) (u v x : Value) (ss gs : List Spot) (ps : List Int) (hu : RdS w u ss) (hv : RdS w v gs) (hx : RdI w x ps) :
    Calls Try.prog 8 #[u, v, x] w fun e w' => e = .returned (.bool true) ∧ Fr w w' No := by
  have l1 := hu.2
  have l2 := hv.2
  have l3 := hx.2
  obtain ⟨a, c, rfl⟩ := hu.form
  obtain ⟨a', c', rfl⟩ := hv.form
  obtain ⟨a2, c2, rfl, _⟩ := hx.open_
  have HU := Lib.hid hu
  have HV := Lib.hid hv
  have HX := Lib.hid hx
  clear hu hv hx
  go_enter Try.func8, Try.ntmps8
  go_wp2_with fail
  refine (awake_any _).mono ?_
  rintro e w1 ⟨rfl, hf1⟩
  have HF := Lib.hid hf1
  clear hf1
  by_cases h100 : 100 < ss.length + gs.length + ps.length
  · have hd : decide ((100 : Int) < (ss.length : Int) + (gs.length : Int) + (ps.length : Int)) = true := by simp; omega
    go_wp2_with fail
    refine (awake_any _).mono ?_
    rintro e w2 ⟨rfl, hf2⟩
    have HF2 := Lib.hid (HF.out.nn hf2)
    clear hf2
    go_wp2_with fail
    go_ret
    exact ⟨rfl, HF2.out⟩
  · have hd : decide ((100 : Int) < (ss.length : Int) + (gs.length : Int) + (ps.length : Int)) = false := by simp; omega
    go_wp2_with fail
    refine (own_any _ ss _ (HU.out.keep0 HF.out)).mono ?_
    rintro e w2 ⟨v2, rfl, hN2⟩
    have HN2 := Lib.hid hN2
    have HF2 := Lib.hid (HF.out.nn hN2.2.1)
    clear hN2 HF
    go_wp2_with fail
    refine (own_any _ gs _ (HV.out.keep0 HF2.out)).mono ?_
    rintro e w3 ⟨v3, rfl, hN3⟩
    have HN3 := Lib.hid hN3
    have HN2' := Lib.hid (HN2.out.keep0 hN3.2.1)
    have HF3 := Lib.hid (HF2.out.nn hN3.2.1)
    clear hN3 HF2 HN2
    go_wp2_with (at_builtin; refine wpList_appS rfl (.tmp 30) (.tmp 31) rfl (.slice (some ⟨w3.heap.size, 0, none⟩) 0 0) [] rfl ?c1 (.slice a2 ps.length c2) ps rfl ?c2 ?c3 ?_)
    case c1 => exact Sl.made (cs := #[]) (blk_new _ _) rfl (by decide)
    case c2 => exact (HX.out.keep0 HF3.out).keep0 (Fr.alloc _ _ _)
    case c3 => simp; omega
    intro v4 w4 h1 h2 h3
    obtain ⟨hN4, hf4, hg4⟩ := NewI.app0 (a := w3) (w := w3) (Fr.refl _ No) (by simpa using h1) h2 (by simpa using h3)
    have HN4 := Lib.hid hN4
    have HF4 := Lib.hid (HF3.out.nn hf4)
    have HN2'' := Lib.hid (HN2'.out.keep0 hf4)
    have HN3'' := Lib.hid (HN3.out.keep0 hf4)
    clear h1 h2 h3 hN4 hf4 hg4 HF3 HN2' HN3
    go_wp2_with fail
    refine (cost_any _ _ _ ss gs ps _ (HN2''.out.rd (by omega)) (HN3''.out.rd (by omega)) (SlI.rd HN4.out.1 (by omega)) (SlI.capOk HN4.out.1)).mono ?_
    rintro e w5 ⟨rfl, hf5⟩
    have HF5 := Lib.hid (HF4.out.nn hf5)
    clear hf5 HF4 HN4 HN2'' HN3''
    go_wp2_with fail
    refine (ref_any _ ss _ (HU.out.keep0 HF5.out) (by omega)).mono ?_
    rintro e w6 ⟨v6, rfl, hN6⟩
    have HN6 := Lib.hid hN6
    have HF6 := Lib.hid (HF5.out.nn hN6.2.1)
    clear hN6 HF5
    go_wp2_with fail
    refine (ref_any _ gs _ (HV.out.keep0 HF6.out) (by omega)).mono ?_
    rintro e w7 ⟨v7, rfl, hN7⟩
    have HN7 := Lib.hid hN7
    have HN6' := Lib.hid (HN6.out.keep0 hN7.2.1)
    have HF7 := Lib.hid (HF6.out.nn hN7.2.1)
    clear hN7 HF6 HN6
    go_wp2_with fail
    refine (refCost_any _ _ _ ss gs ps _ (HN6'.out.rd (by omega)) (HN7.out.rd (by omega)) (HX.out.keep0 HF7.out)).mono ?_
    rintro e w8 ⟨rfl, hf8⟩
    have HF8 := Lib.hid (HF7.out.nn hf8)
    clear hf8 HF7 HN6' HN7
    have hq1 : ((costA ss gs ps).1 == (costA ss gs ps).1) = true := by simp
    have hq2 : ((costA ss gs ps).2 == (costA ss gs ps).2) = true := by simp
    go_wp2_with fail
    go_ret
    exact ⟨rfl, HF8.out⟩

/-- As the row wants it. -/
theorem pairCosts_all (w : World) (u : Value) (n1 : Nat) (f1 : List Int) (h1 : Rd w u n1 (f1.map (Value.int .i64)) 2) (b1 : n1 ≤ 8796093022207) (v : Value) (n2 : Nat) (f2 : List Int) (h2 : Rd w v n2 (f2.map (Value.int .i64)) 2) (b2 : n2 ≤ 8796093022207)
    (x : Value) (ps : List Int) (h3 : RdI w x ps) :
    Calls Try.prog 8 #[u, v, x] w fun e w' => e = .returned (.bool true) ∧ Fr w w' No := by
  obtain ⟨ss, hs, _⟩ := Rd.spots h1 b1
  obtain ⟨gs, hg, _⟩ := Rd.spots h2 b2
  exact pairCosts_row w u v x ss gs ps hs hg h3
end Go.Proofs.Ytggogohoakbepaa
