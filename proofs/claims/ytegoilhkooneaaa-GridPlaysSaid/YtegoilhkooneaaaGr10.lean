/-
  Package grid: the contracts at given answers; the laws' fixed fact.
-/
import Derived.Test.YtegoilhkooneaaaGr9
namespace Go.Proofs.Ytegoilhkooneaaa
open Go.RowKit Go.Sort
set_option linter.unusedVariables false
set_option linter.unusedSimpArgs false

theorem put_is {a w : World} {p : Nat} {gs : List Nat} {R : List Lan} (t i E : Int) (R' : List Lan) (h : NewR a w p gs R) (h1 : putI R t = i) (h2 : putE R t = E) (h3 : putR R t = R') :
    Calls Try.prog 30 #[.pointer (some ⟨p, 0, none⟩), .int .i64 t] w fun e w' => e = .returned (.tuple #[.int .i64 i, .int .i64 E]) ∧ NewR a w' p gs R' := by
  subst h1; subst h2; subst h3
  exact (put_any p gs R t w h.rack).mono (by rintro e w' ⟨rfl, hr, hf⟩; exact ⟨rfl, h.into hr hf⟩)
theorem do_is {a w : World} {p : Nat} {gs : List Nat} {R : List Lan} (t f o E : Int) (R' : List Lan) (h : NewR a w p gs R) (h2 : doE R t f o = E) (h3 : doR R t f o = R') :
    Calls Try.prog 33 #[.pointer (some ⟨p, 0, none⟩), .agg #[.int .i64 t, .int .i64 f, .int .i64 o]] w fun e w' => e = .returned (.int .i64 E) ∧ NewR a w' p gs R' := by
  subst h2; subst h3
  exact (do_any p gs R t f o w h.rack).mono (by rintro e w' ⟨rfl, hr, hf⟩; exact ⟨rfl, h.into hr hf⟩)
/-- What a plan gives. -/
def PlanIs (a w : World) (p : Nat) (gs : List Nat) (R : List Lan) (E : Int) (L : List Mv) (e : Ending) (w' : World) : Prop := ∃ v, e = .returned (.tuple #[v, .int .i64 E]) ∧ NewM 62 w w' v L ∧ NewR a w' p gs R
theorem plan_is {a w : World} {p : Nat} {gs : List Nat} {R : List Lan} (t E : Int) (L : List Mv) (h : NewR a w p gs R) (h2 : planE R t = E) (h3 : planL R t = L) :
    Calls Try.prog 32 #[.pointer (some ⟨p, 0, none⟩), .int .i64 t] w fun e w' => PlanIs a w p gs R E L e w' := by
  subst h2; subst h3
  exact (plan_any t h.rack).mono (by rintro e w' ⟨v, rfl, hn⟩; exact ⟨v, rfl, hn, h.keep0 hn.2.1⟩)

set_option maxRecDepth 100000 in
set_option maxHeartbeats 1000000 in
theorem awakeG_any (w : World) : Calls Try.prog 28 #[] w fun e w' => e = .returned (.bool true) ∧ Fr w w' No := by
  have hi : RdI (w.alloc (.cells #[.int .i64 2, .int .i64 1] 3)) (.slice (some ⟨w.heap.size, 0, none⟩) 2 2) [2, 1] := by
    have h := Sl.made (k := 1) (blk_new w (.cells #[.int .i64 2, .int .i64 1] 3)) (n := 2) (by simp) (by decide)
    exact ⟨Sl.rd h, by decide⟩
  go_enter Try.func28, Try.ntmps28
  go_wp2_with fail
  refine (newG_ok _ [2, 1] _ hi (by decide)).mono ?_
  rintro e w1 ⟨p, gs, rfl, hN1⟩
  have HN1 := Lib.hid (hN1.from (Fr.alloc _ _ No))
  clear hN1 hi
  go_wp2_with fail
  refine (put_is 1 0 0 [(2, [1]), (1, [])] HN1.out (by decide) (by decide) (by decide)).mono ?_
  rintro e w2 ⟨rfl, hN2⟩
  go_wp2_with fail
  refine (put_is 2 1 0 [(2, [1]), (1, [2])] hN2 (by decide) (by decide) (by decide)).mono ?_
  rintro e w3 ⟨rfl, hN3⟩
  go_wp2_with fail
  refine (put_is 3 0 0 [(2, [1, 3]), (1, [2])] hN3 (by decide) (by decide) (by decide)).mono ?_
  rintro e w4 ⟨rfl, hN4⟩
  go_wp2_with fail
  refine (plan_is 1 5 [] hN4 (by decide) (by decide)).mono ?_
  rintro e w5 ⟨v5, rfl, _, hN5⟩
  go_wp2_with fail
  refine (do_is 2 1 (-1) 0 [(2, [1, 3]), (1, [])] hN5 (by decide) (by decide)).mono ?_
  rintro e w6 ⟨rfl, hN6⟩
  go_wp2_with fail
  refine (plan_is 1 0 [(3, 0, 1), (1, 0, -1)] hN6 (by decide) (by decide)).mono ?_
  rintro e w7 ⟨v7, rfl, hM7, hN7⟩
  obtain ⟨a7, c7, rfl⟩ := hM7.form
  obtain ⟨b7, o7, rfl, h1, h2, h3⟩ := hM7.1.at_ 0 (by decide)
  have HN7 := Lib.hid hN7
  clear hM7 hN7 hN2 hN3 hN4 hN5 hN6
  simp only [List.getD_cons_zero, Nat.zero_mul, Nat.add_zero] at h1 h2 h3
  go_wp2
  go_ret
  exact ⟨rfl, HN7.out.fr⟩
end Go.Proofs.Ytegoilhkooneaaa
