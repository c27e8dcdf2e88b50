/-
  Package grid: Do.
-/
import Derived.Test.YtegoilhkooneaaaGr5
namespace Go.Proofs.Ytegoilhkooneaaa
open Go.RowKit Go.Sort
set_option linter.unusedVariables false
set_option linter.unusedSimpArgs false

/-- Is a move out of range? -/
def badM (n : Nat) (f o : Int) : Prop := f < 0 ∨ (n : Int) ≤ f ∨ o < -1 ∨ (n : Int) ≤ o ∨ f = o
instance (n : Nat) (f o : Int) : Decidable (badM n f o) := by unfold badM; exact inferInstance

set_option maxHeartbeats 2000000 in
theorem do_bad (p : Nat) (gs : List Nat) (R : List Lan) (t f o : Int) (w : World) (hR : RackAt w p gs R) (hb : badM R.length f o) :
    Calls Try.prog 33 #[.pointer (some ⟨p, 0, none⟩), .agg #[.int .i64 t, .int .i64 f, .int .i64 o]] w fun e w' => e = .returned (.int .i64 1) ∧ Fr w w' No := by
  obtain ⟨a, c, h1, h2⟩ := hR.open_
  have hcase : (f < 0) ∨ (¬ f < 0 ∧ (R.length : Int) ≤ f) ∨ (¬ f < 0 ∧ ¬ (R.length : Int) ≤ f ∧ o < -1) ∨ (¬ f < 0 ∧ ¬ (R.length : Int) ≤ f ∧ ¬ o < -1 ∧ (R.length : Int) ≤ o) ∨ (¬ f < 0 ∧ ¬ (R.length : Int) ≤ f ∧ ¬ o < -1 ∧ ¬ (R.length : Int) ≤ o ∧ (f == o) = true) := by
    unfold badM at hb
    simp only [beq_iff_eq]
    omega
  have h1' := (Fr.alloc w (.cells #[.int .i64 t, .int .i64 f, .int .i64 o] 62) No).cell h1 id
  clear hb h2 hR
  rcases hcase with c1 | ⟨c1, c2⟩ | ⟨c1, c2, c3⟩ | ⟨c1, c2, c3, c4⟩ | ⟨c1, c2, c3, c4, c5⟩
  all_goals
    go_enter Try.func33, Try.ntmps33
    go_wp2_with fail
    go_ret
    exact ⟨rfl, Fr.alloc _ _ _⟩

set_option maxHeartbeats 2000000 in
theorem do_tote (p : Nat) (gs : List Nat) (R : List Lan) (t o : Int) (f : Nat) (w : World) (hR : RackAt w p gs R) (hb : ¬ badM R.length f o) (ht : (lan R f).2.getLast? ≠ some t) :
    Calls Try.prog 33 #[.pointer (some ⟨p, 0, none⟩), .agg #[.int .i64 t, .int .i64 f, .int .i64 o]] w fun e w' => e = .returned (.int .i64 160) ∧ Fr w w' No := by
  obtain ⟨a, c, h1, h2⟩ := hR.open_
  have c1 : ¬ (f : Int) < 0 := by omega
  have c2 : ¬ (R.length : Int) ≤ (f : Int) := by unfold badM at hb; omega
  have c3 : ¬ o < -1 := by unfold badM at hb; omega
  have c4 : ¬ (R.length : Int) ≤ o := by unfold badM at hb; omega
  have c5 : ((f : Int) == o) = false := by unfold badM at hb; simp only [beq_eq_false_iff_ne]; omega
  have hf : f < R.length := by omega
  have h1' := (Fr.alloc w (.cells #[.int .i64 t, .int .i64 f, .int .i64 o] 62) No).cell h1 id
  have h8 : (lan R f).2.length ≤ 8 := by have h := hR.lane f hf; obtain ⟨q1, q2, q3, _⟩ := h; unfold lan; omega
  have HR := Lib.hid hR
  have HF := Lib.hid hf
  have HT := Lib.hid ht
  clear hb h2 hR hf ht
  go_enter Try.func33, Try.ntmps33
  go_wp2_with fail
  refine (laneG_in p gs R f _ (HR.out.keep0 (Fr.alloc _ _ _)) HF.out).mono ?_
  rintro e w1 ⟨v, rfl, hN⟩
  obtain ⟨a6, c6, hv⟩ := slv_form hN.1
  subst hv
  have k0 : w1.cell? ⟨w.heap.size, 0, none⟩ = some (.int .i64 t) := hN.2.1.cell (blk_cell (blk_new w (.cells #[.int .i64 t, .int .i64 f, .int .i64 o] 62)) 0) id
  have hfr := (Fr.alloc w (.cells #[.int .i64 t, .int .i64 f, .int .i64 o] 62) No).nn hN.2.1
  have HFR := Lib.hid hfr
  have HN := Lib.hid hN
  clear hN hfr h1 h1'
  rcases List.eq_nil_or_concat (lan R f).2 with hT | ⟨T, x, hT⟩
  · rw [hT] at HN h8 ⊢
    simp only [List.length_nil] at HN ⊢
    go_wp2_with fail
    go_quiet (fail)
    have HF3 := Lib.hid (HFR.out.to_drewN nq)
    go_wp2_with fail
    go_ret
    exact ⟨rfl, HF3.out⟩
  · rw [List.concat_eq_append] at hT
    have hx : x ≠ t := fun e => HT.out (by rw [hT, e]; simp)
    have hlast : (lan R f).2.getD ((lan R f).2.length - 1) 0 = x := by rw [hT]; simp [List.getD]
    have hlen : (lan R f).2.length = T.length + 1 := by rw [hT]; simp
    obtain ⟨b6, o6, hb6, kc⟩ := (SlI.rd HN.out.1 (by omega)).get (T.length) (by omega)
    subst hb6
    have e1 : (lan R f).2.getD T.length 0 = x := by rw [← hlast, hlen]; simp
    rw [e1] at kc
    rw [hlen] at HN h8 ⊢
    have hxt : (x == t) = false := by simpa using hx
    have hxt' : (x != t) = true := by simpa using hx
    have hw : IntKind.i64.wrap ((T.length : Int) + 1 - 1) = (T.length : Int) := by rw [IntWalk.i64_in _ (by omega)]; omega
    have q0 : ((T.length : Int) + 1 == 0) = false := beq_eq_false_iff_ne.2 (by omega)
    have q1 : (0 : Int) ≤ (T.length : Int) := by omega
    have q2 : (T.length : Int) < (T.length : Int) + 1 := by omega
    have q3 : T.length < T.length + 1 := by omega
    clear hx hlast hlen e1
    go_wp2_with fail
    go_quiet (fail)
    have HF3 := Lib.hid (HFR.out.to_drewN nq)
    go_wp2_with fail
    go_ret
    exact ⟨rfl, HF3.out⟩
end Go.Proofs.Ytegoilhkooneaaa
