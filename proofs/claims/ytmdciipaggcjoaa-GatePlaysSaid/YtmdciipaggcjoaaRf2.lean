/-
  The document's gate: Cancel, Accept, Arrive, Leave.
-/
import Derived.Test.YtmdciipaggcjoaaRf
namespace Go.Proofs.Ytmdciipaggcjoaa
open Go.RowKit Go.Conc
set_option linter.unusedVariables false
set_option linter.unusedSimpArgs false

theorem cells_three {w : World} {g : Nat} {a b c : Value} {t : TypeId} {fr : Nat × Nat} (h : w.heap[g]? = some (.cells #[a, b, c] t fr)) : w.cell? ⟨g, 0, none⟩ = some a ∧ w.cell? ⟨g, 1, none⟩ = some b ∧ w.cell? ⟨g, 2, none⟩ = some c := ⟨blk_cell h 0, blk_cell h 1, blk_cell h 2⟩
theorem frz_three {w : World} {g : Nat} {cs : Array Value} {t : TypeId} (h : w.heap[g]? = some (.cells cs t (0, 0))) : w.frozen? ⟨g, 0, none⟩ = false ∧ w.frozen? ⟨g, 1, none⟩ = false ∧ w.frozen? ⟨g, 2, none⟩ = false := ⟨blk_frozen h 0, blk_frozen h 1, blk_frozen h 2⟩
theorem sl_far {w w' : World} {b : Nat} {cs : Array Value} {t : TypeId} {fr : Nat × Nat} {v : Value} {zs : List Int} (h : SlI w v zs) (hb : w.heap[b]? = some (.cells cs t fr)) (ht : t ≠ 3) (hf : Fr w w' (One b)) : SlI w' v zs :=
  h.keep hf (fun g e e' => Sl.ne h hb ht (by rw [e, show g = b from e']))

set_option maxRecDepth 100000 in
set_option maxHeartbeats 2000000 in
theorem refCan_any (w : World) (d : Nat) (vW vI : Value) (W I : List Int) (id : Int) (hW : SlI w vW W) (hI : SlI w vI I) (hl : W.length + I.length ≤ 64) (hd : d ≤ 16) :
    Calls Try.prog 20 #[.agg #[.int .i64 d, vW, vI], .int .i64 id] w fun e w' => RefG d vW vI (canW W I id) I (lookE W I id) w e w' := by
  obtain ⟨aW, cW, rfl⟩ := slv_form hW
  obtain ⟨aI, cI, rfl⟩ := slv_form hI
  have HW := Lib.hid hW
  have HI := Lib.hid hI
  clear hW hI
  have hge := idx_ge id W
  have hlt := idx_lt id W
  by_cases c1 : has id I = true
  · have e1 : lookE W I id = 140 := by unfold lookE; rw [if_pos c1]
    have e2 : canW W I id = W := by unfold canW; rw [e1]; rfl
    rw [e1, e2]
    have c1' : 0 ≤ idx id I := by simpa [has] using c1
    clear e1 e2 c1
    go_enter Try.func20, Try.ntmps20
    go_wp2_with fail
    obtain ⟨q0, q1, hq, hqs⟩ := two_blk w (.cells #[.int .i64 d, .slice aW W.length cW, .slice aI I.length cI] 42) (.cells #[.int .i64 0, .slice none 0 0, .slice none 0 0] 42)
    generalize (w.alloc (.cells #[.int .i64 d, .slice aW W.length cW, .slice aI I.length cI] 42)).alloc (.cells #[.int .i64 0, .slice none 0 0, .slice none 0 0] 42) = w1 at *
    refine (at_any _ I id w1 (SlI.rd (HI.out.keep0 hq) (by omega))).mono ?_
    rintro e w2 ⟨rfl, rfl⟩
    obtain ⟨k00, k01, k02⟩ := cells_three q0
    obtain ⟨k10, k11, k12⟩ := cells_three q1
    obtain ⟨z10, z11, z12⟩ := frz_three q1
    have Q1 := Lib.hid q1
    have HQ := Lib.hid hq
    clear q0 q1 hq hqs
    go_wp2
    obtain ⟨w5, hw5, s0, s1, s2, hf5, hf5'⟩ := three_end (x := .int .i64 d) (y := .slice aW W.length cW) (z := .slice aI I.length cI) Q1.out rfl (by omega) HQ.out
    rw [← hw5]
    refine bodyPost_ret (v := .tuple #[.agg #[.int .i64 d, .slice aW W.length cW, .slice aI I.length cI], .int .i64 140]) (by simp [results, Try.results20, go_sem, s0, s1, s2]) rfl ⟨_, _, rfl, HW.out.keep0 hf5, HI.out.keep0 hf5, hf5, .inl rfl, .inl rfl⟩
  · have c1' : ¬ 0 ≤ idx id I := by simpa [has] using c1
    by_cases c2 : idx id W < 0
    · have e1 : lookE W I id = 4 := by unfold lookE; rw [if_neg c1, if_pos c2]
      have e2 : canW W I id = W := by unfold canW; rw [e1]; rfl
      rw [e1, e2]
      clear e1 e2 c1
      go_enter Try.func20, Try.ntmps20
      go_wp2_with fail
      obtain ⟨q0, q1, hq, hqs⟩ := two_blk w (.cells #[.int .i64 d, .slice aW W.length cW, .slice aI I.length cI] 42) (.cells #[.int .i64 0, .slice none 0 0, .slice none 0 0] 42)
      generalize (w.alloc (.cells #[.int .i64 d, .slice aW W.length cW, .slice aI I.length cI] 42)).alloc (.cells #[.int .i64 0, .slice none 0 0, .slice none 0 0] 42) = w1 at *
      refine (at_any _ I id w1 (SlI.rd (HI.out.keep0 hq) (by omega))).mono ?_
      rintro e w2 ⟨rfl, rfl⟩
      obtain ⟨k00, k01, k02⟩ := cells_three q0
      obtain ⟨k10, k11, k12⟩ := cells_three q1
      obtain ⟨z10, z11, z12⟩ := frz_three q1
      have Q1 := Lib.hid q1
      have HQ := Lib.hid hq
      clear q0 q1 hq hqs
      go_wp2_with fail
      refine (at_any _ W id w1 (SlI.rd (HW.out.keep0 HQ.out) (by omega))).mono ?_
      rintro e w2 ⟨rfl, rfl⟩
      go_wp2
      obtain ⟨w5, hw5, s0, s1, s2, hf5, hf5'⟩ := three_end (x := .int .i64 d) (y := .slice aW W.length cW) (z := .slice aI I.length cI) Q1.out rfl (by omega) HQ.out
      rw [← hw5]
      refine bodyPost_ret (v := .tuple #[.agg #[.int .i64 d, .slice aW W.length cW, .slice aI I.length cI], .int .i64 4]) (by simp [results, Try.results20, go_sem, s0, s1, s2]) rfl ⟨_, _, rfl, HW.out.keep0 hf5, HI.out.keep0 hf5, hf5, .inl rfl, .inl rfl⟩
    · have e1 : lookE W I id = 0 := by unfold lookE; rw [if_neg c1, if_neg c2]
      obtain ⟨i, hi⟩ : ∃ i : Nat, idx id W = i := ⟨(idx id W).toNat, by omega⟩
      have e2 : canW W I id = W.eraseIdx i := by unfold canW; rw [if_pos e1, hi]; simp
      rw [e1, e2]
      have hil : i < W.length := by omega
      have HE := Lib.hid hi
      rw [hi] at c2
      clear e1 e2 c1 hi hge hlt
      go_enter Try.func20, Try.ntmps20
      go_wp2_with fail
      obtain ⟨q0, q1, hq, hqs⟩ := two_blk w (.cells #[.int .i64 d, .slice aW W.length cW, .slice aI I.length cI] 42) (.cells #[.int .i64 0, .slice none 0 0, .slice none 0 0] 42)
      generalize (w.alloc (.cells #[.int .i64 d, .slice aW W.length cW, .slice aI I.length cI] 42)).alloc (.cells #[.int .i64 0, .slice none 0 0, .slice none 0 0] 42) = w1 at *
      refine (at_any _ I id w1 (SlI.rd (HI.out.keep0 hq) (by omega))).mono ?_
      rintro e w2 ⟨rfl, rfl⟩
      obtain ⟨k00, k01, k02⟩ := cells_three q0
      have Q0 := Lib.hid q0
      have Q1 := Lib.hid q1
      have HQ := Lib.hid hq
      clear q0 q1 hq hqs
      go_wp2_with fail
      refine (at_any _ W id w1 (SlI.rd (HW.out.keep0 HQ.out) (by omega))).mono ?_
      rw [HE.out]
      rintro e w2 ⟨rfl, rfl⟩
      go_wp2_with fail
      refine (without_any _ W i w1 (HW.out.keep0 HQ.out) hil (by omega)).mono ?_
      rintro e w3 ⟨v', rfl, hN⟩
      obtain ⟨a', c', hv'⟩ := slv_form hN.1
      generalize hn' : (W.eraseIdx i).length = n' at hv'
      subst hv'
      have r0 := hN.2.1.blk Q0.out (fun h => h)
      have r1 := hN.2.1.blk Q1.out (fun h => h)
      obtain ⟨k00, k01, k02⟩ := cells_three r0
      obtain ⟨k10, k11, k12⟩ := cells_three r1
      obtain ⟨z00, z01, z02⟩ := frz_three r0
      obtain ⟨z10, z11, z12⟩ := frz_three r1
      have R0 := Lib.hid r0
      have R1 := Lib.hid r1
      have HF3 := Lib.hid (HQ.out.nn hN.2.1)
      have HN1 := Lib.hid hN.1
      have HN3 := Lib.hid hN.2.2
      have HI3 := Lib.hid ((HI.out.keep0 HQ.out).keep0 hN.2.1)
      clear r0 r1 hN
      go_wp2
      have hb4 := blk_far (p := ⟨w.heap.size, 1, none⟩) R1.out (by simp) (.slice a' n' c')
      have hf4 := HF3.out.to_new ⟨w.heap.size, 1, none⟩ (.slice a' n' c') (by simp)
      have hs4 := Fr.setCell w3 ⟨w.heap.size, 1, none⟩ (.slice a' n' c')
      obtain ⟨w5, hw5, s0, s1, s2, hf5, hf5'⟩ := three_end (x := .int .i64 d) (y := .slice a' n' c') (z := .slice aI I.length cI) hb4 rfl (by omega) hf4
      rw [← hw5]
      refine bodyPost_ret (v := .tuple #[.agg #[.int .i64 d, .slice a' n' c', .slice aI I.length cI], .int .i64 0]) (by simp [results, Try.results20, go_sem, s0, s1, s2]) rfl ⟨_, _, rfl, ?_, ?_, hf5, .inr (fun k hk => ?_), .inl rfl⟩
      · have := sl_far HN1.out R0.out (by decide) hs4
        exact sl_far this hb4 (by decide) hf5'
      · have := sl_far HI3.out R0.out (by decide) hs4
        exact sl_far this hb4 (by decide) hf5'
      · exact Nat.le_trans HQ.out.size (HN3.out k hk)

theorem has_idx {id : Int} {l : List Int} (h : has id l = true) : 0 ≤ idx id l := by simpa [has] using h
theorem has_idx' {id : Int} {l : List Int} (h : ¬ has id l = true) : ¬ 0 ≤ idx id l := by simpa [has] using h

set_option maxRecDepth 100000 in
set_option maxHeartbeats 2000000 in
theorem refLea_any (w : World) (d : Nat) (vW vI : Value) (W I : List Int) (hW : SlI w vW W) (hI : SlI w vI I) (hl : W.length + I.length ≤ 64) :
    Calls Try.prog 22 #[.agg #[.int .i64 d, vW, vI]] w fun e w' => ∃ vW' vI', e = .returned (.tuple #[.agg #[.int .i64 d, vW', vI'], .int .i64 (leaX I), .int .i64 (leaE I)]) ∧ SlI w' vW' W ∧ SlI w' vI' I.tail ∧ Fr w w' No ∧ Kept w vW vW' ∧ Kept w vI vI' := by
  obtain ⟨aW, cW, rfl⟩ := slv_form hW
  have HW := Lib.hid hW
  have HI := Lib.hid hI
  cases I with
  | nil =>
    obtain ⟨aI, cI, rfl⟩ := slv_form hI
    have e1 : leaX [] = 0 := rfl
    have e2 : leaE [] = 4 := rfl
    rw [e1, e2]
    simp only [List.length_nil] at HI ⊢
    clear hW hI e1 e2
    go_enter Try.func22, Try.ntmps22
    go_wp2_with fail
    have hf := (Fr.alloc w (.cells #[.int .i64 d, .slice aW W.length cW, .slice aI 0 cI] 42) No).to_alloc (.cells #[.int .i64 d, .slice aW W.length cW, .slice aI 0 cI] 42)
    refine bodyPost_ret (v := .tuple #[.agg #[.int .i64 d, .slice aW W.length cW, .slice aI 0 cI], .int .i64 0, .int .i64 4]) (by simp [results, Try.results22, go_sem]) rfl ⟨_, _, rfl, HW.out.keep0 hf, HI.out.keep0 hf, hf, .inl rfl, .inl rfl⟩
  | cons x I =>
    obtain ⟨g, off, cI, rfl⟩ := slv_cons hI
    have e1 : leaX (x :: I) = x := rfl
    have e2 : leaE (x :: I) = 0 := by simp [leaE]
    rw [e1, e2]
    simp only [List.length_cons] at hl
    have hc0 : w.cell? ⟨g, off, none⟩ = some (.int .i64 x) := by
      have h := (SlI.rd hI (by simp; omega))
      obtain ⟨⟨_, a', c', hv, _, hs⟩, _⟩ := h
      cases hv
      obtain ⟨b, o, hb, hc⟩ := hs (by simp)
      cases hb
      exact hc 0 _ (by simp)
    have hc1 := ((Fr.alloc w (.cells #[.int .i64 d, .slice aW W.length cW, .slice (some ⟨g, off, none⟩) (I.length + 1) cI] 42) No).to_alloc (.cells #[.int .i64 0, .slice none 0 0, .slice none 0 0] 42)).cell hc0 (fun h => h)
    clear hW hI e1 e2 hc0
    go_enter Try.func22, Try.ntmps22
    go_wp2_with fail
    obtain ⟨q0, q1, hq, hqs⟩ := two_blk w (.cells #[.int .i64 d, .slice aW W.length cW, .slice (some ⟨g, off, none⟩) (I.length + 1) cI] 42) (.cells #[.int .i64 0, .slice none 0 0, .slice none 0 0] 42)
    generalize (w.alloc (.cells #[.int .i64 d, .slice aW W.length cW, .slice (some ⟨g, off, none⟩) (I.length + 1) cI] 42)).alloc (.cells #[.int .i64 0, .slice none 0 0, .slice none 0 0] 42) = w1 at *
    have Q0 := Lib.hid q0
    have Q1 := Lib.hid q1
    have HQ := Lib.hid hq
    have HI' : Hid (SlI w (.slice (some ⟨g, off, none⟩) (I.length + 1) cI) (x :: I)) := HI
    clear q0 q1 hq hqs hc1
    refine (without_any _ (x :: I) 0 w1 (HI'.out.keep0 HQ.out) (by simp) (by simp; omega)).mono ?_
    rintro e w3 ⟨v', rfl, hN⟩
    simp only [List.eraseIdx_cons_zero] at hN
    obtain ⟨a', c', hv'⟩ := slv_form hN.1
    generalize hn' : I.length = n' at hv'
    subst hv'
    have r0 := hN.2.1.blk Q0.out (fun h => h)
    have r1 := hN.2.1.blk Q1.out (fun h => h)
    obtain ⟨k00, k01, k02⟩ := cells_three r0
    obtain ⟨k10, k11, k12⟩ := cells_three r1
    obtain ⟨z00, z01, z02⟩ := frz_three r0
    obtain ⟨z10, z11, z12⟩ := frz_three r1
    have R0 := Lib.hid r0
    have R1 := Lib.hid r1
    have HF3 := Lib.hid (HQ.out.nn hN.2.1)
    have HN1 := Lib.hid hN.1
    have HN3 := Lib.hid hN.2.2
    have HW3 := Lib.hid ((HW.out.keep0 HQ.out).keep0 hN.2.1)
    clear r0 r1 hN hn'
    go_wp2
    have hb4 := blk_far (p := ⟨w.heap.size, 2, none⟩) R1.out (by simp) (.slice a' n' c')
    have hf4 := HF3.out.to_new ⟨w.heap.size, 2, none⟩ (.slice a' n' c') (by simp)
    have hs4 := Fr.setCell w3 ⟨w.heap.size, 2, none⟩ (.slice a' n' c')
    obtain ⟨w5, hw5, s0, s1, s2, hf5, hf5'⟩ := three_end (x := .int .i64 d) (y := .slice aW W.length cW) (z := .slice a' n' c') hb4 rfl (by omega) hf4
    rw [← hw5]
    refine bodyPost_ret (v := .tuple #[.agg #[.int .i64 d, .slice aW W.length cW, .slice a' n' c'], .int .i64 x, .int .i64 0]) (by simp [results, Try.results22, go_sem, s0, s1, s2]) rfl ⟨_, _, rfl, ?_, ?_, hf5, .inl rfl, .inr (fun k hk => ?_)⟩
    · have := sl_far HW3.out R0.out (by decide) hs4
      exact sl_far this hb4 (by decide) hf5'
    · have := sl_far HN1.out R0.out (by decide) hs4
      exact sl_far this hb4 (by decide) hf5'
    · exact Nat.le_trans HQ.out.size (HN3.out k hk)
end Go.Proofs.Ytmdciipaggcjoaa
