/-
  The law PairTurned, walked.
-/
import Derived.Test.YtggogohoakbepaaP4
namespace Go.Proofs.Ytggogohoakbepaa
open Go.RowKit Go.Sort
set_option linter.unusedVariables false
set_option linter.unusedSimpArgs false

theorem okL_rot (l : List Spot) (k : Nat) : okL (rot l k) ↔ okL l := by
  unfold okL
  rw [rot_len]
  have : ∀ s, s ∈ rot l k ↔ s ∈ l := fun s => by
    unfold rot
    rw [List.mem_append]
    constructor
    · rintro (h | h)
      · exact List.mem_of_mem_drop h
      · exact List.mem_of_mem_take h
    · intro h
      rw [← List.take_append_drop (k % l.length) l, List.mem_append] at h
      exact h.symm
  simp only [this]
theorem best_rot (ss gs : List Spot) (k l : Nat) : bestN (rot ss k) (rot gs l) = bestN ss gs ∧ bestE (rot ss k) (rot gs l) = bestE ss gs := by
  unfold bestN bestE
  simp only [okL_rot, alone_rot, M_rot, and_self]
theorem best_swap (ss gs : List Spot) : bestN gs ss = bestN ss gs ∧ bestE gs ss = bestE ss gs := by
  unfold bestN bestE
  rw [M_swap gs ss]
  by_cases h : okL ss ∧ okL gs
  · rw [if_pos h, if_pos h.symm, if_pos h, if_pos h.symm]; constructor <;> omega
  · rw [if_neg h, if_neg (fun h' => h h'.symm), if_neg h, if_neg (fun h' => h h'.symm)]; exact ⟨rfl, rfl⟩

set_option maxRecDepth 100000 in
set_option maxHeartbeats 2000000 in
theorem pairTurned_row (w : World) (u v : Value) (ss gs : List Spot) (hu : RdS w u ss) (hv : RdS w v gs) (by_ : Int) :
    Calls Try.prog 5 #[u, v, .int .i64 by_] w fun e w' => e = .returned (.bool true) ∧ Fr w w' No := by
  have l1 := hu.2
  have l2 := hv.2
  obtain ⟨a, c, rfl⟩ := hu.form
  obtain ⟨a', c', rfl⟩ := hv.form
  have HU := Lib.hid hu
  have HV := Lib.hid hv
  clear hu hv
  go_enter Try.func5, Try.ntmps5
  go_wp2_with fail
  refine (awake_any _).mono ?_
  rintro e w1 ⟨rfl, hf1⟩
  have HF := Lib.hid (((Fr.refl w No).to_alloc (.cells #[.int .i64 by_] 3)).nn hf1)
  have kb := hf1.blk (blk_new w (.cells #[.int .i64 by_] 3)) id
  have KB := Lib.hid kb
  clear hf1 kb
  by_cases h100 : 100 < ss.length + gs.length
  · have hd : decide ((100 : Int) < (ss.length : Int) + (gs.length : Int)) = true := by simp; omega
    go_wp2_with fail
    refine (awake_any _).mono ?_
    rintro e w2 ⟨rfl, hf2⟩
    have HF2 := Lib.hid (HF.out.nn hf2)
    clear hf2
    go_wp2_with fail
    go_ret
    exact ⟨rfl, HF2.out⟩
  · have hd : decide ((100 : Int) < (ss.length : Int) + (gs.length : Int)) = false := by simp; omega
    go_wp2_with fail
    refine (own_any _ ss _ (HU.out.keep0 HF.out)).mono ?_
    rintro e w2 ⟨v2, rfl, hN2⟩
    have HN2 := Lib.hid hN2
    have HF2 := Lib.hid (HF.out.nn hN2.2.1)
    have KB2 := Lib.hid (hN2.2.1.blk KB.out id)
    clear hN2 HF KB
    go_wp2_with fail
    refine (own_any _ gs _ (HV.out.keep0 HF2.out)).mono ?_
    rintro e w3 ⟨v3, rfl, hN3⟩
    have HN3 := Lib.hid hN3
    have HN2' := Lib.hid (HN2.out.keep0 hN3.2.1)
    have HF3 := Lib.hid (HF2.out.nn hN3.2.1)
    have KB3 := Lib.hid (hN3.2.1.blk KB2.out id)
    clear hN3 HF2 KB2 HN2
    go_wp2_with fail
    refine (best_any _ _ ss gs _ (HN2'.out.rd (by omega)) (HN3.out.rd (by omega))).mono ?_
    rintro e w4 ⟨q4, rfl, hN4⟩
    have HF4 := Lib.hid (HF3.out.nn hN4.2.1)
    have KB4 := Lib.hid (hN4.2.1.blk KB3.out id)
    clear hN4 HF3 KB3 HN2' HN3
    rcases bestE_01 ss gs with hE | hE
    · rw [hE]
      have HE := Lib.hid hE
      clear hE
      go_wp2_with fail
      refine (turn_any _ ss w.heap.size by_ _ (HU.out.keep0 HF4.out) (by omega) (blk_cell KB4.out 0)).mono ?_
      rintro e w5 ⟨v5, rfl, hN5⟩
      have HN5 := Lib.hid hN5
      have HF5 := Lib.hid (HF4.out.nn hN5.2.1)
      have KB5 := Lib.hid (hN5.2.1.blk KB4.out id)
      clear hN5 HF4 KB4
      go_wp2_with fail
      refine (turn_any _ gs w.heap.size by_ _ (HV.out.keep0 HF5.out) (by omega) (blk_cell KB5.out 0)).mono ?_
      rintro e w6 ⟨v6, rfl, hN6⟩
      have HN6 := Lib.hid hN6
      have HN5' := Lib.hid (HN5.out.keep0 hN6.2.1)
      have HF6 := Lib.hid (HF5.out.nn hN6.2.1)
      clear hN6 HF5 KB5 HN5
      go_wp2_with fail
      refine (best_any _ _ (rot ss (turnK by_)) (rot gs (turnK by_)) _ (HN5'.out.rd (by rw [rot_len]; omega)) (HN6.out.rd (by rw [rot_len]; omega))).mono ?_
      rintro e w7 ⟨q7, rfl, hN7⟩
      rw [(best_rot ss gs _ _).1, (best_rot ss gs _ _).2, HE.out]
      have HF7 := Lib.hid (HF6.out.nn hN7.2.1)
      clear hN7 HF6 HN5' HN6
      go_wp2_with fail
      refine (own_any _ gs _ (HV.out.keep0 HF7.out)).mono ?_
      rintro e w8 ⟨v8, rfl, hN8⟩
      have HN8 := Lib.hid hN8
      have HF8 := Lib.hid (HF7.out.nn hN8.2.1)
      clear hN8 HF7
      go_wp2_with fail
      refine (own_any _ ss _ (HU.out.keep0 HF8.out)).mono ?_
      rintro e w9 ⟨v9, rfl, hN9⟩
      have HN9 := Lib.hid hN9
      have HN8' := Lib.hid (HN8.out.keep0 hN9.2.1)
      have HF9 := Lib.hid (HF8.out.nn hN9.2.1)
      clear hN9 HF8 HN8
      go_wp2_with fail
      refine (best_any _ _ gs ss _ (HN8'.out.rd (by omega)) (HN9.out.rd (by omega))).mono ?_
      rintro e w10 ⟨q10, rfl, hN10⟩
      rw [(best_swap ss gs).1, (best_swap ss gs).2, HE.out]
      have HF10 := Lib.hid (HF9.out.nn hN10.2.1)
      clear hN10 HF9 HN8' HN9
      have hq : (bestN ss gs == bestN ss gs) = true := by simp
      go_wp2_with fail
      go_ret
      exact ⟨rfl, HF10.out⟩
    · rw [hE]
      go_wp2_with fail
      go_ret
      exact ⟨rfl, HF4.out⟩

/-- As the row wants it. -/
theorem pairTurned_all (w : World) (u : Value) (n1 : Nat) (f1 : List Int) (h1 : Rd w u n1 (f1.map (Value.int .i64)) 2) (b1 : n1 ≤ 8796093022207) (v : Value) (n2 : Nat) (f2 : List Int) (h2 : Rd w v n2 (f2.map (Value.int .i64)) 2) (b2 : n2 ≤ 8796093022207) (k : Int) (_ : (Lit.int .i64 k).wf = true) :
    Calls Try.prog 5 #[u, v, .int .i64 k] w fun e w' => e = .returned (.bool true) ∧ Fr w w' No := by
  obtain ⟨ss, hs, _⟩ := Rd.spots h1 b1
  obtain ⟨gs, hg, _⟩ := Rd.spots h2 b2
  exact pairTurned_row w u v ss gs hs hg k
end Go.Proofs.Ytggogohoakbepaa
