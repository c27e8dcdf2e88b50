import Derived.Test.YtegoilhkooneaaaLn2
namespace Go.Proofs.Ytegoilhkooneaaa
open Go.RowKit
set_option linter.unusedVariables false
set_option linter.unusedSimpArgs false

set_option maxRecDepth 100000 in
set_option maxHeartbeats 1000000 in
theorem laneRoom_walk (w : World) (x : Int) (v : Value) (n : Nat) (fl : List Int) (hv : Rd w v n (fl.map (Value.int .i64)) 2) (hn : n ≤ 17592186044415) :
    Calls Try.prog 5 #[.int .i64 x, v] w fun e w' => e = .returned (.bool true) ∧ Fr w w' No := by
  obtain ⟨a, c, rfl⟩ : ∃ a c, v = .slice a n c := by obtain ⟨_, a, c, h, _⟩ := hv; exact ⟨a, c, h⟩
  have HV := Lib.hid hv
  clear hv
  go_enter Try.func5, Try.ntmps5
  go_wp2_with fail
  refine (awake_any w).mono ?_
  rintro e w1 ⟨rfl, hf1⟩
  go_wp2_with fail
  obtain ⟨d, h1, h8, hd⟩ := umod1 x 8 (by decide) (by decide)
  rw [hd]
  have h8' : d ≤ 8 := by omega
  clear hd h8
  refine (new_ok d w1 h1 h8').mono ?_
  rintro e w2 ⟨rfl, hL, hf2⟩
  have hg : w.heap.size ≤ w1.heap.size := hf1.size
  generalize w1.heap.size = g at *
  have hf := hf1.nn hf2
  have HL := Lib.hid hL
  have HF := Lib.hid hf
  clear hf1 hf2 hL hf
  go_wp2_with fail
  go_loopw [7] (fun v7 wr => ∃ (k : Nat) (ts : List Int), k ≤ n ∧ k ≤ 200 ∧ v7 = .int .i64 k ∧ Fr w wr No ∧ LaneAt wr g ts d) (fun i _ => 200 - (intOf i).toNat)
  case atStart => exact ⟨0, [], by omega, by omega, rfl, HF.out, HL.out⟩
  case round =>
    clear HL HF
    obtain ⟨k, ts, hk, hk50, rfl, hF, hL⟩ := hrel
    have HF := Lib.hid hF
    have HL := Lib.hid hL
    clear hF hL
    by_cases hlt : k < n ∧ k < 200
    · obtain ⟨hlt, hlt50⟩ := hlt
      obtain ⟨b, off, rfl, hcell⟩ := (HV.out.keep0 HF.out).get k hlt
      have hk0 := hcell 0 (by decide)
      simp only [Nat.add_zero] at hk0
      have hk1 := hcell 1 (by decide)
      generalize fl.getD (k * 2) 0 = K at *
      generalize fl.getD (k * 2 + 1) 0 = t at *
      clear hcell
      have h8 := HL.out.1
      go_wp2_with fail
      refine (totes_any g ts d _ HL.out).mono ?_
      rintro e w3 ⟨vw, rfl, hN3⟩
      have hk0' := hN3.2.1.cell hk0 (fun h => h)
      have hk1' := hN3.2.1.cell hk1 (fun h => h)
      obtain ⟨av, cv, rfl, _⟩ := hN3.1.form
      have HN3 := Lib.hid (hN3.from HF.out)
      have HL3 := Lib.hid (HL.out.keep hN3.2.1 (fun h => h))
      clear hN3 hk0 hk1
      have hcase : (K == 1) = true ∨ ((K == 1) = false ∧ (K == 2) = true) ∨ ((K == 1) = false ∧ (K == 2) = false ∧ (K == 3) = true) ∨ ((K == 1) = false ∧ (K == 2) = false ∧ (K == 3) = false) := by
        by_cases a1 : K = 1 <;> by_cases a2 : K = 2 <;> by_cases a3 : K = 3 <;> simp [a1, a2, a3]
      have HF3 := Lib.hid HN3.out.2.1
      rcases hcase with b1 | ⟨b1, b2⟩ | ⟨b1, b2, b3⟩ | ⟨b1, b2, b3⟩
      case' inl =>
        obtain ⟨ch, hch⟩ : ∃ ch : Int, ch = 1 := ⟨1, rfl⟩
        have HCH := Lib.hid hch
        go_wp2_with fail
        refine (push_any g ts d t _ HL3.out).mono ?_
        rintro e w4 ⟨rfl, hL4, hf4⟩
        have hE : (pushE d ts t = 0 ∧ ((pushT d ts t).length : Int) = ts.length + ch) ∨ (pushE d ts t ≠ 0 ∧ pushT d ts t = ts) := by
          unfold pushT; by_cases e : pushE d ts t = 0 <;> simp [e, hch]
        generalize pushE d ts t = E at *
        generalize pushT d ts t = T at *
      case' inr.inl =>
        obtain ⟨ch, hch⟩ : ∃ ch : Int, ch = -1 := ⟨-1, rfl⟩
        have HCH := Lib.hid hch
        go_wp2_with fail
        refine (pop_any g ts d _ HL3.out).mono ?_
        rintro e w4 ⟨rfl, hL4, hf4⟩
        have hE : (popE ts = 0 ∧ (ts.dropLast.length : Int) = ts.length + ch) ∨ (popE ts ≠ 0 ∧ ts.dropLast = ts) := by
          unfold popE
          by_cases e : ts = []
          · simp [e]
          · have : 0 < ts.length := List.length_pos_iff.2 e
            simp [e, hch]; omega
        generalize popE ts = E at *
        generalize ts.dropLast = T at *
      case' inr.inr.inl =>
        obtain ⟨ch, hch⟩ : ∃ ch : Int, ch = -1 := ⟨-1, rfl⟩
        have HCH := Lib.hid hch
        go_wp2_with fail
        refine (take_any g ts d t _ HL3.out).mono ?_
        rintro e w4 ⟨rfl, hL4, hf4⟩
        have hE : (takeE ts t = 0 ∧ ((takeT ts t).length : Int) = ts.length + ch) ∨ (takeE ts t ≠ 0 ∧ takeT ts t = ts) := by
          unfold takeT
          by_cases e : takeE ts t = 0
          · have hpos : 0 < ts.length := by
              have := idx_lt t ts
              unfold takeE at e
              split at e
              · cases e
              · omega
            simp [e, hch]; omega
          · simp [e]
        generalize takeE ts t = E at *
        generalize takeT ts t = T at *
      case' inr.inr.inr =>
        obtain ⟨ch, hch⟩ : ∃ ch : Int, ch = 0 := ⟨0, rfl⟩
        have HCH := Lib.hid hch
        obtain ⟨T, hT⟩ : ∃ T, T = ts := ⟨_, rfl⟩
        have hL4 := HL3.out
        rw [← hT] at hL4
        have hf4 := Fr.refl w3 (One g)
        have hE : ((0 : Int) = 0 ∧ (T.length : Int) = ts.length + ch) ∨ ((0 : Int) ≠ 0 ∧ T = ts) := .inl ⟨rfl, by rw [hT, hch]; simp⟩
        clear hT
        go_wp2_with fail
        generalize w3 = w4 at *
      all_goals
        have HN4 := Lib.hid (HL3.out.new HN3.out hf4 hg)
        have HF4 := Lib.hid (HF3.out.in1 hf4 hg)
        have HL4 := Lib.hid hL4
        clear HN3 HF3 HL3 hL4 hf4 HL HF hk0' hk1'
        clear hch
        rcases hE with ⟨e1, e2⟩ | ⟨e1, e2⟩
        · (try subst e1)
          have h8T := HL4.out.1
          have HE2 := Lib.hid e2
          clear e2
          (try go_wp2_with fail)
          refine (totes_any g T d _ HL4.out).mono ?_
          rintro e w5 ⟨v5, rfl, hN5⟩
          obtain ⟨a5, c5, rfl, _⟩ := hN5.1.form
          have HL5 := Lib.hid (HL4.out.keep hN5.2.1 (fun h => h))
          have HF5 := Lib.hid (HF4.out.nn hN5.2.1)
          clear hN5
          have e2 := HE2.out
          have hb1 : ((T.length : Int) != (ts.length : Int) + ch) = false := by rw [bne_eq_false_iff_eq]; exact e2
          have hb2 : ((T.length : Int) != (ts.length : Int) - (-ch)) = false := by rw [bne_eq_false_iff_eq]; omega
          simp only [Int.neg_neg, Int.add_zero, Int.neg_zero, Int.sub_zero, Int.sub_neg, HCH.out] at hb1 hb2
          clear e2
          go_wp2_with fail
          refine (room_any g T d _ HL5.out).mono ?_
          rintro e w' ⟨rfl, q, rfl⟩
          go_wp2
          go_roundw
          case rel => exact ⟨k + 1, T, by omega, by omega, by go_num, HF5.out.to_drewN q, HL5.out.drewN q⟩
          case measure => simp [intOf]; omega
        · first
            | exact absurd rfl e1
            | (have hb1 : (E != 0) = true := by simpa using e1
               have hb2 : (E == 0) = false := by simpa using e1
               subst e2
               have h8T := HL4.out.1
               clear e1
               (try go_wp2_with fail)
               refine (totes_any g T d _ HL4.out).mono ?_
               rintro e w5 ⟨v5, rfl, hN5⟩
               obtain ⟨a5, c5, rfl, _⟩ := hN5.1.form
               have HL5 := Lib.hid (HL4.out.keep hN5.2.1 (fun h => h))
               have HF5 := Lib.hid (HF4.out.nn hN5.2.1)
               have HN5 := Lib.hid hN5
               clear hN5
               go_wp2_with fail
               refine (ints_true _ _ T _ (SlI.rd HN5.out.1 (by omega)) ((SlI.rd HN4.out.1 (by omega)).keep0 HN5.out.2.1)).mono ?_
               rintro e w6 ⟨rfl, hf6⟩
               have HL6 := Lib.hid (HL5.out.keep hf6 (fun h => h))
               have HF6 := Lib.hid (HF5.out.nn hf6)
               clear hf6
               go_wp2_with fail
               refine (room_any g T d _ HL6.out).mono ?_
               rintro e w' ⟨rfl, q, rfl⟩
               go_wp2
               go_roundw
               case rel => exact ⟨k + 1, T, by omega, by omega, by go_num, HF6.out.to_drewN q, HL6.out.drewN q⟩
               case measure => simp [intOf]; omega)
    · have hcase : (¬ k < n) ∨ (k < n ∧ ¬ k < 200) := by omega
      clear hlt
      rcases hcase with hlt | ⟨hlt, hlt2⟩
      all_goals
        go_wp2
        go_ret
        exact ⟨rfl, HF.out⟩

/-- As the row wants it. -/
theorem laneRoom_row (w : World) (x : Int) (_ : (Lit.int .i64 x).wf = true) (v : Value) (n : Nat) (fl : List Int) (hv : Rd w v n (fl.map (Value.int .i64)) 2) (hn : n ≤ 17592186044415) :
    Calls Try.prog 5 #[.int .i64 x, v] w fun e w' => e = .returned (.bool true) ∧ Fr w w' No := laneRoom_walk w x v n fl hv hn

end Go.Proofs.Ytegoilhkooneaaa
