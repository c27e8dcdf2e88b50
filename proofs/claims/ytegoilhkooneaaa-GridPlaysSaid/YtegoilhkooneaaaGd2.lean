/-
  The document's rack: Best.
-/
import Derived.Test.YtegoilhkooneaaaGd1
namespace Go.Proofs.Ytegoilhkooneaaa
open Go.RowKit Go.Sort
set_option linter.unusedVariables false
set_option linter.unusedSimpArgs false

/-- Has lane i room, and is not the one? -/
def roomy (but : Int) (R : List Lan) (i : Nat) : Prop := (i : Int) ≠ but ∧ (lan R i).2.length < (lan R i).1
theorem best_is {but : Int} {R : List Lan} {i : Nat} (hi : i < R.length) (h : roomy but R i) (hmin : ∀ j, j < R.length → roomy but R j → (lan R i).2.length ≤ (lan R j).2.length ∧ (j < i → (lan R i).2.length < (lan R j).2.length)) : bestR but R (zer R.length) = i := by
  have hok : ∀ j, okR but R (zer R.length) j ↔ roomy but R j := fun j => by unfold okR roomy; rw [zer_get]; omega
  have hct : ∀ j, cntR R (zer R.length) j = (lan R j).2.length := fun j => by unfold cntR; rw [zer_get]; omega
  rcases bstR_spec but R (zer R.length) R.length with ⟨h1, h2⟩ | ⟨k, hk, h1, h2, h3⟩
  · exact absurd ((hok i).2 h) (h2 i hi)
  · have e : bestR but R (zer R.length) = k := by unfold bestR; rw [h1]
    rw [e]
    have h4 := hmin k hk ((hok k).1 h2)
    have h5 := h3 i hi ((hok i).2 h)
    rw [hct, hct] at h5
    have : k = i := by omega
    rw [this]
theorem best_no {but : Int} {R : List Lan} (h : ∀ j, j < R.length → ¬ roomy but R j) : bestR but R (zer R.length) = -1 := by
  have hok : ∀ j, okR but R (zer R.length) j ↔ roomy but R j := fun j => by unfold okR roomy; rw [zer_get]; omega
  rcases bstR_spec but R (zer R.length) R.length with ⟨h1, h2⟩ | ⟨k, hk, h1, h2, h3⟩
  · unfold bestR; rw [h1]
  · exact absurd ((hok k).1 h2) (h k hk)

set_option maxRecDepth 100000 in
set_option maxHeartbeats 4000000 in
theorem refBest_any (w : World) (v : Value) (R : List Lan) (but : Int) (hD : DocAt w v R) (h32 : R.length ≤ 32) (h8 : ∀ i, i < R.length → (lan R i).2.length ≤ (lan R i).1 ∧ (lan R i).1 ≤ 8) :
    Calls Try.prog 52 #[.agg #[v], .int .i64 but] w fun e w' => e = .returned (.int .i64 (bestR but R (zer R.length))) ∧ Fr w w' No := by
  obtain ⟨a, c, rfl⟩ := hD.form
  have HD := Lib.hid (hD.keep0 (Fr.alloc w (.cells #[.slice a R.length c] 74) No))
  have H8 := Lib.hid h8
  have hbox : (w.alloc (.cells #[.slice a R.length c] 74)).cell? ⟨w.heap.size, 0, none⟩ = some (.slice a R.length c) := blk_cell (blk_new w _) 0
  have HF0 : Hid (Fr w (w.alloc (.cells #[.slice a R.length c] 74)) No) := Lib.hid (Fr.alloc _ _ _)
  obtain ⟨B, hB⟩ : ∃ B, bestR but R (zer R.length) = B := ⟨_, rfl⟩
  rw [hB]
  have HB := Lib.hid hB
  clear hD h8 hB
  go_enter Try.func52, Try.ntmps52
  go_wp2_with fail
  generalize w.alloc (.cells #[.slice a R.length c] 74) = w1 at *
  generalize w.heap.size = bx at *
  go_loopg [5] 9 (fun g v5 wr => ∃ (n : Nat), n + g = 9 ∧ v5 = .int .i64 n ∧ (∀ j, j < R.length → roomy but R j → n ≤ (lan R j).2.length) ∧ wr = w1)
  case atStart => exact ⟨0, by omega, rfl, fun j _ _ => Nat.zero_le _, rfl⟩
  case round =>
    obtain ⟨g5, hg5⟩ : ∃ q : Nat, q = gk := ⟨_, rfl⟩
    subst hg5
    obtain ⟨n, hn, rfl, hmin, rfl⟩ := hrel
    have HN := Lib.hid hn
    have HMIN := Lib.hid hmin
    clear hn hmin
    by_cases hn8 : n ≤ 8
    · have hn1 : (n : Int) ≤ 8 := by omega
      go_wp2_with fail
      go_loopg [14] R.length (fun g v14 wr2 => ∃ (k : Nat), k + g = R.length ∧ v14 = .int .i64 k ∧ (∀ j, j < k → roomy but R j → n < (lan R j).2.length) ∧ wr2 = wr)
      case atStart => exact ⟨0, by omega, rfl, fun j hj => by omega, rfl⟩
      case round =>
        obtain ⟨k, hk, rfl, hl, rfl⟩ := hrel
        have HK := Lib.hid hk
        have HL := Lib.hid hl
        clear hk hl
        by_cases hlt : k < R.length
        · obtain ⟨b, off, a2, c2, ha, m1, m2, hs⟩ := HD.out.at_ k hlt
          subst ha
          obtain ⟨hl1, hl2⟩ := H8.out k hlt
          have hk1 : (k : Int) < (R.length : Int) := by omega
          have hk0 : (0 : Int) ≤ (k : Int) := by omega
          have HLT := Lib.hid hlt
          have hsp : (((k : Int) != but) = true ∧ (((lan R k).2.length : Int) == (n : Int)) = true ∧ ((n : Int) < ((lan R k).1 : Int)) ∧ B = k) ∨
              ((((k : Int) != but) = false ∨ (((k : Int) != but) = true ∧ (((lan R k).2.length : Int) == (n : Int)) = false) ∨ (((k : Int) != but) = true ∧ (((lan R k).2.length : Int) == (n : Int)) = true ∧ ¬ ((n : Int) < ((lan R k).1 : Int)))) ∧ (roomy but R k → n < (lan R k).2.length)) := by
            have hge := HMIN.out k hlt
            by_cases e1 : (k : Int) = but
            · exact .inr ⟨.inl (by simpa using e1), fun q => absurd e1 q.1⟩
            · have e1' : ((k : Int) != but) = true := by simpa using e1
              by_cases e2 : (lan R k).2.length = n
              · have e2' : (((lan R k).2.length : Int) == (n : Int)) = true := by simp [e2]
                by_cases e3 : n < (lan R k).1
                · refine .inl ⟨e1', e2', by omega, ?_⟩
                  rw [← HB.out]
                  refine best_is hlt ⟨e1, by omega⟩ (fun j hj hr => ⟨?_, fun hjk => ?_⟩)
                  · rw [e2]; exact HMIN.out j hj hr
                  · rw [e2]; exact HL.out j hjk hr
                · exact .inr ⟨.inr (.inr ⟨e1', e2', by omega⟩), fun q => by have := q.2; omega⟩
              · exact .inr ⟨.inr (.inl ⟨e1', by simp only [beq_eq_false_iff_ne]; omega⟩), fun q => by have := hge q; omega⟩
          clear hs hlt
          rcases hsp with ⟨e1, e2, e3, e4⟩ | ⟨hcase, e4⟩
          · have HE := Lib.hid e4
            clear e4
            go_wp2_with fail
            go_ret
            exact ⟨by rw [HE.out]; rfl, HF0.out⟩
          · have HE := Lib.hid e4
            clear e4
            rcases hcase with e1 | ⟨e1, e2⟩ | ⟨e1, e2, e3⟩
            all_goals
              go_wp2_with fail
              go_roundg (gk - 1)
              case measure => have := HK.out; have := HLT.out; omega
              case rel =>
                refine ⟨k + 1, by have := HK.out; have := HLT.out; omega, by go_num, fun j hj hr => ?_, rfl⟩
                rcases Nat.lt_or_ge j k with h | h
                · exact HL.out j h hr
                · obtain rfl : j = k := by omega
                  exact HE.out hr
        · have hk1 : ¬ (k : Int) < (R.length : Int) := by omega
          go_wp2_with fail
          go_roundg (g5 - 1)
          case measure => have := HN.out; omega
          case rel => exact ⟨n + 1, by have := HN.out; omega, by go_num, fun j hj hr => HL.out j (by omega) hr, rfl⟩
    · have hn1 : ¬ (n : Int) ≤ 8 := by omega
      have hE : B = -1 := by
        rw [← HB.out]
        refine best_no (fun j hj hr => ?_)
        have h1 := HMIN.out j hj hr
        have h2 := H8.out j hj
        have h3 := hr.2
        omega
      have HE := Lib.hid hE
      clear hE
      go_wp2_with fail
      go_ret
      exact ⟨by rw [HE.out]; rfl, HF0.out⟩
end Go.Proofs.Ytegoilhkooneaaa
