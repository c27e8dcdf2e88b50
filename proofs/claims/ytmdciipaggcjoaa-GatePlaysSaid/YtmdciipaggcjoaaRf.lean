/-
  The document's gate: without, Accept, Cancel, Arrive, Leave.
-/
import Derived.Test.YtmdciipaggcjoaaT4
import Derived.Test.YtmdciipaggcjoaaD2
namespace Go.Proofs.Ytmdciipaggcjoaa
open Go.RowKit Go.Conc
set_option linter.unusedVariables false
set_option linter.unusedSimpArgs false

set_option maxHeartbeats 2000000 in
theorem without_any (v : Value) (A : List Int) (q : Nat) (w : World) (hv : SlI w v A) (hq : q < A.length) (hal : A.length ≤ 1000) :
    Calls Try.prog 29 #[v, .int .i64 q] w fun e w' => ∃ v', e = .returned v' ∧ NewI w w' v' (A.eraseIdx q) := by
  obtain ⟨g7, o7, c7, rfl⟩ : ∃ g off c, v = .slice (some ⟨g, off, none⟩) A.length c := by
    obtain ⟨hl, ⟨rfl, h0⟩ | ⟨g, off, cap, cur, rfl, _⟩⟩ := hv
    · omega
    · exact ⟨g, off, cap, rfl⟩
  obtain ⟨nA, hnA⟩ : ∃ nA, A.length = nA := ⟨_, rfl⟩
  rw [hnA] at hv hq ⊢
  obtain ⟨_, hcc, hp1, hp2, hp3⟩ := part_facts hv hal q hq
  have HER : Hid (A.eraseIdx q = A.take q ++ A.drop (q + 1)) := Lib.hid (List.eraseIdx_eq_take_drop_succ _ _)
  have HNA := Lib.hid hnA
  have HP1 := Lib.hid hp1
  have HP2' := Lib.hid hp2
  have HP3 := Lib.hid hp3
  have f1 : (0 : Int) ≤ (q : Int) := by omega
  have f2 : (q : Int) ≤ (c7 : Int) := by omega
  have f3 : q ≤ c7 := by omega
  have f4 : (0 : Int) ≤ (q : Int) + 1 := by omega
  have f5 : (q : Int) + 1 ≤ (nA : Int) := by omega
  have f6 : ¬ c7 = 0 := by omega
  have f7 : q < 1000 := by omega
  have f11 : IntKind.i64.wrap ((q : Int) + 1) = (q : Int) + 1 := IntWalk.i64_in _ (by omega)
  rw [HER.out]
  clear hp1 hp2 hp3 hnA hv HER
  by_cases hc1 : c7 = q + 1
  · obtain rfl : nA = q + 1 := by omega
    subst hc1
    have hdr : A.drop (q + 1) = [] := List.drop_eq_nil_of_le (by have := HNA.out; omega)
    have f8 : (q : Int) ≤ (q : Int) + 1 := by omega
    have f9 : q < q + 1 := by omega
    have f10 : 0 < q + 1 := by omega
    have HDR := Lib.hid hdr
    clear hdr
    go_enter Try.func29, Try.ntmps29
    go_upto_region 1 with (fail)
    go_region_held3 (fun w' => Fr w w' No)
      ((first
        | exact Fr.drew w No
        | exact Fr.into (by assumption) r2 (fun i e => by
            rcases q3 with h | h
            · rw [h] at e; simp [Value.ownBlock] at e; omega
            · rw [h] at e; simp at e; omega)
        | exact Fr.into (by assumption) q2 (fun i e => by simp [Value.ownBlock] at e; omega)
        | exact Fr.to_alloc (by assumption) _))
      (first
        | (refine step_appS (by rfl) _ _ (by rfl) _ [] (by rfl) (Sl.made (blk_new _ _) rfl (by decide)) _ (A.take q) (by rfl) (HP1.out.keep0 (Fr.to_alloc (Fr.drew w No) _)) (by simp; omega) ?_; intro v1 w1 q1 q2 q3)
        | (refine step_appS (by rfl) _ _ (by rfl) v1 (A.take q) (by rfl) (by simpa using q1) _ [] (by rfl) (HP3.out.keep0 (by assumption)) (by simp; omega) ?_; intro v2 w2 r1 r2 r3))
    have hfr : Fr w w2 No := by assumption
    have hN : NewI w w2 v2 (A.take q ++ A.drop (q + 1)) := ⟨by rw [HDR.out]; exact r1, hfr, fun i e => by
      rcases r3 with h | h
      · rw [h] at e
        rcases q3 with h' | h'
        · rw [h'] at e; simp [Value.ownBlock] at e; omega
        · rw [h'] at e; simp at e; omega
      · rw [h] at e
        have : w1.heap.size = i := by simpa using e
        have h5 := q2.size
        simp at h5
        omega⟩
    have HN := Lib.hid hN
    clear hN hfr r1 r2 r3 q1 q2 q3
    go_wp2_with fail
    go_ret
    exact ⟨_, rfl, HN.out⟩
  · go_enter Try.func29, Try.ntmps29
    go_upto_region 1 with (fail)
    go_region_held3 (fun w' => Fr w w' No)
      ((first
        | exact Fr.drew w No
        | exact Fr.into (by assumption) r2 (fun i e => by
            rcases q3 with h | h
            · rw [h] at e; simp [Value.ownBlock] at e; omega
            · rw [h] at e; simp at e; omega)
        | exact Fr.into (by assumption) q2 (fun i e => by simp [Value.ownBlock] at e; omega)
        | exact Fr.to_alloc (by assumption) _))
      (first
        | (refine step_appS (by rfl) _ _ (by rfl) _ [] (by rfl) (Sl.made (blk_new _ _) rfl (by decide)) _ (A.take q) (by rfl) (HP1.out.keep0 (Fr.to_alloc (Fr.drew w No) _)) (by simp; omega) ?_; intro v1 w1 q1 q2 q3)
        | (refine step_appS (by rfl) _ _ (by rfl) v1 (A.take q) (by rfl) (by simpa using q1) _ (A.drop (q + 1)) (by rfl) (HP2'.out.keep0 (by assumption)) (by simp; omega) ?_; intro v2 w2 r1 r2 r3))
    have hfr : Fr w w2 No := by assumption
    have hN : NewI w w2 v2 (A.take q ++ A.drop (q + 1)) := ⟨r1, hfr, fun i e => by
      rcases r3 with h | h
      · rw [h] at e
        rcases q3 with h' | h'
        · rw [h'] at e; simp [Value.ownBlock] at e; omega
        · rw [h'] at e; simp at e; omega
      · rw [h] at e
        have : w1.heap.size = i := by simpa using e
        have h5 := q2.size
        simp at h5
        omega⟩
    have HN := Lib.hid hN
    clear hN hfr r1 r2 r3 q1 q2 q3
    go_wp2_with fail
    go_ret
    exact ⟨_, rfl, HN.out⟩

/-- What a function of the document's gate hands back: a slice as it was, or a new one. -/
def Kept (w : World) (v v' : Value) : Prop := v' = v ∨ ∀ k, v'.ownBlock = some k → w.heap.size ≤ k
def RefG (d : Nat) (vW vI : Value) (W I : List Int) (E : Int) (w : World) (e : Ending) (w' : World) : Prop :=
  ∃ vW' vI', e = .returned (.tuple #[.agg #[.int .i64 d, vW', vI'], .int .i64 E]) ∧ SlI w' vW' W ∧ SlI w' vI' I ∧ Fr w w' No ∧ Kept w vW vW' ∧ Kept w vI vI'

theorem three_end {w w4 : World} {b1 : Nat} {cs : Array Value} {t : TypeId} {x y z : Value} (hb : w4.heap[b1]? = some (.cells cs t (0, 0))) (hs : cs.size = 3) (h1 : w.heap.size ≤ b1) (hf : Fr w w4 No) :
    ∃ w5, w5 = ((w4.setCell ⟨b1, 0, none⟩ x).setCell ⟨b1, 1, none⟩ y).setCell ⟨b1, 2, none⟩ z ∧ w5.cell? ⟨b1, 0, none⟩ = some x ∧ w5.cell? ⟨b1, 1, none⟩ = some y ∧ w5.cell? ⟨b1, 2, none⟩ = some z ∧ Fr w w5 No ∧ Fr w4 w5 (One b1) := by
  have k := blk_set (blk_set (blk_set hb 0 x) 1 y) 2 z
  refine ⟨_, rfl, ?_, ?_, ?_, ((hf.to_new _ _ h1).to_new _ _ h1).to_new _ _ h1, ((Fr.setCell w4 ⟨b1, 0, none⟩ x).to_one _ _).to_one _ _⟩
  · rw [blk_cell k]; simp [hs]
  · rw [blk_cell k]; simp [hs]
  · rw [blk_cell k]; simp [hs]
end Go.Proofs.Ytmdciipaggcjoaa
