/-
  The document's rack: how it lies in memory; Where, Room.
-/
import Derived.Test.YtegoilhkooneaaaGp3
import Derived.Test.YtegoilhkooneaaaRf2
namespace Go.Proofs.Ytegoilhkooneaaa
open Go.RowKit Go.Sort
set_option linter.unusedVariables false
set_option linter.unusedSimpArgs false

/-- A lane of the document's: the slice of its totes, and the lane. -/
abbrev Dl := Value × Lan
def dl0 : Dl := (.slice none 0 0, (1, []))
def dC (D : List Dl) : List Value := D.flatMap (fun x => [.int .i64 x.2.1, x.1])
theorem dC_append (a b : List Dl) : dC (a ++ b) = dC a ++ dC b := by simp [dC]
theorem dC_len (l : List Dl) : (dC l).length = l.length * 2 := by
  induction l with
  | nil => rfl
  | cons s r ih => simp [dC] at ih ⊢; omega
theorem dC_at (l : List Dl) (k : Nat) (hk : k < l.length) : (dC l)[k * 2]? = some (.int .i64 (l.getD k dl0).2.1) ∧ (dC l)[k * 2 + 1]? = some (l.getD k dl0).1 := by
  induction l generalizing k with
  | nil => simp at hk
  | cons s r ih =>
    cases k with
    | zero => simp [dC]
    | succ k =>
      have := ih k (by simpa using hk)
      rw [show (k + 1) * 2 = k * 2 + 1 + 1 by omega]
      simpa [dC] using this
/-- The document's rack: its row, its lanes' totes. -/
structure DocD (w : World) (v : Value) (D : List Dl) : Prop where
  row : Sl w 42 2 v D.length (dC D)
  tot : ∀ i, i < D.length → SlI w (D.getD i dl0).1 (D.getD i dl0).2.2
def DocAt (w : World) (v : Value) (R : List Lan) : Prop := ∃ D, D.map (·.2) = R ∧ DocD w v D
theorem DocD.keep {w w' : World} {S : Nat → Prop} {v : Value} {D : List Dl} (h : DocD w v D) (hf : Fr w w' S) (h1 : ∀ b, v.ownBlock = some b → ¬ S b) (h2 : ∀ u zs, SlI w u zs → ∀ b, u.ownBlock = some b → ¬ S b) : DocD w' v D :=
  ⟨h.row.keep hf h1, fun i hi => Sl.keep (h.tot i hi) hf (h2 _ _ (h.tot i hi))⟩
theorem DocAt.keep {w w' : World} {S : Nat → Prop} {v : Value} {R : List Lan} (h : DocAt w v R) (hf : Fr w w' S) (h1 : ∀ b, v.ownBlock = some b → ¬ S b) (h2 : ∀ u zs, SlI w u zs → ∀ b, u.ownBlock = some b → ¬ S b) : DocAt w' v R := by
  obtain ⟨D, e, hd⟩ := h
  exact ⟨D, e, hd.keep hf h1 h2⟩
theorem DocAt.keep0 {w w' : World} {v : Value} {R : List Lan} (h : DocAt w v R) (hf : Fr w w' No) : DocAt w' v R := h.keep hf (fun _ _ h => h) (fun _ _ _ _ _ h => h)
theorem DocAt.form {w : World} {v : Value} {R : List Lan} (h : DocAt w v R) : ∃ a c, v = .slice a R.length c := by
  obtain ⟨D, rfl, hd⟩ := h
  rw [List.length_map]
  exact Sl.form1 hd.row
theorem D_lan (D : List Dl) (i : Nat) (hi : i < D.length) : lan (D.map (·.2)) i = (D.getD i dl0).2 := by
  unfold lan
  simp [List.getD, List.getElem?_map, List.getElem?_eq_getElem hi]
/-- Lane i of the document's. -/
theorem DocAt.at_ {w : World} {a : Option Addr} {n c : Nat} {R : List Lan} (h : DocAt w (.slice a n c) R) (i : Nat) (hi : i < R.length) :
    ∃ b off a2 c2, a = some ⟨b, off, none⟩ ∧ w.cell? ⟨b, off + i * 2, none⟩ = some (.int .i64 (lan R i).1) ∧ w.cell? ⟨b, off + i * 2 + 1, none⟩ = some (.slice a2 (lan R i).2.length c2) ∧ SlI w (.slice a2 (lan R i).2.length c2) (lan R i).2 := by
  obtain ⟨D, rfl, hd⟩ := h
  rw [List.length_map] at hi
  rw [D_lan D i hi]
  obtain ⟨_, a', c', hv, _, hs⟩ := Sl.rd hd.row
  cases hv
  obtain ⟨b, off, rfl, hc⟩ := hs (by omega)
  obtain ⟨h1, h2⟩ := dC_at D i hi
  have ht := hd.tot i hi
  obtain ⟨a2, c2, e⟩ := slv_form ht
  rw [e] at h2 ht
  exact ⟨b, off, a2, c2, rfl, hc _ _ h1, by have := hc _ _ h2; rwa [← Nat.add_assoc] at this, ht⟩

set_option maxHeartbeats 2000000 in
theorem refWhere_any (w : World) (v : Value) (R : List Lan) (t : Int) (hD : DocAt w v R) (h32 : R.length ≤ 32) (h8 : ∀ i, i < R.length → (lan R i).2.length ≤ 8) :
    Calls Try.prog 51 #[.agg #[v], .int .i64 t] w fun e w' => e = .returned (.int .i64 (whereR t R)) ∧ Fr w w' No := by
  obtain ⟨a, c, rfl⟩ := hD.form
  have HD := Lib.hid hD
  have H8 := Lib.hid h8
  have hbox : (w.alloc (.cells #[.slice a R.length c] 74)).cell? ⟨w.heap.size, 0, none⟩ = some (.slice a R.length c) := blk_cell (blk_new w _) 0
  have HF0 : Hid (Fr w (w.alloc (.cells #[.slice a R.length c] 74)) No) := Lib.hid (Fr.alloc _ _ _)
  clear hD h8
  go_enter Try.func51, Try.ntmps51
  go_wp2_with fail
  generalize w.alloc (.cells #[.slice a R.length c] 74) = w1 at *
  generalize w.heap.size = bx at *
  have HB := Lib.hid hbox
  clear hbox
  go_loopg [9] R.length (fun g v9 wr => ∃ (k : Nat), k + g = R.length ∧ v9 = .int .i64 k ∧ (∀ j, j < k → idx t (lan R j).2 < 0) ∧ Fr w1 wr No)
  case atStart => exact ⟨0, by omega, rfl, fun j hj => by omega, Fr.refl _ _⟩
  case round =>
    obtain ⟨k, hk, rfl, hn, hf⟩ := hrel
    have HK := Lib.hid hk
    have HN := Lib.hid hn
    have HF := Lib.hid hf
    clear hk hn hf
    by_cases hlt : k < R.length
    · have hbox := HF.out.cell HB.out id
      obtain ⟨b, off, a2, c2, ha, m1, m2, hs⟩ := (HD.out.keep0 (HF0.out.nn HF.out)).at_ k hlt
      subst ha
      have HS := Lib.hid hs
      have hl8 := H8.out k hlt
      have hk1 : (k : Int) < (R.length : Int) := by omega
      have hk0 : (0 : Int) ≤ (k : Int) := by omega
      have HLT := Lib.hid hlt
      clear hs hlt
      go_wp2_with fail
      refine (refAt_any _ _ _ (lan R k).2 t (SlI.rd HS.out (by omega))).mono ?_
      rintro e w2 ⟨rfl, hf2⟩
      have HF2 := Lib.hid (HF.out.nn hf2)
      clear hf2 m1 m2 hbox
      by_cases ho : 0 ≤ idx t (lan R k).2
      · have HI : Hid (whereR t R = k) := Lib.hid (whereR_hit t R k HLT.out HN.out ho)
        go_wp2_with fail
        go_ret
        exact ⟨by rw [HI.out]; rfl, HF0.out.nn HF2.out⟩
      · have hneg : idx t (lan R k).2 < 0 := by omega
        have HNEG := Lib.hid hneg
        go_wp2_with fail
        go_roundg (gk - 1)
        case measure => have := HK.out; have := HLT.out; omega
        case rel =>
          refine ⟨k + 1, by have := HK.out; have := HLT.out; omega, by go_num, fun j hj => ?_, HF2.out⟩
          rcases Nat.lt_or_ge j k with h | h
          · exact HN.out j h
          · obtain rfl : j = k := by omega
            exact HNEG.out
    · have HI : Hid (whereR t R = -1) := Lib.hid (whereR_miss t R (fun j hj => HN.out j (by omega)))
      have hk1 : ¬ (k : Int) < (R.length : Int) := by omega
      go_wp2_with fail
      go_ret
      exact ⟨by rw [HI.out]; rfl, HF0.out.nn HF.out⟩

set_option maxHeartbeats 2000000 in
theorem refRoom_any (w : World) (v : Value) (R : List Lan) (hD : DocAt w v R) (h32 : R.length ≤ 32) (h8 : ∀ i, i < R.length → (lan R i).2.length ≤ (lan R i).1 ∧ (lan R i).1 ≤ 8) :
    Calls Try.prog 54 #[.agg #[v]] w fun e w' => e = .returned (.int .i64 (roomR R)) ∧ Fr w w' No := by
  obtain ⟨a, c, rfl⟩ := hD.form
  have HD := Lib.hid hD
  have H8 := Lib.hid h8
  have hbox : (w.alloc (.cells #[.slice a R.length c] 74)).cell? ⟨w.heap.size, 0, none⟩ = some (.slice a R.length c) := blk_cell (blk_new w _) 0
  have HF0 : Hid (Fr w (w.alloc (.cells #[.slice a R.length c] 74)) No) := Lib.hid (Fr.alloc _ _ _)
  clear hD h8
  go_enter Try.func54, Try.ntmps54
  go_wp2_with fail
  generalize w.alloc (.cells #[.slice a R.length c] 74) = w1 at *
  generalize w.heap.size = bx at *
  have HB := Lib.hid hbox
  clear hbox
  go_loopg [3, 8] R.length (fun g v3 v8 wr => ∃ (k : Nat) (n : Int), k + g = R.length ∧ v8 = .int .i64 k ∧ v3 = .int .i64 n ∧ n = roomR (R.take k) ∧ 0 ≤ n ∧ n ≤ 8 * (k : Int) ∧ Fr w1 wr No)
  case atStart => exact ⟨0, 0, by omega, rfl, rfl, by simp [roomR], by omega, by omega, Fr.refl _ _⟩
  case round =>
    obtain ⟨k, n, hk, rfl, rfl, hn, hn0, hn1, hf⟩ := hrel
    have HK := Lib.hid hk
    have HN := Lib.hid hn
    have HF := Lib.hid hf
    clear hk hn hf
    by_cases hlt : k < R.length
    · have hbox := HF.out.cell HB.out id
      obtain ⟨b, off, a2, c2, ha, m1, m2, hs⟩ := (HD.out.keep0 (HF0.out.nn HF.out)).at_ k hlt
      subst ha
      obtain ⟨hl1, hl2⟩ := H8.out k hlt
      have hk1 : (k : Int) < (R.length : Int) := by omega
      have hk0 : (0 : Int) ≤ (k : Int) := by omega
      have HLT := Lib.hid hlt
      have HT := Lib.hid (roomR_take R k hlt)
      have hw1 : IntKind.i64.wrap (n + ((lan R k).1 : Int)) = n + ((lan R k).1 : Int) := IntWalk.i64_in _ (by omega)
      have hw2 : IntKind.i64.wrap (n + ((lan R k).1 : Int) - ((lan R k).2.length : Int)) = n + ((lan R k).1 : Int) - ((lan R k).2.length : Int) := IntWalk.i64_in _ (by omega)
      clear hs hlt
      go_wp2_with fail
      go_quiet (fail)
      have HF2 := Lib.hid (HF.out.to_drewN nq)
      clear m1 m2 hbox
      go_wp2_with fail
      go_roundg (gk - 1)
      case measure => have := HK.out; have := HLT.out; omega
      case rel => exact ⟨k + 1, _, by have := HK.out; have := HLT.out; omega, by go_num, rfl, by rw [HT.out, ← HN.out]; omega, by omega, by omega, HF2.out⟩
    · have e : R.take k = R := List.take_of_length_le (by omega)
      have hn := HN.out
      rw [e] at hn
      have HN2 := Lib.hid hn
      have hk1 : ¬ (k : Int) < (R.length : Int) := by omega
      clear HN hn e HK
      go_wp2_with fail
      go_ret
      exact ⟨by rw [HN2.out]; rfl, HF0.out.nn HF.out⟩
end Go.Proofs.Ytegoilhkooneaaa
