import Derived.Test.YtegoilhkooneaaaLn
namespace Go.Proofs.Ytegoilhkooneaaa
open Go.RowKit
set_option linter.unusedVariables false
set_option linter.unusedSimpArgs false
set_option maxRecDepth 100000 in
set_option maxHeartbeats 800000 in
theorem ahead_some (g : Nat) (ts : List Int) (d : Nat) (t : Int) (i : Nat) (w : World) (hL : LaneAt w g ts d) (hi : idx t ts = i) :
    Calls Try.prog 26 #[.pointer (some ⟨g, 0, none⟩), .int .i64 t] w fun e w' => ∃ v, e = .returned (.tuple #[v, .int .i64 0]) ∧ NewI w w' v (ts.drop (i + 1)).reverse := by
  have hlt := idx_lt t ts
  have h8 : ts.length ≤ 8 := by obtain ⟨h1, h2, h3, _⟩ := hL; omega
  rw [hi] at hlt
  have hi' : ¬ ((i : Int) < 0) := by omega
  have hc := hL.count
  have HL := Lib.hid hL
  have HI := Lib.hid hi
  have hs8 := fun w => sl8_lh w g (i + 1) ts.length (by omega) h8
  have HR : Hid (RdI w (.slice (some ⟨g, if 8 = i + 1 then 0 else i + 1, none⟩) (ts.length - (i + 1)) (7 - i)) (ts.drop (i + 1))) := by
    apply Lib.hid
    by_cases e : 8 = i + 1
    · rw [if_pos e]
      have e1 : ts.drop (i + 1) = [] := List.drop_eq_nil_of_le (by omega)
      rw [e1]
      exact ⟨⟨rfl, some _, _, by rw [show ts.length - (i + 1) = 0 by omega]; rfl, (fun h => nomatch h), fun h => by simp at h⟩, by simp⟩
    · rw [if_neg e]; exact hL.rd (i + 1) _
  generalize (if 8 = i + 1 then 0 else i + 1) = o at *
  have hcast : ((i + 1 : Nat) : Int) = (i : Int) + 1 := by omega
  rw [hcast] at hs8
  clear hL hi hcast
  have hi8 : (i : Int) + 1 ≤ 8 := by omega
  have hw : IntKind.i64.wrap ((i : Int) + 1) = (i : Int) + 1 := IntWalk.i64_in _ (by omega)
  go_enter Try.func26, Try.ntmps26
  go_wp2_with (go_at_call 43; refine (find_at g ts d t i _ HL.out HI.out).mono ?_; rintro e w' ⟨rfl, n, rfl⟩)
  go_region_with (go_at_call 44; refine (clone_any _ _ _ (HR.out.drewN _)).mono ?_; rintro e w' ⟨v, rfl, hN⟩)
  go_wp2_with (go_at_call 46; refine (reverse_any v _ _ hN.1 (by simp; omega)).mono ?_; rintro e w2 ⟨rfl, hs2, hf2⟩)
  go_ret2
  refine ⟨v, rfl, hs2, (Fr.drewN w _ No).trans (hN.2.1.trans hf2 (fun _ _ h => h.elim) (fun i hi e => absurd hi (by have := hN.2.2 i e; omega)) (T := No)) (fun _ _ h => h) (fun _ _ h => h), fun k hk => hN.2.2 k hk⟩

def popE (ts : List Int) : Int := if ts = [] then 4 else 0
def popX (ts : List Int) : Int := ts.getLast?.getD 0
theorem pop_any (g : Nat) (ts : List Int) (d : Nat) (w : World) (hL : LaneAt w g ts d) :
    Calls Try.prog 17 #[.pointer (some ⟨g, 0, none⟩)] w fun e w' => e = .returned (.tuple #[.int .i64 (popX ts), .int .i64 (popE ts)]) ∧ LaneAt w' g ts.dropLast d ∧ Fr w w' (One g) := by
  rcases List.eq_nil_or_concat ts with rfl | ⟨ts', x, rfl⟩
  · exact (pop_none g d w hL).mono (by rintro e w' ⟨rfl, rfl⟩; exact ⟨rfl, hL, Fr.refl _ _⟩)
  · rw [List.concat_eq_append] at *
    have h1 : popX (ts' ++ [x]) = x := by simp [popX]
    have h2 : popE (ts' ++ [x]) = 0 := by simp [popE]
    rw [h1, h2, List.dropLast_concat]
    exact pop_some g ts' x d w hL
/-- A cell of a slice of structs that can be read. -/
theorem Rd.get {w : World} {a : Option Addr} {n c : Nat} {fl : List Int} {m : Nat} (h : Rd w (.slice a n c) n (fl.map (Value.int .i64)) m) (k : Nat) (hk : k < n) :
    ∃ b off, a = some ⟨b, off, none⟩ ∧ ∀ j, j < m → w.cell? ⟨b, off + k * m + j, none⟩ = some (.int .i64 (fl.getD (k * m + j) 0)) := by
  obtain ⟨hl, a', c', hv, _, hs⟩ := h
  cases hv
  obtain ⟨b, off, rfl, hc⟩ := hs (by omega)
  refine ⟨b, off, rfl, fun j hj => ?_⟩
  have hlt : k * m + j < fl.length := by
    have : k * m + m ≤ n * m := by rw [← Nat.succ_mul]; exact Nat.mul_le_mul_right _ hk
    simp at hl; omega
  rw [Nat.add_assoc]
  exact hc _ _ (by simp [List.getElem?_eq_getElem hlt, List.getD])

/-! ### The contracts at given answers -/
theorem push_is (g : Nat) (ts : List Int) (d : Nat) (t : Int) (E : Int) (T : List Int) (w : World) (hL : LaneAt w g ts d) (hE : pushE d ts t = E) (hT : pushT d ts t = T) :
    Calls Try.prog 16 #[.pointer (some ⟨g, 0, none⟩), .int .i64 t] w fun e w' => e = .returned (.int .i64 E) ∧ LaneAt w' g T d ∧ Fr w w' (One g) := by
  subst hE; subst hT; exact push_any g ts d t w hL
theorem take_is (g : Nat) (ts : List Int) (d : Nat) (t : Int) (E : Int) (T : List Int) (w : World) (hL : LaneAt w g ts d) (hE : takeE ts t = E) (hT : takeT ts t = T) :
    Calls Try.prog 22 #[.pointer (some ⟨g, 0, none⟩), .int .i64 t] w fun e w' => e = .returned (.int .i64 E) ∧ LaneAt w' g T d ∧ Fr w w' (One g) := by
  subst hE; subst hT; exact take_any g ts d t w hL
theorem pop_is (g : Nat) (ts : List Int) (x : Int) (ts' : List Int) (d : Nat) (w : World) (hL : LaneAt w g ts d) (hT : ts = ts' ++ [x]) :
    Calls Try.prog 17 #[.pointer (some ⟨g, 0, none⟩)] w fun e w' => e = .returned (.tuple #[.int .i64 x, .int .i64 0]) ∧ LaneAt w' g ts' d ∧ Fr w w' (One g) := by
  subst hT; exact pop_some g ts' x d w hL
theorem room_is (g : Nat) (ts : List Int) (d : Nat) (R : Int) (w : World) (hL : LaneAt w g ts d) (hR : (d : Int) - ts.length = R) :
    Calls Try.prog 18 #[.pointer (some ⟨g, 0, none⟩)] w fun e w' => e = .returned (.int .i64 R) ∧ ∃ n, w.drewN n = w' := by
  subst hR; exact room_any g ts d w hL

/-! ### The law's fixed fact -/
set_option maxRecDepth 100000 in
set_option maxHeartbeats 1000000 in
theorem awake_any (w : World) : Calls Try.prog 14 #[] w fun e w' => e = .returned (.bool true) ∧ Fr w w' No := by
  go_enter Try.func14, Try.ntmps14
  go_wp2_with fail
  refine (new_ok 2 w (by decide) (by decide)).mono ?_
  rintro e w1 ⟨rfl, hL1, hf1⟩
  go_wp2_with fail
  refine (push_is w.heap.size [] 2 1 0 [1] w1 hL1 (by decide) (by decide)).mono ?_
  rintro e w2 ⟨rfl, hL2, hf2⟩
  go_wp2_with fail
  refine (push_is w.heap.size [1] 2 2 0 [1, 2] w2 hL2 (by decide) (by decide)).mono ?_
  rintro e w3 ⟨rfl, hL3, hf3⟩
  go_wp2_with fail
  refine (push_is w.heap.size [1, 2] 2 3 5 [1, 2] w3 hL3 (by decide) (by decide)).mono ?_
  rintro e w4 ⟨rfl, hL4, hf4⟩
  go_wp2_with fail
  refine (take_is w.heap.size [1, 2] 2 1 110 [1, 2] w4 hL4 (by decide) (by decide)).mono ?_
  rintro e w5 ⟨rfl, hL5, hf5⟩
  go_wp2_with fail
  refine (pop_is w.heap.size [1, 2] 2 [1] 2 w5 hL5 rfl).mono ?_
  rintro e w6 ⟨rfl, hL6, hf6⟩
  go_wp2_with fail
  refine (take_is w.heap.size [1] 2 1 0 [] w6 hL6 (by decide) (by decide)).mono ?_
  rintro e w7 ⟨rfl, hL7, hf7⟩
  go_wp2_with fail
  refine (room_is w.heap.size [] 2 2 w7 hL7 (by decide)).mono ?_
  rintro e w8 ⟨rfl, n, rfl⟩
  go_wp2_with fail
  go_ret
  have hf := (((((hf2.rr hf3).rr hf4).rr hf5).rr hf6).rr hf7).to_drewN n
  exact ⟨rfl, hf1.trans hf (fun _ _ h => h) (fun i hi e => absurd hi (by rw [show i = w.heap.size from e]; omega))⟩

end Go.Proofs.Ytegoilhkooneaaa
