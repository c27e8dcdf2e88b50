/-
  Package grid: Lane, Room, best.
-/
import Derived.Test.YtegoilhkooneaaaGr
namespace Go.Proofs.Ytegoilhkooneaaa
open Go.RowKit Go.Sort
set_option linter.unusedVariables false
set_option linter.unusedSimpArgs false

def lan (R : List Lan) (i : Nat) : Lan := R.getD i (1, [])
/-- The totes of lane i; none outside. -/
def lanT (R : List Lan) (i : Int) : List Int := if 0 ≤ i ∧ i < R.length then (lan R i.toNat).2 else []

set_option maxHeartbeats 400000 in
theorem laneG_in (p : Nat) (gs : List Nat) (R : List Lan) (i : Nat) (w : World) (hR : RackAt w p gs R) (hi : i < R.length) :
    Calls Try.prog 36 #[.pointer (some ⟨p, 0, none⟩), .int .i64 i] w fun e w' => ∃ v, e = .returned v ∧ NewI w w' v (lan R i).2 := by
  obtain ⟨a, c, h1, h2⟩ := hR.open_
  obtain ⟨b, off, rfl, h3⟩ := h2.get i (by rw [hR.len]; exact hi)
  have HR := Lib.hid hR
  have q1 : ¬ (i : Int) < 0 := by omega
  have q2 : ¬ (R.length : Int) ≤ (i : Int) := by omega
  have q3 : (i : Int) < (R.length : Int) := by omega
  have HI := Lib.hid hi
  clear hR h2 hi
  go_enter Try.func36, Try.ntmps36
  go_wp2_with fail
  refine (totes_any _ (lan R i).2 (lan R i).1 _ (HR.out.lane i HI.out)).mono ?_
  rintro e w' ⟨v, rfl, hN⟩
  have HN := Lib.hid hN
  clear hN h1 h3
  go_wp2_with fail
  go_ret
  exact ⟨v, rfl, HN.out⟩
set_option maxHeartbeats 400000 in
theorem laneG_out (p : Nat) (gs : List Nat) (R : List Lan) (i : Int) (w : World) (hR : RackAt w p gs R) (hi : i < 0 ∨ (R.length : Int) ≤ i) :
    Calls Try.prog 36 #[.pointer (some ⟨p, 0, none⟩), .int .i64 i] w fun e w' => e = .returned (.slice none 0 0) ∧ w = w' := by
  obtain ⟨a, c, h1, h2⟩ := hR.open_
  have hcase : i < 0 ∨ (¬ i < 0 ∧ (R.length : Int) ≤ i) := by omega
  clear hR h2 hi
  rcases hcase with q1 | ⟨q1, q2⟩
  all_goals
    go_enter Try.func36, Try.ntmps36
    go_wp2_with fail
    go_ret
    exact ⟨rfl, rfl⟩
theorem laneG_any (p : Nat) (gs : List Nat) (R : List Lan) (i : Int) (w : World) (hR : RackAt w p gs R) :
    Calls Try.prog 36 #[.pointer (some ⟨p, 0, none⟩), .int .i64 i] w fun e w' => ∃ v, e = .returned v ∧ NewI w w' v (lanT R i) := by
  by_cases h : 0 ≤ i ∧ i < R.length
  · have := laneG_in p gs R i.toNat w hR (by omega)
    rw [Int.toNat_of_nonneg h.1] at this
    unfold lanT
    rw [if_pos h]
    exact this
  · unfold lanT
    rw [if_neg h]
    exact (laneG_out p gs R i w hR (by omega)).mono (by rintro e w' ⟨rfl, rfl⟩; exact ⟨_, rfl, Sl.nil _ _ _, Fr.refl _ _, by simp [Value.ownBlock]⟩)

/-- The room of a rack. -/
def roomR (R : List Lan) : Int := (R.map fun x => (x.1 : Int) - x.2.length).sum
theorem roomR_take (R : List Lan) (k : Nat) (hk : k < R.length) : roomR (R.take (k + 1)) = roomR (R.take k) + ((lan R k).1 - (lan R k).2.length) := by
  unfold roomR lan
  rw [List.take_succ_eq_append_getElem hk, List.map_append, List.sum_append]
  simp only [List.getD, List.getElem?_eq_getElem hk, Option.getD_some, List.map_cons, List.map_nil, List.sum_cons, List.sum_nil]
  omega

set_option maxHeartbeats 1000000 in
theorem roomG_any (p : Nat) (gs : List Nat) (R : List Lan) (w : World) (hR : RackAt w p gs R) :
    Calls Try.prog 31 #[.pointer (some ⟨p, 0, none⟩)] w fun e w' => e = .returned (.int .i64 (roomR R)) ∧ Fr w w' No := by
  obtain ⟨a, c, h1, h2⟩ := hR.open_
  have HR := Lib.hid hR
  have H2 := Lib.hid h2
  have hle := hR.le
  clear hR h2
  go_enter Try.func31, Try.ntmps31
  go_wp2_with fail
  go_loopg [3, 11] R.length (fun g v3 v11 wr => ∃ (k : Nat) (n : Int), k + g = R.length ∧ v11 = .int .i64 k ∧ v3 = .int .i64 n ∧ n = roomR (R.take k) ∧ 0 ≤ n ∧ n ≤ 8 * (k : Int) ∧ Fr w wr No)
  case atStart => exact ⟨0, 0, by omega, rfl, rfl, by simp [roomR], by omega, by omega, Fr.refl _ _⟩
  case round =>
    obtain ⟨k, n, hk, rfl, rfl, hn, hn0, hn1, hf⟩ := hrel
    have HK := Lib.hid hk
    have HN := Lib.hid hn
    have HF := Lib.hid hf
    clear hk hn hf
    by_cases hlt : k < R.length
    · obtain ⟨b, off, rfl, h3⟩ := (H2.out.keep0 HF.out).get k (by rw [HR.out.len]; exact hlt)
      have hL := (HR.out.keep0 HF.out).lane k hlt
      have hb1 : (lan R k).2.length ≤ (lan R k).1 := hL.1
      have hb2 : (lan R k).1 ≤ 8 := hL.2.2.1
      have HL := Lib.hid hL
      have hlt' : (k : Int) < (R.length : Int) := by omega
      have HLT := Lib.hid hlt
      have ht := roomR_take R k hlt
      have HT := Lib.hid ht
      clear hL hlt ht
      go_wp2_with fail
      refine (room_any _ (lan R k).2 (lan R k).1 _ HL.out).mono ?_
      rintro e w' ⟨rfl, q, rfl⟩
      have HF2 := Lib.hid (HF.out.to_drewN q)
      have hw : wrap64 (n + (((lan R k).1 : Int) - (lan R k).2.length)) = n + (((lan R k).1 : Int) - (lan R k).2.length) := by unfold wrap64; omega
      obtain ⟨m, hm⟩ : ∃ m, n + (((lan R k).1 : Int) - (lan R k).2.length) = m := ⟨_, rfl⟩
      have hm0 : 0 ≤ m ∧ m ≤ 8 * ((k : Int) + 1) := by omega
      have HM := Lib.hid hm
      generalize ((lan R k).1 : Int) - (lan R k).2.length = y at *
      have HW := Lib.hid hw
      clear hb1 hb2 hm
      go_wp2_with fail
      go_roundg (gk - 1)
      case measure => have := HK.out; have := HLT.out; omega
      case rel => exact ⟨k + 1, _, by have := HK.out; have := HLT.out; omega, by go_num, by rw [HW.out], by rw [HT.out, ← HN.out], by have := HM.out; omega, by have := HM.out; omega, HF2.out⟩
    · have e : R.take k = R := List.take_of_length_le (by omega)
      have hn := HN.out
      rw [e] at hn
      have HN2 := Lib.hid hn
      have hlt' : ¬ (k : Int) < (R.length : Int) := by omega
      clear HN hn e HK
      go_wp2_with fail
      go_ret
      exact ⟨by rw [HN2.out]; rfl, HF.out⟩
end Go.Proofs.Ytegoilhkooneaaa
