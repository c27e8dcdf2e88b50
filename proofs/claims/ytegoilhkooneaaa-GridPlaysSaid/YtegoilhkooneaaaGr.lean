/-
  Package grid: a rack in memory; Where.
-/
import Derived.Test.YtegoilhkooneaaaLn2
import Derived.Lib.QuietBelow
namespace Go.Proofs.Ytegoilhkooneaaa
open Go.RowKit Go.Sort
set_option linter.unusedVariables false
set_option linter.unusedSimpArgs false

/-- A lane of a rack: its depth, its totes. -/
abbrev Lan := Nat × List Int
def ptrV (g : Nat) : Value := .pointer (some ⟨g, 0, none⟩)
/-- The rack's lanes lie in these blocks. -/
structure Lanes (w : World) (gs : List Nat) (R : List Lan) : Prop where
  len : gs.length = R.length
  at_ : ∀ i, i < R.length → LaneAt w (gs.getD i 0) (R.getD i (1, [])).2 (R.getD i (1, [])).1
  inj : ∀ i j, i < R.length → j < R.length → gs.getD i 0 = gs.getD j 0 → i = j
/-- A slice of lanes that can be read. -/
def RdP (w : World) (v : Value) (gs : List Nat) : Prop := Rd w v gs.length (gs.map ptrV) 1
structure RackAt (w : World) (p : Nat) (gs : List Nat) (R : List Lan) : Prop where
  row : ∃ v, w.heap[p]? = some (.cells #[v] 99 (0, 0)) ∧ Sl w 25 1 v gs.length (gs.map ptrV)
  lanes : Lanes w gs R
  le : R.length ≤ 32

theorem getD_in (gs : List Nat) (i : Nat) (h : i < gs.length) : gs.getD i 0 ∈ gs := by
  simp [List.getD, List.getElem?_eq_getElem h]
def In (gs : List Nat) : Nat → Prop := fun k => k ∈ gs
theorem Lanes.keep {w w' : World} {S : Nat → Prop} {gs : List Nat} {R : List Lan} (h : Lanes w gs R) (hf : Fr w w' S) (hS : ∀ g ∈ gs, ¬ S g) : Lanes w' gs R :=
  ⟨h.len, fun i hi => (h.at_ i hi).keep hf (hS _ (getD_in gs i (by rw [h.len]; exact hi))), h.inj⟩
theorem Lanes.keep0 {w w' : World} {gs : List Nat} {R : List Lan} (h : Lanes w gs R) (hf : Fr w w' No) : Lanes w' gs R := h.keep hf (fun _ _ h => h)
theorem RackAt.keep0 {w w' : World} {p : Nat} {gs : List Nat} {R : List Lan} (h : RackAt w p gs R) (hf : Fr w w' No) : RackAt w' p gs R := by
  obtain ⟨v, h1, h2⟩ := h.row
  exact ⟨⟨v, hf.blk h1 id, h2.keep0 hf⟩, h.lanes.keep0 hf, h.le⟩
theorem RackAt.len {w : World} {p : Nat} {gs : List Nat} {R : List Lan} (h : RackAt w p gs R) : gs.length = R.length := h.lanes.len
theorem RackAt.lane {w : World} {p : Nat} {gs : List Nat} {R : List Lan} (h : RackAt w p gs R) (i : Nat) (hi : i < R.length) : LaneAt w (gs.getD i 0) (R.getD i (1, [])).2 (R.getD i (1, [])).1 := h.lanes.at_ i hi
theorem RackAt.open_ {w : World} {p : Nat} {gs : List Nat} {R : List Lan} (h : RackAt w p gs R) :
    ∃ a c, w.cell? ⟨p, 0, none⟩ = some (.slice a R.length c) ∧ RdP w (.slice a R.length c) gs := by
  obtain ⟨v, h1, h2⟩ := h.row
  have h3 := Sl.rd h2
  obtain ⟨_, a, c, rfl, _⟩ := h3
  refine ⟨a, c, ?_, ?_⟩
  · rw [← h.len]; exact blk_cell h1 0
  · rw [← h.len]; exact Sl.rd h2
theorem RdP.get {w : World} {a : Option Addr} {n c : Nat} {gs : List Nat} (h : RdP w (.slice a n c) gs) (k : Nat) (hk : k < gs.length) :
    ∃ b off, a = some ⟨b, off, none⟩ ∧ w.cell? ⟨b, off + k, none⟩ = some (.pointer (some ⟨gs.getD k 0, 0, none⟩)) := by
  obtain ⟨_, a', c', hv, _, hs⟩ := h
  cases hv
  obtain ⟨b, off, rfl, hc⟩ := hs (by omega)
  exact ⟨b, off, rfl, hc k _ (by simp [List.getElem?_eq_getElem hk, List.getD, ptrV])⟩
theorem RdP.keep0 {w w' : World} {v : Value} {gs : List Nat} (h : RdP w v gs) (hf : Fr w w' No) : RdP w' v gs := Rd.keep0 h hf

/-- The place of the lane that holds a tote; -1: none. -/
def whereR (t : Int) : List Lan → Int
  | [] => -1
  | x :: r => if 0 ≤ idx t x.2 then 0 else if whereR t r < 0 then -1 else whereR t r + 1
theorem whereR_hit (t : Int) (R : List Lan) (k : Nat) (hk : k < R.length) (h : ∀ j, j < k → idx t (R.getD j (1, [])).2 < 0) (he : 0 ≤ idx t (R.getD k (1, [])).2) : whereR t R = k := by
  induction R generalizing k with
  | nil => simp at hk
  | cons x r ih =>
    cases k with
    | zero => simp at he; simp [whereR, he]
    | succ k =>
      have h0 := h 0 (by omega)
      simp at h0
      have := ih k (by simpa using hk) (fun j hj => by have := h (j + 1) (by omega); simpa using this) (by simpa using he)
      unfold whereR
      rw [if_neg (by omega), this, if_neg (by omega)]
      omega
theorem whereR_miss (t : Int) (R : List Lan) (h : ∀ j, j < R.length → idx t (R.getD j (1, [])).2 < 0) : whereR t R = -1 := by
  induction R with
  | nil => rfl
  | cons x r ih =>
    have h0 := h 0 (by simp)
    simp at h0
    have := ih (fun j hj => by have := h (j + 1) (by simp; omega); simpa using this)
    unfold whereR
    rw [if_neg (by omega), this, if_pos (by omega)]
theorem whereR_ge (t : Int) (R : List Lan) : -1 ≤ whereR t R := by
  induction R with
  | nil => simp [whereR]
  | cons x r ih => unfold whereR; split; omega; split <;> omega
theorem whereR_lt (t : Int) (R : List Lan) : whereR t R < R.length := by
  induction R with
  | nil => simp [whereR]
  | cons x r ih => unfold whereR; simp only [List.length_cons]; split; omega; split <;> omega
theorem whereR_at (t : Int) (R : List Lan) (k : Nat) (h : whereR t R = k) : k < R.length ∧ 0 ≤ idx t (R.getD k (1, [])).2 ∧ ∀ j, j < k → idx t (R.getD j (1, [])).2 < 0 := by
  induction R generalizing k with
  | nil => simp only [whereR] at h; omega
  | cons x r ih =>
    unfold whereR at h
    split at h
    · rename_i h0
      obtain rfl : k = 0 := by omega
      exact ⟨by simp, h0, fun j hj => absurd hj (Nat.not_lt_zero j)⟩
    · split at h
      · omega
      · cases k with
        | zero => omega
        | succ k =>
          obtain ⟨h1, h2, h3⟩ := ih k (by omega)
          refine ⟨by simpa using h1, by simpa using h2, fun j hj => ?_⟩
          cases j with
          | zero => simp; omega
          | succ j => simpa using h3 j (by omega)

/-! ### The lane that Where looks for -/
def HasT (t : Int) (ts : List Int) (w : World) (e : Ending) (w' : World) : Prop := e = .returned (.bool (has t ts)) ∧ Fr w w' No
set_option maxHeartbeats 400000 in
theorem where1_any (g : Nat) (ts : List Int) (d : Nat) (t : Int) (c : Nat) (w : World) (hL : LaneAt w g ts d) (hc : w.cell? ⟨c, 0, none⟩ = some (.int .i64 t)) :
    Calls Try.prog 49 #[.pointer (some ⟨g, 0, none⟩), .pointer (some ⟨c, 0, none⟩)] w fun e w' => HasT t ts w e w' := by
  have HL := Lib.hid hL
  have h8 : ts.length ≤ 8 := by obtain ⟨h1, h2, h3, _⟩ := hL; omega
  have H8 := Lib.hid h8
  clear hL h8
  go_enter Try.func49, Try.ntmps49
  go_wp2_with fail
  go_region_with (first
    | (go_at_call 19; refine (totes_any g ts d _ (HL.out.keep (Fr.drew _ No) id)).mono ?_; rintro e w' ⟨v, rfl, hN⟩; have hc2 := hN.2.1.cell (Fr.cell (Fr.drew w No) hc id) id)
    | (go_at_call 50; refine (contains_any v ts t _ (SlI.rd hN.1 (by have := H8.out; omega))).mono ?_; rintro e w2 ⟨rfl, rfl⟩))
  all_goals
    go_wp2
    go_ret
    exact ⟨rfl, (Fr.drew w No).nn hN.2.1⟩

set_option maxHeartbeats 1000000 in
theorem indexF_any (v : Value) (gs : List Nat) (R : List Lan) (c : Nat) (t : Int) (w : World) (hv : RdP w v gs) (hL : Lanes w gs R) (h32 : R.length ≤ 32) (hc : w.cell? ⟨c, 0, none⟩ = some (.int .i64 t)) :
    Calls Try.prog 48 #[v, .func (.func 49) #[] #[.pointer (some ⟨c, 0, none⟩)]] w fun e w' => e = .returned (.int .i64 (whereR t R)) ∧ Fr w w' No := by
  obtain ⟨_, a, c', rfl, _⟩ := id hv
  have hlen := hL.len
  rw [hlen] at hv ⊢
  have HV := Lib.hid hv
  have HL := Lib.hid hL
  have HC := Lib.hid hc
  have HE := Lib.hid hlen
  clear hv hL hc hlen
  go_enter Try.func48, Try.ntmps48
  go_wp2
  go_loopg [5, 8] R.length (fun g _ i wr => ∃ k : Nat, k + g = R.length ∧ i = .int .i64 k ∧ (∀ j, j < k → idx t (R.getD j (1, [])).2 < 0) ∧ Fr w wr No)
  case atStart => exact ⟨0, by omega, rfl, by omega, Fr.refl _ _⟩
  case round =>
    obtain ⟨k, hk, rfl, hn, hf⟩ := hrel
    have HN := Lib.hid hn
    have HF := Lib.hid hf
    have HK := Lib.hid hk
    clear hn hf
    by_cases hlt : k < R.length
    · obtain ⟨b, off, rfl, h1⟩ := (HV.out.keep0 HF.out).get k (by rw [HE.out]; exact hlt)
      clear hk
      go_wp2_with fail
      refine (where1_any _ (R.getD k (1, [])).2 (R.getD k (1, [])).1 t c _ ((HL.out.keep0 HF.out).at_ k hlt) (HF.out.cell HC.out id)).mono ?_
      rintro e w2 ⟨rfl, hf2⟩
      have HF2 := Lib.hid (HF.out.nn hf2)
      clear h1 hf2
      by_cases ho : 0 ≤ idx t (R.getD k (1, [])).2
      · have HI : Hid (whereR t R = k) := Lib.hid (whereR_hit t R k hlt HN.out ho)
        have hd : has t (R.getD k (1, [])).2 = true := by simpa [has] using ho
        clear ho
        rw [hd]
        clear hd
        go_wp2
        go_ret
        exact ⟨by rw [HI.out]; rfl, HF2.out⟩
      · have HO := Lib.hid ho
        have hd : has t (R.getD k (1, [])).2 = false := by simpa [has] using ho
        clear ho
        rw [hd]
        clear hd
        go_wp2
        go_roundg (gk - 1)
        case rel =>
          refine ⟨k + 1, by have := HK.out; omega, by go_num, fun j hj => ?_, HF2.out⟩
          rcases Nat.lt_or_ge j k with h | h
          · exact HN.out j h
          · obtain rfl : j = k := by omega
            have := HO.out
            omega
        case measure => have := HK.out; omega
    · have HI : Hid (whereR t R = -1) := Lib.hid (whereR_miss t R (fun j hj => HN.out j (by omega)))
      clear hk
      go_wp2
      go_ret
      exact ⟨by rw [HI.out]; rfl, HF.out⟩

set_option maxHeartbeats 400000 in
theorem where_any (p : Nat) (gs : List Nat) (R : List Lan) (t : Int) (w : World) (hR : RackAt w p gs R) :
    Calls Try.prog 34 #[.pointer (some ⟨p, 0, none⟩), .int .i64 t] w fun e w' => e = .returned (.int .i64 (whereR t R)) ∧ Fr w w' No := by
  have hmf : ∀ (fn : Fn) (first cap : Array Value) (w : World), (Instr.makeFunc fn first cap).run Try.prog w = .ok (.func fn first cap) w := fun _ _ _ _ => rfl
  obtain ⟨a, c, h1, h2⟩ := hR.open_
  have HR := Lib.hid hR
  have H2 := Lib.hid h2
  have h1' := (Fr.alloc w (.cells #[.int .i64 t] 3) No).cell h1 id
  clear hR h2
  go_enter Try.func34, Try.ntmps34
  go_wp2_with fail
  refine (indexF_any _ gs R w.heap.size t _ (H2.out.keep0 (Fr.alloc _ _ _)) (HR.out.lanes.keep0 (Fr.alloc _ _ _)) HR.out.le (blk_cell (blk_new _ _) 0)).mono ?_
  rintro e w2 ⟨rfl, hf⟩
  go_wp2
  go_ret
  exact ⟨rfl, (Fr.alloc _ _ _).nn hf⟩

end Go.Proofs.Ytegoilhkooneaaa
