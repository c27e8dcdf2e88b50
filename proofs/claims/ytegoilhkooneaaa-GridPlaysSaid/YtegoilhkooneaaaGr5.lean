/-
  Package grid: Put.
-/
import Derived.Test.YtegoilhkooneaaaGr4
namespace Go.Proofs.Ytegoilhkooneaaa
open Go.RowKit Go.Sort
set_option linter.unusedVariables false
set_option linter.unusedSimpArgs false

def zer (n : Nat) : List Int := List.replicate n 0
set_option maxRecDepth 100000 in
theorem make_ints (n : Nat) (hn : n ≤ 100) (W : World) : (Instr.makeSlice 22 (.int .i64 (n : Int)) (.int .i64 (n : Int))).run Try.prog W = .ok (.slice (some ⟨W.heap.size, 0, none⟩) n n) (W.alloc (.cells (Array.replicate n (.int .i64 0)) 3)) := by
  obtain ⟨i0, hi, hz, hs, hb⟩ := info_parts info3
  have hr := run_make (P := Try.prog) W 22 3 i0 (.int .i64 0) Try.underlying22 hi hz .i64 .i64 n n (by omega) (by omega) (by rw [hb]; omega) (by omega)
  simp only [Int.toNat_natCast, hs] at hr
  rw [hr]
  congr 3
  apply Array.ext'
  apply List.ext_getElem
  · simp [madeCells, Value.cells]
  · intro j h1 h2
    simp [madeCells, Value.cells, Nat.mod_one]
theorem made_zer (w : World) (n : Nat) (hn : n ≤ 100) : RdI (w.alloc (.cells (Array.replicate n (.int .i64 0)) 3)) (.slice (some ⟨w.heap.size, 0, none⟩) n n) (zer n) := by
  have h := Sl.made (k := 1) (blk_new w (.cells (Array.replicate n (.int .i64 0)) 3)) (n := n) (by simp) (by unfold maxLen; omega)
  have e : (Array.replicate n (Value.int .i64 0)).toList = (zer n).map (Value.int .i64) := by simp [zer]
  rw [e] at h
  have hl : (zer n).length = n := by simp [zer]
  refine ⟨?_, by rw [hl]; omega⟩
  rw [hl]
  exact Sl.rd h
theorem zer_get (n i : Nat) : (zer n).getD i 0 = 0 := by
  simp only [zer, List.getD, List.getElem?_replicate]; split <;> rfl
def putB (R : List Lan) : Int := bestR (-1) R (zer R.length)
def putE (R : List Lan) (t : Int) : Int := if t < 1 ∨ 30 < t then 1 else if 0 ≤ whereR t R then 2 else if putB R < 0 then 5 else 0
def putI (R : List Lan) (t : Int) : Int := if putE R t = 0 then putB R else 0
def putR (R : List Lan) (t : Int) : List Lan := if putE R t = 0 then R.set (putB R).toNat ((lan R (putB R).toNat).1, (lan R (putB R).toNat).2 ++ [t]) else R
theorem where_none {t : Int} {R : List Lan} (h : ¬ 0 ≤ whereR t R) (i : Nat) (hi : i < R.length) : idx t (lan R i).2 < 0 := by
  rcases Int.lt_or_le (idx t (lan R i).2) 0 with h' | h'
  · exact h'
  · exfalso
    apply h
    clear h
    induction R generalizing i with
    | nil => simp at hi
    | cons x r ih =>
      unfold whereR
      split
      · omega
      · rename_i hx
        cases i with
        | zero => simp [lan] at h'; omega
        | succ i =>
          have := ih i (by simpa using hi) (by simpa [lan] using h')
          rw [if_neg (by omega)]
          omega

set_option maxHeartbeats 2000000 in
theorem put_any (p : Nat) (gs : List Nat) (R : List Lan) (t : Int) (w : World) (hR : RackAt w p gs R) :
    Calls Try.prog 30 #[.pointer (some ⟨p, 0, none⟩), .int .i64 t] w fun e w' => e = .returned (.tuple #[.int .i64 (putI R t), .int .i64 (putE R t)]) ∧ RackAt w' p gs (putR R t) ∧ Fr w w' (In gs) := by
  have HR := Lib.hid hR
  by_cases c1 : t < 1 ∨ 30 < t
  · have e1 : putE R t = 1 := by unfold putE; rw [if_pos c1]
    have e2 : putI R t = 0 := by unfold putI; rw [if_neg (by rw [e1]; decide)]
    have e3 : putR R t = R := by unfold putR; rw [if_neg (by rw [e1]; decide)]
    rw [e1, e2, e3]
    have hcase : t < 1 ∨ (¬ t < 1 ∧ 30 < t) := by omega
    clear e1 e2 e3 c1 hR
    rcases hcase with q | ⟨q, q'⟩
    all_goals
      go_enter Try.func30, Try.ntmps30
      go_wp2_with fail
      go_ret2
      exact ⟨rfl, HR.out, Fr.refl _ _⟩
  have d1 : ¬ t < 1 := by omega
  have d2 : ¬ 30 < t := by omega
  by_cases c2 : 0 ≤ whereR t R
  · have e1 : putE R t = 2 := by unfold putE; rw [if_neg c1, if_pos c2]
    have e2 : putI R t = 0 := by unfold putI; rw [if_neg (by rw [e1]; decide)]
    have e3 : putR R t = R := by unfold putR; rw [if_neg (by rw [e1]; decide)]
    rw [e1, e2, e3]
    clear e1 e2 e3 c1 hR
    go_enter Try.func30, Try.ntmps30
    go_wp2_with fail
    refine (where_any p gs R t _ HR.out).mono ?_
    rintro e w1 ⟨rfl, hf1⟩
    have HF := Lib.hid hf1
    clear hf1
    go_wp2_with fail
    go_ret2
    exact ⟨rfl, HR.out.keep0 HF.out, HF.out.no _⟩
  have hwn := where_none c2
  have h32 := hR.le
  have hmk := make_ints R.length (by omega)
  obtain ⟨a, c, h1, h2⟩ := hR.open_
  have H1 := Lib.hid h1
  have H2 := Lib.hid h2
  have HWN := Lib.hid hwn
  clear hwn h1 h2
  by_cases c3 : putB R < 0
  · have e1 : putE R t = 5 := by unfold putE; rw [if_neg c1, if_neg c2, if_pos c3]
    have e2 : putI R t = 0 := by unfold putI; rw [if_neg (by rw [e1]; decide)]
    have e3 : putR R t = R := by unfold putR; rw [if_neg (by rw [e1]; decide)]
    rw [e1, e2, e3]
    clear e1 e2 e3 c1 hR
    go_enter Try.func30, Try.ntmps30
    go_wp2_with fail
    refine (where_any p gs R t _ HR.out).mono ?_
    rintro e w1 ⟨rfl, hf1⟩
    have h1 := hf1.cell H1.out id
    have HF := Lib.hid hf1
    clear hf1
    go_wp2_with fail
    refine (best_any p gs R (-1) _ (zer R.length) _ ((HR.out.keep0 HF.out).keep0 (Fr.alloc _ _ _)) (made_zer w1 R.length (by omega)) (by simp [zer]) (fun i _ => by rw [zer_get]; omega)).mono ?_
    rintro e w2 ⟨rfl, hf2⟩
    have HF2 := Lib.hid (HF.out.nn ((Fr.alloc _ _ No).nn hf2))
    have c3' : bestR (-1) R (zer R.length) < 0 := c3
    clear hf2 c3 h1
    go_wp2_with fail
    go_ret2
    exact ⟨rfl, HR.out.keep0 HF2.out, HF2.out.no _⟩
  · obtain ⟨i, hi, hb, hok⟩ : ∃ i : Nat, i < R.length ∧ putB R = i ∧ okR (-1) R (zer R.length) i := by
      rcases bstR_spec (-1) R (zer R.length) R.length with ⟨h, _⟩ | ⟨i, hi, h, hok, _⟩
      · exfalso; apply c3; unfold putB bestR; rw [h]; decide
      · exact ⟨i, hi, by unfold putB bestR; rw [h], hok⟩
    have e1 : putE R t = 0 := by unfold putE; rw [if_neg c1, if_neg c2, if_neg c3]
    have e2 : putI R t = i := by unfold putI; rw [if_pos e1, hb]
    have e3 : putR R t = R.set i ((lan R i).1, (lan R i).2 ++ [t]) := by unfold putR; rw [if_pos e1, hb]; simp
    rw [e1, e2, e3]
    have hix := HWN.out i hi
    have hrm : (lan R i).2.length ≠ (lan R i).1 := by
      have := hok.2
      rw [zer_get] at this
      omega
    have hpe : pushE (lan R i).1 (lan R i).2 t = 0 := by unfold pushE; rw [if_neg c1, if_neg (by omega), if_neg hrm]
    have hpt : pushT (lan R i).1 (lan R i).2 t = (lan R i).2 ++ [t] := by unfold pushT; rw [if_pos hpe]
    have HPE := Lib.hid hpe
    have HPT := Lib.hid hpt
    have HI := Lib.hid hi
    have HB : Hid (bestR (-1) R (zer R.length) = i) := Lib.hid hb
    have hin := getD_in gs i (by rw [hR.len]; exact hi)
    have HIN := Lib.hid hin
    have hi' : (i : Int) < (R.length : Int) := by omega
    have hi0 : ¬ (i : Int) < 0 := by omega
    obtain ⟨b, off, rfl, h3⟩ := H2.out.get i (by rw [hR.len]; exact hi)
    have H3 := Lib.hid h3
    clear e1 e2 e3 c1 hR hix hrm hpe hpt hb hok hin h3 c3
    go_enter Try.func30, Try.ntmps30
    go_wp2_with fail
    refine (where_any p gs R t _ HR.out).mono ?_
    rintro e w1 ⟨rfl, hf1⟩
    have h1 := hf1.cell H1.out id
    have HF := Lib.hid hf1
    clear hf1
    go_wp2_with fail
    refine (best_any p gs R (-1) _ (zer R.length) _ ((HR.out.keep0 HF.out).keep0 (Fr.alloc _ _ _)) (made_zer w1 R.length (by omega)) (by simp [zer]) (fun i _ => by rw [zer_get]; omega)).mono ?_
    rw [HB.out]
    rintro e w2 ⟨rfl, hf2⟩
    have hfa := HF.out.nn ((Fr.alloc w1 (.cells (Array.replicate R.length (.int .i64 0)) 3) No).nn hf2)
    have HF2 := Lib.hid hfa
    have g1 := hfa.cell H1.out id
    have g3 := hfa.cell H3.out id
    clear hf2 h1 hfa
    go_wp2_with fail
    refine (push_any _ (lan R i).2 (lan R i).1 t _ ((HR.out.keep0 HF2.out).lane i HI.out)).mono ?_
    rw [HPE.out, HPT.out]
    rintro e w3 ⟨rfl, hL, hf3⟩
    have HL := Lib.hid hL
    have HF3 := Lib.hid hf3
    clear hL hf3 g1 g3
    go_wp2_with fail
    go_ret2
    exact ⟨rfl, (HR.out.keep0 HF2.out).upd i HI.out HL.out HF3.out, HF2.out.n1 (HF3.out.mono (fun k _ e => by rw [show k = gs.getD i 0 from e]; exact HIN.out))⟩
end Go.Proofs.Ytegoilhkooneaaa
