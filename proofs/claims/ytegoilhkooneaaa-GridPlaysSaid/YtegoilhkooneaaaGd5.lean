/-
  The document's rack: Put.
-/
import Derived.Test.YtegoilhkooneaaaGd4
namespace Go.Proofs.Ytegoilhkooneaaa
open Go.RowKit Go.Sort
set_option linter.unusedVariables false
set_option linter.unusedSimpArgs false

/-- Lanes as they may be. -/
def Small (R : List Lan) : Prop := R.length ≤ 32 ∧ ∀ i, i < R.length → (lan R i).2.length ≤ (lan R i).1 ∧ (lan R i).1 ≤ 8
theorem RackAt.small {w : World} {p : Nat} {gs : List Nat} {R : List Lan} (h : RackAt w p gs R) : Small R := ⟨h.le, fun i hi => ⟨(h.lane i hi).1, (h.lane i hi).2.2.1⟩⟩
theorem Small.good {R : List Lan} (h : Small R) : Good R := fun i hi => (h.2 i hi).1
theorem Small.eight {R : List Lan} (h : Small R) : ∀ i, i < R.length → (lan R i).2.length ≤ 8 := fun i hi => by have := h.2 i hi; omega

set_option maxRecDepth 100000 in
set_option maxHeartbeats 4000000 in
theorem refPut_any (w : World) (v : Value) (R : List Lan) (t : Int) (hD : DocAt w v R) (hS : Small R) :
    Calls Try.prog 38 #[.agg #[v], .int .i64 t] w fun e w' => RefS w (putR R t) (fun v' => .tuple #[.agg #[v'], .int .i64 (putI R t), .int .i64 (putE R t)]) e w' := by
  obtain ⟨a, c, rfl⟩ := hD.form
  have HD := Lib.hid hD
  have HS := Lib.hid hS
  obtain ⟨q0, q1, hq, hqs⟩ := two_blk w (.cells #[.slice a R.length c] 74) (.cells #[.slice none 0 0] 74)
  have Q0 := Lib.hid q0
  have Q1 := Lib.hid q1
  have HQ := Lib.hid hq
  obtain ⟨w1, hw1⟩ : ∃ w1, (w.alloc (.cells #[.slice a R.length c] 74)).alloc (.cells #[.slice none 0 0] 74) = w1 := ⟨_, rfl⟩
  rw [hw1] at Q0 Q1 HQ
  have HW1 := Lib.hid hw1
  clear hD hS q0 q1 hq hqs hw1
  -- what stands behind the last store
  have fin : ∀ (w2 : World), Fr w1 w2 No → w2.cell? ⟨w.heap.size, 0, none⟩ = some (.slice a R.length c) ∧ w2.cell? ⟨w.heap.size + 1, 0, none⟩ = some (.slice none 0 0) ∧ w2.frozen? ⟨w.heap.size + 1, 0, none⟩ = false ∧
      ∀ x, (w2.setCell ⟨w.heap.size + 1, 0, none⟩ x).cell? ⟨w.heap.size + 1, 0, none⟩ = some x := fun w2 h2 =>
    ⟨blk_cell (h2.blk Q0.out id) 0, blk_cell (h2.blk Q1.out id) 0, blk_frozen (h2.blk Q1.out id) 0, fun x => set_at (h2.blk Q1.out id) 0 (by decide) x⟩
  have finD : ∀ (w2 : World) (v2 : Value) (R2 : List Lan), Fr w1 w2 No → DocAt w2 v2 R2 → DocAt (w2.setCell ⟨w.heap.size + 1, 0, none⟩ v2) v2 R2 := fun w2 v2 R2 h2 hd =>
    hd.keep (Fr.setCell _ _ _) (fun b hb e => by
      obtain ⟨D, _, hdd⟩ := hd
      exact Sl.ne hdd.row (h2.blk Q1.out id) (by decide) (by rw [hb, show b = w.heap.size + 1 from e])) (fun u zs hu b hb e => Sl.ne hu (h2.blk Q1.out id) (by decide) (by rw [hb, show b = w.heap.size + 1 from e]))
  have finF : ∀ (w2 : World) (x : Value), Fr w1 w2 No → Fr w (w2.setCell ⟨w.heap.size + 1, 0, none⟩ x) No := fun w2 x h2 => (HQ.out.nn h2).to_new _ _ (by simp)
  have FIN := Lib.hid fin
  have FIND := Lib.hid finD
  have FINF := Lib.hid finF
  clear fin finD finF
  by_cases c1 : t < 1 ∨ 30 < t
  · have e1 : putE R t = 1 := by unfold putE; rw [if_pos c1]
    have e2 : putI R t = 0 := by unfold putI; rw [if_neg (by rw [e1]; decide)]
    have e3 : putR R t = R := by unfold putR; rw [if_neg (by rw [e1]; decide)]
    rw [e1, e2, e3]
    have hcase : t < 1 ∨ (¬ t < 1 ∧ 30 < t) := by omega
    obtain ⟨k0, k1, z1, s1⟩ := FIN.out w1 (Fr.refl _ _)
    clear e1 e2 e3 c1
    rcases hcase with q | ⟨q, q'⟩
    all_goals
      go_enter Try.func38, Try.ntmps38
      go_upto_region 1 with (fail)
      rw [HW1.out]
      go_wp2
      refine bodyPost_ret (v := .tuple #[.agg #[.slice a R.length c], .int .i64 0, .int .i64 1]) (by simp [results, Try.results38, go_sem, s1]) rfl ⟨_, rfl, FIND.out w1 _ _ (Fr.refl _ _) (HD.out.keep0 HQ.out), FINF.out w1 _ (Fr.refl _ _)⟩
  have d1 : ¬ t < 1 := by omega
  have d2 : ¬ 30 < t := by omega
  obtain ⟨k00, _, _, _⟩ := FIN.out w1 (Fr.refl _ _)
  by_cases c2 : 0 ≤ whereR t R
  · have e1 : putE R t = 2 := by unfold putE; rw [if_neg c1, if_pos c2]
    have e2 : putI R t = 0 := by unfold putI; rw [if_neg (by rw [e1]; decide)]
    have e3 : putR R t = R := by unfold putR; rw [if_neg (by rw [e1]; decide)]
    rw [e1, e2, e3]
    clear e1 e2 e3 c1
    go_enter Try.func38, Try.ntmps38
    go_upto_region 1 with (fail)
    rw [HW1.out]
    go_wp2_with fail
    refine (refWhere_any w1 _ R t (HD.out.keep0 HQ.out) HS.out.1 HS.out.eight).mono ?_
    rintro e w2 ⟨rfl, hf2⟩
    have HF2 := Lib.hid hf2
    obtain ⟨k0, k1, z1, s1⟩ := FIN.out w2 hf2
    clear hf2 k00
    go_wp2
    refine bodyPost_ret (v := .tuple #[.agg #[.slice a R.length c], .int .i64 0, .int .i64 2]) (by simp [results, Try.results38, go_sem, s1]) rfl ⟨_, rfl, FIND.out w2 _ _ HF2.out (HD.out.keep0 (HQ.out.nn HF2.out)), FINF.out w2 _ HF2.out⟩
  have hwn := where_none c2
  have HWN := Lib.hid hwn
  clear hwn
  by_cases c3 : putB R < 0
  · have e1 : putE R t = 5 := by unfold putE; rw [if_neg c1, if_neg c2, if_pos c3]
    have e2 : putI R t = 0 := by unfold putI; rw [if_neg (by rw [e1]; decide)]
    have e3 : putR R t = R := by unfold putR; rw [if_neg (by rw [e1]; decide)]
    rw [e1, e2, e3]
    clear e1 e2 e3 c1
    go_enter Try.func38, Try.ntmps38
    go_upto_region 1 with (fail)
    rw [HW1.out]
    go_wp2_with fail
    refine (refWhere_any w1 _ R t (HD.out.keep0 HQ.out) HS.out.1 HS.out.eight).mono ?_
    rintro e w2 ⟨rfl, hf2⟩
    have HF2 := Lib.hid hf2
    obtain ⟨k0, _, _, _⟩ := FIN.out w2 hf2
    clear hf2 k00
    go_wp2_with fail
    refine (refBest_any w2 _ R (-1) (HD.out.keep0 (HQ.out.nn HF2.out)) HS.out.1 HS.out.2).mono ?_
    rintro e w3 ⟨rfl, hf3⟩
    have HF3 := Lib.hid (HF2.out.nn hf3)
    have c3' : bestR (-1) R (zer R.length) < 0 := c3
    obtain ⟨k0', k1, z1, s1⟩ := FIN.out w3 (HF2.out.nn hf3)
    clear hf3 k0 c3
    go_wp2
    refine bodyPost_ret (v := .tuple #[.agg #[.slice a R.length c], .int .i64 0, .int .i64 5]) (by simp [results, Try.results38, go_sem, s1]) rfl ⟨_, rfl, FIND.out w3 _ _ HF3.out (HD.out.keep0 (HQ.out.nn HF3.out)), FINF.out w3 _ HF3.out⟩
  · obtain ⟨i, hi, hb, hok⟩ : ∃ i : Nat, i < R.length ∧ putB R = i ∧ okR (-1) R (zer R.length) i := bestR_lt (-1) R (zer R.length) c3
    have e1 : putE R t = 0 := by unfold putE; rw [if_neg c1, if_neg c2, if_neg c3]
    have e2 : putI R t = i := by unfold putI; rw [if_pos e1, hb]
    have e3 : putR R t = R.set i ((lan R i).1, (lan R i).2 ++ [t]) := by unfold putR; rw [if_pos e1, hb]; simp
    rw [e1, e2, e3]
    have hix := HWN.out i hi
    have hrm : (lan R i).2.length ≠ (lan R i).1 := by
      have := hok.2
      rw [zer_get] at this
      omega
    have hpe : pushE (lan R i).1 (lan R i).2 t = 0 := by unfold pushE; rw [if_neg c1, if_neg (by omega), if_neg hrm]
    have hpt : pushT (lan R i).1 (lan R i).2 t = (lan R i).2 ++ [t] := by unfold pushT; rw [if_pos hpe]
    have HPE := Lib.hid hpe
    have HPT := Lib.hid hpt
    have HI := Lib.hid hi
    have HB : Hid (bestR (-1) R (zer R.length) = i) := Lib.hid hb
    obtain ⟨hl1, hl2⟩ := HS.out.2 i hi
    have hi' : (i : Int) < (R.length : Int) := by omega
    have hi0 : ¬ (i : Int) < 0 := by omega
    have hi00 : (0 : Int) ≤ (i : Int) := by omega
    clear e1 e2 e3 c1 hix hrm hpe hpt hb hok c3
    go_enter Try.func38, Try.ntmps38
    go_upto_region 1 with (fail)
    rw [HW1.out]
    go_wp2_with fail
    refine (refWhere_any w1 _ R t (HD.out.keep0 HQ.out) HS.out.1 HS.out.eight).mono ?_
    rintro e w2 ⟨rfl, hf2⟩
    have HF2 := Lib.hid hf2
    obtain ⟨k0, _, _, _⟩ := FIN.out w2 hf2
    clear hf2 k00
    go_wp2_with fail
    refine (refBest_any w2 _ R (-1) (HD.out.keep0 (HQ.out.nn HF2.out)) HS.out.1 HS.out.2).mono ?_
    rw [HB.out]
    rintro e w3 ⟨rfl, hf3⟩
    have HF3 := Lib.hid (HF2.out.nn hf3)
    obtain ⟨k0', _, _, _⟩ := FIN.out w3 (HF2.out.nn hf3)
    have hD3 := HD.out.keep0 (HQ.out.nn HF3.out)
    have HD3 := Lib.hid hD3
    obtain ⟨b, off, a2, c2', ha, m1, m2, hs⟩ := hD3.at_ i HI.out
    subst ha
    have HSL := Lib.hid hs
    clear hf3 k0 hs hD3
    go_wp2_with fail
    refine (refPush_any w3 (lan R i).1 _ (lan R i).2 t HSL.out hl1 hl2).mono ?_
    rintro e w4 ⟨v4, rfl, hr4⟩
    rw [HPE.out]
    rw [HPT.out] at hr4
    obtain ⟨hs4, hf4, _⟩ := hr4
    obtain ⟨a4, c4, hv4⟩ := slv_form hs4
    rw [List.length_append, List.length_singleton] at hv4
    subst hv4
    have HF4 := Lib.hid (HF3.out.nn hf4)
    have HS4 := Lib.hid hs4
    have HD4 := Lib.hid (HD3.out.keep0 hf4)
    obtain ⟨k0'', _, _, _⟩ := FIN.out w4 (HF3.out.nn hf4)
    have hb0 : w.heap.size < w4.heap.size := World.block_lt_of_cell? _ _ k0''
    clear hf4 hs4 m1 m2 k0'
    go_wp2_with fail
    have HA := Lib.hid (Fr.alloc w4 (.cells #[.int .i64 ((lan R i).1 : Nat), .slice a4 ((lan R i).2.length + 1) c4] 42) No)
    refine (refSet_any _ _ (.slice a4 ((lan R i).2.length + 1) c4) R i (lan R i).1 ((lan R i).2 ++ [t]) (HD4.out.keep0 HA.out) (Sl.keep0 HS4.out HA.out) HI.out HS.out.1).mono ?_
    rintro e w6 ⟨v6, rfl, hD6, hf6⟩
    have HF6 := Lib.hid (HF4.out.nn (HA.out.nn hf6))
    have HD6 := Lib.hid hD6
    obtain ⟨a6, c6, rfl⟩ := hD6.form
    rw [List.length_set] at HD6 ⊢
    obtain ⟨k0', k1, z1, s1⟩ := FIN.out w6 (HF4.out.nn (HA.out.nn hf6))
    clear hf6 hD6 k0''
    go_wp2
    refine bodyPost_ret (v := .tuple #[.agg #[.slice a6 R.length c6], .int .i64 i, .int .i64 0]) (by simp [results, Try.results38, go_sem, s1]) rfl ⟨_, rfl, FIND.out w6 _ _ HF6.out HD6.out, FINF.out w6 _ HF6.out⟩
end Go.Proofs.Ytegoilhkooneaaa
