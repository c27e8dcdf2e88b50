/-
  The document's rack: Do.
-/
import Derived.Test.YtegoilhkooneaaaGd5
namespace Go.Proofs.Ytegoilhkooneaaa
open Go.RowKit Go.Sort
set_option linter.unusedVariables false
set_option linter.unusedSimpArgs false

/-- The three boxes of Do: the rack, the move, the result. -/
structure DoBox (w w1 : World) (v : Value) (t f o : Int) : Prop where
  b0 : w1.heap[w.heap.size]? = some (.cells #[v] 74 (0, 0))
  b1 : w1.heap[w.heap.size + 1]? = some (.cells #[.int .i64 t, .int .i64 f, .int .i64 o] 86 (0, 0))
  b2 : w1.heap[w.heap.size + 2]? = some (.cells #[.slice none 0 0] 74 (0, 0))
  fr : Fr w w1 No
theorem DoBox.mk0 (w : World) (v : Value) (t f o : Int) : DoBox w (((w.alloc (.cells #[v] 74)).alloc (.cells #[.int .i64 t, .int .i64 f, .int .i64 o] 86)).alloc (.cells #[.slice none 0 0] 74)) v t f o := by
  obtain ⟨q0, q1, q2, hq, _⟩ := three_blk w (.cells #[v] 74) (.cells #[.int .i64 t, .int .i64 f, .int .i64 o] 86) (.cells #[.slice none 0 0] 74)
  exact ⟨q0, q1, q2, hq⟩
theorem DoBox.keep0 {w w1 w2 : World} {v : Value} {t f o : Int} (h : DoBox w w1 v t f o) (hf : Fr w1 w2 No) : DoBox w w2 v t f o := ⟨hf.blk h.b0 id, hf.blk h.b1 id, hf.blk h.b2 id, h.fr.nn hf⟩
theorem DoBox.cells {w w1 : World} {v : Value} {t f o : Int} (h : DoBox w w1 v t f o) : w1.cell? ⟨w.heap.size, 0, none⟩ = some v ∧ w1.cell? ⟨w.heap.size + 1, 0, none⟩ = some (.int .i64 t) ∧ w1.cell? ⟨w.heap.size + 1, 1, none⟩ = some (.int .i64 f) ∧ w1.cell? ⟨w.heap.size + 1, 2, none⟩ = some (.int .i64 o) ∧
    w1.cell? ⟨w.heap.size + 2, 0, none⟩ = some (.slice none 0 0) ∧ w1.frozen? ⟨w.heap.size + 2, 0, none⟩ = false ∧ w1.frozen? ⟨w.heap.size, 0, none⟩ = false ∧ w.heap.size < w1.heap.size ∧ w.heap.size + 1 < w1.heap.size ∧ w.heap.size + 2 < w1.heap.size :=
  ⟨blk_cell h.b0 0, blk_cell h.b1 0, blk_cell h.b1 1, blk_cell h.b1 2, blk_cell h.b2 0, blk_frozen h.b2 0, blk_frozen h.b0 0, blk_lt h.b0, blk_lt h.b1, blk_lt h.b2⟩
/-- The result's store. -/
theorem DoBox.fin {w w1 : World} {v v2 : Value} {t f o : Int} {R : List Lan} (h : DoBox w w1 v t f o) (hd : DocAt w1 v2 R) :
    (w1.setCell ⟨w.heap.size + 2, 0, none⟩ v2).cell? ⟨w.heap.size + 2, 0, none⟩ = some v2 ∧ DocAt (w1.setCell ⟨w.heap.size + 2, 0, none⟩ v2) v2 R ∧ Fr w (w1.setCell ⟨w.heap.size + 2, 0, none⟩ v2) No :=
  ⟨set_at h.b2 0 (by decide) v2, hd.keep (Fr.setCell _ _ _) (fun b hb e => by
      obtain ⟨D, _, hdd⟩ := hd
      exact Sl.ne hdd.row h.b2 (by decide) (by rw [hb, show b = w.heap.size + 2 from e])) (fun u zs hu b hb e => Sl.ne hu h.b2 (by decide) (by rw [hb, show b = w.heap.size + 2 from e])), h.fr.to_new _ _ (by simp)⟩
/-- The rack's own store. -/
theorem DoBox.put {w w1 : World} {v v2 : Value} {t f o : Int} {R : List Lan} (h : DoBox w w1 v t f o) (hd : DocAt w1 v2 R) :
    DoBox w (w1.setCell ⟨w.heap.size, 0, none⟩ v2) v2 t f o ∧ DocAt (w1.setCell ⟨w.heap.size, 0, none⟩ v2) v2 R := by
  have hF := Fr.setCell w1 ⟨w.heap.size, 0, none⟩ v2
  refine ⟨⟨by rw [blk_set h.b0]; rfl, hF.blk h.b1 (fun e => by have : w.heap.size + 1 = w.heap.size := e; omega), hF.blk h.b2 (fun e => by have : w.heap.size + 2 = w.heap.size := e; omega), h.fr.to_new _ _ (Nat.le_refl _)⟩, hd.keep hF (fun b hb e => ?_) (fun u zs hu b hb e => ?_)⟩
  · obtain ⟨D, _, hdd⟩ := hd
    exact Sl.ne hdd.row h.b0 (by decide) (by rw [hb, show b = w.heap.size from e])
  · exact Sl.ne hu h.b0 (by decide) (by rw [hb, show b = w.heap.size from e])

set_option maxRecDepth 100000 in
set_option maxHeartbeats 4000000 in
theorem refDo_bad (w : World) (v : Value) (R : List Lan) (t f o : Int) (hD : DocAt w v R) (hb : badM R.length f o) :
    Calls Try.prog 41 #[.agg #[v], .agg #[.int .i64 t, .int .i64 f, .int .i64 o]] w fun e w' => RefS w R (fun v' => .tuple #[.agg #[v'], .int .i64 1]) e w' := by
  obtain ⟨a, c, rfl⟩ := hD.form
  have hcase : (f < 0) ∨ (¬ f < 0 ∧ (R.length : Int) ≤ f) ∨ (¬ f < 0 ∧ ¬ (R.length : Int) ≤ f ∧ o < -1) ∨ (¬ f < 0 ∧ ¬ (R.length : Int) ≤ f ∧ ¬ o < -1 ∧ (R.length : Int) ≤ o) ∨ (¬ f < 0 ∧ ¬ (R.length : Int) ≤ f ∧ ¬ o < -1 ∧ ¬ (R.length : Int) ≤ o ∧ (f == o) = true) := by
    unfold badM at hb
    simp only [beq_iff_eq]
    omega
  have hB := DoBox.mk0 w (.slice a R.length c) t f o
  obtain ⟨w1, hw1⟩ : ∃ w1, ((w.alloc (.cells #[.slice a R.length c] 74)).alloc (.cells #[.int .i64 t, .int .i64 f, .int .i64 o] 86)).alloc (.cells #[.slice none 0 0] 74) = w1 := ⟨_, rfl⟩
  rw [hw1] at hB
  have HW1 := Lib.hid hw1
  obtain ⟨k0, kt, kf, ko, k2, z2, z0, _, _, _⟩ := hB.cells
  obtain ⟨s2, hd2, hf2⟩ := hB.fin (hD.keep0 hB.fr)
  have HD2 := Lib.hid hd2
  have HF2 := Lib.hid hf2
  clear hb hD hB hd2 hf2 hw1
  rcases hcase with c1 | ⟨c1, c2⟩ | ⟨c1, c2, c3⟩ | ⟨c1, c2, c3, c4⟩ | ⟨c1, c2, c3, c4, c5⟩
  all_goals
    go_enter Try.func41, Try.ntmps41
    go_upto_region 1 with (fail)
    rw [HW1.out]
    go_wp2
    refine bodyPost_ret (v := .tuple #[.agg #[.slice a R.length c], .int .i64 1]) (by simp [results, Try.results41, go_sem, s2]) rfl ⟨_, rfl, HD2.out, HF2.out⟩

/-- Behind the range test. -/
structure DoIn (R : List Lan) (t o : Int) (n : Nat) : Prop where
  c1 : ¬ (n : Int) < 0
  c2 : ¬ (R.length : Int) ≤ (n : Int)
  c3 : ¬ o < -1
  c4 : ¬ (R.length : Int) ≤ o
  c5 : ((n : Int) == o) = false
theorem DoIn.of {R : List Lan} {t o : Int} {n : Nat} (hb : ¬ badM R.length n o) : DoIn R t o n := by
  unfold badM at hb
  exact ⟨by omega, by omega, by omega, by omega, by simp only [beq_eq_false_iff_ne]; omega⟩

set_option maxRecDepth 100000 in
set_option maxHeartbeats 4000000 in
theorem refDo_tote (w : World) (v : Value) (R : List Lan) (t o : Int) (n : Nat) (hD : DocAt w v R) (hS : Small R) (hb : ¬ badM R.length n o) (ht : (lan R n).2.getLast? ≠ some t) :
    Calls Try.prog 41 #[.agg #[v], .agg #[.int .i64 t, .int .i64 n, .int .i64 o]] w fun e w' => RefS w R (fun v' => .tuple #[.agg #[v'], .int .i64 160]) e w' := by
  obtain ⟨a, c, rfl⟩ := hD.form
  obtain ⟨c1, c2, c3, c4, c5⟩ := DoIn.of (t := t) hb
  have hB := DoBox.mk0 w (.slice a R.length c) t n o
  obtain ⟨w1, hw1⟩ : ∃ w1, ((w.alloc (.cells #[.slice a R.length c] 74)).alloc (.cells #[.int .i64 t, .int .i64 n, .int .i64 o] 86)).alloc (.cells #[.slice none 0 0] 74) = w1 := ⟨_, rfl⟩
  rw [hw1] at hB
  have HW1 := Lib.hid hw1
  have HD1 := Lib.hid (hD.keep0 hB.fr)
  have hn : n < R.length := by omega
  obtain ⟨hl1, hl2⟩ := hS.2 n hn
  obtain ⟨b, off, a2, cc2, ha, m1, m2, hs⟩ := HD1.out.at_ n hn
  subst ha
  have hn1 : (n : Int) < (R.length : Int) := by omega
  have hn0 : (0 : Int) ≤ (n : Int) := by omega
  obtain ⟨k0, kt, kf, ko, k2, z2, z0, _, _, _⟩ := hB.cells
  have HT := Lib.hid ht
  have HN := Lib.hid hn
  have HSM := Lib.hid hS
  have hA := Fr.alloc w1 (.cells #[.int .i64 ((lan R n).1 : Nat), .slice a2 (lan R n).2.length cc2] 42) No
  have HBX := Lib.hid (hB.keep0 hA)
  have HD2 := Lib.hid (HD1.out.keep0 hA)
  have HSL := Lib.hid (Sl.keep0 hs hA)
  have hfb := blk_new w1 (.cells #[.int .i64 ((lan R n).1 : Nat), .slice a2 (lan R n).2.length cc2] 42)
  clear hb hD hB hw1 hs ht hn hA hS HD1
  go_enter Try.func41, Try.ntmps41
  go_upto_region 1 with (fail)
  rw [HW1.out]
  go_upto_region 5 with (fail)
  clear k0 kt kf ko k2 z2 z0 m1 m2
  generalize hw2 : w1.alloc (.cells #[.int .i64 ((lan R n).1 : Nat), .slice a2 (lan R n).2.length cc2] 42) = w2 at *
  obtain ⟨b3, hb3⟩ : ∃ b3, w1.heap.size = b3 := ⟨_, rfl⟩
  rw [hb3] at hfb ⊢
  have HFB := Lib.hid hfb
  clear hw2 hb3 hfb
  obtain ⟨k0, kt, kf, ko, k2, z2, z0, _, _, _⟩ := HBX.out.cells
  have q0 : w2.cell? ⟨b3, 0, none⟩ = some (.int .i64 ((lan R n).1 : Nat)) := blk_cell HFB.out 0
  have q1 : w2.cell? ⟨b3, 1, none⟩ = some (.slice a2 (lan R n).2.length cc2) := blk_cell HFB.out 1
  rcases List.eq_nil_or_concat (lan R n).2 with hT | ⟨T, x, hT⟩
  · rw [hT] at q1 ⊢
    simp only [List.length_nil] at q1 ⊢
    go_wp2_with fail
    go_quiet (fail)
    obtain ⟨s2, hd2, hf2⟩ := (HBX.out.keep0 (Fr.drewN w2 nq No)).fin (HD2.out.keep0 (Fr.drewN w2 nq No))
    have HD3 := Lib.hid hd2
    have HF3 := Lib.hid hf2
    clear hd2 hf2
    go_wp2
    refine bodyPost_ret (v := .tuple #[.agg #[.slice (some ⟨b, off, none⟩) R.length c], .int .i64 160]) (by simp [results, Try.results41, go_sem, s2]) rfl ⟨_, rfl, HD3.out, HF3.out⟩
  · rw [List.concat_eq_append] at hT
    have hx : x ≠ t := fun e => HT.out (by rw [hT, e]; simp)
    have hlen : (lan R n).2.length = T.length + 1 := by rw [hT]; simp
    obtain ⟨b6, o6, hb6, kc⟩ := (SlI.rd HSL.out (by omega)).get T.length (by omega)
    subst hb6
    have e1 : (lan R n).2.getD T.length 0 = x := by rw [hT]; simp [List.getD]
    rw [e1] at kc
    rw [hlen] at q1 ⊢
    have hT8 : T.length + 1 ≤ 8 := by omega
    have hxt : (x != t) = true := by simpa using hx
    have hw : IntKind.i64.wrap ((T.length : Int) + 1 - 1) = (T.length : Int) := by rw [IntWalk.i64_in _ (by omega)]; omega
    have p0 : ((T.length : Int) + 1 == 0) = false := beq_eq_false_iff_ne.2 (by omega)
    have p1 : (0 : Int) ≤ (T.length : Int) := by omega
    have p2 : (T.length : Int) < (T.length : Int) + 1 := by omega
    have p3 : T.length < T.length + 1 := by omega
    clear hx hlen e1
    go_wp2_with fail
    go_quiet (fail)
    obtain ⟨s2, hd2, hf2⟩ := (HBX.out.keep0 (Fr.drewN w2 nq No)).fin (HD2.out.keep0 (Fr.drewN w2 nq No))
    have HD3 := Lib.hid hd2
    have HF3 := Lib.hid hf2
    clear hd2 hf2
    go_wp2
    refine bodyPost_ret (v := .tuple #[.agg #[.slice (some ⟨b, off, none⟩) R.length c], .int .i64 160]) (by simp [results, Try.results41, go_sem, s2]) rfl ⟨_, rfl, HD3.out, HF3.out⟩

set_option maxRecDepth 100000 in
set_option maxHeartbeats 4000000 in
theorem refDo_full (w : World) (v : Value) (R : List Lan) (t : Int) (n m : Nat) (T : List Int) (hD : DocAt w v R) (hS : Small R) (hb : ¬ badM R.length n m) (ht : (lan R n).2 = T ++ [t]) (hf : ¬ (lan R m).2.length < (lan R m).1) :
    Calls Try.prog 41 #[.agg #[v], .agg #[.int .i64 t, .int .i64 n, .int .i64 m]] w fun e w' => RefS w R (fun v' => .tuple #[.agg #[v'], .int .i64 5]) e w' := by
  obtain ⟨o, ho⟩ : ∃ o : Int, (m : Int) = o := ⟨_, rfl⟩
  rw [ho] at hb ⊢
  obtain ⟨a, c, rfl⟩ := hD.form
  obtain ⟨c1, c2, c3, c4, c5⟩ := DoIn.of (t := t) hb
  have hB := DoBox.mk0 w (.slice a R.length c) t n o
  obtain ⟨w1, hw1⟩ : ∃ w1, ((w.alloc (.cells #[.slice a R.length c] 74)).alloc (.cells #[.int .i64 t, .int .i64 n, .int .i64 o] 86)).alloc (.cells #[.slice none 0 0] 74) = w1 := ⟨_, rfl⟩
  rw [hw1] at hB
  have HW1 := Lib.hid hw1
  have HD1 := Lib.hid (hD.keep0 hB.fr)
  have hn : n < R.length := by omega
  obtain ⟨hl1, hl2⟩ := hS.2 n hn
  obtain ⟨b, off, a2, cc2, ha, m1, m2, hs⟩ := HD1.out.at_ n hn
  subst ha
  have hn1 : (n : Int) < (R.length : Int) := by omega
  have hn0 : (0 : Int) ≤ (n : Int) := by omega
  obtain ⟨k0, kt, kf, ko, k2, z2, z0, _, _, _⟩ := hB.cells
  have HT := Lib.hid ht
  have HN := Lib.hid hn
  have HSM := Lib.hid hS
  have hA := Fr.alloc w1 (.cells #[.int .i64 ((lan R n).1 : Nat), .slice a2 (lan R n).2.length cc2] 42) No
  have HBX := Lib.hid (hB.keep0 hA)
  have HD2 := Lib.hid (HD1.out.keep0 hA)
  have HSL := Lib.hid (Sl.keep0 hs hA)
  have hfb := blk_new w1 (.cells #[.int .i64 ((lan R n).1 : Nat), .slice a2 (lan R n).2.length cc2] 42)
  clear hb hD hB hw1 hs ht hn hA hS HD1
  go_enter Try.func41, Try.ntmps41
  go_upto_region 1 with (fail)
  rw [HW1.out]
  go_upto_region 5 with (fail)
  clear k0 kt kf ko k2 z2 z0 m1 m2
  generalize hw2 : w1.alloc (.cells #[.int .i64 ((lan R n).1 : Nat), .slice a2 (lan R n).2.length cc2] 42) = w2 at *
  obtain ⟨b3, hb3⟩ : ∃ b3, w1.heap.size = b3 := ⟨_, rfl⟩
  rw [hb3] at hfb ⊢
  have HFB := Lib.hid hfb
  clear hw2 hb3 hfb
  obtain ⟨k0, kt, kf, ko, k2, z2, z0, _, _, _⟩ := HBX.out.cells
  have q0 : w2.cell? ⟨b3, 0, none⟩ = some (.int .i64 ((lan R n).1 : Nat)) := blk_cell HFB.out 0
  have q1 : w2.cell? ⟨b3, 1, none⟩ = some (.slice a2 (lan R n).2.length cc2) := blk_cell HFB.out 1
  have hlen : (lan R n).2.length = T.length + 1 := by rw [HT.out]; simp
  obtain ⟨b6, o6, hb6, kc⟩ := (SlI.rd HSL.out (by omega)).get T.length (by omega)
  subst hb6
  have e1 : (lan R n).2.getD T.length 0 = t := by rw [HT.out]; simp [List.getD]
  rw [e1] at kc
  have HLEN := Lib.hid hlen
  have hsl : SlI w2 (.slice (some ⟨b6, o6, none⟩) (T.length + 1) cc2) (lan R n).2 := by rw [← hlen]; exact HSL.out
  clear HSL
  have HSL := Lib.hid hsl
  rw [hlen] at q1 HFB ⊢
  have hT8 : T.length + 1 ≤ 8 := by omega
  have hxt : (t != t) = false := bne_self_eq_false t
  have hw : IntKind.i64.wrap ((T.length : Int) + 1 - 1) = (T.length : Int) := by rw [IntWalk.i64_in _ (by omega)]; omega
  have p0 : ((T.length : Int) + 1 == 0) = false := beq_eq_false_iff_ne.2 (by omega)
  have p1 : (0 : Int) ≤ (T.length : Int) := by omega
  have p2 : (T.length : Int) < (T.length : Int) + 1 := by omega
  have p3 : T.length < T.length + 1 := by omega
  clear hlen e1 hsl
  go_wp2_with fail
  go_quiet (fail)
  have HBX3 := Lib.hid (HBX.out.keep0 (Fr.drewN w2 nq No))
  have HD3 := Lib.hid (HD2.out.keep0 (Fr.drewN w2 nq No))
  have HSL3 := Lib.hid (Sl.keep0 HSL.out (Fr.drewN w2 nq No))
  have HFB3 := Lib.hid ((Fr.drewN w2 nq No).blk HFB.out id)
  clear k0 kt kf ko k2 z2 z0 q0 q1 kc hw p0 p1 p2 p3 hxt HBX HD2 HSL HFB
  generalize w2.drewN nq = w3 at *
  obtain ⟨k0, kt, kf, ko, k2, z2, z0, _, _, _⟩ := HBX3.out.cells
  have q0 : w3.cell? ⟨b3, 0, none⟩ = some (.int .i64 ((lan R n).1 : Nat)) := blk_cell HFB3.out 0
  have q1 : w3.cell? ⟨b3, 1, none⟩ = some (.slice (some ⟨b6, o6, none⟩) (T.length + 1) cc2) := blk_cell HFB3.out 1
  subst ho
  have hm : m < R.length := by omega
  have hm1 : (m : Int) < (R.length : Int) := by omega
  have hm0 : (0 : Int) ≤ (m : Int) := by omega
  obtain ⟨_, hm8⟩ := HSM.out.2 m hm
  obtain ⟨b', off', a3, cc3, ha, m1, m2, hs⟩ := HD3.out.at_ m hm
  cases ha
  have hfl : ((lan R m).1 : Int) ≤ ((lan R m).2.length : Int) := by omega
  clear hs hf
  go_wp2_with fail
  go_quiet (fail)
  obtain ⟨s2, hd2, hf2⟩ := (HBX3.out.keep0 (Fr.drewN w3 nq No)).fin (HD3.out.keep0 (Fr.drewN w3 nq No))
  have HD4 := Lib.hid hd2
  have HF4 := Lib.hid hf2
  clear hd2 hf2
  go_wp2
  refine bodyPost_ret (v := .tuple #[.agg #[.slice (some ⟨b, off, none⟩) R.length c], .int .i64 5]) (by simp [results, Try.results41, go_sem, s2]) rfl ⟨_, rfl, HD4.out, HF4.out⟩

set_option maxRecDepth 100000 in
set_option maxHeartbeats 4000000 in
theorem refDo_out (w : World) (v : Value) (R : List Lan) (t : Int) (n : Nat) (T : List Int) (hD : DocAt w v R) (hS : Small R) (hb : ¬ badM R.length n (-1)) (ht : (lan R n).2 = T ++ [t]) :
    Calls Try.prog 41 #[.agg #[v], .agg #[.int .i64 t, .int .i64 n, .int .i64 (-1)]] w fun e w' => RefS w (R.set n ((lan R n).1, T)) (fun v' => .tuple #[.agg #[v'], .int .i64 0]) e w' := by
  obtain ⟨o, ho⟩ : ∃ o : Int, (-1 : Int) = o := ⟨_, rfl⟩
  rw [ho] at hb ⊢
  obtain ⟨a, c, rfl⟩ := hD.form
  obtain ⟨c1, c2, c3, c4, c5⟩ := DoIn.of (t := t) hb
  have hB := DoBox.mk0 w (.slice a R.length c) t n o
  obtain ⟨w1, hw1⟩ : ∃ w1, ((w.alloc (.cells #[.slice a R.length c] 74)).alloc (.cells #[.int .i64 t, .int .i64 n, .int .i64 o] 86)).alloc (.cells #[.slice none 0 0] 74) = w1 := ⟨_, rfl⟩
  rw [hw1] at hB
  have HW1 := Lib.hid hw1
  have HB1 := Lib.hid hB.fr.size
  have HD1 := Lib.hid (hD.keep0 hB.fr)
  have HD0 := Lib.hid hD
  have hn : n < R.length := by omega
  obtain ⟨hl1, hl2⟩ := hS.2 n hn
  obtain ⟨b, off, a2, cc2, ha, m1, m2, hs⟩ := HD1.out.at_ n hn
  subst ha
  have hn1 : (n : Int) < (R.length : Int) := by omega
  have hn0 : (0 : Int) ≤ (n : Int) := by omega
  obtain ⟨k0, kt, kf, ko, k2, z2, z0, _, _, _⟩ := hB.cells
  have HT := Lib.hid ht
  have HN := Lib.hid hn
  have HSM := Lib.hid hS
  have hA := Fr.alloc w1 (.cells #[.int .i64 ((lan R n).1 : Nat), .slice a2 (lan R n).2.length cc2] 42) No
  have HBX := Lib.hid (hB.keep0 hA)
  have HD2 := Lib.hid (HD1.out.keep0 hA)
  have HSL := Lib.hid (Sl.keep0 hs hA)
  have hfb := blk_new w1 (.cells #[.int .i64 ((lan R n).1 : Nat), .slice a2 (lan R n).2.length cc2] 42)
  clear hb hD hB hw1 hs ht hn hA hS HD1
  go_enter Try.func41, Try.ntmps41
  go_upto_region 1 with (fail)
  rw [HW1.out]
  go_upto_region 5 with (fail)
  clear k0 kt kf ko k2 z2 z0 m1 m2
  generalize hw2 : w1.alloc (.cells #[.int .i64 ((lan R n).1 : Nat), .slice a2 (lan R n).2.length cc2] 42) = w2 at *
  obtain ⟨b3, hb3⟩ : ∃ b3, w1.heap.size = b3 := ⟨_, rfl⟩
  rw [hb3] at hfb ⊢
  have HFB := Lib.hid hfb
  have HB3 : Hid (w.heap.size ≤ b3) := Lib.hid (by rw [← hb3]; exact HB1.out)
  clear hw2 hb3 hfb
  obtain ⟨k0, kt, kf, ko, k2, z2, z0, _, _, _⟩ := HBX.out.cells
  have q0 : w2.cell? ⟨b3, 0, none⟩ = some (.int .i64 ((lan R n).1 : Nat)) := blk_cell HFB.out 0
  have q1 : w2.cell? ⟨b3, 1, none⟩ = some (.slice a2 (lan R n).2.length cc2) := blk_cell HFB.out 1
  have hlen : (lan R n).2.length = T.length + 1 := by rw [HT.out]; simp
  obtain ⟨b6, o6, hb6, kc⟩ := (SlI.rd HSL.out (by omega)).get T.length (by omega)
  subst hb6
  have e1 : (lan R n).2.getD T.length 0 = t := by rw [HT.out]; simp [List.getD]
  rw [e1] at kc
  have HLEN := Lib.hid hlen
  have hsl : SlI w2 (.slice (some ⟨b6, o6, none⟩) (T.length + 1) cc2) (lan R n).2 := by rw [← hlen]; exact HSL.out
  clear HSL
  have HSL := Lib.hid hsl
  rw [hlen] at q1 HFB ⊢
  have hT8 : T.length + 1 ≤ 8 := by omega
  have hxt : (t != t) = false := bne_self_eq_false t
  have hw : IntKind.i64.wrap ((T.length : Int) + 1 - 1) = (T.length : Int) := by rw [IntWalk.i64_in _ (by omega)]; omega
  have p0 : ((T.length : Int) + 1 == 0) = false := beq_eq_false_iff_ne.2 (by omega)
  have p1 : (0 : Int) ≤ (T.length : Int) := by omega
  have p2 : (T.length : Int) < (T.length : Int) + 1 := by omega
  have p3 : T.length < T.length + 1 := by omega
  clear hlen e1 hsl
  go_wp2_with fail
  go_quiet (fail)
  have HBX3 := Lib.hid (HBX.out.keep0 (Fr.drewN w2 nq No))
  have HD3 := Lib.hid (HD2.out.keep0 (Fr.drewN w2 nq No))
  have HSL3 := Lib.hid (Sl.keep0 HSL.out (Fr.drewN w2 nq No))
  have HFB3 := Lib.hid ((Fr.drewN w2 nq No).blk HFB.out id)
  clear k0 kt kf ko k2 z2 z0 q0 q1 kc hw p0 p1 p2 p3 hxt HBX HD2 HSL HFB
  generalize w2.drewN nq = w3 at *
  obtain ⟨k0, kt, kf, ko, k2, z2, z0, _, _, _⟩ := HBX3.out.cells
  have q0 : w3.cell? ⟨b3, 0, none⟩ = some (.int .i64 ((lan R n).1 : Nat)) := blk_cell HFB3.out 0
  have q1 : w3.cell? ⟨b3, 1, none⟩ = some (.slice (some ⟨b6, o6, none⟩) (T.length + 1) cc2) := blk_cell HFB3.out 1
  have hon : ¬ (0 : Int) ≤ o := by omega
  have hon' : decide ((0 : Int) ≤ o) = false := decide_eq_false hon
  go_wp2_with fail
  go_quiet (fail)
  have HBX4 := Lib.hid (HBX3.out.keep0 (Fr.drewN w3 nq No))
  have HSL4 := Lib.hid (Sl.keep0 HSL3.out (Fr.drewN w3 nq No))
  have HFB4 := Lib.hid ((Fr.drewN w3 nq No).blk HFB3.out id)
  clear k0 kt kf ko k2 z2 z0 q0 q1 HBX3 HD3 HSL3 HFB3
  generalize w3.drewN nq = w4 at *
  have q0 : w4.cell? ⟨b3, 0, none⟩ = some (.int .i64 ((lan R n).1 : Nat)) := blk_cell HFB4.out 0
  have q1 : w4.cell? ⟨b3, 1, none⟩ = some (.slice (some ⟨b6, o6, none⟩) (T.length + 1) cc2) := blk_cell HFB4.out 1
  go_wp2_with fail
  refine (refPop_any w4 (lan R n).1 _ (lan R n).2 HSL4.out hl1 hl2).mono ?_
  rintro e w5 ⟨v5, rfl, hs5, hf5, _⟩
  rw [HT.out, List.dropLast_concat] at hs5
  obtain ⟨a5, c5, rfl⟩ := slv_form hs5
  have HBX5 := Lib.hid (HBX4.out.keep0 hf5)
  have HFB5 := Lib.hid (hf5.blk HFB4.out id)
  have HS5 := Lib.hid hs5
  generalize popX (lan R n).2 = px at *
  generalize popE (lan R n).2 = pe at *
  have r0 : w5.cell? ⟨b3, 0, none⟩ = some (.int .i64 ((lan R n).1 : Nat)) := blk_cell HFB5.out 0
  have r1 : w5.cell? ⟨b3, 1, none⟩ = some (.slice (some ⟨b6, o6, none⟩) (T.length + 1) cc2) := blk_cell HFB5.out 1
  have y0 : w5.frozen? ⟨b3, 0, none⟩ = false := blk_frozen HFB5.out 0
  have y1 : w5.frozen? ⟨b3, 1, none⟩ = false := blk_frozen HFB5.out 1
  clear q0 q1 hs5 hf5 HBX4 HSL4 HFB4
  go_upto_region 11 with (fail)
  have hF6 : Fr w5 ((w5.setCell ⟨b3, 0, none⟩ (.int .i64 ((lan R n).1 : Nat))).setCell ⟨b3, 1, none⟩ (.slice a5 T.length c5)) (One b3) := ((Fr.refl w5 (One b3)).to_one 0 _).to_one 1 _
  have HFB6 : Hid (((w5.setCell ⟨b3, 0, none⟩ (.int .i64 ((lan R n).1 : Nat))).setCell ⟨b3, 1, none⟩ (.slice a5 T.length c5)).heap[b3]? = some (.cells #[.int .i64 ((lan R n).1 : Nat), .slice a5 T.length c5] 42 (0, 0))) := Lib.hid (by rw [blk_set (blk_set HFB5.out 0 (.int .i64 ((lan R n).1 : Nat))) 1 (.slice a5 T.length c5)]; rfl)
  have HBX6 : Hid (DoBox w ((w5.setCell ⟨b3, 0, none⟩ (.int .i64 ((lan R n).1 : Nat))).setCell ⟨b3, 1, none⟩ (.slice a5 T.length c5)) (.slice (some ⟨b, off, none⟩) R.length c) t n o) := Lib.hid
    ⟨hF6.blk HBX5.out.b0 (fun e => blk_ne HBX5.out.b0 HFB5.out (by decide) e), hF6.blk HBX5.out.b1 (fun e => blk_ne HBX5.out.b1 HFB5.out (by decide) e), hF6.blk HBX5.out.b2 (fun e => blk_ne HBX5.out.b2 HFB5.out (by decide) e), HBX5.out.fr.in1 hF6 HB3.out⟩
  have HS6 : Hid (SlI ((w5.setCell ⟨b3, 0, none⟩ (.int .i64 ((lan R n).1 : Nat))).setCell ⟨b3, 1, none⟩ (.slice a5 T.length c5)) (.slice a5 T.length c5) T) := Lib.hid
    (Sl.keep HS5.out hF6 (fun i hi e => Sl.ne HS5.out HFB5.out (by decide) (by rw [hi, show i = b3 from e])))
  clear r0 r1 y0 y1 hF6 HBX5 HFB5 HS5
  generalize (w5.setCell ⟨b3, 0, none⟩ (.int .i64 ((lan R n).1 : Nat))).setCell ⟨b3, 1, none⟩ (.slice a5 T.length c5) = w6 at *
  obtain ⟨k0, kt, kf, ko, k2, z2, z0, _, _, _⟩ := HBX6.out.cells
  have q0 : w6.cell? ⟨b3, 0, none⟩ = some (.int .i64 ((lan R n).1 : Nat)) := blk_cell HFB6.out 0
  have q1 : w6.cell? ⟨b3, 1, none⟩ = some (.slice a5 T.length c5) := blk_cell HFB6.out 1
  go_wp2_with fail
  refine (refSet_any w6 _ _ R n (lan R n).1 T (HD0.out.keep0 HBX6.out.fr) HS6.out HN.out HSM.out.1).mono ?_
  rintro e w7 ⟨v7, rfl, hD7, hf7⟩
  have HBX7 := Lib.hid (HBX6.out.keep0 hf7)
  obtain ⟨a7, c7, rfl⟩ := hD7.form
  rw [List.length_set] at hD7 ⊢
  obtain ⟨hB8, hD8⟩ := HBX7.out.put hD7
  have HBX8 := Lib.hid hB8
  have HD8 := Lib.hid hD8
  clear k0 kt kf ko k2 z2 z0 q0 q1
  obtain ⟨k0, kt, kf, ko, k2, z2, z0, _, _, _⟩ := HBX7.out.cells
  clear hf7 hD7 hB8 hD8 HBX6 HFB6 HS6
  go_upto_region 12 with (fail)
  clear k0 kt kf ko k2 z2 z0
  generalize w7.setCell ⟨w.heap.size, 0, none⟩ (.slice a7 R.length c7) = w8 at *
  obtain ⟨k0, kt, kf, ko, k2, z2, z0, _, _, _⟩ := HBX8.out.cells
  obtain ⟨s2, hd2, hf2⟩ := HBX8.out.fin HD8.out
  have HD9 := Lib.hid hd2
  have HF9 := Lib.hid hf2
  clear hd2 hf2
  go_wp2
  refine bodyPost_ret (v := .tuple #[.agg #[.slice a7 R.length c7], .int .i64 0]) (by simp [results, Try.results41, go_sem, s2]) rfl ⟨_, rfl, HD9.out, HF9.out⟩

end Go.Proofs.Ytegoilhkooneaaa
