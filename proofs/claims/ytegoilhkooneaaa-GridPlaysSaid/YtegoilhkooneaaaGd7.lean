/-
  The document's rack: Do, to another lane.
-/
import Derived.Test.YtegoilhkooneaaaGd6
namespace Go.Proofs.Ytegoilhkooneaaa
open Go.RowKit Go.Sort
set_option linter.unusedVariables false
set_option linter.unusedSimpArgs false

/-- The lane that a tote has come to: its box. -/
def ToAt (w : World) (d : Nat) (ts : List Int) (n : Nat) (v : Value) (w' : World) : Prop :=
  ∃ b a c, v = .pointer (some ⟨b, 0, none⟩) ∧ w'.heap[b]? = some (.cells #[.int .i64 d, .slice a n c] 42 (0, 0)) ∧ SlI w' (.slice a n c) ts ∧ Fr w w' No
theorem ToAt.one {w w9 : World} {d n : Nat} {ts : List Int} {a : Option Addr} {c : Nat} (hs : SlI w9 (.slice a n c) ts) (hf : Fr w w9 No) : ToAt w d ts n (.pointer (some ⟨w9.heap.size, 0, none⟩)) (w9.alloc (.cells #[.int .i64 d, .slice a n c] 42)) :=
  ⟨_, a, c, rfl, blk_new w9 _, Sl.keep0 hs (Fr.alloc _ _ _), hf.nn (Fr.alloc _ _ _)⟩
theorem ToAt.two {w w9 : World} {d n : Nat} {ts : List Int} {a : Option Addr} {c : Nat} (hs : SlI w9 (.slice a n c) ts) (hf : Fr w w9 No) (hb : w9.heap[w.heap.size]? = some (.cells #[.int .i64 0, .slice none 0 0] 42 (0, 0))) :
    ToAt w d ts n (.pointer (some ⟨w.heap.size, 0, none⟩)) ((w9.setCell ⟨w.heap.size, 0, none⟩ (.int .i64 d)).setCell ⟨w.heap.size, 1, none⟩ (.slice a n c)) := by
  have hF : Fr w9 ((w9.setCell ⟨w.heap.size, 0, none⟩ (.int .i64 d)).setCell ⟨w.heap.size, 1, none⟩ (.slice a n c)) (One w.heap.size) := ((Fr.refl w9 (One w.heap.size)).to_one 0 _).to_one 1 _
  exact ⟨_, a, c, rfl, by rw [blk_set (blk_set hb 0 (.int .i64 d)) 1 (.slice a n c)]; rfl, Sl.keep hs hF (fun i hi e => Sl.ne hs hb (by decide) (by rw [hi, show i = w.heap.size from e])), hf.in1 hF (Nat.le_refl _)⟩

set_option maxRecDepth 100000 in
set_option maxHeartbeats 4000000 in
theorem refDo_to (w : World) (v : Value) (R : List Lan) (t : Int) (n m : Nat) (T : List Int) (hD : DocAt w v R) (hS : Small R) (hb : ¬ badM R.length n m) (ht : (lan R n).2 = T ++ [t]) (hroom : (lan R m).2.length < (lan R m).1)
    (hpe : pushE (lan R m).1 (lan R m).2 t = 0) (hpt : pushT (lan R m).1 (lan R m).2 t = (lan R m).2 ++ [t]) :
    Calls Try.prog 41 #[.agg #[v], .agg #[.int .i64 t, .int .i64 n, .int .i64 m]] w fun e w' => RefS w ((R.set n ((lan R n).1, T)).set m ((lan R m).1, (lan R m).2 ++ [t])) (fun v' => .tuple #[.agg #[v'], .int .i64 0]) e w' := by
  obtain ⟨o, ho⟩ : ∃ o : Int, (m : Int) = o := ⟨_, rfl⟩
  have HO := Lib.hid ho
  have hnm : ¬ n = m := by unfold badM at hb; omega
  have HNM := Lib.hid hnm
  clear hnm
  have HPE := Lib.hid hpe
  have HPT := Lib.hid hpt
  have HROOM := Lib.hid hroom
  clear hpe hpt hroom
  rw [ho] at hb ⊢
  clear ho
  obtain ⟨a, c, rfl⟩ := hD.form
  obtain ⟨c1, c2, c3, c4, c5⟩ := DoIn.of (t := t) hb
  have hB := DoBox.mk0 w (.slice a R.length c) t n o
  obtain ⟨w1, hw1⟩ : ∃ w1, ((w.alloc (.cells #[.slice a R.length c] 74)).alloc (.cells #[.int .i64 t, .int .i64 n, .int .i64 o] 86)).alloc (.cells #[.slice none 0 0] 74) = w1 := ⟨_, rfl⟩
  rw [hw1] at hB
  have HW1 := Lib.hid hw1
  have HB1 := Lib.hid hB.fr.size
  have HD1 := Lib.hid (hD.keep0 hB.fr)
  have HD0 := Lib.hid hD
  have hn : n < R.length := by omega
  obtain ⟨hl1, hl2⟩ := hS.2 n hn
  obtain ⟨b, off, a2, cc2, ha, m1, m2, hs⟩ := HD1.out.at_ n hn
  subst ha
  have hn1 : (n : Int) < (R.length : Int) := by omega
  have hn0 : (0 : Int) ≤ (n : Int) := by omega
  obtain ⟨k0, kt, kf, ko, k2, z2, z0, _, _, _⟩ := hB.cells
  have HT := Lib.hid ht
  have HN := Lib.hid hn
  have HSM := Lib.hid hS
  have hA := Fr.alloc w1 (.cells #[.int .i64 ((lan R n).1 : Nat), .slice a2 (lan R n).2.length cc2] 42) No
  have HBX := Lib.hid (hB.keep0 hA)
  have HD2 := Lib.hid (HD1.out.keep0 hA)
  have HSL := Lib.hid (Sl.keep0 hs hA)
  have hfb := blk_new w1 (.cells #[.int .i64 ((lan R n).1 : Nat), .slice a2 (lan R n).2.length cc2] 42)
  clear hb hD hB hw1 hs ht hn hA hS HD1
  go_enter Try.func41, Try.ntmps41
  go_upto_region 1 with (fail)
  rw [HW1.out]
  go_upto_region 5 with (fail)
  clear k0 kt kf ko k2 z2 z0 m1 m2
  generalize hw2 : w1.alloc (.cells #[.int .i64 ((lan R n).1 : Nat), .slice a2 (lan R n).2.length cc2] 42) = w2 at *
  obtain ⟨b3, hb3⟩ : ∃ b3, w1.heap.size = b3 := ⟨_, rfl⟩
  rw [hb3] at hfb ⊢
  have HFB := Lib.hid hfb
  have HB3 : Hid (w.heap.size ≤ b3) := Lib.hid (by rw [← hb3]; exact HB1.out)
  clear hw2 hb3 hfb
  obtain ⟨k0, kt, kf, ko, k2, z2, z0, _, _, _⟩ := HBX.out.cells
  have q0 : w2.cell? ⟨b3, 0, none⟩ = some (.int .i64 ((lan R n).1 : Nat)) := blk_cell HFB.out 0
  have q1 : w2.cell? ⟨b3, 1, none⟩ = some (.slice a2 (lan R n).2.length cc2) := blk_cell HFB.out 1
  have hlen : (lan R n).2.length = T.length + 1 := by rw [HT.out]; simp
  obtain ⟨b6, o6, hb6, kc⟩ := (SlI.rd HSL.out (by omega)).get T.length (by omega)
  subst hb6
  have e1 : (lan R n).2.getD T.length 0 = t := by rw [HT.out]; simp [List.getD]
  rw [e1] at kc
  have HLEN := Lib.hid hlen
  have hsl : SlI w2 (.slice (some ⟨b6, o6, none⟩) (T.length + 1) cc2) (lan R n).2 := by rw [← hlen]; exact HSL.out
  clear HSL
  have HSL := Lib.hid hsl
  rw [hlen] at q1 HFB ⊢
  have hT8 : T.length + 1 ≤ 8 := by omega
  have hxt : (t != t) = false := bne_self_eq_false t
  have hw : IntKind.i64.wrap ((T.length : Int) + 1 - 1) = (T.length : Int) := by rw [IntWalk.i64_in _ (by omega)]; omega
  have p0 : ((T.length : Int) + 1 == 0) = false := beq_eq_false_iff_ne.2 (by omega)
  have p1 : (0 : Int) ≤ (T.length : Int) := by omega
  have p2 : (T.length : Int) < (T.length : Int) + 1 := by omega
  have p3 : T.length < T.length + 1 := by omega
  clear hlen e1 hsl
  go_wp2_with fail
  go_quiet (fail)
  have HBX3 := Lib.hid (HBX.out.keep0 (Fr.drewN w2 nq No))
  have HD3 := Lib.hid (HD2.out.keep0 (Fr.drewN w2 nq No))
  have HSL3 := Lib.hid (Sl.keep0 HSL.out (Fr.drewN w2 nq No))
  have HFB3 := Lib.hid ((Fr.drewN w2 nq No).blk HFB.out id)
  clear k0 kt kf ko k2 z2 z0 q0 q1 kc hw p0 p1 p2 p3 hxt HBX HD2 HSL HFB
  generalize w2.drewN nq = w3 at *
  obtain ⟨k0, kt, kf, ko, k2, z2, z0, _, _, _⟩ := HBX3.out.cells
  have q0 : w3.cell? ⟨b3, 0, none⟩ = some (.int .i64 ((lan R n).1 : Nat)) := blk_cell HFB3.out 0
  have q1 : w3.cell? ⟨b3, 1, none⟩ = some (.slice (some ⟨b6, o6, none⟩) (T.length + 1) cc2) := blk_cell HFB3.out 1
  have ho := HO.out
  subst ho
  have hm : m < R.length := by omega
  have hm1 : (m : Int) < (R.length : Int) := by omega
  have hm0 : (0 : Int) ≤ (m : Int) := by omega
  obtain ⟨hm7, hm8⟩ := HSM.out.2 m hm
  obtain ⟨b', off', a3, cc3, ha, m1, m2, hs⟩ := HD3.out.at_ m hm
  cases ha
  have hfl : ¬ ((lan R m).1 : Int) ≤ ((lan R m).2.length : Int) := by have := HROOM.out; omega
  have HM := Lib.hid hm
  clear hs hm
  go_wp2_with fail
  go_quiet (fail)
  have HBX4 := Lib.hid (HBX3.out.keep0 (Fr.drewN w3 nq No))
  have HSL4 := Lib.hid (Sl.keep0 HSL3.out (Fr.drewN w3 nq No))
  have HFB4 := Lib.hid ((Fr.drewN w3 nq No).blk HFB3.out id)
  clear k0 kt kf ko k2 z2 z0 q0 q1 m1 m2 HBX3 HD3 HSL3 HFB3
  generalize w3.drewN nq = w4 at *
  have q0 : w4.cell? ⟨b3, 0, none⟩ = some (.int .i64 ((lan R n).1 : Nat)) := blk_cell HFB4.out 0
  have q1 : w4.cell? ⟨b3, 1, none⟩ = some (.slice (some ⟨b6, o6, none⟩) (T.length + 1) cc2) := blk_cell HFB4.out 1
  go_wp2_with fail
  refine (refPop_any w4 (lan R n).1 _ (lan R n).2 HSL4.out hl1 hl2).mono ?_
  rintro e w5 ⟨v5, rfl, hs5, hf5, _⟩
  rw [HT.out, List.dropLast_concat] at hs5
  obtain ⟨a5, c5, rfl⟩ := slv_form hs5
  have HBX5 := Lib.hid (HBX4.out.keep0 hf5)
  have HFB5 := Lib.hid (hf5.blk HFB4.out id)
  have HS5 := Lib.hid hs5
  generalize popX (lan R n).2 = px at *
  generalize popE (lan R n).2 = pe at *
  have r0 : w5.cell? ⟨b3, 0, none⟩ = some (.int .i64 ((lan R n).1 : Nat)) := blk_cell HFB5.out 0
  have r1 : w5.cell? ⟨b3, 1, none⟩ = some (.slice (some ⟨b6, o6, none⟩) (T.length + 1) cc2) := blk_cell HFB5.out 1
  have y0 : w5.frozen? ⟨b3, 0, none⟩ = false := blk_frozen HFB5.out 0
  have y1 : w5.frozen? ⟨b3, 1, none⟩ = false := blk_frozen HFB5.out 1
  clear q0 q1 hs5 hf5 HBX4 HSL4 HFB4
  go_upto_region 11 with (fail)
  have hF6 : Fr w5 ((w5.setCell ⟨b3, 0, none⟩ (.int .i64 ((lan R n).1 : Nat))).setCell ⟨b3, 1, none⟩ (.slice a5 T.length c5)) (One b3) := ((Fr.refl w5 (One b3)).to_one 0 _).to_one 1 _
  have HFB6 : Hid (((w5.setCell ⟨b3, 0, none⟩ (.int .i64 ((lan R n).1 : Nat))).setCell ⟨b3, 1, none⟩ (.slice a5 T.length c5)).heap[b3]? = some (.cells #[.int .i64 ((lan R n).1 : Nat), .slice a5 T.length c5] 42 (0, 0))) := Lib.hid (by rw [blk_set (blk_set HFB5.out 0 (.int .i64 ((lan R n).1 : Nat))) 1 (.slice a5 T.length c5)]; rfl)
  have HBX6 : Hid (DoBox w ((w5.setCell ⟨b3, 0, none⟩ (.int .i64 ((lan R n).1 : Nat))).setCell ⟨b3, 1, none⟩ (.slice a5 T.length c5)) (.slice (some ⟨b, off, none⟩) R.length c) t n (m : Int)) := Lib.hid
    ⟨hF6.blk HBX5.out.b0 (fun e => blk_ne HBX5.out.b0 HFB5.out (by decide) e), hF6.blk HBX5.out.b1 (fun e => blk_ne HBX5.out.b1 HFB5.out (by decide) e), hF6.blk HBX5.out.b2 (fun e => blk_ne HBX5.out.b2 HFB5.out (by decide) e), HBX5.out.fr.in1 hF6 HB3.out⟩
  have HS6 : Hid (SlI ((w5.setCell ⟨b3, 0, none⟩ (.int .i64 ((lan R n).1 : Nat))).setCell ⟨b3, 1, none⟩ (.slice a5 T.length c5)) (.slice a5 T.length c5) T) := Lib.hid
    (Sl.keep HS5.out hF6 (fun i hi e => Sl.ne HS5.out HFB5.out (by decide) (by rw [hi, show i = b3 from e])))
  clear r0 r1 y0 y1 hF6 HBX5 HFB5 HS5
  generalize (w5.setCell ⟨b3, 0, none⟩ (.int .i64 ((lan R n).1 : Nat))).setCell ⟨b3, 1, none⟩ (.slice a5 T.length c5) = w6 at *
  obtain ⟨k0, kt, kf, ko, k2, z2, z0, _, _, _⟩ := HBX6.out.cells
  have q0 : w6.cell? ⟨b3, 0, none⟩ = some (.int .i64 ((lan R n).1 : Nat)) := blk_cell HFB6.out 0
  have q1 : w6.cell? ⟨b3, 1, none⟩ = some (.slice a5 T.length c5) := blk_cell HFB6.out 1
  go_wp2_with fail
  refine (refSet_any w6 _ _ R n (lan R n).1 T (HD0.out.keep0 HBX6.out.fr) HS6.out HN.out HSM.out.1).mono ?_
  rintro e w7 ⟨v7, rfl, hD7, hf7⟩
  have HBX7 := Lib.hid (HBX6.out.keep0 hf7)
  obtain ⟨a7, c7, rfl⟩ := hD7.form
  rw [List.length_set] at hD7 ⊢
  obtain ⟨hB8, hD8⟩ := HBX7.out.put hD7
  have HBX8 := Lib.hid hB8
  have HD8 := Lib.hid hD8
  clear k0 kt kf ko k2 z2 z0 q0 q1
  obtain ⟨k0, kt, kf, ko, k2, z2, z0, _, _, _⟩ := HBX7.out.cells
  clear hf7 hD7 hB8 hD8 HBX6 HFB6 HS6
  go_upto_region 12 with (fail)
  clear k0 kt kf ko k2 z2 z0
  generalize w7.setCell ⟨w.heap.size, 0, none⟩ (.slice a7 R.length c7) = w8 at *
  obtain ⟨k0, kt, kf, ko, k2, z2, z0, _, _, _⟩ := HBX8.out.cells
  have hlm : lan (R.set n ((lan R n).1, T)) m = lan R m := by rw [lan_set _ _ _ _ HN.out, if_neg HNM.out]
  obtain ⟨b', off', a9, c9, ha, m1, m2, hs⟩ := HD8.out.at_ m (by rw [List.length_set]; exact HM.out)
  rw [hlm] at m1 m2 hs
  subst ha
  have HS9 := Lib.hid hs
  have HLM := Lib.hid hlm
  have hbl : b' < w8.heap.size := World.block_lt_of_cell? _ _ m1
  clear hs hlm
  go_upto_region 13 with (fail)
  go_cut [9] (fun v9 wc => ToAt w8 (lan R m).1 ((lan R m).2 ++ [t]) ((lan R m).2.length + 1) v9 wc)
  case first =>
    go_region_with (first
      | (go_at_call 23; refine (refPush_any ((w8.alloc (.cells #[.int .i64 0, .slice none 0 0] 42)).drew) (lan R m).1 _ (lan R m).2 t (Sl.keep0 HS9.out ((Fr.alloc w8 _ No).nn (Fr.drew _ _))) hm7 hm8).mono ?_; rw [HPE.out, HPT.out]; rintro e w9 ⟨v9, rfl, hs9, hf9, _⟩; obtain ⟨a10, c10, hv9⟩ := slv_form hs9; rw [List.length_append, List.length_singleton] at hv9; subst hv9; have hfa := ((Fr.alloc w8 (.cells #[.int .i64 0, .slice none 0 0] 42) No).nn (Fr.drew _ No)).nn hf9; have hb9 := hf9.blk ((Fr.drew (w8.alloc (.cells #[.int .i64 0, .slice none 0 0] 42)) No).blk (blk_new w8 (.cells #[.int .i64 0, .slice none 0 0] 42)) id) id; have g0 : w9.cell? ⟨w8.heap.size, 0, none⟩ = some (.int .i64 0) := blk_cell hb9 0; have g1 : w9.cell? ⟨w8.heap.size, 1, none⟩ = some (.slice none 0 0) := blk_cell hb9 1; have y0 : w9.frozen? ⟨w8.heap.size, 0, none⟩ = false := blk_frozen hb9 0; have y1 : w9.frozen? ⟨w8.heap.size, 1, none⟩ = false := blk_frozen hb9 1)
      | (go_at_call 23; refine (refPush_any w8.drew (lan R m).1 _ (lan R m).2 t (Sl.keep0 HS9.out (Fr.drew _ _)) hm7 hm8).mono ?_; rw [HPE.out, HPT.out]; rintro e w9 ⟨v9, rfl, hs9, hf9, _⟩; obtain ⟨a10, c10, hv9⟩ := slv_form hs9; rw [List.length_append, List.length_singleton] at hv9; subst hv9; have hfa := (Fr.drew w8 No).nn hf9))
    all_goals
      go_wp2_with fail
      go_meet
      case rel =>
        first
          | exact ToAt.one hs9 hfa
          | exact ToAt.two hs9 hfa hb9
  case rest =>
    obtain ⟨b4, a10, c10, rfl, hb4, hs4, hf4⟩ := hcut
    have HB4 := Lib.hid hb4
    have HS4 := Lib.hid hs4
    have HBX9 := Lib.hid (HBX8.out.keep0 hf4)
    have HD9 := Lib.hid (HD8.out.keep0 hf4)
    clear k0 kt kf ko k2 z2 z0 m1 m2 hb4 hs4 hf4
    obtain ⟨k0, kt, kf, ko, k2, z2, z0, _, _, _⟩ := HBX9.out.cells
    have q0 : wc.cell? ⟨b4, 0, none⟩ = some (.int .i64 ((lan R m).1 : Nat)) := blk_cell HB4.out 0
    have q1 : wc.cell? ⟨b4, 1, none⟩ = some (.slice a10 ((lan R m).2.length + 1) c10) := blk_cell HB4.out 1
    go_wp2_with fail
    refine (refSet_any wc _ _ (R.set n ((lan R n).1, T)) m (lan R m).1 ((lan R m).2 ++ [t]) HD9.out HS4.out (by rw [List.length_set]; exact HM.out) (by rw [List.length_set]; exact HSM.out.1)).mono ?_
    rintro e w10 ⟨v10, rfl, hD10, hf10⟩
    have HBX10 := Lib.hid (HBX9.out.keep0 hf10)
    obtain ⟨a11, c11, hv10⟩ := hD10.form
    rw [List.length_set, List.length_set] at hv10
    subst hv10
    obtain ⟨hB11, hD11⟩ := HBX10.out.put hD10
    have HBX11 := Lib.hid hB11
    have HD11 := Lib.hid hD11
    clear k0 kt kf ko k2 z2 z0 q0 q1
    obtain ⟨k0, kt, kf, ko, k2, z2, z0, _, _, _⟩ := HBX10.out.cells
    clear hf10 hD10 hB11 hD11
    go_upto_region 15 with (fail)
    clear k0 kt kf ko k2 z2 z0
    generalize w10.setCell ⟨w.heap.size, 0, none⟩ (.slice a11 R.length c11) = w11 at *
    obtain ⟨k0, kt, kf, ko, k2, z2, z0, _, _, _⟩ := HBX11.out.cells
    obtain ⟨s2, hd2, hf2⟩ := HBX11.out.fin HD11.out
    have HD12 := Lib.hid hd2
    have HF12 := Lib.hid hf2
    clear hd2 hf2
    go_wp2
    refine bodyPost_ret (v := .tuple #[.agg #[.slice a11 R.length c11], .int .i64 0]) (by simp [results, Try.results41, go_sem, s2]) rfl ⟨_, rfl, HD12.out, HF12.out⟩

end Go.Proofs.Ytegoilhkooneaaa
