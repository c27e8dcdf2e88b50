import Derived.Test.YtegoilhkooneaaaLn2
namespace Go.Proofs.Ytegoilhkooneaaa
open Go.RowKit
set_option linter.unusedVariables false
set_option linter.unusedSimpArgs false

set_option maxRecDepth 100000 in
set_option maxHeartbeats 1000000 in
theorem refAt_any (w : World) (d : Int) (v : Value) (ts : List Int) (t : Int) (hv : RdI w v ts) :
    Calls Try.prog 45 #[.agg #[.int .i64 d, v], .int .i64 t] w fun e w' => e = .returned (.int .i64 (idx t ts)) ∧ Fr w w' No := by
  have hl := hv.2
  obtain ⟨a, c, rfl, _, hr⟩ := hv.open_
  have HV := Lib.hid hv
  clear hv
  rcases hr with rfl | ⟨b, off, rfl, hc⟩
  · go_enter Try.func45, Try.ntmps45
    go_wp2
    refine wp_loop_rounds 1 ?_
    rw [rounds_succ]
    go_wp2
    go_ret
    exact ⟨rfl, Fr.alloc _ _ _⟩
  · go_enter Try.func45, Try.ntmps45
    go_wp2
    go_loop [5, 9] (fun _ i => ∃ k : Nat, k ≤ ts.length ∧ i = .int .i64 k ∧ ∀ j, j < k → ts.getD j 0 ≠ t) (fun _ i => ts.length - (intOf i).toNat)
    case atStart => exact ⟨0, Nat.zero_le _, rfl, by omega⟩
    case round =>
      obtain ⟨k, hk, rfl, hn⟩ := hrel
      have HN := Lib.hid hn
      clear hn
      by_cases hlt : k < ts.length
      · have hcell := (Fr.alloc w (.cells #[.int .i64 d, .slice (some ⟨b, off, none⟩) ts.length c] 42) No).cell (hc k hlt) (fun h => h)
        generalize hz : ts.getD k 0 = z at *
        have HZ := Lib.hid hz
        clear hz
        go_wp2
        · have hq : (z == t) = true := by assumption
          have e : idx t ts = k := idx_hit t ts k hlt HN.out (by rw [HZ.out]; simpa using hq)
          go_ret
          exact ⟨by rw [e]; rfl, Fr.alloc _ _ _⟩
        · have hq : (z == t) = false := by assumption
          go_round
          case rel =>
            refine ⟨k + 1, by omega, by go_num, fun j hj => ?_⟩
            rcases Nat.lt_or_ge j k with h | h
            · exact HN.out j h
            · obtain rfl : j = k := by omega
              rw [HZ.out]; simpa using hq
          case measure => simp [intOf]; omega
      · have e := Lib.hid (idx_miss t ts (fun j hj => HN.out j (by omega)))
        go_wp2
        go_ret
        exact ⟨by rw [e.out]; rfl, Fr.alloc _ _ _⟩

/-- What a function of the document's lane hands back. -/
def RefL (w w' : World) (v v' : Value) (T : List Int) : Prop :=
  SlI w' v' T ∧ Fr w w' No ∧ (v' = v ∨ ∀ k, v'.ownBlock = some k → w.heap.size ≤ k)

theorem SlI.set_far {w : World} {v : Value} {zs : List Int} (h : SlI w v zs) {b : Nat} (hb : v.ownBlock ≠ some b) (o : Nat) (u : Value) : SlI (w.setCell ⟨b, o, none⟩ u) v zs :=
  Sl.keep h (Fr.setCell w ⟨b, o, none⟩ u) (fun g hg e => hb (by rw [hg, show g = b from e]))
theorem RefL.fin {w w4 : World} {b0 b1 : Nat} {v v2 : Value} {T : List Int} {x y z : Value} (N : NewI w w4 v2 T) (h0 : v2.ownBlock ≠ some b0) (h1 : v2.ownBlock ≠ some b1) (hb0 : w.heap.size ≤ b0) (hb1 : w.heap.size ≤ b1) :
    RefL w (((w4.setCell ⟨b0, 1, none⟩ x).setCell ⟨b1, 0, none⟩ y).setCell ⟨b1, 1, none⟩ z) v v2 T :=
  ⟨((SlI.set_far N.1 h0 _ _).set_far h1 _ _).set_far h1 _ _, ((N.2.1.to_new _ _ hb0).to_new _ _ hb1).to_new _ _ hb1, .inr N.2.2⟩

set_option maxRecDepth 100000 in
set_option maxHeartbeats 1000000 in
theorem refPush_any (w : World) (d : Nat) (v : Value) (ts : List Int) (t : Int) (hv : SlI w v ts) (hd : ts.length ≤ d) (h8 : d ≤ 8) :
    Calls Try.prog 23 #[.agg #[.int .i64 d, v], .int .i64 t] w fun e w' => ∃ v', e = .returned (.tuple #[.agg #[.int .i64 d, v'], .int .i64 (pushE d ts t)]) ∧ RefL w w' v v' (pushT d ts t) := by
  have HV := Lib.hid hv
  obtain ⟨a, c, rfl, _⟩ := hv.form
  have hi := idx_ge t ts
  clear hv
  by_cases c1 : t < 1 ∨ 30 < t
  · have e1 : pushE d ts t = 1 := by unfold pushE; rw [if_pos c1]
    have e2 : pushT d ts t = ts := by unfold pushT; rw [e1]; rfl
    rw [e1, e2]
    have hcase : t < 1 ∨ (¬ t < 1 ∧ 30 < t) := by omega
    clear e1 e2 hi c1
    rcases hcase with c1 | ⟨c1, c2⟩
    all_goals
      go_enter Try.func23, Try.ntmps23
      go_wp2
      refine bodyPost_ret (v := .tuple #[.agg #[.int .i64 d, .slice a ts.length c], .int .i64 1]) (by simp [results, Try.results23, go_sem]) rfl ⟨_, rfl, HV.out.keep0 ?_, ?_, .inl rfl⟩
      all_goals repeat (first | exact Fr.refl _ _ | apply Fr.to_alloc)
  by_cases c3 : 0 ≤ idx t ts
  · have e1 : pushE d ts t = 2 := by unfold pushE; rw [if_neg c1, if_pos c3]
    have e2 : pushT d ts t = ts := by unfold pushT; rw [e1]; rfl
    rw [e1, e2]
    have d1 : ¬ t < 1 := by omega
    have d2 : ¬ 30 < t := by omega
    clear e1 e2 hi c1
    go_enter Try.func23, Try.ntmps23
    go_wp2_with fail
    obtain ⟨q0, q1, hq, hqs⟩ := two_blk w (.cells #[.int .i64 d, .slice a ts.length c] 42) (.cells #[.int .i64 0, .slice none 0 0] 42)
    generalize (w.alloc (.cells #[.int .i64 d, .slice a ts.length c] 42)).alloc (.cells #[.int .i64 0, .slice none 0 0] 42) = w1 at *
    refine (refAt_any w1 d _ ts t ((SlI.rd HV.out (by omega)).keep0 hq)).mono ?_
    rintro e w2 ⟨rfl, hf2⟩
    have hF2 := Lib.hid (hq.nn hf2)
    have p0 := hf2.blk q0 (fun h => h)
    have p1 := hf2.blk q1 (fun h => h)
    have k00 := blk_cell p0 0
    have k01 := blk_cell p0 1
    have k10 := blk_cell p1 0
    have k11 := blk_cell p1 1
    have z10 := blk_frozen p1 0
    have z11 := blk_frozen p1 1
    simp only [List.getElem?_toArray, List.getElem?_cons_zero, List.getElem?_cons_succ] at k00 k01 k10 k11
    have s0 := set_at p1 0 (by decide) (.int .i64 d)
    have s1 := set_at (blk_set p1 0 (.int .i64 d)) 1 (by simp) (.slice a ts.length c)
    clear p0 p1 q0 q1 hq hqs hf2
    go_wp2
    refine bodyPost_ret (v := .tuple #[.agg #[.int .i64 d, .slice a ts.length c], .int .i64 2]) (by simp [results, Try.results23, go_sem, s0, s1]) rfl ⟨_, rfl, HV.out.keep0 ?_, ?_, .inl rfl⟩
    all_goals repeat (first | exact hF2.out | (refine Fr.to_new ?_ _ _ (by simp)))
  by_cases c4 : ts.length = d
  · have e1 : pushE d ts t = 5 := by unfold pushE; rw [if_neg c1, if_neg c3, if_pos c4]
    have e2 : pushT d ts t = ts := by unfold pushT; rw [e1]; rfl
    rw [e1, e2]
    have d1 : ¬ t < 1 := by omega
    have d2 : ¬ 30 < t := by omega
    have d3 : (d : Int) ≤ (ts.length : Int) := by omega
    clear e1 e2 hi c1 c4
    go_enter Try.func23, Try.ntmps23
    go_wp2_with fail
    obtain ⟨q0, q1, hq, hqs⟩ := two_blk w (.cells #[.int .i64 d, .slice a ts.length c] 42) (.cells #[.int .i64 0, .slice none 0 0] 42)
    generalize (w.alloc (.cells #[.int .i64 d, .slice a ts.length c] 42)).alloc (.cells #[.int .i64 0, .slice none 0 0] 42) = w1 at *
    refine (refAt_any w1 d _ ts t ((SlI.rd HV.out (by omega)).keep0 hq)).mono ?_
    rintro e w2 ⟨rfl, hf2⟩
    have hF2 := Lib.hid (hq.nn hf2)
    have p0 := hf2.blk q0 (fun h => h)
    have p1 := hf2.blk q1 (fun h => h)
    have k00 := blk_cell p0 0
    have k01 := blk_cell p0 1
    have k10 := blk_cell p1 0
    have k11 := blk_cell p1 1
    have z10 := blk_frozen p1 0
    have z11 := blk_frozen p1 1
    simp only [List.getElem?_toArray, List.getElem?_cons_zero, List.getElem?_cons_succ] at k00 k01 k10 k11
    have s0 := set_at p1 0 (by decide) (.int .i64 d)
    have s1 := set_at (blk_set p1 0 (.int .i64 d)) 1 (by simp) (.slice a ts.length c)
    clear p0 p1 q0 q1 hq hqs hf2
    go_wp2
    refine bodyPost_ret (v := .tuple #[.agg #[.int .i64 d, .slice a ts.length c], .int .i64 5]) (by simp [results, Try.results23, go_sem, s0, s1]) rfl ⟨_, rfl, HV.out.keep0 ?_, ?_, .inl rfl⟩
    all_goals repeat (first | exact hF2.out | (refine Fr.to_new ?_ _ _ (by simp)))
  · have e1 : pushE d ts t = 0 := by unfold pushE; rw [if_neg c1, if_neg c3, if_neg c4]
    have e2 : pushT d ts t = ts ++ [t] := by unfold pushT; rw [e1]; rfl
    rw [e1, e2]
    have d1 : ¬ t < 1 := by omega
    have d2 : ¬ 30 < t := by omega
    have d3 : ¬ (d : Int) ≤ (ts.length : Int) := by omega
    have d4 : ts.length ≤ 8 := by omega
    clear e1 e2 hi c1 c4
    go_enter Try.func23, Try.ntmps23
    go_wp2_with fail
    obtain ⟨q0, q1, hq, hqs⟩ := two_blk w (.cells #[.int .i64 d, .slice a ts.length c] 42) (.cells #[.int .i64 0, .slice none 0 0] 42)
    generalize (w.alloc (.cells #[.int .i64 d, .slice a ts.length c] 42)).alloc (.cells #[.int .i64 0, .slice none 0 0] 42) = w1 at *
    refine (refAt_any w1 d _ ts t ((SlI.rd HV.out (by omega)).keep0 hq)).mono ?_
    rintro e w2 ⟨rfl, hf2⟩
    have hF2 := Lib.hid (hq.nn hf2)
    have p0 := hf2.blk q0 (fun h => h)
    have p1 := hf2.blk q1 (fun h => h)
    have P0 := Lib.hid p0
    have P1 := Lib.hid p1
    have k00 := blk_cell p0 0
    have k01 := blk_cell p0 1
    simp only [List.getElem?_toArray, List.getElem?_cons_zero, List.getElem?_cons_succ] at k00 k01
    clear p0 p1 q0 q1 hq hqs hf2
    have hz1 : w.heap.size < w2.heap.size := blk_lt P0.out
    have hz2 : w.heap.size + 1 < w2.heap.size := blk_lt P1.out
    go_wp2_with (at_builtin; refine wpList_appS rfl _ _ rfl _ [] rfl ?c1 _ ts rfl ?c2 ?c3 ?_)
    case c1 => exact Sl.made (blk_new _ _) rfl (by decide)
    case c2 => exact (SlI.rd HV.out (by omega)).keep0 (hF2.out.nn (Fr.alloc _ _ _))
    case c3 => simp; omega
    intro v1 w3 hs1 hf3 ho3
    obtain ⟨hN1, hf3', ho3'⟩ := NewI.app0 hF2.out hs1 hf3 ho3
    have N1 := Lib.hid hN1
    have P03 := Lib.hid (hf3'.blk P0.out (fun h => h))
    have P13 := Lib.hid (hf3'.blk P1.out (fun h => h))
    have hv1 := ho3'
    have HO1 : Hid (∀ k, v1.ownBlock = some k → w.heap.size + 1 < k) := Lib.hid (fun k hk => by have := ho3' k hk; omega)
    clear P0 P1 k00 k01 hs1 hf3 ho3 hf3' ho3' hN1 hv1 hz1 hz2
    go_wp2_with (at_builtin; refine wpList_appI rfl _ _ rfl _ ts rfl ?c1 _ t rfl ?c2 ?c3 ?_)
    case c1 => exact Sl.keep0 N1.out.1 (Fr.alloc _ _ _)
    case c2 => exact blk_new _ _
    case c3 => omega
    intro v2 w4 hs2 hf4 ho4
    obtain ⟨a2, c2, rfl, _⟩ := hs2.form
    have N2 := Lib.hid (N1.out.app (Fr.alloc _ _ _) hs2 hf4 (by simpa using ho4))
    have p0 := hf4.blk (blk_old P03.out _) (fun e => by have := HO1.out _ e; omega)
    have p1 := hf4.blk (blk_old P13.out _) (fun e => by have := HO1.out _ e; omega)
    have NB := Lib.hid (And.intro (Sl.ne N2.out.1 p0 (by decide)) (Sl.ne N2.out.1 p1 (by decide)))
    have k00 := blk_cell p0 0
    have k01 := blk_cell p0 1
    have k10 := blk_cell p1 0
    have k11 := blk_cell p1 1
    have z01 := blk_frozen p0 1
    have z10 := blk_frozen p1 0
    have z11 := blk_frozen p1 1
    simp only [List.getElem?_toArray, List.getElem?_cons_zero, List.getElem?_cons_succ] at k00 k01 k10 k11
    have p1' := blk_far p1 (p := ⟨w.heap.size, 1, none⟩) (by simp) (.slice a2 (ts ++ [t]).length c2)
    have s0 := set_at p1' 0 (by decide) (.int .i64 d)
    have s1 := set_at (blk_set p1' 0 (.int .i64 d)) 1 (by simp) (.slice a2 (ts ++ [t]).length c2)
    clear p0 p1 p1' hs2 hf4 ho4 HO1 P03 P13
    go_wp2
    rw [List.length_append, List.length_singleton] at s0 s1
    refine bodyPost_ret (v := .tuple #[.agg #[.int .i64 d, .slice a2 (ts.length + 1) c2], .int .i64 0]) (by simp [results, Try.results23, go_sem, s0, s1]) rfl ⟨_, rfl, ?_⟩
    rw [List.length_append, List.length_singleton] at N2 NB
    exact RefL.fin N2.out NB.out.1 NB.out.2 (by omega) (by omega)

/-! ### Pop -/
set_option maxRecDepth 100000 in
set_option maxHeartbeats 1000000 in
theorem refPop_any (w : World) (d : Nat) (v : Value) (ts : List Int) (hv : SlI w v ts) (hd : ts.length ≤ d) (h8 : d ≤ 8) :
    Calls Try.prog 24 #[.agg #[.int .i64 d, v]] w fun e w' => ∃ v', e = .returned (.tuple #[.agg #[.int .i64 d, v'], .int .i64 (popX ts), .int .i64 (popE ts)]) ∧ RefL w w' v v' ts.dropLast := by
  have HV := Lib.hid hv
  obtain ⟨a, c, rfl, _⟩ := hv.form
  obtain ⟨q0, q1, hq, hqs⟩ := two_blk w (.cells #[.int .i64 d, .slice a ts.length c] 42) (.cells #[.int .i64 0, .slice none 0 0] 42)
  have HQ := Lib.hid hq
  have Q0 := Lib.hid q0
  have Q1 := Lib.hid q1
  clear hv
  rcases List.eq_nil_or_concat ts with rfl | ⟨ts', x, hts⟩
  · clear q0 q1 hq hqs
    go_enter Try.func24, Try.ntmps24
    go_wp2
    refine bodyPost_ret (v := .tuple #[.agg #[.int .i64 d, .slice a 0 c], .int .i64 0, .int .i64 4]) (by simp [results, Try.results24, go_sem]) rfl ⟨_, rfl, HV.out.keep0 ?_, ?_, .inl rfl⟩
    all_goals repeat (first | exact Fr.refl _ _ | apply Fr.to_alloc)
  · rw [List.concat_eq_append] at hts
    have e1 : popX ts = x := by rw [hts]; simp [popX]
    have e2 : popE ts = 0 := by rw [hts]; simp [popE]
    have e3 : ts.dropLast = ts' := by rw [hts]; simp
    have hl : ts.length = ts'.length + 1 := by rw [hts]; simp
    rw [e1, e2, e3]
    have hcx : ∃ b off, a = some ⟨b, off, none⟩ ∧ w.cell? ⟨b, off + ts'.length, none⟩ = some (.int .i64 x) := by
      obtain ⟨b, off, h1, h2⟩ := (SlI.rd HV.out (by omega)).get ts'.length (by omega)
      refine ⟨b, off, h1, ?_⟩
      rw [h2, hts]; simp [List.getD]
    obtain ⟨b, off, rfl, hcx⟩ := hcx
    have hbl : b < w.heap.size := World.block_lt_of_cell? w _ hcx
    have hbl' : b < w.heap.size + 1 := by omega
    have HTS := Lib.hid hts
    have hcap := SlI.cap HV.out
    rw [hl] at HQ Q0 Q1 HV hd hcap ⊢
    have hcap' : (ts'.length : Int) ≤ (c : Int) := by omega
    have d4 : ts'.length + 1 ≤ 8 := by omega
    have hne : ((ts'.length : Int) + 1 == 0) = false := beq_eq_false_iff_ne.2 (by omega)
    clear e1 e2 e3 hts q0 q1 hq hqs hl
    go_enter Try.func24, Try.ntmps24
    go_upto_region 1 with (fail)
    have hcx1 := HQ.out.cell hcx (fun h => h)
    have hz1 : w.heap.size + 1 < ((w.alloc (.cells #[.int .i64 d, .slice (some ⟨b, off, none⟩) (ts'.length + 1) c] 42)).alloc (.cells #[.int .i64 0, .slice none 0 0] 42)).heap.size := by simp
    generalize (w.alloc (.cells #[.int .i64 d, .slice (some ⟨b, off, none⟩) (ts'.length + 1) c] 42)).alloc (.cells #[.int .i64 0, .slice none 0 0] 42) = w1 at *
    have k00 := blk_cell Q0.out 0
    have k01 := blk_cell Q0.out 1
    simp only [List.getElem?_toArray, List.getElem?_cons_zero, List.getElem?_cons_succ] at k00 k01
    have hz0 : w.heap.size < w1.heap.size := by omega
    go_wp2_with (at_builtin; refine wpList_appS rfl _ _ rfl _ [] rfl ?c1 _ ts' rfl ?c2 ?c3 ?_)
    case c1 => exact Sl.made (blk_new _ _) rfl (by decide)
    case c2 =>
      have := SlI.rdn HV.out ts'.length c (by rw [HTS.out]; simp) (by rw [HTS.out]; simp; omega) (.inr (by simp))
      rw [HTS.out, List.take_left] at this
      exact this.keep0 (HQ.out.nn (Fr.alloc _ _ _))
    case c3 => simp; omega
    intro v1 w3 hs1 hf3 ho3
    obtain ⟨hN1, hf3', ho3'⟩ := NewI.app0 HQ.out hs1 hf3 ho3
    obtain ⟨a2, c2, rfl, _⟩ := hs1.form
    have p0 := hf3'.blk Q0.out (fun h => h)
    have p1 := hf3'.blk Q1.out (fun h => h)
    have N1 := Lib.hid hN1
    have NB := Lib.hid (And.intro (Sl.ne hN1.1 p0 (by decide)) (Sl.ne hN1.1 p1 (by decide)))
    clear k00 k01 hs1 hf3 ho3 hf3' ho3' hN1
    have k00 := blk_cell p0 0
    have k01 := blk_cell p0 1
    have k10 := blk_cell p1 0
    have k11 := blk_cell p1 1
    have z01 := blk_frozen p0 1
    have z10 := blk_frozen p1 0
    have z11 := blk_frozen p1 1
    simp only [List.getElem?_toArray, List.getElem?_cons_zero, List.getElem?_cons_succ] at k00 k01 k10 k11
    have p1' := blk_far p1 (p := ⟨w.heap.size, 1, none⟩) (by simp) (.slice a2 ts'.length c2)
    have s0 := set_at p1' 0 (by decide) (.int .i64 d)
    have s1 := set_at (blk_set p1' 0 (.int .i64 d)) 1 (by simp) (.slice a2 ts'.length c2)
    clear p0 p1 p1'
    go_wp2
    refine bodyPost_ret (v := .tuple #[.agg #[.int .i64 d, .slice a2 ts'.length c2], .int .i64 x, .int .i64 0]) (by simp [results, Try.results24, go_sem, s0, s1]) rfl ⟨_, rfl, ?_⟩
    exact RefL.fin N1.out NB.out.1 NB.out.2 (by omega) (by omega)

end Go.Proofs.Ytegoilhkooneaaa
