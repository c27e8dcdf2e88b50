/-
  The law PairMore, walked.
-/
import Derived.Test.YtggogohoakbepaaP6
import Derived.Deep.CutBlock
import Derived.Deep.DeepCutAuto
namespace Go.Proofs.Ytggogohoakbepaa
open Go.RowKit Go.Sort
set_option linter.unusedVariables false
set_option linter.unusedSimpArgs false

/-- 'append(v, s)', at a step of a region that draws. -/
theorem step_appSp {w : World} {ops : Array Oper} {o : Oper} {a : Act} {K : Act → World → Prop} {Q : Exit → Act → World → Prop} {E : Prop} (hgd : o.guard = none) (s x : Operand)
    (ho : o.op = .call { callee := .builtin .append, args := #[s, x], argTypes := #[30, 30] })
    (v : Value) (ts : List Spot) (hev : a.eval s = v) (hs : SlS w v ts) (b : Nat) (y : Spot) (hex : a.eval x = .slice (some ⟨b, 0, none⟩) 1 1) (hb : w.heap[b]? = some (.cells #[.int .i64 y.1, .int .i64 y.2] 23 (0, 0)))
    (hl : ts.length ≤ 10000000)
    (h : ∀ v' w', SlS w' v' (ts ++ [y]) → Fr w w' (fun g => v.ownBlock = some g) → (v'.ownBlock = v.ownBlock ∨ v'.ownBlock = some w.heap.size) → K (a.put o.dst v') w') :
    if Region.wanted o (yielded ops a.tmps) = true then Oper.wp Try.prog o a w K Q else E := by
  obtain ⟨i0, hi, hz0, hz1, hz2⟩ := info_parts info23
  refine step_app hgd s x 30 ho 23 i0 (.agg #[.int .i64 0, .int .i64 0]) 2 16 Try.underlying30 hi hz0 hz1 hz2 rfl (by decide) v ts.length _ hev hs _ 1 [.int .i64 y.1, .int .i64 y.2] hex (Sl.made (k := 2) hb rfl (by decide)).rd (by simp [Value.oneCell']) (by unfold maxLen; omega) (by omega) ?_
  intro v' w' h1 h2 h3
  refine h v' w' ?_ h2 h3
  unfold SlS
  rw [List.length_append, spC_append]
  exact h1

theorem RdS.of {w : World} {v : Value} {l : List Spot} (h : SlS w v l) (hl : l.length ≤ 200) : RdS w v l := ⟨Sl.rd h, by omega⟩
/-- Two slices that the call has made, one behind the other. -/
theorem apart_of {w1 wb : World} {v5 v6 : Value} {l : List Spot} (h5 : SlS w1 v5 l) (h6 : ∀ k, v6.ownBlock = some k → wb.heap.size ≤ k) (hs : w1.heap.size ≤ wb.heap.size) : ∀ g, v6.ownBlock = some g → ¬ v5.ownBlock = some g := fun g e1 e2 => by
  have := Sl.lt h5 g e2
  have := h6 g e1
  omega
theorem more_bds (ss gs : List Spot) (x : Spot) (h : bestE ss gs = 0) :
    (bestE (ss ++ [x]) gs = 0 → bestN ss gs ≤ bestN (ss ++ [x]) gs ∧ bestN (ss ++ [x]) gs ≤ bestN ss gs + 2 * hm x) ∧
    (bestE ss (gs ++ [x]) = 0 → bestN ss gs ≤ bestN ss (gs ++ [x]) ∧ bestN ss (gs ++ [x]) ≤ bestN ss gs + 2 * hm x) := by
  have hok : okL ss ∧ okL gs := by
    unfold bestE at h
    split at h
    · assumption
    · cases h
  have ha : alone (ss ++ [x]) = alone ss + 2 * hm x := by rw [alone_append]; simp [alone]
  have hb : alone (gs ++ [x]) = alone gs + 2 * hm x := by rw [alone_append]; simp [alone]
  have hms := M_more_s ss gs x
  have hmg := M_more_g ss gs x
  refine ⟨fun h1 => ?_, fun h1 => ?_⟩
  · have hok1 : okL (ss ++ [x]) ∧ okL gs := by
      unfold bestE at h1
      split at h1
      · assumption
      · cases h1
    unfold bestN
    rw [if_pos hok, if_pos hok1, ha]
    omega
  · have hok1 : okL ss ∧ okL (gs ++ [x]) := by
      unfold bestE at h1
      split at h1
      · assumption
      · cases h1
    unfold bestN
    rw [if_pos hok, if_pos hok1, hb]
    omega
theorem more_ok (ss gs : List Spot) (x : Spot) (h : bestE (ss ++ [x]) gs = 0 ∨ bestE ss (gs ++ [x]) = 0) : okS x := by
  rcases h with h | h
  · unfold bestE at h
    split at h
    · rename_i h'; exact h'.1.2 x (by simp)
    · cases h
  · unfold bestE at h
    split at h
    · rename_i h'; exact h'.2.2 x (by simp)
    · cases h

theorem cells_two {w : World} {g : Nat} {a b : Value} {t : TypeId} {fr : Nat × Nat} (h : w.heap[g]? = some (.cells #[a, b] t fr)) : w.cell? ⟨g, 0, none⟩ = some a ∧ w.cell? ⟨g, 1, none⟩ = some b := ⟨blk_cell h 0, blk_cell h 1⟩
/-! ### Drive, whatever the spots -/
def apartW (a b : Int) : Int := if wrap64 (a - b) < wrap64 (b - a) then wrap64 (b - a) else wrap64 (a - b)
theorem apartW_any (a b : Int) (w : World) :
    Calls Try.prog 22 #[.int .i64 a, .int .i64 b] w fun e w' => e = .returned (.int .i64 (apartW a b)) ∧ w = w' := by
  by_cases h : wrap64 (a - b) < wrap64 (b - a)
  · have he : apartW a b = wrap64 (b - a) := if_pos h
    rw [he]
    clear he
    go_enter Try.func22, Try.ntmps22
    go_wp2
    go_ret
    exact ⟨rfl, rfl⟩
  · have he : apartW a b = wrap64 (a - b) := if_neg h
    rw [he]
    clear he
    go_enter Try.func22, Try.ntmps22
    go_wp2
    go_ret
    exact ⟨rfl, rfl⟩
def SomeD (w : World) (e : Ending) (w' : World) : Prop := ∃ D, e = .returned (.int .i64 D) ∧ Fr w w' No
set_option maxHeartbeats 1000000 in
theorem drive_total (a b : Spot) (w : World) : Calls Try.prog 11 #[spV a, spV b] w fun e w' => SomeD w e w' := by
  obtain ⟨a1, a2⟩ := a
  obtain ⟨b1, b2⟩ := b
  go_enter Try.func11, Try.ntmps11
  go_wp2_with fail
  go_quiet ((go_at_call 22; exact Calls.quiet_of_same ((apartW_any _ _ _).mono fun e w' h => ⟨h.1, h.2.symm⟩)))
  go_wp2
  all_goals
    go_ret
    exact ⟨_, rfl, by first | exact (((Fr.refl w No).to_alloc _).to_alloc _).to_drewN _ | exact (((Fr.refl w No).to_alloc _).to_alloc _)⟩

set_option maxRecDepth 100000 in
set_option maxHeartbeats 8000000 in
theorem pairMore_row (w : World) (u v : Value) (ss gs : List Spot) (hu : RdS w u ss) (hv : RdS w v gs) (x1 x2 : Int) :
    Calls Try.prog 6 #[u, v, spV (x1, x2)] w fun e w' => e = .returned (.bool true) ∧ Fr w w' No := by
  have l1 := hu.2
  have l2 := hv.2
  obtain ⟨a, c, rfl⟩ := hu.form
  obtain ⟨a', c', rfl⟩ := hv.form
  have HU := Lib.hid hu
  have HV := Lib.hid hv
  clear hu hv
  go_enter Try.func6, Try.ntmps6
  go_wp2_with fail
  refine (awake_any _).mono ?_
  rintro e w1 ⟨rfl, hf1⟩
  have HF := Lib.hid (((Fr.refl w No).to_alloc (.cells #[.int .i64 x1, .int .i64 x2] 23)).nn hf1)
  have KX := Lib.hid (hf1.blk (blk_new w (.cells #[.int .i64 x1, .int .i64 x2] 23)) id)
  clear hf1
  by_cases h100 : 100 < ss.length + gs.length
  · have hd : decide ((100 : Int) < (ss.length : Int) + (gs.length : Int)) = true := by simp; omega
    go_wp2_with fail
    refine (awake_any _).mono ?_
    rintro e w2 ⟨rfl, hf2⟩
    have HF2 := Lib.hid (HF.out.nn hf2)
    clear hf2
    go_wp2_with fail
    go_ret
    exact ⟨rfl, HF2.out⟩
  · have hd : decide ((100 : Int) < (ss.length : Int) + (gs.length : Int)) = false := by simp; omega
    go_wp2_with fail
    refine (own_any _ ss _ (HU.out.keep0 HF.out)).mono ?_
    rintro e w2 ⟨v2, rfl, hN2⟩
    have HN2 := Lib.hid hN2
    have HF2 := Lib.hid (HF.out.nn hN2.2.1)
    have KX2 := Lib.hid (hN2.2.1.blk KX.out id)
    clear hN2 HF KX
    go_wp2_with fail
    refine (own_any _ gs _ (HV.out.keep0 HF2.out)).mono ?_
    rintro e w3 ⟨v3, rfl, hN3⟩
    have HN3 := Lib.hid hN3
    have HN2' := Lib.hid (HN2.out.keep0 hN3.2.1)
    have HF3 := Lib.hid (HF2.out.nn hN3.2.1)
    have KX3 := Lib.hid (hN3.2.1.blk KX2.out id)
    clear hN3 HF2 HN2 KX2
    go_wp2_with fail
    refine (best_any _ _ ss gs _ (HN2'.out.rd (by omega)) (HN3.out.rd (by omega))).mono ?_
    rintro e w4 ⟨q4, rfl, hN4⟩
    have HF4 := Lib.hid (HF3.out.nn hN4.2.1)
    have KX4 := Lib.hid (hN4.2.1.blk KX3.out id)
    clear hN4 HF3 HN2' HN3 KX3
    have hU := HU.out.keep0 HF4.out
    have hV := HV.out.keep0 HF4.out
    have HU4 := Lib.hid hU
    have HV4 := Lib.hid hV
    have c1 : w4.cell? ⟨w.heap.size, 0, none⟩ = some (.int .i64 x1) := blk_cell KX4.out 0
    have c2 : w4.cell? ⟨w.heap.size, 1, none⟩ = some (.int .i64 x2) := blk_cell KX4.out 1
    clear hU hV
    go_upto_region 4 with (fail)
    go_cut [10, 11, 12] (fun v10 v11 v12 wc => v11 = .int .i64 (bestN (ss ++ [(x1, x2)]) gs) ∧ v12 = .int .i64 (bestE (ss ++ [(x1, x2)]) gs) ∧ Fr w4 wc No)
    case first =>
      go_region_held3 (fun w' => w'.cell? ⟨w.heap.size, 0, none⟩ = some (.int .i64 x1) ∧ w'.cell? ⟨w.heap.size, 1, none⟩ = some (.int .i64 x2) ∧ Fr w4 w' No)
        ((go_split_ands; refine (fun hq : Fr w4 _ No => ⟨hq.cell c1 id, hq.cell c2 id, hq⟩) ?_; first
            | exact Fr.drew w4 No
            | exact Fr.nn (by assumption) hN8.2.1
            | exact Fr.into (by assumption) hf7 (fun i e => by have h1 := hN5.2.2 i e; simp at h1; omega)
            | exact Fr.nn (by assumption) hN6.2.1
            | exact Fr.nn (by assumption) hN5.2.1
            | exact Fr.to_alloc (by assumption) _))
        (first
          | (go_at_call_of 13 (Value.slice a ss.length c); refine (own_any _ ss _ (HU4.out.keep0 (by go_split_ands; assumption))).mono ?_; rintro e w' ⟨v5, rfl, hN5⟩)
          | (go_at_call_of 13 (Value.slice a' gs.length c'); refine (own_any _ gs _ (HV4.out.keep0 (by go_split_ands; assumption))).mono ?_; rintro e w' ⟨v6, rfl, hN6⟩)
          | (go_at_call 14; refine (best_any _ _ (ss ++ [(x1, x2)]) gs _ (RdS.of (by first | exact hs7 | exact Sl.keep0 hs7 hN6.2.1) (by simp; omega))
              (RdS.of (by first | exact hN6.1 | exact Sl.keep hN6.1 hf7 (apart_of hN5.1 hN6.2.2 (by simp)) | exact Sl.keep (Sl.keep0 hN6.1 (Fr.alloc _ _ _)) hf7 (apart_of hN5.1 hN6.2.2 (by simp))) (by omega))).mono ?_; rintro e w' ⟨v8, rfl, hN8⟩)
          | (refine step_appSp (by rfl) _ _ (by rfl) v5 ss (by rfl) (by first | exact hN5.1 | exact Sl.keep0 hN5.1 (Fr.alloc _ _ _) | exact Sl.keep0 hN5.1 hN6.2.1 | exact Sl.keep0 (Sl.keep0 hN5.1 (Fr.alloc _ _ _)) hN6.2.1 | exact Sl.keep0 (Sl.keep0 hN5.1 hN6.2.1) (Fr.alloc _ _ _)) _ (x1, x2) (by rfl)
              (by first | exact blk_new _ _ | exact hN6.2.1.blk (blk_new _ _) id | exact hN5.2.1.blk (blk_new _ _) id | exact hN6.2.1.blk (hN5.2.1.blk (blk_new _ _) id) id) (by omega) ?_; intro v7 w7 hs7 hf7 ho7))
      all_goals
        have HX8 := Lib.hid hN8.2.1
        obtain ⟨_, _, hq⟩ := ‹_ ∧ _ ∧ _›
        have HQ := Lib.hid hq
        clear hq
        go_wp2_with fail
        go_meet
        case rel => exact ⟨rfl, rfl, HQ.out⟩
    case rest =>
      obtain ⟨rfl, rfl, hfc⟩ := hcut
      have HF5 := Lib.hid (HF4.out.nn hfc)
      have hU := HU.out.keep0 HF5.out
      have hV := HV.out.keep0 HF5.out
      have KX5 := Lib.hid (hfc.blk KX4.out id)
      clear c1 c2 HU4 HV4 HF4 KX4 hfc
      have HU4 := Lib.hid hU
      have HV4 := Lib.hid hV
      have c1 : wc.cell? ⟨w.heap.size, 0, none⟩ = some (.int .i64 x1) := blk_cell KX5.out 0
      have c2 : wc.cell? ⟨w.heap.size, 1, none⟩ = some (.int .i64 x2) := blk_cell KX5.out 1
      clear hU hV
      go_upto_region 5 with (fail)
      go_cut [13, 14, 15] (fun v13 v14 v15 wd => v14 = .int .i64 (bestN ss (gs ++ [(x1, x2)])) ∧ v15 = .int .i64 (bestE ss (gs ++ [(x1, x2)])) ∧ Fr wc wd No)
      case first =>
        go_region_held3 (fun w' => w'.cell? ⟨w.heap.size, 0, none⟩ = some (.int .i64 x1) ∧ w'.cell? ⟨w.heap.size, 1, none⟩ = some (.int .i64 x2) ∧ Fr wc w' No)
          ((go_split_ands; refine (fun hq : Fr wc _ No => ⟨hq.cell c1 id, hq.cell c2 id, hq⟩) ?_; first
              | exact Fr.drew wc No
              | exact Fr.nn (by assumption) hN8.2.1
              | exact Fr.into (by assumption) hf7 (fun i e => by have h1 := hN6.2.2 i e; have h2 := hN5.2.1.size; simp at h1 h2; omega)
              | exact Fr.nn (by assumption) hN6.2.1
              | exact Fr.nn (by assumption) hN5.2.1
              | exact Fr.to_alloc (by assumption) _))
          (first
            | (go_at_call_of 13 (Value.slice a ss.length c); refine (own_any _ ss _ (HU4.out.keep0 (by go_split_ands; assumption))).mono ?_; rintro e w' ⟨v5, rfl, hN5⟩)
            | (go_at_call_of 13 (Value.slice a' gs.length c'); refine (own_any _ gs _ (HV4.out.keep0 (by go_split_ands; assumption))).mono ?_; rintro e w' ⟨v6, rfl, hN6⟩)
            | (go_at_call 14; refine (best_any _ _ ss (gs ++ [(x1, x2)]) _
                (RdS.of (by first | exact Sl.keep (Sl.keep0 hN5.1 hN6.2.1) hf7 (fun g e1 e2 => apart_of hN5.1 hN6.2.2 (by simp) g e2 e1) | exact Sl.keep (Sl.keep0 (Sl.keep0 hN5.1 (Fr.alloc _ _ _)) hN6.2.1) hf7 (fun g e1 e2 => apart_of hN5.1 hN6.2.2 (by simp) g e2 e1) | exact Sl.keep (Sl.keep0 (Sl.keep0 hN5.1 hN6.2.1) (Fr.alloc _ _ _)) hf7 (fun g e1 e2 => apart_of hN5.1 hN6.2.2 (by simp) g e2 e1)) (by omega))
                (RdS.of hs7 (by simp; omega))).mono ?_; rintro e w' ⟨v8, rfl, hN8⟩)
            | (refine step_appSp (by rfl) _ _ (by rfl) v6 gs (by rfl) (by first | exact hN6.1 | exact Sl.keep0 hN6.1 (Fr.alloc _ _ _)) _ (x1, x2) (by rfl)
                (by first | exact blk_new _ _ | exact hN6.2.1.blk (blk_new _ _) id | exact hN6.2.1.blk (hN5.2.1.blk (blk_new _ _) id) id) (by omega) ?_; intro v7 w7 hs7 hf7 ho7))
        all_goals
          have HX8 := Lib.hid hN8.2.1
          obtain ⟨_, _, hq⟩ := ‹_ ∧ _ ∧ _›
          have HQ := Lib.hid hq
          clear hq
          go_wp2_with fail
          go_meet
          case rel => exact ⟨rfl, rfl, HQ.out⟩
      case rest =>
        obtain ⟨rfl, rfl, hfd⟩ := hcut
        have HF6 := Lib.hid (HF5.out.nn hfd)
        have KX6 := Lib.hid (hfd.blk KX5.out id)
        clear c1 c2 HU4 HV4 HF5 KX5 hfd
        rcases bestE_01 ss gs with hE | hE
        · have hmb := more_bds ss gs (x1, x2) hE
          have hmo := more_ok ss gs (x1, x2)
          have hb0 := bestN_bd ss gs
          rw [hE]
          have HE := Lib.hid hE
          clear hE
          obtain ⟨c1, c2⟩ := cells_two KX6.out
          have hA := bestE_01 (ss ++ [(x1, x2)]) gs
          have hB := bestE_01 ss (gs ++ [(x1, x2)])
          by_cases hok : okS (x1, x2)
          · have hh := hm_ok hok
            have hh0 := hm_nonneg (x1, x2)
            have HOK := Lib.hid hok
            obtain ⟨hmA, hmB⟩ := hmb
            have HMA := Lib.hid hmA
            have HMB := Lib.hid hmB
            clear hmo hok hmA hmB
            generalize bestN (ss ++ [(x1, x2)]) gs = A at *
            generalize bestN ss (gs ++ [(x1, x2)]) = B at *
            generalize bestE (ss ++ [(x1, x2)]) gs = EA at *
            generalize bestE ss (gs ++ [(x1, x2)]) = EB at *
            generalize bestN ss gs = N at *
            go_wp2_with fail
            refine (drive_any (0, 0) (x1, x2) _ nearS.zero HOK.out.near).mono ?_
            rintro e w7 ⟨rfl, hf7⟩
            have HF7 := Lib.hid (HF6.out.nn hf7)
            have hhd : drv (0, 0) (x1, x2) = hm (x1, x2) := rfl
            rw [hhd]
            clear hhd hf7 c1 c2
            generalize hm (x1, x2) = H at *
            rcases hA with rfl | rfl
            · have hA2 := HMA.out rfl
              rcases hB with rfl | rfl
              · have hB2 := HMB.out rfl
                go_wp2_with fail
                go_ret
                exact ⟨rfl, HF7.out⟩
              · go_wp2_with fail
                go_ret
                exact ⟨rfl, HF7.out⟩
            · rcases hB with rfl | rfl
              · have hB2 := HMB.out rfl
                go_wp2_with fail
                go_ret
                exact ⟨rfl, HF7.out⟩
              · go_wp2_with fail
                go_ret
                exact ⟨rfl, HF7.out⟩
          · have eA : bestE (ss ++ [(x1, x2)]) gs = 1 := by
              rcases hA with h | h
              · exact absurd (hmo (.inl h)) hok
              · exact h
            have eB : bestE ss (gs ++ [(x1, x2)]) = 1 := by
              rcases hB with h | h
              · exact absurd (hmo (.inr h)) hok
              · exact h
            rw [eA, eB]
            clear hA hB eA eB hmo hmb hok
            go_wp2_with fail
            refine (drive_total (0, 0) (x1, x2) _).mono ?_
            rintro e w7 ⟨D, rfl, hf7⟩
            have HF7 := Lib.hid (HF6.out.nn hf7)
            clear hf7 c1 c2
            go_wp2_with fail
            go_ret
            exact ⟨rfl, HF7.out⟩
        · rw [hE]
          clear hE
          go_wp2_with fail
          go_ret
          exact ⟨rfl, HF6.out⟩

/-- As the row wants it. -/
theorem pairMore_all (w : World) (u : Value) (n1 : Nat) (f1 : List Int) (h1 : Rd w u n1 (f1.map (Value.int .i64)) 2) (b1 : n1 ≤ 8796093022207) (v : Value) (n2 : Nat) (f2 : List Int) (h2 : Rd w v n2 (f2.map (Value.int .i64)) 2) (b2 : n2 ≤ 8796093022207)
    (x1 x2 : Int) (_ : ∀ z ∈ [x1, x2], (Lit.int .i64 z).wf = true) :
    Calls Try.prog 6 #[u, v, .agg #[.int .i64 x1, .int .i64 x2]] w fun e w' => e = .returned (.bool true) ∧ Fr w w' No := by
  obtain ⟨ss, hs, _⟩ := Rd.spots h1 b1
  obtain ⟨gs, hg, _⟩ := Rd.spots h2 b2
  exact pairMore_row w u v ss gs hs hg x1 x2
end Go.Proofs.Ytggogohoakbepaa
