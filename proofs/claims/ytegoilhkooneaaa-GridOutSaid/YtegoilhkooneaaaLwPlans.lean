/-
  The law GridPlans: its walk.
-/
import Derived.Test.YtegoilhkooneaaaGp4
namespace Go.Proofs.Ytegoilhkooneaaa
open Go.RowKit Go.Sort
set_option linter.unusedVariables false
set_option linter.unusedSimpArgs false

theorem where_is_ {w : World} {p : Nat} {gs : List Nat} {R : List Lan} {t i : Int} (h : RackAt w p gs R) (h1 : whereR t R = i) :
    Calls Try.prog 34 #[.pointer (some ⟨p, 0, none⟩), .int .i64 t] w fun e w' => e = .returned (.int .i64 i) ∧ Fr w w' No := by subst h1; exact where_any p gs R t w h

/-- The law's state ahead of the doing. -/
structure PnS (w wr : World) (p : Nat) (gs : List Nat) (R : List Lan) (v : Value) (L : List Mv) : Prop where
  rack : NewR w wr p gs R
  mv : NewM 62 w wr v L
theorem PnS.keep0 {w wr w' : World} {p : Nat} {gs : List Nat} {R : List Lan} {v : Value} {L : List Mv} (h : PnS w wr p gs R v L) (hf : Fr wr w' No) : PnS w w' p gs R v L := ⟨h.rack.keep0 hf, h.mv.keep0 hf⟩
theorem RackAt.inl {w : World} {p : Nat} {gs : List Nat} {R : List Lan} (h : RackAt w p gs R) {b : Nat} (hb : b ∈ gs) : ∃ cs fr, w.heap[b]? = some (.cells cs 93 fr) := by
  obtain ⟨i, hi, hbi⟩ := List.getElem_of_mem hb
  obtain ⟨_, _, _, r, _, hx⟩ := h.lane i (by rw [← h.len]; exact hi)
  rw [List.getD_eq_getElem?_getD, List.getElem?_eq_getElem hi, Option.getD_some, hbi] at hx
  exact ⟨_, _, hx⟩
theorem PnS.do_ {w wr w' : World} {p : Nat} {gs : List Nat} {R R' : List Lan} {v : Value} {L : List Mv} (h : PnS w wr p gs R v L) (hr : RackAt w' p gs R') (hf : Fr wr w' (In gs)) : PnS w w' p gs R' v L :=
  ⟨h.rack.into hr hf, h.mv.keep hf (fun b e hb => by obtain ⟨cs, fr, hx⟩ := h.rack.rack.inl hb; exact Sl.ne h.mv.1 hx (by decide) e) h.rack.hgs⟩
/-- .. and with the array of what stands in. -/
structure PaS (w wr : World) (p bi : Nat) (gs : List Nat) (R : List Lan) (v : Value) (L : List Mv) (xs : List Int) : Prop where
  st : PnS w wr p gs R v L
  arr : wr.heap[bi]? = some (.cells (xs.map (Value.int .i64)).toArray 89 (0, 0))
  new : w.heap.size ≤ bi
  len : xs.length = 31
theorem PaS.keep0 {w wr w' : World} {p bi : Nat} {gs : List Nat} {R : List Lan} {v : Value} {L : List Mv} {xs : List Int} (h : PaS w wr p bi gs R v L xs) (hf : Fr wr w' No) : PaS w w' p bi gs R v L xs := ⟨h.st.keep0 hf, hf.blk h.arr id, h.new, h.len⟩
theorem PaS.do_ {w wr w' : World} {p bi : Nat} {gs : List Nat} {R R' : List Lan} {v : Value} {L : List Mv} {xs : List Int} (h : PaS w wr p bi gs R v L xs) (hr : RackAt w' p gs R') (hf : Fr wr w' (In gs)) : PaS w w' p bi gs R' v L xs :=
  ⟨h.st.do_ hr hf, hf.blk h.arr (fun hb => by obtain ⟨cs, fr, hx⟩ := h.st.rack.rack.inl hb; exact blk_ne h.arr hx (by decide) rfl), h.new, h.len⟩
theorem PaS.set {w wr : World} {p bi : Nat} {gs : List Nat} {R : List Lan} {v : Value} {L : List Mv} {xs : List Int} (h : PaS w wr p bi gs R v L xs) (j : Nat) (x : Int) : PaS w (wr.setCell ⟨bi, j, none⟩ (.int .i64 x)) p bi gs R v L (xs.set j x) := by
  have hF := Fr.setCell wr ⟨bi, j, none⟩ (.int .i64 x)
  have hrk := h.st.rack
  obtain ⟨vr, r1, r2⟩ := hrk.rack.row
  refine ⟨⟨⟨⟨⟨vr, hF.blk r1 (fun e => blk_ne r1 h.arr (by decide) e), r2.keep hF (fun i hi e => Sl.ne r2 h.arr (by decide) (by rw [hi, show i = bi from e]))⟩, hrk.rack.lanes.keep hF (fun i hi e => ?_), hrk.rack.le⟩, hrk.fr.in1 hF h.new, hrk.hgs⟩,
    h.st.mv.keep hF (fun i hi e => Sl.ne h.st.mv.1 h.arr (by decide) (by rw [hi, show i = bi from e])) (fun i e => by rw [show i = bi from e]; exact h.new)⟩, ?_, h.new, by rw [List.length_set]; exact h.len⟩
  · obtain ⟨cs, fr, hx⟩ := hrk.rack.inl hi
    exact blk_ne hx h.arr (by decide) e
  · rw [blk_set h.arr j (.int .i64 x)]
    congr 2
    apply Array.ext'
    simp [List.map_set]
theorem PaS.cell {w wr : World} {p bi : Nat} {gs : List Nat} {R : List Lan} {v : Value} {L : List Mv} {xs : List Int} (h : PaS w wr p bi gs R v L xs) (j : Nat) (hj : j < 31) : wr.cell? ⟨bi, j, none⟩ = some (.int .i64 (xs.getD j 0)) := by
  rw [blk_cell h.arr]
  have hl := h.len
  simp [List.getD, List.getElem?_eq_getElem (show j < xs.length by omega)]

theorem in_step {xs : List Int} {R : List Lan} {k : Nat} (hl : xs.length = 31) (hk : k < 30) (h : ∀ j : Nat, 1 ≤ j → j ≤ k → xs.getD j 0 = (cnt (j : Int) R : Int)) {z : Int} (hz : z = (cnt ((k : Int) + 1) R : Int)) :
    ∀ j : Nat, 1 ≤ j → j ≤ k + 1 → (xs.set (k + 1) z).getD j 0 = (cnt (j : Int) R : Int) := by
  intro j h1 h2
  rw [getD_set _ _ _ _ (by omega)]
  split
  · rename_i e; subst e; rw [hz]; rfl
  · exact h j h1 (by omega)

theorem in_out {xs : List Int} {R Rf : List Lan} {x : Nat} (hw : WF R) (hl : xs.length = 31) (h : ∀ j : Nat, 1 ≤ j → j ≤ 30 → xs.getD j 0 = (cnt (j : Int) R : Int)) (hO : OutOf R Rf x) (hx : x ≤ 30) :
    ∀ j : Nat, 1 ≤ j → j ≤ 30 → (xs.set x 0).getD j 0 = (cnt (j : Int) Rf : Int) := by
  intro j h1 h2
  have h3 := hO.cnt j
  have h4 := hw.nd j
  have h5 := h j h1 h2
  rw [getD_set _ _ _ _ (by omega)]
  by_cases e : x = j
  · subst e
    rw [if_pos rfl] at h3 ⊢
    omega
  · rw [if_neg (by omega)] at h3
    rw [if_neg e, h5]
    omega

set_option maxRecDepth 100000 in
set_option maxHeartbeats 8000000 in
theorem gridPlans_walk (w : World) (v u : Value) (ds zs : List Int) (y : Int) (hv : RdI w v ds) (hu : RdI w u zs) :
    Calls Try.prog 13 #[v, u, .int .i64 y] w fun e w' => e = .returned (.bool true) ∧ Fr w w' No := by
  obtain ⟨a, c, rfl, _⟩ := hv.open_
  have HV := Lib.hid hv
  have HU := Lib.hid hu
  have htt := tt_eq y
  have hbd := tt_bd y
  clear hv hu
  go_enter Try.func13, Try.ntmps13
  go_wp2_with fail
  refine (awakeG_any _).mono ?_
  rintro e w1 ⟨rfl, hf1⟩
  have HF := Lib.hid hf1
  clear hf1
  go_wp2_with fail
  refine (filled_any _ u ds zs _ (HV.out.keep0 HF.out) (HU.out.keep0 HF.out)).mono ?_
  rintro e w2 (⟨hok, p, gs, rfl, hN⟩ | ⟨_, rfl, hf⟩)
  · obtain ⟨R, hRe⟩ : ∃ R, fill (rack0 ds) (zs.take 60) = R := ⟨_, rfl⟩
    have hlen : R.length = ds.length := by rw [← hRe, fill_len, rack0_len]
    have hwf : WF R := by rw [← hRe]; exact (WF.init ds).fill _
    have hdep : ∀ i, i < ds.length → ((lan R i).1 : Int) = ds.getD i 0 := fun i hi => by rw [← hRe, fill_dep]; exact rack0_dep ds hok i hi
    have h32 := hok.2.1
    rw [hRe] at hN
    have HN := Lib.hid (hN.from HF.out)
    have HWF := Lib.hid hwf
    have HLEN := Lib.hid hlen
    have HDEP := Lib.hid hdep
    clear hN HF hRe hwf hok hlen hdep
    go_upto_region 7 with (fail)
    rw [htt]
    generalize tt y = x at *
    clear htt
    go_wp2_with fail
    refine (where_any p gs R x _ HN.out.rack).mono ?_
    rintro e w3 ⟨rfl, hf3⟩
    have HN3 := Lib.hid (HN.out.keep0 hf3)
    clear hf3
    go_wp2_with fail
    refine (plan_any x HN3.out.rack).mono ?_
    rintro e w4 ⟨v4, rfl, hM4⟩
    obtain ⟨a4, c4, rfl⟩ := hM4.form
    have HS := Lib.hid (PnS.mk (HN3.out.keep0 hM4.2.1) (hM4.from HN3.out.fr))
    clear hM4
    by_cases hw : whereR x R < 0
    · have e1 : planE R x = 160 := by unfold planE; rw [if_pos hw]
      have e2 : planL R x = [] := by unfold planL planO; rw [if_pos hw]; rfl
      rw [e1]
      rw [e2] at HS ⊢
      clear e1 e2
      go_wp2_with fail
      go_ret
      exact ⟨rfl, HS.out.rack.fr⟩
    · obtain ⟨at_, hat⟩ : ∃ n : Nat, whereR x R = n := ⟨(whereR x R).toNat, by omega⟩
      obtain ⟨ha, hi, _⟩ := whereR_at x R at_ hat
      have hi : 0 ≤ idx x (lan R at_).2 := hi
      obtain ⟨i0, hi0⟩ : ∃ i : Nat, idx x (lan R at_).2 = i := ⟨(idx x (lan R at_).2).toNat, by omega⟩
      have hilt := idx_lt x (lan R at_).2
      have hA := ahead_len (lan R at_).2 x i0 hi0
      have hPl := planIs HWF.out hat
      have hc1 : (lan R at_).2.count x ≤ 1 := Nat.le_trans (cnt_lane x R at_ ha) (HWF.out.nd x)
      have hl8 : (lan R at_).2.length ≤ 8 := by
        have h1 := (HN.out.rack.lane at_ ha)
        obtain ⟨q1, q2, q3, _⟩ := h1
        unfold lan; omega
      rw [hi0] at hilt
      have HPL := Lib.hid hPl
      have HA := Lib.hid hA
      have HEQ := Lib.hid (fun k hk => lane_eq hc1 hi0 k hk)
      have hx1 := hbd.1
      have hx30 := hbd.2
      rw [hat]
      have h0 : ¬ (at_ : Int) < 0 := by omega
      have HAT := Lib.hid hat
      have hLT := Lib.hid (lanT_at R at_ ha)
      have HHA := Lib.hid ha
      obtain ⟨S, hS⟩ : ∃ S, (lan R at_).2 = S := ⟨_, rfl⟩
      rw [hS] at hl8 hilt HEQ HA hLT
      have HSe := Lib.hid hS
      clear hPl hA hc1 hi0 hi hw hat HN HN3 hbd ha hS
      go_wp2_with fail
      refine (laneG_any p gs R at_ _ HS.out.rack.rack).mono ?_
      rw [hLT.out]
      rintro e w5 ⟨v5, rfl, hN5⟩
      obtain ⟨a5, c5, rfl⟩ := slv_form hN5.1
      have HN5 := Lib.hid (hN5.from HS.out.rack.fr)
      have HS5 := Lib.hid (HS.out.keep0 hN5.2.1)
      clear hN5 HS
      go_wp2_with fail
      go_loopg [13, 63] S.length (fun g v13 v63 wr => ∃ (k : Nat) (n : Int), k + g = S.length ∧ v63 = .int .i64 k ∧ v13 = .int .i64 n ∧ n = (if i0 < k then ((S.length - (i0 + 1) : Nat) : Int) else 0) ∧ wr = w5)
      case atStart => exact ⟨0, 0, by omega, rfl, rfl, by rw [if_neg (Nat.not_lt_zero i0)], rfl⟩
      case round =>
        obtain ⟨k, n13, hk, rfl, rfl, hn13, rfl⟩ := hrel
        have HK := Lib.hid hk
        have HN13 := Lib.hid hn13
        clear hk hn13
        by_cases hlt : k < S.length
        · obtain ⟨b5, o5, ha5, hcm⟩ := (SlI.rd HN5.out.1 (by omega)).get k hlt
          subst ha5
          have hk1 : (k : Int) < (S.length : Int) := by omega
          have hq := HEQ.out k hlt
          have HLT := Lib.hid hlt
          obtain ⟨s, hs⟩ : ∃ s, S.getD k 0 = s := ⟨_, rfl⟩
          rw [hs] at hcm hq
          clear hs
          by_cases hki : k = i0
          · have hsx := hq.2 hki
            subst hsx
            subst hki
            have hss : (s == s) = true := beq_self_eq_true s
            have hw1 : wrap64 (wrap64 ((S.length : Int) - 1) - k) = ((S.length - (k + 1) : Nat) : Int) := by unfold wrap64; omega
            have HW1 := Lib.hid hw1
            clear hq hw1
            go_wp2_with fail
            go_roundg (gk - 1)
            case measure => have := HK.out; have := HLT.out; omega
            case rel => exact ⟨k + 1, _, by have := HK.out; have := HLT.out; omega, by go_num, rfl, by rw [if_pos (by omega)]; omega, rfl⟩
          · have hsx : (s == x) = false := by simp only [beq_eq_false_iff_ne]; intro e; exact hki (hq.1 e)
            have he : (if i0 < k then ((S.length - (i0 + 1) : Nat) : Int) else 0) = if i0 < k + 1 then ((S.length - (i0 + 1) : Nat) : Int) else 0 := by split <;> split <;> omega
            have HE := Lib.hid he
            clear hq he
            go_wp2_with fail
            go_roundg (gk - 1)
            case measure => have := HK.out; have := HLT.out; omega
            case rel => exact ⟨k + 1, _, by have := HK.out; have := HLT.out; omega, by go_num, rfl, by rw [HN13.out, HE.out], rfl⟩
        · have hk1 : ¬ (k : Int) < (S.length : Int) := by omega
          have hn := HN13.out
          rw [if_pos (by omega)] at hn
          obtain ⟨A, hAe⟩ : ∃ A : Nat, S.length - (i0 + 1) = A := ⟨_, rfl⟩
          have hA8 : A ≤ 8 := by omega
          rw [hAe] at HA hn
          subst hn
          clear hlt HEQ HN5 HK hAe
          go_wp2_with fail
          go_loopg [16, 79] ds.length (fun g v16 v79 wr => ∃ (k : Nat) (n : Int), k + g = ds.length ∧ v79 = .int .i64 k ∧ v16 = .int .i64 n ∧ n = roomK R at_ k ∧ 0 ≤ n ∧ n ≤ 8 * (k : Int) ∧ PnS w wr p gs R (.slice a4 (planL R x).length c4) (planL R x))
          case atStart => exact ⟨0, 0, by omega, rfl, rfl, (roomK_zero _ _).symm, by omega, by omega, HS5.out⟩
          case round =>
            clear hk1
            obtain ⟨k, n, hk, rfl, rfl, hn, hn0, hn1, hS⟩ := hrel
            have HK := Lib.hid hk
            have HNK := Lib.hid hn
            have HS := Lib.hid hS
            clear hk hn hS HS5
            by_cases hlt : k < ds.length
            · have hk1 : (k : Int) < (ds.length : Int) := by omega
              have HLT := Lib.hid hlt
              have hst := roomK_step R at_ k (by rw [HLEN.out]; exact hlt)
              by_cases hka : k = at_
              · rw [if_pos hka] at hst
                have HST := Lib.hid hst
                have hb : ((k : Int) != (at_ : Int)) = false := by simp [hka]
                clear hlt hst hka
                go_wp2_with fail
                go_roundg (gk - 1)
                case measure => have := HK.out; have := HLT.out; omega
                case rel => exact ⟨k + 1, n, by have := HK.out; have := HLT.out; omega, by go_num, rfl, by rw [HST.out, HNK.out], hn0, by omega, HS.out⟩
              · rw [if_neg hka] at hst
                have HST := Lib.hid hst
                have hb : ((k : Int) != (at_ : Int)) = true := by simp; omega
                obtain ⟨b, off, ha, hcm⟩ := (HV.out.keep0 HS.out.rack.fr).get k hlt
                subst ha
                rw [← HDEP.out k hlt] at hcm
                have hLTk := Lib.hid (lanT_at R k (by rw [HLEN.out]; exact hlt))
                have hbds : (lan R k).2.length ≤ (lan R k).1 ∧ (lan R k).1 ≤ 8 := by
                  have h1 := (HS.out.rack.rack.lane k (by rw [HLEN.out]; exact hlt))
                  exact ⟨h1.1, h1.2.2.1⟩
                have hk0 : (0 : Int) ≤ (k : Int) := by omega
                clear hlt hst hka
                go_upto_region 24 with (fail)
                have hw1 : IntKind.i64.wrap (((lan R k).1 : Int) - (lan R k).2.length) = ((lan R k).1 : Int) - (lan R k).2.length := IntWalk.i64_in _ (by omega)
                have hw2 : IntKind.i64.wrap (n + (((lan R k).1 : Int) - (lan R k).2.length)) = n + (((lan R k).1 : Int) - (lan R k).2.length) := IntWalk.i64_in _ (by omega)
                go_region_held3 (fun w' => w'.cell? ⟨b, off + k, none⟩ = some (.int .i64 ((lan R k).1 : Int)) ∧ Fr wr w' No)
                  ((go_split_ands; refine (fun hq : Fr wr _ No => ⟨hq.cell hcm id, hq⟩) ?_; first
                    | exact Fr.drew wr No
                    | exact Fr.nn (by assumption) hN6.2.1))
                  (first
                    | (go_at_call 36; refine (laneG_any p gs R k _ (HS.out.keep0 (by go_split_ands; assumption)).rack.rack).mono ?_; rw [hLTk.out]; rintro e w6 ⟨v6, rfl, hN6⟩; obtain ⟨a6, c6, hv6⟩ := slv_form hN6.1; subst hv6))
                obtain ⟨_, hq⟩ := ‹_ ∧ _›
                have HS6 := Lib.hid (HS.out.keep0 hq)
                clear hq hcm
                go_wp2_with fail
                go_roundg (gk - 1)
                case measure => have := HK.out; have := HLT.out; omega
                case rel => exact ⟨k + 1, _, by have := HK.out; have := HLT.out; omega, by go_num, rfl, by rw [HST.out, HNK.out], by omega, by omega, HS6.out⟩
            · have hk1 : ¬ (k : Int) < (ds.length : Int) := by omega
              have hke : k = R.length := by have := HK.out; have := HLEN.out; omega
              have hn := HNK.out
              rw [hke, roomK_all R at_ HHA.out] at hn
              have HNX := Lib.hid hn
              have hn2 : n ≤ 256 := by have := HK.out; omega
              clear hlt HK HNK hn hke
              rcases HPL.out with ⟨e1, e2, e3⟩ | ⟨P, l, R1, e1, e2, e3, e4, e5, e6, e7⟩
              · rw [HSe.out, HA.out, ← HNX.out] at e3
                rw [e1]
                clear HNX HPL e1 e2
                go_wp2_with fail
                go_ret
                exact ⟨rfl, HS.out.rack.fr⟩
              · rw [HSe.out, HA.out, ← HNX.out] at e4
                rw [HSe.out, HA.out] at e3
                rw [e1]
                have hll : (planL R x).length = A + 1 := by rw [e2]; simp [e3]
                have hO := out_of HHA.out e6
                rw [← e2] at e7
                generalize outT R1 at_ P = Rf at *
                have HRUN := Lib.hid e7
                have HO := Lib.hid hO
                generalize planL R x = L at *
                have h4 : ¬ (n < (A : Int)) := by omega
                have hlb : ((L.length : Int) != (A : Int) + 1) = false := by simp [hll]
                have hL9 : L.length ≤ 9 := by omega
                have HLL := Lib.hid hll
                clear HPL e1 e2 e3 e4 e5 e6 e7 hO HNX hn0 hn1 hll
                go_wp2_with fail
                refine (roomG_any p gs R _ HS.out.rack.rack).mono ?_
                rintro e w6 ⟨rfl, hf6⟩
                have HS6 := Lib.hid (HS.out.keep0 hf6)
                clear hf6 HS
                have hrb : 0 ≤ roomR R ∧ roomR R ≤ 256 := by
                  have h1 := roomR_nonneg HWF.out.good
                  have h2 := roomR_bd HS6.out.rack.rack
                  have := HLEN.out
                  omega
                go_wp2_with fail
                have HP0 : Hid (PaS w (w6.alloc (.cells #[.int .i64 0, .int .i64 0, .int .i64 0, .int .i64 0, .int .i64 0, .int .i64 0, .int .i64 0, .int .i64 0, .int .i64 0, .int .i64 0, .int .i64 0, .int .i64 0, .int .i64 0, .int .i64 0, .int .i64 0, .int .i64 0, .int .i64 0, .int .i64 0, .int .i64 0, .int .i64 0, .int .i64 0, .int .i64 0, .int .i64 0, .int .i64 0, .int .i64 0, .int .i64 0, .int .i64 0, .int .i64 0, .int .i64 0, .int .i64 0, .int .i64 0] 89)) p w6.heap.size gs R (.slice a4 L.length c4) L (List.replicate 31 0)) := Lib.hid
                  ⟨HS6.out.keep0 (Fr.alloc _ _ _), blk_new w6 _, HS6.out.rack.fr.size, rfl⟩
                obtain ⟨bi, hbi⟩ : ∃ bi, w6.heap.size = bi := ⟨_, rfl⟩
                rw [hbi] at HP0 ⊢
                generalize w6.alloc (.cells #[.int .i64 0, .int .i64 0, .int .i64 0, .int .i64 0, .int .i64 0, .int .i64 0, .int .i64 0, .int .i64 0, .int .i64 0, .int .i64 0, .int .i64 0, .int .i64 0, .int .i64 0, .int .i64 0, .int .i64 0, .int .i64 0, .int .i64 0, .int .i64 0, .int .i64 0, .int .i64 0, .int .i64 0, .int .i64 0, .int .i64 0, .int .i64 0, .int .i64 0, .int .i64 0, .int .i64 0, .int .i64 0, .int .i64 0, .int .i64 0, .int .i64 0] 89) = w7 at *
                clear hbi HS6
                go_loopg [20] 30 (fun g v20 wr => ∃ (k : Nat) (xs : List Int), k + g = 30 ∧ v20 = .int .i64 ((k : Int) + 1) ∧ (∀ j : Nat, 1 ≤ j → j ≤ k → xs.getD j 0 = (cnt (j : Int) R : Int)) ∧ PaS w wr p bi gs R (.slice a4 L.length c4) L xs)
                case atStart => exact ⟨0, _, by omega, rfl, fun j h1 h2 => by omega, HP0.out⟩
                case round =>
                  clear hk1
                  obtain ⟨k, xs, hk, rfl, hxs, hP⟩ := hrel
                  have HK := Lib.hid hk
                  have HXS := Lib.hid hxs
                  have HP := Lib.hid hP
                  clear hk hxs hP HP0
                  by_cases hlt : k < 30
                  · have hk1 : (k : Int) + 1 ≤ 30 := by omega
                    have hk2 : (k : Int) + 1 < 31 := by omega
                    have hk3 : (0 : Int) ≤ (k : Int) + 1 := by omega
                    have HLT := Lib.hid hlt
                    have hmin := where_min HWF.out ((k : Int) + 1)
                    have hnd := HWF.out.nd ((k : Int) + 1)
                    have hge := whereR_ge ((k : Int) + 1) R
                    have hlw := whereR_lt ((k : Int) + 1) R
                    go_wp2_with fail
                    refine (where_any p gs R ((k : Int) + 1) _ HP.out.st.rack.rack).mono ?_
                    rintro e w8 ⟨rfl, hf8⟩
                    have HP8 := Lib.hid (HP.out.keep0 hf8)
                    clear hf8
                    generalize whereR ((k : Int) + 1) R = W at *
                    have hW : W ≤ 32 := by have := HLEN.out; omega
                    obtain ⟨C, hC⟩ : ∃ C, cnt ((k : Int) + 1) R = C := ⟨_, rfl⟩
                    rw [hC] at hmin hnd
                    have HC := Lib.hid hC
                    have hfz : w8.frozen? ⟨bi, k + 1, none⟩ = false := blk_frozen HP8.out.arr _
                    have hcl := HP8.out.cell (k + 1) (by omega)
                    clear hlt hC
                    have HIN := Lib.hid (fun (z : Int) (hz : z = (C : Int)) => in_step HP8.out.len HLT.out HXS.out (z := z) (by rw [HC.out]; exact hz))
                    have hcase : (W = -1 ∧ C = 0) ∨ (W = 0 ∧ C = 1) ∨ (1 ≤ W ∧ C = 1) := by omega
                    clear hmin hnd
                    rcases hcase with ⟨rfl, rfl⟩ | ⟨rfl, rfl⟩ | ⟨hW0, rfl⟩
                    · go_wp2_with fail
                      go_roundg (gk - 1)
                      case measure => have := HK.out; have := HLT.out; omega
                      case rel => exact ⟨k + 1, _, by have := HK.out; have := HLT.out; omega, by go_num, HIN.out 0 rfl, HP8.out.set (k + 1) 0⟩
                    · go_wp2_with fail
                      go_roundg (gk - 1)
                      case measure => have := HK.out; have := HLT.out; omega
                      case rel => exact ⟨k + 1, _, by have := HK.out; have := HLT.out; omega, by go_num, HIN.out 1 rfl, HP8.out.set (k + 1) 1⟩
                    · have hw1 : ¬ (W + 1 ≤ 1) := by omega
                      go_wp2_with fail
                      go_roundg (gk - 1)
                      case measure => have := HK.out; have := HLT.out; omega
                      case rel => exact ⟨k + 1, _, by have := HK.out; have := HLT.out; omega, by go_num, HIN.out 1 rfl, HP8.out.set (k + 1) 1⟩
                  · obtain rfl : k = 30 := by have := HK.out; omega
                    clear hlt HK
                    go_wp2_with fail
                    go_loopg [131] L.length (fun g v131 wr => ∃ (k : Nat) (Rk : List Lan), k + g = L.length ∧ v131 = .int .i64 k ∧ runL Rk (L.drop k) = some Rf ∧ PaS w wr p bi gs Rk (.slice a4 L.length c4) L xs)
                    case atStart => exact ⟨0, R, by omega, rfl, HRUN.out, HP.out⟩
                    case round =>
                      obtain ⟨k, Rk, hk, rfl, hrun, hP⟩ := hrel
                      have HK := Lib.hid hk
                      have HRUN := Lib.hid hrun
                      have HP := Lib.hid hP
                      clear hk hrun hP
                      by_cases hlt : k < L.length
                      · have hk1 : (k : Int) < (L.length : Int) := by omega
                        have HLT := Lib.hid hlt
                        obtain ⟨b4, o4, ha4, m1, m2, m3⟩ := HP.out.st.mv.1.at_ k hlt
                        have hdr : L.drop k = L.getD k (0, 0, 0) :: L.drop (k + 1) := by
                          rw [List.drop_eq_getElem_cons hlt]
                          congr 1
                          simp [List.getD, List.getElem?_eq_getElem hlt]
                        have hh := HRUN.out
                        rw [hdr] at hh
                        obtain ⟨d1, d2⟩ := runL_head hh
                        subst ha4
                        generalize L.getD k (0, 0, 0) = mm at *
                        obtain ⟨q1, q2, q3⟩ := mm
                        simp only at m1 m2 m3 d1 d2
                        have HD1 := Lib.hid d1
                        have HD2 := Lib.hid d2
                        clear hlt hdr hh d1 d2
                        go_wp2_with fail
                        refine (do_any p gs Rk q1 q2 q3 _ (HP.out.keep0 (Fr.alloc _ _ _)).st.rack.rack).mono ?_
                        rw [HD1.out]
                        rintro e w8 ⟨rfl, hr8, hf8⟩
                        have HP8 := Lib.hid ((HP.out.keep0 (Fr.alloc wr (.cells #[.int .i64 q1, .int .i64 q2, .int .i64 q3] 62) No)).do_ hr8 hf8)
                        clear hr8 hf8 m1 m2 m3
                        go_wp2_with fail
                        go_roundg (gk - 1)
                        case measure => have := HK.out; have := HLT.out; omega
                        case rel => exact ⟨k + 1, _, by have := HK.out; have := HLT.out; omega, by go_num, HD2.out, HP8.out⟩
                      · have hk1 : ¬ (k : Int) < (L.length : Int) := by omega
                        have hRf := HRUN.out
                        rw [List.drop_eq_nil_of_le (by omega), runL_nil] at hRf
                        obtain rfl : Rk = Rf := Option.some.inj hRf
                        obtain ⟨xn, rfl⟩ : ∃ n : Nat, x = n := ⟨x.toNat, by omega⟩
                        have hx31 : (xn : Int) < 31 := by omega
                        have hx0 : (0 : Int) ≤ (xn : Int) := by omega
                        have HX2 := Lib.hid (in_out HWF.out HP.out.len HXS.out HO.out (by omega))
                        have hfz : wr.frozen? ⟨bi, xn, none⟩ = false := blk_frozen HP.out.arr _
                        have hcl := HP.out.cell xn (by omega)
                        have HP9 := Lib.hid (HP.out.set xn 0)
                        clear hRf hlt HK HRUN HXS
                        go_upto_region 43 with (fail)
                        generalize wr.setCell ⟨bi, xn, none⟩ (.int .i64 0) = w9 at *
                        generalize xs.set xn 0 = ys at *
                        clear hfz hcl HP
                        go_wp2_with fail
                        go_loopg [23] 30 (fun g v23 wr => ∃ (k : Nat), k + g = 30 ∧ v23 = .int .i64 ((k : Int) + 1) ∧ PaS w wr p bi gs Rk (.slice a4 L.length c4) L ys)
                        case atStart => exact ⟨0, by omega, rfl, HP9.out⟩
                        case round =>
                          obtain ⟨g5, hg5⟩ : ∃ q : Nat, q = gk := ⟨_, rfl⟩
                          subst hg5
                          clear hk1
                          obtain ⟨k, hk, rfl, hP⟩ := hrel
                          have HK := Lib.hid hk
                          have HP := Lib.hid hP
                          clear hk hP HP9
                          by_cases hlt : k < 30
                          · have hk1 : (k : Int) + 1 ≤ 30 := by omega
                            have hk2 : (k : Int) + 1 < 31 := by omega
                            have hk3 : (0 : Int) ≤ (k : Int) + 1 := by omega
                            have hnd := HO.out.wf.nd ((k : Int) + 1)
                            have HLT := Lib.hid hlt
                            clear hlt
                            go_wp2_with fail
                            go_loopg [24, 148] ds.length (fun g v24 v148 wr => ∃ (i n : Nat), i + g = ds.length ∧ v148 = .int .i64 i ∧ v24 = .int .i64 n ∧ n = cnt ((k : Int) + 1) (Rk.take i) ∧ PaS w wr p bi gs Rk (.slice a4 L.length c4) L ys)
                            case atStart => exact ⟨0, 0, by omega, rfl, rfl, by simp [cnt, allT], HP.out⟩
                            case round =>
                              obtain ⟨g6, hg6⟩ : ∃ q : Nat, q = gk := ⟨_, rfl⟩
                              subst hg6
                              obtain ⟨i, n, hi, rfl, rfl, hn, hP⟩ := hrel
                              have HI := Lib.hid hi
                              have HNN := Lib.hid hn
                              have HP := Lib.hid hP
                              clear hi hn hP
                              by_cases hli : i < ds.length
                              · have hi1 : (i : Int) < (ds.length : Int) := by omega
                                have hiR : i < Rk.length := by rw [HO.out.len, HLEN.out]; exact hli
                                have HLI := Lib.hid hli
                                have hLTi := Lib.hid (lanT_at Rk i hiR)
                                have hct := Lib.hid (cnt_take ((k : Int) + 1) Rk i hiR)
                                have hle := cnt_take_le ((k : Int) + 1) Rk i
                                rw [← HNN.out] at hct hle
                                have hl8 : (lan Rk i).2.length ≤ 8 := by
                                  have h1 := (HP.out.st.rack.rack.lane i hiR)
                                  obtain ⟨q1, q2, q3, _⟩ := h1
                                  unfold lan; omega
                                have hcl := cnt_lane ((k : Int) + 1) Rk i hiR
                                clear hli
                                go_wp2_with fail
                                refine (laneG_any p gs Rk i _ HP.out.st.rack.rack).mono ?_
                                rw [hLTi.out]
                                obtain ⟨T, hT⟩ : ∃ T, (lan Rk i).2 = T := ⟨_, rfl⟩
                                rw [hT] at hct hl8 hcl ⊢
                                rintro e w10 ⟨v10, rfl, hN10⟩
                                obtain ⟨a10, c10, rfl⟩ := slv_form hN10.1
                                have HP10 := Lib.hid (HP.out.keep0 hN10.2.1)
                                have HN10 := Lib.hid hN10
                                clear hN10 hT
                                go_wp2_with fail
                                go_loopg [24, 155] T.length (fun g v24 v155 wr => ∃ (j m : Nat), j + g = T.length ∧ v155 = .int .i64 j ∧ v24 = .int .i64 m ∧ m = n + (T.take j).count ((k : Int) + 1) ∧ wr = w10)
                                case atStart => exact ⟨0, n, by omega, rfl, rfl, by simp, rfl⟩
                                case round =>
                                  obtain ⟨j, m, hj, rfl, rfl, hm, rfl⟩ := hrel
                                  have HJ := Lib.hid hj
                                  have HM := Lib.hid hm
                                  have hml := count_take_le ((k : Int) + 1) T j
                                  have hm3 : m ≤ 3 := by omega
                                  clear hj hm hml
                                  by_cases hlj : j < T.length
                                  · have hj1 : (j : Int) < (T.length : Int) := by omega
                                    obtain ⟨b10, o10, ha10, hcm⟩ := (SlI.rd HN10.out.1 (by omega)).get j hlj
                                    subst ha10
                                    have htk := Lib.hid (count_take ((k : Int) + 1) T j hlj)
                                    have HLJ := Lib.hid hlj
                                    generalize T.getD j 0 = s at *
                                    clear hlj
                                    by_cases hs : s = (k : Int) + 1
                                    · subst hs
                                      rw [if_pos rfl] at htk
                                      have hss : ((k : Int) + 1 == (k : Int) + 1) = true := beq_self_eq_true _
                                      go_wp2_with fail
                                      go_roundg (gk - 1)
                                      case measure => have := HJ.out; have := HLJ.out; omega
                                      case rel => exact ⟨j + 1, m + 1, by have := HJ.out; have := HLJ.out; omega, by go_num, by go_num, by rw [htk.out, HM.out]; omega, rfl⟩
                                    · have hss : (s == (k : Int) + 1) = false := by simpa using hs
                                      rw [if_neg hs] at htk
                                      clear hs
                                      go_wp2_with fail
                                      go_roundg (gk - 1)
                                      case measure => have := HJ.out; have := HLJ.out; omega
                                      case rel => exact ⟨j + 1, m, by have := HJ.out; have := HLJ.out; omega, by go_num, rfl, by rw [htk.out, HM.out]; omega, rfl⟩
                                  · have hj1 : ¬ (j : Int) < (T.length : Int) := by omega
                                    have hm2 := HM.out
                                    rw [List.take_of_length_le (by omega), ← hct.out] at hm2
                                    have HM2 := Lib.hid hm2
                                    clear hlj hm2 HM
                                    go_wp2_with fail
                                    go_roundg (g6 - 1)
                                    case measure => have := HI.out; have := HLI.out; omega
                                    case rel => exact ⟨i + 1, m, by have := HI.out; have := HLI.out; omega, by go_num, rfl, HM2.out, HP10.out⟩
                              · have hi1 : ¬ (i : Int) < (ds.length : Int) := by omega
                                have hn2 := HNN.out
                                rw [List.take_of_length_le (by rw [HO.out.len, HLEN.out]; omega)] at hn2
                                have hcl := HP.out.cell (k + 1) (by have := HLT.out; omega)
                                have hin := HX2.out (k + 1) (by omega) (by have := HLT.out; omega)
                                rw [hin, show (((k + 1 : Nat) : Int)) = (k : Int) + 1 by omega, ← hn2] at hcl
                                have hnn : ((n : Int) != (n : Int)) = false := bne_self_eq_false _
                                clear hn2 HNN hin hli
                                go_wp2_with fail
                                go_roundg (g5 - 1)
                                case measure => have := HK.out; have := HLT.out; omega
                                case rel => exact ⟨k + 1, by have := HK.out; have := HLT.out; omega, by go_num, HP.out⟩
                          · have hk1 : ¬ (k : Int) + 1 ≤ 30 := by omega
                            have hk31 : (k : Int) ≤ 30 := by have := HK.out; omega
                            have hroom := Lib.hid HO.out.room
                            clear hlt
                            go_wp2_with fail
                            refine (roomG_any p gs Rk _ HP.out.st.rack.rack).mono ?_
                            rw [hroom.out]
                            rintro e w12 ⟨rfl, hf12⟩
                            have HF12 := Lib.hid (HP.out.st.rack.fr.nn hf12)
                            have hrr : (roomR R + 1 == roomR R + 1) = true := beq_self_eq_true _
                            clear hf12
                            go_wp2_with fail
                            go_ret
                            exact ⟨rfl, HF12.out⟩
  · have HF2 := Lib.hid (HF.out.nn hf)
    clear hf
    go_wp2_with fail
    go_ret
    exact ⟨rfl, HF2.out⟩

theorem gridPlans_row (w : World) (v : Value) (ds : List Int) (hv : RdI w v ds) (u : Value) (zs : List Int) (hu : RdI w u zs) (y : Int) (_ : (Lit.int .i64 y).wf = true) :
    Calls Try.prog 13 #[v, u, .int .i64 y] w fun e w' => e = .returned (.bool true) ∧ Fr w w' No := gridPlans_walk w v u ds zs y hv hu
end Go.Proofs.Ytegoilhkooneaaa
