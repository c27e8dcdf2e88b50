/-
  Package grid: Do, out of the rack and to another lane.
-/
import Derived.Test.YtegoilhkooneaaaGr6
namespace Go.Proofs.Ytegoilhkooneaaa
open Go.RowKit Go.Sort
set_option linter.unusedVariables false
set_option linter.unusedSimpArgs false

/-- What Do answers, the range met and the tote at the mouth: what Push says where it goes to a lane; else what Take says. -/
def doE (R : List Lan) (t f o : Int) : Int :=
  if badM R.length f o then 1
  else if (lan R f.toNat).2.getLast? ≠ some t then 160
  else if 0 ≤ o ∧ pushE (lan R o.toNat).1 (lan R o.toNat).2 t ≠ 0 then pushE (lan R o.toNat).1 (lan R o.toNat).2 t
  else takeE (lan R f.toNat).2 t
def doP (R : List Lan) (t o : Int) : List Lan := if 0 ≤ o then R.set o.toNat ((lan R o.toNat).1, pushT (lan R o.toNat).1 (lan R o.toNat).2 t) else R
def doR (R : List Lan) (t f o : Int) : List Lan :=
  if badM R.length f o then R
  else if (lan R f.toNat).2.getLast? ≠ some t then R
  else if 0 ≤ o ∧ pushE (lan R o.toNat).1 (lan R o.toNat).2 t ≠ 0 then R
  else (doP R t o).set f.toNat ((lan R f.toNat).1, takeT (lan R f.toNat).2 t)

theorem lan_set_self (R : List Lan) (i : Nat) (hi : i < R.length) : R.set i ((lan R i).1, (lan R i).2) = R := by
  unfold lan
  simp only [List.getD, List.getElem?_eq_getElem hi, Option.getD_some]
  exact List.set_getElem_self hi

/-- Do behind its two tests. -/
def DoPost (p : Nat) (gs : List Nat) (w : World) (E : Int) (R' : List Lan) (e : Ending) (w' : World) : Prop := e = .returned (.int .i64 E) ∧ RackAt w' p gs R' ∧ Fr w w' (In gs)

/-- The state behind the test of the tote: the move's box in bo. -/
structure DoAt (w w1 : World) (p bo : Nat) (gs : List Nat) (R : List Lan) (t f o : Int) : Prop where
  rack : RackAt w1 p gs R
  box : w1.heap[bo]? = some (.cells #[.int .i64 t, .int .i64 f, .int .i64 o] 62 (0, 0))
  fr : Fr w w1 (In gs)
theorem DoAt.drewN {w w1 : World} {p bo : Nat} {gs : List Nat} {R : List Lan} {t f o : Int} (h : DoAt w w1 p bo gs R t f o) (n : Nat) : DoAt w (w1.drewN n) p bo gs R t f o :=
  ⟨h.rack.keep0 (Fr.drewN _ _ _), (Fr.drewN w1 n No).blk h.box id, h.fr.to_drewN n⟩
theorem DoAt.upd {w w1 w2 : World} {p bo : Nat} {gs : List Nat} {R : List Lan} {t f o : Int} (h : DoAt w w1 p bo gs R t f o) (i : Nat) (hi : i < R.length) {T : List Int} (hL : LaneAt w2 (gs.getD i 0) T (lan R i).1) (hf : Fr w1 w2 (One (gs.getD i 0))) :
    DoAt w w2 p bo gs (R.set i ((lan R i).1, T)) t f o := by
  have hin := getD_in gs i (by rw [h.rack.len]; exact hi)
  have hL0 := h.rack.lane i hi
  obtain ⟨_, _, _, r, _, hb⟩ := hL0
  exact ⟨h.rack.upd i hi hL hf, hf.blk h.box (fun e => blk_ne h.box hb (by decide) e), h.fr.rr (hf.mono (fun k _ e => by rw [show k = gs.getD i 0 from e]; exact hin))⟩

set_option maxRecDepth 100000 in
set_option maxHeartbeats 4000000 in
theorem do_good (p : Nat) (gs : List Nat) (R : List Lan) (t o : Int) (f : Nat) (w : World) (hR : RackAt w p gs R) (hb : ¬ badM R.length f o) (ht : (lan R f).2.getLast? = some t) :
    Calls Try.prog 33 #[.pointer (some ⟨p, 0, none⟩), .agg #[.int .i64 t, .int .i64 f, .int .i64 o]] w fun e w' => DoPost p gs w (doE R t f o) (doR R t f o) e w' := by
  obtain ⟨a, c, h1, h2⟩ := hR.open_
  have c1 : ¬ (f : Int) < 0 := by omega
  have c2 : ¬ (R.length : Int) ≤ (f : Int) := by unfold badM at hb; omega
  have c3 : ¬ o < -1 := by unfold badM at hb; omega
  have c4 : ¬ (R.length : Int) ≤ o := by unfold badM at hb; omega
  have c5 : ((f : Int) == o) = false := by unfold badM at hb; simp only [beq_eq_false_iff_ne]; omega
  have hf : f < R.length := by omega
  have h1' := (Fr.alloc w (.cells #[.int .i64 t, .int .i64 f, .int .i64 o] 62) No).cell h1 id
  have h8 : (lan R f).2.length ≤ 8 := by have h := hR.lane f hf; obtain ⟨q1, q2, q3, _⟩ := h; unfold lan; omega
  have hE : doE R t f o = if 0 ≤ o ∧ pushE (lan R o.toNat).1 (lan R o.toNat).2 t ≠ 0 then pushE (lan R o.toNat).1 (lan R o.toNat).2 t else takeE (lan R f).2 t := by
    unfold doE; rw [if_neg hb, Int.toNat_natCast, if_neg (by rw [ht]; simp)]
  have hRR : doR R t f o = if 0 ≤ o ∧ pushE (lan R o.toNat).1 (lan R o.toNat).2 t ≠ 0 then R else (doP R t o).set f ((lan R f).1, takeT (lan R f).2 t) := by
    unfold doR; rw [if_neg hb, Int.toNat_natCast, if_neg (by rw [ht]; simp)]
  obtain ⟨E, hEE⟩ : ∃ E, doE R t f o = E := ⟨_, rfl⟩
  obtain ⟨R', hRR'⟩ : ∃ R', doR R t f o = R' := ⟨_, rfl⟩
  rw [hEE] at hE
  rw [hRR'] at hRR
  rw [hEE, hRR']
  have HE := Lib.hid hE
  have HRR := Lib.hid hRR
  have HR := Lib.hid hR
  have HF := Lib.hid hf
  have HT := Lib.hid ht
  clear hb h2 hR hf ht hE hRR hEE hRR'
  obtain ⟨T, hT⟩ : ∃ T, (lan R f).2 = T ++ [t] := by
    rcases List.eq_nil_or_concat (lan R f).2 with h | ⟨T, x, h⟩
    · have := HT.out; rw [h] at this; cases this
    · have := HT.out
      rw [h] at this
      simp at this
      exact ⟨T, by rw [h, this]; simp⟩
  have hlen : (lan R f).2.length = T.length + 1 := by rw [hT]; simp
  go_enter Try.func33, Try.ntmps33
  go_wp2_with fail
  refine (laneG_in p gs R f _ (HR.out.keep0 (Fr.alloc _ _ _)) HF.out).mono ?_
  rintro e w1 ⟨v, rfl, hN⟩
  obtain ⟨a6, c6, hv⟩ := slv_form hN.1
  subst hv
  have hbox : w1.heap[w.heap.size]? = some (.cells #[.int .i64 t, .int .i64 f, .int .i64 o] 62 (0, 0)) := hN.2.1.blk (blk_new w (.cells #[.int .i64 t, .int .i64 f, .int .i64 o] 62)) id
  have k0 : w1.cell? ⟨w.heap.size, 0, none⟩ = some (.int .i64 t) := blk_cell hbox 0
  have k1 : w1.cell? ⟨w.heap.size, 1, none⟩ = some (.int .i64 f) := blk_cell hbox 1
  have k2 : w1.cell? ⟨w.heap.size, 2, none⟩ = some (.int .i64 o) := blk_cell hbox 2
  have hfr := (Fr.alloc w (.cells #[.int .i64 t, .int .i64 f, .int .i64 o] 62) No).nn hN.2.1
  have HA := Lib.hid (DoAt.mk (f := f) (HR.out.keep0 hfr) hbox (hfr.no (In gs)))
  obtain ⟨b6, o6, hb6, kc⟩ := (SlI.rd hN.1 (by omega)).get (T.length) (by omega)
  subst hb6
  have e1 : (lan R f).2.getD T.length 0 = t := by rw [hT]; simp [List.getD]
  rw [e1] at kc
  rw [hlen] at h8 ⊢
  clear hN hfr h1 h1' hbox
  have hxt' : (t != t) = false := bne_self_eq_false t
  have hw : IntKind.i64.wrap ((T.length : Int) + 1 - 1) = (T.length : Int) := by rw [IntWalk.i64_in _ (by omega)]; omega
  have q0 : ((T.length : Int) + 1 == 0) = false := beq_eq_false_iff_ne.2 (by omega)
  have q1 : (0 : Int) ≤ (T.length : Int) := by omega
  have q2 : (T.length : Int) < (T.length : Int) + 1 := by omega
  have q3 : T.length < T.length + 1 := by omega
  clear hlen e1
  go_wp2_with fail
  go_quiet (fail)
  have HA2 := Lib.hid (HA.out.drewN nq)
  clear kc k0 k1 k2 HA hw q0 q1 q2 q3 hxt' h8 hT
  generalize w1.drewN nq = w2 at *
  generalize hbo : w.heap.size = bo at *
  have k0 : w2.cell? ⟨bo, 0, none⟩ = some (.int .i64 t) := blk_cell HA2.out.box 0
  have k1 : w2.cell? ⟨bo, 1, none⟩ = some (.int .i64 f) := blk_cell HA2.out.box 1
  have k2 : w2.cell? ⟨bo, 2, none⟩ = some (.int .i64 o) := blk_cell HA2.out.box 2
  by_cases ho : 0 ≤ o
  · obtain ⟨oo, rfl⟩ : ∃ n : Nat, o = n := ⟨o.toNat, by omega⟩
    have hoR : oo < R.length := by omega
    have hof : oo ≠ f := by simp at c5; omega
    obtain ⟨a2, d2, h1, h2⟩ := HA2.out.rack.open_
    obtain ⟨b, off, rfl, h3⟩ := h2.get oo (by rw [HA2.out.rack.len]; exact hoR)
    have hq1 : (oo : Int) < (R.length : Int) := by omega
    clear h2
    obtain ⟨PE, hPE⟩ : ∃ PE, pushE (lan R oo).1 (lan R oo).2 t = PE := ⟨_, rfl⟩
    have HPE := Lib.hid hPE
    go_upto_region 8 with (fail)
    go_cut [7] (fun v7 wc => v7 = .int .i64 PE ∧ DoAt w wc p bo gs (R.set oo ((lan R oo).1, pushT (lan R oo).1 (lan R oo).2 t)) t f oo)
    case first =>
      go_still_tail 10, (by kernel_rfl)
      change wpList _ _ _ _ _ w2.drew
      have HA2d := Lib.hid (HA2.out.drewN 1)
      have hd1 : w2.drewN 1 = w2.drew := rfl
      rw [hd1] at HA2d
      clear hd1
      generalize w2.drew = w3 at *
      go_wp2_with fail
      refine (push_any _ (lan R oo).2 (lan R oo).1 t _ (HA2d.out.rack.lane oo hoR)).mono ?_
      rintro e w' ⟨rfl, hL, hf2⟩
      have HA2e := Lib.hid (HA2d.out.upd oo hoR hL hf2)
      clear hL hf2
      go_wp2_with fail
      go_meet
      case rel => exact ⟨rfl, HA2e.out⟩
    case rest =>
      obtain ⟨rfl, hA3⟩ := hcut
      have HA3 := Lib.hid hA3
      clear hA3 h1 h3 k0 k1 k2 hPE
      by_cases hz : PE = 0
      · subst hz
        have hlf : lan (R.set oo ((lan R oo).1, pushT (lan R oo).1 (lan R oo).2 t)) f = lan R f := by rw [lan_set _ _ _ _ hoR, if_neg hof]
        have HLF := Lib.hid hlf
        have HFS : Hid (f < (R.set oo ((lan R oo).1, pushT (lan R oo).1 (lan R oo).2 t)).length) := Lib.hid (by rw [List.length_set]; exact HF.out)
        have hle : (R.set oo ((lan R oo).1, pushT (lan R oo).1 (lan R oo).2 t)).length = R.length := List.length_set
        obtain ⟨a2, d2, h1, h2⟩ := HA3.out.rack.open_
        obtain ⟨b, off, rfl, h3⟩ := h2.get f (by rw [HA3.out.rack.len]; exact HFS.out)
        rw [hle] at h1
        have k0 : wc.cell? ⟨bo, 0, none⟩ = some (.int .i64 t) := blk_cell HA3.out.box 0
        have k1 : wc.cell? ⟨bo, 1, none⟩ = some (.int .i64 f) := blk_cell HA3.out.box 1
        have hq2 : (f : Int) < (R.length : Int) := by omega
        clear hlf hle h2
        go_upto_region 11 with (fail)
        go_still_tail 10, (by kernel_rfl)
        change wpList _ _ _ _ _ wc.drew
        have HA4 := Lib.hid (HA3.out.drewN 1)
        have hd1 : wc.drewN 1 = wc.drew := rfl
        rw [hd1] at HA4
        clear hd1 HA3
        generalize wc.drew = w3 at *
        have hLf := HA4.out.rack.lane f HFS.out
        rw [show (R.set oo ((lan R oo).1, pushT (lan R oo).1 (lan R oo).2 t)).getD f (1, []) = lan R f from HLF.out] at hLf
        have HLf := Lib.hid hLf
        clear hLf
        go_wp2_with fail
        refine (take_any _ (lan R f).2 (lan R f).1 t _ HLf.out).mono ?_
        rintro e w' ⟨rfl, hL, hf2⟩
        have hU := HA4.out.upd f HFS.out (by rw [HLF.out]; exact hL) hf2
        rw [HLF.out] at hU
        have HU := Lib.hid hU
        clear hU hL hf2
        go_wp2_with fail
        go_ret
        refine ⟨?_, ?_, HU.out.fr⟩
        · rw [HE.out, if_neg (fun h => h.2 (by rw [Int.toNat_natCast]; exact HPE.out))]; rfl
        · rw [HRR.out, if_neg (fun h => h.2 (by rw [Int.toNat_natCast]; exact HPE.out))]
          unfold doP
          rw [if_pos ho, Int.toNat_natCast]
          exact HU.out.rack
      · have hz' : (PE != 0) = true := by simpa using hz
        have hpt : pushT (lan R oo).1 (lan R oo).2 t = (lan R oo).2 := by unfold pushT; rw [if_neg (by rw [HPE.out]; exact hz)]
        rw [hpt, lan_set_self R oo hoR] at HA3
        clear hpt
        go_wp2_with fail
        go_ret
        refine ⟨?_, ?_, HA3.out.fr⟩
        · rw [HE.out, if_pos ⟨ho, by rw [Int.toNat_natCast, HPE.out]; exact hz⟩, Int.toNat_natCast, HPE.out]; rfl
        · rw [HRR.out, if_pos ⟨ho, by rw [Int.toNat_natCast, HPE.out]; exact hz⟩]
          exact HA3.out.rack
  · obtain ⟨a2, d2, h1, h2⟩ := HA2.out.rack.open_
    obtain ⟨b, off, rfl, h3⟩ := h2.get f (by rw [HA2.out.rack.len]; exact HF.out)
    have hq2 : (f : Int) < (R.length : Int) := by omega
    clear h2
    go_upto_region 11 with (fail)
    go_still_tail 10, (by kernel_rfl)
    change wpList _ _ _ _ _ w2.drew
    have HA4 := Lib.hid (HA2.out.drewN 1)
    have hd1 : w2.drewN 1 = w2.drew := rfl
    rw [hd1] at HA4
    clear hd1 HA2
    generalize w2.drew = w3 at *
    go_wp2_with fail
    refine (take_any _ (lan R f).2 (lan R f).1 t _ (HA4.out.rack.lane f HF.out)).mono ?_
    rintro e w' ⟨rfl, hL, hf2⟩
    have HU := Lib.hid (HA4.out.upd f HF.out hL hf2)
    clear hL hf2
    go_wp2_with fail
    go_ret
    refine ⟨?_, ?_, HU.out.fr⟩
    · rw [HE.out, if_neg (fun h => by have := h.1; omega)]; rfl
    · rw [HRR.out, if_neg (fun h => by have := h.1; omega)]
      unfold doP
      rw [if_neg (by omega)]
      exact HU.out.rack

theorem do_any (p : Nat) (gs : List Nat) (R : List Lan) (t f o : Int) (w : World) (hR : RackAt w p gs R) :
    Calls Try.prog 33 #[.pointer (some ⟨p, 0, none⟩), .agg #[.int .i64 t, .int .i64 f, .int .i64 o]] w fun e w' => DoPost p gs w (doE R t f o) (doR R t f o) e w' := by
  by_cases hb : badM R.length f o
  · have e1 : doE R t f o = 1 := by unfold doE; rw [if_pos hb]
    have e2 : doR R t f o = R := by unfold doR; rw [if_pos hb]
    rw [e1, e2]
    exact (do_bad p gs R t f o w hR hb).mono (by rintro e w' ⟨rfl, hf⟩; exact ⟨rfl, hR.keep0 hf, hf.no _⟩)
  · obtain ⟨n, rfl⟩ : ∃ n : Nat, f = n := ⟨f.toNat, by unfold badM at hb; omega⟩
    by_cases ht : (lan R n).2.getLast? = some t
    · exact do_good p gs R t o n w hR hb ht
    · have e1 : doE R t n o = 160 := by unfold doE; rw [if_neg hb, Int.toNat_natCast, if_pos ht]
      have e2 : doR R t n o = R := by unfold doR; rw [if_neg hb, Int.toNat_natCast, if_pos ht]
      rw [e1, e2]
      exact (do_tote p gs R t o n w hR hb ht).mono (by rintro e w' ⟨rfl, hf⟩; exact ⟨rfl, hR.keep0 hf, hf.no _⟩)
end Go.Proofs.Ytegoilhkooneaaa
