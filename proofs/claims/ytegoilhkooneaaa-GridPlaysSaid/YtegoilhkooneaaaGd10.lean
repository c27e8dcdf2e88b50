/-
  All that is told, beside the document's.
-/
import Derived.Test.YtegoilhkooneaaaGd9
namespace Go.Proofs.Ytegoilhkooneaaa
open Go.RowKit Go.Sort
set_option linter.unusedVariables false
set_option linter.unusedSimpArgs false

theorem lanT_out (R : List Lan) (i : Int) (h : ¬ (0 ≤ i ∧ i < R.length)) : lanT R i = [] := by unfold lanT; rw [if_neg h]

/-- The rack, the document's, and the box of the latter. -/
structure TeS (w : World) (p b0 : Nat) (gs : List Nat) (R : List Lan) (v : Value) : Prop where
  rack : RackAt w p gs R
  doc : DocAt w v R
  box : w.heap[b0]? = some (.cells #[v] 74 (0, 0))
theorem TeS.keep0 {w w' : World} {p b0 : Nat} {gs : List Nat} {R : List Lan} {v : Value} (h : TeS w p b0 gs R v) (hf : Fr w w' No) : TeS w' p b0 gs R v := ⟨h.rack.keep0 hf, h.doc.keep0 hf, hf.blk h.box id⟩

set_option maxRecDepth 100000 in
set_option maxHeartbeats 4000000 in
theorem tells_any (w : World) (p : Nat) (gs : List Nat) (R : List Lan) (v : Value) (hR : RackAt w p gs R) (hD : DocAt w v R) :
    Calls Try.prog 42 #[.pointer (some ⟨p, 0, none⟩), .agg #[v]] w fun e w' => e = .returned (.bool true) ∧ Fr w w' No := by
  obtain ⟨a, c, rfl⟩ := hD.form
  have hA := Fr.alloc w (.cells #[.slice a R.length c] 74) No
  have HF0 := Lib.hid hA
  have hT0 : TeS (w.alloc (.cells #[.slice a R.length c] 74)) p w.heap.size gs R (.slice a R.length c) := ⟨hR.keep0 hA, hD.keep0 hA, blk_new w _⟩
  have HT0 := Lib.hid hT0
  have h32 := hR.le
  have HSM := Lib.hid hR.small
  have k0 : (w.alloc (.cells #[.slice a R.length c] 74)).cell? ⟨w.heap.size, 0, none⟩ = some (.slice a R.length c) := blk_cell hT0.box 0
  clear hR hD hA hT0
  go_enter Try.func42, Try.ntmps42
  go_wp2_with fail
  generalize w.alloc (.cells #[.slice a R.length c] 74) = w1 at *
  generalize w.heap.size = b0 at *
  clear k0
  go_loopg [10] R.length (fun g v10 wr => ∃ (k : Nat), k + g = R.length ∧ v10 = .int .i64 k ∧ TeS wr p b0 gs R (.slice a R.length c) ∧ Fr w1 wr No)
  case atStart => exact ⟨0, by omega, rfl, HT0.out, Fr.refl _ _⟩
  case round =>
    obtain ⟨k, hk, rfl, hT, hf⟩ := hrel
    have HK := Lib.hid hk
    have HT := Lib.hid hT
    have HF := Lib.hid hf
    clear hk hT hf HT0
    by_cases hlt : k < R.length
    · have hk1 : (k : Int) < (R.length : Int) := by omega
      have hk0 : (0 : Int) ≤ (k : Int) := by omega
      have HLT := Lib.hid hlt
      have k0 : wr.cell? ⟨b0, 0, none⟩ = some (.slice a R.length c) := blk_cell HT.out.box 0
      obtain ⟨b, off, a2, c2, hab, m1, m2, hs⟩ := HT.out.doc.at_ k hlt
      subst hab
      have hLT := Lib.hid (lanT_at R k hlt)
      have HSL := Lib.hid hs
      have hl8 := HSM.out.eight k hlt
      have HL8 := Lib.hid hl8
      clear hlt hs hl8 m1
      go_upto_region 4 with (fail)
      go_cut [23] (fun v23 wc => v23 = .bool false ∧ Fr wr wc No)
      case first =>
        go_region_held3 (fun w' => w'.cell? ⟨b0, 0, none⟩ = some (.slice (some ⟨b, off, none⟩) R.length c) ∧ w'.cell? ⟨b, off + k * 2 + 1, none⟩ = some (.slice a2 (lan R k).2.length c2) ∧ Fr wr w' No)
          ((go_split_ands; refine (fun hq : Fr wr _ No => ⟨hq.cell k0 id, hq.cell m2 id, hq⟩) ?_; first
            | exact Fr.drew wr No
            | exact Fr.nn (by assumption) hN5.2.1
            | exact Fr.nn (by assumption) hf6))
          (first
            | (go_at_call 36; refine (laneG_any p gs R k _ (HT.out.keep0 (by go_split_ands; assumption)).rack).mono ?_; rw [hLT.out]; rintro e w5 ⟨v5, rfl, hN5⟩; obtain ⟨a5, c5, hv5⟩ := slv_form hN5.1; subst hv5)
            | (go_at_call 21; refine (ints_true _ _ (lan R k).2 _ (SlI.rd hN5.1 (by have := HL8.out; omega)) (SlI.rd (Sl.keep0 HSL.out (by go_split_ands; assumption)) (by have := HL8.out; omega))).mono ?_; rintro e w6 ⟨rfl, hf6⟩))
        all_goals
          obtain ⟨_, _, hq⟩ := ‹_ ∧ _ ∧ _›
          have HQ := Lib.hid hq
          clear hq
          go_wp2_with fail
          go_meet
          case rel => exact ⟨rfl, HQ.out⟩
      case rest =>
        obtain ⟨rfl, hfc⟩ := hcut
        have HT5 := Lib.hid (HT.out.keep0 hfc)
        have HF5 := Lib.hid (HF.out.nn hfc)
        clear hfc k0 m2
        go_wp2_with fail
        go_roundg (gk - 1)
        case measure => have := HK.out; have := HLT.out; omega
        case rel => exact ⟨k + 1, by have := HK.out; have := HLT.out; omega, by go_num, HT5.out, HF5.out⟩
    · have hk1 : ¬ (k : Int) < (R.length : Int) := by omega
      clear hlt HK
      go_wp2_with fail
      go_loopg [6] 33 (fun g v6 wr => ∃ (q : Nat), q + g = 33 ∧ v6 = .int .i64 ((q : Int) - 1) ∧ TeS wr p b0 gs R (.slice a R.length c) ∧ Fr w1 wr No)
      case atStart => exact ⟨0, by omega, rfl, HT.out, HF.out⟩
      case round =>
        clear hk1
        obtain ⟨q, hq, rfl, hT, hf⟩ := hrel
        have HQ := Lib.hid hq
        have HT2 := Lib.hid hT
        have HF2 := Lib.hid hf
        clear hq hT hf HT HF
        have k0 : wr.cell? ⟨b0, 0, none⟩ = some (.slice a R.length c) := blk_cell HT2.out.box 0
        by_cases hlt : q < 33
        · have hk1 : (q : Int) - 1 ≤ 31 := by omega
          have HLT := Lib.hid hlt
          obtain ⟨t, ht⟩ : ∃ t, (q : Int) - 1 = t := ⟨_, rfl⟩
          have hww : (whereR t R != whereR t R) = false := bne_self_eq_false _
          have HTT := Lib.hid ht
          rw [ht] at hk1 ⊢
          have hwq : IntKind.i64.wrap (t + 1) = t + 1 := IntWalk.i64_in _ (by omega)
          have htb : -1 ≤ t := by omega
          clear ht hlt
          go_upto_region 10 with (fail)
          go_cut [35] (fun v35 wc => v35 = .bool false ∧ Fr wr wc No)
          case first =>
            go_region_held3 (fun w' => w'.cell? ⟨b0, 0, none⟩ = some (.slice a R.length c) ∧ Fr wr w' No)
              ((go_split_ands; refine (fun hq : Fr wr _ No => ⟨hq.cell k0 id, hq⟩) ?_; first
                | exact Fr.drew wr No
                | exact Fr.nn (by assumption) hf5
                | exact Fr.nn (by assumption) hf6))
              (first
                | (go_at_call 34; refine (where_any p gs R t _ (HT2.out.keep0 (by go_split_ands; assumption)).rack).mono ?_; rintro e w5 ⟨rfl, hf5⟩)
                | (go_at_call 51; refine (refWhere_any _ _ R t (HT2.out.keep0 (by go_split_ands; assumption)).doc HSM.out.1 HSM.out.eight).mono ?_; rintro e w6 ⟨rfl, hf6⟩))
            all_goals
              obtain ⟨_, hq⟩ := ‹_ ∧ _›
              have HQ2 := Lib.hid hq
              clear hq
              go_wp2_with fail
              go_meet
              case rel => exact ⟨rfl, HQ2.out⟩
          case rest =>
            obtain ⟨rfl, hfc⟩ := hcut
            have HT5 := Lib.hid (HT2.out.keep0 hfc)
            have HF5 := Lib.hid (HF2.out.nn hfc)
            clear hfc k0
            go_wp2_with fail
            go_roundg (gk - 1)
            case measure => have := HQ.out; have := HLT.out; omega
            case rel => exact ⟨q + 1, by have := HQ.out; have := HLT.out; omega, by have := HTT.out; exact congrArg (Value.int .i64) (by omega), HT5.out, HF5.out⟩
        · have hk1 : ¬ (q : Int) - 1 ≤ 31 := by omega
          have hrr : (roomR R == roomR R) = true := beq_self_eq_true _
          have HL1 := Lib.hid (lanT_out R (-1) (by omega))
          have HL2 := Lib.hid (lanT_out R (R.length : Int) (by omega))
          clear hlt
          go_upto_region 12 with (fail)
          go_region_held3 (fun w' => w'.cell? ⟨b0, 0, none⟩ = some (.slice a R.length c) ∧ Fr wr w' No)
            ((go_split_ands; refine (fun hq : Fr wr _ No => ⟨hq.cell k0 id, hq⟩) ?_; first
              | exact Fr.drew wr No
              | exact Fr.nn (by assumption) hf5
              | exact Fr.nn (by assumption) hf6
              | exact Fr.nn (by assumption) hN7.2.1
              | exact Fr.nn (by assumption) hN8.2.1))
            (first
              | (go_at_call 31; refine (roomG_any p gs R _ (HT2.out.keep0 (by go_split_ands; assumption)).rack).mono ?_; rintro e w5 ⟨rfl, hf5⟩)
              | (go_at_call 54; refine (refRoom_any _ _ R (HT2.out.keep0 (by go_split_ands; assumption)).doc HSM.out.1 HSM.out.2).mono ?_; rintro e w6 ⟨rfl, hf6⟩)
              | (go_at_call_of 36 (Value.int .i64 (R.length : Int)); refine (laneG_any p gs R (R.length : Int) _ (HT2.out.keep0 (by go_split_ands; assumption)).rack).mono ?_; rw [HL2.out]; rintro e w8 ⟨v8, rfl, hN8⟩; obtain ⟨a8, c8, hv8⟩ := slv_form hN8.1; subst hv8)
              | (go_at_call 36; refine (laneG_any p gs R (-1) _ (HT2.out.keep0 (by go_split_ands; assumption)).rack).mono ?_; rw [HL1.out]; rintro e w7 ⟨v7, rfl, hN7⟩; obtain ⟨a7, c7, hv7⟩ := slv_form hN7.1; subst hv7))
          all_goals
            obtain ⟨_, hq⟩ := ‹_ ∧ _›
            have HQ2 := Lib.hid hq
            clear hq
            go_wp2_with fail
            go_ret
            exact ⟨rfl, HF0.out.nn (HF2.out.nn HQ2.out)⟩
end Go.Proofs.Ytegoilhkooneaaa
