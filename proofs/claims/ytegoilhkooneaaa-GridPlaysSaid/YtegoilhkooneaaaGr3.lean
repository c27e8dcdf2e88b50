/-
  Package grid: best.
-/
import Derived.Test.YtegoilhkooneaaaGr2
namespace Go.Proofs.Ytegoilhkooneaaa
open Go.RowKit Go.Sort
set_option linter.unusedVariables false
set_option linter.unusedSimpArgs false

/-- How many stand in lane i, with those that are to come. -/
def cntR (R : List Lan) (ms : List Int) (i : Nat) : Int := (lan R i).2.length + ms.getD i 0
/-- May lane i be taken? -/
def okR (but : Int) (R : List Lan) (ms : List Int) (i : Nat) : Prop := (i : Int) ≠ but ∧ ms.getD i 0 < ((lan R i).1 : Int) - (lan R i).2.length
instance (but : Int) (R : List Lan) (ms : List Int) (i : Nat) : Decidable (okR but R ms i) := by unfold okR; exact inferInstance
/-- The best of the first k; and its count. -/
def bstR (but : Int) (R : List Lan) (ms : List Int) : Nat → Int × Int
  | 0 => (-1, 0)
  | k + 1 => if okR but R ms k ∧ ((bstR but R ms k).1 < 0 ∨ cntR R ms k < (bstR but R ms k).2) then ((k : Int), cntR R ms k) else bstR but R ms k
def bestR (but : Int) (R : List Lan) (ms : List Int) : Int := (bstR but R ms R.length).1

theorem slv_form {w : World} {v : Value} {zs : List Int} (h : SlI w v zs) : ∃ a c, v = .slice a zs.length c := by
  obtain ⟨a, c, h, _⟩ := SlI.form h; exact ⟨a, c, h⟩

set_option maxHeartbeats 4000000 in
theorem best_any (p : Nat) (gs : List Nat) (R : List Lan) (but : Int) (v : Value) (ms : List Int) (w : World) (hR : RackAt w p gs R) (hm : RdI w v ms) (hml : ms.length = R.length) (hmb : ∀ i, i < R.length → 0 ≤ ms.getD i 0 ∧ ms.getD i 0 ≤ 1000) :
    Calls Try.prog 47 #[.pointer (some ⟨p, 0, none⟩), .int .i64 but, v] w fun e w' => e = .returned (.int .i64 (bestR but R ms)) ∧ Fr w w' No := by
  obtain ⟨a, c, h1, h2⟩ := hR.open_
  obtain ⟨am, cm, rfl, _⟩ := hm.open_
  have HR := Lib.hid hR
  have H2 := Lib.hid h2
  have HM := Lib.hid hm
  have HMB := Lib.hid hmb
  have HML := Lib.hid hml
  have hle := hR.le
  clear hR h2 hm hmb hml
  go_enter Try.func47, Try.ntmps47
  go_wp2_with fail
  go_loopg [7, 8, 17] R.length (fun g v7 v8 v17 wr => ∃ (k : Nat), k + g = R.length ∧ v17 = .int .i64 k ∧ v7 = .int .i64 (bstR but R ms k).1 ∧ v8 = .int .i64 (bstR but R ms k).2 ∧ Fr w wr No)
  case atStart => exact ⟨0, by omega, rfl, rfl, rfl, Fr.refl _ _⟩
  case round =>
    obtain ⟨k, hk, rfl, rfl, rfl, hf⟩ := hrel
    have HK := Lib.hid hk
    have HF := Lib.hid hf
    clear hk hf
    by_cases hlt : k < R.length
    · obtain ⟨b, off, rfl, h3⟩ := (H2.out.keep0 HF.out).get k (by rw [HR.out.len]; exact hlt)
      obtain ⟨bm, om, ham, hcm⟩ := (HM.out.keep0 HF.out).get k (by rw [HML.out]; exact hlt)
      subst ham
      have hL := (HR.out.keep0 HF.out).lane k hlt
      obtain ⟨gg, hgg⟩ : ∃ g, gs.getD k 0 = g := ⟨_, rfl⟩
      rw [hgg] at h3 hL
      have HGG := Lib.hid hgg
      clear hgg
      have hb1 : (lan R k).2.length ≤ (lan R k).1 := hL.1
      have hb2 : (lan R k).1 ≤ 8 := hL.2.2.1
      have hmk := HMB.out k hlt
      have HL := Lib.hid hL
      have hlt' : (k : Int) < (R.length : Int) := by omega
      have HLT := Lib.hid hlt
      obtain ⟨m, hmm⟩ : ∃ m, ms.getD k 0 = m := ⟨_, rfl⟩
      rw [hmm] at hcm hmk
      have HMM := Lib.hid hmm
      have hq0 : (0 : Int) ≤ (k : Int) := by omega
      have hq1 : (k : Int) < (ms.length : Int) := by rw [HML.out]; omega
      have hq2 : k < ms.length := by rw [HML.out]; exact hlt
      clear hL hlt hmm
      go_upto_region 6 with (fail)
      go_cut [11] (fun v11 wc => v11 = .int .i64 (((lan R k).2.length : Int) + m) ∧ Fr wr wc No)
      case first =>
        have hwm : IntKind.i64.wrap (((lan R k).2.length : Int) + m) = ((lan R k).2.length : Int) + m := IntWalk.i64_in _ (by omega)
        go_region_held3 (fun w' => w'.cell? ⟨bm, om + k, none⟩ = some (.int .i64 m) ∧ Fr wr w' No)
          ((go_split_ands; refine (fun hq : Fr wr _ No => ⟨hq.cell hcm id, hq⟩) ?_; first
            | exact Fr.drew wr No
            | exact Fr.nn (by assumption) hN.2.1))
          (first | (go_at_call 19; refine (totes_any _ (lan R k).2 (lan R k).1 _ (HL.out.keep (by go_split_ands; assumption) id)).mono ?_; rintro e w' ⟨v5, rfl, hN⟩; obtain ⟨a5, c5, hv5⟩ := slv_form hN.1; subst hv5))
        obtain ⟨_, hq⟩ := ‹_ ∧ _›
        have HQ := Lib.hid hq
        clear hq
        go_wp2_with fail
        go_meet
        case rel => exact ⟨rfl, HQ.out⟩
      case rest =>
        obtain ⟨rfl, hfc⟩ := hcut
        have HF2 := Lib.hid (HF.out.nn hfc)
        have hL2 := HL.out.keep hfc id
        have HL2 := Lib.hid hL2
        have hcm2 := hfc.cell hcm id
        clear hcm hL2 hfc
        have hwr : IntKind.i64.wrap (((lan R k).1 : Int) - (lan R k).2.length) = ((lan R k).1 : Int) - (lan R k).2.length := IntWalk.i64_in _ (by omega)
        have hst : bstR but R ms (k + 1) = if okR but R ms k ∧ ((bstR but R ms k).1 < 0 ∨ cntR R ms k < (bstR but R ms k).2) then ((k : Int), cntR R ms k) else bstR but R ms k := rfl
        have hok : okR but R ms k ↔ (k : Int) ≠ but ∧ m < ((lan R k).1 : Int) - (lan R k).2.length := by unfold okR; rw [HMM.out]
        have hct : cntR R ms k = ((lan R k).2.length : Int) + m := by unfold cntR; rw [HMM.out]
        rw [hct] at hst
        obtain ⟨B, hB⟩ : ∃ B, bstR but R ms k = B := ⟨_, rfl⟩
        rw [hB] at hst ⊢
        obtain ⟨B1, B2⟩ := B
        simp only at hst ⊢
        obtain ⟨N, hN⟩ : ∃ N, ((lan R k).2.length : Int) + m = N := ⟨_, rfl⟩
        rw [hN] at hst ⊢
        have hcase : (((k : Int) != but) = false ∧ bstR but R ms (k + 1) = (B1, B2)) ∨
            (((k : Int) != but) = true ∧ decide (m < ((lan R k).1 : Int) - (lan R k).2.length) = false ∧ bstR but R ms (k + 1) = (B1, B2)) ∨
            (((k : Int) != but) = true ∧ decide (m < ((lan R k).1 : Int) - (lan R k).2.length) = true ∧ decide (B1 < 0) = true ∧ bstR but R ms (k + 1) = ((k : Int), N)) ∨
            (((k : Int) != but) = true ∧ decide (m < ((lan R k).1 : Int) - (lan R k).2.length) = true ∧ decide (B1 < 0) = false ∧ decide (N < B2) = true ∧ bstR but R ms (k + 1) = ((k : Int), N)) ∨
            (((k : Int) != but) = true ∧ decide (m < ((lan R k).1 : Int) - (lan R k).2.length) = true ∧ decide (B1 < 0) = false ∧ decide (N < B2) = false ∧ bstR but R ms (k + 1) = (B1, B2)) := by
          rw [hst]
          by_cases d1 : (k : Int) = but
          · exact .inl ⟨by simpa using d1, if_neg (fun h => (hok.1 h.1).1 d1)⟩
          · have d1' : ((k : Int) != but) = true := by simpa using d1
            by_cases d2 : m < ((lan R k).1 : Int) - (lan R k).2.length
            · have d2' : decide (m < ((lan R k).1 : Int) - (lan R k).2.length) = true := decide_eq_true d2
              have dk := hok.2 ⟨d1, d2⟩
              by_cases d3 : B1 < 0
              · exact .inr (.inr (.inl ⟨d1', d2', decide_eq_true d3, if_pos ⟨dk, .inl d3⟩⟩))
              · by_cases d4 : N < B2
                · exact .inr (.inr (.inr (.inl ⟨d1', d2', decide_eq_false d3, decide_eq_true d4, if_pos ⟨dk, .inr d4⟩⟩)))
                · exact .inr (.inr (.inr (.inr ⟨d1', d2', decide_eq_false d3, decide_eq_false d4, if_neg (fun h => by rcases h.2 with h | h; exact d3 h; exact d4 h)⟩)))
            · exact .inr (.inl ⟨d1', decide_eq_false d2, if_neg (fun h => d2 (hok.1 h.1).2)⟩)
        clear hst hok hct hB hN hb1 hb2
        rcases hcase with ⟨d1, hn⟩ | ⟨d1, d2, hn⟩ | ⟨d1, d2, d3, hn⟩ | ⟨d1, d2, d3, d4, hn⟩ | ⟨d1, d2, d3, d4, hn⟩
        all_goals
          have HN := Lib.hid hn
          clear hn
          go_upto_region 7 with (fail)
          go_quiet ((go_at_call 18; exact Calls.quiet_of ((room_any _ (lan R k).2 (lan R k).1 _ (HL2.out.drewN _)).mono fun e w' ⟨he, n, hn⟩ => ⟨he, n, hn.symm⟩)))
          have HF3 := Lib.hid (HF2.out.to_drewN nq)
          clear hcm2 hwr
          go_wp2_with fail
          go_roundg (gk - 1)
          case measure => have := HK.out; have := HLT.out; omega
          case rel => exact ⟨k + 1, by have := HK.out; have := HLT.out; omega, by go_num, by rw [HN.out], by rw [HN.out], HF3.out⟩
    · have hk : k = R.length := by have := HK.out; omega
      have hlt' : ¬ (k : Int) < (R.length : Int) := by omega
      have HE : Hid (bestR but R ms = (bstR but R ms k).1) := Lib.hid (by unfold bestR; rw [hk])
      clear hlt hk HK
      go_wp2_with fail
      go_ret
      exact ⟨by rw [HE.out]; rfl, HF.out⟩
end Go.Proofs.Ytegoilhkooneaaa
