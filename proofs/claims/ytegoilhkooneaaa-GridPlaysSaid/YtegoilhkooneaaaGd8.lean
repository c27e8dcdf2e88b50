/-
  The document's rack: Do whole; moves compared.
-/
import Derived.Test.YtegoilhkooneaaaGd7
namespace Go.Proofs.Ytegoilhkooneaaa
open Go.RowKit Go.Sort
set_option linter.unusedVariables false
set_option linter.unusedSimpArgs false

theorem refDo_any (w : World) (v : Value) (R : List Lan) (t f o : Int) (hD : DocAt w v R) (hS : Small R) (hW : WF R) :
    Calls Try.prog 41 #[.agg #[v], .agg #[.int .i64 t, .int .i64 f, .int .i64 o]] w fun e w' => RefS w (doR R t f o) (fun v' => .tuple #[.agg #[v'], .int .i64 (doE R t f o)]) e w' := by
  by_cases hb : badM R.length f o
  · have e1 : doE R t f o = 1 := by unfold doE; rw [if_pos hb]
    have e2 : doR R t f o = R := by unfold doR; rw [if_pos hb]
    rw [e1, e2]
    exact refDo_bad w v R t f o hD hb
  · obtain ⟨n, rfl⟩ : ∃ n : Nat, f = n := ⟨f.toNat, by unfold badM at hb; omega⟩
    have hn : n < R.length := by unfold badM at hb; omega
    by_cases hl : (lan R n).2.getLast? ≠ some t
    · have e1 : doE R t n o = 160 := by unfold doE; rw [if_neg hb, Int.toNat_natCast, if_pos hl]
      have e2 : doR R t n o = R := by unfold doR; rw [if_neg hb, Int.toNat_natCast, if_pos hl]
      rw [e1, e2]
      exact refDo_tote w v R t o n hD hS hb hl
    · obtain ⟨T, hT⟩ : ∃ T, (lan R n).2 = T ++ [t] := by
        rcases List.eq_nil_or_concat (lan R n).2 with h' | ⟨T, x, h'⟩
        · rw [h'] at hl; simp at hl
        · rw [h'] at hl; simp at hl; exact ⟨T, by rw [h', hl]; simp⟩
      obtain ⟨hc, hT0, h1, h30⟩ := lane_last hW hn hT
      by_cases ho : 0 ≤ o
      · obtain ⟨m, rfl⟩ : ∃ m : Nat, o = m := ⟨o.toNat, by omega⟩
        have hm : m < R.length := by unfold badM at hb; omega
        have hnm : m ≠ n := by unfold badM at hb; omega
        have hm0 : (lan R m).2.count t = 0 := by
          have h2 := cnt_two t R n m hn hm (Ne.symm hnm)
          rw [hT] at h2
          simp only [List.count_append, List.count_singleton_self] at h2
          omega
        by_cases hr : (lan R m).2.length < (lan R m).1
        · obtain ⟨e1, e2⟩ := do_to hW hn hT hm hnm hr
          obtain ⟨p1, p2⟩ := push_ok (d := (lan R m).1) h1 h30 hm0 hr
          rw [e1, e2]
          have e3 : movT R t n m T = (R.set n ((lan R n).1, T)).set m ((lan R m).1, (lan R m).2 ++ [t]) := by unfold movT; rw [List.set_comm _ _ hnm]
          rw [e3]
          exact refDo_to w v R t n m T hD hS hb hT hr p1 p2
        · have hpe : pushE (lan R m).1 (lan R m).2 t = 5 := by
            have := hW.good m hm
            unfold pushE
            rw [if_neg (by omega), if_neg (by have := (idx_neg t (lan R m).2).2 hm0; omega), if_pos (by omega)]
          have e1 : doE R t n m = 5 := by unfold doE; rw [if_neg hb, Int.toNat_natCast, if_neg hl, Int.toNat_natCast, if_pos ⟨ho, by rw [hpe]; decide⟩]; exact hpe
          have e2 : doR R t n m = R := by unfold doR; rw [if_neg hb, Int.toNat_natCast, if_neg hl, Int.toNat_natCast, if_pos ⟨ho, by rw [hpe]; decide⟩]
          rw [e1, e2]
          exact refDo_full w v R t n m T hD hS hb hT hr
      · obtain rfl : o = -1 := by unfold badM at hb; omega
        obtain ⟨e1, e2⟩ := do_out hW hn hT
        rw [e1, e2]
        exact refDo_out w v R t n T hD hS hb hT

theorem badM_len {R : List Lan} (R' : List Lan) (h : R'.length = R.length) (f o : Int) : badM R'.length f o ↔ badM R.length f o := by rw [h]

set_option maxRecDepth 100000 in
set_option maxHeartbeats 4000000 in
theorem same_true (w : World) (u v : Value) (L : List Mv) (hu : SlM 62 w u L) (hv : SlM 86 w v L) (hl : L.length ≤ 1000) :
    Calls Try.prog 40 #[u, v] w fun e w' => e = .returned (.bool true) ∧ Fr w w' No := by
  obtain ⟨a, c, rfl⟩ := hu.form
  obtain ⟨b, d, rfl⟩ := hv.form
  have HU := Lib.hid hu
  have HV := Lib.hid hv
  have hb : ((L.length : Int) != (L.length : Int)) = false := bne_self_eq_false _
  clear hu hv
  go_enter Try.func40, Try.ntmps40
  go_wp2_with fail
  go_loopg [13] L.length (fun g v13 wr => ∃ (k : Nat), k + g = L.length ∧ v13 = .int .i64 k ∧ Fr w wr No)
  case atStart => exact ⟨0, by omega, rfl, Fr.refl _ _⟩
  case round =>
    obtain ⟨k, hk, rfl, hf⟩ := hrel
    have HK := Lib.hid hk
    have HF := Lib.hid hf
    clear hk hf
    by_cases hlt : k < L.length
    · have hu' : SlM 62 wr (.slice a L.length c) L := Sl.keep0 HU.out HF.out
      have hv' : SlM 86 wr (.slice b L.length d) L := Sl.keep0 HV.out HF.out
      obtain ⟨b1, o1, ha1, m1, m2, m3⟩ := hu'.at_ k hlt
      obtain ⟨b2, o2, ha2, n1, n2, n3⟩ := hv'.at_ k hlt
      subst ha1
      subst ha2
      have hk1 : (k : Int) < (L.length : Int) := by omega
      have hk0 : (0 : Int) ≤ (k : Int) := by omega
      have HLT := Lib.hid hlt
      generalize L.getD k (0, 0, 0) = mm at *
      obtain ⟨x, y, z⟩ := mm
      simp only at m1 m2 m3 n1 n2 n3
      have e1 : (x != x) = false := bne_self_eq_false _
      have e2 : (y != y) = false := bne_self_eq_false _
      have e3 : (z != z) = false := bne_self_eq_false _
      clear hlt hu' hv'
      go_wp2_with fail
      go_quiet (fail)
      have HF2 := Lib.hid (HF.out.to_drewN nq)
      clear m1 m2 m3 n1 n2 n3
      go_wp2_with fail
      go_roundg (gk - 1)
      case measure => have := HK.out; have := HLT.out; omega
      case rel => exact ⟨k + 1, by have := HK.out; have := HLT.out; omega, by go_num, HF2.out⟩
    · have hk1 : ¬ (k : Int) < (L.length : Int) := by omega
      go_wp2_with fail
      go_ret
      exact ⟨rfl, HF.out⟩
end Go.Proofs.Ytegoilhkooneaaa
