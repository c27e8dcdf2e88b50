/-
  The law PairLeast, walked.
-/
import Derived.Test.YtggogohoakbepaaP5
namespace Go.Proofs.Ytggogohoakbepaa
open Go.RowKit Go.Sort
set_option linter.unusedVariables false
set_option linter.unusedSimpArgs false

theorem cost_best (ss gs : List Spot) (h : okL ss ∧ okL gs) : costA ss gs (R gs ss 0) = (alone ss + alone gs - M gs ss 0, 0) := by
  obtain ⟨h1, h2, h3⟩ := cst_of_pr (Pr.best gs ss 0) [] (fun g _ => by simp)
  unfold costA
  rw [if_pos ⟨h.1, h.2, h3, h2⟩, h1]
  rfl
theorem cost_ge (ss gs : List Spot) (ps : List Int) (h : okL ss ∧ okL gs) (h0 : (costA ss gs ps).2 = 0) : alone ss + alone gs - M gs ss 0 ≤ (costA ss gs ps).1 := by
  unfold costA at *
  by_cases hc : okL ss ∧ okL gs ∧ ps.length = ss.length ∧ inR gs.length ps
  · rw [if_pos hc] at h0 ⊢
    cases hv : cst gs ss [] ps with
    | none => rw [hv] at h0; simp [res] at h0
    | some v =>
      have := (pr_of_cst gs ss [] ps 0 v hc.2.2.1 hc.2.2.2 (fun g _ => by simp) hv).le
      simp only [res]
      omega
  · rw [if_neg hc] at h0; simp at h0
theorem cst_none (gs : List Spot) : ∀ (ss : List Spot) (u : List Int), cst gs ss u (List.replicate ss.length (-1)) = some 0
  | [], u => rfl
  | s :: ss, u => by
    rw [List.length_cons, List.replicate_succ, cst, if_pos (by decide)]
    exact cst_none gs ss _
theorem cost_none (ss gs : List Spot) (h : okL ss ∧ okL gs) : costA ss gs (List.replicate ss.length (-1)) = (alone ss + alone gs, 0) := by
  unfold costA
  rw [if_pos ⟨h.1, h.2, by simp, fun p hp => by have := List.eq_of_mem_replicate hp; omega⟩, cst_none]
  simp [res]
theorem costA_bd (ss gs : List Spot) (ps : List Int) : ((costA ss gs ps).2 = 0 ∨ (costA ss gs ps).2 = 1 ∨ (costA ss gs ps).2 = 2) := by
  unfold costA
  split
  · cases cst gs ss [] ps <;> simp [res]
  · simp
theorem make_ints (n : Nat) (hn : n ≤ 100) (W : World) : (Instr.makeSlice 32 (.int .i64 (n : Int)) (.int .i64 (n : Int))).run Try.prog W = .ok (.slice (some ⟨W.heap.size, 0, none⟩) n n) (W.alloc (.cells (Array.replicate n (.int .i64 0)) 3)) := by
  obtain ⟨i0, hi, hz, hs, hb⟩ := info_parts info3
  have hr := run_make (P := Try.prog) W 32 3 i0 (.int .i64 0) Try.underlying32 hi hz .i64 .i64 n n (by omega) (by omega) (by rw [hb]; omega) (by omega)
  simp only [Int.toNat_natCast, hs] at hr
  rw [hr]
  congr 3
  apply Array.ext'
  apply List.ext_getElem
  · simp [madeCells, Value.cells]
  · intro j h1 h2
    simp [madeCells, Value.cells, Nat.mod_one]

set_option maxRecDepth 100000 in
set_option maxHeartbeats 4000000 in
theorem pairLeast_row (w : World) (u v x : Value) (ss gs : List Spot) (ps : List Int) (hu : RdS w u ss) (hv : RdS w v gs) (hx : RdI w x ps) :
    Calls Try.prog 9 #[u, v, x] w fun e w' => e = .returned (.bool true) ∧ Fr w w' No := by
  have l1 := hu.2
  have l2 := hv.2
  have l3 := hx.2
  obtain ⟨a, c, rfl⟩ := hu.form
  obtain ⟨a', c', rfl⟩ := hv.form
  obtain ⟨a2, c2, rfl, _⟩ := hx.open_
  have HU := Lib.hid hu
  have HV := Lib.hid hv
  have HX := Lib.hid hx
  clear hu hv hx
  go_enter Try.func9, Try.ntmps9
  go_wp2_with fail
  refine (awake_any _).mono ?_
  rintro e w1 ⟨rfl, hf1⟩
  have HF := Lib.hid hf1
  clear hf1
  by_cases h100 : 100 < ss.length + gs.length + ps.length
  · have hd : decide ((100 : Int) < (ss.length : Int) + (gs.length : Int) + (ps.length : Int)) = true := by simp; omega
    go_wp2_with fail
    refine (awake_any _).mono ?_
    rintro e w2 ⟨rfl, hf2⟩
    have HF2 := Lib.hid (HF.out.nn hf2)
    clear hf2
    go_wp2_with fail
    go_ret
    exact ⟨rfl, HF2.out⟩
  · have hd : decide ((100 : Int) < (ss.length : Int) + (gs.length : Int) + (ps.length : Int)) = false := by simp; omega
    go_wp2_with fail
    refine (own_any _ ss _ (HU.out.keep0 HF.out)).mono ?_
    rintro e w2 ⟨v2, rfl, hN2⟩
    have HN2 := Lib.hid hN2
    have HF2 := Lib.hid (HF.out.nn hN2.2.1)
    clear hN2 HF
    go_wp2_with fail
    refine (own_any _ gs _ (HV.out.keep0 HF2.out)).mono ?_
    rintro e w3 ⟨v3, rfl, hN3⟩
    have HN3 := Lib.hid hN3
    have HN2' := Lib.hid (HN2.out.keep0 hN3.2.1)
    have HF3 := Lib.hid (HF2.out.nn hN3.2.1)
    clear hN3 HF2 HN2
    go_wp2_with fail
    refine (best_any _ _ ss gs _ (HN2'.out.rd (by omega)) (HN3.out.rd (by omega))).mono ?_
    rintro e w4 ⟨q4, rfl, hN4⟩
    obtain ⟨a4, c4, rfl, _⟩ := hN4.1.form
    have HN4 := Lib.hid hN4
    have HF4 := Lib.hid (HF3.out.nn hN4.2.1)
    clear hN4 HF3 HN2' HN3
    by_cases hok : okL ss ∧ okL gs
    · have e1 : bestE ss gs = 0 := by unfold bestE; rw [if_pos hok]
      have e2 : bestN ss gs = alone ss + alone gs - M gs ss 0 := by unfold bestN; rw [if_pos hok]
      have e3 : bestL ss gs = R gs ss 0 := by unfold bestL; rw [if_pos hok]
      have e4 : (R gs ss 0).length = ss.length := (Pr.best gs ss 0).len
      have hbd := bestN_bd ss gs
      rw [e2] at hbd
      have HOK := Lib.hid hok
      rw [e1, e2]
      rw [e3] at HN4 ⊢
      have HN4' := Lib.hid (NewI.from HN4.out (Fr.refl _ _))
      obtain ⟨L, hL⟩ : ∃ L, L = R gs ss 0 := ⟨_, rfl⟩
      rw [← hL] at e4 HN4' ⊢
      have HLd := Lib.hid hL
      have hs6 := hok.1.1
      rw [e4]
      have HLen := Lib.hid e4
      have hNform : Hid (NewI w3 w4 (.slice a4 ss.length c4) L) := Lib.hid (by have := HN4'.out; rwa [e4] at this)
      clear hok e1 e2 e3 HN4 HN4' hL e4
      obtain ⟨N, hN⟩ : ∃ N, N = alone ss + alone gs - M gs ss 0 := ⟨_, rfl⟩
      rw [← hN] at hbd ⊢
      have HNd := Lib.hid hN
      clear hN
      go_wp2_with fail
      refine (own_any _ ss _ (HU.out.keep0 HF4.out)).mono ?_
      rintro e w5 ⟨v5, rfl, hN5⟩
      have HN5 := Lib.hid hN5
      have HF5 := Lib.hid (HF4.out.nn hN5.2.1)
      have HL5 := Lib.hid (Sl.keep0 hNform.out.1 hN5.2.1)
      clear hN5 HF4 hNform
      go_wp2_with fail
      refine (own_any _ gs _ (HV.out.keep0 HF5.out)).mono ?_
      rintro e w6 ⟨v6, rfl, hN6⟩
      have HN6 := Lib.hid hN6
      have HN5' := Lib.hid (HN5.out.keep0 hN6.2.1)
      have HL6 : Hid (SlI w6 (.slice a4 ss.length c4) L) := Lib.hid (Sl.keep0 HL5.out hN6.2.1)
      have HF6 := Lib.hid (HF5.out.nn hN6.2.1)
      clear hN6 HF5 HN5 HL5
      go_wp2_with fail
      refine (cost_any _ _ _ ss gs L _ (HN5'.out.rd (by omega)) (HN6.out.rd (by omega)) (SlI.rd HL6.out (by rw [HLen.out]; omega)) (SlI.capOk HL6.out)).mono ?_
      rw [HLd.out, cost_best ss gs HOK.out, ← HNd.out]
      rintro e w7 ⟨rfl, hf7⟩
      have HF7 := Lib.hid (HF6.out.nn hf7)
      clear hf7 HF6 HN5' HN6 HL6
      have hq1 : (N != N) = false := by simp
      have hq2 : ((ss.length : Int) != (ss.length : Int)) = false := by simp
      go_wp2_with fail
      clear hq1 hq2
      refine (own_any _ ss _ (HU.out.keep0 HF7.out)).mono ?_
      rintro e w8 ⟨v8, rfl, hN8⟩
      have HN8 := Lib.hid hN8
      have HF8 := Lib.hid (HF7.out.nn hN8.2.1)
      clear hN8 HF7
      go_wp2_with fail
      refine (own_any _ gs _ (HV.out.keep0 HF8.out)).mono ?_
      rintro e w9 ⟨v9, rfl, hN9⟩
      have HN9 := Lib.hid hN9
      have HN8' := Lib.hid (HN8.out.keep0 hN9.2.1)
      have HF9 := Lib.hid (HF8.out.nn hN9.2.1)
      clear hN9 HF8 HN8
      go_wp2_with (at_builtin; refine wpList_appS rfl (.tmp 82) (.tmp 83) rfl (.slice (some ⟨w9.heap.size, 0, none⟩) 0 0) [] rfl ?c1 (.slice a2 ps.length c2) ps rfl ?c2 ?c3 ?_)
      case c1 => exact Sl.made (cs := #[]) (blk_new _ _) rfl (by decide)
      case c2 => exact (HX.out.keep0 HF9.out).keep0 (Fr.alloc _ _ _)
      case c3 => simp; omega
      intro v10 w10 h1 h2 h3
      obtain ⟨hN10, hf10, _⟩ := NewI.app0 (a := w9) (w := w9) (Fr.refl _ No) (by simpa using h1) h2 (by simpa using h3)
      have HN10 := Lib.hid hN10
      have HF10 := Lib.hid (HF9.out.nn hf10)
      have HN8'' := Lib.hid (HN8'.out.keep0 hf10)
      have HN9'' := Lib.hid (HN9.out.keep0 hf10)
      clear h1 h2 h3 hN10 hf10 HF9 HN8' HN9
      go_wp2_with fail
      refine (cost_any _ _ _ ss gs ps _ (HN8''.out.rd (by omega)) (HN9''.out.rd (by omega)) (SlI.rd HN10.out.1 (by omega)) (SlI.capOk HN10.out.1)).mono ?_
      rintro e w11 ⟨rfl, hf11⟩
      have HF11 := Lib.hid (HF10.out.nn hf11)
      clear hf11 HF10 HN10 HN8'' HN9''
      have hge : (costA ss gs ps).2 = 0 → N ≤ (costA ss gs ps).1 := fun h => by rw [HNd.out]; exact cost_ge ss gs ps HOK.out h
      have HGE := Lib.hid hge
      have hbdE := costA_bd ss gs ps
      have HBE := Lib.hid hbdE
      clear hge hbdE
      generalize (costA ss gs ps).1 = D at *
      generalize (costA ss gs ps).2 = G at *
      have hmk := make_ints ss.length (by omega)
      go_wp2_with fail
      clear hmk
      have hS0 : Sl (w11.alloc (.cells (Array.replicate ss.length (.int .i64 0)) 3)) 3 1 (.slice (some ⟨w11.heap.size, 0, none⟩) ss.length ss.length) ss.length ((List.replicate ss.length (0 : Int)).map (Value.int .i64)) := by
        have := Sl.made (k := 1) (n := ss.length) (blk_new w11 (.cells (Array.replicate ss.length (.int .i64 0)) 3)) (by simp) (by unfold maxLen; omega)
        simpa using this
      have hF12 := HF11.out.to_alloc (.cells (Array.replicate ss.length (.int .i64 0)) 3)
      have HS0 := Lib.hid hS0
      have HF12 := Lib.hid hF12
      have hbn : w.heap.size ≤ w11.heap.size := HF11.out.size
      clear hS0 hF12 HF11
      generalize w11.alloc (.cells (Array.replicate ss.length (.int .i64 0)) 3) = w12 at *
      generalize w11.heap.size = bn at *
      go_loopg [15, 93] ss.length (fun g _ v93 wr => ∃ k : Nat, k + g = ss.length ∧ v93 = .int .i64 k ∧ Sl wr 3 1 (.slice (some ⟨bn, 0, none⟩) ss.length ss.length) ss.length ((List.replicate k (-1 : Int) ++ List.replicate (ss.length - k) 0).map (Value.int .i64)) ∧ Fr w wr No)
      case atStart => exact ⟨0, by omega, rfl, by simpa using HS0.out, HF12.out⟩
      case round =>
        clear HS0 HF12
        obtain ⟨k, hg, rfl, hs, hf⟩ := hrel
        have HGK := Lib.hid hg
        have HSL := Lib.hid hs
        have HFW := Lib.hid hf
        clear hg hs hf
        by_cases hlt : k < ss.length
        · have hc := Sl.cell (e := 3) (k := 1) HSL.out k (.int .i64 0) (by
            rw [List.map_append, List.getElem?_append_right (by simp), List.map_replicate, List.map_replicate, List.getElem?_replicate, if_pos (by simp; omega)])
          have hfz := Sl.frz HSL.out (0 + k)
          simp only [Nat.zero_add] at hc hfz
          have hnew := Sl.set (e := 3) HSL.out k hlt (.int .i64 (-1))
          have HNEW : Hid (Sl (wr.setCell ⟨bn, k, none⟩ (.int .i64 (-1))) 3 1 (.slice (some ⟨bn, 0, none⟩) ss.length ss.length) ss.length ((List.replicate (k + 1) (-1 : Int) ++ List.replicate (ss.length - (k + 1)) 0).map (Value.int .i64))) := Lib.hid (by
            simp only [Nat.zero_add] at hnew
            have e2 : ((List.replicate k (-1 : Int) ++ List.replicate (ss.length - k) 0).map (Value.int .i64)).set k (.int .i64 (-1)) = (List.replicate (k + 1) (-1 : Int) ++ List.replicate (ss.length - (k + 1)) 0).map (Value.int .i64) := by
              rw [List.map_append, List.map_append, List.set_append_right _ _ (by simp)]
              rw [show ss.length - k = (ss.length - (k + 1)) + 1 by omega, List.replicate_succ, List.replicate_succ']
              simp
            rw [← e2]
            exact hnew)
          have HF2' := Lib.hid (HFW.out.to_new ⟨bn, k, none⟩ (.int .i64 (-1)) hbn)
          clear hnew
          go_wp2_with fail
          go_roundg (gk - 1)
          case measure => have := HGK.out; omega
          case rel => exact ⟨k + 1, by have := HGK.out; omega, by go_num, HNEW.out, HF2'.out⟩
        · have hsl : SlI wr (.slice (some ⟨bn, 0, none⟩) ss.length ss.length) (List.replicate ss.length (-1)) := by
            have := HSL.out
            rw [show k = ss.length by have := HGK.out; omega] at this
            unfold SlI
            rw [List.length_replicate]
            simpa using this
          have HSN := Lib.hid hsl
          clear hsl HSL
          go_wp2_with fail
          refine (own_any _ ss _ (HU.out.keep0 HFW.out)).mono ?_
          rintro e w13 ⟨v13, rfl, hN13⟩
          have HN13 := Lib.hid hN13
          have HF13 := Lib.hid (HFW.out.nn hN13.2.1)
          have HS13 := Lib.hid (Sl.keep0 HSN.out hN13.2.1)
          clear hN13 HFW HSN
          go_wp2_with fail
          refine (own_any _ gs _ (HV.out.keep0 HF13.out)).mono ?_
          rintro e w14 ⟨v14, rfl, hN14⟩
          have HN14 := Lib.hid hN14
          have HN13' := Lib.hid (HN13.out.keep0 hN14.2.1)
          have HF14 := Lib.hid (HF13.out.nn hN14.2.1)
          have HS14 : Hid (SlI w14 (.slice (some ⟨bn, 0, none⟩) ss.length ss.length) (List.replicate ss.length (-1))) := Lib.hid (Sl.keep0 HS13.out hN14.2.1)
          clear hN14 HF13 HN13 HS13
          go_wp2_with fail
          refine (cost_any _ _ _ ss gs (List.replicate ss.length (-1)) _ (HN13'.out.rd (by omega)) (HN14.out.rd (by omega)) (SlI.rd HS14.out (by simp; omega)) (SlI.capOk HS14.out)).mono ?_
          rw [cost_none ss gs HOK.out]
          rintro e w15 ⟨rfl, hf15⟩
          have HF15 := Lib.hid (HF14.out.nn hf15)
          clear hf15 HF14 HN13' HN14 HS14
          have hMn := M_nonneg gs ss 0
          have hall : N ≤ alone ss + alone gs := by rw [HNd.out]; omega
          clear hMn
          by_cases hG : G = 0
          · have hGb : (G != 0) = false := by simp [hG]
            have hD : N ≤ D := HGE.out hG
            clear hG
            go_wp2_with fail
            go_ret
            exact ⟨rfl, HF15.out⟩
          · have hGb : (G != 0) = true := by simp [hG]
            clear hG
            go_wp2_with fail
            go_ret
            exact ⟨rfl, HF15.out⟩
    · have e1 : bestE ss gs = 1 := by unfold bestE; rw [if_neg hok]
      have e2 : bestN ss gs = 0 := by unfold bestN; rw [if_neg hok]
      have e3 : bestL ss gs = [] := by unfold bestL; rw [if_neg hok]
      rw [e1, e2, e3]
      clear hok e1 e2 e3 HN4
      go_wp2_with fail
      go_ret
      exact ⟨rfl, HF4.out⟩

/-- As the row wants it. -/
theorem pairLeast_all (w : World) (u : Value) (n1 : Nat) (f1 : List Int) (h1 : Rd w u n1 (f1.map (Value.int .i64)) 2) (b1 : n1 ≤ 8796093022207) (v : Value) (n2 : Nat) (f2 : List Int) (h2 : Rd w v n2 (f2.map (Value.int .i64)) 2) (b2 : n2 ≤ 8796093022207)
    (x : Value) (ps : List Int) (h3 : RdI w x ps) :
    Calls Try.prog 9 #[u, v, x] w fun e w' => e = .returned (.bool true) ∧ Fr w w' No := by
  obtain ⟨ss, hs, _⟩ := Rd.spots h1 b1
  obtain ⟨gs, hg, _⟩ := Rd.spots h2 b2
  exact pairLeast_row w u v x ss gs ps hs hg h3
end Go.Proofs.Ytggogohoakbepaa
