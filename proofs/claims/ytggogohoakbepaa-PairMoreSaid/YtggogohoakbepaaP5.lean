/-
  pair.Cost, walked.
-/
import Derived.Test.YtggogohoakbepaaP4
import Derived.Test.YtggogohoakbepaaPm3
namespace Go.Proofs.Ytggogohoakbepaa
open Go.RowKit Go.Sort
set_option linter.unusedVariables false
set_option linter.unusedSimpArgs false

theorem has_mem (t : Int) (l : List Int) : has t l = decide (t ∈ l) := by
  have key : ∀ l : List Int, 0 ≤ idx t l ↔ t ∈ l := by
    intro l
    induction l with
    | nil => simp [idx]
    | cons x r ih =>
      have h1 := idx_ge t r
      have hi : idx t (x :: r) = if t = x then 0 else if idx t r < 0 then -1 else idx t r + 1 := rfl
      rw [List.mem_cons, ← ih, hi]
      by_cases e : t = x
      · rw [if_pos e]; simp [e]
      · rw [if_neg e]
        simp only [e, false_or]
        split <;> omega
  exact decide_eq_decide.2 (key l)
theorem RdI.take {w : World} {a : Option Addr} {n c : Nat} {zs : List Int} (h : RdI w (.slice a n c) zs) (k c' : Nat) (hk : k ≤ zs.length) (h0 : 0 < zs.length) : RdI w (.slice a k c') (zs.take k) := by
  obtain ⟨⟨hl, a', c'', hv, hn, hs⟩, hb⟩ := h
  cases hv
  obtain ⟨b, off, rfl, hc⟩ := hs h0
  have e : (zs.take k).length = k := by simp; omega
  refine ⟨⟨by simp, some ⟨b, off, none⟩, c', by rw [e], (fun h => nomatch h), fun _ => ⟨b, off, rfl, fun j u hu => hc j u ?_⟩⟩, by omega⟩
  rw [List.map_take, List.getElem?_take] at hu
  split at hu
  · exact hu
  · cases hu

/-! ### Is a number out of range? -/
def outP (ng : Nat) (p : Int) : Prop := p < -1 ∨ (ng : Int) ≤ p
instance (ng : Nat) (p : Int) : Decidable (outP ng p) := by unfold outP; exact inferInstance
theorem cost1_any (p : Int) (bb : Nat) (a : Option Addr) (n c : Nat) (w : World) (hc : w.cell? ⟨bb, 0, none⟩ = some (.slice a n c)) :
    Calls Try.prog 29 #[.int .i64 p, .pointer (some ⟨bb, 0, none⟩)] w fun e w' => e = .returned (.bool (decide (outP n p))) ∧ w = w' := by
  have hcase : (decide (p < -1) = true ∧ outP n p) ∨ (decide (p < -1) = false ∧ decide ((n : Int) ≤ p) = true ∧ outP n p) ∨ (decide (p < -1) = false ∧ decide ((n : Int) ≤ p) = false ∧ ¬ outP n p) := by
    simp only [decide_eq_true_eq, decide_eq_false_iff_not]
    unfold outP
    omega
  rcases hcase with ⟨a1, h⟩ | ⟨a1, a2, h⟩ | ⟨a1, a2, h⟩
  all_goals
    have H := Lib.hid h
    clear h
    go_enter Try.func29, Try.ntmps29
    go_wp2
    go_ret
    exact ⟨by simp [H.out], rfl⟩

def fout (ng : Nat) : List Int → Int
  | [] => -1
  | s :: r => if outP ng s then 0 else (if fout ng r < 0 then -1 else fout ng r + 1)
theorem fout_hit (ng : Nat) (l : List Int) (k : Nat) (hk : k < l.length) (h : ∀ j, j < k → ¬ outP ng (l.getD j 0)) (he : outP ng (l.getD k 0)) : fout ng l = k := by
  induction l generalizing k with
  | nil => simp at hk
  | cons x r ih =>
    cases k with
    | zero => simp at he; simp [fout, he]
    | succ k =>
      have h0 := h 0 (by omega)
      simp at h0
      have := ih k (by simpa using hk) (fun j hj => by have := h (j + 1) (by omega); simpa using this) (by simpa using he)
      unfold fout
      rw [if_neg h0, this, if_neg (by omega)]
      omega
theorem fout_miss (ng : Nat) (l : List Int) (h : ∀ j, j < l.length → ¬ outP ng (l.getD j 0)) : fout ng l = -1 := by
  induction l with
  | nil => rfl
  | cons x r ih =>
    have h0 := h 0 (by simp)
    simp at h0
    have := ih (fun j hj => by have := h (j + 1) (by simp; omega); simpa using this)
    unfold fout
    rw [if_neg h0, this, if_pos (by omega)]
theorem fout_iff (ng : Nat) (l : List Int) : 0 ≤ fout ng l ↔ ¬ inR ng l := by
  induction l with
  | nil => simp [fout, inR]
  | cons x r ih =>
    unfold fout
    have e : inR ng (x :: r) ↔ ¬ outP ng x ∧ inR ng r := by
      unfold inR outP
      simp only [List.forall_mem_cons]
      constructor
      · rintro ⟨h1, h2⟩; exact ⟨by omega, h2⟩
      · rintro ⟨h1, h2⟩; exact ⟨by omega, h2⟩
    rw [e]
    by_cases h : outP ng x
    · rw [if_pos h]; simp [h]
    · rw [if_neg h]
      simp only [h, not_false_eq_true, true_and]
      rw [← ih]
      split <;> omega

set_option maxHeartbeats 1000000 in
theorem indexOut_any (v : Value) (l : List Int) (bb : Nat) (a' : Option Addr) (n c' : Nat) (w : World) (hv : RdI w v l) (hc : w.cell? ⟨bb, 0, none⟩ = some (.slice a' n c')) :
    Calls Try.prog 34 #[v, .func (.func 29) #[] #[.pointer (some ⟨bb, 0, none⟩)]] w fun e w' => e = .returned (.int .i64 (fout n l)) ∧ w = w' := by
  have hl := hv.2
  obtain ⟨a, c, rfl, _⟩ := hv.open_
  have HV := Lib.hid hv
  clear hv
  have HC := Lib.hid hc
  clear hc
  go_enter Try.func34, Try.ntmps34
  go_wp2
  go_loop [5, 8] (fun _ i => ∃ k : Nat, k ≤ l.length ∧ i = .int .i64 k ∧ (∀ j, j < k → ¬ outP n (l.getD j 0))) (fun _ i => l.length - (intOf i).toNat)
  case atStart => exact ⟨0, Nat.zero_le _, rfl, by omega⟩
  case round =>
    obtain ⟨k, hk, rfl, hn⟩ := hrel
    have HN := Lib.hid hn
    clear hn
    by_cases hlt : k < l.length
    · obtain ⟨b, off, rfl, h1⟩ := HV.out.get k hlt
      generalize hs : l.getD k 0 = s at *
      have HS := Lib.hid hs
      clear hs
      go_wp2_with fail
      refine (cost1_any s bb a' n c' _ HC.out).mono ?_
      rintro e w2 ⟨rfl, rfl⟩
      clear h1
      by_cases ho : outP n s
      · have HI : Hid (fout n l = k) := Lib.hid (fout_hit n l k hlt HN.out (by rw [HS.out]; exact ho))
        have hd : decide (outP n s) = true := by simpa using ho
        clear ho
        rw [hd]
        clear hd
        go_wp2
        go_ret
        exact ⟨by rw [HI.out]; rfl, rfl⟩
      · have HO := Lib.hid ho
        have hd : decide (outP n s) = false := by simpa using ho
        clear ho
        rw [hd]
        clear hd
        go_wp2
        go_round
        case rel =>
          refine ⟨k + 1, by omega, by go_num, fun j hj => ?_⟩
          rcases Nat.lt_or_ge j k with h | h
          · exact HN.out j h
          · obtain rfl : j = k := by omega
            rw [HS.out]; exact HO.out
        case measure => simp [intOf]; omega
    · have HI : Hid (fout n l = -1) := Lib.hid (fout_miss n l (fun j hj => HN.out j (by omega)))
      go_wp2
      go_ret
      exact ⟨by rw [HI.out]; rfl, rfl⟩

theorem containsOut_any (v : Value) (l : List Int) (bb : Nat) (a' : Option Addr) (n c' : Nat) (w : World) (hv : RdI w v l) (hc : w.cell? ⟨bb, 0, none⟩ = some (.slice a' n c')) :
    Calls Try.prog 28 #[v, .func (.func 29) #[] #[.pointer (some ⟨bb, 0, none⟩)]] w fun e w' => e = .returned (.bool (decide (¬ inR n l))) ∧ w = w' := by
  have hd : decide (¬ inR n l) = decide (0 ≤ fout n l) := decide_eq_decide.2 (fout_iff n l).symm
  rw [hd]
  clear hd
  have HC := Lib.hid hc
  clear hc
  go_enter Try.func28, Try.ntmps28
  go_wp2_with (go_at_call 34; refine (indexOut_any v l bb a' n c' _ hv HC.out).mono ?_; rintro e w' ⟨rfl, rfl⟩)
  go_ret
  exact ⟨rfl, rfl⟩

/-- A slice's length is within its capacity. -/
def CapOk (v : Value) : Prop := ∀ a n c, v = .slice a n c → n ≤ c
theorem SlI.capOk {w : World} {v : Value} {zs : List Int} (h : SlI w v zs) : CapOk v := by
  rintro a n c rfl
  obtain ⟨hl, ⟨hv, h0⟩ | ⟨g, off, cap, cur, hv, _, hn, _⟩⟩ := h
  · cases hv; omega
  · cases hv; exact hn

/-! ### Cost -/
set_option maxRecDepth 100000 in
set_option maxHeartbeats 2000000 in
theorem cost_bad (u v x : Value) (ss gs : List Spot) (ps : List Int) (w : World) (hu : RdS w u ss) (hv : RdS w v gs) (hx : RdI w x ps) (h : ¬ (okL ss ∧ okL gs ∧ ps.length = ss.length ∧ inR gs.length ps)) :
    Calls Try.prog 20 #[u, v, x] w fun e w' => e = .returned (.tuple #[.int .i64 0, .int .i64 1]) ∧ Fr w w' No := by
  obtain ⟨a, c, rfl⟩ := hu.form
  obtain ⟨a', c', rfl⟩ := hv.form
  obtain ⟨a2, c2, rfl, _⟩ := hx.open_
  have l1 := hu.2
  have l2 := hx.2
  have HU := Lib.hid hu
  have HV := Lib.hid hv
  have HX := Lib.hid hx
  clear hu hv hx
  have hf0 := Fr.alloc w (.cells #[.slice a' gs.length c'] 30) No
  have hcell : (w.alloc (.cells #[.slice a' gs.length c'] 30)).cell? ⟨w.heap.size, 0, none⟩ = some (.slice a' gs.length c') := blk_cell (blk_new w _) 0
  have HF0 := Lib.hid hf0
  have HC0 := Lib.hid hcell
  clear hf0 hcell
  have hcase : (decide (¬ okL ss) = true) ∨ (decide (¬ okL ss) = false ∧ decide (¬ okL gs) = true) ∨ (decide (¬ okL ss) = false ∧ decide (¬ okL gs) = false ∧ ((ps.length : Int) != (ss.length : Int)) = true) ∨
      (decide (¬ okL ss) = false ∧ decide (¬ okL gs) = false ∧ ((ps.length : Int) != (ss.length : Int)) = false ∧ decide (¬ inR gs.length ps) = true) := by
    by_cases h1 : okL ss
    · by_cases h2 : okL gs
      · by_cases h3 : ps.length = ss.length
        · exact .inr (.inr (.inr ⟨by simpa using h1, by simpa using h2, by simp [h3], by simpa using fun h4 => h ⟨h1, h2, h3, h4⟩⟩))
        · exact .inr (.inr (.inl ⟨by simpa using h1, by simpa using h2, by simp; omega⟩))
      · exact .inr (.inl ⟨by simpa using h1, by simpa using h2⟩)
    · exact .inl (by simpa using h1)
  clear h
  rcases hcase with d1 | ⟨d1, d2⟩ | ⟨d1, d2, d3⟩ | ⟨d1, d2, d3, d4⟩
  · go_enter Try.func20, Try.ntmps20
    go_wp2_with fail
    refine (bad_any _ ss _ (HU.out.keep0 HF0.out)).mono ?_
    rw [d1]
    rintro e w1 ⟨rfl, hf1⟩
    have HF1 := Lib.hid (HF0.out.nn hf1)
    clear hf1 d1
    go_wp2_with fail
    go_ret2
    exact ⟨rfl, HF1.out⟩
  all_goals
    go_enter Try.func20, Try.ntmps20
    go_wp2_with fail
    refine (bad_any _ ss _ (HU.out.keep0 HF0.out)).mono ?_
    rw [d1]
    rintro e w1 ⟨rfl, hf1⟩
    have HF1 := Lib.hid (HF0.out.nn hf1)
    have hc1 := hf1.cell HC0.out id
    have HC1 := Lib.hid hc1
    clear hf1 d1
    go_wp2_with fail
    clear hc1
    refine (bad_any _ gs _ (HV.out.keep0 HF1.out)).mono ?_
    rw [d2]
    rintro e w2 ⟨rfl, hf2⟩
    have HF2 := Lib.hid (HF1.out.nn hf2)
    have HC2 := Lib.hid (hf2.cell HC1.out id)
    clear hf2 d2 HF1 HC1
    go_wp2_with fail
  · go_ret2
    exact ⟨rfl, HF2.out⟩
  · go_ret2
    exact ⟨rfl, HF2.out⟩
  · refine (containsOut_any _ ps _ a' gs.length c' _ (HX.out.keep0 HF2.out) HC2.out).mono ?_
    rw [d4]
    rintro e w3 ⟨rfl, rfl⟩
    clear d4
    go_wp2_with fail
    go_ret2
    exact ⟨rfl, HF2.out⟩

set_option maxRecDepth 100000 in
set_option maxHeartbeats 2000000 in
theorem cost_good (u v x : Value) (ss gs : List Spot) (ps : List Int) (w : World) (hu : RdS w u ss) (hv : RdS w v gs) (hx : RdI w x ps) (hcx : CapOk x) (h1 : okL ss) (h2 : okL gs) (h3 : ps.length = ss.length) (h4 : inR gs.length ps) :
    Calls Try.prog 20 #[u, v, x] w fun e w' => e = .returned (.tuple #[.int .i64 (res (alone ss + alone gs) (cst gs ss [] ps)).1, .int .i64 (res (alone ss + alone gs) (cst gs ss [] ps)).2]) ∧ Fr w w' No := by
  obtain ⟨a, c, rfl⟩ := hu.form
  obtain ⟨a', c', rfl⟩ := hv.form
  obtain ⟨a2, c2, rfl, _⟩ := hx.open_
  have hcap : ps.length ≤ c2 := hcx _ _ _ rfl
  clear hcx
  have l1 := hu.2
  have l2 := hx.2
  have HU := Lib.hid hu
  have HV := Lib.hid hv
  have HX := Lib.hid hx
  have HS := Lib.hid h1
  have HG := Lib.hid h2
  have HL := Lib.hid h3
  have HR := Lib.hid h4
  have hs6 := h1.1
  have hg6 := h2.1
  clear hu hv hx
  have hf0 := Fr.alloc w (.cells #[.slice a' gs.length c'] 30) No
  have hcell : (w.alloc (.cells #[.slice a' gs.length c'] 30)).cell? ⟨w.heap.size, 0, none⟩ = some (.slice a' gs.length c') := blk_cell (blk_new w _) 0
  have HF0 := Lib.hid hf0
  have HC0 := Lib.hid hcell
  clear hf0 hcell
  have d1 : decide (¬ okL ss) = false := by simpa using h1
  have d2 : decide (¬ okL gs) = false := by simpa using h2
  have d3 : ((ps.length : Int) != (ss.length : Int)) = false := by simp [h3]
  have d4 : decide (¬ inR gs.length ps) = false := by simpa using h4
  clear h1 h2 h3 h4
  go_enter Try.func20, Try.ntmps20
  go_wp2_with fail
  refine (bad_any _ ss _ (HU.out.keep0 HF0.out)).mono ?_
  rw [d1]
  rintro e w1 ⟨rfl, hf1⟩
  have HF1 := Lib.hid (HF0.out.nn hf1)
  have hc1 := hf1.cell HC0.out id
  have HC1 := Lib.hid hc1
  clear hf1 d1
  go_wp2_with fail
  clear hc1
  refine (bad_any _ gs _ (HV.out.keep0 HF1.out)).mono ?_
  rw [d2]
  rintro e w2 ⟨rfl, hf2⟩
  have HF2 := Lib.hid (HF1.out.nn hf2)
  have HC2 := Lib.hid (hf2.cell HC1.out id)
  clear hf2 d2 HF1 HC1
  go_wp2_with fail
  refine (containsOut_any _ ps _ a' gs.length c' _ (HX.out.keep0 HF2.out) HC2.out).mono ?_
  rw [d4]
  rintro e w3 ⟨rfl, rfl⟩
  clear d4 d3
  have n1 := alone_nonneg ss
  have n2 := alone_nonneg gs
  have n3 := alone_le ss HS.out.2
  have n4 := alone_le gs HG.out.2
  have hw1 : IntKind.i64.wrap (alone ss + alone gs) = alone ss + alone gs := IntWalk.i64_in _ (by omega)
  have q0 := cell_regrown HC2.out
  have cU := fun d os => Calls.regrown_of (d := d) (os := os) ((alone_any _ ss _ ((HU.out.keep0 HF2.out).keep0 (Fr.of_below (below_regrown w2 d os) No)) HS.out).mono fun e w' ⟨he, hf⟩ => ⟨he, hf.below (Nat.le_refl _) (fun _ _ h => h)⟩)
  have cV := fun d os => Calls.regrown_of (d := d) (os := os) ((alone_any _ gs _ ((HV.out.keep0 HF2.out).keep0 (Fr.of_below (below_regrown w2 d os) No)) HG.out).mono fun e w' ⟨he, hf⟩ => ⟨he, hf.below (Nat.le_refl _) (fun _ _ h => h)⟩)
  go_upto_region 3 with (fail)
  refine wp_region_quiet_below (by kernel_rfl) (by kernel_rfl) ?_
  repeat (go_big_quiet_step ((first | (with_reducible exact cU _ _) | (with_reducible exact cV _ _))))
  refine wpQuiet_nil ?_
  intro w5 hw5
  obtain ⟨p, rfl⟩ := hw5
  have hf5 := Fr.of_below (below_regrown w2 p.d p.os) No
  generalize grow (redrawn w2 p.d) p.os = w5 at *
  have HF5 := Lib.hid (HF2.out.nn hf5)
  have HC5 := Lib.hid (hf5.cell HC2.out id)
  clear q0 cU cV hw1 hf5 HF2 HC2
  go_wp2_with fail
  go_loopg [8, 9, 10, 36] ps.length (fun g v8 _ _ v36 wr => ∃ (k : Nat) (n : Int), k + g = ps.length ∧ v36 = .int .i64 k ∧ v8 = .int .i64 n ∧ -2000 * (k : Int) ≤ n ∧ n ≤ 24000 ∧ res n (cst gs (ss.drop k) (ps.take k) (ps.drop k)) = res (alone ss + alone gs) (cst gs ss [] ps) ∧ Fr w5 wr No)
  case atStart => exact ⟨0, _, by omega, rfl, rfl, by omega, by omega, rfl, Fr.refl _ _⟩
  case round =>
    obtain ⟨k, n, hg, rfl, rfl, hn1, hn2, hres, hf⟩ := hrel
    have HGK := Lib.hid hg
    have HRES := Lib.hid hres
    have HF6 := Lib.hid hf
    clear hg hres hf
    by_cases hlt : k < ps.length
    · have hks : k < ss.length := by have := HL.out; omega
      obtain ⟨b, off, rfl, hcp⟩ := ((HX.out.keep0 HF5.out).keep0 HF6.out).get k hlt
      have hpr := HR.out (ps.getD k 0) (by simp [List.getD, List.getElem?_eq_getElem hlt])
      obtain ⟨p, hp⟩ : ∃ p, p = ps.getD k 0 := ⟨_, rfl⟩
      rw [← hp] at hcp hpr
      have HP := Lib.hid hp
      clear hp
      have hp1 := hpr.1
      have hp2 := hpr.2
      clear hpr
      by_cases hneg : p < 0
      · have hst := cst_neg gs ss ps k hks hlt (by rw [← HP.out]; exact hneg)
        have HST := Lib.hid hst
        clear hst
        go_wp2_with fail
        go_roundg (gk - 1)
        case measure => have := HGK.out; omega
        case rel => exact ⟨k + 1, n, by have := HGK.out; omega, by go_num, rfl, by omega, hn2, by rw [← HST.out]; exact HRES.out, HF6.out⟩
      · have HNEG := Lib.hid hneg
        have hr := (((HX.out.keep0 HF5.out).keep0 HF6.out).take k c2 (by omega) (by omega))
        have HRT := Lib.hid hr
        clear hr
        by_cases hm : p ∈ ps.take k
        · have hst := cst_dup gs ss ps k hks hlt (by rw [← HP.out]; exact HNEG.out) (by rw [← HP.out]; exact hm)
          have hh : has p (ps.take k) = true := by rw [has_mem]; simpa using hm
          have hE := HRES.out
          rw [hst] at hE
          have HE := Lib.hid hE.symm
          clear hE hst hm
          go_wp2_with fail
          refine (contains_any _ (ps.take k) p _ HRT.out).mono ?_
          rw [hh]
          rintro e w7 ⟨rfl, rfl⟩
          clear hh
          go_wp2_with fail
          go_ret2
          exact ⟨by rw [HE.out]; rfl, HF5.out.nn HF6.out⟩
        · have hst := cst_new gs ss ps k hks hlt (by rw [← HP.out]; exact HNEG.out) (by rw [← HP.out]; exact hm)
          have hh : has p (ps.take k) = false := by rw [has_mem]; simpa using hm
          have HST := Lib.hid hst
          clear hst hm
          go_wp2_with fail
          refine (contains_any _ (ps.take k) p _ HRT.out).mono ?_
          rw [hh]
          rintro e w7 ⟨rfl, rfl⟩
          clear hh
          obtain ⟨g, hgp⟩ : ∃ g : Nat, p = (g : Int) := ⟨p.toNat, by have := HNEG.out; omega⟩
          subst hgp
          have hgl : g < gs.length := by omega
          obtain ⟨b1, o1, rfl, s1, s2⟩ := ((HU.out.keep0 HF5.out).keep0 HF6.out).at_ k hks
          obtain ⟨b2, o2, ha2, g1, g2⟩ := ((HV.out.keep0 HF5.out).keep0 HF6.out).at_ g hgl
          have HA2 := Lib.hid ha2
          subst ha2
          have hoS : okS (ss.getD k (0, 0)) := HS.out.2 _ (by simp [List.getD, List.getElem?_eq_getElem hks])
          have hoG : okS (gs.getD g (0, 0)) := HG.out.2 _ (by simp [List.getD, List.getElem?_eq_getElem hgl])
          obtain ⟨s0, hs0⟩ : ∃ x, x = ss.getD k (0, 0) := ⟨_, rfl⟩
          obtain ⟨g0, hg0⟩ : ∃ x, x = gs.getD g (0, 0) := ⟨_, rfl⟩
          rw [← hs0] at s1 s2 hoS
          rw [← hg0] at g1 g2 hoG
          have HS0 := Lib.hid hs0
          have HG0 := Lib.hid hg0
          clear hs0 hg0
          have hsv := sv_le (g := g0) hoS
          have hsv0 := sv_nonneg s0 g0
          have hw1 : IntKind.i64.wrap (n - sv s0 g0) = n - sv s0 g0 := IntWalk.i64_in _ (by omega)
          have k1 : (0 : Int) ≤ (k : Int) := by omega
          have k2 : (k : Int) < (ss.length : Int) := by omega
          have k3 : (0 : Int) ≤ (g : Int) := by omega
          have k4 : (g : Int) < (gs.length : Int) := by omega
          have hc6 := HF6.out.cell HC5.out id
          have q1 := cell_regrown s1
          have q2 := cell_regrown s2
          have q3 := cell_regrown g1
          have q4 := cell_regrown g2
          have q5 := cell_regrown hc6
          clear hcp
          go_upto_region 10 with (fail)
          refine wp_region_quiet_below (by kernel_rfl) (by kernel_rfl) ?_
          repeat (go_big_quiet_step ((go_at_call 24; exact Calls.regrown_of ((saved_any s0 g0 _ hoS.near hoG.near).mono fun e w' ⟨he, hf⟩ => ⟨he, hf.below (Nat.le_refl _) (fun _ _ h => h)⟩))))
          refine wpQuiet_nil ?_
          intro w8 hw8
          obtain ⟨pp, rfl⟩ := hw8
          have hf8 := Fr.of_below (below_regrown wr pp.d pp.os) No
          generalize grow (redrawn wr pp.d) pp.os = w8 at *
          have HF8 := Lib.hid (HF6.out.nn hf8)
          clear q1 q2 q3 q4 q5 s1 s2 g1 g2 hc6 hw1 hf8
          go_wp2_with fail
          go_roundg (gk - 1)
          case measure => have := HGK.out; omega
          case rel =>
            refine ⟨k + 1, n - sv s0 g0, by have := HGK.out; omega, by go_num, rfl, by omega, by omega, ?_, HF8.out⟩
            rw [← HRES.out, HST.out, res_map, ← HP.out, ← HS0.out]
            simp only [Int.toNat_natCast]
            rw [← HG0.out]
    · have hst := cst_end gs ss ps k (by have := HL.out; omega)
      have hE := HRES.out
      rw [hst] at hE
      have HE := Lib.hid hE.symm
      clear hE hst
      go_wp2_with fail
      go_ret2
      exact ⟨by rw [HE.out]; simp [res], HF5.out.nn HF6.out⟩

theorem cost_any (u v x : Value) (ss gs : List Spot) (ps : List Int) (w : World) (hu : RdS w u ss) (hv : RdS w v gs) (hx : RdI w x ps) (hcx : CapOk x) :
    Calls Try.prog 20 #[u, v, x] w fun e w' => e = .returned (.tuple #[.int .i64 (costA ss gs ps).1, .int .i64 (costA ss gs ps).2]) ∧ Fr w w' No := by
  by_cases h : okL ss ∧ okL gs ∧ ps.length = ss.length ∧ inR gs.length ps
  · unfold costA; rw [if_pos h]
    exact cost_good u v x ss gs ps w hu hv hx hcx h.1 h.2.1 h.2.2.1 h.2.2.2
  · unfold costA; rw [if_neg h]
    exact cost_bad u v x ss gs ps w hu hv hx h
end Go.Proofs.Ytggogohoakbepaa
