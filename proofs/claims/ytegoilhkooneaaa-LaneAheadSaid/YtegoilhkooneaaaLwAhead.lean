import Derived.Test.YtegoilhkooneaaaLn2
namespace Go.Proofs.Ytegoilhkooneaaa
open Go.RowKit
set_option linter.unusedVariables false
set_option linter.unusedSimpArgs false

theorem idx_take (t : Int) (l : List Int) (j : Nat) : idx t (l.take j) = if idx t l < (j : Int) then idx t l else -1 := by
  induction l generalizing j with
  | nil => rw [List.take_nil]; show (-1 : Int) = if (-1 : Int) < (j : Int) then -1 else -1; by_cases h : (-1 : Int) < (j : Int) <;> simp [h]
  | cons x r ih =>
    cases j with
    | zero =>
      have := idx_ge t (x :: r)
      simp only [List.take_zero, idx]
      split <;> omega
    | succ j =>
      have h1 := idx_ge t r
      rw [List.take_succ_cons]
      unfold idx
      rw [ih j]
      by_cases e : t = x
      · simp only [if_pos e]; rw [if_pos (by omega)]
      · simp only [if_neg e]
        (repeat' split) <;> omega
theorem u64_small (x : Int) (h0 : 0 ≤ x) (h1 : x ≤ 1000000) : IntKind.u64.wrap x = x := by
  show x % _ = x
  exact Int.emod_eq_of_lt h0 (by show x < 18446744073709551616; omega)
theorem umodn (y : Int) (n : Nat) (h0 : 0 < n) (h1 : n ≤ 1000000) : ∃ m : Nat, m < n ∧ wrap64 ((IntKind.u64.wrap y).tmod (n : Int)) = m := by
  obtain ⟨e0, m1, m2⟩ := umod y n (by omega) (by omega)
  refine ⟨((IntKind.u64.wrap y) % (n : Int)).toNat, by omega, ?_⟩
  rw [e0]
  omega
theorem idx_getD (t : Int) (l : List Int) (k : Nat) (h : idx t l = k) : l.getD k 0 = t := by
  induction l generalizing k with
  | nil => simp [idx] at h
  | cons x r ih =>
    have h1 := idx_ge t r
    unfold idx at h
    by_cases e : t = x
    · rw [if_pos e] at h
      have : k = 0 := by omega
      subst this
      simp [e]
    · rw [if_neg e] at h
      split at h
      · omega
      · cases k with
        | zero => omega
        | succ k => simpa using ih k (by omega)
theorem idx_mem (l : List Int) (k : Nat) (hk : k < l.length) : 0 ≤ idx (l.getD k 0) l := by
  induction l generalizing k with
  | nil => simp at hk
  | cons x r ih =>
    cases k with
    | zero => simp [idx]
    | succ k =>
      have := ih k (by simpa using hk)
      simp only [List.getD_cons_succ]
      unfold idx
      split
      · omega
      · rw [if_neg (by omega)]; omega

theorem takeE_blocked (t : Int) (ts : List Int) (i j : Nat) (hi : idx t ts = i) (h : i + 1 < j) (hj : j ≤ ts.length) : takeE (ts.take j) t = 110 := by
  have e := idx_take t ts j
  rw [hi, if_pos (by omega)] at e
  unfold takeE
  rw [e, if_neg (by omega), if_pos (by rw [List.length_take]; omega)]
theorem takeE_ok (t : Int) (ts : List Int) (i : Nat) (hi : idx t ts = i) (hl : i < ts.length) : takeE (ts.take (i + 1)) t = 0 := by
  have e := idx_take t ts (i + 1)
  rw [hi, if_pos (by omega)] at e
  unfold takeE
  rw [e, if_neg (by omega), if_neg (by rw [List.length_take]; omega)]
theorem takeE_gone (t : Int) (ts : List Int) (i : Nat) (hi : idx t ts = i) : takeE (ts.take i) t = 160 := by
  have e := idx_take t ts i
  rw [hi, if_neg (by omega)] at e
  unfold takeE
  rw [e, if_pos (by decide)]

set_option maxRecDepth 100000 in
set_option maxHeartbeats 1000000 in
theorem laneAhead_walk (w : World) (x : Int) (v : Value) (zs : List Int) (hv : RdI w v zs) (y : Int) :
    Calls Try.prog 7 #[.int .i64 x, v, .int .i64 y] w fun e w' => e = .returned (.bool true) ∧ Fr w w' No := by
  have hl := hv.2
  obtain ⟨a, c, rfl, _, hr⟩ := hv.open_
  have HV := Lib.hid hv
  clear hv hr
  go_enter Try.func7, Try.ntmps7
  go_wp2_with fail
  refine (awake_any w).mono ?_
  rintro e w1 ⟨rfl, hf1⟩
  go_wp2_with fail
  obtain ⟨d, h1, h8, hd⟩ := umod1 x 8 (by decide) (by decide)
  rw [hd]
  have h8' : d ≤ 8 := by omega
  clear hd h8
  refine (new_ok d w1 h1 h8').mono ?_
  rintro e w2 ⟨rfl, hL, hf2⟩
  have hg : w.heap.size ≤ w1.heap.size := hf1.size
  generalize w1.heap.size = g at *
  have hf := hf1.nn hf2
  have HL := Lib.hid hL
  have HF := Lib.hid hf
  clear hf1 hf2 hL hf
  go_wp2_with fail
  go_loopw [9] (fun v9 wr => ∃ (k : Nat) (ts : List Int), k ≤ zs.length ∧ k ≤ 20 ∧ v9 = .int .i64 k ∧ Fr w wr No ∧ LaneAt wr g ts d) (fun i _ => 20 - (intOf i).toNat)
  case atStart => exact ⟨0, [], by omega, by omega, rfl, HF.out, HL.out⟩
  case round =>
    clear HL HF
    obtain ⟨k, ts, hk, hk50, rfl, hF, hL⟩ := hrel
    have HF := Lib.hid hF
    have HL := Lib.hid hL
    clear hF hL
    by_cases hlt : k < zs.length ∧ k < 20
    · obtain ⟨hlt, hlt50⟩ := hlt
      obtain ⟨b, off, rfl, hcell⟩ := (HV.out.keep0 HF.out).get k hlt
      generalize zs.getD k 0 = z at *
      go_wp2_with fail
      refine (push_any g ts d _ _ HL.out).mono ?_
      rintro e w4 ⟨rfl, hL4, hf4⟩
      have HL4 := Lib.hid hL4
      have HF4 := Lib.hid (HF.out.in1 hf4 hg)
      clear hL4 hf4
      go_wp2
      go_roundw
      case rel => exact ⟨k + 1, _, by omega, by omega, by go_num, HF4.out, HL4.out⟩
      case measure => simp [intOf]; omega
    · have hcase : (¬ k < zs.length) ∨ (k < zs.length ∧ ¬ k < 20) := by omega
      have h8 := HL.out.1
      clear hlt
      rcases hcase with hlt | ⟨hlt, hlt2⟩
      all_goals
        go_wp2_with fail
        refine (totes_any g ts d _ HL.out).mono ?_
        rintro e w5 ⟨v5, rfl, hN5⟩
        obtain ⟨a5, c5, rfl, _⟩ := hN5.1.form
        have HL5 := Lib.hid (HL.out.keep hN5.2.1 (fun h => h))
        have HN5 := Lib.hid (hN5.from HF.out)
        clear hN5
        by_cases hne : ts = []
        · subst hne
          go_wp2_with fail
          refine (ahead_none g [] d 1 _ HL5.out (by decide)).mono ?_
          rintro e w6 ⟨rfl, hf6⟩
          have HF6 := Lib.hid (HN5.out.2.1.nn hf6)
          clear hf6
          go_wp2
          go_ret
          exact ⟨rfl, HF6.out⟩
        · have hpos : 0 < ts.length := List.length_pos_iff.2 hne
          clear hne
          have hz : ((ts.length : Int) == 0) = false := beq_eq_false_iff_ne.2 (by omega)
          have hwl : IntKind.u64.wrap (ts.length : Int) = (ts.length : Int) := u64_small _ (by omega) (by omega)
          obtain ⟨m, hmlt, e0⟩ := umodn y ts.length hpos (by omega)
          obtain ⟨b5, off5, rfl, hc5⟩ := (SlI.rd HN5.out.1 (by omega)).get m hmlt
          have hx0 : 0 ≤ idx (ts.getD m 0) ts := idx_mem ts m hmlt
          generalize ts.getD m 0 = t at *
          obtain ⟨i, hi⟩ : ∃ i : Nat, idx t ts = i := ⟨(idx t ts).toNat, by omega⟩
          have hilt : i < ts.length := by have := idx_lt t ts; omega
          have HI := Lib.hid hi
          clear hi hx0
          go_wp2_with fail
          refine (ahead_some g ts d t i _ HL5.out HI.out).mono ?_
          rintro e w6 ⟨v6, rfl, hN6⟩
          have ha := hN6.1.form
          obtain ⟨a6, c6, hv6, _⟩ := ha
          rw [List.length_reverse, List.length_drop] at hv6
          subst hv6
          have HL6 := Lib.hid (HL5.out.keep hN6.2.1 (fun h => h))
          have HN6 := Lib.hid (hN6.from HN5.out.2.1)
          clear hN6
          go_wp2_with fail
          go_loopw [88] (fun v88 w7 => ∃ q : Nat, q ≤ ts.length - (i + 1) ∧ v88 = .int .i64 q ∧ NewI w w7 (.slice a6 (ts.length - (i + 1)) c6) (ts.drop (i + 1)).reverse ∧ LaneAt w7 g (ts.take (ts.length - q)) d) (fun u _ => ts.length - (intOf u).toNat)
          case atStart => exact ⟨0, Nat.zero_le _, rfl, HN6.out, by rw [Nat.sub_zero, List.take_length]; exact HL6.out⟩
          case round =>
            obtain ⟨q, hq, rfl, hN7, hL7⟩ := hrel
            have HN7 := Lib.hid hN7
            have HL7 := Lib.hid hL7
            clear hN7 hL7
            by_cases hql : q < ts.length - (i + 1)
            · obtain ⟨b6, off6, rfl, hc6⟩ := (SlI.rd HN7.out.1 (by simp; omega)).get q (by simp; omega)
              have hT : Hid (takeE (ts.take (ts.length - q)) t = 110) := Lib.hid (takeE_blocked t ts i _ HI.out (by omega) (by omega))
              have hT' : Hid (takeT (ts.take (ts.length - q)) t = ts.take (ts.length - q)) := Lib.hid (by unfold takeT; rw [hT.out]; rfl)
              have hS : Hid (ts.take (ts.length - q) = ts.take (ts.length - (q + 1)) ++ [(ts.drop (i + 1)).reverse.getD q 0]) := Lib.hid (by
                have e1 : ts.length - q = ts.length - (q + 1) + 1 := by omega
                rw [e1, List.take_succ_eq_append_getElem (by omega)]
                congr 2
                rw [List.getD_eq_getElem?_getD, List.getElem?_eq_getElem (by simp; omega), Option.getD_some, List.getElem_reverse, List.getElem_drop]
                congr 1
                simp; omega)
              generalize (ts.drop (i + 1)).reverse.getD q 0 = z at *
              have hc6' := hc6
              clear hc6
              go_wp2_with fail
              refine (take_is g _ d t 110 _ _ HL7.out hT.out hT'.out).mono ?_
              rintro e w8 ⟨rfl, hL8, hf8⟩
              have HN8 := Lib.hid (HL7.out.new HN7.out hf8 hg)
              have HL8 := Lib.hid hL8
              clear hL8 hf8
              go_wp2_with fail
              refine (pop_is g _ z _ d _ HL8.out hS.out).mono ?_
              rintro e w9 ⟨rfl, hL9, hf9⟩
              have HN9 := Lib.hid (HL8.out.new HN8.out hf9 hg)
              have HL9 := Lib.hid hL9
              clear hL9 hf9
              go_wp2
              go_roundw
              case rel => exact ⟨q + 1, by omega, by go_num, HN9.out, HL9.out⟩
              case measure => simp [intOf]; omega
            · obtain rfl : q = ts.length - (i + 1) := by omega
              have HL7' : Hid (LaneAt wr g (ts.take (i + 1)) d) := Lib.hid (by have := HL7.out; rwa [show ts.length - (ts.length - (i + 1)) = i + 1 by omega] at this)
              have hT : Hid (takeE (ts.take (i + 1)) t = 0) := Lib.hid (takeE_ok t ts i HI.out hilt)
              have hT' : Hid (takeT (ts.take (i + 1)) t = ts.take i) := Lib.hid (by
                unfold takeT; rw [hT.out, if_pos rfl, List.take_succ_eq_append_getElem hilt, List.dropLast_concat])
              have hT2 : Hid (takeE (ts.take i) t = 160) := Lib.hid (takeE_gone t ts i HI.out)
              have hT2' : Hid (takeT (ts.take i) t = ts.take i) := Lib.hid (by unfold takeT; rw [hT2.out]; rfl)
              go_wp2_with fail
              refine (take_is g _ d t 0 _ _ HL7'.out hT.out hT'.out).mono ?_
              rintro e w8 ⟨rfl, hL8, hf8⟩
              have HF8 := Lib.hid (HN7.out.2.1.in1 hf8 hg)
              have HL8 := Lib.hid hL8
              clear hL8 hf8
              go_wp2_with fail
              refine (take_is g _ d t 160 _ _ HL8.out hT2.out hT2'.out).mono ?_
              rintro e w9 ⟨rfl, hL9, hf9⟩
              have HF9 := Lib.hid (HF8.out.in1 hf9 hg)
              have HL9 := Lib.hid hL9
              clear hL9 hf9
              go_wp2_with fail
              refine (totes_any g _ d _ HL9.out).mono ?_
              rintro e w10 ⟨v10, rfl, hN10⟩
              obtain ⟨a10, c10, hv10, _⟩ := hN10.1.form
              rw [List.length_take, Nat.min_eq_left (by omega)] at hv10
              subst hv10
              have HF10 := Lib.hid (HF9.out.nn hN10.2.1)
              clear hN10
              have hz2 : ((i : Int) == (ts.length : Int) - ((ts.length - (i + 1) : Nat) : Int) - 1) = true := by rw [beq_iff_eq]; omega
              go_wp2
              go_ret
              exact ⟨rfl, HF10.out⟩

/-- As the row wants it. -/
theorem laneAhead_row (w : World) (x : Int) (_ : (Lit.int .i64 x).wf = true) (v : Value) (zs : List Int) (hv : RdI w v zs) (y : Int) (_ : (Lit.int .i64 y).wf = true) :
    Calls Try.prog 7 #[.int .i64 x, v, .int .i64 y] w fun e w' => e = .returned (.bool true) ∧ Fr w w' No := laneAhead_walk w x v zs hv y

end Go.Proofs.Ytegoilhkooneaaa
