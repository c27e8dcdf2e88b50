import Derived.Test.YtegoilhkooneaaaPour
namespace Go.Proofs.Ytegoilhkooneaaa
open Go.RowKit
set_option linter.unusedVariables false
set_option linter.unusedSimpArgs false

set_option maxRecDepth 100000 in
set_option maxHeartbeats 1000000 in
theorem lanePours_walk (w : World) (x : Int) (v : Value) (zs : List Int) (hv : RdI w v zs) :
    Calls Try.prog 4 #[.int .i64 x, v] w fun e w' => e = .returned (.bool true) ∧ Fr w w' No := by
  have hl := hv.2
  obtain ⟨a, c, rfl, _, hr⟩ := hv.open_
  have HV := Lib.hid hv
  have hmf : ∀ (fn : Fn) (first cap : Array Value) (w : World), (Instr.makeFunc fn first cap).run Try.prog w = .ok (.func fn first cap) w := fun _ _ _ _ => rfl
  clear hv hr
  go_enter Try.func4, Try.ntmps4
  go_wp2_with fail
  refine (awake_any _).mono ?_
  rintro e w1 ⟨rfl, hf1⟩
  have hbd := hf1.blk (blk_new w (.cells #[.int .i64 x] 3)) (fun h => h)
  have hF1 := (Fr.alloc w (.cells #[.int .i64 x] 3) No).nn hf1
  have hbdge : w.heap.size ≤ w.heap.size := Nat.le_refl _
  generalize hB : w.heap.size = bd at *
  clear hf1
  have hc1 : w1.cell? ⟨bd, 0, none⟩ = some (.int .i64 x) := blk_cell hbd 0
  have hz1 : w1.frozen? ⟨bd, 0, none⟩ = false := blk_frozen hbd 0
  go_wp2_with fail
  obtain ⟨d, h1, h8, hd⟩ := umod1 x 8 (by decide) (by decide)
  rw [hd]
  have h8' : d ≤ 8 := by omega
  clear hd h8 hc1 hz1
  have hbd2 := blk_set hbd 0 (.int .i64 d)
  have hF2 : Fr w (w1.setCell ⟨bd, 0, none⟩ (.int .i64 d)) No := hF1.to_new _ _ (Nat.le_of_eq hB)
  generalize w1.setCell ⟨bd, 0, none⟩ (.int .i64 d) = w2 at *
  have HBD := Lib.hid (show w2.heap[bd]? = some (.cells #[.int .i64 d] 3 (0, 0)) from hbd2)
  have HB := Lib.hid hB
  clear hbd hbd2 hF1 hB hbdge
  refine (new_ok d w2 h1 h8').mono ?_
  rintro e w3 ⟨rfl, hL3, hf3⟩
  have hga : w.heap.size ≤ w2.heap.size := hF2.size
  have HBD3 := Lib.hid (hf3.blk HBD.out (fun h => h))
  have HF3 := Lib.hid (hF2.nn hf3)
  have HL3 := Lib.hid hL3
  have hgalt : w2.heap.size < w3.heap.size := hL3.lt
  clear hL3 hf3 hF2 HBD
  generalize w2.heap.size = ga at *
  have hcd3 := blk_cell HBD3.out 0
  simp only [List.getElem?_toArray, List.getElem?_cons_zero] at hcd3
  go_wp2_with fail
  refine (new_ok d w3 h1 h8').mono ?_
  rintro e w4 ⟨rfl, hL4, hf4⟩
  have HNE : Hid (ga ≠ w3.heap.size) := Lib.hid (by omega)
  have hgb : w.heap.size ≤ w3.heap.size := HF3.out.size
  have HBD4 := Lib.hid (hf4.blk HBD3.out (fun h => h))
  have HF4 := Lib.hid (HF3.out.nn hf4)
  have HA4 := Lib.hid (HL3.out.keep hf4 (fun h => h))
  have HB4 := Lib.hid hL4
  clear hL4 hf4 HF3 HL3 HBD3 hcd3 hgalt
  generalize w3.heap.size = gb at *
  go_wp2_with fail
  go_loopw [9] (fun v9 wr => ∃ (k : Nat) (ts : List Int), k ≤ zs.length ∧ k ≤ 30 ∧ v9 = .int .i64 k ∧ Fr w wr No ∧ LaneAt wr ga ts d ∧ LaneAt wr gb [] d ∧ Good ts ∧ wr.heap[bd]? = some (.cells #[.int .i64 d] 3 (0, 0))) (fun i _ => 30 - (intOf i).toNat)
  case atStart => exact ⟨0, [], by omega, by omega, rfl, HF4.out, HA4.out, HB4.out, ⟨List.nodup_nil, by simp⟩, HBD4.out⟩
  case round =>
    clear HF4 HA4 HB4 HBD4
    obtain ⟨k, ts, hk, hk50, rfl, hF, hA, hB', hG, hD⟩ := hrel
    have HF := Lib.hid hF
    have HA := Lib.hid hA
    have HB' := Lib.hid hB'
    have HG := Lib.hid hG
    have HD := Lib.hid hD
    clear hF hA hB' hG hD
    by_cases hlt : k < zs.length ∧ k < 30
    · obtain ⟨hlt, hlt50⟩ := hlt
      obtain ⟨b, off, rfl, hcell⟩ := (HV.out.keep0 HF.out).get k hlt
      generalize zs.getD k 0 = z at *
      go_wp2_with fail
      refine (push_any ga ts d _ _ HA.out).mono ?_
      rintro e w4 ⟨rfl, hL4, hf4⟩
      have HA4 := Lib.hid hL4
      have HB4 := Lib.hid (HB'.out.keep hf4 (fun e => HNE.out e.symm))
      have HF4 := Lib.hid (HF.out.in1 hf4 hga)
      have HD4 := Lib.hid (hf4.blk HD.out (fun e => by obtain ⟨_, _, _, r, _, hb⟩ := HA.out; exact blk_ne HD.out hb (by decide) e))
      clear hL4 hf4
      go_wp2
      go_roundw
      case rel => exact ⟨k + 1, _, by omega, by omega, by go_num, HF4.out, HA4.out, HB4.out, HG.out.push, HD4.out⟩
      case measure => simp [intOf]; omega
    · have hcase : (¬ k < zs.length) ∨ (k < zs.length ∧ ¬ k < 30) := by omega
      have h8 := HA.out.1
      clear hlt
      rcases hcase with hlt | ⟨hlt, hlt2⟩
      all_goals
        go_wp2_with fail
        refine (totes_any ga ts d _ HA.out).mono ?_
        rintro e w5 ⟨v5, rfl, hN5⟩
        obtain ⟨a5, c5, rfl, _⟩ := hN5.1.form
        have HA5 := Lib.hid (HA.out.keep hN5.2.1 (fun h => h))
        have HB5 := Lib.hid (HB'.out.keep hN5.2.1 (fun h => h))
        have HD5 := Lib.hid (hN5.2.1.blk HD.out (fun h => h))
        have HN5 := Lib.hid (hN5.from HF.out)
        clear hN5
        go_wp2_with fail
        have hw6 := blk_new w5 (.cells #[.slice a5 ts.length c5] 22)
        have HA6 := Lib.hid (HA5.out.keep (Fr.alloc w5 (.cells #[.slice a5 ts.length c5] 22) No) (fun h => h))
        have HB6 := Lib.hid (HB5.out.keep (Fr.alloc w5 (.cells #[.slice a5 ts.length c5] 22) No) (fun h => h))
        have HD6 := Lib.hid ((Fr.alloc w5 (.cells #[.slice a5 ts.length c5] 22) No).blk HD5.out (fun h => h))
        have HN6 := Lib.hid (HN5.out.keep (Fr.alloc w5 (.cells #[.slice a5 ts.length c5] 22) No) (fun _ _ h => h) (fun _ h => h.elim))
        generalize w5.alloc (.cells #[.slice a5 ts.length c5] 22) = w6 at *
        have hbw : w.heap.size ≤ w5.heap.size := HN5.out.2.1.size
        generalize w5.heap.size = bw at *
        have HW6 := Lib.hid hw6
        clear HA HB' HD HF HA5 HB5 HD5 HN5 hw6
        refine (pour_any w6 ga gb bw bd ts d a5 c5 HA6.out HB6.out HNE.out HG.out HW6.out HD6.out).mono ?_
        rintro e w7 ⟨rfl, hA7, hB7, hf7⟩
        have hnA : ∀ (g : Nat) (l : List Int), LaneAt w6 g l d → bw ≠ g ∧ bd ≠ g ∧ (Value.slice a5 ts.length c5).ownBlock ≠ some g := fun g l hh =>
          ⟨by obtain ⟨_, _, _, r, _, hb⟩ := hh; exact blk_ne HW6.out hb (by decide), by obtain ⟨_, _, _, r, _, hb⟩ := hh; exact blk_ne HD6.out hb (by decide), hh.ne HN6.out.1⟩
        obtain ⟨na1, na2, na3⟩ := hnA ga _ HA6.out
        obtain ⟨nb1, nb2, nb3⟩ := hnA gb _ HB6.out
        have HNN := Lib.hid (And.intro (And.intro na1 (And.intro na2 na3)) (And.intro nb1 (And.intro nb2 nb3)))
        clear na1 na2 na3 nb1 nb2 nb3 hnA
        have HA7 := Lib.hid hA7
        have HB7 := Lib.hid hB7
        have HW7 := Lib.hid (hf7.blk HW6.out (fun h => by rcases h with h | h; exact HNN.out.1.1 h; exact HNN.out.2.1 h))
        have HD7 := Lib.hid (hf7.blk HD6.out (fun h => by rcases h with h | h; exact HNN.out.1.2.1 h; exact HNN.out.2.2.1 h))
        have HN7 := Lib.hid (HN6.out.keep hf7 (fun k hk h => by rcases h with h | h; exact HNN.out.1.2.2 (by rw [hk, h]); exact HNN.out.2.2.2 (by rw [hk, h])) (fun k h => by rcases h with h | h <;> rw [h] <;> assumption))
        clear hA7 hB7 hf7 HA6 HB6 HW6 HD6 HN6 HNN
        go_wp2_with fail
        refine (totes_any gb _ d _ HB7.out).mono ?_
        rintro e w8 ⟨v8, rfl, hN8⟩
        obtain ⟨a8, c8, hv8, _⟩ := hN8.1.form
        rw [List.length_reverse] at hv8
        subst hv8
        have HA8 := Lib.hid (HA7.out.keep hN8.2.1 (fun h => h))
        have HB8 := Lib.hid (HB7.out.keep hN8.2.1 (fun h => h))
        have HW8 := Lib.hid (hN8.2.1.blk HW7.out (fun h => h))
        have HD8 := Lib.hid (hN8.2.1.blk HD7.out (fun h => h))
        have HN8' := Lib.hid (HN7.out.keep hN8.2.1 (fun _ _ h => h) (fun _ h => h.elim))
        have HT8 := Lib.hid (hN8.from HN7.out.2.1)
        clear hN8 HA7 HB7 HW7 HD7 HN7
        have hcw8 : w8.cell? ⟨bw, 0, none⟩ = some (.slice a5 ts.length c5) := blk_cell HW8.out 0
        go_wp2_with fail
        go_loopw [77] (fun v77 w9 => ∃ j : Nat, j ≤ ts.length ∧ v77 = .int .i64 j ∧ ∃ n, w9 = w8.drewN n) (fun u _ => ts.length - (intOf u).toNat)
        case atStart => exact ⟨0, Nat.zero_le _, rfl, 0, rfl⟩
        case round =>
          obtain ⟨j, hj, rfl, n, rfl⟩ := hrel
          by_cases hjl : j < ts.length
          · obtain ⟨b1, o1, rfl, hx1⟩ := (SlI.rd HN8'.out.1 (by omega)).get j hjl
            obtain ⟨b2, o2, rfl, hx2⟩ := (SlI.rd HT8.out.1 (by simp; omega)).get (ts.length - 1 - j) (by simp; omega)
            have hy2 : ts.reverse.getD (ts.length - 1 - j) 0 = ts.getD j 0 := by
              rw [List.getD_eq_getElem?_getD, List.getElem?_eq_getElem (by simp; omega), Option.getD_some, List.getElem_reverse, List.getD_eq_getElem?_getD, List.getElem?_eq_getElem hjl, Option.getD_some]
              congr 1; omega
            rw [hy2] at hx2
            generalize ts.getD j 0 = z at *
            have hw1 : IntKind.i64.wrap ((ts.length : Int) - 1) = (ts.length : Int) - 1 := IntWalk.i64_in _ (by omega)
            have hw2 : IntKind.i64.wrap ((ts.length : Int) - 1 - j) = (ts.length : Int) - 1 - j := IntWalk.i64_in _ (by omega)
            have hw3 : ((ts.length : Int) - 1 - j).toNat = ts.length - 1 - j := by omega
            have hp1 : (0 : Int) ≤ (ts.length : Int) - 1 - j := by omega
            have hp2 : (ts.length : Int) - 1 - j < (ts.length : Int) := by omega
            have hp3 : (j : Int) < (ts.length : Int) := by omega
            clear hy2
            go_wp2
            go_quiet (fail)
            clear hw1 hw2 hw3
            go_wp2
            go_roundw
            case rel => exact ⟨j + 1, by omega, by go_num, n + nq, rfl⟩
            case measure => simp [intOf]; omega
          · have HP : Hid (∀ m, Calls Try.prog 20 #[.pointer (some ⟨gb, 0, none⟩), .pointer (some ⟨ga, 0, none⟩), .pointer (some ⟨bw, 0, none⟩), .pointer (some ⟨bd, 0, none⟩)] (w8.drewN m) fun e w' =>
                e = .returned (.bool true) ∧ LaneAt w' ga ts d ∧ Fr w w' No ∧ w'.cell? ⟨bw, 0, none⟩ = some (.slice a5 ts.length c5) ∧ NewI w w' (.slice a5 ts.length c5) ts) := Lib.hid fun m => by
              have hb : (w8.drewN m).heap[bw]? = some (.cells #[.slice a5 ts.reverse.length c5] 22 (0, 0)) := by rw [List.length_reverse]; exact HW8.out
              refine (pour_any (w8.drewN m) gb ga bw bd ts.reverse d a5 c5 (HB8.out.drewN m) (HA8.out.drewN m) (fun e => HNE.out e.symm) ⟨List.pairwise_reverse.2 (HG.out.1.imp (fun h e => h e.symm)), fun t ht => HG.out.2 t (List.mem_reverse.1 ht)⟩ hb HD8.out).mono ?_
              rintro e w' ⟨he, _, hA, hf⟩
              rw [List.reverse_reverse] at hA
              have na1 : bw ≠ ga := by obtain ⟨_, _, _, r, _, hb⟩ := HA8.out; exact blk_ne HW8.out hb (by decide)
              have nb1 : bw ≠ gb := by obtain ⟨_, _, _, r, _, hb⟩ := HB8.out; exact blk_ne HW8.out hb (by decide)
              have na3 := HA8.out.ne HN8'.out.1
              have nb3 := HB8.out.ne HN8'.out.1
              have hS : ∀ k, Two gb ga k → w.heap.size ≤ k := fun k h => by rcases h with h | h <;> rw [h] <;> assumption
              refine ⟨he, hA, ((HN8'.out.2.1.to_drewN m).into hf hS), ?_, (HN8'.out.keep (Fr.drewN w8 m No) (fun _ _ h => h) (fun _ h => h.elim)).keep hf (fun k hk h => by rcases h with h | h; exact nb3 (by rw [hk, h]); exact na3 (by rw [hk, h])) hS⟩
              exact blk_cell (hf.blk (show (w8.drewN m).heap[bw]? = _ from HW8.out) (fun h => by rcases h with h | h; exact nb1 h; exact na1 h)) 0
            go_wp2_with fail
            clear hcw8
            go_region_with (first | (go_at_call 20; refine (HP.out _).mono ?_; rintro e w10 ⟨rfl, hA10, hf10, hc10, hN10⟩) | (go_at_call 19; refine (totes_any ga ts d _ hA10).mono ?_; rintro e w11 ⟨v11, rfl, hN11⟩; have hc11 : w11.cell? ⟨bw, 0, none⟩ = some (.slice a5 ts.length c5) := hN11.2.1.cell hc10 (fun h => h)) | (go_at_call 21; refine (ints_true _ _ ts _ (SlI.rd hN11.1 (by omega)) ((SlI.rd hN10.1 (by omega)).keep0 hN11.2.1)).mono ?_; rintro e w12 ⟨rfl, hf12⟩))
            all_goals (go_wp2; go_ret)
            all_goals exact ⟨rfl, (hf10.nn hN11.2.1).nn hf12⟩

/-- As the row wants it. -/
theorem lanePours_row (w : World) (x : Int) (_ : (Lit.int .i64 x).wf = true) (v : Value) (zs : List Int) (hv : RdI w v zs) :
    Calls Try.prog 4 #[.int .i64 x, v] w fun e w' => e = .returned (.bool true) ∧ Fr w w' No := lanePours_walk w x v zs hv

end Go.Proofs.Ytegoilhkooneaaa
