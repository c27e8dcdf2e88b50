import Derived.Test.YtegoilhkooneaaaLn2
namespace Go.Proofs.Ytegoilhkooneaaa
open Go.RowKit
set_option linter.unusedVariables false
set_option linter.unusedSimpArgs false

set_option maxRecDepth 100000 in
set_option maxHeartbeats 1000000 in
theorem laneLast_walk (x : Int) (v : Value) (zs : List Int) (w : World) (hv : RdI w v zs) :
    Calls Try.prog 3 #[.int .i64 x, v] w fun e w' => e = .returned (.bool true) ∧ Fr w w' No := by
  have hl := hv.2
  obtain ⟨a, c, rfl, _, hr⟩ := hv.open_
  have HV := Lib.hid hv
  clear hv hr
  go_enter Try.func3, Try.ntmps3
  go_wp2_with fail
  refine (awake_any w).mono ?_
  rintro e w1 ⟨rfl, hf1⟩
  go_wp2_with fail
  obtain ⟨d, h1, h8, hd⟩ := umod1 x 8 (by decide) (by decide)
  rw [hd]
  have h8' : d ≤ 8 := by omega
  clear hd h8
  refine (new_ok d w1 h1 h8').mono ?_
  rintro e w2 ⟨rfl, hL, hf2⟩
  have hg : w.heap.size ≤ w1.heap.size := hf1.size
  generalize w1.heap.size = g at *
  have hf := hf1.nn hf2
  have HL := Lib.hid hL
  have HF := Lib.hid hf
  clear hf1 hf2 hL hf
  go_wp2_with fail
  go_loopw [7, 8] (fun v7 v8 wr => ∃ (k : Nat) (ts : List Int), k ≤ zs.length ∧ k ≤ 50 ∧ v8 = .int .i64 k ∧ NewI w wr v7 ts ∧ LaneAt wr g ts d) (fun _ i _ => 50 - (intOf i).toNat)
  case atStart => exact ⟨0, [], by omega, by omega, rfl, ⟨Sl.nil _ _ _, HF.out, by simp [Value.ownBlock]⟩, HL.out⟩
  case round =>
    clear HL HF
    obtain ⟨k, ts, hk, hk50, rfl, hN, hL⟩ := hrel
    have HN := Lib.hid hN
    have HL := Lib.hid hL
    clear hN hL
    by_cases hlt : k < zs.length ∧ k < 50
    · obtain ⟨hlt, hlt50⟩ := hlt
      obtain ⟨b, off, rfl, hcell⟩ := (HV.out.keep0 HN.out.2.1).get k hlt
      generalize zs.getD k 0 = z at *
      obtain ⟨t, ht1, ht2, ht⟩ := umod1 z 30 (by decide) (by decide)
      have ha := HN.out.1.form
      obtain ⟨ai, ci, rfl, _⟩ := ha
      have h8 := HL.out.1
      have hcells : ∀ j, j < ts.length → ∃ b' off', ai = some ⟨b', off', none⟩ ∧ wr.cell? ⟨b', off' + j, none⟩ = some (.int .i64 (ts.getD j 0)) := fun j hj => (SlI.rd HN.out.1 (by omega)).get j hj
      have HC := Lib.hid hcells
      clear hcells
      go_wp2
      rw [ht]
      clear ht
      go_loop [10, 55] (fun v10 v55 => ∃ (j : Nat), j ≤ ts.length ∧ v55 = .int .i64 j ∧ v10 = .bool (has t (ts.take j))) (fun _ i => ts.length - (intOf i).toNat)
      case atStart => exact ⟨0, Nat.zero_le _, rfl, rfl⟩
      case round =>
        obtain ⟨j, hj, rfl, rfl⟩ := hrel
        by_cases hjt : j < ts.length
        · obtain ⟨b', off', rfl, hcj⟩ := HC.out j hjt
          have hs : has t (ts.take (j + 1)) = (has t (ts.take j) || (ts.getD j 0 == (t : Int))) := by
            rw [List.take_succ_eq_append_getElem hjt, has_snoc]
            have : ts.getD j 0 = ts[j] := by simp [List.getD, hjt]
            rw [this]
          have HS := Lib.hid hs
          clear hs
          generalize ts.getD j 0 = y at *
          generalize has t (ts.take j) = hb at *
          cases hb
          · go_wp2
            go_round
            case rel => exact ⟨j + 1, by omega, by go_num, by rw [HS.out]; simp⟩
            case measure => simp [intOf]; omega
          · go_wp2
            go_round
            case rel => exact ⟨j + 1, by omega, by go_num, by rw [HS.out]; simp⟩
            case measure => simp [intOf]; omega
        · obtain rfl : j = ts.length := by omega
          rw [List.take_length]
          have h1t : 1 ≤ (t : Int) := by omega
          have HPE : has t ts = true → pushE d ts t = 2 := fun e => by unfold pushE; rw [if_neg (by omega), if_pos (by simpa [has] using e)]
          have HP5 : has t ts = false → ts.length = d → pushE d ts t = 5 := fun e e2 => by unfold pushE; rw [if_neg (by omega), if_neg (by simpa [has] using e), if_pos e2]
          have HP0 : has t ts = false → ts.length ≠ d → pushE d ts t = 0 := fun e e2 => by unfold pushE; rw [if_neg (by omega), if_neg (by simpa [has] using e), if_neg e2]
          generalize hhb : has t ts = hb at *
          cases hb
          · clear HPE
            have HP5 := HP5 rfl
            have HP0 := HP0 rfl
            by_cases hfull : ts.length = d
            · have HE := Lib.hid (HP5 hfull)
              have HT : Hid (pushT d ts t = ts) := Lib.hid (by unfold pushT; rw [HE.out]; rfl)
              have hn : ¬ (ts.length : Int) < (d : Int) := by omega
              clear HP5 HP0 hfull hhb
              go_wp2_with (go_at_call 16; refine (push_is g ts d t 5 ts _ HL.out HE.out HT.out).mono ?_; rintro e w' ⟨rfl, hL', hf'⟩)
              go_roundw
              case rel => exact ⟨k + 1, ts, by omega, by omega, by go_num, HL.out.new HN.out hf' hg, hL'⟩
              case measure => simp [intOf]; omega
            · have HE := Lib.hid (HP0 hfull)
              have HT : Hid (pushT d ts t = ts ++ [(t : Int)]) := Lib.hid (by unfold pushT; rw [HE.out]; rfl)
              have hn : (ts.length : Int) < (d : Int) := by omega
              clear HP5 HP0 hfull hhb
              go_wp2_with (first | (go_at_call 16; refine (push_is g ts d t 0 _ _ HL.out HE.out HT.out).mono ?_; rintro e w' ⟨rfl, hL', hf'⟩) | (at_builtin; refine wpList_appI rfl _ _ rfl _ ts rfl ?c1 _ t rfl ?c2 ?c3 ?_))
              case c1 => exact Sl.keep0 (HL.out.new HN.out hf' hg).1 (Fr.alloc _ _ _)
              case c2 => exact blk_new _ _
              case c3 => omega
              intro v' w4 h1 h2 h3
              go_wp2
              go_roundw
              case rel => exact ⟨k + 1, ts ++ [(t : Int)], by omega, by omega, by go_num, (HL.out.new HN.out hf' hg).app (Fr.alloc _ _ _) h1 h2 (by simpa using h3), (hL'.keep (Fr.alloc _ _ No) (fun h => h)).keep h2 (fun e => hL'.ne (HL.out.new HN.out hf' hg).1 e)⟩
              case measure => simp [intOf]; omega
          · have HE := Lib.hid (HPE rfl)
            have HT : Hid (pushT d ts t = ts) := Lib.hid (by unfold pushT; rw [HE.out]; rfl)
            clear HPE HP5 HP0 hhb
            go_wp2_with (go_at_call 16; refine (push_is g ts d t 2 ts _ HL.out HE.out HT.out).mono ?_; rintro e w' ⟨rfl, hL', hf'⟩)
            go_roundw
            case rel => exact ⟨k + 1, ts, by omega, by omega, by go_num, HL.out.new HN.out hf' hg, hL'⟩
            case measure => simp [intOf]; omega
    · obtain ⟨ai, ci, rfl, hai⟩ := HN.out.1.form
      have h8 := HL.out.1
      have HC : Hid (∀ j, j < ts.length → ∃ b' off', ai = some ⟨b', off', none⟩ ∧ wr.cell? ⟨b', off' + j, none⟩ = some (.int .i64 (ts.getD j 0))) := Lib.hid fun j hj => (SlI.rd HN.out.1 (by omega)).get j hj
      clear hai
      have hcase : (¬ k < zs.length) ∨ (k < zs.length ∧ ¬ k < 50) := by omega
      clear hlt
      rcases hcase with hlt | ⟨hlt, hlt50⟩
      all_goals
        go_wp2
        go_loopw [14] (fun v14 w3 => ∃ (j : Nat), j ≤ ts.length ∧ v14 = .int .i64 ((j : Int) - 1) ∧ NewI w w3 (.slice ai ts.length ci) ts ∧ LaneAt w3 g (ts.take j) d) (fun i _ => (intOf i + 1).toNat)
        case atStart => exact ⟨ts.length, Nat.le_refl _, rfl, HN.out, by rw [List.take_length]; exact HL.out⟩
        case round =>
          obtain ⟨j, hj, rfl, hN3, hL3⟩ := hrel
          have HN3 := Lib.hid hN3
          have HL3 := Lib.hid hL3
          clear hN3 hL3
          cases j with
          | zero =>
            have hneg : ¬ (0 : Int) ≤ ((0 : Nat) : Int) - 1 := by decide
            have HL0 : Hid (LaneAt wr g [] d) := Lib.hid (by simpa using HL3.out)
            go_wp2_with fail
            refine (pop_none g d _ HL0.out).mono ?_
            rintro e w' ⟨rfl, rfl⟩
            go_wp2_with fail
            refine (room_is g [] d d _ HL0.out (by simp)).mono ?_
            rintro e w' ⟨rfl, n, rfl⟩
            go_wp2
            go_ret
            exact ⟨by simp, HN3.out.2.1.to_drewN n⟩
          | succ j =>
            have hpos : (0 : Int) ≤ ((j + 1 : Nat) : Int) - 1 := by omega
            have ej : ((j + 1 : Nat) : Int) - 1 = j := by omega
            rw [ej]
            clear ej hpos
            have HT : Hid (ts.take (j + 1) = ts.take j ++ [ts.getD j 0]) := Lib.hid (by
              rw [List.take_succ_eq_append_getElem (by omega)]; simp [List.getD, show j < ts.length by omega])
            go_wp2_with fail
            refine (pop_is g _ _ _ d _ HL3.out HT.out).mono ?_
            rintro e w' ⟨rfl, hL4, hf4⟩
            have hN4 := HL3.out.new HN3.out hf4 hg
            obtain ⟨b', off', rfl, hcj⟩ := (SlI.rd hN4.1 (by omega)).get j (by omega)
            have HN4 := Lib.hid hN4
            have HL4 := Lib.hid hL4
            have hjl : j < ts.length := by omega
            clear hN4 hL4 hf4
            go_wp2
            go_roundw
            case rel => exact ⟨j, by omega, rfl, HN4.out, HL4.out⟩
            case measure => simp [intOf]

/-- As the row wants it. -/
theorem laneLast_row (w : World) (x : Int) (_ : (Lit.int .i64 x).wf = true) (v : Value) (zs : List Int) (hv : RdI w v zs) :
    Calls Try.prog 3 #[.int .i64 x, v] w fun e w' => e = .returned (.bool true) ∧ Fr w w' No := laneLast_walk x v zs w hv

end Go.Proofs.Ytegoilhkooneaaa
