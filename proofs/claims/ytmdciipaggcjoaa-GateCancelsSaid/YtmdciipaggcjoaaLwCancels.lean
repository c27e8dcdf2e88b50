/-
  The law GateCancels, walked.
-/
import Derived.Test.YtmdciipaggcjoaaD2
namespace Go.Proofs.Ytmdciipaggcjoaa
open Go.RowKit Go.Conc
set_option linter.unusedVariables false
set_option linter.unusedSimpArgs false

/-- The left ones among all. -/
structure Lft (all left : List Int) : Prop where
  nd : all.Nodup
  fl : all.filter (fun x => decide (x ∈ left)) = left
theorem Lft.sub {all left : List Int} (h : Lft all left) : ∀ x ∈ left, x ∈ all := fun x hx => by
  rw [← h.fl] at hx
  exact (List.mem_filter.1 hx).1
theorem Lft.both {all left : List Int} (h : Lft all left) (id : Int) (hn : id ∉ all) : Lft (all ++ [id]) (left ++ [id]) := by
  refine ⟨?_, ?_⟩
  · rw [List.nodup_append]
    refine ⟨h.nd, by simp, fun a ha b hb e => ?_⟩
    simp at hb; subst hb; subst e; exact hn ha
  · rw [List.filter_append]
    have e1 : all.filter (fun x => decide (x ∈ left ++ [id])) = all.filter (fun x => decide (x ∈ left)) := List.filter_congr (fun x hx => by
      have : x ≠ id := fun e => hn (e ▸ hx)
      simp [this])
    rw [e1, h.fl]
    simp
theorem Lft.one {all left : List Int} (h : Lft all left) (id : Int) (hn : id ∉ all) : Lft (all ++ [id]) left := by
  refine ⟨?_, ?_⟩
  · rw [List.nodup_append]
    refine ⟨h.nd, by simp, fun a ha b hb e => ?_⟩
    simp at hb; subst hb; subst e; exact hn ha
  · rw [List.filter_append, h.fl]
    have : id ∉ left := fun hl => hn (h.sub id hl)
    simp [this]
theorem Lft.len {all left : List Int} (h : Lft all left) : left.length ≤ all.length := by
  have := List.length_filter_le (fun x => decide (x ∈ left)) all
  rwa [h.fl] at this
/-- Behind j of the cancels. -/
def bhd (all left : List Int) (j : Nat) : List Int := (all.take j).filter (fun x => decide (x ∈ left)) ++ all.drop j
theorem bhd_zero (all left : List Int) : bhd all left 0 = all := by simp [bhd]
theorem Lft.bhd_end {all left : List Int} (h : Lft all left) : bhd all left all.length = left := by simp [bhd, h.fl]
theorem Lft.bhd_in {all left : List Int} (h : Lft all left) (j : Nat) (hj : j < all.length) (hm : all.getD j 0 ∈ left) : bhd all left (j + 1) = bhd all left j := by
  have e : all.getD j 0 = all[j] := by simp [List.getD, List.getElem?_eq_getElem hj]
  rw [e] at hm
  unfold bhd
  rw [List.take_succ_eq_append_getElem hj, List.filter_append, List.drop_eq_getElem_cons hj]
  simp [hm]
theorem Lft.bhd_out {all left : List Int} (h : Lft all left) (j : Nat) (hj : j < all.length) (hm : all.getD j 0 ∉ left) :
    lookE (bhd all left j) [] (all.getD j 0) = 0 ∧ canW (bhd all left j) [] (all.getD j 0) = bhd all left (j + 1) := by
  have e : all.getD j 0 = all[j] := by simp [List.getD, List.getElem?_eq_getElem hj]
  rw [e] at hm ⊢
  obtain ⟨F, hF⟩ : ∃ F, (all.take j).filter (fun x => decide (x ∈ left)) = F := ⟨_, rfl⟩
  have hno : all[j] ∉ F := fun hx => by
    rw [← hF] at hx
    have := (List.mem_filter.1 hx).2
    simp at this
    exact hm this
  have e1 : bhd all left j = F ++ all[j] :: all.drop (j + 1) := by unfold bhd; rw [hF, List.drop_eq_getElem_cons hj]
  have e2 : bhd all left (j + 1) = F ++ all.drop (j + 1) := by
    unfold bhd
    rw [List.take_succ_eq_append_getElem hj, List.filter_append, hF]
    simp [hm]
  have hidx : ∀ (F R : List Int) (x : Int), x ∉ F → idx x (F ++ x :: R) = F.length := by
    intro F R x hF
    induction F with
    | nil => simp [idx]
    | cons y F ih =>
      have hy : x ≠ y := fun e => hF (by simp [e])
      have := ih (fun hx => hF (by simp [hx]))
      simp only [List.cons_append, idx, if_neg hy, this, List.length_cons]
      rw [if_neg (by omega)]
      omega
  have hi := hidx F (all.drop (j + 1)) all[j] hno
  have hl : lookE (bhd all left j) [] all[j] = 0 := by
    unfold lookE
    rw [if_neg (by simp [has_mem]), e1, hi, if_neg (by omega)]
  refine ⟨hl, ?_⟩
  unfold canW
  rw [if_pos hl, e1, hi, e2]
  simp [List.eraseIdx_append_of_length_le]
theorem acc_new {W : List Int} {id : Int} (hE : accE W [] id = 0) : id ∉ W := fun hm => by
  unfold accE at hE
  rw [if_pos (.inl (by rw [has_mem]; simpa using hm))] at hE
  cases hE
theorem acc_ok {W : List Int} {id : Int} (hn : id ∉ W) (hl : W.length < 64) : accE W [] id = 0 ∧ accW W [] id = W ++ [id] := by
  have e : accE W [] id = 0 := by
    unfold accE
    rw [if_neg (by simp [has_mem, hn]), if_neg (by simp; omega)]
  exact ⟨e, by unfold accW; rw [if_pos e]⟩

set_option maxRecDepth 100000 in
set_option maxHeartbeats 16000000 in
theorem gateCancels_all (w : World) (x : Int) (hx : (Lit.int .i64 x).wf = true) (v : Value) (zs : List Int) (hv : RdI w v zs) (u : Value) (bs : List Bool) (hu : Rd w u bs.length (bs.map Value.bool) 1) (hb : bs.length ≤ 9223372036854775807) :
    Calls Try.prog 7 #[.int .i64 x, v, u] w fun e w' => e = .returned (.bool true) ∧ Fr w w' No := by
  obtain ⟨cap, h1, h16, hd⟩ := umod1 x 16 (by decide) (by decide)
  have h16' : cap ≤ 16 := by omega
  obtain ⟨a, c, rfl, _⟩ := hv.open_
  obtain ⟨_, au, cu, rfl, _, hbc⟩ := hu
  have HBC := Lib.hid hbc
  have HV := Lib.hid hv
  clear hx hv hbc
  go_enter Try.func7, Try.ntmps7
  go_wp2_with fail
  refine (awake_any _).mono ?_
  rintro e w1 ⟨rfl, hf1⟩
  have HF := Lib.hid hf1
  clear hf1
  go_wp2_with fail
  rw [hd]
  refine (new_g w cap _ HF.out h1 h16').mono ?_
  rintro e w2 ⟨rfl, hG⟩
  generalize w1.heap.size + 1 = pa at *
  have HG := Lib.hid hG
  clear hG HF
  go_wp2_with fail
  refine (new_ok cap w2 h1 h16').mono ?_
  rintro e w3 ⟨rfl, hN⟩
  have hic : Ic w w3 pa (w2.heap.size + 1) cap [] [] [] [] (.slice none 0 0) [] (.slice none 0 0) [] := D2.of_two HG.out hN
  generalize w2.heap.size + 1 = pb at *
  have HI := Lib.hid hic
  clear hic hN HG hd
  go_wp2_with fail
  go_loopg [11, 12, 13] 60 (fun g v11 v12 v13 wr => ∃ (k : Nat) (all left : List Int), k + g = 60 ∧ k ≤ zs.length ∧ v13 = .int .i64 k ∧ Ic w wr pa pb cap all [] left [] v11 all v12 left ∧ Lft all left ∧ all.length ≤ k)
  case atStart => exact ⟨0, [], [], by omega, by omega, rfl, HI.out, ⟨List.nodup_nil, rfl⟩, by simp⟩
  case round =>
    clear HI
    obtain ⟨k, all, left, hk, hkz, rfl, hI, hL, hal⟩ := hrel
    have HI := Lib.hid hI
    have HK := Lib.hid hk
    have HL := Lib.hid hL
    have HAL := Lib.hid hal
    clear hI hk hL hal
    by_cases hlt : k < zs.length ∧ k < 60
    · obtain ⟨hlt, hlt1⟩ := hlt
      have HLT := Lib.hid (And.intro hlt hlt1)
      obtain ⟨b, off, rfl, hcell⟩ := HV.out.get k hlt
      obtain ⟨z, hz⟩ : ∃ z, zs.getD k 0 = z := ⟨_, rfl⟩
      rw [hz] at hcell
      have HC : Hid (∀ w', Fr w w' No → w'.cell? ⟨b, off + k, none⟩ = some (.int .i64 z)) := Lib.hid (fun w' hf => hf.cell hcell id)
      clear hz hcell
      have kc := HC.out _ HI.out.fr
      by_cases hE : accE all [] z = 0
      · have hW : accW all [] z = all ++ [z] := by unfold accW; rw [if_pos hE]
        have hnz := acc_new hE
        have HE := Lib.hid hE
        have HW := Lib.hid hW
        have HNZ := Lib.hid hnz
        clear hE hW hnz
        go_wp2_with fail
        refine (accept_A z 0 _ HI.out HE.out HW.out).mono ?_
        rintro e w4 ⟨rfl, hI⟩
        have HI4 := Lib.hid hI
        have ha := hI.n1.1
        obtain ⟨a9, c9, hv9⟩ := slv_form ha
        subst hv9
        have HA := Lib.hid ha
        clear hI ha HI kc
        have kc := HC.out _ HI4.out.fr
        go_wp2_with (at_builtin; refine wpList_appI rfl (.tmp 66) (.tmp 71) rfl _ all rfl ?d1 w4.heap.size z rfl ?d2 ?d3 ?_)
        case d1 => exact Sl.keep0 HA.out (Fr.alloc _ _ _)
        case d2 => exact blk_new w4 _
        case d3 => have := HAL.out; have := HLT.out; omega
        intro v' w5 q1 q2 q3
        have HI5 := Lib.hid (HI4.out.ap1 (Ap.of (Fr.alloc w4 (.cells #[.int .i64 z] 3) No) q1 q2 (by simpa using q3)))
        clear q1 q2 q3 HA HI4 kc
        by_cases hg : k < bs.length ∧ bs.getD k false = true
        · obtain ⟨hg1, hg2⟩ := hg
          obtain ⟨bu, ou, hau, hcu⟩ := HBC.out (by omega)
          subst hau
          have kb := HI5.out.fr.cell (hcu k (.bool true) (by rw [← hg2]; simp [List.getElem?_eq_getElem hg1, List.getD])) id
          have hg1' : (k : Int) < (bs.length : Int) := by omega
          clear hcu hg2
          go_wp2_with fail
          go_roundg (gk - 1)
          case measure => have := HK.out; have := HLT.out; omega
          case rel => exact ⟨k + 1, _, _, by have := HK.out; have := HLT.out; omega, by have := HLT.out; omega, by go_num, HI5.out, HL.out.one z HNZ.out, by have := HAL.out; simp; omega⟩
        · have hcase : (¬ (k : Int) < (bs.length : Int)) ∨ ((k : Int) < (bs.length : Int) ∧ bs.getD k false = false) := by
            by_cases h : k < bs.length
            · exact .inr ⟨by omega, by simpa using fun h2 => hg ⟨h, h2⟩⟩
            · exact .inl (by omega)
          clear hg
          have hnl : z ∉ left := fun h => HNZ.out (HL.out.sub z h)
          have hll := HL.out.len
          have hok := acc_ok (W := left) (id := z) hnl (by have := HAL.out; have := HLT.out; omega)
          have HOK := Lib.hid hok
          have HLL := Lib.hid hll
          have ha := HI5.out.n2.1
          obtain ⟨a10, c10, hv10⟩ := slv_form ha
          subst hv10
          have HA := Lib.hid ha
          have kc := HC.out _ HI5.out.fr
          clear hnl hll hok ha
          have hgo : (¬ (k : Int) < (bs.length : Int)) ∨ ((k : Int) < (bs.length : Int) ∧ ∃ bu ou, au = some ⟨bu, ou, none⟩ ∧ w5.cell? ⟨bu, ou + k, none⟩ = some (.bool false)) := by
            rcases hcase with h | ⟨h, h2⟩
            · exact .inl h
            · refine .inr ⟨h, ?_⟩
              have hk2 : k < bs.length := by omega
              obtain ⟨bu, ou, hau, hcu⟩ := HBC.out (by omega)
              exact ⟨bu, ou, hau, HI5.out.fr.cell (hcu k (.bool false) (by rw [← h2]; simp [List.getElem?_eq_getElem hk2, List.getD])) id⟩
          clear hcase
          rcases hgo with hg1 | ⟨hg1, bu, ou, hau, kb⟩
          case' inr => subst hau
          all_goals
            go_wp2_with (at_builtin; refine wpList_appI rfl (.tmp 83) (.tmp 88) rfl _ left rfl ?d1 w5.heap.size z rfl ?d2 ?d3 ?_)
            case d1 => exact Sl.keep0 HA.out (Fr.alloc _ _ _)
            case d2 => first | exact blk_new w5 _ | (have := blk_new w5 (.cells #[.int .i64 z] 3); simpa using this)
            case d3 => have := HAL.out; have := HLT.out; have := HLL.out; omega
            intro v'' w6 q1 q2 q3
            have HI6 := Lib.hid (HI5.out.ap2 (Ap.of (Fr.alloc w5 (.cells #[.int .i64 z] 3) No) q1 q2 (by simpa using q3)))
            clear q1 q2 q3
            have kc6 := HC.out _ HI6.out.fr
            go_wp2_with fail
            refine (accept_B z 0 _ HI6.out HOK.out.1 HOK.out.2).mono ?_
            rintro e w7 ⟨rfl, hI⟩
            have HI7 := Lib.hid hI
            clear hI kc6
            go_wp2_with fail
            go_roundg (gk - 1)
            case measure => have := HK.out; have := HLT.out; omega
            case rel => exact ⟨k + 1, _, _, by have := HK.out; have := HLT.out; omega, by have := HLT.out; omega, by go_num, HI7.out, HL.out.both z HNZ.out, by have := HAL.out; simp; omega⟩
      · have hb : (accE all [] z == 0) = false := by simpa using hE
        have HW := Lib.hid (show accW all [] z = all by unfold accW; rw [if_neg hE])
        clear hE
        go_wp2_with fail
        refine (accept_A z _ _ HI.out rfl HW.out).mono ?_
        rintro e w4 ⟨rfl, hI⟩
        have HI4 := Lib.hid hI
        clear hI HI kc
        go_wp2_with fail
        go_roundg (gk - 1)
        case measure => have := HK.out; have := HLT.out; omega
        case rel => exact ⟨k + 1, _, _, by have := HK.out; have := HLT.out; omega, by have := HLT.out; omega, by go_num, HI4.out, HL.out, by have := HAL.out; omega⟩
    · have hcase : (¬ (k : Int) < (zs.length : Int)) ∨ ((k : Int) < (zs.length : Int) ∧ ¬ (k : Int) < 60) := by omega
      obtain ⟨a11, c11, hv11⟩ := slv_form HI.out.n1.1
      subst hv11
      obtain ⟨a12, c12, hv12⟩ := slv_form HI.out.n2.1
      subst hv12
      have hl64 := HI.out.leA.1
      have hll := HL.out.len
      simp only [List.length_nil, Nat.add_zero] at hl64
      have hi0 : Ic w wr pa pb cap (bhd all left 0) [] left [] (.slice a11 all.length c11) all (.slice a12 left.length c12) left := by rw [bhd_zero]; exact HI.out
      have HI0 := Lib.hid hi0
      clear hlt hkz HK HI hi0
      rcases hcase with hlt | ⟨hlt, hlt2⟩
      all_goals
        go_wp2_with fail
        go_loopg [99] all.length (fun g v99 wr => ∃ j : Nat, j + g = all.length ∧ v99 = .int .i64 j ∧ Ic w wr pa pb cap (bhd all left j) [] left [] (.slice a11 all.length c11) all (.slice a12 left.length c12) left)
        case atStart => exact ⟨0, by omega, rfl, HI0.out⟩
        case round =>
          clear HI0
          obtain ⟨j, hj, rfl, hI⟩ := hrel
          have HI := Lib.hid hI
          have HJ := Lib.hid hj
          clear hI hj
          by_cases hja : j < all.length
          · obtain ⟨b1, o1, hb1, kc⟩ := (SlI.rd HI.out.n1.1 (by omega)).get j hja
            subst hb1
            obtain ⟨z, hz⟩ : ∃ z, all.getD j 0 = z := ⟨_, rfl⟩
            rw [hz] at kc
            have hja' : (j : Int) < (all.length : Int) := by omega
            have HJA := Lib.hid hja
            have HZ := Lib.hid hz
            clear hz hja
            by_cases hm : z ∈ left
            · have hh : has z left = true := by rw [has_mem]; simpa using hm
              have hbn := HL.out.bhd_in j HJA.out (by rw [HZ.out]; exact hm)
              have HBN := Lib.hid hbn
              have HH := Lib.hid hh
              clear hm hh hbn
              go_wp2_with fail
              refine (has_any _ left z _ (SlI.rd HI.out.n2.1 (by omega))).mono ?_
              rw [HH.out]
              rintro e w4 ⟨rfl, rfl⟩
              go_wp2_with fail
              go_roundg (gk - 1)
              case measure => have := HJ.out; have := HJA.out; omega
              case rel => exact ⟨j + 1, by have := HJ.out; have := HJA.out; omega, by go_num, by rw [HBN.out]; exact HI.out⟩
            · have hh : has z left = false := by rw [has_mem]; simpa using hm
              have hbn := HL.out.bhd_out j HJA.out (by rw [HZ.out]; exact hm)
              rw [HZ.out] at hbn
              have HBN := Lib.hid hbn
              have HH := Lib.hid hh
              clear hm hh hbn
              go_wp2_with fail
              refine (has_any _ left z _ (SlI.rd HI.out.n2.1 (by omega))).mono ?_
              rw [HH.out]
              rintro e w4 ⟨rfl, rfl⟩
              go_wp2_with fail
              refine (cancel_A z 0 _ HI.out HBN.out.1 HBN.out.2).mono ?_
              rintro e w5 ⟨rfl, hI⟩
              have HI5 := Lib.hid hI
              clear hI HI kc
              go_wp2_with fail
              go_roundg (gk - 1)
              case measure => have := HJ.out; have := HJA.out; omega
              case rel => exact ⟨j + 1, by have := HJ.out; have := HJA.out; omega, by go_num, HI5.out⟩
          · have hje : j = all.length := by have := HJ.out; omega
            have hI2 := HI.out
            rw [hje, HL.out.bhd_end] at hI2
            have HI2 := Lib.hid hI2
            have hja' : ¬ (j : Int) < (all.length : Int) := by omega
            clear hI2 HI hje hja HJ
            go_wp2_with fail
            refine (waiting_A HI2.out).mono ?_
            rintro e w4 ⟨v4, rfl, hN4⟩
            have HI4 := Lib.hid (HI2.out.same hN4.2.1)
            have HN4 := Lib.hid hN4.1
            clear hN4 HI2
            go_wp2_with fail
            refine (ints_true _ _ left _ (SlI.rd HN4.out (by omega)) (SlI.rd HI4.out.n2.1 (by omega))).mono ?_
            rintro e w5 ⟨rfl, hf5⟩
            have HI5 := Lib.hid (HI4.out.same hf5)
            clear hf5 HI4 HN4
            go_wp2_with fail
            go_loopg [121] left.length (fun g v121 wr => ∃ (i : Nat) (W I : List Int), i + g = left.length ∧ v121 = .int .i64 i ∧ Ic w wr pa pb cap W I W I (.slice a11 all.length c11) all (.slice a12 left.length c12) left)
            case atStart => exact ⟨0, _, _, by omega, rfl, HI5.out⟩
            case round =>
              clear HI5
              obtain ⟨i, W, I, hi, rfl, hI⟩ := hrel
              have HI := Lib.hid hI
              have HIg := Lib.hid hi
              clear hI hi
              by_cases hil : i < left.length
              · obtain ⟨b2, o2, hb2, kc⟩ := (SlI.rd HI.out.n2.1 (by omega)).get i hil
                subst hb2
                obtain ⟨z, hz⟩ : ∃ z, left.getD i 0 = z := ⟨_, rfl⟩
                rw [hz] at kc
                have hil' : (i : Int) < (left.length : Int) := by omega
                have HIL := Lib.hid hil
                clear hz hil
                go_wp2_with fail
                refine (arrive_A z HI.out).mono ?_
                rintro e w6 ⟨rfl, hI⟩
                have HI6 := Lib.hid hI
                clear hI HI kc
                go_wp2_with fail
                refine (arrive_B z HI6.out).mono ?_
                rintro e w7 ⟨rfl, hI⟩
                have HI7 := Lib.hid hI
                clear hI HI6
                have hee : (arrE cap W I z == arrE cap W I z) = true := by simp
                generalize arrE cap W I z = E at *
                generalize arrW cap W I z = W2 at *
                generalize arrI cap W I z = I2 at *
                go_wp2_with fail
                refine (credits_A HI7.out).mono ?_
                rintro e w8 ⟨rfl, hI⟩
                have HI8 := Lib.hid hI
                clear hI HI7
                go_wp2_with fail
                refine (credits_B HI8.out).mono ?_
                rintro e w9 ⟨rfl, hI⟩
                have HI9 := Lib.hid hI
                clear hI HI8
                go_wp2_with fail
                go_roundg (gk - 1)
                case measure => have := HIg.out; have := HIL.out; omega
                case rel => exact ⟨i + 1, W2, I2, by have := HIg.out; have := HIL.out; omega, by go_num, HI9.out⟩
              · have hil' : ¬ (i : Int) < (left.length : Int) := by omega
                have hb64 := HI.out.leA.1
                clear hil HIg
                go_wp2_with fail
                refine (inside_A HI.out).mono ?_
                rintro e w6 ⟨v6, rfl, hN6⟩
                have HI6 := Lib.hid (HI.out.same hN6.2.1)
                have HN6 := Lib.hid hN6.1
                clear hN6 HI
                go_wp2_with fail
                refine (inside_B HI6.out).mono ?_
                rintro e w7 ⟨v7, rfl, hN7⟩
                have HI7 := Lib.hid (HI6.out.same hN7.2.1)
                have HN7 := Lib.hid hN7.1
                have HN6' := Lib.hid (Sl.keep0 HN6.out hN7.2.1)
                clear hN7 HI6 HN6
                go_wp2_with fail
                refine (ints_true _ _ I _ (SlI.rd HN6'.out (by omega)) (SlI.rd HN7.out (by omega))).mono ?_
                rintro e w8 ⟨rfl, hf8⟩
                have HI8 := Lib.hid (HI7.out.same hf8)
                clear hf8 HI7 HN7 HN6'
                go_wp2_with fail
                refine (waiting_A HI8.out).mono ?_
                rintro e w9 ⟨v9, rfl, hN9⟩
                have HI9 := Lib.hid (HI8.out.same hN9.2.1)
                have HN9 := Lib.hid hN9.1
                clear hN9 HI8
                go_wp2_with fail
                refine (waiting_B HI9.out).mono ?_
                rintro e w10 ⟨v10, rfl, hN10⟩
                have HI10 := Lib.hid (HI9.out.same hN10.2.1)
                have HN10 := Lib.hid hN10.1
                have HN9' := Lib.hid (Sl.keep0 HN9.out hN10.2.1)
                clear hN10 HI9 HN9
                go_wp2_with fail
                refine (ints_true _ _ W _ (SlI.rd HN9'.out (by omega)) (SlI.rd HN10.out (by omega))).mono ?_
                rintro e w11 ⟨rfl, hf11⟩
                have HI11 := Lib.hid (HI10.out.same hf11)
                clear hf11 HI10 HN10 HN9'
                go_wp2_with fail
                go_ret
                exact ⟨rfl, HI11.out.fr⟩
end Go.Proofs.Ytmdciipaggcjoaa
