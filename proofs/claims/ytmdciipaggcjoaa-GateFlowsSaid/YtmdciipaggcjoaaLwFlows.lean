/-
  The law GateFlows, walked.
-/
import Derived.Test.YtmdciipaggcjoaaT3
namespace Go.Proofs.Ytmdciipaggcjoaa
open Go.RowKit Go.Conc
set_option linter.unusedVariables false
set_option linter.unusedSimpArgs false

theorem arr_keep (cap : Nat) (W I : List Int) (id : Int) : arrI cap W I id ++ arrW cap W I id = I ++ W := by
  unfold arrI arrW
  by_cases h : arrE cap W I id = 0
  · rw [if_pos h, if_pos h]
    unfold arrE at h
    split at h
    · contradiction
    · rename_i c1
      split at h
      · cases h
      · rename_i c2
        have c1' : lookE W I id = 0 := by simpa using c1
        unfold lookE at c1'
        split at c1'
        · cases c1'
        · split at c1'
          · cases c1'
          · obtain ⟨R, rfl⟩ := idx0 id W (by omega)
            simp
  · rw [if_neg h, if_neg h]
theorem arr_ne (cap : Nat) (W I : List Int) (id : Int) (h : I ≠ []) : arrI cap W I id ≠ [] := by
  unfold arrI
  split
  · simp
  · exact h
/-- The first one that waits goes in. -/
theorem arr_head (cap : Nat) (hc : 1 ≤ cap) (x : Int) (R : List Int) : arrI cap (x :: R) [] x ≠ [] := by
  have e : arrE cap (x :: R) [] x = 0 := by
    unfold arrE lookE
    simp [has_mem, idx]
    omega
  unfold arrI
  rw [if_pos e]
  simp
/-- Each has been asked: so somebody is inside. -/
theorem all_tried (ws : List Int) (m : Nat) (h : ws ≠ []) : ∃ j, j < ws.length ∧ ws.getD ((j + m) % ws.length) 0 = ws.headD 0 := by
  have hl : 0 < ws.length := List.length_pos_iff.2 h
  have hm := Nat.mod_lt m hl
  have hz : ws.getD 0 0 = ws.headD 0 := by cases ws <;> simp
  have hdm := Nat.div_add_mod m ws.length
  by_cases hq : m % ws.length = 0
  · exact ⟨0, hl, by rw [Nat.zero_add, hq, hz]⟩
  · refine ⟨ws.length - m % ws.length, by omega, ?_⟩
    have e : ws.length - m % ws.length + m = ws.length * (m / ws.length + 1) := by rw [Nat.mul_add, Nat.mul_one]; omega
    rw [e, Nat.mul_mod_right, hz]
theorem arr_miss (cap : Nat) (ws : List Int) (id : Int) (h : id ≠ ws.headD 0) : arrW cap ws [] id = ws ∧ arrI cap ws [] id = [] := by
  have e : arrE cap ws [] id ≠ 0 := by
    intro e
    unfold arrE at e
    split at e
    · contradiction
    · rename_i c1
      split at e
      · cases e
      · have c1' : lookE ws [] id = 0 := by simpa using c1
        unfold lookE at c1'
        split at c1'
        · cases c1'
        · split at c1'
          · cases c1'
          · obtain ⟨R, rfl⟩ := idx0 id ws (by omega)
            simp at h
  exact ⟨by unfold arrW; rw [if_neg e], by unfold arrI; rw [if_neg e]⟩
/-- Behind k tries. -/
def Tried (m : Nat) (ws : List Int) (k : Nat) (W I : List Int) : Prop := I ≠ [] ∨ (I = [] ∧ W = ws ∧ ∀ j, j < k → ws.getD ((j + m) % ws.length) 0 ≠ ws.headD 0)
theorem Tried.start (m : Nat) (ws I : List Int) : Tried m ws 0 ws I := by
  by_cases h : I = []
  · exact .inr ⟨h, rfl, by omega⟩
  · exact .inl h
theorem Tried.step {m : Nat} {ws : List Int} {k : Nat} {W I : List Int} (h : Tried m ws k W I) (cap : Nat) (hc : 1 ≤ cap) (hk : k < ws.length) (z : Int) (hz : z = ws.getD ((k + m) % ws.length) 0) :
    Tried m ws (k + 1) (arrW cap W I z) (arrI cap W I z) := by
  rcases h with h | ⟨rfl, rfl, h⟩
  · exact .inl (arr_ne cap W I z h)
  · by_cases e : z = W.headD 0
    · obtain ⟨y, R, rfl⟩ : ∃ y R, W = y :: R := by
        cases W with
        | nil => simp at hk
        | cons y R => exact ⟨y, R, rfl⟩
      simp only [List.headD_cons] at e
      subst e
      exact .inl (arr_head cap hc z R)
    · obtain ⟨e1, e2⟩ := arr_miss cap W z e
      rw [e1, e2]
      refine .inr ⟨rfl, rfl, fun j hj => ?_⟩
      rcases Nat.lt_or_ge j k with h' | h'
      · exact h j h'
      · obtain rfl : j = k := by omega
        rw [← hz]; exact e
theorem Tried.done {m : Nat} {ws : List Int} {W I : List Int} (h : Tried m ws ws.length W I) : I ≠ [] ∨ (I = [] ∧ W = []) := by
  rcases h with h | ⟨h1, h2, h3⟩
  · exact .inl h
  · refine .inr ⟨h1, ?_⟩
    rw [h2]
    by_cases hw : ws = []
    · exact hw
    · obtain ⟨j, hj, e⟩ := all_tried ws m hw
      exact absurd e (h3 j hj)
theorem acc_len (os : List Int) (z : Int) (h : os.length ≤ 64) : (accW os [] z).length ≤ 64 := by
  unfold accW
  split
  · rename_i h'
    unfold accE at h'
    split at h'
    · cases h'
    · split at h'
      · cases h'
      · simp at *; omega
  · exact h

set_option maxRecDepth 100000 in
set_option maxHeartbeats 8000000 in
theorem gateFlows_all (w : World) (x : Int) (hx : (Lit.int .i64 x).wf = true) (v : Value) (zs : List Int) (hv : RdI w v zs) (t : Int) (ht : (Lit.int .i64 t).wf = true) :
    Calls Try.prog 3 #[.int .i64 x, v, .int .i64 t] w fun e w' => e = .returned (.bool true) ∧ Fr w w' No := by
  obtain ⟨cap, h1, h16, hd⟩ := umod1 x 16 (by decide) (by decide)
  have h16' : cap ≤ 16 := by omega
  obtain ⟨hm, hm0, hm1⟩ := umod t 64 (by decide) (by decide)
  obtain ⟨m, hmm⟩ : ∃ m : Nat, (IntKind.u64.wrap t) % 64 = m := ⟨((IntKind.u64.wrap t) % 64).toNat, by omega⟩
  rw [hmm] at hm hm0 hm1
  have hml : m < 64 := by omega
  obtain ⟨a, c, rfl, _⟩ := hv.open_
  have HV := Lib.hid hv
  have HM := Lib.hid hml
  clear hx ht hv hm0 hm1 hml
  go_enter Try.func3, Try.ntmps3
  go_wp2_with fail
  refine (awake_any _).mono ?_
  rintro e w1 ⟨rfl, hf1⟩
  have HF := Lib.hid hf1
  clear hf1
  go_wp2_with fail
  rw [hd]
  clear hd
  refine (new_g w cap _ HF.out h1 h16').mono ?_
  rintro e w2 ⟨rfl, hG⟩
  generalize w1.heap.size + 1 = p at *
  have HG := Lib.hid hG.is3
  clear hG HF
  go_wp2_with fail
  go_loopg [9, 10] 100 (fun g v9 v10 wr => ∃ (k : Nat) (os : List Int), k + g = 100 ∧ k ≤ zs.length ∧ v10 = .int .i64 k ∧ Is3 w wr p cap os [] v9 os (.slice none 0 0) [] (.slice none 0 0) [])
  case atStart => exact ⟨0, [], by omega, by omega, rfl, HG.out⟩
  case round =>
    clear HG
    obtain ⟨k, os, hk, hkz, rfl, hG⟩ := hrel
    have HG := Lib.hid hG
    have HK := Lib.hid hk
    clear hG hk
    by_cases hlt : k < zs.length ∧ k < 100
    · obtain ⟨hlt, hlt1⟩ := hlt
      have HLT := Lib.hid (And.intro hlt hlt1)
      obtain ⟨b, off, rfl, hcell⟩ := (HV.out.keep0 HG.out.fr).get k hlt
      obtain ⟨z, hz⟩ : ∃ z, zs.getD k 0 = z := ⟨_, rfl⟩
      rw [hz] at hcell
      have HZ := Lib.hid hz
      clear hz
      by_cases hE : accE os [] z = 0
      · have hW : accW os [] z = os ++ [z] := by unfold accW; rw [if_pos hE]
        have HE := Lib.hid hE
        have HW := Lib.hid hW
        clear hE hW
        go_wp2_with fail
        refine (accept_3 z 0 _ HG.out HE.out HW.out).mono ?_
        rintro e w4 ⟨rfl, hG⟩
        have HG4 := Lib.hid hG
        have hle := hG.le.1
        have ha := hG.n1.1
        clear hG HG hcell
        simp only [List.length_append, List.length_cons, List.length_nil] at hle
        have hcell4 := ((HV.out.keep0 HG4.out.fr).get k hlt)
        obtain ⟨b', off', hbb, hcell4⟩ := hcell4
        cases hbb
        rw [HZ.out] at hcell4
        obtain ⟨a9, c9, hv9⟩ := slv_form ha
        subst hv9
        have HA := Lib.hid ha
        clear ha
        go_wp2_with (at_builtin; refine wpList_appI rfl (.tmp 51) (.tmp 56) rfl _ os rfl ?d1 w4.heap.size z rfl ?d2 ?d3 ?_)
        case d1 => exact Sl.keep0 HA.out (Fr.alloc _ _ _)
        case d2 => exact blk_new w4 _
        case d3 => omega
        intro v' w5 q1 q2 q3
        have HG5 := Lib.hid (HG4.out.ap1 (Ap.of (Fr.alloc w4 (.cells #[.int .i64 z] 3) No) q1 q2 (by simpa using q3)))
        clear q1 q2 q3 HA HG4 hcell4
        go_wp2_with fail
        go_roundg (gk - 1)
        case measure => have := HK.out; have := HLT.out; omega
        case rel => exact ⟨k + 1, os ++ [z], by have := HK.out; have := HLT.out; omega, by have := HLT.out; omega, by go_num, HG5.out⟩
      · have hW : accW os [] z = os := by unfold accW; rw [if_neg hE]
        have hb : (accE os [] z == 0) = false := by simpa using hE
        have HW := Lib.hid hW
        clear hE hW
        go_wp2_with fail
        refine (accept_3 z _ _ HG.out rfl HW.out).mono ?_
        rintro e w4 ⟨rfl, hG⟩
        have HG4 := Lib.hid hG
        clear hG HG hcell
        go_wp2_with fail
        go_roundg (gk - 1)
        case measure => have := HK.out; have := HLT.out; omega
        case rel => exact ⟨k + 1, os, by have := HK.out; have := HLT.out; omega, by have := HLT.out; omega, by go_num, HG4.out⟩
    · have hd : (¬ (k : Int) < (zs.length : Int)) ∨ ((k : Int) < (zs.length : Int) ∧ ¬ (k : Int) < 100) := by omega
      obtain ⟨a9, c9, hv9⟩ := slv_form HG.out.n1.1
      subst hv9
      have hle := HG.out.le.1
      simp only [List.length_nil, Nat.add_zero] at hle
      clear hlt hkz HK
      have key : ∀ P : Prop, P → P := fun _ h => h
      rcases hd with hd | ⟨hd, hd2⟩
      all_goals
        go_wp2_with fail
        go_loopg [11, 12] (2 * os.length + 1) (fun g v11 v12 wr => ∃ (r : Nat) (out I W : List Int) (v3 : Value) (l3 : List Int), r + g = 2 * os.length + 1 ∧ v12 = .int .i64 r ∧ Is3 w wr p cap W I (.slice a9 os.length c9) os v11 out v3 l3 ∧ out ++ (I ++ W) = os ∧ (r ≤ out.length ∨ (I = [] ∧ W = [])))
        case atStart => exact ⟨0, [], [], os, .slice none 0 0, [], by omega, rfl, HG.out, by simp, .inl (by simp)⟩
        case round =>
          clear HG
          obtain ⟨r, out, I, W, v3, l3, hr, rfl, hG, hos, hpr⟩ := hrel
          have HG := Lib.hid hG
          have HR := Lib.hid hr
          have HOS := Lib.hid hos
          have HPR := Lib.hid hpr
          clear hG hr hos hpr
          obtain ⟨gq, hgq⟩ : ∃ q : Nat, q = gk := ⟨_, rfl⟩
          subst hgq
          by_cases hlt : r ≤ 2 * os.length
          · have hlt' : (r : Int) ≤ 2 * (os.length : Int) := by omega
            have HLT := Lib.hid hlt
            clear hlt
            go_wp2_with fail
            refine (waiting_3 HG.out).mono ?_
            rintro e w4 ⟨v13, rfl, hN⟩
            obtain ⟨a13, c13, hv13⟩ := slv_form hN.1
            subst hv13
            have HG4 := Lib.hid (HG.out.new3 hN)
            have hWl : W.length ≤ 64 := by have := HG.out.le.1; omega
            clear hN HG
            go_wp2_with fail
            go_loopg [72] W.length (fun g v72 wr => ∃ (k : Nat) (I' W' : List Int), k + g = W.length ∧ v72 = .int .i64 k ∧ Is3 w wr p cap W' I' (.slice a9 os.length c9) os u11 out (.slice a13 W.length c13) W ∧ I' ++ W' = I ++ W ∧ Tried m W k W' I')
            case atStart => exact ⟨0, I, W, by omega, rfl, HG4.out, rfl, Tried.start m W I⟩
            case round =>
              clear HG4
              obtain ⟨k, I', W', hk, rfl, hG, hIW, hT⟩ := hrel
              have HG := Lib.hid hG
              have HK := Lib.hid hk
              have HIW := Lib.hid hIW
              have HT := Lib.hid hT
              clear hG hk hIW hT
              by_cases hlt : k < W.length
              · have hlt' : (k : Int) < (W.length : Int) := by omega
                have hmod : Int.tmod ((k : Int) + (m : Int)) (W.length : Int) = (((k + m) % W.length : Nat) : Int) := by
                  rw [Int.tmod_eq_emod_of_nonneg (by omega), ← Int.natCast_add, ← Int.natCast_emod]
                have hml : (k + m) % W.length < W.length := Nat.mod_lt _ (by omega)
                have hn0 : ((W.length : Int) == 0) = false := beq_eq_false_iff_ne.2 (by omega)
                have hm64 := HM.out
                obtain ⟨q, hq⟩ : ∃ q, (k + m) % W.length = q := ⟨_, rfl⟩
                rw [hq] at hmod hml
                have HLT := Lib.hid hlt
                have HQ := Lib.hid hq
                clear hlt hq
                obtain ⟨b3, off3, hb3, hcell⟩ := (SlI.rd HG.out.n3.1 (by omega)).get q hml
                subst hb3
                obtain ⟨z, hz⟩ : ∃ z, W.getD q 0 = z := ⟨_, rfl⟩
                rw [hz] at hcell
                have HZ := Lib.hid hz
                clear hz
                go_wp2_with fail
                refine (arrive_3 z _ _ _ HG.out rfl rfl rfl).mono ?_
                rintro e w5 ⟨rfl, hG⟩
                have HG5 := Lib.hid hG
                clear hG HG hcell
                go_wp2_with fail
                go_roundg (gk - 1)
                case measure => have := HK.out; have := HLT.out; omega
                case rel => exact ⟨k + 1, _, _, by have := HK.out; have := HLT.out; omega, by go_num, HG5.out, by rw [arr_keep]; exact HIW.out, HT.out.step cap h1 HLT.out z (by rw [HQ.out]; exact HZ.out.symm)⟩
              · obtain rfl : k = W.length := by have := HK.out; omega
                clear hlt HK
                have hdn := HT.out.done
                have HDN := Lib.hid hdn
                clear hdn HT
                rcases HDN.out with hne | ⟨rfl, rfl⟩
                · obtain ⟨y, I2, rfl⟩ : ∃ y I2, I' = y :: I2 := by
                    cases I' with
                    | nil => exact absurd rfl hne
                    | cons y I2 => exact ⟨y, I2, rfl⟩
                  clear hne
                  go_wp2_with fail
                  refine (leave_3 y 0 I2 HG.out rfl rfl rfl).mono ?_
                  rintro e w5 ⟨rfl, hG⟩
                  have HG5 := Lib.hid hG
                  have ha := hG.n2.1
                  have hle5 := hG.le.1
                  clear hG HG
                  obtain ⟨a11, c11, hv11⟩ := slv_form ha
                  subst hv11
                  have HA := Lib.hid ha
                  have hol : out.length ≤ 64 := by
                    have := congrArg List.length HOS.out
                    simp only [List.length_append] at this
                    omega
                  clear ha
                  go_wp2_with (at_builtin; refine wpList_appI rfl (.tmp 97) (.tmp 99) rfl _ out rfl ?d1 w5.heap.size y rfl ?d2 ?d3 ?_)
                  case d1 => exact Sl.keep0 HA.out (Fr.alloc _ _ _)
                  case d2 => exact blk_new w5 _
                  case d3 => omega
                  intro v' w6 q1 q2 q3
                  have HG6 := Lib.hid (HG5.out.ap2 (Ap.of (Fr.alloc w5 (.cells #[.int .i64 y] 3) No) q1 q2 (by simpa using q3)))
                  clear q1 q2 q3 HA HG5
                  go_wp2_with fail
                  have hI : y :: I2 ++ W' = I ++ W := HIW.out
                  have hlen : r ≤ out.length := by
                    rcases HPR.out with h | ⟨h1, h2⟩
                    · exact h
                    · rw [h1, h2] at hI; simp at hI
                  have hnew : (out ++ [y]) ++ (I2 ++ W') = os := by
                    rw [← HOS.out, ← hI]; simp
                  go_roundg (gq - 1)
                  case measure => have := HR.out; have := HLT.out; omega
                  case rel => exact ⟨r + 1, out ++ [y], I2, W', _, W, by have := HR.out; have := HLT.out; omega, by go_num, HG6.out, hnew, .inl (by simp; omega)⟩
                · go_wp2_with fail
                  refine (leave_3 0 4 [] HG.out rfl rfl rfl).mono ?_
                  rintro e w5 ⟨rfl, hG⟩
                  have HG5 := Lib.hid hG
                  clear hG HG
                  go_wp2_with fail
                  have hI : [] = I ++ W := HIW.out
                  have hI1 : I = [] := by cases I with
                    | nil => rfl
                    | cons x r => simp at hI
                  have hI2 : W = [] := by subst hI1; simpa using hI.symm
                  go_roundg (gq - 1)
                  case measure => have := HR.out; have := HLT.out; omega
                  case rel => exact ⟨r + 1, _, [], [], _, W, by have := HR.out; have := HLT.out; omega, by go_num, HG5.out, by rw [← HOS.out, hI1, hI2], .inr ⟨rfl, rfl⟩⟩
          · have hfin : I = [] ∧ W = [] ∧ out = os := by
              have hl := congrArg List.length HOS.out
              simp only [List.length_append] at hl
              have hlt2 : 2 * os.length < r := by omega
              rcases HPR.out with h | ⟨h1, h2⟩
              · have hz : I.length = 0 ∧ W.length = 0 := by omega
                have h1 := List.eq_nil_of_length_eq_zero hz.1
                have h2 := List.eq_nil_of_length_eq_zero hz.2
                refine ⟨h1, h2, ?_⟩
                have := HOS.out
                rw [h1, h2] at this
                simpa using this
              · refine ⟨h1, h2, ?_⟩
                have := HOS.out
                rw [h1, h2] at this
                simpa using this
            obtain ⟨rfl, rfl, rfl⟩ := hfin
            have hn := hlt
            have hlt' : ¬ (r : Int) ≤ 2 * (out.length : Int) := by omega
            clear hlt hn HR HOS HPR
            go_wp2_with fail
            refine (ints_true _ _ out _ (SlI.rd HG.out.n2.1 (by omega)) (SlI.rd HG.out.n1.1 (by omega))).mono ?_
            rintro e w4 ⟨rfl, hf4⟩
            have HG4 := Lib.hid (HG.out.same hf4)
            clear hf4 HG
            go_wp2_with fail
            refine (inside_3 HG4.out).mono ?_
            rintro e w5 ⟨v5, rfl, hN5⟩
            obtain ⟨a5, c5, hv5⟩ := slv_form hN5.1
            simp only [List.length_nil] at hv5
            subst hv5
            have HG5 := Lib.hid (HG4.out.same hN5.2.1)
            clear hN5 HG4
            go_wp2_with fail
            refine (waiting_3 HG5.out).mono ?_
            rintro e w6 ⟨v6, rfl, hN6⟩
            obtain ⟨a6, c6, hv6⟩ := slv_form hN6.1
            simp only [List.length_nil] at hv6
            subst hv6
            have HG6 := Lib.hid (HG5.out.same hN6.2.1)
            clear hN6 HG5
            go_wp2_with fail
            go_ret
            exact ⟨rfl, HG6.out.fr⟩
end Go.Proofs.Ytmdciipaggcjoaa
