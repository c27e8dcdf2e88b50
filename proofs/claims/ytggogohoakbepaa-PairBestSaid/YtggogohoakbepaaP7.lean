/-
  The document's search for the best pairing, walked.
-/
import Derived.Test.YtggogohoakbepaaP6
import Derived.Test.YtggogohoakbepaaPm4
namespace Go.Proofs.Ytggogohoakbepaa
open Go.RowKit Go.Sort
set_option linter.unusedVariables false
set_option linter.unusedSimpArgs false

def RecPost (l : List Int) (n : Int) (w : World) (e : Ending) (w' : World) : Prop := ∃ v', e = .returned (.tuple #[v', .int .i64 n]) ∧ RdI w' v' l ∧ Fr w w' No

set_option maxRecDepth 100000 in
set_option maxHeartbeats 4000000 in
theorem rec_leaf (us vs x : Value) (ss gs : List Spot) (u : List Int) (t : Nat) (v : Int) (w : World) (hu : RdS w us ss) (hv : RdS w vs gs) (hx : RdI w x u) (h1 : okL ss) (h2 : okL gs) (hp : Pre ss gs u t v) (hl : u.length = ss.length) :
    Calls Try.prog 27 #[us, vs, x] w (RecPost u (alone ss + alone gs - v) w) := by
  obtain ⟨a, c, rfl⟩ := hu.form
  obtain ⟨a', c', rfl⟩ := hv.form
  obtain ⟨a2, c2, rfl, _⟩ := hx.open_
  have HU := Lib.hid hu
  have HV := Lib.hid hv
  have HX := Lib.hid hx
  have hc : costA ss gs u = (alone ss + alone gs - v, 0) := by
    unfold costA
    rw [if_pos ⟨h1, h2, hl, hp.inn⟩]
    have := hp.val
    rw [hl, List.take_of_length_le (Nat.le_refl _)] at this
    rw [this]; rfl
  have HC := Lib.hid hc
  have hd : ((u.length : Int) == (ss.length : Int)) = true := by simp [hl]
  clear hu hv hx h1 h2 hp hl hc
  go_enter Try.func27, Try.ntmps27
  go_wp2_with fail
  refine (refCost_any _ _ _ ss gs u _ HU.out HV.out HX.out).mono ?_
  rw [HC.out]
  rintro e w1 ⟨rfl, hf1⟩
  have HF := Lib.hid hf1
  clear hf1
  go_wp2_with fail
  go_ret2
  exact ⟨_, rfl, HX.out.keep0 HF.out, HF.out⟩

/-- What the round has found so far. -/
def Found (ss gs : List Spot) (u : List Int) (t : Nat) (C : Int) (k : Nat) (v10 v11 : Value) (w : World) : Prop :=
  (k = 0 ∧ v10 = .slice none 0 0 ∧ v11 = .int .i64 (-1)) ∨
  ∃ q L, k = q + 1 ∧ v11 = .int .i64 (C - bst gs (ss.getD u.length (0, 0)) (M gs (ss.drop (u.length + 1))) t q) ∧ RdI w v10 (u ++ L) ∧ Att gs (ss.getD u.length (0, 0)) (ss.drop (u.length + 1)) t q L
theorem mem_snoc_false {x p : Int} {l : List Int} (h : x ∉ l) (hp : ¬ p = x) : decide (x ∈ l ++ [p]) = false := decide_eq_false fun hm => by
  rcases List.mem_append.1 hm with h' | h'
  · exact h h'
  · simp at h'; exact hp h'.symm
theorem bst_mono (gs : List Spot) (s : Spot) (r : Nat → Int) (t q : Nat) : ∀ n, q ≤ n → bst gs s r t q ≤ bst gs s r t n := by
  intro n hn
  induction n with
  | zero =>
    obtain rfl : q = 0 := by omega
    exact Int.le_refl _
  | succ n ih =>
    by_cases e : q = n + 1
    · subst e; exact Int.le_refl _
    · have := ih (by omega)
      rw [bst]
      split <;> omega
theorem Found.keep0 {ss gs : List Spot} {u : List Int} {t : Nat} {C : Int} {k : Nat} {v10 v11 : Value} {w w' : World} (h : Found ss gs u t C k v10 v11 w) (hf : Fr w w' No) : Found ss gs u t C k v10 v11 w' := by
  rcases h with h | ⟨q, L, h1, h2, h3, h4⟩
  · exact .inl h
  · exact .inr ⟨q, L, h1, h2, h3.keep0 hf, h4⟩

set_option maxRecDepth 100000 in
set_option maxHeartbeats 8000000 in
theorem rec_any (ss gs : List Spot) (h1 : okL ss) (h2 : okL gs) (d : Nat) : ∀ (us vs x : Value) (u : List Int) (t : Nat) (v : Int) (w : World), RdS w us ss → RdS w vs gs → RdI w x u → Pre ss gs u t v → u.length + d = ss.length →
    Calls Try.prog 27 #[us, vs, x] w (RecPost (u ++ R gs (ss.drop u.length) t) (alone ss + alone gs - v - M gs (ss.drop u.length) t) w) := by
  induction d with
  | zero =>
    intro us vs x u t v w hu hv hx hp hl
    have := rec_leaf us vs x ss gs u t v w hu hv hx h1 h2 hp (by omega)
    have e : ss.drop u.length = [] := List.drop_eq_nil_of_le (by omega)
    rw [e]
    simpa [R, M] using this
  | succ d ih =>
    intro us vs x u t v w hu hv hx hp hl
    obtain ⟨a, c, rfl⟩ := hu.form
    obtain ⟨a', c', rfl⟩ := hv.form
    obtain ⟨a2, c2, rfl, _⟩ := hx.open_
    have hul : u.length < ss.length := by omega
    have hdrop := drop_at ss u.length hul
    have hs6 := h1.1
    have hg6 := h2.1
    have hple := hp.le
    have n2 := alone_nonneg gs
    have n3 := alone_le ss h1.2
    have n4 := alone_le gs h2.2
    have HU := Lib.hid hu
    have HV := Lib.hid hv
    have HX := Lib.hid hx
    have HP := Lib.hid hp
    have HD := Lib.hid hdrop
    have HLD := Lib.hid hl
    have HIH := Lib.hid ih
    have HPL := Lib.hid hple
    clear hu hv hx hp hdrop ih hl hple
    have hd0 : ((u.length : Int) == (ss.length : Int)) = false := by simp; omega
    go_enter Try.func27, Try.ntmps27
    go_wp2_with fail
    go_loopg [10, 11, 12, 13, 14, 15, 16] (gs.length + 1) (fun g v10 v11 v12 _ _ _ _ wr => ∃ (k : Nat) (va vb : Value), va = v10 ∧ vb = v11 ∧ k + g = gs.length + 1 ∧ v12 = .int .i64 ((k : Int) - 1) ∧ Found ss gs u t (alone ss + alone gs - v) k v10 v11 wr ∧ Fr w wr No)
    case atStart => exact ⟨0, _, _, rfl, rfl, by omega, by simp, .inl ⟨rfl, rfl, rfl⟩, Fr.refl _ _⟩
    case round =>
      obtain ⟨k, va, vb, rfl, rfl, hg, rfl, hF, hf⟩ := hrel
      obtain ⟨g0, hg0⟩ : ∃ q1 : Nat, q1 = gk := ⟨_, rfl⟩
      subst hg0
      have HGK := Lib.hid hg
      have HFD := Lib.hid hF
      have HFR := Lib.hid hf
      clear hg hF hf
      by_cases hlt : k < gs.length + 1
      · have c0 : (k : Int) - 1 < (gs.length : Int) := by omega
        rcases Nat.eq_zero_or_pos k with hk0 | hkp
        · subst hk0
          obtain ⟨rfl, rfl⟩ : va = .slice none 0 0 ∧ vb = .int .i64 (-1) := by
            rcases HFD.out with ⟨_, h1, h2⟩ | ⟨q, L, h, _⟩
            · exact ⟨h1, h2⟩
            · omega
          have ek : ((0 : Nat) : Int) - 1 = -1 := by omega
          rw [ek] at c0 ⊢
          clear ek HFD
          go_wp2_with fail
          go_loopg [13, 14, 41] u.length (fun g v13 _ v41 wx => ∃ i : Nat, i + g = u.length ∧ v41 = .int .i64 i ∧ v13 = .bool false ∧ wr = wx)
          case atStart => exact ⟨0, by omega, rfl, rfl, rfl⟩
          case round =>
            obtain ⟨i, hi, rfl, rfl, rfl⟩ := hrel
            have HI := Lib.hid hi
            clear hi
            by_cases hil : i < u.length
            · obtain ⟨b, off, rfl, hcp⟩ := (HX.out.keep0 HFR.out).get i hil
              go_wp2_with fail
              go_roundg (gk - 1)
              case measure => have := HI.out; omega
              case rel => exact ⟨i + 1, by have := HI.out; omega, by go_num, rfl, rfl⟩
            · have hir : i ≤ u.length := by have := HI.out; omega
              clear HI
              go_wp2_with (at_builtin; refine wpList_appS rfl (.tmp 62) (.tmp 63) rfl (.slice (some ⟨wr.heap.size, 0, none⟩) 0 0) [] rfl ?a1x (.slice a2 u.length c2) u rfl ?a2x ?a3x ?_)
              case a1x => exact Sl.made (cs := #[]) (blk_new _ _) rfl (by decide)
              case a2x => exact (HX.out.keep0 HFR.out).keep0 (Fr.alloc _ _ _)
              case a3x => simp; omega
              intro v4 w4 h1' h2' h3'
              obtain ⟨hN4, hf4, hg4⟩ := NewI.app0 (a := wr) (w := wr) (Fr.refl _ No) (by simpa using h1') h2' (by simpa using h3')
              obtain ⟨a4, c4, rfl, _⟩ := hN4.1.form
              have HN4 := Lib.hid hN4
              clear h1' h2' h3' hN4 hf4 hg4
              go_wp2_with (at_builtin; refine wpList_appI rfl (.tmp 64) (.tmp 66) rfl (.slice a4 u.length c4) u rfl ?b1x w4.heap.size (-1) rfl ?b2x ?b3x ?_)
              case b1x => exact Sl.keep0 HN4.out.1 (Fr.alloc _ _ _)
              case b2x => have := blk_new w4 (.cells #[.int .i64 (-1)] 3); simpa using this
              case b3x => omega
              intro v5 w5 h1' h2' h3'
              have HN5 := Lib.hid (HN4.out.app (Fr.alloc _ _ No) h1' h2' (by simpa using h3'))
              have HF5 := Lib.hid HN5.out.2.1
              clear h1' h2' h3' HN4
              go_wp2_with fail
              refine (HIH.out _ _ _ (u ++ [-1]) t v _ ((HU.out.keep0 HFR.out).keep0 HF5.out) ((HV.out.keep0 HFR.out).keep0 HF5.out) (SlI.rd HN5.out.1 (by simp; omega)) (HP.out.skip hul) (by have := HLD.out; simp; omega)).mono ?_
              rintro e w6 ⟨v6, rfl, hr6, hf6⟩
              have el : (u ++ [-1]).length = u.length + 1 := by simp
              rw [el] at hr6 ⊢
              clear el
              have hM0 := M_nonneg gs (ss.drop (u.length + 1)) t
              have hpl2 : 0 ≤ alone ss + alone gs - v - M gs (ss.drop (u.length + 1)) t := by
                have h := (HP.out.skip hul).le
                rw [show (u ++ [(-1 : Int)]).length = u.length + 1 by simp] at h
                omega
              have HFD2 : Hid (Found ss gs u t (alone ss + alone gs - v) 1 v6 (.int .i64 (alone ss + alone gs - v - M gs (ss.drop (u.length + 1)) t)) w6) := Lib.hid
                (.inr ⟨0, -1 :: R gs (ss.drop (u.length + 1)) t, rfl, rfl, by have := hr6; rwa [List.append_assoc] at this, Att.zero _ _ _ _⟩)
              have HF6 := Lib.hid ((HFR.out.nn HF5.out).nn hf6)
              clear hr6 hf6 HF5 HN5
              generalize alone ss + alone gs - v - M gs (ss.drop (u.length + 1)) t = N at *
              go_wp2_with fail
              go_roundg (g0 - 1)
              case measure => have := HGK.out; omega
              case rel => exact ⟨1, _, _, rfl, rfl, by have := HGK.out; omega, by simp, HFD2.out, HF6.out⟩
        · obtain ⟨q, rfl⟩ : ∃ q, k = q + 1 := ⟨k - 1, by omega⟩
          obtain ⟨L, rfl, hr, ha⟩ : ∃ L, vb = .int .i64 (alone ss + alone gs - v - bst gs (ss.getD u.length (0, 0)) (M gs (ss.drop (u.length + 1))) t q) ∧ RdI wr va (u ++ L) ∧ Att gs (ss.getD u.length (0, 0)) (ss.drop (u.length + 1)) t q L := by
            rcases HFD.out with ⟨h, _⟩ | ⟨q', L, h, h1, h2, h3⟩
            · omega
            · obtain rfl : q = q' := by omega
              exact ⟨L, h1, h2, h3⟩
          have ek : ((q + 1 : Nat) : Int) - 1 = (q : Int) := by omega
          rw [ek] at c0 ⊢
          clear ek HFD
          have HRD := Lib.hid hr
          have HAT := Lib.hid ha
          clear hr ha
          have hqg : q < gs.length := by omega
          have hq0 : (0 : Int) ≤ (q : Int) := by omega
          have hbits := HP.out.bits q hqg
          have HBT := Lib.hid hbits
          clear hbits
          have hmono := bst_mono gs (ss.getD u.length (0, 0)) (M gs (ss.drop (u.length + 1))) t q gs.length (by omega)
          have hple2 := HPL.out
          rw [HD.out] at hple2
          have hMe : M gs (ss.getD u.length (0, 0) :: ss.drop (u.length + 1)) t = bst gs (ss.getD u.length (0, 0)) (M gs (ss.drop (u.length + 1))) t gs.length := rfl
          rw [hMe] at hple2
          clear hMe
          have hleast : 0 ≤ alone ss + alone gs - v - bst gs (ss.getD u.length (0, 0)) (M gs (ss.drop (u.length + 1))) t q := by omega
          clear hmono hple2
          obtain ⟨B, hB⟩ : ∃ B, B = bst gs (ss.getD u.length (0, 0)) (M gs (ss.drop (u.length + 1))) t q := ⟨_, rfl⟩
          rw [← hB] at hleast ⊢
          have HBD := Lib.hid hB
          clear hB
          go_wp2_with fail
          go_loopg [13, 14, 41] u.length (fun g v13 _ v41 wx => ∃ i : Nat, i + g = u.length ∧ v41 = .int .i64 i ∧ v13 = .bool (decide ((q : Int) ∈ u.take i)) ∧ wr = wx)
          case atStart => exact ⟨0, by omega, rfl, by simp, rfl⟩
          case round =>
            obtain ⟨i, hi, rfl, rfl, rfl⟩ := hrel
            have HI := Lib.hid hi
            clear hi
            by_cases hil : i < u.length
            · obtain ⟨b, off, rfl, hcp⟩ := (HX.out.keep0 HFR.out).get i hil
              obtain ⟨p, hp⟩ : ∃ p, p = u.getD i 0 := ⟨_, rfl⟩
              rw [← hp] at hcp
              have HTK : Hid (u.take (i + 1) = u.take i ++ [p]) := Lib.hid (by rw [List.take_succ_eq_append_getElem hil, hp]; simp [List.getD, List.getElem?_eq_getElem hil])
              clear hp
              by_cases hm : (q : Int) ∈ u.take i
              · have hd : decide ((q : Int) ∈ u.take i) = true := by simpa using hm
                rw [hd]
                have HM := Lib.hid hm
                clear hm hd
                go_wp2_with fail
                go_roundg (gk - 1)
                case measure => have := HI.out; omega
                case rel => exact ⟨i + 1, by have := HI.out; omega, by go_num, by rw [HTK.out]; simp [HM.out], rfl⟩
              · have hd : decide ((q : Int) ∈ u.take i) = false := by simpa using hm
                rw [hd]
                have HM := Lib.hid hm
                clear hm hd
                by_cases hpq : p = (q : Int)
                · have hb : (p == (q : Int)) = true := by simp [hpq]
                  have HPQ := Lib.hid hpq
                  clear hpq
                  go_wp2_with fail
                  go_roundg (gk - 1)
                  case measure => have := HI.out; omega
                  case rel => exact ⟨i + 1, by have := HI.out; omega, by go_num, by rw [HTK.out, HPQ.out]; simp, rfl⟩
                · have hb : (p == (q : Int)) = false := by simp [hpq]
                  have HPQ := Lib.hid hpq
                  clear hpq
                  go_wp2_with fail
                  go_roundg (gk - 1)
                  case measure => have := HI.out; omega
                  case rel => exact ⟨i + 1, by have := HI.out; omega, by go_num, by rw [HTK.out, mem_snoc_false HM.out HPQ.out], rfl⟩
            · have e1 : u.take i = u := List.take_of_length_le (by omega)
              rw [e1, ← HBT.out]
              clear e1 HI
              by_cases hbt : t.testBit q = true
              · rw [hbt]
                have HB2 := Lib.hid hbt
                clear hbt
                go_wp2_with fail
                go_roundg (g0 - 1)
                case measure => have := HGK.out; omega
                case rel => exact ⟨q + 2, _, _, rfl, rfl, by have := HGK.out; omega, by go_num, .inr ⟨q + 1, L, rfl, by rw [bst_taken HB2.out, ← HBD.out], HRD.out, HAT.out.keep (bst_taken HB2.out)⟩, HFR.out⟩
              · have hbf : t.testBit q = false := by simpa using hbt
                rw [hbf]
                have HB2 := Lib.hid hbf
                clear hbt hbf
                go_wp2_with (at_builtin; refine wpList_appS rfl (.tmp 62) (.tmp 63) rfl (.slice (some ⟨wr.heap.size, 0, none⟩) 0 0) [] rfl ?a1y (.slice a2 u.length c2) u rfl ?a2y ?a3y ?_)
                case a1y => exact Sl.made (cs := #[]) (blk_new _ _) rfl (by decide)
                case a2y => exact (HX.out.keep0 HFR.out).keep0 (Fr.alloc _ _ _)
                case a3y => simp; omega
                intro v4 w4 h1' h2' h3'
                obtain ⟨hN4, hf4, hg4⟩ := NewI.app0 (a := wr) (w := wr) (Fr.refl _ No) (by simpa using h1') h2' (by simpa using h3')
                obtain ⟨a4, c4, rfl, _⟩ := hN4.1.form
                have HN4 := Lib.hid hN4
                clear h1' h2' h3' hN4 hf4 hg4
                go_wp2_with (at_builtin; refine wpList_appI rfl (.tmp 64) (.tmp 66) rfl (.slice a4 u.length c4) u rfl ?b1y w4.heap.size ((q : Int)) rfl ?b2y ?b3y ?_)
                case b1y => exact Sl.keep0 HN4.out.1 (Fr.alloc _ _ _)
                case b2y => have := blk_new w4 (.cells #[.int .i64 ((q : Int))] 3); simpa using this
                case b3y => omega
                intro v5 w5 h1' h2' h3'
                have HN5 := Lib.hid (HN4.out.app (Fr.alloc _ _ No) h1' h2' (by simpa using h3'))
                have HF5 := Lib.hid HN5.out.2.1
                clear h1' h2' h3' HN4
                go_wp2_with fail
                have HPT := Lib.hid (HP.out.take hul q hqg HB2.out)
                refine (HIH.out _ _ _ (u ++ [(q : Int)]) (t ||| 2 ^ q) _ _ ((HU.out.keep0 HFR.out).keep0 HF5.out) ((HV.out.keep0 HFR.out).keep0 HF5.out) (SlI.rd HN5.out.1 (by simp; omega)) HPT.out (by have := HLD.out; simp; omega)).mono ?_
                rintro e w6 ⟨v6, rfl, hr6, hf6⟩
                have el : (u ++ [(q : Int)]).length = u.length + 1 := by simp
                rw [el] at hr6 ⊢
                have hpl2 := HPT.out.le
                rw [el] at hpl2
                clear el
                obtain ⟨S, hS⟩ : ∃ S, S = sv (ss.getD u.length (0, 0)) (gs.getD q (0, 0)) := ⟨_, rfl⟩
                obtain ⟨Mq, hMq⟩ : ∃ m, m = M gs (ss.drop (u.length + 1)) (t ||| 2 ^ q) := ⟨_, rfl⟩
                rw [← hS, ← hMq] at hpl2 ⊢
                have HSd := Lib.hid hS
                have HMd := Lib.hid hMq
                clear hS hMq
                have HR6 := Lib.hid hr6
                have HF6 := Lib.hid ((HFR.out.nn HF5.out).nn hf6)
                have HR0 := Lib.hid ((HRD.out.keep0 HF5.out).keep0 hf6)
                clear hr6 hf6 HF5 HN5 HPT
                have hn0 : 0 ≤ alone ss + alone gs - (v + S) - Mq := by omega
                by_cases hbet : B < S + Mq
                · have hcmp : alone ss + alone gs - (v + S) - Mq < alone ss + alone gs - v - B := by omega
                  have HBET := Lib.hid hbet
                  clear hbet
                  have HFD2 : Hid (Found ss gs u t (alone ss + alone gs - v) (q + 2) v6 (.int .i64 (alone ss + alone gs - (v + S) - Mq)) w6) := Lib.hid
                    (.inr ⟨q + 1, (q : Int) :: R gs (ss.drop (u.length + 1)) (t ||| 2 ^ q), rfl, by rw [bst_high HB2.out (by rw [← HBD.out, ← HSd.out, ← HMd.out]; exact HBET.out), ← HSd.out, ← HMd.out]; congr 1; omega, by have := HR6.out; rwa [List.append_assoc] at this, Att.new HB2.out (by rw [← HBD.out, ← HSd.out, ← HMd.out]; exact HBET.out)⟩)
                  generalize alone ss + alone gs - (v + S) - Mq = N at *
                  generalize alone ss + alone gs - v - B = N2 at *
                  go_wp2_with fail
                  go_roundg (g0 - 1)
                  case measure => have := HGK.out; omega
                  case rel => exact ⟨q + 2, _, _, rfl, rfl, by have := HGK.out; omega, by go_num, HFD2.out, HF6.out⟩
                · have hcmp : ¬ alone ss + alone gs - (v + S) - Mq < alone ss + alone gs - v - B := by omega
                  have HBET := Lib.hid hbet
                  clear hbet
                  have hlow : bst gs (ss.getD u.length (0, 0)) (M gs (ss.drop (u.length + 1))) t (q + 1) = B := by
                    rw [bst_low HB2.out (by rw [← HBD.out, ← HSd.out, ← HMd.out]; have := HBET.out; omega), ← HBD.out]
                  have HFD2 : Hid (Found ss gs u t (alone ss + alone gs - v) (q + 2) va (.int .i64 (alone ss + alone gs - v - B)) w6) := Lib.hid
                    (.inr ⟨q + 1, L, rfl, by rw [hlow], HR0.out, HAT.out.keep (by rw [hlow, HBD.out])⟩)
                  clear hlow
                  generalize alone ss + alone gs - (v + S) - Mq = N at *
                  generalize alone ss + alone gs - v - B = N2 at *
                  go_wp2_with fail
                  go_roundg (g0 - 1)
                  case measure => have := HGK.out; omega
                  case rel => exact ⟨q + 2, _, _, rfl, rfl, by have := HGK.out; omega, by go_num, HFD2.out, HF6.out⟩
      · have hF := HFD.out
        obtain ⟨q, L, hk, rfl, hr, ha⟩ : ∃ q L, k = q + 1 ∧ vb = .int .i64 (alone ss + alone gs - v - bst gs (ss.getD u.length (0, 0)) (M gs (ss.drop (u.length + 1))) t q) ∧ RdI wr va (u ++ L) ∧ Att gs (ss.getD u.length (0, 0)) (ss.drop (u.length + 1)) t q L := by
          rcases hF with ⟨h, _⟩ | h
          · omega
          · exact h
        obtain rfl : q = gs.length := by have := HGK.out; omega
        have hL := ha.end_
        rw [← HD.out] at hL
        have HRD : Hid (RdI wr va (u ++ R gs (ss.drop u.length) t)) := Lib.hid (by rw [← hL]; exact hr)
        have HME : Hid (M gs (ss.drop u.length) t = bst gs (ss.getD u.length (0, 0)) (M gs (ss.drop (u.length + 1))) t gs.length) := Lib.hid (by rw [HD.out]; rfl)
        have c0 : ¬ (k : Int) - 1 < (gs.length : Int) := by omega
        clear hF hr ha hL HFD
        rw [← HME.out]
        go_wp2_with fail
        go_ret2
        exact ⟨_, rfl, HRD.out, HFR.out⟩

def refL (ss gs : List Spot) (w : World) (e : Ending) (w' : World) : Prop := ∃ v', e = .returned (.tuple #[v', .int .i64 (bestN ss gs), .int .i64 (bestE ss gs)]) ∧ RdI w' v' (bestL ss gs) ∧ Fr w w' No
set_option maxRecDepth 100000 in
set_option maxHeartbeats 2000000 in
theorem refBest_any (us vs : Value) (ss gs : List Spot) (w : World) (hu : RdS w us ss) (hv : RdS w vs gs) : Calls Try.prog 15 #[us, vs] w (refL ss gs w) := by
  obtain ⟨a, c, rfl⟩ := hu.form
  obtain ⟨a', c', rfl⟩ := hv.form
  have HU := Lib.hid hu
  have HV := Lib.hid hv
  clear hu hv
  by_cases h1 : okL ss
  · have d1 : decide (okL ss) = true := by simpa using h1
    by_cases h2 : okL gs
    · have d2 : decide (okL gs) = true := by simpa using h2
      have e1 : bestE ss gs = 0 := by unfold bestE; rw [if_pos ⟨h1, h2⟩]
      have e2 : bestN ss gs = alone ss + alone gs - 0 - M gs (ss.drop 0) 0 := by unfold bestN; rw [if_pos ⟨h1, h2⟩]; simp
      have e3 : bestL ss gs = [] ++ R gs (ss.drop 0) 0 := by unfold bestL; rw [if_pos ⟨h1, h2⟩]; simp
      have E1 := Lib.hid e1
      have E2 := Lib.hid e2
      have E3 := Lib.hid e3
      have H1 := Lib.hid h1
      have H2 := Lib.hid h2
      clear h1 h2 e1 e2 e3
      go_enter Try.func15, Try.ntmps15
      go_wp2_with fail
      refine (good_any _ ss _ HU.out).mono ?_
      rw [d1]
      rintro e w1 ⟨rfl, rfl⟩
      go_wp2_with fail
      refine (good_any _ gs _ HV.out).mono ?_
      rw [d2]
      rintro e w1 ⟨rfl, rfl⟩
      clear d1 d2
      go_wp2_with fail
      refine (rec_any ss gs H1.out H2.out ss.length _ _ _ [] 0 0 _ HU.out HV.out ⟨⟨rfl, none, 0, rfl, fun _ => ⟨rfl, rfl⟩, fun h => by simp at h⟩, by simp⟩ (Pre.nil ss gs) (by simp)).mono ?_
      rintro e w2 ⟨v2, rfl, hr, hf⟩
      simp only [List.length_nil] at hr ⊢
      rw [← E3.out] at hr
      rw [← E2.out]
      have HR := Lib.hid hr
      have HF := Lib.hid hf
      clear hr hf
      go_wp2_with fail
      go_ret3
      exact ⟨_, by rw [E1.out]; rfl, HR.out, HF.out⟩
    · have d2 : decide (okL gs) = false := by simpa using h2
      have e1 : bestE ss gs = 1 := by unfold bestE; rw [if_neg (fun h => h2 h.2)]
      have e2 : bestN ss gs = 0 := by unfold bestN; rw [if_neg (fun h => h2 h.2)]
      have e3 : bestL ss gs = [] := by unfold bestL; rw [if_neg (fun h => h2 h.2)]
      have E1 := Lib.hid e1
      have E2 := Lib.hid e2
      have E3 := Lib.hid e3
      clear h1 h2 e1 e2 e3
      go_enter Try.func15, Try.ntmps15
      go_wp2_with fail
      refine (good_any _ ss _ HU.out).mono ?_
      rw [d1]
      rintro e w1 ⟨rfl, rfl⟩
      go_wp2_with fail
      refine (good_any _ gs _ HV.out).mono ?_
      rw [d2]
      rintro e w1 ⟨rfl, rfl⟩
      clear d1 d2
      go_wp2_with fail
      go_ret3
      exact ⟨_, by rw [E1.out, E2.out]; rfl, by rw [E3.out]; exact ⟨⟨rfl, none, 0, rfl, fun _ => ⟨rfl, rfl⟩, fun h => by simp at h⟩, by simp⟩, Fr.refl _ _⟩
  · have d1 : decide (okL ss) = false := by simpa using h1
    have e1 : bestE ss gs = 1 := by unfold bestE; rw [if_neg (fun h => h1 h.1)]
    have e2 : bestN ss gs = 0 := by unfold bestN; rw [if_neg (fun h => h1 h.1)]
    have e3 : bestL ss gs = [] := by unfold bestL; rw [if_neg (fun h => h1 h.1)]
    have E1 := Lib.hid e1
    have E2 := Lib.hid e2
    have E3 := Lib.hid e3
    clear h1 e1 e2 e3
    go_enter Try.func15, Try.ntmps15
    go_wp2_with fail
    refine (good_any _ ss _ HU.out).mono ?_
    rw [d1]
    rintro e w1 ⟨rfl, rfl⟩
    clear d1
    go_wp2_with fail
    go_ret3
    exact ⟨_, by rw [E1.out, E2.out]; rfl, by rw [E3.out]; exact ⟨⟨rfl, none, 0, rfl, fun _ => ⟨rfl, rfl⟩, fun h => by simp at h⟩, by simp⟩, Fr.refl _ _⟩
end Go.Proofs.Ytggogohoakbepaa
