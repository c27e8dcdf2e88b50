/-
  The document's rack: Plan.
-/
import Derived.Test.YtegoilhkooneaaaGd8
namespace Go.Proofs.Ytegoilhkooneaaa
open Go.RowKit Go.Sort
set_option linter.unusedVariables false
set_option linter.unusedSimpArgs false

/-- The document's plan under way. -/
structure PlD (w wr : World) (b0 : Nat) (vk : Value) (Rk : List Lan) (vo : Value) (out : List Mv) (vA : Value) (A : List Int) : Prop where
  box : wr.heap[b0]? = some (.cells #[vk] 74 (0, 0))
  doc : DocAt wr vk Rk
  outs : NewM 86 w wr vo out
  ahd : NewI w wr vA A
  new : w.heap.size ≤ b0
theorem PlD.keep0 {w wr w' : World} {b0 : Nat} {vk : Value} {Rk : List Lan} {vo : Value} {out : List Mv} {vA : Value} {A : List Int} (h : PlD w wr b0 vk Rk vo out vA A) (hf : Fr wr w' No) : PlD w w' b0 vk Rk vo out vA A :=
  ⟨hf.blk h.box id, h.doc.keep0 hf, h.outs.keep0 hf, h.ahd.keep0 hf, h.new⟩
theorem PlD.put {w wr : World} {b0 : Nat} {vk v2 : Value} {Rk R2 : List Lan} {vo : Value} {out : List Mv} {vA : Value} {A : List Int} (h : PlD w wr b0 vk Rk vo out vA A) (hd : DocAt wr v2 R2) : PlD w (wr.setCell ⟨b0, 0, none⟩ v2) b0 v2 R2 vo out vA A := by
  have hF := Fr.setCell wr ⟨b0, 0, none⟩ v2
  refine ⟨by rw [blk_set h.box]; rfl, hd.keep hF (fun b hb e => ?_) (fun u zs hu b hb e => Sl.ne hu h.box (by decide) (by rw [hb, show b = b0 from e])),
    h.outs.keep hF (fun b hb e => Sl.ne h.outs.1 h.box (by decide) (by rw [hb, show b = b0 from e])) (fun b e => by rw [show b = b0 from e]; exact h.new),
    h.ahd.keep hF (fun b hb e => Sl.ne h.ahd.1 h.box (by decide) (by rw [hb, show b = b0 from e])) (fun b e => by rw [show b = b0 from e]; exact h.new), h.new⟩
  obtain ⟨D, _, hdd⟩ := hd
  exact Sl.ne hdd.row h.box (by decide) (by rw [hb, show b = b0 from e])
theorem PlD.app {w wr wb w' : World} {b0 : Nat} {vk : Value} {Rk : List Lan} {vo v' : Value} {out out' : List Mv} {vA : Value} {A : List Int} (h : PlD w wr b0 vk Rk vo out vA A) (hb : Fr wr wb No) (h1 : SlM 86 w' v' out') (h2 : Fr wb w' (fun g => vo.ownBlock = some g)) (h3 : v'.ownBlock = vo.ownBlock ∨ v'.ownBlock = some wb.heap.size) : PlD w w' b0 vk Rk v' out' vA A := by
  have hk := h.keep0 hb
  have hne : ∀ i cs t fr, wb.heap[i]? = some (.cells cs t fr) → t ≠ 86 → ¬ vo.ownBlock = some i := fun i cs t fr hb ht e => Sl.ne hk.outs.1 hb ht e
  have hne2 : ∀ (e : TypeId) (kk n : Nat) (x : Value) (xs : List Value), Sl wb e kk x n xs → e ≠ 86 → ∀ b, x.ownBlock = some b → ¬ vo.ownBlock = some b := fun e kk n x xs hx he b hb => by
    obtain ⟨_, ⟨q, _⟩ | ⟨g, off, cap, cur, q, hg, _⟩⟩ := hx
    · rw [q] at hb; simp [Value.ownBlock] at hb
    · rw [q] at hb; simp [Value.ownBlock] at hb; subst hb
      exact hne _ _ _ _ hg he
  refine ⟨h2.blk hk.box (hne _ _ _ _ hk.box (by decide)), hk.doc.keep h2 (fun b hb => ?_) (fun u zs hu b hb => hne2 3 1 _ u _ hu (by decide) b hb), h.outs.app hb h1 h2 h3, hk.ahd.keep h2 (fun b hb => hne2 3 1 _ vA _ hk.ahd.1 (by decide) b hb) (fun g e => hk.outs.2.2 g e), h.new⟩
  obtain ⟨D, _, hdd⟩ := hk.doc
  exact hne2 42 2 _ vk _ hdd.row (by decide) b hb

theorem Small.mov {R : List Lan} (h : Small R) {t : Int} {n m : Nat} {T : List Int} (hn : n < R.length) (hT : (lan R n).2 = T ++ [t]) (hm : m < R.length) (hnm : m ≠ n) (hr : (lan R m).2.length < (lan R m).1) : Small (movT R t n m T) := by
  refine ⟨by rw [movT_len]; exact h.1, fun i hi => ?_⟩
  rw [movT_len] at hi
  rw [movT_lan hn hm hnm]
  split
  · have := h.2 n hn; rw [hT] at this; simp at this ⊢; omega
  · split
    · have := h.2 m hm; simp; omega
    · exact h.2 i hi

/-- The plan, as the document makes it. -/
theorem planL_S {R : List Lan} {t : Int} {a : Nat} (h : whereR t R = a) : planE R t = (if (planS a R (aheadL (lan R a).2 t)).isSome then 0 else 5) ∧ planL R t = ((planS a R (aheadL (lan R a).2 t)).map (· ++ [(t, (a : Int), -1)])).getD [] := by
  obtain ⟨ha, _, _⟩ := whereR_at t R a h
  have hO : planO R t = (planS a R (aheadL (lan R a).2 t)).map (· ++ [(t, (a : Int), -1)]) := by
    unfold planO
    rw [if_neg (by omega), h, Int.toNat_natCast, plan_sim ha _ (Sim.init a R)]
  refine ⟨?_, ?_⟩
  · unfold planE; rw [if_neg (by omega), hO]; simp
  · unfold planL; rw [hO]

def PlanRef (w : World) (R : List Lan) (t : Int) (e : Ending) (w' : World) : Prop := ∃ v, e = .returned (.tuple #[v, .int .i64 (planE R t)]) ∧ NewM 86 w w' v (planL R t)

set_option maxRecDepth 100000 in
set_option maxHeartbeats 4000000 in
theorem refPlan_none (w : World) (v : Value) (R : List Lan) (t : Int) (hD : DocAt w v R) (hS : Small R) (h : whereR t R < 0) :
    Calls Try.prog 39 #[.agg #[v], .int .i64 t] w fun e w' => PlanRef w R t e w' := by
  obtain ⟨a, c, rfl⟩ := hD.form
  have e1 : planE R t = 160 := by unfold planE; rw [if_pos h]
  have e2 : planL R t = [] := by unfold planL planO; rw [if_pos h]; rfl
  have E1 := Lib.hid e1
  have E2 := Lib.hid e2
  have hA := Fr.alloc w (.cells #[.slice a R.length c] 74) No
  have HA := Lib.hid hA
  have HD := Lib.hid (hD.keep0 hA)
  have HS := Lib.hid hS
  have k0 : (w.alloc (.cells #[.slice a R.length c] 74)).cell? ⟨w.heap.size, 0, none⟩ = some (.slice a R.length c) := blk_cell (blk_new w _) 0
  clear hD hS hA e1 e2
  go_enter Try.func39, Try.ntmps39
  go_wp2_with fail
  refine (refWhere_any _ _ R t HD.out HS.out.1 HS.out.eight).mono ?_
  rintro e w2 ⟨rfl, hf2⟩
  have HF2 := Lib.hid (HA.out.nn hf2)
  clear hf2 k0
  go_wp2_with fail
  go_ret2
  exact ⟨_, by rw [E1.out]; rfl, by rw [E2.out]; exact ⟨Sl.nil _ _ _, HF2.out, by simp [Value.ownBlock]⟩⟩

set_option maxRecDepth 100000 in
set_option maxHeartbeats 4000000 in
theorem refPlan_some (w : World) (v : Value) (R : List Lan) (t : Int) (hD : DocAt w v R) (hS : Small R) (hW : WF R) (h : ¬ whereR t R < 0) :
    Calls Try.prog 39 #[.agg #[v], .int .i64 t] w fun e w' => PlanRef w R t e w' := by
  obtain ⟨a, c, rfl⟩ := hD.form
  obtain ⟨at_, hat⟩ : ∃ n : Nat, whereR t R = n := ⟨(whereR t R).toNat, by omega⟩
  obtain ⟨e1, e2⟩ := planL_S hat
  obtain ⟨ha, hi, _⟩ := whereR_at t R at_ hat
  have hi : 0 ≤ idx t (lan R at_).2 := hi
  obtain ⟨i0, hi0⟩ : ∃ i : Nat, idx t (lan R at_).2 = i := ⟨(idx t (lan R at_).2).toNat, by omega⟩
  obtain ⟨P0, Q, hPQ, hPl⟩ := idx_split hi0
  have hA : aheadL (lan R at_).2 t = Q.reverse := by
    unfold aheadL
    rw [hi0, hPQ, Int.toNat_natCast, ← hPl]
    simp
  have hAo : aheadOf (lan R at_).2 t = aheadL (lan R at_).2 t := by unfold aheadOf aheadL; rw [if_neg (by omega)]
  have hAe : aheadE (lan R at_).2 t = 0 := by unfold aheadE; rw [if_neg (by omega)]
  have hlane : (lan R at_).2 = (P0 ++ [t]) ++ (aheadL (lan R at_).2 t).reverse := by rw [hA]; simp [hPQ]
  obtain ⟨hl1, hl2⟩ := hS.2 at_ ha
  have hA8 : (aheadL (lan R at_).2 t).length ≤ 8 := by rw [hA]; rw [hPQ] at hl1; simp at hl1 ⊢; omega
  obtain ⟨A, hAA⟩ : ∃ A, aheadL (lan R at_).2 t = A := ⟨_, rfl⟩
  obtain ⟨P, hPP⟩ : ∃ P, P0 ++ [t] = P := ⟨_, rfl⟩
  rw [hAA] at e1 e2 hA hAo hlane hA8
  rw [hPP] at hlane
  obtain ⟨E, hE⟩ : ∃ E, planE R t = E := ⟨_, rfl⟩
  obtain ⟨L, hL⟩ : ∃ L, planL R t = L := ⟨_, rfl⟩
  rw [hE] at e1
  rw [hL] at e2
  have HE := Lib.hid hE
  have HL := Lib.hid hL
  have E1 := Lib.hid e1
  have E2 := Lib.hid e2
  have HAT := Lib.hid hat
  have HLANE := Lib.hid hlane
  have HAO := Lib.hid hAo
  have HAE := Lib.hid hAe
  have HHA := Lib.hid ha
  have hat2 : (at_ : Int) < (R.length : Int) := by omega
  have hat0 : ¬ (at_ : Int) < 0 := by omega
  have hat00 : (0 : Int) ≤ (at_ : Int) := by omega
  have hF0 := Fr.alloc w (.cells #[.slice a R.length c] 74) No
  have HF0 := Lib.hid hF0
  have HD := Lib.hid (hD.keep0 hF0)
  have HS := Lib.hid hS
  have HW := Lib.hid hW
  have hbx := blk_new w (.cells #[.slice a R.length c] 74)
  have k0 : (w.alloc (.cells #[.slice a R.length c] 74)).cell? ⟨w.heap.size, 0, none⟩ = some (.slice a R.length c) := blk_cell hbx 0
  have HBX := Lib.hid hbx
  clear hD hS hW h e1 e2 hE hL hat hi hi0 hPQ hPl hA hAo hAe hlane hAA hPP ha hF0 hbx
  go_enter Try.func39, Try.ntmps39
  go_wp2_with fail
  generalize w.alloc (.cells #[.slice a R.length c] 74) = w1 at *
  obtain ⟨b0, hb0⟩ : ∃ b0, w.heap.size = b0 := ⟨_, rfl⟩
  rw [hb0] at k0 HBX ⊢
  have HB0 : Hid (w.heap.size ≤ b0) := Lib.hid (by omega)
  clear hb0
  refine (refWhere_any _ _ R t HD.out HS.out.1 HS.out.eight).mono ?_
  rw [HAT.out]
  rintro e w2 ⟨rfl, hf2⟩
  have HF2 := Lib.hid (HF0.out.nn hf2)
  have HD2 := Lib.hid (HD.out.keep0 hf2)
  have HBX2 := Lib.hid (hf2.blk HBX.out id)
  clear hf2 k0 HF0 HD HBX
  have k0 : w2.cell? ⟨b0, 0, none⟩ = some (.slice a R.length c) := blk_cell HBX2.out 0
  obtain ⟨b, off, a2, c2, hab, m1, m2, hs⟩ := HD2.out.at_ at_ HHA.out
  subst hab
  have HSL := Lib.hid hs
  clear hs
  go_wp2_with fail
  refine (refAhead_any w2 (lan R at_).1 _ (lan R at_).2 t HSL.out (by omega)).mono ?_
  rw [HAE.out, HAO.out]
  rintro e w3 ⟨v3, rfl, hN3⟩
  obtain ⟨a3, c3, rfl⟩ := slv_form hN3.1
  have HP0 : Hid (PlD w w3 b0 (.slice (some ⟨b, off, none⟩) R.length c) R (.slice none 0 0) [] (.slice a3 A.length c3) A) := Lib.hid
    ⟨hN3.2.1.blk HBX2.out id, HD2.out.keep0 hN3.2.1, ⟨Sl.nil _ _ _, HF2.out.nn hN3.2.1, by simp [Value.ownBlock]⟩, hN3.from HF2.out, HB0.out⟩
  clear hN3 m1 m2 k0 HF2 HD2 HBX2 HSL
  go_wp2_with fail
  go_loopg [7, 30] A.length (fun g v7 v30 wr => ∃ (k : Nat) (Rk : List Lan) (vk : Value) (out : List Mv), k + g = A.length ∧ v30 = .int .i64 k ∧ out.length = k ∧ WF Rk ∧ Small Rk ∧ Rk.length = R.length ∧ (lan Rk at_).2 = P ++ (A.drop k).reverse ∧ PlD w wr b0 vk Rk v7 out (.slice a3 A.length c3) A ∧ planS at_ R A = (planS at_ Rk (A.drop k)).map (out ++ ·))
  case atStart => exact ⟨0, R, _, [], by omega, rfl, rfl, HW.out, HS.out, rfl, by simpa using HLANE.out, HP0.out, by simp⟩
  case round =>
    obtain ⟨k, Rk, vk, out, hk, rfl, hol, hw, hsm, hlen, hln, hP, hpl⟩ := hrel
    have HK := Lib.hid hk
    have HOL := Lib.hid hol
    have HWk := Lib.hid hw
    have HSk := Lib.hid hsm
    have HLk := Lib.hid hlen
    have HLN := Lib.hid hln
    have HP := Lib.hid hP
    have HPL := Lib.hid hpl
    obtain ⟨ak, ck, rfl⟩ := hP.doc.form
    obtain ⟨ao, co, rfl⟩ := hP.outs.form
    clear hk hol hw hsm hlen hln hP hpl HP0
    by_cases hlt : k < A.length
    · have hk1 : (k : Int) < (A.length : Int) := by omega
      have hk0 : (0 : Int) ≤ (k : Int) := by omega
      have HLT := Lib.hid hlt
      obtain ⟨bA, oA, haA, hcA⟩ := (SlI.rd HP.out.ahd.1 (by omega)).get k hlt
      subst haA
      obtain ⟨x, hx⟩ : ∃ x, A.getD k 0 = x := ⟨_, rfl⟩
      rw [hx] at hcA
      have hdr : A.drop k = x :: A.drop (k + 1) := by
        rw [List.drop_eq_getElem_cons hlt]
        congr 1
        rw [← hx]; simp [List.getD, List.getElem?_eq_getElem hlt]
      have HDR := Lib.hid hdr
      have HCA := Lib.hid hcA
      have q0 : wr.cell? ⟨b0, 0, none⟩ = some (.slice ak Rk.length ck) := blk_cell HP.out.box 0
      clear hx hdr hlt hcA
      go_wp2_with fail
      refine (refBest_any wr _ Rk at_ HP.out.doc HSk.out.1 HSk.out.2).mono ?_
      rintro e w4 ⟨rfl, hf4⟩
      have HP4 := Lib.hid (HP.out.keep0 hf4)
      have hcA := hf4.cell HCA.out id
      clear hf4 q0
      by_cases hneg : bestR at_ Rk (zer Rk.length) < 0
      · have hpn : planS at_ R A = none := by rw [HPL.out, HDR.out, planS_cons, if_pos hneg]; rfl
        have e1 := E1.out
        have e2 := E2.out
        rw [hpn] at e1 e2
        have HE1 := Lib.hid e1
        have HE2 := Lib.hid e2
        clear e1 e2 hpn hcA
        go_wp2_with fail
        go_ret2
        refine ⟨_, by rw [HE.out, HE1.out]; rfl, ?_⟩
        rw [HL.out, HE2.out]
        exact ⟨Sl.nil _ _ _, HP4.out.outs.2.1, by simp [Value.ownBlock]⟩
      · obtain ⟨m, hm, hbm, hma, hr⟩ := best_spec hneg
        have hT : (lan Rk at_).2 = (P ++ (A.drop (k + 1)).reverse) ++ [x] := by rw [HLN.out, HDR.out]; simp
        have hT' : (lan Rk at_).2.dropLast = P ++ (A.drop (k + 1)).reverse := by rw [hT]; simp
        have haR : at_ < Rk.length := by rw [HLk.out]; exact HHA.out
        obtain ⟨d1, d2⟩ := do_to HWk.out haR hT hm hma hr
        have HD1 := Lib.hid d1
        have HD2 := Lib.hid d2
        have HWn := Lib.hid (HWk.out.mov haR hT hm hma hr)
        have HSn := Lib.hid (HSk.out.mov haR hT hm hma hr)
        have HLNn : Hid ((lan (movT Rk x at_ m (P ++ (A.drop (k + 1)).reverse)) at_).2 = P ++ (A.drop (k + 1)).reverse) := Lib.hid (by rw [movT_lan haR hm hma, if_pos rfl])
        have HPLn : Hid (planS at_ R A = (planS at_ (movT Rk x at_ m (P ++ (A.drop (k + 1)).reverse)) (A.drop (k + 1))).map ((out ++ [(x, (at_ : Int), (m : Int))]) ++ ·)) := Lib.hid (by
          rw [HPL.out, HDR.out, planS_cons, if_neg hneg, hbm, Int.toNat_natCast, hT', Option.map_map]
          congr 1
          funext l
          simp)
        rw [hbm]
        have hm0 : ¬ (m : Int) < 0 := by omega
        have q0 : w4.cell? ⟨b0, 0, none⟩ = some (.slice ak Rk.length ck) := blk_cell HP4.out.box 0
        have q0l : b0 < w4.heap.size := blk_lt HP4.out.box
        have hAl := Fr.alloc w4 (.cells #[.int .i64 x, .int .i64 (at_ : Int), .int .i64 (m : Int)] 86) No
        have HP5 := Lib.hid (HP4.out.keep0 hAl)
        have HB5 := Lib.hid (blk_new w4 (.cells #[.int .i64 x, .int .i64 (at_ : Int), .int .i64 (m : Int)] 86))
        clear hneg hm hbm hma hr hT hT' haR d1 d2 hAl
        go_wp2_with fail
        refine (refDo_any _ _ Rk x at_ m HP5.out.doc HSk.out HWk.out).mono ?_
        rw [HD1.out, HD2.out]
        rintro e w6 ⟨v6, rfl, hD6, hf6⟩
        obtain ⟨a6, c6, hv6⟩ := hD6.form
        rw [movT_len] at hv6
        subst hv6
        have HP6 := Lib.hid (HP5.out.keep0 hf6)
        have HP7 := Lib.hid ((HP5.out.keep0 hf6).put hD6)
        have hb7 := hf6.blk HB5.out id
        have HB7 := Lib.hid (blk_far hb7 (p := ⟨b0, 0, none⟩) (fun e => blk_ne hb7 HP6.out.box (by decide) e) (.slice a6 Rk.length c6))
        clear q0 q0l hcA hD6 hf6 hb7
        have q0 : w6.cell? ⟨b0, 0, none⟩ = some (.slice ak Rk.length ck) := blk_cell HP6.out.box 0
        have z0 : w6.frozen? ⟨b0, 0, none⟩ = false := blk_frozen HP6.out.box 0
        go_upto_region 14 with (fail)
        generalize w6.setCell ⟨b0, 0, none⟩ (.slice a6 Rk.length c6) = w7 at *
        clear q0 z0
        obtain ⟨b12, hb12⟩ : ∃ b, w4.heap.size = b := ⟨_, rfl⟩
        rw [hb12] at HB7 ⊢
        have n0 : w7.cell? ⟨b12, 0, none⟩ = some (.int .i64 x) := blk_cell HB7.out 0
        have n1 : w7.cell? ⟨b12, 1, none⟩ = some (.int .i64 (at_ : Int)) := blk_cell HB7.out 1
        have n2 : w7.cell? ⟨b12, 2, none⟩ = some (.int .i64 (m : Int)) := blk_cell HB7.out 2
        clear hb12
        go_wp2_with (at_builtin; refine wpList_appM info86 Try.underlying81 rfl (.tmp 51) (.tmp 53) rfl (.slice ao out.length co) out rfl ?c1 w7.heap.size (x, (at_ : Int), (m : Int)) rfl ?c2 ?c3 ?_)
        case c1 => exact Sl.keep0 HP7.out.outs.1 (Fr.alloc _ _ _)
        case c2 => have := blk_new w7 (.cells #[.int .i64 x, .int .i64 (at_ : Int), .int .i64 (m : Int)] 86); simpa using this
        case c3 => have := HOL.out; have := HLT.out; omega
        intro v8 w8 h1' h2' h3'
        have HP8 := Lib.hid (HP7.out.app (Fr.alloc w7 (.cells #[.int .i64 x, .int .i64 (at_ : Int), .int .i64 (m : Int)] 86) No) h1' h2' (by simpa using h3'))
        clear h1' h2' h3' n0 n1 n2
        go_wp2_with fail
        go_roundg (gk - 1)
        case measure => have := HK.out; have := HLT.out; omega
        case rel => exact ⟨k + 1, _, _, _, by have := HK.out; have := HLT.out; omega, by go_num, by simp [HOL.out], HWn.out, HSn.out, by rw [movT_len]; exact HLk.out, HLNn.out, HP8.out, HPLn.out⟩
    · have hdr : A.drop k = [] := List.drop_eq_nil_of_le (by omega)
      have hpn : planS at_ R A = some out := by rw [HPL.out, hdr, planS_nil]; simp
      have e1 := E1.out
      have e2 := E2.out
      rw [hpn] at e1 e2
      have HE1 := Lib.hid e1
      have HE2 := Lib.hid e2
      have hk1 : ¬ (k : Int) < (A.length : Int) := by omega
      clear e1 e2 hpn hdr
      go_wp2_with (at_builtin; refine wpList_appM info86 Try.underlying81 rfl (.tmp 56) (.tmp 60) rfl (.slice ao out.length co) out rfl ?c1 wr.heap.size (t, (at_ : Int), -1) rfl ?c2 ?c3 ?_)
      case c1 => exact Sl.keep0 HP.out.outs.1 (Fr.alloc _ _ _)
      case c2 => have := blk_new wr (.cells #[.int .i64 t, .int .i64 (at_ : Int), .int .i64 (-1)] 86); simpa using this
      case c3 => have := HOL.out; have := HK.out; omega
      intro v8 w8 h1' h2' h3'
      have HP8 := Lib.hid (HP.out.app (Fr.alloc wr (.cells #[.int .i64 t, .int .i64 (at_ : Int), .int .i64 (-1)] 86) No) h1' h2' (by simpa using h3'))
      clear h1' h2' h3'
      go_wp2_with fail
      go_ret2
      refine ⟨_, by rw [HE.out, HE1.out]; rfl, ?_⟩
      rw [HL.out, HE2.out]
      exact HP8.out.outs

theorem refPlan_any (w : World) (v : Value) (R : List Lan) (t : Int) (hD : DocAt w v R) (hS : Small R) (hW : WF R) :
    Calls Try.prog 39 #[.agg #[v], .int .i64 t] w fun e w' => PlanRef w R t e w' := by
  by_cases h : whereR t R < 0
  · exact refPlan_none w v R t hD hS h
  · exact refPlan_some w v R t hD hS hW h
end Go.Proofs.Ytegoilhkooneaaa
