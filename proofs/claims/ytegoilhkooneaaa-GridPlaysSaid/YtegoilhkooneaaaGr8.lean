/-
  Package grid: Plan.
-/
import Derived.Test.YtegoilhkooneaaaGr7
namespace Go.Proofs.Ytegoilhkooneaaa
open Go.RowKit Go.Sort
set_option linter.unusedVariables false
set_option linter.unusedSimpArgs false

/-- A move: tote, from, to. -/
abbrev Mv := Int × Int × Int
def mvC (l : List Mv) : List Value := l.flatMap (fun m => [.int .i64 m.1, .int .i64 m.2.1, .int .i64 m.2.2])
theorem mvC_append (a b : List Mv) : mvC (a ++ b) = mvC a ++ mvC b := by simp [mvC]
theorem mvC_len (l : List Mv) : (mvC l).length = l.length * 3 := by
  induction l with
  | nil => rfl
  | cons s r ih => simp [mvC] at ih ⊢; omega
theorem mvC_at (l : List Mv) (k : Nat) (hk : k < l.length) : (mvC l)[k * 3]? = some (.int .i64 (l.getD k (0, 0, 0)).1) ∧ (mvC l)[k * 3 + 1]? = some (.int .i64 (l.getD k (0, 0, 0)).2.1) ∧ (mvC l)[k * 3 + 2]? = some (.int .i64 (l.getD k (0, 0, 0)).2.2) := by
  induction l generalizing k with
  | nil => simp at hk
  | cons s r ih =>
    cases k with
    | zero => simp [mvC]
    | succ k =>
      have := ih k (by simpa using hk)
      rw [show (k + 1) * 3 = k * 3 + 1 + 1 + 1 by omega]
      simpa [mvC] using this

/-- A slice of moves (element type e) that may be written. -/
def SlM (e : TypeId) (w : World) (v : Value) (l : List Mv) : Prop := Sl w e 3 v l.length (mvC l)
theorem SlM.form {e : TypeId} {w : World} {v : Value} {l : List Mv} (h : SlM e w v l) : ∃ a c, v = .slice a l.length c := by
  obtain ⟨hl, ⟨rfl, h0⟩ | ⟨g, off, cap, cur, rfl, _⟩⟩ := h
  · exact ⟨none, 0, by rw [h0]⟩
  · exact ⟨_, _, rfl⟩
theorem SlM.at_ {e : TypeId} {w : World} {a : Option Addr} {n c : Nat} {l : List Mv} (h : SlM e w (.slice a n c) l) (k : Nat) (hk : k < l.length) :
    ∃ b off, a = some ⟨b, off, none⟩ ∧ w.cell? ⟨b, off + k * 3, none⟩ = some (.int .i64 (l.getD k (0, 0, 0)).1) ∧ w.cell? ⟨b, off + k * 3 + 1, none⟩ = some (.int .i64 (l.getD k (0, 0, 0)).2.1) ∧ w.cell? ⟨b, off + k * 3 + 2, none⟩ = some (.int .i64 (l.getD k (0, 0, 0)).2.2) := by
  obtain ⟨_, a', c', hv, _, hs⟩ := Sl.rd h
  cases hv
  obtain ⟨b, off, rfl, hc⟩ := hs (by omega)
  obtain ⟨h1, h2, h3⟩ := mvC_at l k hk
  exact ⟨b, off, rfl, hc _ _ h1, by have := hc _ _ h2; rwa [← Nat.add_assoc] at this, by have := hc _ _ h3; rwa [← Nat.add_assoc] at this⟩
/-- A slice of moves that the call has made. -/
def NewM (e : TypeId) (w w' : World) (v : Value) (l : List Mv) : Prop := SlM e w' v l ∧ Fr w w' No ∧ ∀ k, v.ownBlock = some k → w.heap.size ≤ k
theorem NewM.form {e : TypeId} {w w' : World} {v : Value} {l : List Mv} (h : NewM e w w' v l) : ∃ a c, v = .slice a l.length c := SlM.form h.1
theorem NewM.keep {e : TypeId} {a w w' : World} {S : Nat → Prop} {v : Value} {l : List Mv} (h : NewM e a w v l) (hf : Fr w w' S) (hS : ∀ g, v.ownBlock = some g → ¬ S g) (hS' : ∀ g, S g → a.heap.size ≤ g) : NewM e a w' v l :=
  ⟨Sl.keep h.1 hf hS, h.2.1.into hf hS', h.2.2⟩
theorem NewM.keep0 {e : TypeId} {a w w' : World} {v : Value} {l : List Mv} (h : NewM e a w v l) (hf : Fr w w' No) : NewM e a w' v l := h.keep hf (fun _ _ h => h) (fun _ h => h.elim)
theorem NewM.from {e : TypeId} {a w w' : World} {v : Value} {l : List Mv} (h : NewM e w w' v l) (hf : Fr a w No) : NewM e a w' v l :=
  ⟨h.1, hf.nn h.2.1, fun k hk => Nat.le_trans hf.size (h.2.2 k hk)⟩
theorem NewM.app {e : TypeId} {a w wb w' : World} {v v' : Value} {ts ts' : List Mv} (h : NewM e a w v ts) (hb : Fr w wb No) (h1 : SlM e w' v' ts') (h2 : Fr wb w' (fun g => v.ownBlock = some g)) (h3 : v'.ownBlock = v.ownBlock ∨ v'.ownBlock = some wb.heap.size) : NewM e a w' v' ts' :=
  ⟨h1, (h.2.1.nn hb).into h2 h.2.2, fun k hk => by
    rcases h3 with e | e
    · exact h.2.2 k (e ▸ hk)
    · rw [hk] at e; cases e; exact Nat.le_trans h.2.1.size hb.size⟩
theorem NewM.nil (e : TypeId) (w : World) : NewM e w w (.slice none 0 0) [] := ⟨Sl.nil _ _ _, Fr.refl _ _, by simp [Value.ownBlock]⟩

theorem info62 : (Try.prog.info? 62).map (fun i => (i.zero, i.size, i.bytes)) = some (some (.agg #[.int .i64 0, .int .i64 0, .int .i64 0]), 3, 24) := by kernel_rfl
theorem info86 : (Try.prog.info? 86).map (fun i => (i.zero, i.size, i.bytes)) = some (some (.agg #[.int .i64 0, .int .i64 0, .int .i64 0]), 3, 24) := by kernel_rfl
/-- 'append(v, m)' -/
theorem wpList_appM {e t : TypeId} (hinf : (Try.prog.info? e).map (fun i => (i.zero, i.size, i.bytes)) = some (some (.agg #[.int .i64 0, .int .i64 0, .int .i64 0]), 3, 24)) (hut : Try.prog.underlying t = some (.slice e))
    {w : World} {ops : Array Oper} {rest : List Oper} {o : Oper} {a : Act} {Q : Exit → Act → World → Prop} (hgd : o.guard = none) (s x : Operand)
    (ho : o.op = .call { callee := .builtin .append, args := #[s, x], argTypes := #[t, t] })
    (v : Value) (ts : List Mv) (hev : a.eval s = v) (hs : SlM e w v ts) (b : Nat) (y : Mv) (hex : a.eval x = .slice (some ⟨b, 0, none⟩) 1 1) (hb : w.heap[b]? = some (.cells #[.int .i64 y.1, .int .i64 y.2.1, .int .i64 y.2.2] e (0, 0)))
    (hl : ts.length ≤ 10000000)
    (h : ∀ v' w', SlM e w' v' (ts ++ [y]) → Fr w w' (fun g => v.ownBlock = some g) → (v'.ownBlock = v.ownBlock ∨ v'.ownBlock = some w.heap.size) → wpList Try.prog ops Q rest (a.put o.dst v') w') : wpList Try.prog ops Q (o :: rest) a w := by
  obtain ⟨i0, hi, hz0, hz1, hz2⟩ := info_parts hinf
  refine wpList_app hgd s x t ho e i0 (.agg #[.int .i64 0, .int .i64 0, .int .i64 0]) 3 24 hut hi hz0 hz1 hz2 rfl (by decide) v ts.length _ hev hs _ 1 [.int .i64 y.1, .int .i64 y.2.1, .int .i64 y.2.2] hex (Sl.made (k := 3) hb rfl (by decide)).rd (by simp [Value.oneCell']) (by unfold maxLen; omega) (by omega) ?_
  intro v' w' h1 h2 h3 _
  refine h v' w' ?_ h2 h3
  unfold SlM
  rw [List.length_append, mvC_append]
  exact h1

/-! ### What Plan answers -/
def inc (ms : List Int) (i : Nat) : List Int := ms.set i (ms.getD i 0 + 1)
theorem inc_len (ms : List Int) (i : Nat) : (inc ms i).length = ms.length := by simp [inc]
theorem inc_get (ms : List Int) (i j : Nat) (hi : i < ms.length) : (inc ms i).getD j 0 = if i = j then ms.getD i 0 + 1 else ms.getD j 0 := getD_set ms i j _ hi
def plan (at_ : Int) (R : List Lan) : List Int → List Int → Option (List Mv)
  | _, [] => some []
  | ms, a :: r => if bestR at_ R ms < 0 then none else (plan at_ R (inc ms (bestR at_ R ms).toNat) r).map ((a, at_, bestR at_ R ms) :: ·)
theorem plan_nil (at_ : Int) (R : List Lan) (ms : List Int) : plan at_ R ms [] = some [] := by unfold plan; rfl
theorem plan_cons (at_ : Int) (R : List Lan) (ms : List Int) (x : Int) (r : List Int) : plan at_ R ms (x :: r) = if bestR at_ R ms < 0 then none else (plan at_ R (inc ms (bestR at_ R ms).toNat) r).map ((x, at_, bestR at_ R ms) :: ·) := by rw [plan]
/-- The totes ahead. -/
def aheadL (ts : List Int) (t : Int) : List Int := (ts.drop ((idx t ts).toNat + 1)).reverse
def planO (R : List Lan) (t : Int) : Option (List Mv) :=
  if whereR t R < 0 then none else (plan (whereR t R) R (zer R.length) (aheadL (lan R (whereR t R).toNat).2 t)).map (· ++ [(t, whereR t R, -1)])
def planE (R : List Lan) (t : Int) : Int := if whereR t R < 0 then 160 else if (planO R t).isSome then 0 else 5
def planL (R : List Lan) (t : Int) : List Mv := (planO R t).getD []

theorem bestR_lt (but : Int) (R : List Lan) (ms : List Int) (h : ¬ bestR but R ms < 0) : ∃ i : Nat, i < R.length ∧ bestR but R ms = i ∧ okR but R ms i := by
  rcases bstR_spec but R ms R.length with ⟨h1, _⟩ | ⟨i, hi, h1, hok, _⟩
  · exfalso; apply h; unfold bestR; rw [h1]; decide
  · exact ⟨i, hi, by unfold bestR; rw [h1], hok⟩

theorem plan_none {w : World} {p : Nat} {gs : List Nat} {R : List Lan} (t : Int) (hR : RackAt w p gs R) (h : whereR t R < 0) :
    Calls Try.prog 32 #[.pointer (some ⟨p, 0, none⟩), .int .i64 t] w fun e w' => e = .returned (.tuple #[.slice none 0 0, .int .i64 160]) ∧ Fr w w' No := by
  have HR := Lib.hid hR
  clear hR
  go_enter Try.func32, Try.ntmps32
  go_wp2_with fail
  refine (where_any p gs R t _ HR.out).mono ?_
  rintro e w1 ⟨rfl, hf1⟩
  have HF := Lib.hid hf1
  clear hf1
  go_wp2_with fail
  go_ret2
  exact ⟨rfl, HF.out⟩

theorem NewI.keep0 {a w w' : World} {v : Value} {l : List Int} (h : NewI a w v l) (hf : Fr w w' No) : NewI a w' v l := h.keep hf (fun _ _ h => h) (fun _ h => h.elim)
/-- The counts of totes to come: a slice of the call's own. -/
structure MoreAt (w wr : World) (v : Value) (R : List Lan) (ms : List Int) (k : Nat) : Prop where
  new : NewI w wr v ms
  len : ms.length = R.length
  bd : ∀ i, i < R.length → 0 ≤ ms.getD i 0 ∧ ms.getD i 0 ≤ k

theorem made_new (w : World) (n : Nat) (hn : n ≤ 100) : NewI w (w.alloc (.cells (Array.replicate n (.int .i64 0)) 3)) (.slice (some ⟨w.heap.size, 0, none⟩) n n) (zer n) := by
  have h := Sl.made (k := 1) (blk_new w (.cells (Array.replicate n (.int .i64 0)) 3)) (n := n) (by simp) (by unfold maxLen; omega)
  have e : (Array.replicate n (Value.int .i64 0)).toList = (zer n).map (Value.int .i64) := by simp [zer]
  rw [e] at h
  have hl : (zer n).length = n := by simp [zer]
  refine ⟨?_, Fr.alloc _ _ _, fun k hk => by simp [Value.ownBlock] at hk; omega⟩
  unfold SlI
  rw [hl]
  exact h

set_option maxRecDepth 100000 in
set_option maxHeartbeats 4000000 in
theorem plan_some {w : World} {p : Nat} {gs : List Nat} {R : List Lan} (t : Int) (hR : RackAt w p gs R) (h : ¬ whereR t R < 0) :
    Calls Try.prog 32 #[.pointer (some ⟨p, 0, none⟩), .int .i64 t] w fun e w' => ∃ v, e = .returned (.tuple #[v, .int .i64 (planE R t)]) ∧ NewM 62 w w' v (planL R t) := by
  obtain ⟨at_, hat⟩ : ∃ n : Nat, whereR t R = n := ⟨(whereR t R).toNat, by omega⟩
  have hla := whereR_at t R at_ hat
  have hE : planE R t = if (plan at_ R (zer R.length) (aheadL (lan R at_).2 t)).isSome then 0 else 5 := by
    unfold planE planO; rw [if_neg h, if_neg h, hat]; simp
  have hL : planL R t = ((plan at_ R (zer R.length) (aheadL (lan R at_).2 t)).map (· ++ [(t, (at_ : Int), -1)])).getD [] := by
    unfold planL planO; rw [if_neg h, hat]; simp
  obtain ⟨E, hEE⟩ : ∃ E, planE R t = E := ⟨_, rfl⟩
  obtain ⟨L, hLL⟩ : ∃ L, planL R t = L := ⟨_, rfl⟩
  rw [hEE] at hE ⊢
  rw [hLL] at hL ⊢
  clear hEE hLL
  obtain ⟨i, hi⟩ : ∃ i : Nat, idx t (lan R at_).2 = i := ⟨(idx t (lan R at_).2).toNat, by have := hla.2.1; unfold lan; omega⟩
  have hah : aheadL (lan R at_).2 t = ((lan R at_).2.drop (i + 1)).reverse := by unfold aheadL; rw [hi]; simp
  have h8 : (aheadL (lan R at_).2 t).length ≤ 8 := by have h := hR.lane at_ hla.1; obtain ⟨q1, q2, q3, _⟩ := h; unfold aheadL lan; rw [List.length_reverse, List.length_drop]; omega
  obtain ⟨A, hA⟩ : ∃ A, aheadL (lan R at_).2 t = A := ⟨_, rfl⟩
  rw [hA] at hE hL hah h8
  have HE := Lib.hid hE
  have HL := Lib.hid hL
  have HI := Lib.hid hi
  have HAH := Lib.hid hah
  have hr1 := hla.1
  have h32 := hR.le
  have hmk := make_ints R.length (by omega)
  have HR := Lib.hid hR
  have HAT := Lib.hid hat
  have hat2 : (at_ : Int) < (R.length : Int) := by omega
  have hat0 : ¬ (at_ : Int) < 0 := by omega
  clear hE hL hi hah hR hla hat h hA
  go_enter Try.func32, Try.ntmps32
  go_wp2_with fail
  refine (where_any p gs R t _ HR.out).mono ?_
  rw [HAT.out]
  rintro e w1 ⟨rfl, hf1⟩
  have hR1 := HR.out.keep0 hf1
  obtain ⟨a, c, h1, h2⟩ := hR1.open_
  obtain ⟨b, off, rfl, h3⟩ := h2.get at_ (by rw [HR.out.len]; exact hr1)
  have HF := Lib.hid hf1
  have HR1 := Lib.hid hR1
  clear hf1 h2 hR1
  go_wp2_with fail
  refine (ahead_some _ (lan R at_).2 (lan R at_).1 t i _ (HR1.out.lane at_ hr1) HI.out).mono ?_
  rw [← HAH.out]
  rintro e w2 ⟨v2, rfl, hN2⟩
  obtain ⟨a2, c2, hv2⟩ := slv_form hN2.1
  subst hv2
  have hR2 := HR1.out.keep0 hN2.2.1
  obtain ⟨a', c', h1', h2'⟩ := hR2.open_
  have HF2 := Lib.hid (HF.out.nn hN2.2.1)
  have HN2 := Lib.hid (hN2.from HF.out)
  have HR2 := Lib.hid hR2
  clear hR2 hN2 h1 h3 h2'
  go_wp2_with fail
  obtain ⟨G, hG⟩ : ∃ G, w2.heap.size = G := ⟨_, rfl⟩
  have HM0 : Hid (MoreAt w2 (w2.alloc (.cells (Array.replicate R.length (.int .i64 0)) 3)) (.slice (some ⟨G, 0, none⟩) R.length R.length) R (zer R.length) 0) := Lib.hid ⟨by rw [← hG]; exact made_new w2 R.length (by omega), by simp [zer], fun i _ => by rw [zer_get]; simp⟩
  rw [hG]
  clear h1'
  generalize w2.alloc (.cells (Array.replicate R.length (.int .i64 0)) 3) = w3 at *
  have HG := Lib.hid hG
  clear hG
  go_loopg [10, 39] A.length (fun g v10 v39 wr => ∃ (k : Nat) (ms : List Int) (out : List Mv), k + g = A.length ∧ v39 = .int .i64 k ∧ MoreAt w2 wr (.slice (some ⟨G, 0, none⟩) R.length R.length) R ms k ∧ NewM 62 w2 wr v10 out ∧ out.length = k ∧ plan at_ R (zer R.length) A = (plan at_ R ms (A.drop k)).map (out ++ ·))
  case atStart => exact ⟨0, zer R.length, [], by omega, rfl, HM0.out, ⟨Sl.nil _ _ _, HM0.out.new.2.1, by simp [Value.ownBlock]⟩, rfl, by simp⟩
  case round =>
    obtain ⟨k, ms, out, hk, rfl, hm, hn, hol, hp⟩ := hrel
    have HK := Lib.hid hk
    have HM := Lib.hid hm
    have HN := Lib.hid hn
    have HOL := Lib.hid hol
    have HP := Lib.hid hp
    have HFR := Lib.hid (HF2.out.nn hm.new.2.1)
    have HRr := Lib.hid (HR2.out.keep0 hm.new.2.1)
    have HAr := Lib.hid (HN2.out.keep0 hm.new.2.1)
    clear hk hm hn hol hp
    by_cases hlt : k < A.length
    · obtain ⟨b2, o2, rfl, h5⟩ := (SlI.rd HAr.out.1 (by omega)).get k hlt
      obtain ⟨x, hx⟩ : ∃ x, A.getD k 0 = x := ⟨_, rfl⟩
      rw [hx] at h5
      have HX := Lib.hid hx
      have hk1 : (k : Int) < (A.length : Int) := by omega
      have hdr : A.drop k = x :: A.drop (k + 1) := by
        rw [List.drop_eq_getElem_cons hlt]
        congr 1
        rw [← hx]; simp [List.getD, List.getElem?_eq_getElem hlt]
      have HDR := Lib.hid hdr
      clear hx hdr
      have HLT := Lib.hid hlt
      go_wp2_with fail
      refine (best_any p gs R at_ _ ms _ HRr.out (SlI.rd HM.out.new.1 (by rw [HM.out.len]; omega)) HM.out.len (fun j hj => ⟨(HM.out.bd j hj).1, Int.le_trans (HM.out.bd j hj).2 (by omega)⟩)).mono ?_
      rintro e w4 ⟨rfl, hf4⟩
      have HFR4 := Lib.hid (HFR.out.nn hf4)
      clear h5
      by_cases hneg : bestR at_ R ms < 0
      · have hP : plan at_ R (zer R.length) A = none := by rw [HP.out, HDR.out, plan_cons, if_pos hneg]; rfl
        have e1 := HE.out
        have e2 := HL.out
        rw [hP] at e1 e2
        have HE1 := Lib.hid e1
        have HL1 := Lib.hid e2
        clear e1 e2 hP
        go_wp2_with fail
        go_ret2
        refine ⟨_, by rw [HE1.out]; rfl, ?_⟩
        rw [HL1.out]
        exact ⟨Sl.nil _ _ _, HFR4.out, by simp [Value.ownBlock]⟩
      · obtain ⟨i2, hi2, hb2, hok2⟩ := bestR_lt at_ R ms hneg
        rw [hb2]
        have HB2 := Lib.hid hb2
        have HI2 := Lib.hid hi2
        have hM4 : SlI w4 (.slice (some ⟨G, 0, none⟩) R.length R.length) ms := Sl.keep0 HM.out.new.1 hf4
        have hcell := SlI.at HM.out.len hM4 i2 hi2
        have hfrz := Sl.frz hM4 (0 + i2)
        have hbd := HM.out.bd i2 hi2
        have hms : SlI (w4.setCell ⟨G, i2, none⟩ (.int .i64 (ms.getD i2 0 + 1))) (.slice (some ⟨G, 0, none⟩) R.length R.length) (inc ms i2) := by
          have := SlI.set HM.out.len hM4 i2 hi2 (ms.getD i2 0 + 1)
          rw [Nat.zero_add] at this
          exact this
        have HMS := Lib.hid hms
        rw [Nat.zero_add] at hcell hfrz
        obtain ⟨m, hmm⟩ : ∃ m, ms.getD i2 0 = m := ⟨_, rfl⟩
        rw [hmm] at hcell hbd HMS
        have HMM := Lib.hid hmm
        have hg2 : w2.heap.size ≤ G := by rw [HG.out]; exact Nat.le_refl _
        have HF5 : Hid (Fr w2 (w4.setCell ⟨G, i2, none⟩ (.int .i64 (m + 1))) No) := Lib.hid ((HM.out.new.2.1.nn hf4).in1 (Fr.setCell _ _ _) hg2)
        have hne10 : u10.ownBlock ≠ some G := by
          obtain ⟨_, ⟨h, _⟩ | ⟨g', off', cap', cur', h, hbk, _⟩⟩ := hM4
          · cases h
          · injection h with h _ _
            injection h with h
            injection h with h1 h2 _
            subst h1
            exact Sl.ne (Sl.keep0 HN.out.1 hf4) hbk (by decide)
        have HN5 : Hid (NewM 62 w2 (w4.setCell ⟨G, i2, none⟩ (.int .i64 (m + 1))) u10 out) := Lib.hid ((HN.out.keep0 hf4).keep (Fr.setCell _ _ _) (fun g hg e => hne10 (by rw [hg, show g = G from e])) (fun g e => by rw [show g = G from e]; exact hg2))
        obtain ⟨a10, c10, rfl⟩ := HN.out.form
        have hq0 : (i2 : Int) < (R.length : Int) := by omega
        have hq1 : ¬ (i2 : Int) < 0 := by omega
        have hkk : k < 8 := by omega
        have HNE := Lib.hid hne10
        clear hM4 hms hmm hb2 hi2 hok2 hneg hne10
        go_upto_region 14 with (fail)
        generalize w4.setCell ⟨G, i2, none⟩ (.int .i64 (m + 1)) = w5 at *
        clear hcell hfrz
        go_wp2_with (at_builtin; refine wpList_appM info62 Try.underlying58 rfl (.tmp 55) (.tmp 60) rfl (.slice a10 out.length c10) out rfl ?c1 w5.heap.size (x, (at_ : Int), (i2 : Int)) rfl ?c2 ?c3 ?_)
        case c1 => exact Sl.keep0 HN5.out.1 (Fr.alloc _ _ _)
        case c2 => have := blk_new w5 (.cells #[.int .i64 x, .int .i64 (at_ : Int), .int .i64 (i2 : Int)] 62); simpa using this
        case c3 => have := HOL.out; omega
        intro v6 w6 h1' h2' h3'
        have HN6 := Lib.hid (HN5.out.app (Fr.alloc w5 (.cells #[.int .i64 x, .int .i64 (at_ : Int), .int .i64 (i2 : Int)] 62) No) h1' h2' (by simpa using h3'))
        have HM6 : Hid (NewI w2 w6 (.slice (some ⟨G, 0, none⟩) R.length R.length) (inc ms i2)) := Lib.hid
          ⟨Sl.keep (Sl.keep0 HMS.out (Fr.alloc _ _ _)) h2' (fun g hg e => HNE.out (by rw [e]; exact hg.symm ▸ rfl)), (HF5.out.nn (Fr.alloc _ _ _)).into h2' (fun g e => HN5.out.2.2 g e), fun g hg => HM.out.new.2.2 g hg⟩
        clear h1' h2' h3'
        go_wp2_with fail
        go_roundg (gk - 1)
        case measure => have := HK.out; have := HLT.out; omega
        case rel =>
          refine ⟨k + 1, inc ms i2, _, by have := HK.out; have := HLT.out; omega, by go_num, ⟨HM6.out, by rw [inc_len]; exact HM.out.len, fun j hj => ?_⟩, HN6.out, by simp [HOL.out], ?_⟩
          · rw [inc_get _ _ _ (by rw [HM.out.len]; exact HI2.out)]
            have h1 := HM.out.bd j hj
            have h2 := HM.out.bd i2 HI2.out
            split <;> omega
          · rw [HP.out, HDR.out, plan_cons, if_neg (by rw [HB2.out]; omega), HB2.out, Option.map_map, Int.toNat_natCast]
            congr 1
            funext l
            simp
    · have hdr : A.drop k = [] := List.drop_eq_nil_of_le (by omega)
      have hP : plan at_ R (zer R.length) A = some out := by rw [HP.out, hdr, plan_nil]; simp
      have e1 := HE.out
      have e2 := HL.out
      rw [hP] at e1 e2
      have HE1 := Lib.hid e1
      have HL1 := Lib.hid e2
      have hk1 : ¬ (k : Int) < (A.length : Int) := by omega
      obtain ⟨a10, c10, rfl⟩ := HN.out.form
      clear e1 e2 hP hdr
      go_wp2_with (at_builtin; refine wpList_appM info62 Try.underlying58 rfl (.tmp 63) (.tmp 67) rfl (.slice a10 out.length c10) out rfl ?c1 wr.heap.size (t, (at_ : Int), -1) rfl ?c2 ?c3 ?_)
      case c1 => exact Sl.keep0 HN.out.1 (Fr.alloc _ _ _)
      case c2 => have := blk_new wr (.cells #[.int .i64 t, .int .i64 (at_ : Int), .int .i64 (-1)] 62); simpa using this
      case c3 => have := HOL.out; have := HK.out; omega
      intro v6 w6 h1' h2' h3'
      have HN6 := Lib.hid ((HN.out.app (Fr.alloc wr (.cells #[.int .i64 t, .int .i64 (at_ : Int), .int .i64 (-1)] 62) No) h1' h2' (by simpa using h3')).from HF2.out)
      clear h1' h2' h3'
      go_wp2_with fail
      go_ret2
      refine ⟨_, by rw [HE1.out]; rfl, ?_⟩
      rw [HL1.out]
      exact HN6.out

theorem plan_any {w : World} {p : Nat} {gs : List Nat} {R : List Lan} (t : Int) (hR : RackAt w p gs R) :
    Calls Try.prog 32 #[.pointer (some ⟨p, 0, none⟩), .int .i64 t] w fun e w' => ∃ v, e = .returned (.tuple #[v, .int .i64 (planE R t)]) ∧ NewM 62 w w' v (planL R t) := by
  by_cases h : whereR t R < 0
  · have e1 : planE R t = 160 := by unfold planE; rw [if_pos h]
    have e2 : planL R t = [] := by unfold planL planO; rw [if_pos h]; rfl
    rw [e1, e2]
    exact (plan_none t hR h).mono (by rintro e w' ⟨rfl, hf⟩; exact ⟨_, rfl, Sl.nil _ _ _, hf, by simp [Value.ownBlock]⟩)
  · exact plan_some t hR h
end Go.Proofs.Ytegoilhkooneaaa
