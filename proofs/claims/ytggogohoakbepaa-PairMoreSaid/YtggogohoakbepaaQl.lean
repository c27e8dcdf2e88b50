/-
  A region that draws its order, whose operations but the last only read and whose callees may lay blocks of their own; the last operation waits for all others: walked once, in the text's order.
-/
import Derived.Test.YtggogohoakbepaaM
import Derived.Lib.QuietBelow
namespace Go.Proofs.Ytggogohoakbepaa
open Go.RowKit Go.Sort
set_option linter.unusedVariables false
set_option linter.unusedSimpArgs false

/-- Each operation waits for earlier ones alone, and so do the guards; the last one has no guard and waits for all. -/
def lastB (l : List Oper) (n : Nat) : Bool :=
  decide (l.length = n + 1) && Region.lexB .any (l.take n).toArray &&
  ((List.range n).all fun i => match l[i]? with
    | some oi => oi.after.all (fun e => decide (e.on < i)) && (match oi.guard with | none => true | some g => decide (g.1 < n))
    | none => false) &&
  (match l[n]? with
    | some o => o.guard.isNone && o.after.all (fun e => decide (e.on < n)) && (List.range n).all (fun i => o.after.any fun e => Region.binds .any e && (e.on == i || (match l[e.on]? with | some oj => oj.after.any (fun e' => Region.binds .any e' && e'.on == i) | none => false)))
    | none => false)

section
variable {P : Program}

structure LastOk (l : List Oper) (n : Nat) (o : Oper) : Prop where
  len : l.length = n + 1
  at_ : l[n]? = some o
  back : ∀ i oi, i < n → l[i]? = some oi → (∀ e ∈ oi.after, e.on < i) ∧ ∀ g, oi.guard = some g → g.1 < n
  guard : o.guard = none
  backo : ∀ e ∈ o.after, e.on < n
  waits : ∀ i, i < n → ∃ e ∈ o.after, Region.binds .any e = true ∧ (e.on = i ∨ ∃ oj, l[e.on]? = some oj ∧ ∃ e' ∈ oj.after, Region.binds .any e' = true ∧ e'.on = i)

theorem lastOk_of {l : List Oper} {n : Nat} (h : lastB l n = true) : Region.lexB .any (l.take n).toArray = true ∧ ∃ o, LastOk l n o := by
  unfold lastB at h
  simp only [Bool.and_eq_true, decide_eq_true_eq] at h
  obtain ⟨⟨⟨h1, h2⟩, h3⟩, h4⟩ := h
  refine ⟨h2, ?_⟩
  cases ho : l[n]? with
  | none => rw [ho] at h4; cases h4
  | some o =>
    rw [ho] at h4
    simp only [Bool.and_eq_true, Option.isNone_iff_eq_none] at h4
    refine ⟨o, h1, ho, fun i oi hi hoi => ?_, h4.1.1, fun e he => by have := Array.all_eq_true_iff_forall_mem.1 h4.1.2 e he; simpa using this, fun i hi => ?_⟩
    · have := List.all_eq_true.1 h3 i (by simpa using hi)
      rw [hoi] at this
      simp only [Bool.and_eq_true] at this
      refine ⟨fun e he => ?_, fun g hg => ?_⟩
      · have := Array.all_eq_true_iff_forall_mem.1 this.1 e he
        simpa using this
      · have h5 := this.2
        rw [hg] at h5
        simpa using h5
    · have := List.all_eq_true.1 h4.2 i (by simpa using hi)
      rw [Array.any_eq_true] at this
      obtain ⟨k, hk, h5⟩ := this
      simp only [Bool.and_eq_true, beq_iff_eq, Bool.or_eq_true] at h5
      refine ⟨_, Array.getElem_mem hk, h5.1, h5.2.imp id fun h6 => ?_⟩
      cases hoj : l[(o.after[k]).on]? with
      | none => rw [hoj] at h6; cases h6
      | some oj =>
        rw [hoj] at h6
        simp only [Array.any_eq_true] at h6
        obtain ⟨k', hk', h7⟩ := h6
        simp only [Bool.and_eq_true, beq_iff_eq] at h7
        exact ⟨oj, rfl, _, Array.getElem_mem hk', h7.1, h7.2⟩

end
section
variable {P : Program} {l : List Oper} {n : Nat} {o : Oper} {C : World → Prop} {Q : Exit → Act → World → Prop}

theorem take_at (j : Nat) (hj : j < n) : (l.take n).toArray[j]? = l.toArray[j]? := by simp [List.getElem?_take, hj]
theorem pushD (listed : Array Bool) (j : Nat) (hj : j < listed.size) (d : Bool) : (listed.push false).getD j d = listed.getD j d := by
  simp only [Array.getD_eq_getD_getElem?]
  rw [Array.getElem?_push]
  rw [if_neg (by omega)]
theorem pushL (listed : Array Bool) (d : Bool) : (listed.push false).getD listed.size d = false := by simp [Array.getD_eq_getD_getElem?]
theorem getD_same (listed : Array Bool) (j : Nat) (hj : j < listed.size) (d d' : Bool) : listed.getD j d = listed.getD j d' := by
  simp [Array.getD_eq_getD_getElem?, hj]

/-- What may come up in the whole is what may come up ahead of the last one. -/
theorem ready_head (H : LastOk l n o) {listed : Array Bool} (hs : listed.size = n) {i : Nat} (hi : i < n) :
    i ∈ Region.ready .any l.toArray (listed.push false) ↔ i ∈ Region.ready .any (l.take n).toArray listed := by
  rw [mem_ready, mem_ready, pushD _ _ (by omega), take_at i hi]
  constructor
  · rintro ⟨h1, oi, ho, hall⟩
    refine ⟨h1, oi, ho, fun e he hb => ?_⟩
    have := hall e he hb
    have hlt := (H.back i oi hi (by simpa using ho)).1 e he
    rwa [pushD _ _ (by omega)] at this
  · rintro ⟨h1, oi, ho, hall⟩
    refine ⟨h1, oi, ho, fun e he hb => ?_⟩
    have hlt := (H.back i oi hi (by simpa using ho)).1 e he
    rw [pushD _ _ (by omega)]
    exact hall e he hb

/-- If nothing may come up, all have come up. -/
theorem all_listed (H : LastOk l n o) {listed : Array Bool} (hs : listed.size = n) (h : Region.ready .any (l.take n).toArray listed = []) : ∀ i, i < n → listed.getD i true = true := by
  intro i
  induction i using Nat.strongRecOn with
  | _ i ih =>
    intro hi
    cases hd : listed.getD i true with
    | true => rfl
    | false =>
      exfalso
      have hl : i < l.length := by have := H.len; omega
      have : i ∈ Region.ready .any (l.take n).toArray listed := by
        rw [mem_ready, take_at i hi]
        refine ⟨hd, l[i], by simp [hl], fun e he _ => ?_⟩
        have hlt := (H.back i _ hi (List.getElem?_eq_getElem hl)).1 e he
        rw [getD_same _ _ (by omega) false true]
        exact ih _ hlt (by omega)
      rw [h] at this
      cases this

/-- What has come up has come up behind what it waits for. -/
def Cl (l : List Oper) (n : Nat) (listed : Array Bool) : Prop := ∀ j oj, j < n → l[j]? = some oj → listed.getD j false = true → ∀ e ∈ oj.after, Region.binds .any e = true → listed.getD e.on false = true
theorem Cl.set {listed : Array Bool} (h : Cl l n listed) (hs : listed.size = n) {i : Nat} (hi : i ∈ Region.ready .any (l.take n).toArray listed) : Cl l n (listed.setIfInBounds i true) := by
  rw [mem_ready] at hi
  obtain ⟨_, oi, hoi, hall⟩ := hi
  intro j oj hj hoj hl e he hb
  by_cases hij : j = i
  · subst hij
    rw [take_at j hj] at hoi
    obtain rfl : oj = oi := by simp at hoi; rw [hoj] at hoi; injection hoi
    exact getD_set_true (hall e he hb)
  · rw [getD_set_ne false (fun h => hij h.symm)] at hl
    exact getD_set_true (h j oj hj hoj hl e he hb)

theorem ready_last (H : LastOk l n o) {listed : Array Bool} (hs : listed.size = n) (hcl : Cl l n listed) {i : Nat} (hi : i ∈ Region.ready .any l.toArray (listed.push false)) (hn : n ≤ i) : i = n ∧ ∀ j, j < n → listed.getD j true = true := by
  rw [mem_ready] at hi
  obtain ⟨h1, oi, ho, hall⟩ := hi
  have hlt : i < l.length := by
    have := (Array.getElem?_eq_some_iff.1 ho).1
    simpa using this
  have : i = n := by have := H.len; omega
  subst this
  refine ⟨rfl, fun j hj => ?_⟩
  obtain rfl : o = oi := by have := H.at_; simp at ho; rw [this] at ho; injection ho
  obtain ⟨e, he, hb, hon⟩ := H.waits j hj
  have := hall e he hb
  have hlt' := H.backo e he
  rw [pushD _ _ (by omega)] at this
  rw [getD_same _ _ (by omega) true false]
  rcases hon with hon | ⟨oj, hoj, e', he', hb', hon⟩
  · rwa [hon] at this
  · have h2 := hcl e.on oj hlt' hoj this e' he' hb'
    rwa [hon] at h2

theorem ready_done (H : LastOk l n o) {listed : Array Bool} (hs : listed.size = n) (hall : ∀ i, i < n → listed.getD i true = true) : Region.ready .any l.toArray ((listed.push false).setIfInBounds n true) = [] := by
  rw [List.eq_nil_iff_forall_not_mem]
  intro j hj
  rw [mem_ready] at hj
  obtain ⟨h1, oj, ho, _⟩ := hj
  have hlt : j < l.length := by
    have := (Array.getElem?_eq_some_iff.1 ho).1
    simpa using this
  have hl := H.len
  by_cases e : j = n
  · subst e
    simp [Array.getD_eq_getD_getElem?, hs] at h1
  · rw [getD_set_ne true (fun h => e h.symm), pushD _ _ (by omega), hall j (by omega)] at h1
    cases h1

/-- The last operation. -/
theorem last_step (H : LastOk l n o) {listed : Array Bool} (hs : listed.size = n) (hall : ∀ i, i < n → listed.getD i true = true) {a : Act} {w : World} (h : wpList P l.toArray Q [o] a w) (fuel : Nat) :
    wpAny P .any l.toArray Q (fuel + 1) (listed.push false) a w := by
  have hin : n ∈ Region.ready .any l.toArray (listed.push false) := by
    rw [mem_ready]
    refine ⟨by rw [← hs]; exact pushL _ _, o, by simpa using H.at_, fun e he hb => ?_⟩
    have hlt := H.backo e he
    rw [pushD _ _ (by omega), getD_same _ _ (by omega) false true]
    exact hall _ hlt
  refine ⟨fun h0 => (by rw [h0] at hin; cases hin), fun i hi => ?_⟩
  have hl := H.len
  have hni : i = n := by
    by_cases hlt : i < n
    · exfalso
      rw [mem_ready, pushD _ _ (by omega), hall i hlt] at hi
      cases hi.1
    · rw [mem_ready] at hi
      obtain ⟨_, oi, ho, _⟩ := hi
      have := (Array.getElem?_eq_some_iff.1 ho).1
      simp at this
      omega
  subst hni
  have hw : wpOp P l.toArray Q i (wpList P l.toArray Q []) a w := by
    unfold wpOp
    have := H.at_
    simp only [List.getElem?_toArray, this]
    exact h
  refine wpOp_mono (fun a' w' h' => ?_) hw
  have hd := ready_done (l := l) H hs hall
  cases fuel with
  | zero => exact ⟨hd, h'⟩
  | succ f => exact ⟨fun _ => h', fun j hj => by rw [hd] at hj; cases hj⟩

theorem qOp_whole (H : LastOk l n o) {i : Nat} (hi : i < n) {K : Act → Prop} {a : Act} (h : qOp P (l.take n).toArray C i K a) : qOp P l.toArray C i K a := by
  unfold qOp at *
  have hl := H.len
  have ho : l.toArray[i]? = some l[i] := by simp [show i < l.length by omega]
  rw [take_at i hi, ho] at h
  rw [ho]
  simp only at h ⊢
  have hg := (H.back i l[i] hi (List.getElem?_eq_getElem (by omega))).2
  have e : Region.wanted l[i] (yielded l.toArray a.tmps) = Region.wanted l[i] (yielded (l.take n).toArray a.tmps) := by
    unfold Region.wanted
    cases hgu : l[i].guard with
    | none => rfl
    | some g =>
      have := hg g hgu
      simp only
      unfold yielded
      rw [take_at g.1 this]
  rw [e]
  exact h

theorem wpAny_last (H : LastOk l n o) : ∀ (fuel : Nat) (listed : Array Bool) (a : Act) (w : World), listed.size = n → Cl l n listed → C w →
    wpAnyQ P .any (l.take n).toArray C (fun a' => ∀ w', C w' → wpList P l.toArray Q [o] a' w') fuel listed a → wpAny P .any l.toArray Q (fuel + 1) (listed.push false) a w
  | 0, listed, a, w, hs, hcl, hC, h => last_step H hs (all_listed H hs h.1) (h.2 w hC) 0
  | fuel + 1, listed, a, w, hs, hcl, hC, h => by
    by_cases h0 : Region.ready .any (l.take n).toArray listed = []
    · exact last_step H hs (all_listed H hs h0) (h.1 h0 w hC) (fuel + 1)
    · obtain ⟨k, r, hk⟩ := List.exists_cons_of_ne_nil h0
      have hkr : k ∈ Region.ready .any (l.take n).toArray listed := by rw [hk]; simp
      have hkn : k < n := by
        rw [mem_ready] at hkr
        obtain ⟨_, ok, ho, _⟩ := hkr
        have := (Array.getElem?_eq_some_iff.1 ho).1
        simp at this
        omega
      have hku := (mem_ready.1 hkr).1
      refine ⟨fun h1 => ?_, fun i hi => ?_⟩
      · have := (ready_head H hs hkn).2 hkr
        rw [h1] at this
        cases this
      · have hin : i < n := by
          by_cases hlt : i < n
          · exact hlt
          · exfalso
            have := (ready_last H hs hcl hi (by omega)).2 k hkn
            rw [hku] at this
            cases this
        have hq := qOp_whole H hin (h.2 i ((ready_head H hs hin).1 hi))
        refine wpOp_of_qOp hC (fun a' w' hC' hK => ?_) hq
        have e : (listed.push false).setIfInBounds i true = (listed.setIfInBounds i true).push false := by
          apply Array.ext_getElem?
          intro j
          simp only [Array.getElem?_push, Array.getElem?_setIfInBounds, Array.size_push, Array.size_setIfInBounds]
          by_cases e1 : i = j
          · subst e1
            simp [hs, hin, show i < n + 1 by omega, show ¬ i = n by omega]
          · simp [e1]
        rw [e]
        exact wpAny_last H fuel _ a' w' (by simpa using hs) (hcl.set hs ((ready_head H hs hin).1 hi)) hC' hK

theorem wpAnyQ_mono {md : Region.Mode} {ops : Array Oper} {R R' : Act → Prop} (hR : ∀ a, R a → R' a) : ∀ (fuel : Nat) (listed : Array Bool) (a : Act), wpAnyQ P md ops C R fuel listed a → wpAnyQ P md ops C R' fuel listed a
  | 0, _, _, h => ⟨h.1, hR _ h.2⟩
  | fuel + 1, _, _, h => ⟨fun h0 => hR _ (h.1 h0), fun i hi => qOp_mono (fun a' h' => wpAnyQ_mono hR fuel _ a' h') (h.2 i hi)⟩

/-- **ONE WALK.** -/
theorem wp_region_last {id : Nat} {a : Act} {w : World} (n : Nat) (hm : P.follows .mixedOrders = true) (hB : lastB l n = true)
    (h : wpQuiet P (l.take n).toArray (fun w' => ∃ p : Regrown, w' = grow (redrawn w p.d) p.os) (fun a' => ∀ w', Fr w w' No → wpList P l.toArray Q (l.drop n) a' w') (l.take n) a) : (Code.region id l.toArray true).wp P Q a w := by
  obtain ⟨hlex, o, H⟩ := lastOk_of hB
  have hl := H.len
  have hd : l.drop n = [o] := by
    rw [List.drop_eq_getElem_cons (by omega), List.drop_eq_nil_of_le (by omega)]
    have := H.at_
    rw [List.getElem?_eq_getElem (by omega)] at this
    injection this with this
    rw [this]
  rw [hd] at h
  simp only [Region.lexB, Bool.and_eq_true] at hlex
  have htl : (l.take n).length = n := by simp; omega
  have h1 := wpAnyQ_lex (P := P) (C := fun w' => ∃ p : Regrown, w' = grow (redrawn w p.d) p.os) (md := .any) hlex.1 (l.take n) 0 (Array.replicate n false) a (by simp)
    (by have := hlex.2; simp only [List.size_toArray] at this; rw [htl] at this ⊢; exact this) h
  rw [htl] at h1
  refine wp_region_any hm ?_
  have h2 := wpAny_last (P := P) (Q := Q) (C := fun w' => ∃ p : Regrown, w' = grow (redrawn w p.d) p.os) H n (Array.replicate n false) a { w with drawn := w.drawn + 1 } (by simp) (fun j oj hj _ hl => by simp [Array.getD_eq_getD_getElem?, hj] at hl) ⟨⟨w.drawn + 1, #[]⟩, by rw [grow_empty]; rfl⟩ (by
    refine wpAnyQ_mono (fun a' h' w' hw' => h' w' ?_) _ _ _ h1
    obtain ⟨p, rfl⟩ := hw'
    exact Fr.of_below (below_regrown w p.d p.os) No)
  have e : (Array.replicate l.toArray.size false) = (Array.replicate n false).push false := by
    simp only [List.size_toArray, hl]
    rw [Array.replicate_succ]
  rw [e]
  simpa only [List.size_toArray, hl] using h2
end
end Go.Proofs.Ytggogohoakbepaa
