/-
  Plain: what a pairing saves, as it is reckoned from the first pair on; and what is not used.
-/
import Derived.Test.YtggogohoakbepaaPm2
namespace Go.Proofs.Ytggogohoakbepaa
set_option linter.unusedVariables false
set_option linter.unusedSimpArgs false

/-- The pairs that are left, behind those in u: what they save; none: a retrieval twice. -/
def cst (gs : List Spot) : List Spot → List Int → List Int → Option Int
  | s :: ss, u, p :: ps => if p < 0 then cst gs ss (u ++ [p]) ps else if p ∈ u then none else (cst gs ss (u ++ [p]) ps).map (sv s (gs.getD p.toNat (0, 0)) + ·)
  | _, _, _ => some 0
/-- A total, less what is saved; or twice. -/
def res (n : Int) : Option Int → Int × Int
  | none => (0, 2)
  | some v => (n - v, 0)
/-- Each is -1, or a retrieval's number. -/
def inR (ng : Nat) (ps : List Int) : Prop := ∀ p ∈ ps, -1 ≤ p ∧ p < ng
instance (ng : Nat) (ps : List Int) : Decidable (inR ng ps) := by unfold inR; exact inferInstance
/-- What Cost answers. -/
def costA (ss gs : List Spot) (ps : List Int) : Int × Int :=
  if okL ss ∧ okL gs ∧ ps.length = ss.length ∧ inR gs.length ps then res (alone ss + alone gs) (cst gs ss [] ps) else (0, 1)

theorem cst_neg (gs ss : List Spot) (ps : List Int) (k : Nat) (h1 : k < ss.length) (h2 : k < ps.length) (hp : ps.getD k 0 < 0) : cst gs (ss.drop k) (ps.take k) (ps.drop k) = cst gs (ss.drop (k + 1)) (ps.take (k + 1)) (ps.drop (k + 1)) := by
  rw [List.drop_eq_getElem_cons h1, List.drop_eq_getElem_cons h2, cst]
  simp only [List.getD, List.getElem?_eq_getElem h2, Option.getD_some] at hp
  rw [if_pos hp, List.take_succ_eq_append_getElem h2]
theorem cst_dup (gs ss : List Spot) (ps : List Int) (k : Nat) (h1 : k < ss.length) (h2 : k < ps.length) (hp : ¬ ps.getD k 0 < 0) (hm : ps.getD k 0 ∈ ps.take k) : cst gs (ss.drop k) (ps.take k) (ps.drop k) = none := by
  rw [List.drop_eq_getElem_cons h1, List.drop_eq_getElem_cons h2, cst]
  simp only [List.getD, List.getElem?_eq_getElem h2, Option.getD_some] at hp hm
  rw [if_neg hp, if_pos hm]
theorem cst_new (gs ss : List Spot) (ps : List Int) (k : Nat) (h1 : k < ss.length) (h2 : k < ps.length) (hp : ¬ ps.getD k 0 < 0) (hm : ps.getD k 0 ∉ ps.take k) :
    cst gs (ss.drop k) (ps.take k) (ps.drop k) = (cst gs (ss.drop (k + 1)) (ps.take (k + 1)) (ps.drop (k + 1))).map (sv (ss.getD k (0, 0)) (gs.getD (ps.getD k 0).toNat (0, 0)) + ·) := by
  rw [List.drop_eq_getElem_cons h1, List.drop_eq_getElem_cons h2, cst]
  have e : ps.getD k 0 = ps[k] := by simp [List.getD, List.getElem?_eq_getElem h2]
  have e2 : ss.getD k (0, 0) = ss[k] := by simp [List.getD, List.getElem?_eq_getElem h1]
  rw [e] at hp hm
  rw [if_neg hp, if_neg hm, List.take_succ_eq_append_getElem h2, e, e2]
theorem cst_end (gs ss : List Spot) (ps : List Int) (k : Nat) (h : ss.length ≤ k) : cst gs (ss.drop k) (ps.take k) (ps.drop k) = some 0 := by
  rw [List.drop_eq_nil_of_le h]
  cases ps.drop k <;> rfl
theorem res_map (n v : Int) (o : Option Int) : res n (o.map (v + ·)) = res (n - v) o := by
  cases o with
  | none => rfl
  | some x => simp [res]; omega

theorem cst_le (gs : List Spot) (hg : ∀ s ∈ gs, True) : ∀ (ss : List Spot) (u ps : List Int) (v : Int), cst gs ss u ps = some v → 0 ≤ v ∧ v ≤ alone ss
  | [], u, ps, v, h => by
    have : v = 0 := by cases ps <;> simp [cst] at h <;> exact h.symm
    subst this
    simp [alone]
  | s :: ss, u, [], v, h => by
    have : v = 0 := by simp [cst] at h; exact h.symm
    subst this
    have h1 : ∀ l : List Spot, 0 ≤ alone l := by
      intro l
      induction l with
      | nil => simp [alone]
      | cons a r ih => have := hm_nonneg a; simp [alone] at ih ⊢; omega
    exact ⟨Int.le_refl _, h1 _⟩
  | s :: ss, u, p :: ps, v, h => by
    have e : alone (s :: ss) = 2 * hm s + alone ss := by simp [alone]
    have hn := hm_nonneg s
    rw [cst] at h
    split at h
    · have := cst_le gs hg ss _ ps v h
      omega
    · split at h
      · cases h
      · cases hc : cst gs ss (u ++ [p]) ps with
        | none => rw [hc] at h; cases h
        | some x =>
          rw [hc] at h
          simp only [Option.map_some, Option.some.injEq] at h
          have := cst_le gs hg ss _ ps x hc
          have := sv_le_s s (gs.getD p.toNat (0, 0))
          have := sv_nonneg s (gs.getD p.toNat (0, 0))
          omega

/-! ### Pairings -/
theorem pr_of_cst (gs : List Spot) : ∀ (ss : List Spot) (u ps : List Int) (t : Nat) (v : Int), ps.length = ss.length → inR gs.length ps → (∀ g, g < gs.length → t.testBit g = decide ((g : Int) ∈ u)) → cst gs ss u ps = some v → Pr gs ss t ps v
  | [], u, [], t, v, _, _, _, h => by
    simp [cst] at h
    subst h
    exact .nil t
  | [], u, p :: ps, t, v, hl, _, _, _ => by simp at hl
  | s :: ss, u, [], t, v, hl, _, _, _ => by simp at hl
  | s :: ss, u, p :: ps, t, v, hl, hr, ht, h => by
    have hp := hr p (by simp)
    have hr' : inR gs.length ps := fun x hx => hr x (by simp [hx])
    rw [cst] at h
    split at h
    · rename_i hneg
      obtain rfl : p = -1 := by omega
      refine .skip (pr_of_cst gs ss (u ++ [-1]) ps t v (by simpa using hl) hr' (fun g hg => ?_) h)
      rw [ht g hg]
      simp
    · rename_i hneg
      split at h
      · cases h
      · rename_i hmem
        cases hc : cst gs ss (u ++ [p]) ps with
        | none => rw [hc] at h; cases h
        | some x =>
          rw [hc] at h
          simp only [Option.map_some, Option.some.injEq] at h
          subst h
          obtain ⟨n, rfl⟩ : ∃ n : Nat, p = (n : Int) := ⟨p.toNat, by omega⟩
          have hn : n < gs.length := by omega
          refine .take n hn (by rw [ht n hn]; simpa using hmem) (pr_of_cst gs ss (u ++ [(n : Int)]) ps (t ||| 2 ^ n) x (by simpa using hl) hr' (fun g hg => ?_) hc)
          rw [tb_or, ht g hg]
          by_cases e : n = g
          · subst e; simp
          · have : ¬ (g : Int) = (n : Int) := by omega
            simp [e, this]
theorem cst_of_pr {gs ss : List Spot} {t : Nat} {ps : List Int} {v : Int} (h : Pr gs ss t ps v) : ∀ u : List Int, (∀ g, g < gs.length → t.testBit g = decide ((g : Int) ∈ u)) → cst gs ss u ps = some v ∧ inR gs.length ps ∧ ps.length = ss.length := by
  induction h with
  | nil t => intro u hu; exact ⟨rfl, by simp [inR], rfl⟩
  | @skip s r t p v h ih =>
    intro u hu
    obtain ⟨h1, h2, h3⟩ := ih (u ++ [-1]) (fun g hg => by rw [hu g hg]; simp)
    refine ⟨?_, ?_, by simp [h3]⟩
    · rw [cst, if_pos (by decide)]; exact h1
    · intro x hx
      rcases List.mem_cons.1 hx with rfl | hx
      · omega
      · exact h2 x hx
  | @take s r t p v g hg ht h ih =>
    intro u hu
    obtain ⟨h1, h2, h3⟩ := ih (u ++ [(g : Int)]) (fun x hx => by
      rw [tb_or, hu x hx]
      by_cases e : g = x
      · subst e; simp
      · have : ¬ (x : Int) = (g : Int) := by omega
        simp [e, this])
    refine ⟨?_, ?_, by simp [h3]⟩
    · rw [cst, if_neg (by omega), if_neg (by have := hu g hg; rw [ht] at this; simpa using this.symm), h1]
      simp
    · intro x hx
      rcases List.mem_cons.1 hx with rfl | hx
      · omega
      · exact h2 x hx

/-! ### What is not used -/
def Nn (gs : List Spot) (u : List Int) : Nat → Int
  | 0 => 0
  | j + 1 => Nn gs u j + if (j : Int) ∈ u then 0 else 2 * hm (gs.getD j (0, 0))
theorem Nn_neg (gs : List Spot) (u : List Int) (p : Int) (hp : p < 0) (j : Nat) : Nn gs (u ++ [p]) j = Nn gs u j := by
  induction j with
  | zero => rfl
  | succ j ih =>
    unfold Nn
    have : ((j : Int) ∈ u ++ [p]) ↔ (j : Int) ∈ u := by simp; omega
    simp only [this, ih]
theorem Nn_new (gs : List Spot) (u : List Int) (n : Nat) (hn : (n : Int) ∉ u) (j : Nat) : Nn gs (u ++ [(n : Int)]) j = if n < j then Nn gs u j - 2 * hm (gs.getD n (0, 0)) else Nn gs u j := by
  induction j with
  | zero => rfl
  | succ j ih =>
    unfold Nn
    rw [ih]
    by_cases e : n = j
    · subst e
      rw [if_neg (show ¬ n < n by omega), if_pos (show n < n + 1 by omega), if_pos (show (n : Int) ∈ u ++ [(n : Int)] by simp), if_neg hn]
      omega
    · have : ((j : Int) ∈ u ++ [(n : Int)]) ↔ (j : Int) ∈ u := by simp; omega
      simp only [this]
      by_cases h : n < j
      · rw [if_pos h, if_pos (show n < j + 1 by omega)]; omega
      · rw [if_neg h, if_neg (show ¬ n < j + 1 by omega)]
theorem Nn_all (gs : List Spot) : Nn gs [] gs.length = alone gs := by
  have : ∀ j, j ≤ gs.length → Nn gs [] j = alone (gs.take j) := by
    intro j
    induction j with
    | zero => intro _; simp [Nn, alone]
    | succ j ih =>
      intro hj
      rw [Nn, ih (by omega), List.take_succ_eq_append_getElem (by omega), alone_append]
      simp [alone, List.getD, List.getElem?_eq_getElem (show j < gs.length by omega)]
  rw [this _ (Nat.le_refl _), List.take_of_length_le (Nat.le_refl _)]
theorem Nn_bd (gs : List Spot) (u : List Int) (hg : ∀ s ∈ gs, okS s) (j : Nat) (hj : j ≤ gs.length) : 0 ≤ Nn gs u j ∧ Nn gs u j ≤ 2000 * j := by
  induction j with
  | zero => simp [Nn]
  | succ j ih =>
    have h1 := ih (by omega)
    have h2 := hm_ok (hg (gs.getD j (0, 0)) (by simp [List.getD, List.getElem?_eq_getElem (show j < gs.length by omega)]))
    have h3 := hm_nonneg (gs.getD j (0, 0))
    unfold Nn
    split <;> omega

end Go.Proofs.Ytggogohoakbepaa
