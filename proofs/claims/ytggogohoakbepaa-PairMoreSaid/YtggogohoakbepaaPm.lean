/-
  Plain: spots, drives, the most that can be saved (as the program reckons it, over sets of taken retrievals as bits), and pairings.
-/
namespace Go.Proofs.Ytggogohoakbepaa
set_option linter.unusedVariables false
set_option linter.unusedSimpArgs false

abbrev Spot := Int × Int
def apart (a b : Int) : Int := max (a - b) (b - a)
def drv (a b : Spot) : Int := max (apart a.1 b.1) (apart a.2 b.2)
def hm (a : Spot) : Int := drv (0, 0) a
def sv (s g : Spot) : Int := hm s + hm g - drv s g
def alone (l : List Spot) : Int := (l.map (fun s => 2 * hm s)).sum
/-- A spot that may be. -/
def okS (s : Spot) : Prop := 0 ≤ s.1 ∧ s.1 ≤ 1000 ∧ 0 ≤ s.2 ∧ s.2 ≤ 1000
instance (s : Spot) : Decidable (okS s) := by unfold okS; exact inferInstance
/-- Spots that may be. -/
def okL (l : List Spot) : Prop := l.length ≤ 6 ∧ ∀ s ∈ l, okS s
instance (l : List Spot) : Decidable (okL l) := by unfold okL; exact inferInstance

theorem drv_comm (a b : Spot) : drv a b = drv b a := by unfold drv apart; omega
theorem drv_nonneg (a b : Spot) : 0 ≤ drv a b := by unfold drv apart; omega
theorem drv_tri (a b c : Spot) : drv a b ≤ drv a c + drv c b := by unfold drv apart; omega
theorem drv_zero (a b : Spot) : drv a b = 0 ↔ a = b := by
  obtain ⟨a1, a2⟩ := a
  obtain ⟨b1, b2⟩ := b
  unfold drv apart
  simp only [Prod.mk.injEq]
  omega
theorem hm_nonneg (a : Spot) : 0 ≤ hm a := drv_nonneg _ _
theorem hm_ok {a : Spot} (h : okS a) : hm a ≤ 1000 := by unfold okS at h; unfold hm drv apart; simp only; omega
theorem sv_nonneg (s g : Spot) : 0 ≤ sv s g := by
  have := drv_tri s g (0, 0)
  rw [drv_comm s (0, 0)] at this
  unfold sv hm; omega
theorem sv_le_s (s g : Spot) : sv s g ≤ 2 * hm s := by
  have := drv_tri (0, 0) g s
  unfold sv hm; omega
theorem sv_comm (s g : Spot) : sv s g = sv g s := by unfold sv; rw [drv_comm]; omega
theorem sv_le_g (s g : Spot) : sv s g ≤ 2 * hm g := by rw [sv_comm]; exact sv_le_s _ _
theorem sv_le {s g : Spot} (hs : okS s) : sv s g ≤ 2000 := by have := sv_le_s s g; have := hm_ok hs; omega
theorem drv_ok {s g : Spot} (hs : okS s) (hg : okS g) : drv s g ≤ 1000 := by unfold okS at hs hg; unfold drv apart; omega

/-! ### The most that can be saved -/
/-- With the first k retrievals looked at. -/
def bst (gs : List Spot) (s : Spot) (r : Nat → Int) (t : Nat) : Nat → Int
  | 0 => r t
  | k + 1 => if t.testBit k = true then bst gs s r t k else max (bst gs s r t k) (sv s (gs.getD k (0, 0)) + r (t ||| 2 ^ k))
def M (gs : List Spot) : List Spot → Nat → Int
  | [], _ => 0
  | s :: r, t => bst gs s (M gs r) t gs.length

theorem bst_ge0 (gs : List Spot) (s : Spot) (r : Nat → Int) (t k : Nat) : r t ≤ bst gs s r t k := by
  induction k with
  | zero => exact Int.le_refl _
  | succ k ih => unfold bst; split <;> omega
theorem bst_ge (gs : List Spot) (s : Spot) (r : Nat → Int) (t k g : Nat) (hg : g < k) (ht : t.testBit g = false) : sv s (gs.getD g (0, 0)) + r (t ||| 2 ^ g) ≤ bst gs s r t k := by
  induction k with
  | zero => omega
  | succ k ih =>
    unfold bst
    by_cases e : g = k
    · subst e
      rw [if_neg (by simp [ht])]; omega
    · have := ih (by omega)
      split <;> omega
theorem bst_at (gs : List Spot) (s : Spot) (r : Nat → Int) (t k : Nat) : bst gs s r t k = r t ∨ ∃ g, g < k ∧ t.testBit g = false ∧ bst gs s r t k = sv s (gs.getD g (0, 0)) + r (t ||| 2 ^ g) := by
  induction k with
  | zero => exact .inl rfl
  | succ k ih =>
    unfold bst
    by_cases h : t.testBit k = true
    · rw [if_pos h]
      rcases ih with ih | ⟨g, h1, h2, h3⟩
      · exact .inl ih
      · exact .inr ⟨g, by omega, h2, h3⟩
    · rw [if_neg h]
      by_cases hm : bst gs s r t k ≤ sv s (gs.getD k (0, 0)) + r (t ||| 2 ^ k)
      · exact .inr ⟨k, by omega, by simpa using h, by omega⟩
      · rw [show max (bst gs s r t k) (sv s (gs.getD k (0, 0)) + r (t ||| 2 ^ k)) = bst gs s r t k by omega]
        rcases ih with ih | ⟨g, h1, h2, h3⟩
        · exact .inl ih
        · exact .inr ⟨g, by omega, h2, h3⟩

theorem M_nonneg (gs ss : List Spot) : ∀ t, 0 ≤ M gs ss t := by
  induction ss with
  | nil => intro t; exact Int.le_refl _
  | cons s r ih => intro t; unfold M; have := bst_ge0 gs s (M gs r) t gs.length; have := ih t; omega
theorem bst_le (gs : List Spot) (s : Spot) (r : Nat → Int) (t k : Nat) (B : Int) (hs : ∀ g, sv s g ≤ 2000) (hr : ∀ t, r t ≤ B) : bst gs s r t k ≤ B + 2000 := by
  rcases bst_at gs s r t k with h | ⟨g, _, _, h⟩
  · have := hr t; omega
  · have := hr (t ||| 2 ^ g); have := hs (gs.getD g (0, 0)); omega
theorem M_le (gs ss : List Spot) (hs : ∀ s ∈ ss, okS s) : ∀ t, M gs ss t ≤ 2000 * ss.length := by
  induction ss with
  | nil => intro t; simp [M]
  | cons s r ih =>
    intro t
    have := bst_le gs s (M gs r) t gs.length (2000 * r.length) (fun g => sv_le (hs s (by simp))) (ih (fun x hx => hs x (by simp [hx])))
    unfold M; simp; omega

/-! ### The pairing that is told -/
/-- The first retrieval that attains the most. -/
def fstg (gs : List Spot) (s : Spot) (r : Nat → Int) (t : Nat) (m : Int) : Option Nat :=
  (List.range gs.length).find? fun g => !t.testBit g && decide (m = sv s (gs.getD g (0, 0)) + r (t ||| 2 ^ g))
def R (gs : List Spot) : List Spot → Nat → List Int
  | [], _ => []
  | s :: r, t => if M gs (s :: r) t = M gs r t then -1 :: R gs r t else match fstg gs s (M gs r) t (M gs (s :: r) t) with
    | some g => (g : Int) :: R gs r (t ||| 2 ^ g)
    | none => R gs r t

theorem fstg_some {gs : List Spot} {s : Spot} {r : Nat → Int} {t : Nat} {m : Int} {g : Nat} (h : fstg gs s r t m = some g) : g < gs.length ∧ t.testBit g = false ∧ m = sv s (gs.getD g (0, 0)) + r (t ||| 2 ^ g) ∧
    ∀ j, j < g → ¬ (t.testBit j = false ∧ m = sv s (gs.getD j (0, 0)) + r (t ||| 2 ^ j)) := by
  unfold fstg at h
  rw [List.find?_range_eq_some] at h
  obtain ⟨h1, h2, h3⟩ := h
  simp only [Bool.and_eq_true, Bool.not_eq_true', decide_eq_true_eq] at h1
  refine ⟨by simpa using h2, h1.1, h1.2, fun j hj hc => ?_⟩
  have := h3 j hj
  simp only [Bool.not_and, Bool.not_not, Bool.or_eq_true, Bool.not_eq_true', decide_eq_false_iff_not] at this
  rcases this with h | h
  · rw [hc.1] at h; cases h
  · exact h hc.2
theorem fstg_ne {gs : List Spot} {s : Spot} {rs : List Spot} {t : Nat} (h : M gs (s :: rs) t ≠ M gs rs t) : ∃ g, fstg gs s (M gs rs) t (M gs (s :: rs) t) = some g := by
  cases e : fstg gs s (M gs rs) t (M gs (s :: rs) t) with
  | some g => exact ⟨g, rfl⟩
  | none =>
    exfalso
    rcases bst_at gs s (M gs rs) t gs.length with h' | ⟨g, h1, h2, h3⟩
    · exact h h'
    · unfold fstg at e
      rw [List.find?_eq_none] at e
      have := e g (by simpa using h1)
      simp only [Bool.and_eq_true, Bool.not_eq_true', decide_eq_true_eq, not_and] at this
      exact this h2 h3

/-! ### Pairings -/
/-- What a pairing of these stores with some retrievals taken saves. -/
inductive Pr (gs : List Spot) : List Spot → Nat → List Int → Int → Prop
  | nil (t : Nat) : Pr gs [] t [] 0
  | skip {s : Spot} {r : List Spot} {t : Nat} {p : List Int} {v : Int} (h : Pr gs r t p v) : Pr gs (s :: r) t (-1 :: p) v
  | take {s : Spot} {r : List Spot} {t : Nat} {p : List Int} {v : Int} (g : Nat) (hg : g < gs.length) (ht : t.testBit g = false) (h : Pr gs r (t ||| 2 ^ g) p v) : Pr gs (s :: r) t ((g : Int) :: p) (sv s (gs.getD g (0, 0)) + v)

theorem Pr.le {gs ss : List Spot} {t : Nat} {p : List Int} {v : Int} (h : Pr gs ss t p v) : v ≤ M gs ss t := by
  induction h with
  | nil t => exact Int.le_refl _
  | @skip s r t p v h ih => unfold M; have := bst_ge0 gs s (M gs r) t gs.length; omega
  | @take s r t p v g hg ht h ih => unfold M; have := bst_ge gs s (M gs r) t gs.length g hg ht; omega
theorem Pr.best (gs ss : List Spot) : ∀ t, Pr gs ss t (R gs ss t) (M gs ss t) := by
  induction ss with
  | nil => intro t; exact .nil t
  | cons s r ih =>
    intro t
    by_cases e : M gs (s :: r) t = M gs r t
    · rw [R, if_pos e, e]
      exact .skip (ih t)
    · obtain ⟨g, hg⟩ := fstg_ne e
      rw [R, if_neg e, hg]
      obtain ⟨h1, h2, h3, _⟩ := fstg_some hg
      rw [h3]
      exact .take g h1 h2 (ih _)
theorem Pr.len {gs ss : List Spot} {t : Nat} {p : List Int} {v : Int} (h : Pr gs ss t p v) : p.length = ss.length := by
  induction h with
  | nil t => rfl
  | skip h ih => simp [ih]
  | take g hg ht h ih => simp [ih]

end Go.Proofs.Ytggogohoakbepaa
