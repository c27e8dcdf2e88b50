/-
  Plain: the document's search finds what the program tells.
-/
import Derived.Test.YtggogohoakbepaaPm3
namespace Go.Proofs.Ytggogohoakbepaa
set_option linter.unusedVariables false
set_option linter.unusedSimpArgs false

/-- L is what the first q retrievals (and none) bring out. -/
def Att (gs : List Spot) (s : Spot) (rs : List Spot) (t q : Nat) (L : List Int) : Prop :=
  (bst gs s (M gs rs) t q = M gs rs t ∧ L = -1 :: R gs rs t) ∨
  ∃ j, j < q ∧ t.testBit j = false ∧ bst gs s (M gs rs) t q = sv s (gs.getD j (0, 0)) + M gs rs (t ||| 2 ^ j) ∧ bst gs s (M gs rs) t q ≠ M gs rs t ∧
    (∀ x, x < j → ¬ (t.testBit x = false ∧ bst gs s (M gs rs) t q = sv s (gs.getD x (0, 0)) + M gs rs (t ||| 2 ^ x))) ∧ L = (j : Int) :: R gs rs (t ||| 2 ^ j)
theorem Att.zero (gs : List Spot) (s : Spot) (rs : List Spot) (t : Nat) : Att gs s rs t 0 (-1 :: R gs rs t) := .inl ⟨rfl, rfl⟩
theorem Att.keep {gs : List Spot} {s : Spot} {rs : List Spot} {t q : Nat} {L : List Int} (h : Att gs s rs t q L) (he : bst gs s (M gs rs) t (q + 1) = bst gs s (M gs rs) t q) : Att gs s rs t (q + 1) L := by
  rcases h with ⟨h1, h2⟩ | ⟨j, h1, h2, h3, h4, h5, h6⟩
  · exact .inl ⟨he.trans h1, h2⟩
  · exact .inr ⟨j, by omega, h2, he.trans h3, by rw [he]; exact h4, by rw [he]; exact h5, h6⟩
theorem bst_taken {gs : List Spot} {s : Spot} {r : Nat → Int} {t q : Nat} (h : t.testBit q = true) : bst gs s r t (q + 1) = bst gs s r t q := by rw [bst, if_pos h]
theorem bst_low {gs : List Spot} {s : Spot} {r : Nat → Int} {t q : Nat} (hb : t.testBit q = false) (h : sv s (gs.getD q (0, 0)) + r (t ||| 2 ^ q) ≤ bst gs s r t q) : bst gs s r t (q + 1) = bst gs s r t q := by
  rw [bst, if_neg (by simp [hb])]; omega
theorem bst_high {gs : List Spot} {s : Spot} {r : Nat → Int} {t q : Nat} (hb : t.testBit q = false) (h : bst gs s r t q < sv s (gs.getD q (0, 0)) + r (t ||| 2 ^ q)) : bst gs s r t (q + 1) = sv s (gs.getD q (0, 0)) + r (t ||| 2 ^ q) := by
  rw [bst, if_neg (by simp [hb])]; omega
theorem Att.new {gs : List Spot} {s : Spot} {rs : List Spot} {t q : Nat} (hb : t.testBit q = false) (h : bst gs s (M gs rs) t q < sv s (gs.getD q (0, 0)) + M gs rs (t ||| 2 ^ q)) : Att gs s rs t (q + 1) ((q : Int) :: R gs rs (t ||| 2 ^ q)) := by
  have he := bst_high hb h
  have h0 := bst_ge0 gs s (M gs rs) t q
  refine .inr ⟨q, by omega, hb, he, by rw [he]; omega, fun x hx hc => ?_, rfl⟩
  have := bst_ge gs s (M gs rs) t q x hx hc.1
  rw [he] at hc
  omega
theorem Att.end_ {gs : List Spot} {s : Spot} {rs : List Spot} {t : Nat} {L : List Int} (h : Att gs s rs t gs.length L) : L = R gs (s :: rs) t := by
  have hM : M gs (s :: rs) t = bst gs s (M gs rs) t gs.length := rfl
  rcases h with ⟨h1, h2⟩ | ⟨j, h1, h2, h3, h4, h5, h6⟩
  · rw [R, if_pos (by rw [hM, h1]), h2]
  · have hne : M gs (s :: rs) t ≠ M gs rs t := by rw [hM]; exact h4
    obtain ⟨g, hg⟩ := fstg_ne hne
    obtain ⟨g1, g2, g3, g4⟩ := fstg_some hg
    have : g = j := by
      rcases Nat.lt_trichotomy g j with hl | hl | hl
      · exact absurd ⟨g2, by rw [← hM]; exact g3⟩ (h5 g hl)
      · exact hl
      · exact absurd ⟨h2, by rw [hM]; exact h3⟩ (g4 j hl)
    subst this
    rw [R, if_neg hne, hg, h6]

theorem M_le_alone' (gs : List Spot) : ∀ (ss : List Spot) (t : Nat), M gs ss t ≤ alone ss := by
  intro ss
  induction ss with
  | nil => intro t; simp [M, alone]
  | cons s r ih =>
    intro t
    have hnn := hm_nonneg s
    have e : alone (s :: r) = 2 * hm s + alone r := by simp [alone]
    rw [e]
    unfold M
    rcases bst_at gs s (M gs r) t gs.length with h | ⟨g, _, _, h⟩
    · have := ih t; omega
    · have := ih (t ||| 2 ^ g); have := sv_le_s s (gs.getD g (0, 0)); omega

/-- A pairing's begin, one pair longer. -/
theorem cst_snoc (gs : List Spot) (s : Spot) (p : Int) : ∀ (ss : List Spot) (u ps : List Int) (v : Int), ps.length = ss.length → cst gs ss u ps = some v →
    cst gs (ss ++ [s]) u (ps ++ [p]) = if p < 0 then some v else if p ∈ u ++ ps then none else some (v + sv s (gs.getD p.toNat (0, 0)))
  | [], u, [], v, _, h => by
    simp [cst] at h
    subst h
    simp only [List.nil_append, List.append_nil, cst]
    split
    · rfl
    · split <;> simp
  | s' :: ss, u, p' :: ps, v, hl, h => by
    have hl' : ps.length = ss.length := by simpa using hl
    rw [List.cons_append, List.cons_append, cst]
    rw [cst] at h
    have hm : ∀ x : Int, x ∈ (u ++ [p']) ++ ps ↔ x ∈ u ++ p' :: ps := fun x => by simp
    split at h
    · rename_i hneg
      rw [if_pos hneg, cst_snoc gs s p ss (u ++ [p']) ps v hl' h]
      simp only [hm]
    · rename_i hneg
      rw [if_neg hneg]
      split at h
      · cases h
      · rename_i hmem
        rw [if_neg hmem]
        cases hc : cst gs ss (u ++ [p']) ps with
        | none => rw [hc] at h; cases h
        | some x =>
          rw [hc] at h
          simp only [Option.map_some, Option.some.injEq] at h
          rw [cst_snoc gs s p ss (u ++ [p']) ps x hl' hc]
          simp only [hm]
          split
          · simp only [Option.map_some, Option.some.injEq]; exact h
          · split
            · rfl
            · simp only [Option.map_some, Option.some.injEq]; omega
  | [], u, _ :: _, v, hl, h => by simp at hl
  | _ :: _, u, [], v, hl, h => by simp at hl

/-- u is the begin of a pairing; t: its retrievals; v: what it saves. -/
structure Pre (ss gs : List Spot) (u : List Int) (t : Nat) (v : Int) : Prop where
  len : u.length ≤ ss.length
  val : cst gs (ss.take u.length) [] u = some v
  inn : inR gs.length u
  bits : ∀ g, g < gs.length → t.testBit g = decide ((g : Int) ∈ u)
theorem Pre.nil (ss gs : List Spot) : Pre ss gs [] 0 0 := ⟨Nat.zero_le _, rfl, by simp [inR], fun g _ => by simp⟩
theorem Pre.le {ss gs : List Spot} {u : List Int} {t : Nat} {v : Int} (h : Pre ss gs u t v) : 0 ≤ v ∧ v + M gs (ss.drop u.length) t ≤ alone ss := by
  have h1 := cst_le gs (fun _ _ => trivial) _ _ _ _ h.val
  have h2 := M_le_alone' gs (ss.drop u.length) t
  have h3 : alone ss = alone (ss.take u.length) + alone (ss.drop u.length) := by rw [← alone_append, List.take_append_drop]
  omega
theorem Pre.skip {ss gs : List Spot} {u : List Int} {t : Nat} {v : Int} (h : Pre ss gs u t v) (hl : u.length < ss.length) : Pre ss gs (u ++ [-1]) t v := by
  refine ⟨by simp; omega, ?_, fun p hp => ?_, fun g hg => ?_⟩
  · rw [List.length_append, List.length_singleton, List.take_succ_eq_append_getElem hl, cst_snoc gs _ (-1) _ _ _ v (by simp; omega) h.val, if_pos (by decide)]
  · rcases List.mem_append.1 hp with hp | hp
    · exact h.inn p hp
    · simp at hp; omega
  · rw [h.bits g hg]; simp
theorem Pre.take {ss gs : List Spot} {u : List Int} {t : Nat} {v : Int} (h : Pre ss gs u t v) (hl : u.length < ss.length) (g : Nat) (hg : g < gs.length) (hf : t.testBit g = false) :
    Pre ss gs (u ++ [(g : Int)]) (t ||| 2 ^ g) (v + sv (ss.getD u.length (0, 0)) (gs.getD g (0, 0))) := by
  have hm : (g : Int) ∉ u := by have := h.bits g hg; rw [hf] at this; simpa using this.symm
  refine ⟨by simp; omega, ?_, fun p hp => ?_, fun x hx => ?_⟩
  · rw [List.length_append, List.length_singleton, List.take_succ_eq_append_getElem hl, cst_snoc gs _ (g : Int) _ _ _ v (by simp; omega) h.val, if_neg (by omega), if_neg (by simpa using hm)]
    simp [List.getD, List.getElem?_eq_getElem hl]
  · rcases List.mem_append.1 hp with hp | hp
    · exact h.inn p hp
    · simp at hp; omega
  · rw [tb_or, h.bits x hx]
    by_cases e : g = x
    · subst e; simp
    · have : ¬ (x : Int) = (g : Int) := by omega
      simp [e, this]

end Go.Proofs.Ytggogohoakbepaa
