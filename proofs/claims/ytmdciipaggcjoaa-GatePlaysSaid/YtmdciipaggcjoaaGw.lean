/-
  The gate in a law: what has been made since the law began; the law's fixed fact.
-/
import Derived.Test.YtmdciipaggcjoaaGt5
namespace Go.Proofs.Ytmdciipaggcjoaa
open Go.RowKit Go.Conc
set_option linter.unusedVariables false
set_option linter.unusedSimpArgs false

theorem has_mem (t : Int) (l : List Int) : has t l = decide (t ∈ l) := by
  have key : ∀ l : List Int, 0 ≤ idx t l ↔ t ∈ l := by
    intro l
    induction l with
    | nil => simp [idx]
    | cons x r ih =>
      have h1 := idx_ge t r
      unfold idx
      by_cases e : t = x
      · simp [e]
      · simp only [e, if_false, List.mem_cons, false_or]
        rw [← ih]
        split <;> omega
  unfold has
  exact decide_eq_decide.2 (key l)

/-- A gate that was made since a. -/
structure St (a w : World) (p : Nat) (S : Nat → Prop) (cap : Nat) (W I : List Int) : Prop where
  fr : Fr a w No
  g : GAt w p S cap W I
  ge : ∀ k, S k → a.heap.size ≤ k
structure Nx (a w w' : World) (p : Nat) (S S' : Nat → Prop) (cap : Nat) (W I : List Int) : Prop where
  st : St a w' p S' cap W I
  fr : Fr w w' S
  sub : ∀ k, S' k → S k ∨ w.heap.size ≤ k
theorem St.nx {a w w' : World} {p : Nat} {S : Nat → Prop} {cap : Nat} {W I W' I' : List Int} (h : St a w p S cap W I) (hT : GTo w w' p S cap W' I') : ∃ S', Nx a w w' p S S' cap W' I' := by
  obtain ⟨S', h1, h2, h3⟩ := hT
  refine ⟨S', ⟨h.fr.into h2 h.ge, h1, fun k hk => ?_⟩, h2, h3⟩
  rcases h3 k hk with h4 | h4
  · exact h.ge k h4
  · exact Nat.le_trans h.fr.size h4
theorem St.keep0 {a w w' : World} {p : Nat} {S : Nat → Prop} {cap : Nat} {W I : List Int} (h : St a w p S cap W I) (hf : Fr w w' No) : St a w' p S cap W I := ⟨h.fr.nn hf, h.g.keep0 hf, h.ge⟩
/-- .. whatever its blocks. -/
def Sg (a w : World) (p : Nat) (cap : Nat) (W I : List Int) : Prop := ∃ S, St a w p S cap W I
theorem Sg.keep0 {a w w' : World} {p : Nat} {cap : Nat} {W I : List Int} (h : Sg a w p cap W I) (hf : Fr w w' No) : Sg a w' p cap W I := by
  obtain ⟨S, h⟩ := h; exact ⟨S, h.keep0 hf⟩
theorem Sg.fr {a w : World} {p : Nat} {cap : Nat} {W I : List Int} (h : Sg a w p cap W I) : Fr a w No := by
  obtain ⟨S, h⟩ := h; exact h.fr
theorem GNew.sg {a w w' : World} {p : Nat} {cap : Nat} {W I : List Int} (hf : Fr a w No) (h : GNew w w' p cap W I) : Sg a w' p cap W I := by
  obtain ⟨S, h1, h2, h3⟩ := h
  exact ⟨S, hf.nn h2, h1, fun k hk => Nat.le_trans hf.size (h3 k hk)⟩

theorem accept_g (a : World) (p cap : Nat) (W I : List Int) (id : Int) (E : Int) (W' : List Int) (w : World) (h : Sg a w p cap W I) (hE : accE W I id = E) (hW : accW W I id = W') :
    Calls Try.prog 11 #[.pointer (some ⟨p, 0, none⟩), .int .i64 id] w fun e w' => e = .returned (.int .i64 E) ∧ Sg a w' p cap W' I := by
  subst hE; subst hW
  obtain ⟨S, h⟩ := h
  refine (accept_any p S cap W I id w h.g).mono ?_
  rintro e w' ⟨he, hT⟩
  obtain ⟨S', hn⟩ := h.nx hT
  exact ⟨he, S', hn.st⟩
theorem cancel_g (a : World) (p cap : Nat) (W I : List Int) (id : Int) (E : Int) (W' : List Int) (w : World) (h : Sg a w p cap W I) (hE : lookE W I id = E) (hW : canW W I id = W') :
    Calls Try.prog 17 #[.pointer (some ⟨p, 0, none⟩), .int .i64 id] w fun e w' => e = .returned (.int .i64 E) ∧ Sg a w' p cap W' I := by
  subst hE; subst hW
  obtain ⟨S, h⟩ := h
  refine (cancel_any p S cap W I id w h.g).mono ?_
  rintro e w' ⟨he, hT⟩
  obtain ⟨S', hn⟩ := h.nx hT
  exact ⟨he, S', hn.st⟩
theorem arrive_g (a : World) (p cap : Nat) (W I : List Int) (id : Int) (E : Int) (W' I' : List Int) (w : World) (h : Sg a w p cap W I) (hE : arrE cap W I id = E) (hW : arrW cap W I id = W') (hI : arrI cap W I id = I') :
    Calls Try.prog 13 #[.pointer (some ⟨p, 0, none⟩), .int .i64 id] w fun e w' => e = .returned (.int .i64 E) ∧ Sg a w' p cap W' I' := by
  subst hE; subst hW; subst hI
  obtain ⟨S, h⟩ := h
  refine (arrive_any p S cap W I id w h.g).mono ?_
  rintro e w' ⟨he, hT⟩
  obtain ⟨S', hn⟩ := h.nx hT
  exact ⟨he, S', hn.st⟩
theorem leave_g (a : World) (p cap : Nat) (W I : List Int) (X E : Int) (I' : List Int) (w : World) (h : Sg a w p cap W I) (hX : leaX I = X) (hE : leaE I = E) (hI : I.tail = I') :
    Calls Try.prog 14 #[.pointer (some ⟨p, 0, none⟩)] w fun e w' => e = .returned (.tuple #[.int .i64 X, .int .i64 E]) ∧ Sg a w' p cap W I' := by
  subst hX; subst hE; subst hI
  obtain ⟨S, h⟩ := h
  refine (leave_any p S cap W I w h.g).mono ?_
  rintro e w' ⟨he, hT⟩
  obtain ⟨S', hn⟩ := h.nx hT
  exact ⟨he, S', hn.st⟩
theorem credits_g (a : World) (p cap : Nat) (W I : List Int) (R : Int) (w : World) (h : Sg a w p cap W I) (hR : (cap : Int) - I.length = R) :
    Calls Try.prog 18 #[.pointer (some ⟨p, 0, none⟩)] w fun e w' => e = .returned (.int .i64 R) ∧ Sg a w' p cap W I := by
  subst hR
  obtain ⟨S, h⟩ := h
  refine (credits_any p S cap W I w h.g).mono ?_
  rintro e w' ⟨he, n, rfl⟩
  exact ⟨he, S, h.keep0 (Fr.drewN _ _ _)⟩
theorem new_g (a : World) (n : Nat) (w : World) (hf : Fr a w No) (h1 : 1 ≤ n) (h16 : n ≤ 16) :
    Calls Try.prog 10 #[.int .i64 n] w fun e w' => e = .returned (.tuple #[.pointer (some ⟨w.heap.size + 1, 0, none⟩), .int .i64 0]) ∧ Sg a w' (w.heap.size + 1) n [] [] :=
  (new_ok n w h1 h16).mono fun e w' ⟨he, h⟩ => ⟨he, h.sg hf⟩

set_option maxRecDepth 100000 in
set_option maxHeartbeats 2000000 in
theorem awake_any (w : World) : Calls Try.prog 9 #[] w fun e w' => e = .returned (.bool true) ∧ Fr w w' No := by
  go_enter Try.func9, Try.ntmps9
  go_wp2_with fail
  refine (new_g w 1 w (Fr.refl _ _) (by decide) (by decide)).mono ?_
  rintro e w1 ⟨rfl, h1⟩
  generalize w.heap.size + 1 = p at *
  go_wp2_with fail
  refine (accept_g w p 1 [] [] 5 0 [5] w1 h1 (by decide) (by decide)).mono ?_
  rintro e w2 ⟨rfl, h2⟩
  go_wp2_with fail
  refine (accept_g w p 1 [5] [] 3 0 [5, 3] w2 h2 (by decide) (by decide)).mono ?_
  rintro e w3 ⟨rfl, h3⟩
  go_wp2_with fail
  refine (arrive_g w p 1 [5, 3] [] 3 110 [5, 3] [] w3 h3 (by decide) (by decide) (by decide)).mono ?_
  rintro e w4 ⟨rfl, h4⟩
  go_wp2_with fail
  refine (arrive_g w p 1 [5, 3] [] 5 0 [3] [5] w4 h4 (by decide) (by decide) (by decide)).mono ?_
  rintro e w5 ⟨rfl, h5⟩
  go_wp2_with fail
  refine (arrive_g w p 1 [3] [5] 3 5 [3] [5] w5 h5 (by decide) (by decide) (by decide)).mono ?_
  rintro e w6 ⟨rfl, h6⟩
  go_wp2_with fail
  refine (leave_g w p 1 [3] [5] 5 0 [] w6 h6 (by decide) (by decide) (by decide)).mono ?_
  rintro e w7 ⟨rfl, h7⟩
  go_wp2_with fail
  refine (arrive_g w p 1 [3] [] 3 0 [] [3] w7 h7 (by decide) (by decide) (by decide)).mono ?_
  rintro e w8 ⟨rfl, h8⟩
  go_wp2_with fail
  refine (credits_g w p 1 [] [3] 0 w8 h8 (by decide)).mono ?_
  rintro e w9 ⟨rfl, h9⟩
  go_wp2_with fail
  go_ret
  exact ⟨rfl, h9.fr⟩
end Go.Proofs.Ytmdciipaggcjoaa
