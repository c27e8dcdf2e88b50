/-
  A gate and three slices of a law's own, apart from one another.
-/
import Derived.Test.YtmdciipaggcjoaaGw
namespace Go.Proofs.Ytmdciipaggcjoaa
open Go.RowKit Go.Conc
set_option linter.unusedVariables false
set_option linter.unusedSimpArgs false

theorem dis_new {w : World} {X T T' : Nat → Prop} (hX : ∀ g, X g → g < w.heap.size) (h : ∀ g, X g → ¬ T g) (hT : ∀ g, T' g → T g ∨ w.heap.size ≤ g) : ∀ g, X g → ¬ T' g := fun g hg ht => by
  rcases hT g ht with h1 | h1
  · exact h g hg h1
  · have := hX g hg; omega
theorem St.lt {a w : World} {p : Nat} {S : Nat → Prop} {cap : Nat} {W I : List Int} (h : St a w p S cap W I) : ∀ k, S k → k < w.heap.size := by
  obtain ⟨_, _, _, _, _, h⟩ := h.g; exact h
theorem St.other {a w w' : World} {p : Nat} {S T : Nat → Prop} {cap : Nat} {W I : List Int} (h : St a w p S cap W I) (hf : Fr w w' T) (hT : ∀ k, S k → ¬ T k) (hTa : ∀ k, T k → a.heap.size ≤ k) : St a w' p S cap W I :=
  ⟨h.fr.into hf hTa, h.g.keep hf hT, h.ge⟩
def Bl (v : Value) : Nat → Prop := fun g => v.ownBlock = some g

structure T3 (a w : World) (p : Nat) (S : Nat → Prop) (cap : Nat) (W I : List Int) (v1 : Value) (l1 : List Int) (v2 : Value) (l2 : List Int) (v3 : Value) (l3 : List Int) : Prop where
  st : St a w p S cap W I
  n1 : NewI a w v1 l1
  n2 : NewI a w v2 l2
  n3 : NewI a w v3 l3
  s1 : ∀ g, Bl v1 g → ¬ S g
  s2 : ∀ g, Bl v2 g → ¬ S g
  s3 : ∀ g, Bl v3 g → ¬ S g
  d12 : ∀ g, Bl v1 g → ¬ Bl v2 g
  d13 : ∀ g, Bl v1 g → ¬ Bl v3 g
  d23 : ∀ g, Bl v2 g → ¬ Bl v3 g

section
variable {a w w' : World} {p : Nat} {S : Nat → Prop} {cap : Nat} {W I : List Int} {v1 : Value} {l1 : List Int} {v2 : Value} {l2 : List Int} {v3 : Value} {l3 : List Int}
theorem dis_sym {X Y : Nat → Prop} (h : ∀ g, X g → ¬ Y g) : ∀ g, Y g → ¬ X g := fun g hy hx => h g hx hy
theorem T3.same (h : T3 a w p S cap W I v1 l1 v2 l2 v3 l3) (hf : Fr w w' No) : T3 a w' p S cap W I v1 l1 v2 l2 v3 l3 :=
  ⟨h.st.keep0 hf, h.n1.keep hf (fun _ _ h => h) (fun _ h => h.elim), h.n2.keep hf (fun _ _ h => h) (fun _ h => h.elim), h.n3.keep hf (fun _ _ h => h) (fun _ h => h.elim), h.s1, h.s2, h.s3, h.d12, h.d13, h.d23⟩
theorem T3.gate {W' I' : List Int} (h : T3 a w p S cap W I v1 l1 v2 l2 v3 l3) (hT : GTo w w' p S cap W' I') : ∃ S', T3 a w' p S' cap W' I' v1 l1 v2 l2 v3 l3 := by
  obtain ⟨S', hn⟩ := h.st.nx hT
  exact ⟨S', hn.st, h.n1.keep hn.fr h.s1 h.st.ge, h.n2.keep hn.fr h.s2 h.st.ge, h.n3.keep hn.fr h.s3 h.st.ge, dis_new (Sl.lt h.n1.1) h.s1 hn.sub, dis_new (Sl.lt h.n2.1) h.s2 hn.sub, dis_new (Sl.lt h.n3.1) h.s3 hn.sub, h.d12, h.d13, h.d23⟩
/-- What an append has made of a slice. -/
structure Ap (w w' : World) (v v' : Value) (l' : List Int) : Prop where
  sl : SlI w' v' l'
  fr : Fr w w' (Bl v)
  sub : ∀ g, Bl v' g → Bl v g ∨ w.heap.size ≤ g
theorem Ap.of {wb : World} {v v' : Value} {l' : List Int} (hb : Fr w wb No) (h1 : SlI w' v' l') (h2 : Fr wb w' (fun g => v.ownBlock = some g)) (h3 : v'.ownBlock = v.ownBlock ∨ v'.ownBlock = some wb.heap.size) : Ap w w' v v' l' :=
  ⟨h1, hb.n1 h2, fun g hg => by
    rcases h3 with e | e
    · exact .inl (Eq.trans e.symm hg)
    · rw [show v'.ownBlock = some g from hg] at e; cases e; exact .inr hb.size⟩
theorem NewI.ap {v v' : Value} {l l' : List Int} (h : NewI a w v l) (hp : Ap w w' v v' l') : NewI a w' v' l' :=
  ⟨hp.sl, h.2.1.into hp.fr h.2.2, fun k hk => by
    rcases hp.sub k hk with e | e
    · exact h.2.2 k e
    · exact Nat.le_trans h.2.1.size e⟩
theorem T3.ap1 {v' : Value} {l' : List Int} (h : T3 a w p S cap W I v1 l1 v2 l2 v3 l3) (hp : Ap w w' v1 v' l') : T3 a w' p S cap W I v' l' v2 l2 v3 l3 :=
  ⟨h.st.other hp.fr (dis_sym h.s1) h.n1.2.2, h.n1.ap hp, h.n2.keep hp.fr (dis_sym h.d12) h.n1.2.2, h.n3.keep hp.fr (dis_sym h.d13) h.n1.2.2,
    dis_sym (dis_new h.st.lt (dis_sym h.s1) hp.sub), h.s2, h.s3, dis_sym (dis_new (Sl.lt h.n2.1) (dis_sym h.d12) hp.sub), dis_sym (dis_new (Sl.lt h.n3.1) (dis_sym h.d13) hp.sub), h.d23⟩
theorem T3.ap2 {v' : Value} {l' : List Int} (h : T3 a w p S cap W I v1 l1 v2 l2 v3 l3) (hp : Ap w w' v2 v' l') : T3 a w' p S cap W I v1 l1 v' l' v3 l3 :=
  ⟨h.st.other hp.fr (dis_sym h.s2) h.n2.2.2, h.n1.keep hp.fr h.d12 h.n2.2.2, h.n2.ap hp, h.n3.keep hp.fr (dis_sym h.d23) h.n2.2.2,
    h.s1, dis_sym (dis_new h.st.lt (dis_sym h.s2) hp.sub), h.s3, dis_new (Sl.lt h.n1.1) h.d12 hp.sub, h.d13, dis_sym (dis_new (Sl.lt h.n3.1) (dis_sym h.d23) hp.sub)⟩
theorem T3.ap3 {v' : Value} {l' : List Int} (h : T3 a w p S cap W I v1 l1 v2 l2 v3 l3) (hp : Ap w w' v3 v' l') : T3 a w' p S cap W I v1 l1 v2 l2 v' l' :=
  ⟨h.st.other hp.fr (dis_sym h.s3) h.n3.2.2, h.n1.keep hp.fr h.d13 h.n3.2.2, h.n2.keep hp.fr h.d23 h.n3.2.2, h.n3.ap hp,
    h.s1, h.s2, dis_sym (dis_new h.st.lt (dis_sym h.s3) hp.sub), h.d12, dis_new (Sl.lt h.n1.1) h.d13 hp.sub, dis_new (Sl.lt h.n2.1) h.d23 hp.sub⟩
/-- A new slice for the third, or the first, one. -/
theorem new_dis {X : Nat → Prop} {v : Value} {l : List Int} (hX : ∀ g, X g → g < w.heap.size) (hN : NewI w w' v l) : ∀ g, X g → ¬ Bl v g := fun g hx hg => by
  have := hX g hx
  have := hN.2.2 g hg
  omega
theorem T3.new3 {v' : Value} {l' : List Int} (h : T3 a w p S cap W I v1 l1 v2 l2 v3 l3) (hN : NewI w w' v' l') : T3 a w' p S cap W I v1 l1 v2 l2 v' l' := by
  have h' := h.same hN.2.1
  exact ⟨h'.st, h'.n1, h'.n2, hN.from h.st.fr, h.s1, h.s2, dis_sym (new_dis h.st.lt hN), h.d12, new_dis (Sl.lt h.n1.1) hN, new_dis (Sl.lt h.n2.1) hN⟩
theorem T3.new1 {v' : Value} {l' : List Int} (h : T3 a w p S cap W I v1 l1 v2 l2 v3 l3) (hN : NewI w w' v' l') : T3 a w' p S cap W I v' l' v2 l2 v3 l3 := by
  have h' := h.same hN.2.1
  exact ⟨h'.st, hN.from h.st.fr, h'.n2, h'.n3, dis_sym (new_dis h.st.lt hN), h.s2, h.s3, dis_sym (new_dis (Sl.lt h.n2.1) hN), dis_sym (new_dis (Sl.lt h.n3.1) hN), h.d23⟩
theorem T3.of_st (h : St a w p S cap W I) : T3 a w p S cap W I (.slice none 0 0) [] (.slice none 0 0) [] (.slice none 0 0) [] := by
  have hn : NewI a w (.slice none 0 0) [] := ⟨Sl.nil _ _ _, h.fr, by simp [Value.ownBlock]⟩
  have hb : ∀ g, ¬ Bl (.slice none 0 0) g := by intro g hg; simp [Bl, Value.ownBlock] at hg
  exact ⟨h, hn, hn, hn, fun g hg => (hb g hg).elim, fun g hg => (hb g hg).elim, fun g hg => (hb g hg).elim, fun g hg => (hb g hg).elim, fun g hg => (hb g hg).elim, fun g hg => (hb g hg).elim⟩
end

/-- The contracts, beside three slices. -/
def Is3 (a w : World) (p : Nat) (cap : Nat) (W I : List Int) (v1 : Value) (l1 : List Int) (v2 : Value) (l2 : List Int) (v3 : Value) (l3 : List Int) : Prop := ∃ S, T3 a w p S cap W I v1 l1 v2 l2 v3 l3
section
variable {a w w' : World} {p : Nat} {cap : Nat} {W I : List Int} {v1 : Value} {l1 : List Int} {v2 : Value} {l2 : List Int} {v3 : Value} {l3 : List Int}
theorem Is3.same (h : Is3 a w p cap W I v1 l1 v2 l2 v3 l3) (hf : Fr w w' No) : Is3 a w' p cap W I v1 l1 v2 l2 v3 l3 := by obtain ⟨S, h⟩ := h; exact ⟨S, h.same hf⟩
theorem Is3.fr (h : Is3 a w p cap W I v1 l1 v2 l2 v3 l3) : Fr a w No := by obtain ⟨S, h⟩ := h; exact h.st.fr
theorem Is3.n1 (h : Is3 a w p cap W I v1 l1 v2 l2 v3 l3) : NewI a w v1 l1 := by obtain ⟨S, h⟩ := h; exact h.n1
theorem Is3.n2 (h : Is3 a w p cap W I v1 l1 v2 l2 v3 l3) : NewI a w v2 l2 := by obtain ⟨S, h⟩ := h; exact h.n2
theorem Is3.n3 (h : Is3 a w p cap W I v1 l1 v2 l2 v3 l3) : NewI a w v3 l3 := by obtain ⟨S, h⟩ := h; exact h.n3
theorem Is3.le (h : Is3 a w p cap W I v1 l1 v2 l2 v3 l3) : W.length + I.length ≤ 64 ∧ I.length ≤ cap := by
  obtain ⟨S, h⟩ := h
  obtain ⟨c, vw, vo, hP, _⟩ := h.st.g
  exact ⟨hP.le, hP.ic⟩
theorem Is3.ap1 {v' : Value} {l' : List Int} (h : Is3 a w p cap W I v1 l1 v2 l2 v3 l3) (hp : Ap w w' v1 v' l') : Is3 a w' p cap W I v' l' v2 l2 v3 l3 := by obtain ⟨S, h⟩ := h; exact ⟨S, h.ap1 hp⟩
theorem Is3.ap2 {v' : Value} {l' : List Int} (h : Is3 a w p cap W I v1 l1 v2 l2 v3 l3) (hp : Ap w w' v2 v' l') : Is3 a w' p cap W I v1 l1 v' l' v3 l3 := by obtain ⟨S, h⟩ := h; exact ⟨S, h.ap2 hp⟩
theorem Is3.ap3 {v' : Value} {l' : List Int} (h : Is3 a w p cap W I v1 l1 v2 l2 v3 l3) (hp : Ap w w' v3 v' l') : Is3 a w' p cap W I v1 l1 v2 l2 v' l' := by obtain ⟨S, h⟩ := h; exact ⟨S, h.ap3 hp⟩
theorem Is3.new3 {v' : Value} {l' : List Int} (h : Is3 a w p cap W I v1 l1 v2 l2 v3 l3) (hN : NewI w w' v' l') : Is3 a w' p cap W I v1 l1 v2 l2 v' l' := by obtain ⟨S, h⟩ := h; exact ⟨S, h.new3 hN⟩
theorem Is3.new1 {v' : Value} {l' : List Int} (h : Is3 a w p cap W I v1 l1 v2 l2 v3 l3) (hN : NewI w w' v' l') : Is3 a w' p cap W I v' l' v2 l2 v3 l3 := by obtain ⟨S, h⟩ := h; exact ⟨S, h.new1 hN⟩
theorem Sg.is3 (h : Sg a w p cap W I) : Is3 a w p cap W I (.slice none 0 0) [] (.slice none 0 0) [] (.slice none 0 0) [] := by obtain ⟨S, h⟩ := h; exact ⟨S, T3.of_st h⟩
theorem Is3.sg (h : Is3 a w p cap W I v1 l1 v2 l2 v3 l3) : Sg a w p cap W I := by obtain ⟨S, h⟩ := h; exact ⟨S, h.st⟩

theorem accept_3 (id : Int) (E : Int) (W' : List Int) (h : Is3 a w p cap W I v1 l1 v2 l2 v3 l3) (hE : accE W I id = E) (hW : accW W I id = W') :
    Calls Try.prog 11 #[.pointer (some ⟨p, 0, none⟩), .int .i64 id] w fun e w' => e = .returned (.int .i64 E) ∧ Is3 a w' p cap W' I v1 l1 v2 l2 v3 l3 := by
  subst hE; subst hW
  obtain ⟨S, h⟩ := h
  exact (accept_any p S cap W I id w h.st.g).mono fun e w' ⟨he, hT⟩ => ⟨he, h.gate hT⟩
theorem cancel_3 (id : Int) (E : Int) (W' : List Int) (h : Is3 a w p cap W I v1 l1 v2 l2 v3 l3) (hE : lookE W I id = E) (hW : canW W I id = W') :
    Calls Try.prog 17 #[.pointer (some ⟨p, 0, none⟩), .int .i64 id] w fun e w' => e = .returned (.int .i64 E) ∧ Is3 a w' p cap W' I v1 l1 v2 l2 v3 l3 := by
  subst hE; subst hW
  obtain ⟨S, h⟩ := h
  exact (cancel_any p S cap W I id w h.st.g).mono fun e w' ⟨he, hT⟩ => ⟨he, h.gate hT⟩
theorem arrive_3 (id : Int) (E : Int) (W' I' : List Int) (h : Is3 a w p cap W I v1 l1 v2 l2 v3 l3) (hE : arrE cap W I id = E) (hW : arrW cap W I id = W') (hI : arrI cap W I id = I') :
    Calls Try.prog 13 #[.pointer (some ⟨p, 0, none⟩), .int .i64 id] w fun e w' => e = .returned (.int .i64 E) ∧ Is3 a w' p cap W' I' v1 l1 v2 l2 v3 l3 := by
  subst hE; subst hW; subst hI
  obtain ⟨S, h⟩ := h
  exact (arrive_any p S cap W I id w h.st.g).mono fun e w' ⟨he, hT⟩ => ⟨he, h.gate hT⟩
theorem leave_3 (X E : Int) (I' : List Int) (h : Is3 a w p cap W I v1 l1 v2 l2 v3 l3) (hX : leaX I = X) (hE : leaE I = E) (hI : I.tail = I') :
    Calls Try.prog 14 #[.pointer (some ⟨p, 0, none⟩)] w fun e w' => e = .returned (.tuple #[.int .i64 X, .int .i64 E]) ∧ Is3 a w' p cap W I' v1 l1 v2 l2 v3 l3 := by
  subst hX; subst hE; subst hI
  obtain ⟨S, h⟩ := h
  exact (leave_any p S cap W I w h.st.g).mono fun e w' ⟨he, hT⟩ => ⟨he, h.gate hT⟩
theorem waiting_3 (h : Is3 a w p cap W I v1 l1 v2 l2 v3 l3) :
    Calls Try.prog 12 #[.pointer (some ⟨p, 0, none⟩)] w fun e w' => ∃ v, e = .returned v ∧ NewI w w' v W := by
  obtain ⟨S, h⟩ := h
  exact waiting_any p S cap W I w h.st.g
theorem inside_3 (h : Is3 a w p cap W I v1 l1 v2 l2 v3 l3) :
    Calls Try.prog 16 #[.pointer (some ⟨p, 0, none⟩)] w fun e w' => ∃ v, e = .returned v ∧ NewI w w' v I := by
  obtain ⟨S, h⟩ := h
  exact inside_any p S cap W I w h.st.g
end
end Go.Proofs.Ytmdciipaggcjoaa
