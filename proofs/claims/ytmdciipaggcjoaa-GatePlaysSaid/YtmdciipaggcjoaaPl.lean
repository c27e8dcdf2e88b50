/-
  The gate beside the document's.
-/
import Derived.Test.YtmdciipaggcjoaaRf3
namespace Go.Proofs.Ytmdciipaggcjoaa
open Go.RowKit Go.Conc
set_option linter.unusedVariables false
set_option linter.unusedSimpArgs false

structure Pg (a w : World) (p : Nat) (S : Nat → Prop) (bm : Nat) (vW vI : Value) (cap : Nat) (W I Wm Im : List Int) : Prop where
  st : St a w p S cap W I
  bk : w.heap[bm]? = some (.cells #[.int .i64 cap, vW, vI] 42 (0, 0))
  sw : SlI w vW Wm
  si : SlI w vI Im
  nb : ¬ S bm
  nw : ∀ g, Bl vW g → ¬ S g
  ni : ∀ g, Bl vI g → ¬ S g
  gb : a.heap.size ≤ bm
  gW : ∀ g, Bl vW g → a.heap.size ≤ g
  gI : ∀ g, Bl vI g → a.heap.size ≤ g
section
variable {a w w' : World} {p : Nat} {S : Nat → Prop} {bm : Nat} {vW vI : Value} {cap : Nat} {W I Wm Im : List Int}
theorem Pg.gate {W' I' : List Int} (h : Pg a w p S bm vW vI cap W I Wm Im) (hT : GTo w w' p S cap W' I') : ∃ S', Pg a w' p S' bm vW vI cap W' I' Wm Im ∧ Fr w w' S ∧ ∀ k, S' k → S k ∨ w.heap.size ≤ k := by
  obtain ⟨S', hn⟩ := h.st.nx hT
  exact ⟨S', ⟨hn.st, hn.fr.blk h.bk h.nb, h.sw.keep hn.fr h.nw, h.si.keep hn.fr h.ni, dis_new (X := fun g => g = bm) (fun g e => by rw [e]; exact blk_lt h.bk) (fun g e => by rw [e]; exact h.nb) hn.sub bm rfl,
    dis_new (Sl.lt h.sw) h.nw hn.sub, dis_new (Sl.lt h.si) h.ni hn.sub, h.gb, h.gW, h.gI⟩, hn.fr, hn.sub⟩
theorem Pg.same (h : Pg a w p S bm vW vI cap W I Wm Im) (hf : Fr w w' No) : Pg a w' p S bm vW vI cap W I Wm Im :=
  ⟨h.st.keep0 hf, hf.blk h.bk id, h.sw.keep0 hf, h.si.keep0 hf, h.nb, h.nw, h.ni, h.gb, h.gW, h.gI⟩
/-- What the document hands back is stored. -/
theorem Pg.store (h : Pg a w p S bm vW vI cap W I Wm Im) {vW' vI' : Value} {W' I' : List Int} (hf : Fr w w' No) (h1 : SlI w' vW' W') (h2 : SlI w' vI' I') (k1 : Kept w vW vW') (k2 : Kept w vI vI') :
    Pg a (((w'.setCell ⟨bm, 0, none⟩ (.int .i64 cap)).setCell ⟨bm, 1, none⟩ vW').setCell ⟨bm, 2, none⟩ vI') p S bm vW' vI' cap W I W' I' := by
  have hb := hf.blk h.bk id
  have hs : Fr w' (((w'.setCell ⟨bm, 0, none⟩ (.int .i64 cap)).setCell ⟨bm, 1, none⟩ vW').setCell ⟨bm, 2, none⟩ vI') (One bm) := ((Fr.setCell w' ⟨bm, 0, none⟩ _).to_one _ _).to_one _ _
  have hk := blk_set (blk_set (blk_set hb 0 (.int .i64 cap)) 1 vW') 2 vI'
  have key : ∀ (v v' : Value) (l : List Int), SlI w v l → (∀ g, Bl v g → ¬ S g) → (∀ g, Bl v g → a.heap.size ≤ g) → Kept w v v' → (∀ g, Bl v' g → ¬ S g) ∧ ∀ g, Bl v' g → a.heap.size ≤ g := by
    intro v v' l hs h1 h2 h3
    rcases h3 with rfl | h3
    · exact ⟨h1, h2⟩
    · exact ⟨fun g hg hS => by have := h3 g hg; have := h.st.lt g hS; omega, fun g hg => Nat.le_trans h.st.fr.size (h3 g hg)⟩
  obtain ⟨a1, a2⟩ := key vW vW' _ h.sw h.nw h.gW k1
  obtain ⟨b1, b2⟩ := key vI vI' _ h.si h.ni h.gI k2
  exact ⟨(h.st.keep0 hf).other hs (fun k hk e => h.nb (by rw [← show k = bm from e]; exact hk)) (fun k e => by rw [show k = bm from e]; exact h.gb), hk, sl_far h1 hb (by decide) hs, sl_far h2 hb (by decide) hs, h.nb, a1, b1, h.gb, a2, b2⟩
/-- Another block is written. -/
theorem Pg.write (h : Pg a w p S bm vW vI cap W I Wm Im) {b : Nat} (h1 : ¬ S b) (h2 : b ≠ bm) (h3 : ¬ Bl vW b) (h4 : ¬ Bl vI b) (h5 : a.heap.size ≤ b) (o : Nat) (u : Value) : Pg a (w.setCell ⟨b, o, none⟩ u) p S bm vW vI cap W I Wm Im := by
  have hf := Fr.setCell w ⟨b, o, none⟩ u
  exact ⟨h.st.other hf (fun k hk e => h1 (by rw [← show k = b from e]; exact hk)) (fun k e => by rw [show k = b from e]; exact h5), hf.blk h.bk (fun e => h2 (show bm = b from e).symm), h.sw.keep hf (fun g hg e => h3 (by rw [← show g = b from e]; exact hg)), h.si.keep hf (fun g hg e => h4 (by rw [← show g = b from e]; exact hg)), h.nb, h.nw, h.ni, h.gb, h.gW, h.gI⟩
end
/-- .. whatever the gate's blocks; an entry in block bo. -/
def Px (a w : World) (p bm : Nat) (vW vI : Value) (cap : Nat) (W I Wm Im : List Int) (bo : Nat) (K t : Int) : Prop := ∃ S, Pg a w p S bm vW vI cap W I Wm Im ∧ w.heap[bo]? = some (.cells #[.int .i64 K, .int .i64 t] 37 (0, 0)) ∧ ¬ S bo
def Pq (a w : World) (p bm : Nat) (vW vI : Value) (cap : Nat) (W I : List Int) : Prop := ∃ S, Pg a w p S bm vW vI cap W I W I
section
variable {a w w' : World} {p bm : Nat} {vW vI : Value} {cap : Nat} {W I Wm Im : List Int} {bo : Nat} {K t : Int}
theorem Pq.entry (h : Pq a w p bm vW vI cap W I) (K t : Int) : Px a (w.alloc (.cells #[.int .i64 K, .int .i64 t] 37)) p bm vW vI cap W I W I w.heap.size K t := by
  obtain ⟨S, h⟩ := h
  exact ⟨S, h.same (Fr.alloc _ _ _), blk_new _ _, fun e => by have := h.st.lt _ e; omega⟩
theorem Px.gate {S : Nat → Prop} {W' I' : List Int} (h : Pg a w p S bm vW vI cap W I Wm Im) (h2 : w.heap[bo]? = some (.cells #[.int .i64 K, .int .i64 t] 37 (0, 0))) (h3 : ¬ S bo) (hT : GTo w w' p S cap W' I') : Px a w' p bm vW vI cap W' I' Wm Im bo K t := by
  obtain ⟨S', h', hf, hs⟩ := h.gate hT
  exact ⟨S', h', hf.blk h2 h3, dis_new (X := fun g => g = bo) (fun g e => by rw [e]; exact blk_lt h2) (fun g e => by rw [e]; exact h3) hs bo rfl⟩
theorem accept_x (id : Int) (h : Px a w p bm vW vI cap W I Wm Im bo K t) :
    Calls Try.prog 11 #[.pointer (some ⟨p, 0, none⟩), .int .i64 id] w fun e w' => e = .returned (.int .i64 (accE W I id)) ∧ Px a w' p bm vW vI cap (accW W I id) I Wm Im bo K t := by
  obtain ⟨S, h, h2, h3⟩ := h
  exact (accept_any p S cap W I id w h.st.g).mono fun e w' ⟨he, hT⟩ => ⟨he, Px.gate h h2 h3 hT⟩
theorem cancel_x (id : Int) (h : Px a w p bm vW vI cap W I Wm Im bo K t) :
    Calls Try.prog 17 #[.pointer (some ⟨p, 0, none⟩), .int .i64 id] w fun e w' => e = .returned (.int .i64 (lookE W I id)) ∧ Px a w' p bm vW vI cap (canW W I id) I Wm Im bo K t := by
  obtain ⟨S, h, h2, h3⟩ := h
  exact (cancel_any p S cap W I id w h.st.g).mono fun e w' ⟨he, hT⟩ => ⟨he, Px.gate h h2 h3 hT⟩
theorem arrive_x (id : Int) (h : Px a w p bm vW vI cap W I Wm Im bo K t) :
    Calls Try.prog 13 #[.pointer (some ⟨p, 0, none⟩), .int .i64 id] w fun e w' => e = .returned (.int .i64 (arrE cap W I id)) ∧ Px a w' p bm vW vI cap (arrW cap W I id) (arrI cap W I id) Wm Im bo K t := by
  obtain ⟨S, h, h2, h3⟩ := h
  exact (arrive_any p S cap W I id w h.st.g).mono fun e w' ⟨he, hT⟩ => ⟨he, Px.gate h h2 h3 hT⟩
theorem leave_x (h : Px a w p bm vW vI cap W I Wm Im bo K t) :
    Calls Try.prog 14 #[.pointer (some ⟨p, 0, none⟩)] w fun e w' => e = .returned (.tuple #[.int .i64 (leaX I), .int .i64 (leaE I)]) ∧ Px a w' p bm vW vI cap W I.tail Wm Im bo K t := by
  obtain ⟨S, h, h2, h3⟩ := h
  exact (leave_any p S cap W I w h.st.g).mono fun e w' ⟨he, hT⟩ => ⟨he, Px.gate h h2 h3 hT⟩
theorem Px.blk (h : Px a w p bm vW vI cap W I Wm Im bo K t) : w.heap[bm]? = some (.cells #[.int .i64 cap, vW, vI] 42 (0, 0)) := by obtain ⟨S, h, _⟩ := h; exact h.bk
theorem Px.ent (h : Px a w p bm vW vI cap W I Wm Im bo K t) : w.cell? ⟨bo, 0, none⟩ = some (.int .i64 K) ∧ w.cell? ⟨bo, 1, none⟩ = some (.int .i64 t) := by obtain ⟨S, _, h, _⟩ := h; exact ⟨blk_cell h 0, blk_cell h 1⟩
theorem Px.sl (h : Px a w p bm vW vI cap W I Wm Im bo K t) : SlI w vW Wm ∧ SlI w vI Im := by obtain ⟨S, h, _⟩ := h; exact ⟨h.sw, h.si⟩
theorem Px.le (h : Px a w p bm vW vI cap W I Wm Im bo K t) : W.length + I.length ≤ 64 ∧ I.length ≤ cap := by
  obtain ⟨S, h, _⟩ := h
  obtain ⟨c, vw, vo, hP, _⟩ := h.st.g
  exact ⟨hP.le, hP.ic⟩
theorem Px.store (h : Px a w p bm vW vI cap W I Wm Im bo K t) {vW' vI' : Value} (hf : Fr w w' No) (h1 : SlI w' vW' W) (h2 : SlI w' vI' I) (k1 : Kept w vW vW') (k2 : Kept w vI vI') :
    Pq a (((w'.setCell ⟨bm, 0, none⟩ (.int .i64 cap)).setCell ⟨bm, 1, none⟩ vW').setCell ⟨bm, 2, none⟩ vI') p bm vW' vI' cap W I := by
  obtain ⟨S, h, _⟩ := h; exact ⟨S, h.store hf h1 h2 k1 k2⟩
theorem Pq.same (h : Pq a w p bm vW vI cap W I) (hf : Fr w w' No) : Pq a w' p bm vW vI cap W I := by obtain ⟨S, h⟩ := h; exact ⟨S, h.same hf⟩
theorem Pq.fr (h : Pq a w p bm vW vI cap W I) : Fr a w No := by obtain ⟨S, h⟩ := h; exact h.st.fr
theorem Pq.blk (h : Pq a w p bm vW vI cap W I) : w.heap[bm]? = some (.cells #[.int .i64 cap, vW, vI] 42 (0, 0)) := by obtain ⟨S, h⟩ := h; exact h.bk
theorem Pq.sl (h : Pq a w p bm vW vI cap W I) : SlI w vW W ∧ SlI w vI I := by obtain ⟨S, h⟩ := h; exact ⟨h.sw, h.si⟩
theorem Pq.le (h : Pq a w p bm vW vI cap W I) : W.length + I.length ≤ 64 ∧ I.length ≤ cap := by
  obtain ⟨S, h⟩ := h
  obtain ⟨c, vw, vo, hP, _⟩ := h.st.g
  exact ⟨hP.le, hP.ic⟩
theorem waiting_q (h : Pq a w p bm vW vI cap W I) : Calls Try.prog 12 #[.pointer (some ⟨p, 0, none⟩)] w fun e w' => ∃ v, e = .returned v ∧ NewI w w' v W := by obtain ⟨S, h⟩ := h; exact waiting_any p S cap W I w h.st.g
theorem inside_q (h : Pq a w p bm vW vI cap W I) : Calls Try.prog 16 #[.pointer (some ⟨p, 0, none⟩)] w fun e w' => ∃ v, e = .returned v ∧ NewI w w' v I := by obtain ⟨S, h⟩ := h; exact inside_any p S cap W I w h.st.g
theorem credits_q (h : Pq a w p bm vW vI cap W I) : Calls Try.prog 18 #[.pointer (some ⟨p, 0, none⟩)] w fun e w' => e = .returned (.int .i64 ((cap : Int) - I.length)) ∧ ∃ n, w.drewN n = w' := by obtain ⟨S, h⟩ := h; exact credits_any p S cap W I w h.st.g
end
/-- .. beside a slice of the law's own, that may be written. -/
def Pw (a w : World) (p bm : Nat) (vW vI : Value) (cap : Nat) (W I : List Int) (v : Value) (l : List Int) : Prop := ∃ S, Pg a w p S bm vW vI cap W I W I ∧ SlI w v l ∧ ∀ g, Bl v g → ¬ S g ∧ ¬ Bl vW g ∧ ¬ Bl vI g ∧ a.heap.size ≤ g
section
variable {a w w' : World} {p bm : Nat} {vW vI : Value} {cap : Nat} {W I : List Int}
theorem Pq.beside (h : Pq a w p bm vW vI cap W I) {v : Value} {l : List Int} (hN : NewI w w' v l) : Pw a w' p bm vW vI cap W I v l := by
  obtain ⟨S, h⟩ := h
  exact ⟨S, h.same hN.2.1, hN.1, fun g hg => ⟨fun e => by have := h.st.lt g e; have := hN.2.2 g hg; omega, fun e => by have := Sl.lt h.sw g e; have := hN.2.2 g hg; omega, fun e => by have := Sl.lt h.si g e; have := hN.2.2 g hg; omega, Nat.le_trans h.st.fr.size (hN.2.2 g hg)⟩⟩
theorem Pw.same {v : Value} {l : List Int} (h : Pw a w p bm vW vI cap W I v l) (hf : Fr w w' No) : Pw a w' p bm vW vI cap W I v l := by
  obtain ⟨S, h1, h2, h3⟩ := h; exact ⟨S, h1.same hf, h2.keep0 hf, h3⟩
theorem Pw.pq {v : Value} {l : List Int} (h : Pw a w p bm vW vI cap W I v l) : Pq a w p bm vW vI cap W I := by obtain ⟨S, h, _⟩ := h; exact ⟨S, h⟩
theorem Pw.sl {v : Value} {l : List Int} (h : Pw a w p bm vW vI cap W I v l) : SlI w v l := by obtain ⟨S, _, h, _⟩ := h; exact h
theorem Pw.set {g off n c : Nat} {l : List Int} (h : Pw a w p bm vW vI cap W I (.slice (some ⟨g, off, none⟩) n c) l) (hn : l.length = n) (i : Nat) (hi : i < n) (x : Int) :
    Pw a (w.setCell ⟨g, off + i, none⟩ (.int .i64 x)) p bm vW vI cap W I (.slice (some ⟨g, off, none⟩) n c) (l.set i x) := by
  obtain ⟨S, h1, h2, h3⟩ := h
  obtain ⟨k1, k2, k3, k4⟩ := h3 g rfl
  refine ⟨S, h1.write k1 ?_ k2 k3 k4 _ _, ?_, h3⟩
  · intro e; subst e; exact Sl.ne h2 h1.bk (by decide) rfl
  · subst hn
    have := Sl.set h2 i hi (.int .i64 x)
    unfold SlI
    rwa [List.map_set, List.length_set]
end
end Go.Proofs.Ytmdciipaggcjoaa
