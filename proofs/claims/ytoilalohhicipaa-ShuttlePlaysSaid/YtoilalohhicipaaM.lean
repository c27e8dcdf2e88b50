/-
  What the walks of this seat say of memory: a frame ('Fr': only some blocks may have turned), a slice that lies in a block that may be written ('Sl'), a slice that can be read ('Rd'), and append over them.
-/
import Derived.WalkKit
import Derived.WalkSpells
import Derived.WalkLawsBesides
import Derived.Lib.Hide
import Derived.BigQuiet
import Derived.Deep.QuietTactic
import Derived.Deep.AppendLies
import Derived.Deep.RegionWith
import Derived.Deep.RegionHeld3
import Derived.StillTailTactics
import Derived.Deep.RegionLaw
import Derived.Deep.DeepFit
import Derived.Deep.LoopGhost
import Derived.Deep.DeepCutAuto
import Derived.Deep.CutBlock
namespace Go.Proofs.Ytoilalohhicipaa
open Go.RowKit
set_option linter.unusedVariables false
set_option linter.unusedSimpArgs false

/-! ### The frame -/
/-- Only blocks of S may have turned, and new ones have come. -/
structure Fr (w w' : World) (S : Nat → Prop) : Prop where
  os : w'.os = w.os
  tape : w'.tape = w.tape
  output : w'.output = w.output
  size : w.heap.size ≤ w'.heap.size
  block : ∀ k, k < w.heap.size → ¬ S k → w'.heap[k]? = w.heap[k]?

def No : Nat → Prop := fun _ => False
def One (g : Nat) : Nat → Prop := fun k => k = g

theorem Fr.refl (w : World) (S : Nat → Prop) : Fr w w S := ⟨rfl, rfl, rfl, Nat.le_refl _, fun _ _ _ => rfl⟩
theorem Fr.trans {a b c : World} {S S' T : Nat → Prop} (h : Fr a b S) (k : Fr b c S') (hS : ∀ i, i < a.heap.size → S i → T i) (hS' : ∀ i, i < a.heap.size → S' i → T i) : Fr a c T :=
  ⟨k.os.trans h.os, k.tape.trans h.tape, k.output.trans h.output, Nat.le_trans h.size k.size, fun i hi ht =>
    (k.block i (Nat.lt_of_lt_of_le hi h.size) (fun s => ht (hS' i hi s))).trans (h.block i hi (fun s => ht (hS i hi s)))⟩
theorem Fr.mono {a b : World} {S T : Nat → Prop} (h : Fr a b S) (hS : ∀ i, i < a.heap.size → S i → T i) : Fr a b T := h.trans (Fr.refl b T) hS (fun _ _ s => s)
theorem Fr.below {B : Nat} {a b : World} {S : Nat → Prop} (h : Fr a b S) (hB : B ≤ a.heap.size) (hS : ∀ i, i < B → ¬ S i) : Below B a b :=
  ⟨h.os, h.tape, h.output, h.size, fun k hk => h.block k (by omega) (hS k hk)⟩
theorem Fr.of_below {a b : World} (h : Below a.heap.size a b) (S : Nat → Prop) : Fr a b S := ⟨h.os, h.tape, h.output, h.size, fun k hk _ => h.block k hk⟩
theorem Fr.of_grown {a b : World} {row : Option Nat} (h : a.grownBy b row) : Fr a b (fun k => row = some k) := ⟨h.os, h.tape, h.output, h.size, fun k hk hn => h.block k hk (fun e => hn e.symm)⟩
theorem Fr.of_grown_none {a b : World} (h : a.grownBy b none) (S : Nat → Prop) : Fr a b S := ⟨h.os, h.tape, h.output, h.size, fun k hk _ => h.block k hk (by simp)⟩
theorem Fr.drew (w : World) (S : Nat → Prop) : Fr w w.drew S := ⟨rfl, rfl, rfl, Nat.le_refl _, fun _ _ _ => rfl⟩
theorem Fr.drewN (w : World) (n : Nat) (S : Nat → Prop) : Fr w (w.drewN n) S := ⟨rfl, rfl, rfl, Nat.le_refl _, fun _ _ _ => rfl⟩
theorem Fr.alloc (w : World) (o : Obj) (S : Nat → Prop) : Fr w (w.alloc o) S := Fr.of_grown_none (World.grownBy_alloc w o none) S
theorem Fr.setCell (w : World) (p : Addr) (u : Value) : Fr w (w.setCell p u) (One p.block) :=
  ⟨rfl, rfl, rfl, by simp [World.setCell], fun k _ hn => Below.heap_setCell w p u k hn⟩
theorem Fr.cell {a b : World} {S : Nat → Prop} (h : Fr a b S) {p : Addr} {v : Value} (hc : a.cell? p = some v) (hS : ¬ S p.block) : b.cell? p = some v :=
  (World.cell?_of_block (h.block p.block (World.block_lt_of_cell? a p hc) hS)).trans hc
theorem Fr.blk {a b : World} {S : Nat → Prop} (h : Fr a b S) {g : Nat} {o : Obj} (hc : a.heap[g]? = some o) (hS : ¬ S g) : b.heap[g]? = some o :=
  (h.block g (Array.getElem?_eq_some_iff.1 hc).1 hS).trans hc
theorem Fr.frozen {a b : World} {S : Nat → Prop} (h : Fr a b S) {p : Addr} (hlt : p.block < a.heap.size) (hS : ¬ S p.block) : b.frozen? p = a.frozen? p :=
  World.frozen?_of_block (h.block p.block hlt hS)

theorem Fr.nn {a b c : World} (h : Fr a b No) (k : Fr b c No) : Fr a c No := h.trans k (fun _ _ h => h) (fun _ _ h => h)
theorem Fr.n1 {a b c : World} {S : Nat → Prop} (h : Fr a b No) (k : Fr b c S) : Fr a c S := h.trans k (fun _ _ h => h.elim) (fun _ _ h => h)
theorem Fr.r1 {a b c : World} {S : Nat → Prop} (h : Fr a b S) (k : Fr b c No) : Fr a c S := h.trans k (fun _ _ h => h) (fun _ _ h => h.elim)
theorem Fr.rr {a b c : World} {S : Nat → Prop} (h : Fr a b S) (k : Fr b c S) : Fr a c S := h.trans k (fun _ _ h => h) (fun _ _ h => h)
theorem Fr.no {a b : World} (h : Fr a b No) (S : Nat → Prop) : Fr a b S := h.mono (fun _ _ h => h.elim)

theorem Fr.to_set {a w : World} {S : Nat → Prop} (h : Fr a w S) (p : Addr) (u : Value) (hp : S p.block) : Fr a (w.setCell p u) S :=
  h.trans (Fr.setCell w p u) (fun _ _ h => h) (fun _ _ e => by rw [show _ = p.block from e]; exact hp)
theorem Fr.to_one {a w : World} {g : Nat} (h : Fr a w (One g)) (off : Nat) (u : Value) : Fr a (w.setCell ⟨g, off, none⟩ u) (One g) := h.to_set _ u rfl
theorem Fr.to_drew {a w : World} {S : Nat → Prop} (h : Fr a w S) : Fr a w.drew S := h.rr (Fr.drew w S)
theorem Fr.to_drewN {a w : World} {S : Nat → Prop} (h : Fr a w S) (n : Nat) : Fr a (w.drewN n) S := h.rr (Fr.drewN w n S)
theorem Fr.to_alloc {a w : World} {S : Nat → Prop} (h : Fr a w S) (o : Obj) : Fr a (w.alloc o) S := h.rr (Fr.alloc w o S)
/-- A store into a block that is new. -/
theorem Fr.to_new {a w : World} {S : Nat → Prop} (h : Fr a w S) (p : Addr) (u : Value) (hp : a.heap.size ≤ p.block) : Fr a (w.setCell p u) S :=
  h.trans (Fr.setCell w p u) (fun _ _ h => h) (fun i hi e => absurd hi (by rw [show i = p.block from e]; omega))

theorem Fr.into {a b c : World} {S : Nat → Prop} (h : Fr a b No) (k : Fr b c S) (hS : ∀ i, S i → a.heap.size ≤ i) : Fr a c No :=
  h.trans k (fun _ _ h => h) (fun i hi s => absurd hi (by have := hS i s; omega))
theorem Fr.in1 {a b c : World} {g : Nat} (h : Fr a b No) (k : Fr b c (One g)) (hg : a.heap.size ≤ g) : Fr a c No := h.into k (fun i e => by rw [show i = g from e]; exact hg)

/-! ### A block -/
theorem blk_lt {w : World} {g : Nat} {o : Obj} (h : w.heap[g]? = some o) : g < w.heap.size := (Array.getElem?_eq_some_iff.1 h).1
theorem blk_cell {w : World} {g : Nat} {cs : Array Value} {t : TypeId} {fr : Nat × Nat} (h : w.heap[g]? = some (.cells cs t fr)) (j : Nat) : w.cell? ⟨g, j, none⟩ = cs[j]? := by simp [World.cell?, h]
theorem blk_frozen {w : World} {g : Nat} {cs : Array Value} {t : TypeId} (h : w.heap[g]? = some (.cells cs t (0, 0))) (j : Nat) : w.frozen? ⟨g, j, none⟩ = false := by simp [World.frozen?, h]
theorem blk_set {w : World} {g : Nat} {cs : Array Value} {t : TypeId} {fr : Nat × Nat} (h : w.heap[g]? = some (.cells cs t fr)) (j : Nat) (u : Value) : (w.setCell ⟨g, j, none⟩ u).heap[g]? = some (.cells (cs.setIfInBounds j u) t fr) := by
  simp [World.setCell, Array.getElem?_modify, h]
theorem blk_far {w : World} {g : Nat} {o : Obj} (h : w.heap[g]? = some o) {p : Addr} (hne : g ≠ p.block) (u : Value) : (w.setCell p u).heap[g]? = some o := (Below.heap_setCell w p u g hne).trans h
theorem blk_new (w : World) (o : Obj) : (w.alloc o).heap[w.heap.size]? = some o := heap_alloc_new w o
theorem blk_old {w : World} {g : Nat} {o : Obj} (h : w.heap[g]? = some o) (o' : Obj) : (w.alloc o').heap[g]? = some o := (Below.heap_alloc w o' g (blk_lt h)).trans h
theorem blk_ne {w : World} {g h : Nat} {cs cs' : Array Value} {t t' : TypeId} {fr fr' : Nat × Nat} (hg : w.heap[g]? = some (.cells cs t fr)) (hh : w.heap[h]? = some (.cells cs' t' fr')) (ht : t ≠ t') : g ≠ h := by
  rintro rfl
  rw [hg] at hh
  injection hh with hh
  injection hh with _ e
  exact ht e

theorem set_at {w : World} {g : Nat} {cs : Array Value} {t : TypeId} {fr : Nat × Nat} (h : w.heap[g]? = some (.cells cs t fr)) (j : Nat) (hj : j < cs.size) (u : Value) : (w.setCell ⟨g, j, none⟩ u).cell? ⟨g, j, none⟩ = some u := by
  rw [blk_cell (blk_set h j u)]; simp [hj]
theorem two_blk (w : World) (o1 o2 : Obj) : ((w.alloc o1).alloc o2).heap[w.heap.size]? = some o1 ∧ ((w.alloc o1).alloc o2).heap[w.heap.size + 1]? = some o2 ∧ Fr w ((w.alloc o1).alloc o2) No ∧ ((w.alloc o1).alloc o2).heap.size = w.heap.size + 2 :=
  ⟨blk_old (blk_new w o1) o2, by have := blk_new (w.alloc o1) o2; simpa using this, (Fr.alloc w o1 No).nn (Fr.alloc _ o2 No), by simp⟩

/-! ### Cells set one behind the other -/
/-- a list overwritten from a place on. -/
def over (o : Nat) (vs cs : List Value) : List Value := cs.take o ++ vs ++ cs.drop (o + vs.length)

theorem setCells_heap (g : Nat) : ∀ (vs : List Value) (o : Nat) (w : World) (cs : Array Value) (t : TypeId) (fr : Nat × Nat), w.heap[g]? = some (.cells cs t fr) → o + vs.length ≤ cs.size →
    (w.setCells g o vs).heap[g]? = some (.cells (over o vs cs.toList).toArray t fr)
  | [], o, w, cs, t, fr, h, hl => by simp [World.setCells, over, h]
  | v :: r, o, w, cs, t, fr, h, hl => by
    rw [World.setCells, setCells_heap g r (o + 1) _ (cs.setIfInBounds o v) t fr (blk_set h o v) (by simp at hl ⊢; omega)]
    congr 2
    simp only [over, Array.toList_setIfInBounds]
    have hlo : o < cs.toList.length := by simp at hl ⊢; omega
    have e1 : (cs.toList.set o v).take (o + 1) = cs.toList.take o ++ [v] := by
      rw [List.take_succ_eq_append_getElem (by simpa using hlo)]
      simp [List.take_set_of_le]
    have e2 : (cs.toList.set o v).drop (o + 1 + r.length) = cs.toList.drop (o + (v :: r).length) := by
      rw [List.drop_set_of_lt (by omega)]
      congr 1
      simp; omega
    rw [e1, e2]
    simp

theorem setCells_fr (g : Nat) : ∀ (vs : List Value) (o : Nat) (w : World), Fr w (w.setCells g o vs) (One g)
  | [], o, w => Fr.refl _ _
  | v :: r, o, w => by
    rw [World.setCells]
    exact (Fr.setCell w ⟨g, o, none⟩ v).trans (setCells_fr g r (o + 1) _) (fun _ _ h => h) (fun _ _ h => h)

/-! ### A slice in a block that may be written; k: how many cells an element has -/
def Sl (w : World) (e : TypeId) (k : Nat) (v : Value) (n : Nat) (xs : List Value) : Prop :=
  xs.length = n * k ∧
  ((v = .slice none 0 0 ∧ n = 0) ∨
   ∃ g off cap cur, v = .slice (some ⟨g, off, none⟩) n cap ∧ w.heap[g]? = some (.cells cur e (0, 0)) ∧ n ≤ cap ∧ cap ≤ maxLen ∧ off + cap * k ≤ cur.size ∧ (cur.toList.drop off).take (n * k) = xs)

theorem Sl.nil (w : World) (e : TypeId) (k : Nat) : Sl w e k (.slice none 0 0) 0 [] := ⟨by simp, .inl ⟨rfl, rfl⟩⟩
theorem Sl.of_owns {w : World} {base : Nat} {e : TypeId} {k : Nat} {v : Value} {n : Nat} {xs : List Value} (h : w.ownsRow base e k v n xs) : Sl w e k v n xs := by
  obtain ⟨hl, h | ⟨g, cap, cur, hv, hb, hg, hn, hc, hs, ht⟩⟩ := h
  · exact ⟨hl, .inl h⟩
  · exact ⟨hl, .inr ⟨g, 0, cap, cur, hv, hg, hn, hc, by omega, by simpa using ht⟩⟩
theorem Sl.keep {w w' : World} {S : Nat → Prop} {e : TypeId} {k : Nat} {v : Value} {n : Nat} {xs : List Value} (h : Sl w e k v n xs) (hf : Fr w w' S) (hS : ∀ g, v.ownBlock = some g → ¬ S g) : Sl w' e k v n xs := by
  obtain ⟨hl, h | ⟨g, off, cap, cur, rfl, hg, rest⟩⟩ := h
  · exact ⟨hl, .inl h⟩
  · exact ⟨hl, .inr ⟨g, off, cap, cur, rfl, hf.blk hg (hS g rfl), rest⟩⟩
theorem Sl.lt {w : World} {e : TypeId} {k : Nat} {v : Value} {n : Nat} {xs : List Value} (h : Sl w e k v n xs) : ∀ g, v.ownBlock = some g → g < w.heap.size := by
  obtain ⟨hl, ⟨rfl, _⟩ | ⟨g, off, cap, cur, rfl, hg, rest⟩⟩ := h
  · intro g hg; simp [Value.ownBlock] at hg
  · intro g' hg'; simp [Value.ownBlock] at hg'; subst hg'; exact blk_lt hg
theorem Sl.ne {w : World} {e t : TypeId} {k : Nat} {v : Value} {n : Nat} {xs : List Value} {g : Nat} {cs : Array Value} {fr : Nat × Nat} (h : Sl w e k v n xs) (hb : w.heap[g]? = some (.cells cs t fr)) (ht : t ≠ e) : v.ownBlock ≠ some g := by
  obtain ⟨hl, ⟨rfl, _⟩ | ⟨g', off, cap, cur, rfl, hg, rest⟩⟩ := h
  · simp [Value.ownBlock]
  · simp only [Value.ownBlock, ne_eq, Option.some.injEq]
    intro e'
    exact blk_ne hb (e' ▸ hg) ht rfl
theorem Sl.cell {w : World} {e : TypeId} {k : Nat} {g off n cap : Nat} {xs : List Value} (h : Sl w e k (.slice (some ⟨g, off, none⟩) n cap) n xs) : ∀ j u, xs[j]? = some u → w.cell? ⟨g, off + j, none⟩ = some u := by
  intro j u hu
  obtain ⟨hl, ⟨h, _⟩ | ⟨g', off', cap', cur, hv, hg, hn, hc, hs, ht⟩⟩ := h
  · cases h
  · simp at hv
    obtain ⟨⟨rfl, rfl⟩, rfl⟩ := hv
    rw [blk_cell hg]
    rw [← ht, List.getElem?_take] at hu
    split at hu
    · rw [List.getElem?_drop] at hu
      simpa using hu
    · cases hu

theorem Sl.set {w : World} {e : TypeId} {g off n cap : Nat} {xs : List Value} (h : Sl w e 1 (.slice (some ⟨g, off, none⟩) n cap) n xs) (i : Nat) (hi : i < n) (u : Value) :
    Sl (w.setCell ⟨g, off + i, none⟩ u) e 1 (.slice (some ⟨g, off, none⟩) n cap) n (xs.set i u) := by
  obtain ⟨hl, ⟨h, _⟩ | ⟨g', off', cap', cur, hv, hg, hn, hc, hs, ht⟩⟩ := h
  · cases h
  · simp at hv
    obtain ⟨⟨rfl, rfl⟩, rfl⟩ := hv
    refine ⟨by simpa using hl, .inr ⟨g, off, cap, _, rfl, blk_set hg _ u, hn, hc, by simpa using hs, ?_⟩⟩
    rw [Array.toList_setIfInBounds, ← ht, List.drop_set, if_neg (by omega), Nat.add_sub_cancel_left, List.take_set]
theorem Sl.frz {w : World} {e : TypeId} {k : Nat} {g off n m cap : Nat} {xs : List Value} (h : Sl w e k (.slice (some ⟨g, off, none⟩) n cap) m xs) (j : Nat) : w.frozen? ⟨g, j, none⟩ = false := by
  obtain ⟨hl, ⟨h, _⟩ | ⟨g', off', cap', cur, hv, hg, hn, hc, hs, ht⟩⟩ := h
  · cases h
  · simp at hv
    obtain ⟨⟨rfl, rfl⟩, _, _⟩ := hv
    exact blk_frozen hg j
theorem Sl.made {w : World} {e : TypeId} {k : Nat} {g n : Nat} {cs : Array Value} (hg : w.heap[g]? = some (.cells cs e (0, 0))) (hn : cs.size = n * k) (hm : n ≤ maxLen) : Sl w e k (.slice (some ⟨g, 0, none⟩) n n) n cs.toList :=
  ⟨by simpa using hn, .inr ⟨g, 0, n, cs, rfl, hg, Nat.le_refl _, hm, by omega, by rw [← hn]; exact List.take_of_length_le (by simp)⟩⟩

/-! ### A slice that can be read -/
def Rd (w : World) (v : Value) (n : Nat) (xs : List Value) (k : Nat) : Prop :=
  xs.length = n * k ∧ ∃ a c, v = .slice a n c ∧ (a = none → n = 0 ∧ c = 0) ∧ (0 < n → ∃ b off, a = some ⟨b, off, none⟩ ∧ ∀ j u, xs[j]? = some u → w.cell? ⟨b, off + j, none⟩ = some u)

theorem Sl.rd {w : World} {e : TypeId} {k : Nat} {v : Value} {n : Nat} {xs : List Value} (h : Sl w e k v n xs) : Rd w v n xs k := by
  have h0 := h
  obtain ⟨hl, ⟨rfl, rfl⟩ | ⟨g, off, cap, cur, rfl, hg, rest⟩⟩ := h
  · exact ⟨hl, none, 0, rfl, fun _ => ⟨rfl, rfl⟩, fun h => by omega⟩
  · exact ⟨hl, some ⟨g, off, none⟩, cap, rfl, (fun h => nomatch h), fun _ => ⟨g, off, rfl, h0.cell⟩⟩

theorem Rd.keep {w w' : World} {S : Nat → Prop} {v : Value} {n : Nat} {xs : List Value} {k : Nat} (h : Rd w v n xs k) (hf : Fr w w' S) (hS : ∀ g, v.ownBlock = some g → ¬ S g) : Rd w' v n xs k := by
  obtain ⟨h0, a, c, rfl, hn, hs⟩ := h
  refine ⟨h0, a, c, rfl, hn, fun hp => ?_⟩
  obtain ⟨b, off, rfl, hc⟩ := hs hp
  exact ⟨b, off, rfl, fun j u hu => hf.cell (hc j u hu) (hS b rfl)⟩
theorem Rd.keep0 {w w' : World} {v : Value} {n : Nat} {xs : List Value} {k : Nat} (h : Rd w v n xs k) (hf : Fr w w' No) : Rd w' v n xs k := h.keep hf (fun _ _ h => h)
theorem Rd.drewN {w : World} {v : Value} {n : Nat} {xs : List Value} {k : Nat} (h : Rd w v n xs k) (m : Nat) : Rd (w.drewN m) v n xs k := h.keep0 (Fr.drewN w m No)
theorem Sl.keep0 {w w' : World} {e : TypeId} {k : Nat} {v : Value} {n : Nat} {xs : List Value} (h : Sl w e k v n xs) (hf : Fr w w' No) : Sl w' e k v n xs := h.keep hf (fun _ _ h => h)

section
variable {P : Program}

/-- append: what is there is appended to a slice that may be written. -/
theorem run_app (w : World) (t ty e : TypeId) (i : TypeInfo) (z : Value) (k bytes : Nat) (ht : P.underlying t = some (.slice e)) (hi : P.info? e = some i) (hz : i.zero = some z)
    (hsize : i.size = k) (hby : i.bytes = bytes) (hzs : z.cells.size = k) (hk : 0 < k)
    (v : Value) (n : Nat) (xs : List Value) (hs : Sl w e k v n xs) (x : Value) (m : Nat) (news : List Value) (hx : Rd w x m news k) (h1 : ∀ u ∈ news, u.oneCell' = true)
    (h63 : n + m ≤ maxLen) (hbytes : (n + m) * bytes ≤ 140737488355328) :
    ∃ v' w', (Builtin.append_ #[t, t] ty #[v, x]).run P w = .ok v' w' ∧ Sl w' e k v' (n + m) (xs ++ news) ∧ Fr w w' (fun g => v.ownBlock = some g) ∧
      (v'.ownBlock = v.ownBlock ∨ v'.ownBlock = some w.heap.size) ∧ (v' = .slice none 0 0 ↔ v = .slice none 0 0 ∧ m = 0) := by
  obtain ⟨hnl, a, c, rfl, hanone, hasome⟩ := hx
  by_cases hm : m = 0
  · subst hm
    obtain rfl : news = [] := List.eq_nil_of_length_eq_zero (by simpa using hnl)
    refine ⟨v, w, ?_, by simpa using hs, Fr.refl _ _, .inl rfl, by simp⟩
    obtain ⟨hl, ⟨rfl, rfl⟩ | ⟨g, off, cap, cur, rfl, hg, hn, hc, hsz, htk⟩⟩ := hs
    · cases a <;> simp [Builtin.append_, run_underlying ht, sizeOf, typeInfo, hi, Builtin.lenOf, Builtin.firstCells, loadCells, loadCellsFrom]
    · cases a <;> simp [Builtin.append_, run_underlying ht, sizeOf, typeInfo, hi, Builtin.lenOf, Builtin.firstCells, loadCells, loadCellsFrom, hn, storeCells]
  · obtain ⟨b, off, rfl, hcell⟩ := hasome (by omega)
    have hcell' : ∀ j u, news[j]? = some u → w.cell? ((⟨b, off, none⟩ : Addr).add j) = some u := fun j u hu => by rw [Addr.add_lit]; exact hcell j u hu
    obtain ⟨hl, ⟨rfl, rfl⟩ | ⟨g, o, cap, cur, rfl, hg, hn, hc, hsz, htk⟩⟩ := hs
    · obtain rfl : xs = [] := List.eq_nil_of_length_eq_zero (by simpa using hl)
      obtain ⟨v', w', hr, h2, h3, h4, h5⟩ := run_append_own_at (P := P) w w.heap.size t ty e i z k bytes ht hi hz hsize hby hzs hk (.slice none 0 0) 0 [] (World.ownsRow_nil w _ e k) _ m c news hnl hcell' h1 h63 hbytes (Nat.le_refl _)
      exact ⟨v', w', hr, Sl.of_owns h2, Fr.of_grown h3 |>.mono (fun i _ h => h), h5, h4⟩
    · by_cases hroom : n + m ≤ cap
      · have hns : (n + m) * k ≤ cap * k := Nat.mul_le_mul_right _ hroom
        rw [Nat.add_mul] at hns
        have hcel : ∀ j, j < news.length → (w.cell? ⟨g, o + n * i.size + j, none⟩).isSome = true := fun j hj => by
          rw [blk_cell hg, hsize]; simp; omega
        have hr := run_append_room_cells (P := P) w t ty e i ht hi g o n cap ⟨b, off, none⟩ m c news (by rw [hsize]; exact hnl) hcell' h1 hroom hcel (fun j hj => blk_frozen hg _)
        rw [hsize] at hr
        refine ⟨_, _, hr, ⟨by rw [List.length_append, hl, hnl, Nat.add_mul], .inr ⟨g, o, cap, _, rfl, setCells_heap g news (o + n * k) w cur e (0, 0) hg (by omega), hroom, hc, ?_, ?_⟩⟩, (setCells_fr g news _ w).mono (fun i _ h => by simp [Value.ownBlock]; exact h.symm), .inl rfl, by simp⟩
        · simp only [over, List.size_toArray, List.length_append, List.length_take, List.length_drop, Array.length_toList]
          omega
        · have hlt : (cur.toList.take (o + n * k)).length = o + n * k := by simp; omega
          simp only [over, List.append_assoc]
          rw [List.drop_append_of_le_length (by omega), List.drop_take, Nat.add_sub_cancel_left, htk, List.take_append, List.take_of_length_le (by rw [hl, Nat.add_mul]; omega), List.take_append]
          rw [List.take_of_length_le (by rw [hl, hnl, Nat.add_mul]; omega)]
          rw [show (n + m) * k - xs.length - news.length = 0 by rw [hl, hnl, Nat.add_mul]; omega]
          simp
      · have hold : ∀ j u, xs[j]? = some u → w.cell? ((⟨g, o, none⟩ : Addr).add j) = some u := fun j u hu => by
          rw [Addr.add_lit]
          exact Sl.cell (e := e) (k := k) (n := n) (cap := cap) ⟨hl, .inr ⟨g, o, cap, cur, rfl, hg, hn, hc, hsz, htk⟩⟩ j u hu
        subst hsize
        subst hby
        have hge := grownCap_ge w (n + m) cap e
        have hcm : grownCap w (n + m) cap e ≤ maxLen := grownCap_le_maxLen w (n + m) cap e h63
        have hsmall : n + m ≤ 9223372036854775807 := by simp only [maxLen] at h63; omega
        have hlen : (xs ++ news).length = (n + m) * i.size := by rw [List.length_append, hl, hnl, Nat.add_mul]
        have hr := run_append_grow (P := P) w t ty e i z ht hi hz ⟨g, o, none⟩ n cap xs hl hold ⟨b, off, none⟩ m c news hnl hcell' (by omega) (by omega) (growslice_fits (by omega) hbytes)
        refine ⟨_, _, hr, ⟨hlen, .inr ⟨w.heap.size, 0, _, _, rfl, heap_alloc_new w.drew _, hge, hcm, ?_, ?_⟩⟩, (Fr.drew w _).trans (Fr.alloc w.drew _ _) (fun _ _ h => h) (fun _ _ h => h), .inr rfl, by simp⟩
        · simp only [Array.size_append, List.size_toArray, size_zeroCells, hzs, hl, hnl, ← Nat.add_mul]
          rw [Nat.zero_add]
          exact Nat.mul_le_mul_right _ (by omega)
        · simp only [Array.toList_append, List.drop_zero]
          rw [← hlen]
          exact List.take_left

theorem wpList_app {w : World} {ops : Array Oper} {rest : List Oper} {o : Oper} {a : Act} {Q : Exit → Act → World → Prop} (hgd : o.guard = none) (s x : Operand) (t : TypeId)
    (ho : o.op = .call { callee := .builtin .append, args := #[s, x], argTypes := #[t, t] })
    (e : TypeId) (i : TypeInfo) (z : Value) (k bytes : Nat) (ht : P.underlying t = some (.slice e)) (hi : P.info? e = some i) (hz : i.zero = some z)
    (hsize : i.size = k) (hby : i.bytes = bytes) (hzs : z.cells.size = k) (hk : 0 < k)
    (v : Value) (n : Nat) (xs : List Value) (hev : a.eval s = v) (hs : Sl w e k v n xs) (xv : Value) (m : Nat) (news : List Value) (hex : a.eval x = xv) (hx : Rd w xv m news k) (h1 : ∀ u ∈ news, u.oneCell' = true)
    (h63 : n + m ≤ maxLen) (hbytes : (n + m) * bytes ≤ 140737488355328)
    (h : ∀ v' w', Sl w' e k v' (n + m) (xs ++ news) → Fr w w' (fun g => v.ownBlock = some g) → (v'.ownBlock = v.ownBlock ∨ v'.ownBlock = some w.heap.size) → (v' = .slice none 0 0 ↔ v = .slice none 0 0 ∧ m = 0) → wpList P ops Q rest (a.put o.dst v') w') : wpList P ops Q (o :: rest) a w := by
  refine wpList_plain hgd fun K hK => ?_
  obtain ⟨v', w', hr, h2, h3, h4, h5⟩ := run_app (P := P) w t o.type e i z k bytes ht hi hz hsize hby hzs hk v n xs hs xv m news hx h1 h63 hbytes
  unfold Oper.wp execOp
  simp only [ho, resolve, invoke, builtin, Sem.run_bind, Sem.run_pure, Result.andThen_ok, List.map_toArray, List.map_cons, List.map_nil, hev, hex, hr]
  exact hK _ _ (h v' w' h2 h3 h4 h5)
end

end Go.Proofs.Ytoilalohhicipaa
