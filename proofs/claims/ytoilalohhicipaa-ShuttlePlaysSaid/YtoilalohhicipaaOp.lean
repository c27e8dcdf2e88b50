/-
  The arguments of a law, opened: what a reading of them says of the cells.
-/
import Derived.Test.YtoilalohhicipaaM
import Derived.SizedLaws
import Derived.ChangeSlices
import Derived.ProofKit
import Derived.OpenShut
import Derived.ShutString
import Derived.ChangeOld
import Derived.Deep.Slices
import Derived.Deep.Fields
import Derived.ChangeSame
import Derived.Lib.SmallJoins
namespace Go.Proofs.Ytoilalohhicipaa
open Go.RowKit Go.ChangeShapes Go.WideShapes Go.Deep Go.Joins
set_option linter.unusedVariables false
set_option linter.unusedSimpArgs false
section
variable {H : Type} {enc : TypeId × Value → H} {P : Program} {W : World} {base : Nat} {spare : Nat → Bool} {held : Bool}

/-- A slice of whole numbers that came in: it can be read, and it is no longer than its weight allows. -/
theorem op_ints {t e : TypeId} {k : IntKind} {a : Option Addr} {len cap : Nat} {d : DataW H} {ps : List MemPlace} {ts : List TypeId} {ds : List (DataW H)} {j : Nat}
    (hsz : (DataW.weightsEach P ts ds).all (· ≤ reachBytes) = true) (ht : ts[j]? = some t) (hd : ds[j]? = some d) (hu : P.underlying t = some (.slice e)) (he : P.underlying e = some (.int k)) (hc : P.cellsOf e = 1) {B : Nat} (hB : P.bytesOf e = B)
    (h : DataW.Trod enc P W base spare held t (.slice a len cap) d ps) :
    ∃ zs : List Int, zs.length = len ∧ Rd W (.slice a len cap) len (zs.map (Value.int k)) 1 ∧ (∀ z ∈ zs, (Lit.int k z).wf = true) ∧ len * B ≤ 140737488351232 := by
  obtain ⟨fuel, hf⟩ := h
  rcases open_ints hu he hc hf with ⟨hcs, _⟩ | ⟨x, l, c, zs, hcs, _, hl, _, hz, hx, hcell, hw⟩
  · simp [Value.cells] at hcs
    obtain ⟨rfl, rfl, rfl⟩ := hcs
    exact ⟨[], rfl, ⟨rfl, none, 0, rfl, fun _ => ⟨rfl, rfl⟩, fun h => by omega⟩, by simp, by simp⟩
  · simp [Value.cells] at hcs
    obtain ⟨rfl, rfl, rfl⟩ := hcs
    obtain ⟨hx, _⟩ := Prod.mk.inj hx
    subst hx
    have z := sized_slice hsz ht hd hu
    rw [hB] at z
    have hl2 : len ≤ zs.length := by
      rw [hz]
      split
      · exact hl
      · exact Nat.le_refl _
    have h1 : (lits (H := H) k (zs.take len)).length + (lits (H := H) k (zs.drop len)).length = zs.length := by
      simp [lits]
      omega
    rw [h1] at z
    refine ⟨zs.take len, by simp; omega, ⟨by simp; omega, some x, cap, rfl, (fun h => nomatch h), fun hp => ?_⟩, fun y hy => hw y (List.mem_of_mem_take hy), Nat.le_trans (Nat.mul_le_mul_right _ hl2) z⟩
    obtain ⟨b, off, spot⟩ := x
    have hc0 := hcell 0 (by omega)
    have hspot : spot = none := by simpa [Addr.add] using World.cell?_spot hc0
    subst hspot
    refine ⟨b, off, rfl, fun j u hu => ?_⟩
    rw [List.getElem?_map, List.getElem?_take] at hu
    split at hu
    · obtain ⟨y, hy, rfl⟩ := Option.map_eq_some_iff.1 hu
      have hj := (List.getElem?_eq_some_iff.1 hy).1
      have := hcell j hj
      rw [Addr.add_lit] at this
      rw [this]
      simp [List.getD, hy]
    · simp at hu

/-- Is a type made of i64 cells alone? -/
def intsOnly (P : Program) : Nat → TypeId → Bool
  | 0, _ => false
  | n + 1, t => match P.underlying t with
    | some (.int .i64) => P.cellsOf t == 1
    | some (.struct fs) => (List.range (P.cellsOf t)).all fun j => fs.toList.any fun f => f.offset ≤ j && decide (j < f.offset + P.cellsOf f.type) && decide (f.offset + P.cellsOf f.type ≤ P.cellsOf t) && intsOnly P n f.type
    | some (.array m e) => decide (P.cellsOf t = m * P.cellsOf e) && intsOnly P n e
    | _ => false

theorem ints_of_trod : ∀ (k : Nat) {t : TypeId} {fuel : Nat} {cs : List Value} {x : DataW H × List MemPlace}, intsOnly P k t = true → DataW.trod enc P W base spare held fuel t cs = some x →
    cs.length = P.cellsOf t ∧ ∀ j, j < P.cellsOf t → ∃ n : Int, cs[j]? = some (.int .i64 n) ∧ (Lit.int .i64 n).wf = true
  | 0, t, fuel, cs, x, h, _ => by simp [intsOnly] at h
  | k + 1, t, fuel, cs, x, h, hf => by
    unfold intsOnly at h
    split at h
    · rename_i hu
      obtain ⟨n, rfl, _, hw⟩ := DataW.trod_int hu hf
      have h1 : P.cellsOf t = 1 := by simpa using h
      refine ⟨by simp [h1], fun j hj => ⟨n, ?_, hw⟩⟩
      obtain rfl : j = 0 := by omega
      rfl
    · rename_i fs hu
      obtain ⟨xs, n, _, _, hl, hxl, hg⟩ := DataW.trod_struct hu hf
      refine ⟨hl, fun j hj => ?_⟩
      have h1 := List.all_eq_true.1 h j (by simpa using hj)
      obtain ⟨f, hfm, hfp⟩ := List.any_eq_true.1 h1
      simp only [Bool.and_eq_true, decide_eq_true_eq] at hfp
      obtain ⟨⟨⟨a1, a2⟩, a3⟩, a4⟩ := hfp
      obtain ⟨i, hi⟩ := List.getElem?_of_mem hfm
      have hi' : fs[i]? = some f := by simpa using hi
      have := hg i f hi'
      have hil : i < xs.length := by rw [hxl]; exact (Array.getElem?_eq_some_iff.1 hi').1
      rw [List.getElem?_eq_getElem hil] at this
      obtain ⟨_, hc⟩ := ints_of_trod k a4 this
      obtain ⟨n, hn, hw⟩ := hc (j - f.offset) (by omega)
      rw [List.getElem?_take, if_pos (by omega), List.getElem?_drop, show f.offset + (j - f.offset) = j by omega] at hn
      exact ⟨n, hn, hw⟩
    · rename_i m e hu
      simp only [Bool.and_eq_true, decide_eq_true_eq] at h
      obtain ⟨xs, n, _, _, hl, hxl, hg⟩ := DataW.trod_array hu hf
      refine ⟨hl, fun j hj => ?_⟩
      have hpos : 0 < P.cellsOf e := by
        rcases Nat.eq_zero_or_pos (P.cellsOf e) with h0 | h0
        · rw [h.1, h0] at hj; simp at hj
        · exact h0
      have hdiv : j / P.cellsOf e < m := by rw [Nat.div_lt_iff_lt_mul hpos, ← h.1]; exact hj
      have := hg (j / P.cellsOf e) hdiv
      rw [List.getElem?_eq_getElem (by omega)] at this
      obtain ⟨_, hc⟩ := ints_of_trod k h.2 this
      obtain ⟨n, hn, hw⟩ := hc (j % P.cellsOf e) (Nat.mod_lt _ hpos)
      rw [List.getElem?_take, if_pos (Nat.mod_lt _ hpos), List.getElem?_drop, Nat.mul_comm, Nat.div_add_mod] at hn
      exact ⟨n, hn, hw⟩
    · simp at h

theorem list_of_at (m : Nat) (cs : List Value) (hl : cs.length = m) (h : ∀ j, j < m → ∃ n : Int, cs[j]? = some (.int .i64 n) ∧ (Lit.int .i64 n).wf = true) :
    ∃ zs : List Int, cs = zs.map (Value.int .i64) ∧ ∀ z ∈ zs, (Lit.int .i64 z).wf = true := by
  induction cs generalizing m with
  | nil => exact ⟨[], rfl, by simp⟩
  | cons c cs ih =>
    obtain ⟨n, hn, hw⟩ := h 0 (by simp at hl; omega)
    simp at hn
    obtain ⟨zs, rfl, hz⟩ := ih (m - 1) (by simp at hl; omega) (fun j hj => by
      obtain ⟨n, hn, hw⟩ := h (j + 1) (by omega)
      exact ⟨n, by simpa using hn, hw⟩)
    exact ⟨n :: zs, by simp [hn], by intro z hz'; rcases List.mem_cons.1 hz' with rfl | h; exact hw; exact hz z h⟩

/-- A slice of structs of whole numbers that came in: its cells, one behind the other. -/
theorem op_structs {t e : TypeId} {a : Option Addr} {len cap : Nat} {d : DataW H} {ps : List MemPlace} {ts : List TypeId} {ds : List (DataW H)} {j : Nat}
    (hsz : (DataW.weightsEach P ts ds).all (· ≤ reachBytes) = true) (ht : ts[j]? = some t) (hd : ds[j]? = some d) (hu : P.underlying t = some (.slice e)) (k : Nat) (hio : intsOnly P k e = true) {m : Nat} (hm : P.cellsOf e = m) (hm0 : 0 < m) {B : Nat} (hB : P.bytesOf e = B)
    (h : DataW.Trod enc P W base spare held t (.slice a len cap) d ps) :
    ∃ zs : List Int, Rd W (.slice a len cap) len (zs.map (Value.int .i64)) m ∧ len * B ≤ 140737488351232 ∧ ∀ z ∈ zs, (Lit.int .i64 z).wf = true := by
  obtain ⟨fuel, hf⟩ := h
  rcases open_slice hu hf with ⟨hcs, _⟩ | ⟨x, l, c, M, n, D, Pl, hcs, hb, hl, _, hM, hx, hi⟩
  · simp [Value.cells] at hcs
    obtain ⟨rfl, rfl, rfl⟩ := hcs
    exact ⟨[], ⟨by simp, none, 0, rfl, fun _ => ⟨rfl, rfl⟩, fun h => by omega⟩, by simp, by simp⟩
  · simp [Value.cells] at hcs
    obtain ⟨rfl, rfl, rfl⟩ := hcs
    obtain ⟨hx, _⟩ := Prod.mk.inj hx
    subst hx
    have z := sized_slice hsz ht hd hu
    rw [hB] at z
    have hlM : len ≤ M := by rw [hM]; split <;> omega
    have hlen : len * B ≤ 140737488351232 := Nat.le_trans (Nat.mul_le_mul_right _ (by simp)) z
    -- each element's cells
    have hel : ∀ i, i < len → ∃ zs : List Int, zs.length = m ∧ (∀ z ∈ zs, (Lit.int .i64 z).wf = true) ∧ ∀ q u, (zs.map (Value.int .i64))[q]? = some u → W.cell? (x.add (i * m + q)) = some u := fun i hlt => by
      obtain ⟨cs', hc, htr⟩ := hi i (by omega)
      rw [hm] at hc
      obtain ⟨_, hcl, hat⟩ := World.cells?_some hc
      obtain ⟨h1, h2⟩ := ints_of_trod k hio htr
      rw [hm] at h1 h2
      obtain ⟨zs, rfl, hz⟩ := list_of_at m cs' h1 h2
      refine ⟨zs, by simpa using h1, hz, fun q u hq => ?_⟩
      have hqm : q < m := by
        have := (List.getElem?_eq_some_iff.1 hq).1
        omega
      rw [← Go.Deep.add_add, hat q hqm, hq]
    have hall : ∀ n, n ≤ len → ∃ zs : List Int, zs.length = n * m ∧ (∀ z ∈ zs, (Lit.int .i64 z).wf = true) ∧ ∀ q u, (zs.map (Value.int .i64))[q]? = some u → W.cell? (x.add q) = some u := by
      intro n
      induction n with
      | zero => exact fun _ => ⟨[], by simp, by simp, by simp⟩
      | succ n ih =>
        intro hn
        obtain ⟨zs, l1, w1, c1⟩ := ih (by omega)
        obtain ⟨ys, l2, w2, c2⟩ := hel n (by omega)
        refine ⟨zs ++ ys, by rw [List.length_append, l1, l2, Nat.add_mul, Nat.one_mul], fun z hz => by rcases List.mem_append.1 hz with h | h; exact w1 z h; exact w2 z h, fun q u hq => ?_⟩
        rw [List.map_append] at hq
        by_cases hql : q < (zs.map (Value.int .i64)).length
        · rw [List.getElem?_append_left hql] at hq
          exact c1 q u hq
        · rw [List.getElem?_append_right (by omega)] at hq
          have hl1 : (zs.map (Value.int .i64)).length = n * m := by simpa using l1
          rw [hl1] at hq hql
          have := c2 _ u hq
          rwa [show n * m + (q - n * m) = q by omega] at this
    obtain ⟨zs, l1, w1, c1⟩ := hall len (Nat.le_refl _)
    refine ⟨zs, ⟨by simpa using l1, some x, cap, rfl, (fun h => nomatch h), fun hp => ?_⟩, hlen, w1⟩
    obtain ⟨b, off, spot⟩ := x
    have h0 : 0 < (zs.map (Value.int .i64)).length := by rw [List.length_map, l1]; exact Nat.mul_pos hp hm0
    have hc0 := c1 0 _ (List.getElem?_eq_getElem h0)
    have hspot : spot = none := by simpa [Addr.add] using World.cell?_spot hc0
    subst hspot
    exact ⟨b, off, rfl, fun q u hq => by have := c1 q u hq; rwa [Addr.add_lit] at this⟩

/-- A struct (or an array) of whole numbers, by value. -/
theorem op_agg {r : Reach} {b0 : Nat} {t : TypeId} {v : Value} {d : DataW H} {ps : List MemPlace} (k : Nat) (hio : intsOnly P k t = true) {m : Nat} (hm : P.cellsOf t = m)
    (hagg : (match P.underlying t with | some (.struct _) | some (.array _ _) => true | _ => false) = true)
    (hv : Value.okWide P W r b0 t v) (h : DataW.Trod enc P W base spare held t v d ps) :
    ∃ zs : List Int, zs.length = m ∧ (∀ z ∈ zs, (Lit.int .i64 z).wf = true) ∧ v = .agg (zs.map (Value.int .i64)).toArray := by
  obtain ⟨fuel, hf⟩ := h
  have : ∃ cs, v = .agg cs := by
    unfold Value.okWide at hv
    split at hagg
    · rename_i hu; rw [hu] at hv; obtain ⟨cs, h1, _⟩ := hv; exact ⟨cs, h1⟩
    · rename_i hu; rw [hu] at hv; obtain ⟨cs, h1, _⟩ := hv; exact ⟨cs, h1⟩
    · cases hagg
  obtain ⟨cs, rfl⟩ := this
  obtain ⟨h1, h2⟩ := ints_of_trod k hio hf
  rw [hm] at h1 h2
  obtain ⟨zs, hz, hw⟩ := list_of_at m _ h1 h2
  refine ⟨zs, ?_, hw, ?_⟩
  · rw [hz] at h1; simpa using h1
  · simp only [Value.cells] at hz
    rw [← hz]

end
end Go.Proofs.Ytoilalohhicipaa
