/-
  A slice of bools that came in, opened.
-/
import Derived.Test.YtmdciipaggcjoaaOp
import Derived.Deep.Grids
namespace Go.Proofs.Ytmdciipaggcjoaa
open Go.RowKit Go.ChangeShapes Go.WideShapes Go.Deep Go.Joins
set_option linter.unusedVariables false
section
variable {H : Type} {enc : TypeId × Value → H} {P : Program} {W : World} {base : Nat} {held : Bool}
theorem op_bools {t e : TypeId} {a : Option Addr} {len cap : Nat} {d : DataW H} {ps : List MemPlace} {ts : List TypeId} {ds : List (DataW H)} {j : Nat}
    (hsz : (DataW.weightsEach P ts ds).all (· ≤ reachBytes) = true) (ht : ts[j]? = some t) (hd : ds[j]? = some d) (hu : P.underlying t = some (.slice e)) (he : P.underlying e = some .bool) (hc : P.cellsOf e = 1) {B : Nat} (hB : P.bytesOf e = B)
    (h : DataW.Trod enc P W base (fun _ => true) held t (.slice a len cap) d ps) :
    ∃ zs : List Bool, zs.length = len ∧ Rd W (.slice a len cap) len (zs.map Value.bool) 1 ∧ len ≤ 9223372036854775807 := by
  obtain ⟨fuel, hf⟩ := h
  rcases open_bools hu he hc hf with ⟨hcs, _⟩ | ⟨x, l, c, Z, hcs, _, hl, hm, _, hcell⟩
  · simp [Value.cells] at hcs
    obtain ⟨rfl, rfl, rfl⟩ := hcs
    exact ⟨[], rfl, ⟨rfl, none, 0, rfl, fun _ => ⟨rfl, rfl⟩, fun h => by omega⟩, by simp⟩
  · simp [Value.cells] at hcs
    obtain ⟨rfl, rfl, rfl⟩ := hcs
    refine ⟨(List.range len).map Z, by simp, ⟨by simp, some x, cap, rfl, (fun h => nomatch h), fun hp => ?_⟩, by unfold maxLen at hm; omega⟩
    obtain ⟨b, off, spot⟩ := x
    have hc0 := hcell 0 (by omega)
    have hspot : spot = none := by simpa [Addr.add] using World.cell?_spot hc0
    subst hspot
    refine ⟨b, off, rfl, fun j u hu => ?_⟩
    rw [List.map_map, List.getElem?_map] at hu
    obtain ⟨y, hy, rfl⟩ := Option.map_eq_some_iff.1 hu
    have hj : j < len := by
      have := (List.getElem?_eq_some_iff.1 hy).1
      simpa using this
    rw [List.getElem?_range hj] at hy
    cases hy
    have := hcell j (by omega)
    rw [Addr.add_lit] at this
    exact this
end
end Go.Proofs.Ytmdciipaggcjoaa
