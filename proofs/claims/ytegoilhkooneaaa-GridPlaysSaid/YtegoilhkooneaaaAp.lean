/-
  append at a step of a region that draws its order; two parts of a slice.
-/
import Derived.Test.YtegoilhkooneaaaGp4
namespace Go.Proofs.Ytegoilhkooneaaa
open Go.RowKit
set_option linter.unusedVariables false
set_option linter.unusedSimpArgs false

/-! ### append at a step of a region that draws -/
theorem step_app {P : Program} {w : World} {ops : Array Oper} {o : Oper} {a : Act} {K : Act → World → Prop} {Q : Exit → Act → World → Prop} {E : Prop} (hgd : o.guard = none) (s x : Operand) (t : TypeId)
    (ho : o.op = .call { callee := .builtin .append, args := #[s, x], argTypes := #[t, t] })
    (e : TypeId) (i : TypeInfo) (z : Value) (k bytes : Nat) (ht : P.underlying t = some (.slice e)) (hi : P.info? e = some i) (hz : i.zero = some z)
    (hsize : i.size = k) (hby : i.bytes = bytes) (hzs : z.cells.size = k) (hk : 0 < k)
    (v : Value) (n : Nat) (xs : List Value) (hev : a.eval s = v) (hs : Sl w e k v n xs) (xv : Value) (m : Nat) (news : List Value) (hex : a.eval x = xv) (hx : Rd w xv m news k) (h1 : ∀ u ∈ news, u.oneCell' = true)
    (h63 : n + m ≤ maxLen) (hbytes : (n + m) * bytes ≤ 140737488355328)
    (h : ∀ v' w', Sl w' e k v' (n + m) (xs ++ news) → Fr w w' (fun g => v.ownBlock = some g) → (v'.ownBlock = v.ownBlock ∨ v'.ownBlock = some w.heap.size) → K (a.put o.dst v') w') :
    if Region.wanted o (yielded ops a.tmps) = true then Oper.wp P o a w K Q else E := by
  have hw : Region.wanted o (yielded ops a.tmps) = true := by simp [Region.wanted, hgd]
  rw [if_pos hw]
  obtain ⟨v', w', hr, h2, h3, h4, h5⟩ := run_app (P := P) w t o.type e i z k bytes ht hi hz hsize hby hzs hk v n xs hs xv m news hx h1 h63 hbytes
  unfold Oper.wp execOp
  simp only [ho, resolve, invoke, builtin, Sem.run_bind, Sem.run_pure, Result.andThen_ok, List.map_toArray, List.map_cons, List.map_nil, hev, hex, hr]
  exact h v' w' h2 h3 h4
theorem step_appS {w : World} {ops : Array Oper} {o : Oper} {a : Act} {K : Act → World → Prop} {Q : Exit → Act → World → Prop} {E : Prop} (hgd : o.guard = none) (s x : Operand)
    (ho : o.op = .call { callee := .builtin .append, args := #[s, x], argTypes := #[22, 22] })
    (v : Value) (ts : List Int) (hev : a.eval s = v) (hs : SlI w v ts) (xv : Value) (ys : List Int) (hex : a.eval x = xv) (hx : RdI w xv ys)
    (hl : ts.length + ys.length ≤ 17592186044416)
    (h : ∀ v' w', SlI w' v' (ts ++ ys) → Fr w w' (fun g => v.ownBlock = some g) → (v'.ownBlock = v.ownBlock ∨ v'.ownBlock = some w.heap.size) → K (a.put o.dst v') w') :
    if Region.wanted o (yielded ops a.tmps) = true then Oper.wp Try.prog o a w K Q else E := by
  obtain ⟨i0, hi, hz0, hz1, hz2⟩ := info_parts info3
  refine step_app hgd s x 22 ho 3 i0 (.int .i64 0) 1 8 Try.underlying22 hi hz0 hz1 hz2 rfl (by decide) v ts.length _ hev hs xv ys.length (ys.map (Value.int .i64)) hex hx.1 (by intro u hu; obtain ⟨x, _, rfl⟩ := List.mem_map.1 hu; rfl) (by unfold maxLen; omega) (by omega) ?_
  intro v' w' h1 h2 h3
  refine h v' w' ?_ h2 h3
  unfold SlI
  rw [List.length_append, List.map_append]
  exact h1

/-- Two parts of a slice. -/
theorem part_facts {w : World} {g off n c : Nat} {A : List Int} (h : SlI w (.slice (some ⟨g, off, none⟩) n c) A) (hl : A.length ≤ 1000) (k : Nat) (hk : k < n) :
    A.length = n ∧ n ≤ c ∧ RdI w (.slice (some ⟨g, off, none⟩) k c) (A.take k) ∧ RdI w (.slice (some ⟨g, off + (k + 1), none⟩) (n - (k + 1)) (c - (k + 1))) (A.drop (k + 1)) ∧ RdI w (.slice (some ⟨g, off, none⟩) 0 0) [] := by
  have hn : A.length = n := by
    obtain ⟨hl, ⟨hv, h0⟩ | ⟨g', off', cap', cur, hv, _⟩⟩ := h
    · cases hv
    · cases hv; rfl
  have hcap := SlI.cap h
  have hrd := SlI.rd h (by omega)
  refine ⟨hn, by omega, SlI.rdn h k c (by omega) (by omega) (.inr (by simp)), ?_, ⟨⟨rfl, _, _, rfl, (fun h => nomatch h), fun h => by simp at h⟩, by simp⟩⟩
  refine ⟨⟨by simp, some ⟨g, off + (k + 1), none⟩, c - (k + 1), by simp [hn], (fun h => nomatch h), fun _ => ⟨g, off + (k + 1), rfl, fun j u hu => ?_⟩⟩, by simp; omega⟩
  obtain ⟨⟨_, a', c', hv, _, hs⟩, _⟩ := hrd
  cases hv
  obtain ⟨b, o, hb, hc⟩ := hs (by omega)
  cases hb
  rw [List.map_drop, List.getElem?_drop] at hu
  rw [Nat.add_assoc]
  exact hc _ u hu
end Go.Proofs.Ytegoilhkooneaaa
