/-
  A communication in one goroutine, as a rule of the ordinary walk: 'wpN' is the walk's judgement in the frame of an ordinary call.
-/
import Derived.WalkKit
import Derived.Conc.LoneCalls
import Derived.Conc.LoneSelect
import Derived.Conc.LoneSelectN
namespace Go.Proofs.Ytmdciipaggcjoaa
open Go.RowKit Go.Conc
set_option linter.unusedVariables false
set_option linter.unusedSimpArgs false

section
variable {P : Program} {Q : Exit → Act → World → Prop} {a : Act} {w : World}

/-- 'Code.wp' in the frame of an ordinary call: there a communication is one step. -/
def wpN (P : Program) (c : Code) (Q : Exit → Act → World → Prop) (a : Act) (w : World) : Prop :=
  ∀ (b : Frame) (k : List Item) (cs : List Frame), b.kind ≠ .early → ∃ e a' w', Q e a' w' ∧ Arrives P (lone (b.at a (.code c :: k)) cs w) b k cs e a' w'

theorem wpN_of_wp {c : Code} (h : c.wp P Q a w) : wpN P c Q a w := fun b k cs _ => h b k cs

theorem wpN_seqN {x y : Code} (h : wpN P x (Exit.then (wpN P y Q) Q) a w) : wpN P (x.seq y) Q a w := by
  intro b k cs hb
  obtain ⟨e, a₁, w₁, hq, harr⟩ := h b (.code y :: k) cs hb
  cases e with
  | normal =>
    obtain ⟨e₂, a₂, w₂, hq₂, harr₂⟩ := hq b k cs hb
    exact ⟨e₂, a₂, w₂, hq₂, .of_steps (.head step_seq harr) harr₂⟩
  | exit id => exact ⟨_, a₁, w₁, hq, .of_steps (.one step_seq) (.pass (x := .code y) rfl (fun _ _ => .inl (by simp)) harr)⟩
  | goto l => exact ⟨_, a₁, w₁, hq, .of_steps (.one step_seq) (.pass (x := .code y) rfl (fun _ _ => .inl (by simp)) harr)⟩
  | ret => exact ⟨_, a₁, w₁, hq, .of_steps (.one step_seq) (.pass (x := .code y) rfl (fun _ _ => .inl (by simp)) harr)⟩
  | panic ch => exact ⟨_, a₁, w₁, hq, .of_steps (.one step_seq) (.pass (x := .code y) rfl (fun _ _ => .inl (by simp)) harr)⟩
  | outgrown => exact ⟨_, a₁, w₁, hq, .of_steps (.one step_seq) (.pass (x := .code y) rfl (fun _ _ => .inl (by simp)) harr)⟩

theorem wpN_seq {x y : Code} (h : x.wp P (Exit.then (wpN P y Q) Q) a w) : wpN P (x.seq y) Q a w := wpN_seqN (wpN_of_wp h)

theorem calls_of_wpN {f : FuncId} {fn : Func} {c : Code} {args : Array Value} {R : Ending → World → Prop}
    (hf : P.funcs[f]? = some fn) (hb : fn.body = some c)
    (h : wpN P c (bodyPost P fn R) { tmps := args ++ Array.replicate (fn.ntmps - args.size) undef, defers := [] } w) :
    Calls P f args w R := by
  intro cs
  let b : Frame := { (default : Frame) with fn := f, kind := .normal }
  have henter : Frame.enter P f args .normal =
      b.at { tmps := args ++ Array.replicate (fn.ntmps - args.size) undef, defers := [] } [.code c] := by
    simp [Frame.enter, Frame.at, hf, hb, b]
  obtain ⟨e, a', w', hq, harr⟩ := h b [] cs (by simp [b])
  rw [← henter] at harr
  cases e with
  | normal =>
    obtain ⟨hd, v, hr, hR⟩ := hq
    exact ⟨.returned v, w', _, hR, Steps.trans harr (.one step_end), rfl, rfl, hd, rfl, fn, hf, hr⟩
  | ret =>
    obtain ⟨hd, v, hr, hR⟩ := hq
    obtain ⟨todo, hs⟩ := harr
    exact ⟨.returned v, w', _, hR, hs, rfl, rfl, hd, rfl, fn, hf, hr⟩
  | panic chain =>
    obtain ⟨hd, hR⟩ := hq
    obtain ⟨todo, hs⟩ := harr
    exact ⟨.panicked chain, w', _, hR, hs, rfl, rfl, hd, fn, hf⟩
  | exit id => exact hq.elim
  | goto l => exact hq.elim
  | outgrown => exact ⟨.outgrown, w', b, hq, harr.resolve_left (by simp [b]), rfl, trivial⟩

/-- A region whose first operation is a communication that is done in one step. -/
theorem wpN_region_comm {id : Nat} {ops : Array Oper} {o : Oper} {rest : List Nat} (hr : List.range ops.size = 0 :: rest) (ho : ops[0]? = some o) (v : Value) (w' : World)
    (hs : ∀ (b : Frame) (k : List Item) (cs : List Frame), b.kind ≠ .early → step P (solo (G (b.at a (.inRegion ops (0 :: rest) :: k)) cs) w) = .next (solo (G ((b.at a (.inRegion ops (0 :: rest) :: k)).finish v) cs) w'))
    (h : wpOps P ops Q rest (a.put o.dst v) w') : wpN P (.region id ops false) Q a w := by
  intro b k cs hb
  obtain ⟨e, a', w₂, hq, harr⟩ := wp_ops rest (a.put o.dst v) w' h b k cs
  refine ⟨e, a', w₂, hq, .of_steps (.head step_region (.one ?_)) harr⟩
  rw [hr]
  have := hs b k cs hb
  rw [Frame.finish_at, ho] at this
  exact this

/-- .. the rest of it as a list. -/
theorem wpN_region_comm_lit {id : Nat} {o : Oper} {l : List Oper} (v : Value) (w' : World)
    (hs : ∀ (b : Frame) (k : List Item) (cs : List Frame), b.kind ≠ .early → step P (solo (G (b.at a (.inRegion (o :: l).toArray (0 :: List.range' 1 l.length) :: k)) cs) w) = .next (solo (G ((b.at a (.inRegion (o :: l).toArray (0 :: List.range' 1 l.length) :: k)).finish v) cs) w'))
    (h : wpList P (o :: l).toArray Q l (a.put o.dst v) w') : wpN P (.region id (o :: l).toArray false) Q a w := by
  refine wpN_region_comm (o := o) (rest := List.range' 1 l.length) ?_ rfl v w' hs ?_
  · rw [List.range_eq_range']; simp [List.range'_succ]
  · rw [wpOps_eq_wpList l 1 (fun j => by simp [Nat.add_comm 1 j])]; exact h

theorem wanted_of {o : Oper} (hg : o.guard = none) (y : Nat → Option Bool) : Region.wanted o y = true := by simp [Region.wanted, hg]

theorem wpN_send_room {id : Nat} {o : Oper} {l : List Oper} (c : Nat) (x z : Value) (cap : Nat) (buf : Array Value) (s r : Nat) (hg : o.guard = none)
    (hr : (execOp a.eval o).run P w = .ok (.comm #[scase c x z] false .select) w) (hc : w.heap[c]? = some (.chan cap buf false s r false)) (hroom : buf.size < cap)
    (h : wpList P (o :: l).toArray Q l (a.put o.dst (.tuple #[goInt 0, .bool false])) (w.setChan c cap (buf.push x) false (s + 1) r false)) : wpN P (.region id (o :: l).toArray false) Q a w :=
  wpN_region_comm_lit _ _ (fun b k cs hb => step_lone_select_send_room (stepG_comm (o := o) rfl (wanted_of hg _) hb hr) hc hroom) h
theorem wpN_send_full {id : Nat} {o : Oper} {l : List Oper} (c : Nat) (x z : Value) (cap : Nat) (buf : Array Value) (s r : Nat) (hg : o.guard = none)
    (hr : (execOp a.eval o).run P w = .ok (.comm #[scase c x z] false .select) w) (hc : w.heap[c]? = some (.chan cap buf false s r false)) (hfull : cap ≤ buf.size)
    (h : wpList P (o :: l).toArray Q l (a.put o.dst (.tuple #[goInt (-1), .bool false])) w) : wpN P (.region id (o :: l).toArray false) Q a w :=
  wpN_region_comm_lit _ _ (fun b k cs hb => step_lone_select_send_full (stepG_comm (o := o) rfl (wanted_of hg _) hb hr) hc hfull) h
theorem wpN_recv_buf {id : Nat} {o : Oper} {l : List Oper} (c : Nat) (z : Value) (cap : Nat) (buf : Array Value) (s r : Nat) (hg : o.guard = none)
    (hr : (execOp a.eval o).run P w = .ok (.comm #[rcase c z] false .select) w) (hc : w.heap[c]? = some (.chan cap buf false s r false)) (hsome : 0 < buf.size)
    (h : wpList P (o :: l).toArray Q l (a.put o.dst (.tuple #[goInt 0, .bool true, buf.getD 0 undef])) (w.setChan c cap (buf.extract 1 buf.size) false s (r + 1) false)) : wpN P (.region id (o :: l).toArray false) Q a w :=
  wpN_region_comm_lit _ _ (fun b k cs hb => step_lone_select_recv_buf (stepG_comm (o := o) rfl (wanted_of hg _) hb hr) hc hsome) h
theorem wpN_recv_none {id : Nat} {o : Oper} {l : List Oper} (c : Nat) (z : Value) (cap : Nat) (s r : Nat) (hg : o.guard = none)
    (hr : (execOp a.eval o).run P w = .ok (.comm #[rcase c z] false .select) w) (hc : w.heap[c]? = some (.chan cap #[] false s r false))
    (h : wpList P (o :: l).toArray Q l (a.put o.dst (.tuple #[goInt (-1), .bool false, z])) w) : wpN P (.region id (o :: l).toArray false) Q a w :=
  wpN_region_comm_lit _ _ (fun b k cs hb => step_lone_select_default (stepG_comm (o := o) rfl (wanted_of hg _) hb hr) hc) h
end
end Go.Proofs.Ytmdciipaggcjoaa
