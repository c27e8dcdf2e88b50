/-
  Package gate: Leave, Arrive.
-/
import Derived.Test.YtmdciipaggcjoaaGt2
namespace Go.Proofs.Ytmdciipaggcjoaa
open Go.RowKit Go.Conc
set_option linter.unusedVariables false
set_option linter.unusedSimpArgs false

theorem setChan_at {w : World} {c : Nat} {o : Obj} (h : w.heap[c]? = some o) (cap : Nat) (J : List Int) (s r : Nat) : ChAt (w.setChan c cap (J.map (Value.int .i64)).toArray false s r false) c cap J :=
  ⟨s, r, heap_setChan w c cap _ false s r false (blk_lt h)⟩

set_option maxHeartbeats 1000000 in
theorem leave_none (p : Nat) (S : Nat → Prop) (cap : Nat) (W : List Int) (w : World) (hG : GAt w p S cap W []) :
    Calls Try.prog 14 #[.pointer (some ⟨p, 0, none⟩)] w fun e w' => e = .returned (.tuple #[.int .i64 0, .int .i64 4]) ∧ w = w' := by
  obtain ⟨c, vw, vo, hP, hS, _⟩ := hG
  have h1 := hP.c1
  obtain ⟨s, r, hch⟩ := hP.ch
  clear hP
  refine calls_of_wpN Try.func14 rfl ?_
  simp only [Try.ntmps14, List.size_toArray, List.length_cons, List.length_nil, Nat.reduceAdd, Nat.reduceSub, Array.replicate_succ,
    Array.replicate_zero, List.push_toArray, List.append_toArray, List.nil_append, List.cons_append]
  refine wpN_seq ?_
  go_wp2_with fail
  refine wpN_seq ?_
  go_wp2_with fail
  refine wpN_seqN ?_
  refine wpN_recv_none c (.int .i64 0) cap s r rfl (by simp [go_sem, execOp, rcase, Act.eval]) hch ?_
  go_wp2_with fail
  refine wpN_of_wp ?_
  go_wp2_with fail
  go_ret2
  exact ⟨rfl, rfl⟩

theorem slv_cons {w : World} {v : Value} {x : Int} {r : List Int} (h : SlI w v (x :: r)) : ∃ g off c, v = .slice (some ⟨g, off, none⟩) (r.length + 1) c := by
  obtain ⟨hl, ⟨rfl, h0⟩ | ⟨g, off, cap, cur, rfl, _⟩⟩ := h
  · simp at h0
  · exact ⟨g, off, cap, rfl⟩
theorem leave_fin {w w2 : World} {p c : Nat} {S : Nat → Prop} {vw vo : Value} {cap : Nat} {W : List Int} {x : Int} {I : List Int} (hP : GP w p c vw vo cap W (x :: I)) (hS : ∀ k, own p c vw vo k → S k) (hf : Fr w w2 (One c)) (hch : ChAt w2 c cap I) :
    GTo w (w2.setCell ⟨p, 2, none⟩ (tl vo)) p S cap W I := by
  obtain ⟨_, _, h3, h4⟩ := tl_run hP.so
  have hcp : c ≠ p := ch_ne hP.ch hP.blk
  have kb := hf.blk hP.blk (fun e => hcp e.symm)
  have hfs := Fr.setCell w2 ⟨p, 2, none⟩ (tl vo)
  have hle := hP.le
  have hic := hP.ic
  simp only [List.length_cons] at hle hic
  have npw : vw.ownBlock ≠ some p := Sl.ne hP.sw hP.blk (by decide)
  have npo : vo.ownBlock ≠ some p := Sl.ne hP.so hP.blk (by decide)
  have ncw := ch_own hP.ch hP.sw
  have nco := ch_own hP.ch hP.so
  refine ⟨own p c vw (tl vo), GP.at_ ⟨blk_set kb 2 _, ?_, ?_, hch.keep hfs hcp, fun k e => by rw [h4]; exact hP.dis k e, hP.cap1, hP.cap16, by omega, by omega⟩, ?_, ?_⟩
  · exact (hP.sw.keep hf (fun g e e' => ncw (by rw [e, show g = c from e']))).keep hfs (fun g e e' => npw (by rw [e, show g = p from e']))
  · exact (Sl.keep h3 hf (fun g e e' => nco (by rw [← h4, e, show g = c from e']))).keep hfs (fun g e e' => npo (by rw [← h4, e, show g = p from e']))
  · exact (hf.mono (fun i _ e => by rw [show i = c from e]; exact hS c (.inr (.inl rfl)))).to_set _ _ (hS p (.inl rfl))
  · rintro k (rfl | rfl | e | e)
    · exact .inl (hS _ (.inl rfl))
    · exact .inl (hS _ (.inr (.inl rfl)))
    · exact .inl (hS _ (.inr (.inr (.inl e))))
    · exact .inl (hS _ (.inr (.inr (.inr (by rw [← h4]; exact e)))))

set_option maxHeartbeats 1000000 in
theorem leave_some (p : Nat) (S : Nat → Prop) (cap : Nat) (W : List Int) (x : Int) (I : List Int) (w : World) (hG : GAt w p S cap W (x :: I)) :
    Calls Try.prog 14 #[.pointer (some ⟨p, 0, none⟩)] w fun e w' => e = .returned (.tuple #[.int .i64 x, .int .i64 0]) ∧ GTo w w' p S cap W I := by
  obtain ⟨c, vw, vo, hP, hS, _⟩ := hG
  have HS := Lib.hid hS
  clear hS
  have h1 := hP.c1
  obtain ⟨s, r, hch⟩ := hP.ch
  obtain ⟨g, off, co, rfl⟩ := slv_cons hP.so
  have hcp : c ≠ p := ch_ne hP.ch hP.blk
  have HP := Lib.hid hP
  clear hP
  have e1 : ((x :: I).map (Value.int .i64)).toArray.extract 1 ((x :: I).map (Value.int .i64)).toArray.size = (I.map (Value.int .i64)).toArray := by
    simp; exact List.take_of_length_le (by simp)
  have e2 : ((x :: I).map (Value.int .i64)).toArray.getD 0 undef = .int .i64 x := by simp
  refine calls_of_wpN Try.func14 rfl ?_
  simp only [Try.ntmps14, List.size_toArray, List.length_cons, List.length_nil, Nat.reduceAdd, Nat.reduceSub, Array.replicate_succ,
    Array.replicate_zero, List.push_toArray, List.append_toArray, List.nil_append, List.cons_append]
  refine wpN_seq ?_
  go_wp2_with fail
  refine wpN_seq ?_
  go_wp2_with fail
  refine wpN_seqN ?_
  refine wpN_recv_buf c (.int .i64 0) cap _ s r rfl (by simp [go_sem, execOp, rcase, Act.eval]) hch (by simp) ?_
  rw [e1, e2]
  have kch := setChan_at hch cap I s (r + 1)
  have hf := Fr.setChan w c cap (I.map (Value.int .i64)).toArray false s (r + 1) false
  clear e1 e2 hch h1
  generalize w.setChan c cap (I.map (Value.int .i64)).toArray false s (r + 1) false = w2 at *
  have kb := hf.blk HP.out.blk (fun e => hcp e.symm)
  have k2 : w2.cell? ⟨p, 2, none⟩ = some (.slice (some ⟨g, off, none⟩) (I.length + 1) co) := blk_cell kb 2
  have hfz : w2.frozen? ⟨p, 2, none⟩ = false := blk_frozen kb 2
  have KCH := Lib.hid kch
  have HF := Lib.hid hf
  clear kch hf kb hcp
  by_cases hco : co = 1
  · have HV : Hid (tl (.slice (some ⟨g, off, none⟩) (I.length + 1) co) = .slice (some ⟨g, off, none⟩) I.length (co - 1)) := Lib.hid (by simp [tl, hco])
    go_wp2_with fail
    refine wpN_of_wp ?_
    go_wp2_with fail
    go_ret2
    refine ⟨rfl, ?_⟩
    have := leave_fin HP.out HS.out HF.out KCH.out
    rw [HV.out] at this
    simpa [hco] using this
  · have HV : Hid (tl (.slice (some ⟨g, off, none⟩) (I.length + 1) co) = .slice (some ⟨g, off + 1, none⟩) I.length (co - 1)) := Lib.hid (by simp [tl, hco])
    go_wp2_with fail
    refine wpN_of_wp ?_
    go_wp2_with fail
    go_ret2
    refine ⟨rfl, ?_⟩
    have := leave_fin HP.out HS.out HF.out KCH.out
    rw [HV.out] at this
    simpa using this

/-! ### Arrive -/
def arrE (cap : Nat) (W I : List Int) (id : Int) : Int := if lookE W I id ≠ 0 then lookE W I id else if 0 < idx id W then 110 else if I.length < cap then 0 else 5
def arrW (cap : Nat) (W I : List Int) (id : Int) : List Int := if arrE cap W I id = 0 then W.tail else W
def arrI (cap : Nat) (W I : List Int) (id : Int) : List Int := if arrE cap W I id = 0 then I ++ [id] else I

set_option maxHeartbeats 1000000 in
theorem arrive_refused (p : Nat) (S : Nat → Prop) (cap : Nat) (W I : List Int) (id : Int) (w : World) (hG : GAt w p S cap W I) (h : arrE cap W I id ≠ 0) :
    Calls Try.prog 13 #[.pointer (some ⟨p, 0, none⟩), .int .i64 id] w fun e w' => e = .returned (.int .i64 (arrE cap W I id)) ∧ w = w' := by
  have HG := Lib.hid hG
  obtain ⟨c, vw, vo, hP, hS, _⟩ := hG
  have h1 := hP.c1
  obtain ⟨s, r, hch⟩ := hP.ch
  clear hP
  by_cases c1 : lookE W I id ≠ 0
  · have e1 : arrE cap W I id = lookE W I id := by unfold arrE; rw [if_pos c1]
    have hb : (lookE W I id == 0) = false := by simpa using c1
    rw [e1]
    clear e1 h c1
    refine calls_of_wpN Try.func13 rfl ?_
    simp only [Try.ntmps13, List.size_toArray, List.length_cons, List.length_nil, Nat.reduceAdd, Nat.reduceSub, Array.replicate_succ,
      Array.replicate_zero, List.push_toArray, List.append_toArray, List.nil_append, List.cons_append]
    refine wpN_seq ?_
    go_wp2_with fail
    refine wpN_seq ?_
    go_wp2_with fail
    refine (look_any p S cap W I id _ HG.out).mono ?_
    rintro e w' ⟨rfl, rfl⟩
    go_wp2_with fail
    refine wpN_seq ?_
    go_wp2_with fail
    go_ret
    exact ⟨rfl, rfl⟩
  · have c1' : lookE W I id = 0 := by simpa using c1
    have c2 := idx_ge id W
    have hi : lookI W I id = idx id W := by unfold lookI; rw [if_pos c1']
    have HE := Lib.hid c1'
    have HI := Lib.hid hi
    by_cases c3 : 0 < idx id W
    · have e1 : arrE cap W I id = 110 := by unfold arrE; rw [if_neg c1, if_pos c3]
      rw [e1]
      clear e1 h c1 c1' hi
      refine calls_of_wpN Try.func13 rfl ?_
      simp only [Try.ntmps13, List.size_toArray, List.length_cons, List.length_nil, Nat.reduceAdd, Nat.reduceSub, Array.replicate_succ,
        Array.replicate_zero, List.push_toArray, List.append_toArray, List.nil_append, List.cons_append]
      refine wpN_seq ?_
      go_wp2_with fail
      refine wpN_seq ?_
      go_wp2_with fail
      refine (look_any p S cap W I id _ HG.out).mono ?_
      rw [HE.out, HI.out]
      rintro e w' ⟨rfl, rfl⟩
      go_wp2_with fail
      refine wpN_seq ?_
      go_wp2_with fail
      go_ret
      exact ⟨rfl, rfl⟩
    · have c4 : ¬ I.length < cap := fun c4 => h (by unfold arrE; rw [if_neg c1, if_neg c3, if_pos c4])
      have e1 : arrE cap W I id = 5 := by unfold arrE; rw [if_neg c1, if_neg c3, if_neg c4]
      rw [e1]
      clear e1 h c1 c1' hi
      refine calls_of_wpN Try.func13 rfl ?_
      simp only [Try.ntmps13, List.size_toArray, List.length_cons, List.length_nil, Nat.reduceAdd, Nat.reduceSub, Array.replicate_succ,
        Array.replicate_zero, List.push_toArray, List.append_toArray, List.nil_append, List.cons_append]
      refine wpN_seq ?_
      go_wp2_with fail
      refine wpN_seq ?_
      go_wp2_with fail
      refine (look_any p S cap W I id _ HG.out).mono ?_
      rw [HE.out, HI.out]
      rintro e w' ⟨rfl, rfl⟩
      go_wp2_with fail
      refine wpN_seq ?_
      go_wp2_with fail
      refine wpN_seq ?_
      go_wp2_with fail
      refine wpN_seqN ?_
      refine wpN_send_full c (.int .i64 id) (.int .i64 0) cap _ s r rfl (by simp [go_sem, execOp, scase, Act.eval]) hch (by simp; omega) ?_
      go_wp2_with fail
      refine wpN_of_wp ?_
      go_wp2_with fail
      go_ret
      exact ⟨rfl, rfl⟩

end Go.Proofs.Ytmdciipaggcjoaa
