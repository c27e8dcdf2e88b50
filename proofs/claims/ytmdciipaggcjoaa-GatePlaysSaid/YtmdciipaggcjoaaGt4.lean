/-
  Package gate: Arrive that goes in.
-/
import Derived.Test.YtmdciipaggcjoaaGt3
namespace Go.Proofs.Ytmdciipaggcjoaa
open Go.RowKit Go.Conc
set_option linter.unusedVariables false
set_option linter.unusedSimpArgs false

theorem arrive_fin {w w2 w3 : World} {p c : Nat} {S : Nat → Prop} {vw vo v' : Value} {cap : Nat} {R : List Int} {id : Int} {I : List Int} (hP : GP w p c vw vo cap (id :: R) I) (hS : ∀ k, own p c vw vo k → S k)
    (hlt : I.length < cap) (hf2 : Fr w w2 (fun k => k = c ∨ k = p)) (hb2 : w2.heap[p]? = some (.cells #[tl vw, .chan (some c), vo] 53 (0, 0))) (hch : ChAt w2 c cap (I ++ [id])) (hs2 : w2.heap.size = w.heap.size)
    (hs3 : SlI w3 v' (I ++ [id])) (hf3 : Fr (w2.alloc (.cells #[.int .i64 id] 3)) w3 (fun g => vo.ownBlock = some g)) (ho : v'.ownBlock = vo.ownBlock ∨ v'.ownBlock = some (w2.heap.size + 1)) :
    GTo w (w3.setCell ⟨p, 2, none⟩ v') p S cap R (I ++ [id]) := by
  obtain ⟨_, _, h3, h4⟩ := tl_run hP.sw
  have hf3' : Fr w2 w3 (fun g => vo.ownBlock = some g) := (Fr.alloc w2 _ _).rr hf3
  have hcp : c ≠ p := ch_ne hP.ch hP.blk
  have npw : vw.ownBlock ≠ some p := Sl.ne hP.sw hP.blk (by decide)
  have npo : vo.ownBlock ≠ some p := Sl.ne hP.so hP.blk (by decide)
  have ncw := ch_own hP.ch hP.sw
  have nco := ch_own hP.ch hP.so
  have kb := hf3'.blk hb2 npo
  have hfs := Fr.setCell w3 ⟨p, 2, none⟩ v'
  have npv : v'.ownBlock ≠ some p := Sl.ne hs3 kb (by decide)
  have hle := hP.le
  have hv : ∀ k, v'.ownBlock = some k → vo.ownBlock = some k ∨ w.heap.size ≤ k := fun k hk => by
    rcases ho with h | h
    · exact .inl (h ▸ hk)
    · rw [hk] at h; cases h; exact .inr (by omega)
  have hwl : ∀ k, vw.ownBlock = some k → k < w.heap.size := Sl.lt hP.sw
  refine ⟨own p c (tl vw) v', GP.at_ ⟨blk_set kb 2 _, ?_, ?_, ?_, ?_, hP.cap1, hP.cap16, by simp; omega, by simp at hle ⊢; omega⟩, ?_, ?_⟩
  · refine ((Sl.keep h3 hf2 (fun g e e' => ?_)).keep hf3' (fun g e e' => ?_)).keep hfs (fun g e e' => npw (by rw [← h4, e, show g = p from e']))
    · rcases e' with rfl | rfl
      · exact ncw (h4 ▸ e)
      · exact npw (h4 ▸ e)
    · exact hP.dis g (h4 ▸ e) e'
  · exact hs3.keep hfs (fun g e e' => npv (by rw [e, show g = p from e']))
  · exact (hch.keep hf3' nco).keep hfs hcp
  · intro k e e'
    rcases hv k e' with h | h
    · exact hP.dis k (h4 ▸ e) h
    · exact absurd (hwl k (h4 ▸ e)) (by omega)
  · refine Fr.to_set ?_ _ _ (hS p (.inl rfl))
    refine hf2.trans hf3' (fun i _ e => ?_) (fun i _ e => hS i (.inr (.inr (.inr e))))
    rcases e with rfl | rfl
    · exact hS _ (.inr (.inl rfl))
    · exact hS _ (.inl rfl)
  · rintro k (rfl | rfl | e | e)
    · exact .inl (hS _ (.inl rfl))
    · exact .inl (hS _ (.inr (.inl rfl)))
    · exact .inl (hS _ (.inr (.inr (.inl (by rw [← h4]; exact e)))))
    · rcases hv k e with h | h
      · exact .inl (hS _ (.inr (.inr (.inr h))))
      · exact .inr h

set_option maxHeartbeats 2000000 in
theorem arrive_ok (p : Nat) (S : Nat → Prop) (cap : Nat) (R I : List Int) (id : Int) (w : World) (hG : GAt w p S cap (id :: R) I) (hno : has id I = false) (hlt : I.length < cap) :
    Calls Try.prog 13 #[.pointer (some ⟨p, 0, none⟩), .int .i64 id] w fun e w' => e = .returned (.int .i64 0) ∧ GTo w w' p S cap R (I ++ [id]) := by
  have HG := Lib.hid hG
  obtain ⟨c, vw, vo, hP, hS, _⟩ := hG
  have HS := Lib.hid hS
  clear hS
  have h1 := hP.c1
  obtain ⟨s, r, hch⟩ := hP.ch
  obtain ⟨g, off, co, rfl⟩ := slv_cons hP.sw
  obtain ⟨a0, c0, rfl⟩ := slv_form hP.so
  have hcp : c ≠ p := ch_ne hP.ch hP.blk
  have HP := Lib.hid hP
  have hle := hP.le
  simp only [List.length_cons] at hle
  clear hP
  have hidx : idx id (id :: R) = 0 := by simp [idx]
  have hE : lookE (id :: R) I id = 0 := by unfold lookE; rw [if_neg (by rw [hno]; simp), if_neg (by rw [hidx]; decide)]
  have hI : lookI (id :: R) I id = 0 := by unfold lookI; rw [if_pos hE, hidx]
  have HE := Lib.hid hE
  have HI := Lib.hid hI
  have HLT := Lib.hid hlt
  clear hidx hE hI hno
  have e1 : (I.map (Value.int .i64)).toArray.push (.int .i64 id) = ((I ++ [id]).map (Value.int .i64)).toArray := by simp
  refine calls_of_wpN Try.func13 rfl ?_
  simp only [Try.ntmps13, List.size_toArray, List.length_cons, List.length_nil, Nat.reduceAdd, Nat.reduceSub, Array.replicate_succ,
    Array.replicate_zero, List.push_toArray, List.append_toArray, List.nil_append, List.cons_append]
  refine wpN_seq ?_
  go_wp2_with fail
  refine wpN_seq ?_
  go_wp2_with fail
  refine (look_any p S cap (id :: R) I id _ HG.out).mono ?_
  rw [HE.out, HI.out]
  rintro e w' ⟨rfl, rfl⟩
  go_wp2_with fail
  refine wpN_seq ?_
  go_wp2_with fail
  refine wpN_seq ?_
  go_wp2_with fail
  refine wpN_seqN ?_
  refine wpN_send_room c (.int .i64 id) (.int .i64 0) cap _ s r rfl (by simp [go_sem, execOp, scase, Act.eval]) hch (by simp; omega) ?_
  rw [e1]
  have kch := setChan_at hch cap (I ++ [id]) (s + 1) r
  have hf := Fr.setChan w c cap ((I ++ [id]).map (Value.int .i64)).toArray false (s + 1) r false
  have hsz := size_setChan w c cap ((I ++ [id]).map (Value.int .i64)).toArray false (s + 1) r false
  clear e1 hch h1 hlt
  generalize w.setChan c cap ((I ++ [id]).map (Value.int .i64)).toArray false (s + 1) r false = w1 at *
  have kb := hf.blk HP.out.blk (fun e => hcp e.symm)
  have k0 : w1.cell? ⟨p, 0, none⟩ = some (.slice (some ⟨g, off, none⟩) (R.length + 1) co) := blk_cell kb 0
  have hfz : w1.frozen? ⟨p, 0, none⟩ = false := blk_frozen kb 0
  have KCH := Lib.hid kch
  have HF := Lib.hid hf
  have KB := Lib.hid kb
  have HCP := Lib.hid hcp
  have HSZ := Lib.hid hsz
  clear kch hf kb hcp hsz
  by_cases hco : co = 1
  · subst hco
    have HT : Hid (tl (.slice (some ⟨g, off, none⟩) (R.length + 1) 1) = .slice (some ⟨g, off, none⟩) R.length 0) := Lib.hid (by simp [tl])
    go_wp2_with fail
    refine wpN_of_wp ?_
    go_upto_region 11 with (fail)
    have hb2 : (w1.setCell ⟨p, 0, none⟩ (.slice (some ⟨g, off, none⟩) R.length 0)).heap[p]? = some (.cells #[.slice (some ⟨g, off, none⟩) R.length 0, .chan (some c), .slice a0 I.length c0] 53 (0, 0)) := blk_set KB.out 0 _
    have hch2 := KCH.out.keep (Fr.setCell w1 ⟨p, 0, none⟩ (.slice (some ⟨g, off, none⟩) R.length 0)) HCP.out
    have hf2 : Fr w (w1.setCell ⟨p, 0, none⟩ (.slice (some ⟨g, off, none⟩) R.length 0)) (fun k => k = c ∨ k = p) := HF.out.trans (Fr.setCell w1 ⟨p, 0, none⟩ _) (fun _ _ e => .inl e) (fun _ _ e => .inr e)
    have hsz2 : (w1.setCell ⟨p, 0, none⟩ (.slice (some ⟨g, off, none⟩) R.length 0)).heap.size = w.heap.size := by rw [← HSZ.out]; simp [World.setCell]
    generalize w1.setCell ⟨p, 0, none⟩ (.slice (some ⟨g, off, none⟩) R.length 0) = w2 at *
    have k2 : w2.cell? ⟨p, 2, none⟩ = some (.slice a0 I.length c0) := blk_cell hb2 2
    have HB2 := Lib.hid hb2
    have HCH2 := Lib.hid hch2
    have HF2 := Lib.hid hf2
    have HSZ2 := Lib.hid hsz2
    have hso2 : SlI w2 (.slice a0 I.length c0) I := HP.out.so.keep hf2 (fun g e e' => by
      rcases e' with rfl | rfl
      · exact ch_own HP.out.ch HP.out.so e
      · exact Sl.ne HP.out.so HP.out.blk (by decide) e)
    have HSO2 := Lib.hid hso2
    clear hb2 hch2 hf2 hsz2 hso2 k0 hfz KCH HF KB HSZ
    go_wp2_with (at_builtin; refine wpList_appI rfl (.tmp 40) (.tmp 42) rfl (.slice a0 I.length c0) I rfl ?d1 w2.heap.size id rfl ?d2 ?d3 ?_)
    case d1 => exact Sl.keep0 HSO2.out (Fr.alloc _ _ _)
    case d2 => exact blk_new w2 _
    case d3 => omega
    intro v' w3 q1 q2 q3
    obtain ⟨a1, c1, hv1⟩ := slv_form q1
    have kb3 := q2.blk (blk_old HB2.out (.cells #[.int .i64 id] 3)) (fun e => Sl.ne HP.out.so HP.out.blk (by decide) e)
    have hk2 : w3.cell? ⟨p, 2, none⟩ = some (.slice a0 I.length c0) := blk_cell kb3 2
    have hfz : w3.frozen? ⟨p, 2, none⟩ = false := blk_frozen kb3 2
    have Q1 := Lib.hid q1
    have Q2 := Lib.hid q2
    have Q3 := Lib.hid q3
    clear q1 q2 q3 kb3 k2
    generalize (I ++ [id]).length = n1 at hv1
    subst hv1
    go_wp2
    go_ret
    refine ⟨rfl, arrive_fin HP.out HS.out HLT.out HF2.out (by rw [HT.out]; exact HB2.out) HCH2.out HSZ2.out Q1.out Q2.out (by have := Q3.out; simpa using this)⟩
  · have HT : Hid (tl (.slice (some ⟨g, off, none⟩) (R.length + 1) co) = .slice (some ⟨g, off + 1, none⟩) R.length (co - 1)) := Lib.hid (by simp [tl, hco])
    go_wp2_with fail
    refine wpN_of_wp ?_
    go_upto_region 11 with (fail)
    have hb2 : (w1.setCell ⟨p, 0, none⟩ (.slice (some ⟨g, off + 1, none⟩) R.length (co - 1))).heap[p]? = some (.cells #[.slice (some ⟨g, off + 1, none⟩) R.length (co - 1), .chan (some c), .slice a0 I.length c0] 53 (0, 0)) := blk_set KB.out 0 _
    have hch2 := KCH.out.keep (Fr.setCell w1 ⟨p, 0, none⟩ (.slice (some ⟨g, off + 1, none⟩) R.length (co - 1))) HCP.out
    have hf2 : Fr w (w1.setCell ⟨p, 0, none⟩ (.slice (some ⟨g, off + 1, none⟩) R.length (co - 1))) (fun k => k = c ∨ k = p) := HF.out.trans (Fr.setCell w1 ⟨p, 0, none⟩ _) (fun _ _ e => .inl e) (fun _ _ e => .inr e)
    have hsz2 : (w1.setCell ⟨p, 0, none⟩ (.slice (some ⟨g, off + 1, none⟩) R.length (co - 1))).heap.size = w.heap.size := by rw [← HSZ.out]; simp [World.setCell]
    generalize w1.setCell ⟨p, 0, none⟩ (.slice (some ⟨g, off + 1, none⟩) R.length (co - 1)) = w2 at *
    have k2 : w2.cell? ⟨p, 2, none⟩ = some (.slice a0 I.length c0) := blk_cell hb2 2
    have HB2 := Lib.hid hb2
    have HCH2 := Lib.hid hch2
    have HF2 := Lib.hid hf2
    have HSZ2 := Lib.hid hsz2
    have hso2 : SlI w2 (.slice a0 I.length c0) I := HP.out.so.keep hf2 (fun g e e' => by
      rcases e' with rfl | rfl
      · exact ch_own HP.out.ch HP.out.so e
      · exact Sl.ne HP.out.so HP.out.blk (by decide) e)
    have HSO2 := Lib.hid hso2
    clear hb2 hch2 hf2 hsz2 hso2 k0 hfz KCH HF KB HSZ
    go_wp2_with (at_builtin; refine wpList_appI rfl (.tmp 40) (.tmp 42) rfl (.slice a0 I.length c0) I rfl ?d1 w2.heap.size id rfl ?d2 ?d3 ?_)
    case d1 => exact Sl.keep0 HSO2.out (Fr.alloc _ _ _)
    case d2 => exact blk_new w2 _
    case d3 => omega
    intro v' w3 q1 q2 q3
    obtain ⟨a1, c1, hv1⟩ := slv_form q1
    have kb3 := q2.blk (blk_old HB2.out (.cells #[.int .i64 id] 3)) (fun e => Sl.ne HP.out.so HP.out.blk (by decide) e)
    have hk2 : w3.cell? ⟨p, 2, none⟩ = some (.slice a0 I.length c0) := blk_cell kb3 2
    have hfz : w3.frozen? ⟨p, 2, none⟩ = false := blk_frozen kb3 2
    have Q1 := Lib.hid q1
    have Q2 := Lib.hid q2
    have Q3 := Lib.hid q3
    clear q1 q2 q3 kb3 k2
    generalize (I ++ [id]).length = n1 at hv1
    subst hv1
    go_wp2
    go_ret
    refine ⟨rfl, arrive_fin HP.out HS.out HLT.out HF2.out (by rw [HT.out]; exact HB2.out) HCH2.out HSZ2.out Q1.out Q2.out (by have := Q3.out; simpa using this)⟩

theorem idx0 (t : Int) (l : List Int) (h : idx t l = 0) : ∃ r, l = t :: r := by
  cases l with
  | nil => simp [idx] at h
  | cons x r =>
    unfold idx at h
    split at h
    · rename_i e; exact ⟨r, by rw [e]⟩
    · have := idx_ge t r
      split at h <;> omega

theorem arrive_any (p : Nat) (S : Nat → Prop) (cap : Nat) (W I : List Int) (id : Int) (w : World) (hG : GAt w p S cap W I) :
    Calls Try.prog 13 #[.pointer (some ⟨p, 0, none⟩), .int .i64 id] w fun e w' => e = .returned (.int .i64 (arrE cap W I id)) ∧ GTo w w' p S cap (arrW cap W I id) (arrI cap W I id) := by
  by_cases h : arrE cap W I id = 0
  · have h0 := h
    have e1 : arrW cap W I id = W.tail := by unfold arrW; rw [if_pos h]
    have e2 : arrI cap W I id = I ++ [id] := by unfold arrI; rw [if_pos h]
    rw [h, e1, e2]
    unfold arrE at h
    split at h
    · contradiction
    · rename_i c1
      split at h
      · cases h
      · rename_i c2
        split at h
        · rename_i c3
          have c1' : lookE W I id = 0 := by simpa using c1
          unfold lookE at c1'
          split at c1'
          · cases c1'
          · rename_i c4
            split at c1'
            · cases c1'
            · rename_i c5
              obtain ⟨R, rfl⟩ := idx0 id W (by omega)
              exact arrive_ok p S cap R I id w hG (by simpa using c4) c3
        · cases h
  · have e1 : arrW cap W I id = W := by unfold arrW; rw [if_neg h]
    have e2 : arrI cap W I id = I := by unfold arrI; rw [if_neg h]
    rw [e1, e2]
    exact (arrive_refused p S cap W I id w hG h).mono (by rintro e w' ⟨rfl, rfl⟩; exact ⟨rfl, hG.to_same (Fr.refl _ _)⟩)
def leaX (I : List Int) : Int := I.headD 0
def leaE (I : List Int) : Int := if I = [] then 4 else 0
theorem leave_any (p : Nat) (S : Nat → Prop) (cap : Nat) (W I : List Int) (w : World) (hG : GAt w p S cap W I) :
    Calls Try.prog 14 #[.pointer (some ⟨p, 0, none⟩)] w fun e w' => e = .returned (.tuple #[.int .i64 (leaX I), .int .i64 (leaE I)]) ∧ GTo w w' p S cap W I.tail := by
  cases I with
  | nil => exact (leave_none p S cap W w hG).mono (by rintro e w' ⟨rfl, rfl⟩; exact ⟨rfl, hG.to_same (Fr.refl _ _)⟩)
  | cons x I => exact (leave_some p S cap W x I w hG).mono (by rintro e w' ⟨rfl, h⟩; exact ⟨by simp [leaX, leaE], h⟩)
end Go.Proofs.Ytmdciipaggcjoaa
