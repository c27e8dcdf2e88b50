import Derived.Test.YtegoilhkooneaaaLn2
namespace Go.Proofs.Ytegoilhkooneaaa
open Go.RowKit
set_option linter.unusedVariables false
set_option linter.unusedSimpArgs false

theorem idx_nonneg (t : Int) (l : List Int) : 0 ≤ idx t l ↔ t ∈ l := by
  induction l with
  | nil => simp [idx]
  | cons x r ih =>
    have h1 := idx_ge t r
    unfold idx
    by_cases e : t = x
    · simp [e]
    · rw [if_neg e]
      simp only [List.mem_cons, e, false_or]
      split
      · constructor
        · intro h; omega
        · intro h; have := ih.2 h; omega
      · constructor
        · intro _; exact ih.1 (by omega)
        · intro h; omega
/-- What stands in a lane: totes, each once. -/
def Good (ts : List Int) : Prop := ts.Nodup ∧ ∀ t ∈ ts, 1 ≤ t ∧ t ≤ 30
theorem Good.push {ts : List Int} {d : Nat} {t : Int} (h : Good ts) : Good (pushT d ts t) := by
  unfold pushT
  split
  · rename_i e
    unfold pushE at e
    split at e
    · cases e
    · rename_i h1
      split at e
      · cases e
      · rename_i h2
        rw [idx_nonneg] at h2
        refine ⟨List.nodup_append.2 ⟨h.1, by simp, by intro a ha b hb e; simp at hb; subst hb; subst e; exact h2 ha⟩, fun x hx => ?_⟩
        rcases List.mem_append.1 hx with hx | hx
        · exact h.2 x hx
        · simp at hx; subst hx; omega
  · exact h
/-- Poured so far: j totes of ts stand the other way round. -/
theorem pour_push {ts : List Int} {d : Nat} (h : Good ts) (hd : ts.length ≤ d) (j : Nat) (hj : j < ts.length) :
    pushE d (ts.drop (ts.length - j)).reverse (ts.getD (ts.length - (j + 1)) 0) = 0 ∧ (ts.drop (ts.length - j)).reverse ++ [ts.getD (ts.length - (j + 1)) 0] = (ts.drop (ts.length - (j + 1))).reverse := by
  have hlt : ts.length - (j + 1) < ts.length := by omega
  have e1 : ts.drop (ts.length - (j + 1)) = ts[ts.length - (j + 1)] :: ts.drop (ts.length - j) := by
    rw [List.drop_eq_getElem_cons hlt]; congr 2; omega
  have e2 : ts.getD (ts.length - (j + 1)) 0 = ts[ts.length - (j + 1)] := by simp [List.getD, List.getElem?_eq_getElem hlt]
  rw [e2, e1]
  refine ⟨?_, by simp⟩
  have hm := h.2 _ (List.getElem_mem hlt)
  have hnot : ¬ 0 ≤ idx ts[ts.length - (j + 1)] (ts.drop (ts.length - j)).reverse := by
    rw [idx_nonneg, List.mem_reverse]
    have hnd : (ts.drop (ts.length - (j + 1))).Nodup := h.1.sublist (List.drop_sublist _ _)
    rw [e1] at hnd
    exact (List.nodup_cons.1 hnd).1
  unfold pushE
  rw [if_neg (by omega), if_neg hnot, if_neg (by simp; omega)]

def Two (g h : Nat) : Nat → Prop := fun k => k = g ∨ k = h

set_option maxRecDepth 100000 in
set_option maxHeartbeats 1000000 in
theorem pour_any (w : World) (gx gy bw bd : Nat) (ts : List Int) (d : Nat) (a : Option Addr) (c : Nat) (hx : LaneAt w gx ts d) (hy : LaneAt w gy [] d) (hne : gx ≠ gy) (hG : Good ts)
    (hw : w.heap[bw]? = some (.cells #[.slice a ts.length c] 22 (0, 0))) (hd : w.heap[bd]? = some (.cells #[.int .i64 d] 3 (0, 0))) :
    Calls Try.prog 20 #[.pointer (some ⟨gx, 0, none⟩), .pointer (some ⟨gy, 0, none⟩), .pointer (some ⟨bw, 0, none⟩), .pointer (some ⟨bd, 0, none⟩)] w fun e w' =>
      e = .returned (.bool true) ∧ LaneAt w' gx [] d ∧ LaneAt w' gy ts.reverse d ∧ Fr w w' (Two gx gy) := by
  have h8 : ts.length ≤ d := hx.1
  have hd8 : d ≤ 8 := hx.2.2.1
  have HX := Lib.hid hx
  have HY := Lib.hid hy
  have HG := Lib.hid hG
  have HW := Lib.hid hw
  have HD := Lib.hid hd
  have HNE := Lib.hid hne
  have hbw1 : bw ≠ gx := by obtain ⟨_, _, _, r, _, hb⟩ := hx; exact blk_ne hw hb (by decide)
  have hbw2 : bw ≠ gy := by obtain ⟨_, _, _, r, _, hb⟩ := hy; exact blk_ne hw hb (by decide)
  have hbd1 : bd ≠ gx := by obtain ⟨_, _, _, r, _, hb⟩ := hx; exact blk_ne hd hb (by decide)
  have hbd2 : bd ≠ gy := by obtain ⟨_, _, _, r, _, hb⟩ := hy; exact blk_ne hd hb (by decide)
  have HBS := Lib.hid (And.intro (And.intro hbw1 hbw2) (And.intro hbd1 hbd2))
  clear hbw1 hbw2 hbd1 hbd2
  have hcw : w.cell? ⟨bw, 0, none⟩ = some (.slice a ts.length c) := blk_cell hw 0
  clear hx hy hG hw hd hne
  go_enter Try.func20, Try.ntmps20
  go_wp2
  go_loopw [11] (fun v11 wr => ∃ j : Nat, j ≤ ts.length ∧ v11 = .int .i64 j ∧ LaneAt wr gx (ts.take (ts.length - j)) d ∧ LaneAt wr gy (ts.drop (ts.length - j)).reverse d ∧ Fr w wr (Two gx gy)) (fun u _ => ts.length - (intOf u).toNat)
  case atStart => exact ⟨0, Nat.zero_le _, rfl, by rw [Nat.sub_zero, List.take_length]; exact HX.out, by rw [Nat.sub_zero, List.drop_length]; exact HY.out, Fr.refl _ _⟩
  case round =>
    obtain ⟨j, hj, rfl, hX, hY, hF⟩ := hrel
    have HX1 := Lib.hid hX
    have HY1 := Lib.hid hY
    have HF1 := Lib.hid hF
    clear hX hY hF
    by_cases hlt : j < ts.length
    · have hP := pour_push HG.out h8 j hlt
      have HE := Lib.hid hP.1
      have HT : Hid (pushT d (ts.drop (ts.length - j)).reverse (ts.getD (ts.length - (j + 1)) 0) = (ts.drop (ts.length - (j + 1))).reverse) := Lib.hid (by
        unfold pushT; rw [if_pos hP.1, hP.2])
      have HS : Hid (ts.take (ts.length - j) = ts.take (ts.length - (j + 1)) ++ [ts.getD (ts.length - (j + 1)) 0]) := Lib.hid (by
        rw [show ts.length - j = ts.length - (j + 1) + 1 by omega, List.take_succ_eq_append_getElem (by omega)]
        simp [List.getD, show ts.length - (j + 1) < ts.length by omega])
      clear hP
      generalize ts.getD (ts.length - (j + 1)) 0 = z at *
      go_wp2_with fail
      refine (pop_is gx _ z _ d _ HX1.out HS.out).mono ?_
      rintro e w2 ⟨rfl, hX2, hf2⟩
      have HX2 := Lib.hid hX2
      have HY2 := Lib.hid (HY1.out.keep hf2 (fun e => HNE.out e.symm))
      have HF2 := Lib.hid (HF1.out.trans hf2 (fun _ _ h => h) (fun _ _ h => .inl h))
      clear hX2 hf2
      go_wp2_with fail
      refine (push_is gy _ d z 0 _ _ HY2.out HE.out HT.out).mono ?_
      rintro e w3 ⟨rfl, hY3, hf3⟩
      have HX3 := Lib.hid (HX2.out.keep hf3 (fun e => HNE.out e))
      have HY3 := Lib.hid hY3
      have HF3 := Lib.hid (HF2.out.trans hf3 (fun _ _ h => h) (fun _ _ h => .inr h))
      clear hY3 hf3
      go_wp2
      go_roundw
      case rel => exact ⟨j + 1, by omega, by go_num, HX3.out, HY3.out, HF3.out⟩
      case measure => simp [intOf]; omega
    · obtain rfl : j = ts.length := by omega
      have HX2 : Hid (LaneAt wr gx [] d) := Lib.hid (by have := HX1.out; rwa [Nat.sub_self, List.take_zero] at this)
      have HY2 : Hid (LaneAt wr gy ts.reverse d) := Lib.hid (by have := HY1.out; rwa [Nat.sub_self, List.drop_zero] at this)
      have hcd : wr.cell? ⟨bd, 0, none⟩ = some (.int .i64 d) := HF1.out.cell (blk_cell HD.out 0) (fun h => by rcases h with h | h; exact HBS.out.2.1 h; exact HBS.out.2.2 h)
      go_wp2_with fail
      go_quiet ((go_at_call 18; exact Calls.quiet_of ((room_is gx [] d d _ (HX2.out.drewN _) (by simp)).mono fun e w' ⟨he, n, hn⟩ => ⟨he, n, hn.symm⟩)))
      go_wp2
      go_ret
      exact ⟨by simp, HX2.out.drewN _, HY2.out.drewN _, HF1.out.to_drewN _⟩

end Go.Proofs.Ytegoilhkooneaaa
