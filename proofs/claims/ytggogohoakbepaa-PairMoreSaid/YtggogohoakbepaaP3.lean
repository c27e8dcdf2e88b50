/-
  pair.Best refused; the law's fixed fact; own, same, ref.
-/
import Derived.Test.YtggogohoakbepaaP2
namespace Go.Proofs.Ytggogohoakbepaa
open Go.RowKit Go.Sort
set_option linter.unusedVariables false
set_option linter.unusedSimpArgs false

set_option maxRecDepth 100000 in
set_option maxHeartbeats 1000000 in
theorem best_bad (u v : Value) (ss gs : List Spot) (w : World) (hu : RdS w u ss) (hv : RdS w v gs) (h : ¬ okL ss ∨ ¬ okL gs) :
    Calls Try.prog 14 #[u, v] w fun e w' => e = .returned (.tuple #[.slice none 0 0, .int .i64 0, .int .i64 1]) ∧ Fr w w' No := by
  obtain ⟨a, c, rfl⟩ := hu.form
  obtain ⟨a', c', rfl⟩ := hv.form
  have HU := Lib.hid hu
  have HV := Lib.hid hv
  clear hu hv
  by_cases hs : okL ss
  · have hg : ¬ okL gs := by
      rcases h with h | h
      · exact absurd hs h
      · exact h
    have d1 : decide (¬ okL ss) = false := by simpa using hs
    have d2 : decide (¬ okL gs) = true := by simpa using hg
    clear hs hg h
    go_enter Try.func14, Try.ntmps14
    go_wp2_with fail
    go_step3
    go_wp2_with fail
    refine (bad_any _ ss _ HU.out).mono ?_
    rw [d1]
    rintro e w1 ⟨rfl, hf1⟩
    go_wp2_with fail
    refine (bad_any _ gs _ (HV.out.keep0 hf1)).mono ?_
    rw [d2]
    rintro e w2 ⟨rfl, hf2⟩
    clear d1 d2
    have HF2 := Lib.hid (hf1.nn hf2)
    clear hf1 hf2
    go_wp2_with fail
    try rw [Exit.noGoto_ret]
    go_ret3
    exact ⟨rfl, HF2.out⟩
  · have d1 : decide (¬ okL ss) = true := by simpa using hs
    clear hs h
    go_enter Try.func14, Try.ntmps14
    go_wp2_with fail
    go_step3
    go_wp2_with fail
    refine (bad_any _ ss _ HU.out).mono ?_
    rw [d1]
    rintro e w1 ⟨rfl, hf1⟩
    clear d1
    have HF2 := Lib.hid hf1
    clear hf1
    go_wp2_with fail
    try rw [Exit.noGoto_ret]
    go_ret3
    exact ⟨rfl, HF2.out⟩

/-- Spots in a block of their own. -/
theorem RdS.made {w : World} {g : Nat} {l : List Spot} {cs : Array Value} (hg : w.heap[g]? = some (.cells cs 23 (0, 0))) (hc : cs.toList = spC l) (hl : l.length ≤ 1000000) : RdS w (.slice (some ⟨g, 0, none⟩) l.length l.length) l := by
  have hsz : cs.size = l.length * 2 := by rw [← spC_len, ← hc]; simp
  have := (Sl.made (k := 2) hg hsz (by unfold maxLen; omega)).rd
  rw [hc] at this
  exact ⟨this, by omega⟩

set_option maxRecDepth 100000 in
set_option maxHeartbeats 1000000 in
theorem awake_any (w : World) : Calls Try.prog 10 #[] w fun e w' => e = .returned (.bool true) ∧ Fr w w' No := by
  have hn : alone [((3 : Int), (1 : Int)), (9, 9)] + alone [((8 : Int), (9 : Int))] - M [(8, 9)] [(3, 1), (9, 9)] 0 = 25 := by decide +kernel
  have hR : R [((8 : Int), (9 : Int))] [(3, 1), (9, 9)] 0 = [-1, 0] := by decide +kernel
  have HN := Lib.hid hn
  have HR := Lib.hid hR
  clear hn hR
  go_enter Try.func10, Try.ntmps10
  go_wp2_with fail
  obtain ⟨k1, k2, hf, _⟩ := two_blk w (.cells #[.int .i64 3, .int .i64 1, .int .i64 9, .int .i64 9] 23) (.cells #[.int .i64 8, .int .i64 9] 23)
  refine (best_ok _ _ [(3, 1), (9, 9)] [(8, 9)] _ (RdS.made k1 rfl (by decide)) (RdS.made k2 rfl (by decide)) (by decide +kernel) (by decide +kernel)).mono ?_
  rintro e w1 ⟨q, rfl, hN⟩
  rw [HN.out]
  rw [HR.out] at hN
  obtain ⟨a, c, rfl, _⟩ := hN.1.form
  have HN1 := Lib.hid hN
  have HF := Lib.hid (hf.nn hN.2.1)
  clear hN k1 k2 hf
  go_wp2_with fail
  refine (ints_true _ _ [-1, 0] _ (SlI.rd (Sl.keep0 HN1.out.1 (Fr.alloc _ _ _)) (by decide)) (SlI.rd (zs := [-1, 0]) (Sl.made (blk_new _ _) rfl (by decide)) (by decide))).mono ?_
  rintro e w2 ⟨rfl, hf2⟩
  have HF2 := Lib.hid ((HF.out.to_alloc _).nn hf2)
  clear hf2
  go_wp2_with fail
  go_ret
  exact ⟨rfl, HF2.out⟩

theorem info23 : (Try.prog.info? 23).map (fun i => (i.zero, i.size, i.bytes)) = some (some (.agg #[.int .i64 0, .int .i64 0]), 2, 16) := by kernel_rfl
theorem oneS (l : List Spot) : ∀ u ∈ spC l, u.oneCell' = true := by
  intro u hu
  obtain ⟨s, _, h⟩ := List.mem_flatMap.1 hu
  simp at h
  rcases h with rfl | rfl <;> rfl
/-- A slice of spots that the call has made. -/
def NewS (w w' : World) (v : Value) (l : List Spot) : Prop := Sl w' 23 2 v l.length (spC l) ∧ Fr w w' No ∧ ∀ k, v.ownBlock = some k → w.heap.size ≤ k
theorem NewS.rd {w w' : World} {v : Value} {l : List Spot} (h : NewS w w' v l) (hl : l.length ≤ 8796093022207) : RdS w' v l := ⟨h.1.rd, hl⟩

set_option maxHeartbeats 400000 in
theorem own_any (v : Value) (l : List Spot) (w : World) (hv : RdS w v l) :
    Calls Try.prog 13 #[v] w fun e w' => ∃ v', e = .returned v' ∧ NewS w w' v' l := by
  obtain ⟨i0, hi, hz0, hz1, hz2⟩ := info_parts info23
  have hl := hv.2
  obtain ⟨a, c, rfl⟩ := hv.form
  have HV := Lib.hid hv
  clear hv
  go_enter Try.func13, Try.ntmps13
  go_wp2_with (at_builtin; refine wpList_app rfl _ _ 30 rfl 23 i0 (.agg #[.int .i64 0, .int .i64 0]) 2 16 Try.underlying30 hi hz0 hz1 hz2 rfl (by decide) _ 0 [] rfl ?c1 _ l.length (spC l) rfl ?c2 (oneS l) ?c3 ?c4 ?_)
  case c1 => exact Sl.made (cs := #[]) (blk_new _ _) rfl (by decide)
  case c2 => exact HV.out.1.keep0 (Fr.alloc _ _ _)
  case c3 => unfold maxLen; omega
  case c4 => omega
  intro v' w1 hs1 hf1 ho1 _
  go_wp2
  go_ret
  refine ⟨v', rfl, by simpa using hs1, (Fr.alloc w _ No).trans hf1 (fun _ _ h => h) (fun i hi e => ?_), fun k hk => ?_⟩
  · simp [Value.ownBlock] at e; omega
  · rcases ho1 with e | e <;> rw [hk] at e <;> simp [Value.ownBlock] at e <;> omega

set_option maxHeartbeats 1000000 in
theorem same_true (u v : Value) (l : List Spot) (w : World) (hu : RdS w u l) (hv : RdS w v l) :
    Calls Try.prog 18 #[u, v] w fun e w' => e = .returned (.bool true) ∧ Fr w w' No := by
  have hl := hu.2
  obtain ⟨a, c, rfl⟩ := hu.form
  obtain ⟨a', c', rfl⟩ := hv.form
  have HU := Lib.hid hu
  have HV := Lib.hid hv
  clear hu hv
  go_enter Try.func18, Try.ntmps18
  go_wp2
  go_loopw [5, 8] (fun _ i wr => ∃ k : Nat, k ≤ l.length ∧ i = .int .i64 k ∧ Fr w wr No) (fun _ i _ => l.length - (intOf i).toNat)
  case atStart => exact ⟨0, Nat.zero_le _, rfl, Fr.refl _ _⟩
  case round =>
    obtain ⟨k, hk, rfl, hf⟩ := hrel
    have HF := Lib.hid hf
    clear hf
    by_cases hlt : k < l.length
    · obtain ⟨b, off, rfl, h1, h2⟩ := (HU.out.keep0 HF.out).at_ k hlt
      obtain ⟨b', off', rfl, h1', h2'⟩ := (HV.out.keep0 HF.out).at_ k hlt
      generalize l.getD k (0, 0) = s at *
      go_wp2_with fail
      go_quiet (fail)
      go_wp2
      go_roundw
      case rel => exact ⟨k + 1, by omega, by go_num, HF.out.to_drewN nq⟩
      case measure => simp [intOf]; omega
    · go_wp2
      go_ret
      exact ⟨by simp, HF.out⟩
end Go.Proofs.Ytggogohoakbepaa
