/- The row of the law ShuttleJobs: 'whatever the input, it returns true and leaves its arguments as they were', out of its walk. Conditions: none beyond the given statement's own. -/
import Derived.Test.YtoilalohhicipaaRows
import Derived.Test.YtoilalohhicipaaLwJobs
import Derived.Test.YtoilalohhicipaaOp
namespace Go.Proofs.Ytoilalohhicipaa.shuttleJobs
open Go.ChangeShapes Go.WideShapes Go.ChangeAt Go.RowKit Go.Joins Go.Deep
open Go.ChangeMaps (open_string shut_string)
set_option linter.unusedVariables false
set_option linter.unusedSimpArgs false
theorem own : ownKnob Try.prog.godebug = none := by kernel_rfl
theorem laidOut : laidOutB Try.prog = true := by kernel_rfl
theorem list_len3 (z : List Int) (h : z.length = 3) : ∃ x0 x1 x2, z = [x0, x1, x2] := by
  match z, h with
  | [x0, x1, x2], _ => exact ⟨x0, x1, x2, rfl⟩
set_option maxRecDepth 100000 in
theorem lifted (os : Os) (started : os.Started) (H : Type) (enc : TypeId × Value → H) :
    ReturnsInHanded {} Try.checked os 3 .any (Rows.shuttleJobsSpec.pre6 enc Try.prog Try.f3 Rows.shuttleJobsRow.domain false) (Rows.shuttleJobsSpec.post enc Try.prog Try.f3 false true false false) := by
  refine returnsInHanded_of_change_sized (C := Try.checked) own started (by kernel_rfl) Try.func3
    (ChangeSpec.witness6 (enc := enc) (C := Try.checked) false ⟨#[], #[.agg #[.int .i64 0, .int .i64 0, .int .i64 0], .slice none 0 0, .slice none 0 0], []⟩ 8 (by kernel_rfl) (by kernel_rfl) (by kernel_rfl) (by kernel_rfl)) ?_
  intro W base args ds gs before hval0 hW hcnd hsz0 _
  have hsz : (DataW.weightsEach Try.prog (Try.f3.params.toList ++ Rows.shuttleJobsSpec.plain.varTypes Try.prog) (ds ++ gs)).all (· ≤ reachBytes) = true := hsz0
  have hval : ∀ (j : Nat) t v, Try.f3.params[j]? = some t → args[j]? = some v → Value.okWide Try.prog W .any base t v := hval0
  have hW' := hW
  obtain ⟨p, q, hA0, hV, rfl, hfz, hnd⟩ := hW
  have hA : DataW.TrodAll enc Try.prog W 0 (fun _ => true) true Try.f3.params.toList args.toList ds p := hA0
  rw [Try.params3] at hA hval hsz
  obtain ⟨v0, vs0, d0, ds0, p0, q0, hargs, rfl, rfl, h0, r0⟩ := trodAll_cons hA
  obtain ⟨v1, vs1, d1, ds1, p1, q1, rfl, rfl, rfl, h1, r1⟩ := trodAll_cons r0
  obtain ⟨v2, vs2, d2, ds2, p2, q2, rfl, rfl, rfl, h2, r2⟩ := trodAll_cons r1
  obtain ⟨rfl, rfl, rfl⟩ := trodAll_nil r2
  obtain rfl : args = #[v0, v1, v2] := by cases args; simp_all
  obtain ⟨rfl, rfl⟩ := trodVars_none hV
  have k0 := h0
  have lt0 : ∀ x ∈ p0, x.block < W.heap.size := by obtain ⟨m, hm⟩ := k0; exact DataW.trod_lt m _ _ _ hm
  obtain ⟨z0, hl0, hw0, hv0⟩ := op_agg 5 (by kernel_rfl) (m := 3) (by kernel_rfl) (by kernel_rfl) (hval 0 23 v0 rfl rfl) h0
  subst hv0
  obtain ⟨b0_0, b0_1, b0_2, rfl⟩ := list_len3 z0 hl0
  obtain ⟨a1, len1, cap1, rfl⟩ := okWide_slice Try.underlying24 (hval 1 24 v1 rfl rfl)
  have lt1 : ∀ x ∈ p1, x.block < W.heap.size := by obtain ⟨m, hm⟩ := h1; exact DataW.trod_lt m _ _ _ hm
  obtain ⟨z1, hr1, hs1, hw1⟩ := op_structs hsz (j := 1) (t := 24) rfl rfl Try.underlying24 5 (by kernel_rfl) (m := 3) (by kernel_rfl) (by decide) (B := 24) (by kernel_rfl) h1
  obtain ⟨a2, len2, cap2, rfl⟩ := okWide_slice Try.underlying25 (hval 2 25 v2 rfl rfl)
  have lt2 : ∀ x ∈ p2, x.block < W.heap.size := by obtain ⟨m, hm⟩ := h2; exact DataW.trod_lt m _ _ _ hm
  obtain ⟨z2, hl2, hr2, hw2, hs2⟩ := op_ints hsz (j := 2) (t := 25) rfl rfl Try.underlying25 Try.underlying3 (by kernel_rfl) (B := 8) (by kernel_rfl) h2
  subst hl2
  clear hA0 hval0 hsz0 hsz
  refine (shuttleJobs_row W b0_0 b0_1 b0_2 hw0 (.slice a1 len1 cap1) len1 z1 hr1 (by omega) (.slice a2 z2.length cap2) z2 ⟨hr2, by omega⟩).mono fun e W' ⟨he, hfr⟩ => ?_
  have bel : Below W.heap.size W W' := hfr.below (Nat.le_refl _) (fun _ _ h => h)
  subst he
  exact ⟨_, rfl, _, _, _, [], _, [], hW', trodAll_mk1 (shut_bool Try.underlying4 _), (trodAll_cons_mk (Below.trod laidOut (by kernel_rfl) (of_decide_eq_true (by kernel_rfl)) k0 bel lt0) (trodAll_cons_mk (Below.trod laidOut (by kernel_rfl) (of_decide_eq_true (by kernel_rfl)) h1 bel lt1) (trodAll_cons_mk (Below.trod laidOut (by kernel_rfl) (of_decide_eq_true (by kernel_rfl)) h2 bel lt2) trodAll_mk0))), rfl, bel.frame _, fun h => by cases h⟩
theorem over : Rows.shuttleJobsRow.holds Try.pinned (OpenSpec.ofChange Rows.shuttleJobsSpec) :=
  OpenClaim.holds_of_wide 3 Try.f3 rfl rfl rfl rfl rfl rfl rfl ⟨rfl, rfl, rfl, rfl, rfl⟩ rfl rfl rfl rfl rfl (by kernel_rfl) Try.func3 (by kernel_rfl)
    (of_decide_eq_true (by kernel_rfl)) (by unfold Func.isWrapper; first | (rw [if_pos (by decide +kernel)]; kernel_rfl) | (rw [if_neg (by decide +kernel)]; exact ⟨rfl, rfl⟩))
    (fun os started H enc _ => lifted os started H enc)
theorem proved : Rows.ShuttleJobsSaid := over
#print axioms proved
end Go.Proofs.Ytoilalohhicipaa.shuttleJobs
namespace Go.Proofs.Ytoilalohhicipaa
/-- The row, under a short name, for the claim. -/
theorem shuttleJobs_holds : Rows.ShuttleJobsSaid := shuttleJobs.proved
end Go.Proofs.Ytoilalohhicipaa
