/-
  The document's rack: set, New.
-/
import Derived.Test.YtegoilhkooneaaaGd2
import Derived.Test.YtegoilhkooneaaaAp
namespace Go.Proofs.Ytegoilhkooneaaa
open Go.RowKit Go.Sort
set_option linter.unusedVariables false
set_option linter.unusedSimpArgs false

theorem Sl.setAt {w : World} {e : TypeId} {k : Nat} {g off n cap : Nat} {xs : List Value} (h : Sl w e k (.slice (some ⟨g, off, none⟩) n cap) n xs) (j : Nat) (hj : j < n * k) (u : Value) :
    Sl (w.setCell ⟨g, off + j, none⟩ u) e k (.slice (some ⟨g, off, none⟩) n cap) n (xs.set j u) := by
  obtain ⟨hl, ⟨h, _⟩ | ⟨g', off', cap', cur, hv, hg, hn, hc, hs, ht⟩⟩ := h
  · cases h
  · simp at hv
    obtain ⟨⟨rfl, rfl⟩, rfl⟩ := hv
    refine ⟨by simpa using hl, .inr ⟨g, off, cap, _, rfl, blk_set hg _ u, hn, hc, by simpa using hs, ?_⟩⟩
    rw [Array.toList_setIfInBounds, ← ht, List.drop_set, if_neg (by omega), Nat.add_sub_cancel_left, List.take_set]
theorem dC_set (D : List Dl) (i : Nat) (x : Dl) (hi : i < D.length) : dC (D.set i x) = ((dC D).set (i * 2) (.int .i64 x.2.1)).set (i * 2 + 1) x.1 := by
  induction D generalizing i with
  | nil => simp at hi
  | cons s r ih =>
    cases i with
    | zero => simp [dC]
    | succ i =>
      have := ih i (by simpa using hi)
      rw [show (i + 1) * 2 = i * 2 + 1 + 1 by omega]
      simpa [dC] using this
theorem info42 : (Try.prog.info? 42).map (fun i => (i.zero, i.size, i.bytes)) = some (some (.agg #[.int .i64 0, .slice none 0 0]), 2, 32) := by kernel_rfl
theorem dC_one (D : List Dl) (h : ∀ i, i < D.length → ∃ a n c, (D.getD i dl0).1 = .slice a n c) : ∀ u ∈ dC D, u.oneCell' = true := by
  intro u hu
  obtain ⟨x, hx, h2⟩ := List.mem_flatMap.1 hu
  simp at h2
  rcases h2 with rfl | rfl
  · rfl
  · obtain ⟨i, hi, e⟩ := List.getElem_of_mem hx
    obtain ⟨a, n, c, h3⟩ := h i hi
    simp only [List.getD, List.getElem?_eq_getElem hi, Option.getD_some] at h3
    rw [← e, h3]; rfl
theorem DocD.one {w : World} {v : Value} {D : List Dl} (h : DocD w v D) : ∀ u ∈ dC D, u.oneCell' = true := dC_one D (fun i hi => by
  obtain ⟨a, c, e⟩ := slv_form (h.tot i hi); exact ⟨a, _, c, e⟩)

/-- What a function of the document's rack hands back, behind other results. -/
def RefS (w : World) (R : List Lan) (f : Value → Value) (e : Ending) (w' : World) : Prop := ∃ v', e = .returned (f v') ∧ DocAt w' v' R ∧ Fr w w' No

theorem three_blk (w : World) (o1 o2 o3 : Obj) : (((w.alloc o1).alloc o2).alloc o3).heap[w.heap.size]? = some o1 ∧ (((w.alloc o1).alloc o2).alloc o3).heap[w.heap.size + 1]? = some o2 ∧ (((w.alloc o1).alloc o2).alloc o3).heap[w.heap.size + 2]? = some o3 ∧ Fr w (((w.alloc o1).alloc o2).alloc o3) No ∧ (((w.alloc o1).alloc o2).alloc o3).heap.size = w.heap.size + 3 := by
  obtain ⟨h1, h2, h3, h4⟩ := two_blk w o1 o2
  refine ⟨blk_old h1 o3, blk_old h2 o3, ?_, h3.nn (Fr.alloc _ o3 No), by simp⟩
  have := blk_new ((w.alloc o1).alloc o2) o3
  simpa using this

set_option maxRecDepth 100000 in
set_option maxHeartbeats 4000000 in
theorem refSet_any (w : World) (v u : Value) (R : List Lan) (i d : Nat) (T : List Int) (hD : DocAt w v R) (hu : SlI w u T) (hi : i < R.length) (h32 : R.length ≤ 32) :
    Calls Try.prog 53 #[.agg #[v], .int .i64 i, .agg #[.int .i64 d, u]] w fun e w' => RefS w (R.set i (d, T)) (fun v' => .agg #[v']) e w' := by
  obtain ⟨i0, hi0, hz0, hz1, hz2⟩ := info_parts info42
  obtain ⟨a, c, rfl⟩ := hD.form
  obtain ⟨au, cu, rfl⟩ := slv_form hu
  obtain ⟨D, hDe, hd⟩ := hD
  have hlen : D.length = R.length := by rw [← hDe, List.length_map]
  have HLEN := Lib.hid hlen
  have HDE := Lib.hid hDe
  have HD := Lib.hid hd
  have HU := Lib.hid hu
  obtain ⟨q0, q1, q2, hq, hqs⟩ := three_blk w (.cells #[.slice a R.length c] 74) (.cells #[.int .i64 d, .slice au T.length cu] 42) (.cells #[.slice none 0 0] 74)
  have Q0 := Lib.hid q0
  have Q1 := Lib.hid q1
  have Q2 := Lib.hid q2
  have HQ := Lib.hid hq
  clear hd hu hDe hlen q0 q1 q2 hq
  go_enter Try.func53, Try.ntmps53
  go_upto_region 1 with (fail)
  generalize ((w.alloc (.cells #[.slice a R.length c] 74)).alloc (.cells #[.int .i64 d, .slice au T.length cu] 42)).alloc (.cells #[.slice none 0 0] 74) = w1 at *
  have k0 := blk_cell Q0.out 0
  simp only [List.getElem?_toArray, List.getElem?_cons_zero] at k0
  have hz0' : w.heap.size < w1.heap.size := blk_lt Q0.out
  go_wp2_with (at_builtin; refine wpList_app rfl (.tmp 7) (.tmp 9) 72 rfl 42 i0 (.agg #[.int .i64 0, .slice none 0 0]) 2 32 Try.underlying72 hi0 hz0 hz1 hz2 rfl (by decide) _ 0 [] rfl ?c1 (.slice a R.length c) R.length (dC D) rfl ?c2 HD.out.one ?c3 ?c4 ?_)
  case c1 => exact Sl.made (cs := #[]) (by have h := blk_new w1 (.cells #[] 42); rw [hqs] at h; exact h) (by simp) (by decide)
  case c2 =>
    have h := (Sl.rd HD.out.row).keep0 (HQ.out.nn (Fr.alloc w1 (.cells #[] 42) No))
    rw [HLEN.out] at h
    exact h
  case c3 => unfold maxLen; omega
  case c4 => omega
  intro v1 w2 hs1 hf1 ho1 hnil
  rw [← HLEN.out] at hs1
  obtain ⟨g, off, c1, rfl⟩ : ∃ g off c1, v1 = .slice (some ⟨g, off, none⟩) D.length c1 := by
    obtain ⟨_, ⟨rfl, h0⟩ | ⟨g, off, cap, cur, rfl, _⟩⟩ := hs1
    · have := HLEN.out; omega
    · exact ⟨_, _, _, rfl⟩
  have hfz := (Fr.alloc w1 (.cells #[] 42) No).into hf1 (fun i e => by simp [Value.ownBlock] at e; omega)
  have hgne : g = w.heap.size + 3 ∨ g = w.heap.size + 4 := by
    rcases ho1 with e | e <;> simp [Value.ownBlock] at e <;> omega
  have p0 := hfz.blk Q0.out id
  have p1 := hfz.blk Q1.out id
  have p2 := hfz.blk Q2.out id
  have HF2 := Lib.hid (HQ.out.nn hfz)
  have HS1 := Lib.hid hs1
  have P0 := Lib.hid p0
  have P1 := Lib.hid p1
  have P2 := Lib.hid p2
  have k0' := blk_cell p0 0
  have z0 := blk_frozen p0 0
  simp only [List.getElem?_toArray, List.getElem?_cons_zero] at k0'
  clear k0 hz0' hs1 hf1 ho1 hnil hfz p0 p1 p2
  go_upto_region 2 with (fail)
  have HS3 := Lib.hid (Sl.keep HS1.out (Fr.setCell w2 ⟨w.heap.size, 0, none⟩ (.slice (some ⟨g, off, none⟩) D.length c1)) (fun k hk e => by simp [Value.ownBlock] at hk; rw [show k = w.heap.size from e] at hk; omega))
  have P0' := Lib.hid (blk_set P0.out 0 (.slice (some ⟨g, off, none⟩) D.length c1))
  have P1' := Lib.hid (blk_far P1.out (p := ⟨w.heap.size, 0, none⟩) (by simp) (.slice (some ⟨g, off, none⟩) D.length c1))
  have P2' := Lib.hid (blk_far P2.out (p := ⟨w.heap.size, 0, none⟩) (by simp) (.slice (some ⟨g, off, none⟩) D.length c1))
  have HF3 : Hid (Fr w (w2.setCell ⟨w.heap.size, 0, none⟩ (.slice (some ⟨g, off, none⟩) D.length c1)) No) := Lib.hid (HF2.out.to_new _ _ (Nat.le_refl _))
  generalize w2.setCell ⟨w.heap.size, 0, none⟩ (.slice (some ⟨g, off, none⟩) D.length c1) = w3 at *
  clear HS1 P0 P1 P2 HF2 k0' z0
  have k0 := blk_cell P0'.out 0
  have k1 := blk_cell P1'.out 0
  have k2 := blk_cell P1'.out 1
  simp only [List.getElem?_toArray, List.getElem?_cons_zero, List.getElem?_cons_succ, List.setIfInBounds_toArray, List.set_cons_zero] at k0 k1 k2
  have hi' : (i : Int) < (D.length : Int) := by have := HLEN.out; omega
  have hi0 : (0 : Int) ≤ (i : Int) := by omega
  have hiD : i < D.length := by have := HLEN.out; omega
  obtain ⟨d1, d2⟩ := dC_at D i hiD
  have m1 := Sl.cell HS3.out _ _ d1
  have m2 := Sl.cell HS3.out _ _ d2
  rw [← Nat.add_assoc] at m2
  have f1 := Sl.frz HS3.out (off + i * 2)
  have f2 := Sl.frz HS3.out (off + i * 2 + 1)
  clear d1 d2
  go_upto_region 3 with (fail)
  have hset := HS3.out.setAt (i * 2) (by omega) (.int .i64 d)
  have hset2 := hset.setAt (i * 2 + 1) (by omega) (.slice au T.length cu)
  rw [← Nat.add_assoc, ← dC_set D i (.slice au T.length cu, (d, T)) hiD] at hset2
  have hne1 : w.heap.size ≠ g := by omega
  have hne2 : w.heap.size + 2 ≠ g := by omega
  have p0 := blk_far (blk_far P0'.out (p := ⟨g, off + i * 2, none⟩) hne1 (.int .i64 d)) (p := ⟨g, off + i * 2 + 1, none⟩) hne1 (.slice au T.length cu)
  have p2 := blk_far (blk_far P2'.out (p := ⟨g, off + i * 2, none⟩) hne2 (.int .i64 d)) (p := ⟨g, off + i * 2 + 1, none⟩) hne2 (.slice au T.length cu)
  have HF4 : Hid (Fr w ((w3.setCell ⟨g, off + i * 2, none⟩ (.int .i64 d)).setCell ⟨g, off + i * 2 + 1, none⟩ (.slice au T.length cu)) No) := Lib.hid ((HF3.out.to_new _ _ (by simp; omega)).to_new _ _ (by simp; omega))
  have HSET := Lib.hid hset2
  clear hset hset2 k0 k1 k2 m1 m2 f1 f2 HF3 P0' P1' P2' HS3
  generalize (w3.setCell ⟨g, off + i * 2, none⟩ (.int .i64 d)).setCell ⟨g, off + i * 2 + 1, none⟩ (.slice au T.length cu) = w4 at *
  have k0 := blk_cell p0 0
  have k2 := blk_cell p2 0
  have z2 := blk_frozen p2 0
  have s2 := set_at p2 0 (by decide) (.slice (some ⟨g, off, none⟩) D.length c1)
  simp only [List.getElem?_toArray, List.getElem?_cons_zero, List.getElem?_cons_succ, List.setIfInBounds_toArray, List.set_cons_zero] at k0 k2
  have hD' : DocD (w4.setCell ⟨w.heap.size + 2, 0, none⟩ (.slice (some ⟨g, off, none⟩) D.length c1)) (.slice (some ⟨g, off, none⟩) D.length c1) (D.set i (.slice au T.length cu, (d, T))) := by
    have hFs := Fr.setCell w4 ⟨w.heap.size + 2, 0, none⟩ (.slice (some ⟨g, off, none⟩) D.length c1)
    have htk : ∀ u zs, SlI w u zs → SlI (w4.setCell ⟨w.heap.size + 2, 0, none⟩ (.slice (some ⟨g, off, none⟩) D.length c1)) u zs := fun u zs hx => Sl.keep (Sl.keep0 hx HF4.out) hFs (fun k hk e => by have := Sl.lt hx k hk; rw [show k = w.heap.size + 2 from e] at this; omega)
    refine ⟨?_, fun j hj => ?_⟩
    · have h := HSET.out.keep hFs (fun k hk e => by simp [Value.ownBlock] at hk; rw [show k = w.heap.size + 2 from e] at hk; omega)
      rw [List.length_set]
      exact h
    · rw [List.length_set] at hj
      have e : (D.set i ((.slice au T.length cu, (d, T)) : Dl)).getD j dl0 = if i = j then (.slice au T.length cu, (d, T)) else D.getD j dl0 := by
        simp only [List.getD, List.getElem?_set]
        split
        · subst_vars; simp [hiD]
        · rfl
      rw [e]
      split
      · exact htk _ _ HU.out
      · exact htk _ _ (HD.out.tot j hj)
  have HDOC : Hid (DocAt (w4.setCell ⟨w.heap.size + 2, 0, none⟩ (.slice (some ⟨g, off, none⟩) D.length c1)) (.slice (some ⟨g, off, none⟩) D.length c1) (R.set i (d, T))) := Lib.hid ⟨_, by rw [List.map_set, HDE.out], hD'⟩
  have HF5 : Hid (Fr w (w4.setCell ⟨w.heap.size + 2, 0, none⟩ (.slice (some ⟨g, off, none⟩) D.length c1)) No) := Lib.hid (HF4.out.to_new _ _ (by simp))
  clear hD' p0 p2
  go_wp2
  refine bodyPost_ret (v := .agg #[.slice (some ⟨g, off, none⟩) D.length c1]) (by simp [results, Try.results53, go_sem, s2]) rfl ⟨_, rfl, HDOC.out, HF5.out⟩
end Go.Proofs.Ytegoilhkooneaaa
