/-
  The document's rack: New.
-/
import Derived.Test.YtegoilhkooneaaaGd3
namespace Go.Proofs.Ytegoilhkooneaaa
open Go.RowKit Go.Sort
set_option linter.unusedVariables false
set_option linter.unusedSimpArgs false

def D0 (ds : List Int) : List Dl := ds.map (fun d => (.slice none 0 0, (d.toNat, [])))
theorem D0_rack (ds : List Int) : (D0 ds).map (·.2) = rack0 ds := by simp [D0, rack0]
theorem D0_len (ds : List Int) : (D0 ds).length = ds.length := by simp [D0]
theorem D0_snoc (ds : List Int) (d : Int) : D0 (ds ++ [d]) = D0 ds ++ [(.slice none 0 0, (d.toNat, []))] := by simp [D0]
theorem D0_doc {w : World} {v : Value} {ds : List Int} (h : Sl w 42 2 v (D0 ds).length (dC (D0 ds))) : DocD w v (D0 ds) := ⟨h, fun i hi => by
  rw [D0_len] at hi
  have e : (D0 ds).getD i dl0 = (.slice none 0 0, (ds[i].toNat, [])) := by simp [D0, List.getD, List.getElem?_map, List.getElem?_eq_getElem hi]
  rw [e]
  exact Sl.nil _ _ _⟩

/-- The document's rack under way. -/
structure MkD (w wr : World) (v : Value) (ds : List Int) : Prop where
  rb : wr.heap[w.heap.size + 1]? = some (.cells #[v] 74 (0, 0))
  ob : wr.heap[w.heap.size]? = some (.cells #[.slice none 0 0] 74 (0, 0))
  row : Sl wr 42 2 v (D0 ds).length (dC (D0 ds))
  fr : Fr w wr No
  own : ∀ b, v.ownBlock = some b → w.heap.size ≤ b

set_option maxRecDepth 100000 in
set_option maxHeartbeats 2000000 in
theorem refNew_len (v : Value) (ds : List Int) (w : World) (hv : RdI w v ds) (hb : ds.length < 1 ∨ 32 < ds.length) :
    Calls Try.prog 37 #[v] w fun e w' => e = .returned (.tuple #[.agg #[.slice none 0 0], .int .i64 1]) ∧ Fr w w' No := by
  obtain ⟨a, c, rfl, _⟩ := hv.open_
  have hcase : (ds.length : Int) < 1 ∨ (¬ (ds.length : Int) < 1 ∧ (32 : Int) < (ds.length : Int)) := by omega
  obtain ⟨q0, q1, hq, hqs⟩ := two_blk w (.cells #[.slice none 0 0] 74) (.cells #[.slice none 0 0] 74)
  have HQ := Lib.hid hq
  have k0 := blk_cell q0 0
  have k1 := blk_cell q1 0
  have z0 := blk_frozen q0 0
  have s0 := set_at q0 0 (by decide) (.slice none 0 0)
  have HF : Hid (Fr w (((w.alloc (.cells #[.slice none 0 0] 74)).alloc (.cells #[.slice none 0 0] 74)).setCell ⟨w.heap.size, 0, none⟩ (.slice none 0 0)) No) := Lib.hid (hq.to_new _ _ (Nat.le_refl _))
  simp only [List.getElem?_toArray, List.getElem?_cons_zero] at k0 k1
  clear hv hb q0 q1 hq
  rcases hcase with q | ⟨q, q'⟩
  all_goals
    go_enter Try.func37, Try.ntmps37
    go_upto_region 2 with (fail)
    generalize (w.alloc (.cells #[.slice none 0 0] 74)).alloc (.cells #[.slice none 0 0] 74) = w1 at *
    go_wp2
    refine bodyPost_ret (v := .tuple #[.agg #[.slice none 0 0], .int .i64 1]) (by simp [results, Try.results37, go_sem, s0]) rfl ⟨rfl, HF.out⟩

theorem MkD.init (w : World) : MkD w ((w.alloc (.cells #[.slice none 0 0] 74)).alloc (.cells #[.slice none 0 0] 74)) (.slice none 0 0) [] := by
  obtain ⟨q0, q1, hq, hqs⟩ := two_blk w (.cells #[.slice none 0 0] 74) (.cells #[.slice none 0 0] 74)
  exact ⟨q1, q0, Sl.nil _ _ _, hq, by simp [Value.ownBlock]⟩
theorem step_appD {w : World} {ops : Array Oper} {o : Oper} {a : Act} {K : Act → World → Prop} {Q : Exit → Act → World → Prop} {E : Prop} (hgd : o.guard = none) (s x : Operand)
    (ho : o.op = .call { callee := .builtin .append, args := #[s, x], argTypes := #[72, 72] })
    (v : Value) (n : Nat) (xs : List Value) (hev : a.eval s = v) (hs : Sl w 42 2 v n xs) (b : Nat) (y : Int) (hex : a.eval x = .slice (some ⟨b, 0, none⟩) 1 1) (hb : w.heap[b]? = some (.cells #[.int .i64 y, .slice none 0 0] 42 (0, 0)))
    (hl : n ≤ 10000000)
    (h : ∀ v' w', Sl w' 42 2 v' (n + 1) (xs ++ [.int .i64 y, .slice none 0 0]) → Fr w w' (fun g => v.ownBlock = some g) → (v'.ownBlock = v.ownBlock ∨ v'.ownBlock = some w.heap.size) → K (a.put o.dst v') w') :
    if Region.wanted o (yielded ops a.tmps) = true then Oper.wp Try.prog o a w K Q else E := by
  obtain ⟨i0, hi, hz0, hz1, hz2⟩ := info_parts info42
  exact step_app hgd s x 72 ho 42 i0 (.agg #[.int .i64 0, .slice none 0 0]) 2 32 Try.underlying72 hi hz0 hz1 hz2 rfl (by decide) v n _ hev hs _ 1 [.int .i64 y, .slice none 0 0] hex (Sl.made (k := 2) hb rfl (by decide)).rd (by simp [Value.oneCell']) (by unfold maxLen; omega) (by omega) h

/-- A rack, or the error. -/
def NewRef (w : World) (ds : List Int) (e : Ending) (w' : World) : Prop := (okDs ds ∧ RefS w (rack0 ds) (fun v' => .tuple #[.agg #[v'], .int .i64 0]) e w') ∨ (¬ okDs ds ∧ e = .returned (.tuple #[.agg #[.slice none 0 0], .int .i64 1]) ∧ Fr w w' No)

set_option maxRecDepth 100000 in
set_option maxHeartbeats 4000000 in
theorem refNew_any (v : Value) (ds : List Int) (w : World) (hv : RdI w v ds) (hb1 : 1 ≤ ds.length) (hb2 : ds.length ≤ 32) :
    Calls Try.prog 37 #[v] w fun e w' => NewRef w ds e w' := by
  obtain ⟨a, c, rfl, _⟩ := hv.open_
  have HV := Lib.hid hv
  have HB := Lib.hid (And.intro hb1 hb2)
  have q1 : ¬ (ds.length : Int) < 1 := by omega
  have q2 : ¬ (32 : Int) < (ds.length : Int) := by omega
  have HM0 := Lib.hid (MkD.init w)
  clear hv hb1 hb2
  go_enter Try.func37, Try.ntmps37
  go_upto_region 2 with (fail)
  generalize (w.alloc (.cells #[.slice none 0 0] 74)).alloc (.cells #[.slice none 0 0] 74) = w1 at *
  go_wp2_with fail
  go_loopg [18] ds.length (fun g v18 wr => ∃ (k : Nat) (v : Value), k + g = ds.length ∧ v18 = .int .i64 k ∧ (∀ d ∈ ds.take k, okD d) ∧ MkD w wr v (ds.take k))
  case atStart => exact ⟨0, _, by omega, rfl, by simp, HM0.out⟩
  case round =>
    obtain ⟨k, v, hk, rfl, hok, hM⟩ := hrel
    have HK := Lib.hid hk
    have HM := Lib.hid hM
    have HOK := Lib.hid hok
    clear hk hM hok HM0
    by_cases hlt : k < ds.length
    · obtain ⟨b, off, ha, h3⟩ := (HV.out.keep0 HM.out.fr).get k hlt
      subst ha
      obtain ⟨x, hx⟩ : ∃ x, ds.getD k 0 = x := ⟨_, rfl⟩
      rw [hx] at h3
      have hk1 : (k : Int) < (ds.length : Int) := by omega
      have hk0 : (0 : Int) ≤ (k : Int) := by omega
      have HLT := Lib.hid hlt
      have htk : ds.take (k + 1) = ds.take k ++ [x] := by rw [List.take_succ_eq_append_getElem hlt, ← hx]; simp [List.getD, List.getElem?_eq_getElem hlt]
      have HTK := Lib.hid htk
      have hmem : x ∈ ds := by rw [← hx]; simp [List.getD, List.getElem?_eq_getElem hlt]
      have HMEM := Lib.hid hmem
      clear hx htk hmem
      by_cases hxo : okD x
      · have hxo1 : ¬ x < 1 := by unfold okD at hxo; omega
        have hxo2 : ¬ 8 < x := by unfold okD at hxo; omega
        obtain ⟨av, cv, rfl⟩ := Sl.form1 HM.out.row
        have hD := D0_len (ds.take k)
        have hDl : (D0 (ds.take k)).length ≤ 10000000 := by rw [hD, List.length_take]; omega
        have hrc : wr.cell? ⟨w.heap.size + 1, 0, none⟩ = some (.slice av (D0 (ds.take k)).length cv) := blk_cell HM.out.rb 0
        have hrf : wr.frozen? ⟨w.heap.size + 1, 0, none⟩ = false := blk_frozen HM.out.rb 0
        have hrs : w.heap.size + 1 < wr.heap.size := blk_lt HM.out.rb
        have hbs : b < wr.heap.size := World.block_lt_of_cell? _ _ h3
        clear hD hlt
        go_upto_region 9 with (fail)
        have HB6 := Lib.hid ((Fr.drew wr No).nn (Fr.alloc wr.drew (.cells #[.int .i64 x, .slice none 0 0] 42) No))
        have HNE := Lib.hid (Sl.ne HM.out.row HM.out.rb (by decide))
        go_region_law (first | (refine step_appD (by rfl) _ _ (by rfl) (.slice av (D0 (ds.take k)).length cv) (D0 (ds.take k)).length (dC (D0 (ds.take k))) (by rfl) (Sl.keep0 HM.out.row HB6.out) wr.heap.size x (by rfl) (blk_new wr.drew _) hDl ?_; intro v6 w6 hs1 hf1 ho1; obtain ⟨a6, c6, hv6⟩ := Sl.form1 hs1; subst hv6; have hr6 := hf1.blk (HB6.out.blk HM.out.rb id) (fun e => HNE.out e); have hc6 : w6.cell? ⟨w.heap.size + 1, 0, none⟩ = some (.slice av (D0 (ds.take k)).length cv) := blk_cell hr6 0; have hz6 : w6.frozen? ⟨w.heap.size + 1, 0, none⟩ = false := blk_frozen hr6 0))
        all_goals
          have hN6 : MkD w (w6.setCell ⟨w.heap.size + 1, 0, none⟩ (.slice a6 ((D0 (ds.take k)).length + 1) c6)) (.slice a6 ((D0 (ds.take k)).length + 1) c6) (ds.take (k + 1)) := by
            have hFs := Fr.setCell w6 ⟨w.heap.size + 1, 0, none⟩ (.slice a6 ((D0 (ds.take k)).length + 1) c6)
            have hob := hf1.blk (HB6.out.blk HM.out.ob id) (fun e => Sl.ne HM.out.row HM.out.ob (by decide) e)
            have hne6 := Sl.ne hs1 hr6 (by decide)
            have hxx : (x.toNat : Int) = x := by unfold okD at hxo; omega
            refine ⟨by rw [blk_set hr6]; rfl, hFs.blk hob (fun e => by have : w.heap.size = w.heap.size + 1 := e; omega), ?_, ((HM.out.fr.nn HB6.out).into hf1 HM.out.own).in1 hFs (by simp), fun b hb => ?_⟩
            · have h := hs1.keep hFs (fun i hi e => hne6 (by rw [hi, show i = w.heap.size + 1 from e]))
              rw [HTK.out, D0_snoc, dC_append, List.length_append]
              have e2 : dC [((.slice none 0 0, (x.toNat, [])) : Dl)] = [.int .i64 x, .slice none 0 0] := by simp [dC, hxx]
              rw [e2]
              exact h
            · rcases ho1 with e | e
              · exact HM.out.own b (e ▸ hb)
              · rw [hb] at e
                have h1 := HM.out.fr.size
                have : b = wr.heap.size + 1 := by simpa using e
                omega
          have HN6 := Lib.hid hN6
          clear hN6 hs1 hf1 ho1 hr6 hc6 hz6 hrc hrf hrs hbs h3
          go_wp2_with fail
          go_roundg (gk - 1)
          case measure => have := HK.out; have := HLT.out; omega
          case rel =>
            refine ⟨k + 1, _, by have := HK.out; have := HLT.out; omega, by go_num, ?_, HN6.out⟩
            rw [HTK.out]
            intro y hy
            rcases List.mem_append.1 hy with hy | hy
            · exact HOK.out y hy
            · rw [List.mem_singleton.1 hy]; exact hxo
      · have hno : ¬ okDs ds := fun h => hxo (h.2.2 x HMEM.out)
        have HNO := Lib.hid hno
        have hcase : x < 1 ∨ (¬ x < 1 ∧ 8 < x) := by unfold okD at hxo; omega
        have ko : wr.cell? ⟨w.heap.size, 0, none⟩ = some (.slice none 0 0) := blk_cell HM.out.ob 0
        have zo : wr.frozen? ⟨w.heap.size, 0, none⟩ = false := blk_frozen HM.out.ob 0
        have s0 := set_at HM.out.ob 0 (by decide) (.slice none 0 0)
        have HF : Hid (Fr w (wr.setCell ⟨w.heap.size, 0, none⟩ (.slice none 0 0)) No) := Lib.hid (HM.out.fr.to_new _ _ (Nat.le_refl _))
        clear hxo hno hlt
        rcases hcase with q3 | ⟨q3, q4⟩
        all_goals
          go_wp2
          refine bodyPost_ret (v := .tuple #[.agg #[.slice none 0 0], .int .i64 1]) (by simp [results, Try.results37, go_sem, s0]) rfl (.inr ⟨HNO.out, rfl, HF.out⟩)
    · have htk : ds.take k = ds := List.take_of_length_le (by omega)
      rw [htk] at HM HOK
      have hk1 : ¬ (k : Int) < (ds.length : Int) := by omega
      have hOK : okDs ds := ⟨HB.out.1, HB.out.2, HOK.out⟩
      obtain ⟨av, cv, rfl⟩ := Sl.form1 HM.out.row
      have hrc : wr.cell? ⟨w.heap.size + 1, 0, none⟩ = some (.slice av (D0 ds).length cv) := blk_cell HM.out.rb 0
      have ko : wr.cell? ⟨w.heap.size, 0, none⟩ = some (.slice none 0 0) := blk_cell HM.out.ob 0
      have zo : wr.frozen? ⟨w.heap.size, 0, none⟩ = false := blk_frozen HM.out.ob 0
      have s0 := set_at HM.out.ob 0 (by decide) (.slice av (D0 ds).length cv)
      have hne := Sl.ne HM.out.row HM.out.ob (by decide)
      have HDO : Hid (DocAt (wr.setCell ⟨w.heap.size, 0, none⟩ (.slice av (D0 ds).length cv)) (.slice av (D0 ds).length cv) (rack0 ds)) := Lib.hid
        ⟨D0 ds, D0_rack ds, D0_doc (HM.out.row.keep (Fr.setCell _ _ _) (fun i hi e => hne (by rw [hi, show i = w.heap.size from e])))⟩
      have HF : Hid (Fr w (wr.setCell ⟨w.heap.size, 0, none⟩ (.slice av (D0 ds).length cv)) No) := Lib.hid (HM.out.fr.to_new _ _ (Nat.le_refl _))
      clear htk hlt hne
      go_wp2
      refine bodyPost_ret (v := .tuple #[.agg #[.slice av (D0 ds).length cv], .int .i64 0]) (by simp [results, Try.results37, go_sem, s0]) rfl (.inl ⟨hOK, _, rfl, HDO.out, HF.out⟩)

theorem refNew_ok (v : Value) (ds : List Int) (w : World) (hv : RdI w v ds) (h : okDs ds) :
    Calls Try.prog 37 #[v] w fun e w' => RefS w (rack0 ds) (fun v' => .tuple #[.agg #[v'], .int .i64 0]) e w' :=
  (refNew_any v ds w hv h.1 h.2.1).mono (by
    rintro e w' (⟨_, h⟩ | ⟨h', _⟩)
    · exact h
    · exact absurd h h')
theorem refNew_bad (v : Value) (ds : List Int) (w : World) (hv : RdI w v ds) (h : ¬ okDs ds) :
    Calls Try.prog 37 #[v] w fun e w' => e = .returned (.tuple #[.agg #[.slice none 0 0], .int .i64 1]) ∧ Fr w w' No := by
  by_cases hl : ds.length < 1 ∨ 32 < ds.length
  · exact refNew_len v ds w hv hl
  · exact (refNew_any v ds w hv (by omega) (by omega)).mono (by
      rintro e w' (⟨h', _⟩ | ⟨_, h2⟩)
      · exact absurd h' h
      · exact h2)
end Go.Proofs.Ytegoilhkooneaaa
