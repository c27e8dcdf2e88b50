import Derived.Test.YtegoilhkooneaaaSl
namespace Go.Proofs.Ytegoilhkooneaaa
open Go.RowKit
set_option linter.unusedVariables false
set_option linter.unusedSimpArgs false

/-- A lane's cells. -/
def laneCells (ts r : List Int) (d : Nat) : Array Value := ((ts ++ r).map (Value.int .i64) ++ [Value.int .i64 ts.length, Value.int .i64 d]).toArray
/-- A lane in block g: its totes, its depth. -/
def LaneAt (w : World) (g : Nat) (ts : List Int) (d : Nat) : Prop :=
  ts.length ≤ d ∧ 1 ≤ d ∧ d ≤ 8 ∧ ∃ r : List Int, ts.length + r.length = 8 ∧ w.heap[g]? = some (.cells (laneCells ts r d) 93 (0, 0))

theorem lc_row (ts r : List Int) (d j : Nat) (h : ts.length + r.length = 8) (hj : j < 8) : (laneCells ts r d)[j]? = some (.int .i64 ((ts ++ r).getD j 0)) := by
  have : j < (ts ++ r).length := by simp; omega
  simp only [laneCells, List.getElem?_toArray]
  rw [List.getElem?_append_left (by simpa using this), List.getElem?_map, List.getElem?_eq_getElem this]
  simp [List.getD, List.getElem?_eq_getElem this]
theorem lc_count (ts r : List Int) (d : Nat) (h : ts.length + r.length = 8) : (laneCells ts r d)[8]? = some (.int .i64 ts.length) := by
  have e : ((ts ++ r).map (Value.int .i64)).length = 8 := by simp; omega
  simp only [laneCells, List.getElem?_toArray]
  rw [List.getElem?_append_right (by omega), e]; rfl
theorem lc_depth (ts r : List Int) (d : Nat) (h : ts.length + r.length = 8) : (laneCells ts r d)[9]? = some (.int .i64 d) := by
  have e : ((ts ++ r).map (Value.int .i64)).length = 8 := by simp; omega
  simp only [laneCells, List.getElem?_toArray]
  rw [List.getElem?_append_right (by omega), e]; rfl
theorem LaneAt.lt {w : World} {g : Nat} {ts : List Int} {d : Nat} (h : LaneAt w g ts d) : g < w.heap.size := by
  obtain ⟨_, _, _, r, _, hb⟩ := h; exact blk_lt hb
theorem LaneAt.keep {w w' : World} {S : Nat → Prop} {g : Nat} {ts : List Int} {d : Nat} (h : LaneAt w g ts d) (hf : Fr w w' S) (hS : ¬ S g) : LaneAt w' g ts d := by
  obtain ⟨h1, h2, h3, r, h4, hb⟩ := h; exact ⟨h1, h2, h3, r, h4, hf.blk hb hS⟩
theorem LaneAt.count {w : World} {g : Nat} {ts : List Int} {d : Nat} (h : LaneAt w g ts d) : w.cell? ⟨g, 8, none⟩ = some (.int .i64 ts.length) := by
  obtain ⟨_, _, _, r, h4, hb⟩ := h; rw [blk_cell hb]; exact lc_count ts r d h4
theorem LaneAt.depth {w : World} {g : Nat} {ts : List Int} {d : Nat} (h : LaneAt w g ts d) : w.cell? ⟨g, 9, none⟩ = some (.int .i64 d) := by
  obtain ⟨_, _, _, r, h4, hb⟩ := h; rw [blk_cell hb]; exact lc_depth ts r d h4
theorem LaneAt.tote {w : World} {g : Nat} {ts : List Int} {d : Nat} (h : LaneAt w g ts d) (j : Nat) (hj : j < ts.length) : w.cell? ⟨g, j, none⟩ = some (.int .i64 (ts.getD j 0)) := by
  obtain ⟨h1, h2, h3, r, h4, hb⟩ := h
  rw [blk_cell hb, lc_row ts r d j h4 (by omega)]
  simp [List.getD, List.getElem?_append_left hj]
theorem LaneAt.spare {w : World} {g : Nat} {ts : List Int} {d : Nat} (h : LaneAt w g ts d) (j : Nat) (hj : j < 8) : ∃ x : Int, w.cell? ⟨g, j, none⟩ = some (.int .i64 x) := by
  obtain ⟨h1, h2, h3, r, h4, hb⟩ := h
  exact ⟨_, by rw [blk_cell hb]; exact lc_row ts r d j h4 hj⟩
theorem LaneAt.frozen {w : World} {g : Nat} {ts : List Int} {d : Nat} (h : LaneAt w g ts d) (j : Nat) : w.frozen? ⟨g, j, none⟩ = false := by
  obtain ⟨_, _, _, r, h4, hb⟩ := h; exact blk_frozen hb j
theorem LaneAt.ne {w : World} {g : Nat} {ts : List Int} {d : Nat} (h : LaneAt w g ts d) {v : Value} {zs : List Int} (hs : SlI w v zs) : v.ownBlock ≠ some g := by
  obtain ⟨_, _, _, r, _, hb⟩ := h; exact Sl.ne hs hb (by decide)
/-- A slice of the call's own stays when the lane is written. -/
theorem LaneAt.new {a w w' : World} {g : Nat} {ts : List Int} {d : Nat} (h : LaneAt w g ts d) {v : Value} {zs : List Int} (hs : NewI a w v zs) (hf : Fr w w' (One g)) (hg : a.heap.size ≤ g) : NewI a w' v zs :=
  hs.keep hf (fun k hk e => h.ne hs.1 (by rw [hk, show k = g from e])) (fun k e => by rw [show k = g from e]; exact hg)
/-- A part of the row, as a slice. -/
theorem LaneAt.rd {w : World} {g : Nat} {ts : List Int} {d : Nat} (h : LaneAt w g ts d) (i c : Nat) : RdI w (.slice (some ⟨g, i, none⟩) (ts.length - i) c) (ts.drop i) := by
  have h8 : ts.length ≤ 8 := by obtain ⟨h1, h2, h3, _⟩ := h; omega
  refine ⟨⟨by simp, some ⟨g, i, none⟩, c, by simp, (fun h => nomatch h), fun _ => ⟨g, i, rfl, fun j u hu => ?_⟩⟩, by simp; omega⟩
  rw [List.getElem?_map, List.getElem?_drop] at hu
  obtain ⟨x, hx, rfl⟩ := Option.map_eq_some_iff.1 hu
  have hlt := (List.getElem?_eq_some_iff.1 hx).1
  have := h.tote (i + j) hlt
  simpa [List.getD, hx] using this

theorem laneCells_push (ts r : List Int) (x t : Int) (d : Nat) (h : ts.length + (x :: r).length = 8) :
    ((laneCells ts (x :: r) d).setIfInBounds ts.length (.int .i64 t)).setIfInBounds 8 (.int .i64 (ts.length + 1 : Nat)) = laneCells (ts ++ [t]) r d := by
  simp only [List.length_cons] at h
  apply Array.ext'
  simp only [laneCells, Array.toList_setIfInBounds]
  have e : (List.map (Value.int .i64) (ts ++ x :: r)).length = 8 := by simp; omega
  rw [List.set_append_left _ _ (by simp), List.set_append_right _ _ (by simp; omega)]
  simp [List.set_append_right, show 8 - (ts.length + (r.length + 1)) = 0 by omega]
theorem laneCells_pop (ts r : List Int) (x : Int) (d : Nat) (h : (ts ++ [x]).length + r.length = 8) :
    (laneCells (ts ++ [x]) r d).setIfInBounds 8 (.int .i64 ts.length) = laneCells ts (x :: r) d := by
  simp only [List.length_append, List.length_singleton] at h
  apply Array.ext'
  simp only [laneCells, Array.toList_setIfInBounds]
  have e : (List.map (Value.int .i64) (ts ++ [x] ++ r)).length = 8 := by simp; omega
  rw [List.set_append_right _ _ (by simp; omega), e]
  simp

theorem size3 (w : World) : (sizeOf 3).run Try.prog w = .ok 1 w := by kernel_rfl
theorem arr91 : Try.prog.arrayLen 91 = 8 := by kernel_rfl
theorem elem91 : Try.prog.elem 91 = 3 := by kernel_rfl
theorem sl8_h (w : World) (g n : Nat) (h : n ≤ 8) : (Instr.sliceAt 91 (.pointer (some ⟨g, 0, none⟩)) none (some (.int .i64 (n : Int))) none).run Try.prog w = .ok (.slice (some ⟨g, 0, none⟩) n 8) w := by
  have h1 := run_sliceAt_array_h (P := Try.prog) w 91 ⟨g, 0, none⟩ (by rw [arr91, elem91]; exact Try.underlying91) .i64 (n : Int) (by omega) (by rw [arr91]; omega)
  rw [arr91, elem91, size3] at h1
  rw [h1]
  simp [Result.andThen, slicedAt]
  unfold Addr.add; rfl
theorem sl8_lh (w : World) (g l n : Nat) (hl : l ≤ n) (h : n ≤ 8) : (Instr.sliceAt 91 (.pointer (some ⟨g, 0, none⟩)) (some (.int .i64 (l : Int))) (some (.int .i64 (n : Int))) none).run Try.prog w = .ok (.slice (some ⟨g, if 8 = l then 0 else l, none⟩) (n - l) (8 - l)) w := by
  have h1 := run_sliceAt_array_lh (P := Try.prog) w 91 ⟨g, 0, none⟩ (by rw [arr91, elem91]; exact Try.underlying91) .i64 .i64 (l : Int) (n : Int) (by omega) (by omega) (by rw [arr91]; omega)
  rw [arr91, elem91, size3] at h1
  rw [h1]
  simp [Result.andThen, slicedAt]
  split <;> simp [Addr.add_lit]

theorem LaneAt.push {w : World} {g : Nat} {ts : List Int} {d : Nat} (h : LaneAt w g ts d) (hlt : ts.length < d) (t : Int) :
    LaneAt ((w.setCell ⟨g, ts.length, none⟩ (.int .i64 t)).setCell ⟨g, 8, none⟩ (.int .i64 ((ts.length : Int) + 1))) g (ts ++ [t]) d := by
  obtain ⟨h1, h2, h3, r, h4, hb⟩ := h
  cases r with
  | nil => simp at h4; omega
  | cons x r =>
    refine ⟨by simp; omega, h2, h3, r, by simp at h4 ⊢; omega, ?_⟩
    have := blk_set (blk_set hb ts.length (.int .i64 t)) 8 (.int .i64 ((ts.length : Int) + 1))
    rw [this]
    have e := laneCells_push ts r x t d h4
    rw [show ((ts.length : Int) + 1) = ((ts.length + 1 : Nat) : Int) by omega, e]
theorem LaneAt.pop {w : World} {g : Nat} {ts : List Int} {x : Int} {d : Nat} (h : LaneAt w g (ts ++ [x]) d) (n : Int) (hn : n = ts.length) :
    LaneAt (w.setCell ⟨g, 8, none⟩ (.int .i64 n)) g ts d := by
  subst hn
  obtain ⟨h1, h2, h3, r, h4, hb⟩ := h
  refine ⟨by simp at h1; omega, h2, h3, x :: r, by simp at h4 ⊢; omega, ?_⟩
  rw [blk_set hb 8 (.int .i64 ts.length), laneCells_pop ts r x d h4]
theorem LaneAt.drewN {w : World} {g : Nat} {ts : List Int} {d : Nat} (h : LaneAt w g ts d) (n : Nat) : LaneAt (w.drewN n) g ts d := h.keep (Fr.drewN w n No) (fun h => h)
theorem LaneAt.drew {w : World} {g : Nat} {ts : List Int} {d : Nat} (h : LaneAt w g ts d) : LaneAt w.drew g ts d := h.keep (Fr.drew w No) (fun h => h)

/-! ### find -/
set_option maxHeartbeats 400000 in
theorem find_any (g : Nat) (ts : List Int) (d : Nat) (t : Int) (w : World) (hL : LaneAt w g ts d) :
    Calls Try.prog 43 #[.pointer (some ⟨g, 0, none⟩), .int .i64 t] w fun e w' => e = .returned (.int .i64 (idx t ts)) ∧ ∃ n, w.drewN n = w' := by
  have hc := hL.count
  have hn8 : ts.length ≤ 8 := by obtain ⟨h1, h2, h3, _⟩ := hL; omega
  have HR := Lib.hid (hL.rd 0 8)
  have hs8 := fun w => sl8_h w g ts.length hn8
  go_enter Try.func43, Try.ntmps43
  go_wp2_with fail
  go_quiet ((go_at_call 55; exact Calls.quiet_of_same ((index_any _ ts t _ (HR.out.drewN _)).mono fun e w' h => ⟨h.1, h.2.symm⟩)))
  go_wp2
  go_ret
  exact ⟨rfl, nq, rfl⟩

theorem find_at (g : Nat) (ts : List Int) (d : Nat) (t i : Int) (w : World) (hL : LaneAt w g ts d) (hi : idx t ts = i) :
    Calls Try.prog 43 #[.pointer (some ⟨g, 0, none⟩), .int .i64 t] w fun e w' => e = .returned (.int .i64 i) ∧ ∃ n, w.drewN n = w' := by
  subst hi; exact find_any g ts d t w hL

/-! ### New -/
set_option maxHeartbeats 400000 in
theorem new_bad (d : Int) (w : World) (hd : d < 1 ∨ 8 < d) :
    Calls Try.prog 15 #[.int .i64 d] w fun e w' => e = .returned (.tuple #[.pointer none, .int .i64 1]) ∧ w = w' := by
  by_cases h : d < 1
  · go_enter Try.func15, Try.ntmps15
    go_wp2
    go_ret2
    exact ⟨rfl, rfl⟩
  · have h' : 8 < d := by omega
    go_enter Try.func15, Try.ntmps15
    go_wp2
    go_ret2
    exact ⟨rfl, rfl⟩

set_option maxHeartbeats 400000 in
theorem new_ok (d : Nat) (w : World) (h1 : 1 ≤ d) (h8 : d ≤ 8) :
    Calls Try.prog 15 #[.int .i64 d] w fun e w' => e = .returned (.tuple #[.pointer (some ⟨w.heap.size, 0, none⟩), .int .i64 0]) ∧ LaneAt w' w.heap.size [] d ∧ Fr w w' No := by
  have a1 : ¬ (d : Int) < 1 := by omega
  have a2 : ¬ (8 : Int) < (d : Int) := by omega
  go_enter Try.func15, Try.ntmps15
  go_wp2
  go_ret2
  refine ⟨rfl, ⟨by simp, h1, h8, [0, 0, 0, 0, 0, 0, 0, 0], rfl, blk_new _ _⟩, Fr.alloc _ _ _⟩

/-! ### Room, Totes -/
set_option maxHeartbeats 400000 in
theorem room_any (g : Nat) (ts : List Int) (d : Nat) (w : World) (hL : LaneAt w g ts d) :
    Calls Try.prog 18 #[.pointer (some ⟨g, 0, none⟩)] w fun e w' => e = .returned (.int .i64 ((d : Int) - ts.length)) ∧ ∃ n, w.drewN n = w' := by
  have hc := hL.count
  have hd := hL.depth
  have h1 : ts.length ≤ d := hL.1
  have h2 : d ≤ 8 := hL.2.2.1
  go_enter Try.func18, Try.ntmps18
  go_wp2
  go_quiet (fail)
  go_wp2
  go_ret
  exact ⟨rfl, nq, rfl⟩

set_option maxHeartbeats 400000 in
theorem totes_any (g : Nat) (ts : List Int) (d : Nat) (w : World) (hL : LaneAt w g ts d) :
    Calls Try.prog 19 #[.pointer (some ⟨g, 0, none⟩)] w fun e w' => ∃ v, e = .returned v ∧ NewI w w' v ts := by
  have hc := hL.count
  have hn8 : ts.length ≤ 8 := by obtain ⟨h1, h2, h3, _⟩ := hL; omega
  have HR := Lib.hid (hL.rd 0 8)
  have hs8 := fun w => sl8_h w g ts.length hn8
  go_enter Try.func19, Try.ntmps19
  go_wp2_with fail
  go_region_with (go_at_call 44; refine (clone_any _ ts _ (HR.out.keep0 (Fr.drew _ _))).mono ?_; rintro e w' ⟨v, rfl, hN⟩)
  go_wp2
  go_ret
  exact ⟨v, rfl, hN.from (Fr.drew _ _)⟩

/-! ### Push -/
/-- What Push answers. -/
def pushE (d : Nat) (ts : List Int) (t : Int) : Int := if t < 1 ∨ 30 < t then 1 else if 0 ≤ idx t ts then 2 else if ts.length = d then 5 else 0
/-- The totes behind a Push. -/
def pushT (d : Nat) (ts : List Int) (t : Int) : List Int := if pushE d ts t = 0 then ts ++ [t] else ts

set_option maxHeartbeats 400000 in
theorem push_any (g : Nat) (ts : List Int) (d : Nat) (t : Int) (w : World) (hL : LaneAt w g ts d) :
    Calls Try.prog 16 #[.pointer (some ⟨g, 0, none⟩), .int .i64 t] w fun e w' => e = .returned (.int .i64 (pushE d ts t)) ∧ LaneAt w' g (pushT d ts t) d ∧ Fr w w' (One g) := by
  have hc := hL.count
  have hd := hL.depth
  have h1 : ts.length ≤ d := hL.1
  have h2 : d ≤ 8 := hL.2.2.1
  have HL := Lib.hid hL
  have hi := idx_ge t ts
  by_cases c1 : t < 1
  · have e1 : pushE d ts t = 1 := by unfold pushE; rw [if_pos (.inl c1)]
    have e2 : pushT d ts t = ts := by unfold pushT; rw [e1]; rfl
    rw [e1, e2]
    clear e1 e2 hc hd hi hL
    go_enter Try.func16, Try.ntmps16
    go_wp2
    go_ret
    exact ⟨rfl, HL.out, Fr.refl _ _⟩
  by_cases c2 : 30 < t
  · have e1 : pushE d ts t = 1 := by unfold pushE; rw [if_pos (.inr c2)]
    have e2 : pushT d ts t = ts := by unfold pushT; rw [e1]; rfl
    rw [e1, e2]
    clear e1 e2 hc hd hi hL
    go_enter Try.func16, Try.ntmps16
    go_wp2
    go_ret
    exact ⟨rfl, HL.out, Fr.refl _ _⟩
  by_cases c3 : 0 ≤ idx t ts
  · have e1 : pushE d ts t = 2 := by unfold pushE; rw [if_neg (by omega), if_pos c3]
    have e2 : pushT d ts t = ts := by unfold pushT; rw [e1]; rfl
    rw [e1, e2]
    clear e1 e2 hc hd hi hL
    go_enter Try.func16, Try.ntmps16
    go_wp2_with (go_at_call 43; refine (find_any g ts d t _ HL.out).mono ?_; rintro e w' ⟨rfl, n, rfl⟩)
    go_ret
    exact ⟨rfl, HL.out.keep (Fr.drewN w n No) (fun h => h), Fr.drewN _ _ _⟩
  by_cases c4 : ts.length = d
  · have e1 : pushE d ts t = 5 := by unfold pushE; rw [if_neg (by omega), if_neg c3, if_pos c4]
    have e2 : pushT d ts t = ts := by unfold pushT; rw [e1]; rfl
    rw [e1, e2]
    have hb : ((ts.length : Int) == (d : Int)) = true := by simp [c4]
    have c4' := Lib.hid c4
    clear e1 e2 hi hL c4
    go_enter Try.func16, Try.ntmps16
    go_wp2_with (go_at_call 43; refine (find_any g ts d t _ HL.out).mono ?_; rintro e w' ⟨rfl, n, rfl⟩)
    go_quiet (fail)
    go_wp2
    go_ret
    exact ⟨rfl, (HL.out.keep (Fr.drewN w n No) (fun h => h)).keep (Fr.drewN _ nq No) (fun h => h), (Fr.drewN w n _).rr (Fr.drewN _ _ _)⟩
  · have e1 : pushE d ts t = 0 := by unfold pushE; rw [if_neg (by omega), if_neg c3, if_neg c4]
    have e2 : pushT d ts t = ts ++ [t] := by unfold pushT; rw [e1]; rfl
    rw [e1, e2]
    have hb : ((ts.length : Int) == (d : Int)) = false := by simp; omega
    have c4' := Lib.hid c4
    clear e1 e2 hi hL c4
    go_enter Try.func16, Try.ntmps16
    go_wp2_with (go_at_call 43; refine (find_any g ts d t _ HL.out).mono ?_; rintro e w' ⟨rfl, n, rfl⟩)
    go_quiet (fail)
    have hltd : ts.length < d := by have := c4'.out; omega
    have hlt : ts.length < 8 := by omega
    have hne : ¬ ts.length = 8 := by omega
    have hne' : ¬ 8 = ts.length := by omega
    obtain ⟨x, hx⟩ := HL.out.spare ts.length hlt
    have hfz := HL.out.frozen ts.length
    have hf8 := HL.out.frozen 8
    have hs8 := arr91
    go_wp2
    go_region
    go_wp2
    go_ret
    exact ⟨rfl, (HL.out.drewN _).push hltd t, ((Fr.drewN w _ (One g)).to_one _ _).to_one _ _⟩

/-! ### Pop -/
set_option maxHeartbeats 400000 in
theorem pop_none (g : Nat) (d : Nat) (w : World) (hL : LaneAt w g [] d) :
    Calls Try.prog 17 #[.pointer (some ⟨g, 0, none⟩)] w fun e w' => e = .returned (.tuple #[.int .i64 0, .int .i64 4]) ∧ w = w' := by
  have hc := hL.count
  simp only [List.length_nil] at hc
  go_enter Try.func17, Try.ntmps17
  go_wp2
  go_ret2
  exact ⟨rfl, rfl⟩

set_option maxHeartbeats 400000 in
theorem pop_some (g : Nat) (ts : List Int) (x : Int) (d : Nat) (w : World) (hL : LaneAt w g (ts ++ [x]) d) :
    Calls Try.prog 17 #[.pointer (some ⟨g, 0, none⟩)] w fun e w' => e = .returned (.tuple #[.int .i64 x, .int .i64 0]) ∧ LaneAt w' g ts d ∧ Fr w w' (One g) := by
  have hc : w.cell? ⟨g, 8, none⟩ = some (.int .i64 ((ts.length : Int) + 1)) := by have := hL.count; simpa using this
  have hx : w.cell? ⟨g, ts.length, none⟩ = some (.int .i64 x) := by have := hL.tote ts.length (by simp); simpa using this
  have h8 : ts.length < 8 := by obtain ⟨h1, h2, h3, _⟩ := hL; simp at h1; omega
  have hne : ¬ ts.length = 8 := by omega
  have hne' : ¬ 8 = ts.length := by omega
  have hf8 := hL.frozen 8
  have hal := arr91
  have h0 : ((ts.length : Int) + 1 == 0) = false := by simp; omega
  have HL := Lib.hid hL
  clear hL
  go_enter Try.func17, Try.ntmps17
  go_wp2
  go_quiet (fail)
  go_wp2
  go_ret2
  exact ⟨rfl, (HL.out.pop _ (by simp)).drewN nq, ((Fr.refl w (One g)).to_one _ _).to_drewN nq⟩

/-! ### Take -/
def takeE (ts : List Int) (t : Int) : Int := if idx t ts < 0 then 160 else if idx t ts < (ts.length : Int) - 1 then 110 else 0
def takeT (ts : List Int) (t : Int) : List Int := if takeE ts t = 0 then ts.dropLast else ts

set_option maxHeartbeats 400000 in
theorem take_any (g : Nat) (ts : List Int) (d : Nat) (t : Int) (w : World) (hL : LaneAt w g ts d) :
    Calls Try.prog 22 #[.pointer (some ⟨g, 0, none⟩), .int .i64 t] w fun e w' => e = .returned (.int .i64 (takeE ts t)) ∧ LaneAt w' g (takeT ts t) d ∧ Fr w w' (One g) := by
  have hi := idx_ge t ts
  have hi' := idx_lt t ts
  have h8 : ts.length ≤ 8 := by obtain ⟨h1, h2, h3, _⟩ := hL; omega
  have HL := Lib.hid hL
  by_cases c1 : idx t ts < 0
  · have e1 : takeE ts t = 160 := by unfold takeE; rw [if_pos c1]
    have e2 : takeT ts t = ts := by unfold takeT; rw [e1]; rfl
    rw [e1, e2]
    clear e1 e2 hL
    go_enter Try.func22, Try.ntmps22
    go_wp2_with (go_at_call 43; refine (find_any g ts d t _ HL.out).mono ?_; rintro e w' ⟨rfl, n, rfl⟩)
    go_ret
    exact ⟨rfl, HL.out.drewN n, Fr.drewN _ _ _⟩
  have hc := hL.count
  by_cases c2 : idx t ts < (ts.length : Int) - 1
  · have e1 : takeE ts t = 110 := by unfold takeE; rw [if_neg c1, if_pos c2]
    have e2 : takeT ts t = ts := by unfold takeT; rw [e1]; rfl
    rw [e1, e2]
    clear e1 e2 hL
    go_enter Try.func22, Try.ntmps22
    go_wp2_with (go_at_call 43; refine (find_any g ts d t _ HL.out).mono ?_; rintro e w' ⟨rfl, n, rfl⟩)
    go_ret
    exact ⟨rfl, HL.out.drewN n, Fr.drewN _ _ _⟩
  · have e1 : takeE ts t = 0 := by unfold takeE; rw [if_neg c1, if_neg c2]
    have e2 : takeT ts t = ts.dropLast := by unfold takeT; rw [e1]; rfl
    rw [e1, e2]
    have hlen : 0 < ts.length := by omega
    obtain ⟨ts', x, rfl⟩ : ∃ ts' x, ts = ts' ++ [x] := ⟨ts.dropLast, ts.getLast (by intro e; simp [e] at hlen), (List.dropLast_concat_getLast _).symm⟩
    rw [List.dropLast_concat]
    have hf8 := hL.frozen 8
    have h8' : ts'.length < 8 := by simp at h8; omega
    have c2' : ¬ idx t (ts' ++ [x]) < (ts'.length : Int) := by simp at c2; omega
    have hc : w.cell? ⟨g, 8, none⟩ = some (.int .i64 ((ts'.length : Int) + 1)) := by simpa using hc
    clear e1 e2 hL
    go_enter Try.func22, Try.ntmps22
    go_wp2_with (go_at_call 43; refine (find_any g (ts' ++ [x]) d t _ HL.out).mono ?_; rintro e w' ⟨rfl, n, rfl⟩)
    go_ret
    exact ⟨rfl, (HL.out.drewN n).pop _ (by simp), (Fr.drewN w n (One g)).to_one _ _⟩

/-! ### Reverse -/
theorem getD_set (xs : List Int) (i j : Nat) (x : Int) (hi : i < xs.length) : (xs.set i x).getD j 0 = if i = j then x else xs.getD j 0 := by
  simp only [List.getD, List.getElem?_set]
  split
  · subst_vars; simp [hi]
  · rfl
theorem SlI.set {w : World} {g off cap : Nat} {n : Nat} {zs : List Int} (hn : zs.length = n) (h : SlI w (.slice (some ⟨g, off, none⟩) n cap) zs) (i : Nat) (hi : i < n) (x : Int) :
    SlI (w.setCell ⟨g, off + i, none⟩ (.int .i64 x)) (.slice (some ⟨g, off, none⟩) n cap) (zs.set i x) := by
  subst hn
  have := Sl.set h i hi (.int .i64 x)
  unfold SlI
  rwa [List.map_set, List.length_set]
theorem SlI.at {w : World} {g off cap : Nat} {n : Nat} {zs : List Int} (hn : zs.length = n) (h : SlI w (.slice (some ⟨g, off, none⟩) n cap) zs) (i : Nat) (hi : i < n) :
    w.cell? ⟨g, off + i, none⟩ = some (.int .i64 (zs.getD i 0)) := by
  subst hn
  exact Sl.cell h i _ (by simp [List.getElem?_eq_getElem hi, List.getD])

/-- what Reverse has done in k rounds. -/
def Rev (zs ys : List Int) (k : Nat) : Prop := ys.length = zs.length ∧ ∀ j, j < zs.length → ys.getD j 0 = if j < k ∨ zs.length ≤ j + k then zs.getD (zs.length - 1 - j) 0 else zs.getD j 0
theorem Rev.step {zs ys : List Int} {k : Nat} (h : Rev zs ys k) (hk : 2 * k + 1 < zs.length) : Rev zs ((ys.set k (ys.getD (zs.length - 1 - k) 0)).set (zs.length - 1 - k) (ys.getD k 0)) (k + 1) := by
  obtain ⟨h1, h2⟩ := h
  refine ⟨by simp [h1], fun j hj => ?_⟩
  rw [getD_set _ _ _ _ (by simp; omega), getD_set _ _ _ _ (by omega), h2 k (by omega), h2 (zs.length - 1 - k) (by omega), h2 j hj]
  by_cases e1 : zs.length - 1 - k = j
  · rw [if_pos e1, if_neg (by omega), if_pos (by omega)]
    congr 1; omega
  · rw [if_neg e1]
    by_cases e2 : k = j
    · rw [if_pos e2, if_neg (by omega), if_pos (by omega)]
      congr 1; omega
    · rw [if_neg e2]
      by_cases e3 : j < k ∨ zs.length ≤ j + k
      · rw [if_pos e3, if_pos (by omega)]
      · rw [if_neg e3, if_neg (by omega)]
theorem Rev.done {zs ys : List Int} {k : Nat} (h : Rev zs ys k) (hk : zs.length ≤ 2 * k + 1) : ys = zs.reverse := by
  obtain ⟨h1, h2⟩ := h
  apply List.ext_getElem (by simpa using h1)
  intro j hj hj'
  have := h2 j (by omega)
  rw [List.getElem_reverse]
  simp only [List.getD, List.getElem?_eq_getElem hj, Option.getD_some] at this
  rw [this]
  have hj2 : j < zs.length := by omega
  split
  · rw [List.getElem?_eq_getElem (by omega)]; rfl
  · rw [List.getElem?_eq_getElem hj2, Option.getD_some]
    congr 1; omega

set_option maxHeartbeats 400000 in
theorem reverse_any (v : Value) (zs : List Int) (w : World) (hs : SlI w v zs) (hl : zs.length ≤ 17592186044415) :
    Calls Try.prog 46 #[v] w fun e w' => e = .returned (.tuple #[]) ∧ SlI w' v zs.reverse ∧ Fr w w' (fun g => v.ownBlock = some g) := by
  have HS := Lib.hid hs
  obtain ⟨hlen, ⟨rfl, h0⟩ | ⟨g, off, cap, cur, rfl, hg, hn, hc, hsz, ht⟩⟩ := hs
  · obtain rfl : zs = [] := List.eq_nil_of_length_eq_zero h0
    clear hlen h0
    go_enter Try.func46, Try.ntmps46
    go_wp2
    refine wp_loop_rounds 1 ?_
    rw [rounds_succ]
    go_wp2
    go_end0
    exact ⟨rfl, HS.out, Fr.refl _ _⟩
  · clear hlen hg hn hc hsz ht
    have HL := Lib.hid hl
    generalize hn : zs.length = n at *
    have HN := Lib.hid hn
    clear hn hl
    have hl : n ≤ 17592186044415 := HL.out
    go_enter Try.func46, Try.ntmps46
    go_wp2
    go_loopw [2, 3] (fun i j wr => ∃ (k : Nat) (ys : List Int), 2 * k ≤ n + 1 ∧ i = .int .i64 k ∧ j = .int .i64 ((n : Int) - 1 - k) ∧ Rev zs ys k ∧ SlI wr (.slice (some ⟨g, off, none⟩) n cap) ys ∧ Fr w wr (One g)) (fun i j _ => n - (intOf i).toNat)
    case atStart => exact ⟨0, zs, by omega, rfl, by simp, ⟨rfl, fun j hj => by rw [if_neg (by omega)]⟩, HS.out, Fr.refl _ _⟩
    case round =>
      obtain ⟨k, ys, hk, rfl, rfl, hr, hs, hf⟩ := hrel
      have HR := Lib.hid hr
      have HS := Lib.hid hs
      have HF := Lib.hid hf
      clear hr hs hf
      by_cases hlt : 2 * k + 1 < n
      · have a1 : (k : Int) < (n : Int) - 1 - k := by omega
        have e1 : ((n : Int) - 1 - k).toNat = n - 1 - k := by omega
        have HE := Lib.hid e1
        have hyl : ys.length = n := by rw [HR.out.1, HN.out]
        have c1 := SlI.at hyl HS.out k (by omega)
        have c2 := SlI.at hyl HS.out (n - 1 - k) (by omega)
        have f1 := Sl.frz HS.out (off + k)
        have f2 := Sl.frz HS.out (off + (n - 1 - k))
        clear hyl
        go_wp2
        go_region
        go_wp2
        go_roundw
        case rel => exact ⟨k + 1, _, by omega, by go_num, by rw [show (n : Int) - 1 - k - 1 = n - 1 - (k + 1 : Nat) by omega], HR.out.step (by rw [HN.out]; omega), by rw [HN.out]; exact SlI.set (by simp [HR.out.1, HN.out]) (SlI.set (by rw [HR.out.1, HN.out]) (HS.out.keep0 (Fr.drew _ _)) k (by omega) _) (n - 1 - k) (by omega) _, ((HF.out.to_drew).to_one _ _).to_one _ _⟩
        case measure => simp [intOf]; omega
      · have a1 : ¬ (k : Int) < (n : Int) - 1 - k := by omega
        go_wp2
        go_end0
        have e : ys = zs.reverse := HR.out.done (by rw [HN.out]; omega)
        subst e
        exact ⟨rfl, HS.out, HF.out.mono (fun i _ h => by simp [Value.ownBlock]; exact h.symm)⟩

/-! ### Ahead -/
set_option maxHeartbeats 400000 in
theorem ahead_none (g : Nat) (ts : List Int) (d : Nat) (t : Int) (w : World) (hL : LaneAt w g ts d) (hi : idx t ts < 0) :
    Calls Try.prog 26 #[.pointer (some ⟨g, 0, none⟩), .int .i64 t] w fun e w' => e = .returned (.tuple #[.slice none 0 0, .int .i64 160]) ∧ Fr w w' No := by
  have HL := Lib.hid hL
  clear hL
  go_enter Try.func26, Try.ntmps26
  go_wp2_with (go_at_call 43; refine (find_any g ts d t _ HL.out).mono ?_; rintro e w' ⟨rfl, n, rfl⟩)
  go_ret2
  exact ⟨rfl, Fr.drewN _ _ _⟩

end Go.Proofs.Ytegoilhkooneaaa
