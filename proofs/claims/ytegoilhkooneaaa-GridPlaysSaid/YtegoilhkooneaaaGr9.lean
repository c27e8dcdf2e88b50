/-
  Package grid: New.
-/
import Derived.Test.YtegoilhkooneaaaGr8
namespace Go.Proofs.Ytegoilhkooneaaa
open Go.RowKit Go.Sort
set_option linter.unusedVariables false
set_option linter.unusedSimpArgs false

/-- Depths that a rack may have. -/
def okD (d : Int) : Prop := 1 ≤ d ∧ d ≤ 8
instance (d : Int) : Decidable (okD d) := by unfold okD; exact inferInstance
def okDs (ds : List Int) : Prop := 1 ≤ ds.length ∧ ds.length ≤ 32 ∧ ∀ d ∈ ds, okD d
instance (ds : List Int) : Decidable (okDs ds) := by unfold okDs; exact inferInstance
/-- The new rack. -/
def rack0 (ds : List Int) : List Lan := ds.map (fun d => (d.toNat, []))

/-- A rack that the call has made. -/
structure NewR (w w' : World) (p : Nat) (gs : List Nat) (R : List Lan) : Prop where
  rack : RackAt w' p gs R
  fr : Fr w w' No
  hgs : ∀ g ∈ gs, w.heap.size ≤ g
theorem NewR.keep0 {w w1 w2 : World} {p : Nat} {gs : List Nat} {R : List Lan} (h : NewR w w1 p gs R) (hf : Fr w1 w2 No) : NewR w w2 p gs R := ⟨h.rack.keep0 hf, h.fr.nn hf, h.hgs⟩
theorem NewR.into {w w1 w2 : World} {p : Nat} {gs : List Nat} {R R' : List Lan} (h : NewR w w1 p gs R) (hr : RackAt w2 p gs R') (hf : Fr w1 w2 (In gs)) : NewR w w2 p gs R' := ⟨hr, h.fr.into hf h.hgs, h.hgs⟩
theorem NewR.from {a w w1 : World} {p : Nat} {gs : List Nat} {R : List Lan} (h : NewR w w1 p gs R) (hf : Fr a w No) : NewR a w1 p gs R := ⟨h.rack, hf.nn h.fr, fun g hg => Nat.le_trans hf.size (h.hgs g hg)⟩

theorem info25 : (Try.prog.info? 25).map (fun i => (i.zero, i.size, i.bytes)) = some (some (.pointer none), 1, 8) := by kernel_rfl
theorem wpList_appP {w : World} {ops : Array Oper} {rest : List Oper} {o : Oper} {a : Act} {Q : Exit → Act → World → Prop} (hgd : o.guard = none) (s x : Operand)
    (ho : o.op = .call { callee := .builtin .append, args := #[s, x], argTypes := #[97, 97] })
    (v : Value) (gs : List Nat) (hev : a.eval s = v) (hs : Sl w 25 1 v gs.length (gs.map ptrV)) (b g : Nat) (hex : a.eval x = .slice (some ⟨b, 0, none⟩) 1 1) (hb : w.heap[b]? = some (.cells #[ptrV g] 25 (0, 0)))
    (hl : gs.length ≤ 10000000)
    (h : ∀ v' w', Sl w' 25 1 v' (gs ++ [g]).length ((gs ++ [g]).map ptrV) → Fr w w' (fun g => v.ownBlock = some g) → (v'.ownBlock = v.ownBlock ∨ v'.ownBlock = some w.heap.size) → wpList Try.prog ops Q rest (a.put o.dst v') w') : wpList Try.prog ops Q (o :: rest) a w := by
  obtain ⟨i0, hi, hz0, hz1, hz2⟩ := info_parts info25
  refine wpList_app hgd s x 97 ho 25 i0 (.pointer none) 1 8 Try.underlying97 hi hz0 hz1 hz2 rfl (by decide) v gs.length _ hev hs _ 1 [ptrV g] hex (Sl.made (k := 1) hb rfl (by decide)).rd (by simp [Value.oneCell', ptrV]) (by unfold maxLen; omega) (by omega) ?_
  intro v' w' h1 h2 h3 _
  refine h v' w' ?_ h2 h3
  rw [List.length_append, List.map_append]
  exact h1

/-- The rack under way: its row is the call's own. -/
structure MkR (w wr : World) (p : Nat) (v : Value) (gs : List Nat) (R : List Lan) : Prop where
  blk : wr.heap[p]? = some (.cells #[v] 99 (0, 0))
  row : Sl wr 25 1 v gs.length (gs.map ptrV)
  lanes : Lanes wr gs R
  fr : Fr w wr No
  hp : w.heap.size ≤ p
  hgs : ∀ g ∈ gs, w.heap.size ≤ g
  hv : ∀ k, v.ownBlock = some k → w.heap.size ≤ k
theorem MkR.keep0 {w wr w' : World} {p : Nat} {v : Value} {gs : List Nat} {R : List Lan} (h : MkR w wr p v gs R) (hf : Fr wr w' No) : MkR w w' p v gs R :=
  ⟨hf.blk h.blk id, h.row.keep0 hf, h.lanes.keep0 hf, h.fr.nn hf, h.hp, h.hgs, h.hv⟩
theorem MkR.form {w wr : World} {p : Nat} {v : Value} {gs : List Nat} {R : List Lan} (h : MkR w wr p v gs R) : ∃ a c, v = .slice a gs.length c := by
  obtain ⟨hl, ⟨rfl, h0⟩ | ⟨g, off, cap, cur, rfl, _⟩⟩ := h.row
  · exact ⟨none, 0, by rw [h0]⟩
  · exact ⟨_, _, rfl⟩
/-- A lane more: append, and the store. -/
theorem MkR.add {w w4 w5 : World} {p g d : Nat} {v v' : Value} {gs : List Nat} {R : List Lan} (h : MkR w w4 p v gs R) (hL : LaneAt w4 g [] d) (hg : w.heap.size ≤ g) (hgn : ∀ k ∈ gs, k ≠ g) (hb : Nat)
    (h1 : Sl w5 25 1 v' (gs ++ [g]).length ((gs ++ [g]).map ptrV)) (h2 : Fr w4 w5 (fun k => v.ownBlock = some k)) (h3 : v'.ownBlock = v.ownBlock ∨ ∃ k, v'.ownBlock = some k ∧ w4.heap.size ≤ k) :
    MkR w (w5.setCell ⟨p, 0, none⟩ v') p v' (gs ++ [g]) (R ++ [(d, [])]) := by
  have hvp : v.ownBlock ≠ some p := Sl.ne h.row h.blk (by decide)
  have hb5 := h2.blk h.blk (fun e => hvp e)
  have hb5' := h1.ne hb5 (by decide)
  have hset := blk_set hb5 0 v'
  have hLn : ∀ (k : Nat) (ts : List Int) (d : Nat), LaneAt w4 k ts d → LaneAt (w5.setCell ⟨p, 0, none⟩ v') k ts d := fun k ts d hk => by
    have e1 : v.ownBlock ≠ some k := by obtain ⟨_, _, _, r, _, hb⟩ := hk; exact Sl.ne h.row hb (by decide)
    have e2 : k ≠ p := by obtain ⟨_, _, _, r, _, hb⟩ := hk; exact blk_ne hb h.blk (by decide)
    exact (hk.keep h2 (fun e => e1 e)).keep (Fr.setCell _ _ _) (fun e => e2 e)
  refine ⟨by rw [hset]; rfl, h1.keep (Fr.setCell w5 ⟨p, 0, none⟩ v') (fun k hk e => hb5' (by rw [hk, show k = p from e])), ⟨by simp [h.lanes.len], fun i hi => ?_, fun i j hi hj e => ?_⟩, (h.fr.into h2 h.hv).in1 (Fr.setCell _ _ _) h.hp, h.hp, fun k hk => ?_, fun k hk => ?_⟩
  · have hlen := h.lanes.len
    by_cases hl : i < R.length
    · have e1 : (gs ++ [g]).getD i 0 = gs.getD i 0 := by simp only [List.getD]; rw [List.getElem?_append_left (by omega)]
      have e2 : (R ++ [(d, [])]).getD i (1, []) = R.getD i (1, []) := by simp only [List.getD]; rw [List.getElem?_append_left hl]
      rw [e1, e2]
      exact hLn _ _ _ (h.lanes.at_ i hl)
    · obtain rfl : i = R.length := by simp at hi; omega
      have e1 : (gs ++ [g]).getD R.length 0 = g := by rw [← hlen]; simp [List.getD]
      have e2 : (R ++ [(d, ([] : List Int))]).getD R.length (1, []) = (d, []) := by simp [List.getD]
      rw [e1, e2]
      exact hLn _ _ _ hL
  · have hlen := h.lanes.len
    simp at hi hj
    by_cases hil : i < R.length <;> by_cases hjl : j < R.length
    · have e1 : (gs ++ [g]).getD i 0 = gs.getD i 0 := by simp only [List.getD]; rw [List.getElem?_append_left (by omega)]
      have e2 : (gs ++ [g]).getD j 0 = gs.getD j 0 := by simp only [List.getD]; rw [List.getElem?_append_left (by omega)]
      rw [e1, e2] at e
      exact h.lanes.inj i j hil hjl e
    · have e1 : (gs ++ [g]).getD i 0 = gs.getD i 0 := by simp only [List.getD]; rw [List.getElem?_append_left (by omega)]
      have e2 : (gs ++ [g]).getD j 0 = g := by rw [show j = gs.length by omega]; simp [List.getD]
      rw [e1, e2] at e
      exact absurd e (hgn _ (getD_in gs i (by omega)))
    · have e1 : (gs ++ [g]).getD j 0 = gs.getD j 0 := by simp only [List.getD]; rw [List.getElem?_append_left (by omega)]
      have e2 : (gs ++ [g]).getD i 0 = g := by rw [show i = gs.length by omega]; simp [List.getD]
      rw [e1, e2] at e
      exact absurd e.symm (hgn _ (getD_in gs j (by omega)))
    · omega
  · rcases List.mem_append.1 hk with hk | hk
    · exact h.hgs k hk
    · rw [List.mem_singleton.1 hk]; exact hg
  · rcases h3 with e | ⟨k', e, hk'⟩
    · exact h.hv k (e ▸ hk)
    · rw [hk] at e; cases e; exact Nat.le_trans h.fr.size hk'

set_option maxHeartbeats 1000000 in
theorem newG_len (v : Value) (ds : List Int) (w : World) (hv : RdI w v ds) (hb : ds.length < 1 ∨ 32 < ds.length) :
    Calls Try.prog 29 #[v] w fun e w' => e = .returned (.tuple #[.pointer none, .int .i64 1]) ∧ w = w' := by
  obtain ⟨a, c, rfl, _⟩ := hv.open_
  have hcase : (ds.length : Int) < 1 ∨ (¬ (ds.length : Int) < 1 ∧ (32 : Int) < (ds.length : Int)) := by omega
  clear hv hb
  rcases hcase with q | ⟨q, q'⟩
  all_goals
    go_enter Try.func29, Try.ntmps29
    go_wp2
    go_ret2
    exact ⟨rfl, rfl⟩

/-- A rack, or the error. -/
def NewOk (w : World) (ds : List Int) (e : Ending) (w' : World) : Prop := ∃ p gs, e = .returned (.tuple #[.pointer (some ⟨p, 0, none⟩), .int .i64 0]) ∧ NewR w w' p gs (rack0 ds)
def NewPost (w : World) (ds : List Int) (e : Ending) (w' : World) : Prop := (okDs ds ∧ NewOk w ds e w') ∨ (¬ okDs ds ∧ e = .returned (.tuple #[.pointer none, .int .i64 1]) ∧ Fr w w' No)
theorem Sl.form1 {w : World} {e : TypeId} {k n : Nat} {v : Value} {xs : List Value} (h : Sl w e k v n xs) : ∃ a c, v = .slice a n c := by
  obtain ⟨hl, ⟨rfl, h0⟩ | ⟨g, off, cap, cur, rfl, _⟩⟩ := h
  · exact ⟨none, 0, by rw [h0]⟩
  · exact ⟨_, _, rfl⟩
set_option maxRecDepth 100000 in
set_option maxHeartbeats 4000000 in
theorem newG_any (v : Value) (ds : List Int) (w : World) (hv : RdI w v ds) (hb1 : 1 ≤ ds.length) (hb2 : ds.length ≤ 32) :
    Calls Try.prog 29 #[v] w fun e w' => NewPost w ds e w' := by
  obtain ⟨a, c, rfl, _⟩ := hv.open_
  have HV := Lib.hid hv
  have q1 : ¬ (ds.length : Int) < 1 := by omega
  have q2 : ¬ (32 : Int) < (ds.length : Int) := by omega
  have HM0 : Hid (MkR w (w.alloc (.cells #[.slice none 0 0] 99)) w.heap.size (.slice none 0 0) [] []) := Lib.hid
    ⟨blk_new _ _, Sl.nil _ _ _, ⟨rfl, fun i hi => absurd hi (by simp), fun i j hi => absurd hi (by simp)⟩, Fr.alloc _ _ _, Nat.le_refl _, by simp, by simp [Value.ownBlock]⟩
  have HB := Lib.hid (And.intro hb1 hb2)
  clear hv hb1 hb2
  go_enter Try.func29, Try.ntmps29
  go_wp2_with fail
  obtain ⟨G, hG⟩ : ∃ G, w.heap.size = G := ⟨_, rfl⟩
  rw [hG] at HM0 ⊢
  generalize w.alloc (.cells #[.slice none 0 0] 99) = w3 at *
  have HG := Lib.hid hG
  clear hG
  go_loopg [21] ds.length (fun g v21 wr => ∃ (k : Nat) (v : Value) (gs : List Nat), k + g = ds.length ∧ v21 = .int .i64 k ∧ (∀ d ∈ ds.take k, okD d) ∧ MkR w wr G v gs (rack0 (ds.take k)))
  case atStart => exact ⟨0, _, _, by omega, rfl, by simp, HM0.out⟩
  case round =>
    obtain ⟨k, v, gs, hk, rfl, hok, hM⟩ := hrel
    have HK := Lib.hid hk
    have HM := Lib.hid hM
    have HOK := Lib.hid hok
    clear hk hM hok
    by_cases hlt : k < ds.length
    · obtain ⟨b, off, rfl, h3⟩ := (HV.out.keep0 HM.out.fr).get k hlt
      obtain ⟨x, hx⟩ : ∃ x, ds.getD k 0 = x := ⟨_, rfl⟩
      rw [hx] at h3
      have HX := Lib.hid hx
      have hk1 : (k : Int) < (ds.length : Int) := by omega
      have HLT := Lib.hid hlt
      have htk : ds.take (k + 1) = ds.take k ++ [x] := by rw [List.take_succ_eq_append_getElem hlt, ← hx]; simp [List.getD, List.getElem?_eq_getElem hlt]
      have HTK := Lib.hid htk
      have hmem : x ∈ ds := by rw [← hx]; simp [List.getD, List.getElem?_eq_getElem hlt]
      have HMEM := Lib.hid hmem
      clear hx htk hmem
      by_cases hxo : okD x
      · obtain ⟨d, rfl⟩ : ∃ n : Nat, x = n := ⟨x.toNat, by unfold okD at hxo; omega⟩
        have hxo' := hxo
        unfold okD at hxo'
        go_wp2_with fail
        refine (new_ok d _ (by omega) (by omega)).mono ?_
        rintro e w4 ⟨rfl, hL4, hf4⟩
        have HM4 := Lib.hid (HM.out.keep0 hf4)
        have HL4 := Lib.hid hL4
        have hgn : ∀ k ∈ gs, k ≠ wr.heap.size := fun k hk e => by
          obtain ⟨i, hi, hki⟩ := List.getElem_of_mem hk
          have := (HM.out.lanes.at_ i (by rw [← HM.out.lanes.len]; exact hi)).lt
          rw [List.getD_eq_getElem?_getD, List.getElem?_eq_getElem hi, Option.getD_some, hki] at this
          omega
        have HGN := Lib.hid hgn
        have hgw : w.heap.size ≤ wr.heap.size := HM.out.fr.size
        obtain ⟨av, cv, rfl⟩ := HM.out.form
        have hcell : w4.cell? ⟨G, 0, none⟩ = some (.slice av gs.length cv) := blk_cell HM4.out.blk 0
        have hfz : (w4.frozen? ⟨G, 0, none⟩) = false := blk_frozen HM4.out.blk 0
        have hgl : gs.length ≤ 10000000 := by have h1 := HM.out.lanes.len; unfold rack0 at h1; simp at h1; have := HB.out.2; omega
        generalize hgg : wr.heap.size = g at *
        clear hL4 hf4 h3 hgn
        go_wp2_with (at_builtin; refine wpList_appP rfl (.tmp 37) (.tmp 39) rfl (.slice av gs.length cv) gs rfl ?c1 w4.heap.size g rfl ?c2 hgl ?_)
        case c1 => simpa using Sl.keep0 HM4.out.row (Fr.alloc w4 (.cells #[.pointer (some ⟨g, 0, none⟩)] 25) No)
        case c2 => have := blk_new w4 (.cells #[.pointer (some ⟨g, 0, none⟩)] 25); simpa [ptrV] using this
        intro v' w5 h1' h2' h3'
        obtain ⟨av', cv', rfl⟩ := Sl.form1 h1'
        have hF4 := Fr.alloc w4 (.cells #[.pointer (some ⟨g, 0, none⟩)] 25) No
        have HM5 := Lib.hid ((HM4.out.keep0 hF4).add (HL4.out.keep hF4 id) hgw HGN.out 0 (by simpa using h1') h2' (h3'.imp id fun e => ⟨_, e, by simp⟩))
        have hvp : (Value.slice av gs.length cv).ownBlock ≠ some G := Sl.ne HM4.out.row HM4.out.blk (by decide)
        have hb5 := h2'.blk (hF4.blk HM4.out.blk id) (fun e => hvp e)
        have hcell5 : w5.cell? ⟨G, 0, none⟩ = some (.slice av gs.length cv) := blk_cell hb5 0
        have hfz5 : (w5.frozen? ⟨G, 0, none⟩) = false := blk_frozen hb5 0
        clear h1' h2' h3' hF4 hvp hb5 hcell hfz
        go_wp2_with fail
        go_roundg (gk - 1)
        case measure => have := HK.out; have := HLT.out; omega
        case rel =>
          refine ⟨k + 1, .slice av' (gs.length + 1) cv', gs ++ [g], by have := HK.out; have := HLT.out; omega, by go_num, ?_, ?_⟩
          · rw [HTK.out]
            intro y hy
            rcases List.mem_append.1 hy with hy | hy
            · exact HOK.out y hy
            · rw [List.mem_singleton.1 hy]; exact hxo
          · rw [HTK.out]
            have e : rack0 (ds.take k ++ [(d : Int)]) = rack0 (ds.take k) ++ [(d, [])] := by simp [rack0]
            rw [e]
            exact HM5.out
      · have hno : ¬ okDs ds := fun h => hxo (h.2.2 x HMEM.out)
        have HNO := Lib.hid hno
        have hxo' : x < 1 ∨ 8 < x := by unfold okD at hxo; omega
        have HXO := Lib.hid hxo'
        clear hxo hxo' hno
        go_wp2_with fail
        refine (new_bad x _ HXO.out).mono ?_
        rintro e w4 ⟨rfl, rfl⟩
        clear h3
        go_wp2_with fail
        go_ret2
        exact .inr ⟨HNO.out, rfl, HM.out.fr⟩
    · have htk : ds.take k = ds := List.take_of_length_le (by omega)
      rw [htk] at HM HOK
      have hk1 : ¬ (k : Int) < (ds.length : Int) := by omega
      clear htk
      go_wp2_with fail
      go_ret2
      exact .inl ⟨⟨HB.out.1, HB.out.2, HOK.out⟩, G, gs, rfl, ⟨⟨v, HM.out.blk, HM.out.row⟩, HM.out.lanes, by unfold rack0; rw [List.length_map]; exact HB.out.2⟩, HM.out.fr, HM.out.hgs⟩

theorem newG_ok (v : Value) (ds : List Int) (w : World) (hv : RdI w v ds) (h : okDs ds) :
    Calls Try.prog 29 #[v] w fun e w' => NewOk w ds e w' :=
  (newG_any v ds w hv h.1 h.2.1).mono (by
    rintro e w' (⟨_, h⟩ | ⟨h', _⟩)
    · exact h
    · exact absurd h h')
theorem newG_bad (v : Value) (ds : List Int) (w : World) (hv : RdI w v ds) (h : ¬ okDs ds) :
    Calls Try.prog 29 #[v] w fun e w' => e = .returned (.tuple #[.pointer none, .int .i64 1]) ∧ Fr w w' No := by
  by_cases hl : ds.length < 1 ∨ 32 < ds.length
  · exact (newG_len v ds w hv hl).mono (by rintro e w' ⟨rfl, rfl⟩; exact ⟨rfl, Fr.refl _ _⟩)
  · exact (newG_any v ds w hv (by omega) (by omega)).mono (by
      rintro e w' (⟨h', _⟩ | ⟨_, h2⟩)
      · exact absurd h' h
      · exact h2)
end Go.Proofs.Ytegoilhkooneaaa
