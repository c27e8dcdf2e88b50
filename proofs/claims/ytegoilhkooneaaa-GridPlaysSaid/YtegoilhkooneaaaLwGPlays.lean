/-
  The law GridPlays: its walk.
-/
import Derived.Test.YtegoilhkooneaaaGd10
import Derived.Test.YtegoilhkooneaaaGp4
namespace Go.Proofs.Ytegoilhkooneaaa
open Go.RowKit Go.Sort
set_option linter.unusedVariables false
set_option linter.unusedSimpArgs false

theorem NewR.ownI {a w w' : World} {p : Nat} {gs : List Nat} {R : List Lan} (h : NewR a w p gs R) {v : Value} {ins : List Int} (hs : SlI w v ins) (hf : Fr w w' (fun g => v.ownBlock = some g)) (hown : ∀ b, v.ownBlock = some b → a.heap.size ≤ b) : NewR a w' p gs R := by
  have hne : ∀ i cs t fr, w.heap[i]? = some (.cells cs t fr) → t ≠ 3 → ¬ v.ownBlock = some i := fun i cs t fr hb ht e => Sl.ne hs hb ht e
  obtain ⟨vr, r1, r2⟩ := h.rack.row
  refine ⟨⟨⟨vr, hf.blk r1 (hne _ _ _ _ r1 (by decide)), r2.keep hf (fun i hi e => ?_)⟩, h.rack.lanes.keep hf (fun i hi => ?_), h.rack.le⟩, h.fr.into hf hown, h.hgs⟩
  · obtain ⟨_, ⟨q, _⟩ | ⟨g, off, cap, cur, q, hg, _⟩⟩ := r2
    · rw [q] at hi; simp [Value.ownBlock] at hi
    · rw [q] at hi; simp [Value.ownBlock] at hi; subst hi
      exact hne _ _ _ _ hg (by decide) e
  · obtain ⟨j, hj, hbj⟩ := List.getElem_of_mem hi
    obtain ⟨_, _, _, r, _, hx⟩ := h.rack.lane j (by rw [← h.rack.len]; exact hj)
    rw [List.getD_eq_getElem?_getD, List.getElem?_eq_getElem hj, Option.getD_some, hbj] at hx
    exact hne _ _ _ _ hx (by decide)
theorem RackAt.inP {w : World} {p : Nat} {gs : List Nat} {R : List Lan} (h : RackAt w p gs R) {b : Nat} (hb : b ∈ gs) : ∃ cs fr, w.heap[b]? = some (.cells cs 93 fr) := by
  obtain ⟨i, hi, hbi⟩ := List.getElem_of_mem hb
  obtain ⟨_, _, _, r, _, hx⟩ := h.lane i (by rw [← h.len]; exact hi)
  rw [List.getD_eq_getElem?_getD, List.getElem?_eq_getElem hi, Option.getD_some, hbi] at hx
  exact ⟨_, _, hx⟩
/-- An empty slice stays, whatever is stored. -/
theorem Sl.emptyKeep {w : World} {e : TypeId} {k : Nat} {u : Value} (h : Sl w e k u 0 []) (p : Addr) (x : Value) : Sl (w.setCell p x) e k u 0 [] := by
  obtain ⟨hl, ⟨rfl, _⟩ | ⟨g, off, cap, cur, rfl, hg, hn, hc, hs, ht⟩⟩ := h
  · exact Sl.nil _ _ _
  · by_cases hp : g = p.block
    · obtain ⟨b, o, sp⟩ := p
      subst hp
      refine ⟨hl, .inr ?_⟩
      have : ∃ cur', (w.setCell ⟨g, o, sp⟩ x).heap[g]? = some (.cells cur' e (0, 0)) ∧ cur'.size = cur.size := by
        simp [World.setCell, Array.getElem?_modify, hg]
        split <;> simp
      obtain ⟨cur', h1, h2⟩ := this
      exact ⟨g, off, cap, cur', rfl, h1, hn, hc, by omega, by simp⟩
    · exact ⟨hl, .inr ⟨g, off, cap, cur, rfl, blk_far hg hp x, hn, hc, hs, ht⟩⟩
theorem DocAt.setI {w : World} {v : Value} {R : List Lan} (h : DocAt w v R) (hE : ∀ i, i < R.length → (lan R i).2 = []) {b : Nat} {cs : Array Value} {fr : Nat × Nat} (hb : w.heap[b]? = some (.cells cs 3 fr)) (j : Nat) (x : Value) : DocAt (w.setCell ⟨b, j, none⟩ x) v R := by
  obtain ⟨D, rfl, hd⟩ := h
  refine ⟨D, rfl, hd.row.keep (Fr.setCell w ⟨b, j, none⟩ x) (fun i hi e => Sl.ne hd.row hb (by decide) (by rw [hi, show i = b from e])), fun i hi => ?_⟩
  have h1 := hd.tot i hi
  have h2 := hE i (by rw [List.length_map]; exact hi)
  rw [D_lan D i hi] at h2
  rw [h2] at h1 ⊢
  exact Sl.emptyKeep h1 _ _

/-- The law's state: the rack, the document's, the box of the latter. -/
structure GpS (w wr : World) (p b8 : Nat) (gs : List Nat) (R : List Lan) (v : Value) : Prop where
  rack : NewR w wr p gs R
  doc : DocAt wr v R
  box : wr.heap[b8]? = some (.cells #[v] 74 (0, 0))
  new : w.heap.size ≤ b8
  wf : WF R
theorem GpS.keep0 {w wr w' : World} {p b8 : Nat} {gs : List Nat} {R : List Lan} {v : Value} (h : GpS w wr p b8 gs R v) (hf : Fr wr w' No) : GpS w w' p b8 gs R v := ⟨h.rack.keep0 hf, h.doc.keep0 hf, hf.blk h.box id, h.new, h.wf⟩
theorem GpS.small {w wr : World} {p b8 : Nat} {gs : List Nat} {R : List Lan} {v : Value} (h : GpS w wr p b8 gs R v) : Small R := h.rack.rack.small
/-- The rack turns; the document's does not yet. -/
theorem GpS.turn {w wr w' : World} {p b8 : Nat} {gs : List Nat} {R R' : List Lan} {v : Value} (h : GpS w wr p b8 gs R v) (hr : RackAt w' p gs R') (hf : Fr wr w' (In gs)) : NewR w w' p gs R' ∧ DocAt w' v R ∧ w'.heap[b8]? = some (.cells #[v] 74 (0, 0)) := by
  refine ⟨h.rack.into hr hf, h.doc.keep hf (fun b hb e => ?_) (fun u zs hu b hb e => ?_), hf.blk h.box (fun e => ?_)⟩
  · obtain ⟨D, _, hdd⟩ := h.doc
    obtain ⟨cs, fr, hx⟩ := h.rack.rack.inP e
    exact Sl.ne hdd.row hx (by decide) hb
  · obtain ⟨cs, fr, hx⟩ := h.rack.rack.inP e
    exact Sl.ne hu hx (by decide) hb
  · obtain ⟨cs, fr, hx⟩ := h.rack.rack.inP e
    exact blk_ne h.box hx (by decide) rfl
/-- The document's rack stored. -/
theorem GpS.store {w w6 : World} {p b8 : Nat} {gs : List Nat} {R' : List Lan} {v v' : Value} (hr : NewR w w6 p gs R') (hd : DocAt w6 v' R') (hb : w6.heap[b8]? = some (.cells #[v] 74 (0, 0))) (hn : w.heap.size ≤ b8) (hw : WF R') : GpS w (w6.setCell ⟨b8, 0, none⟩ v') p b8 gs R' v' := by
  have hF := Fr.setCell w6 ⟨b8, 0, none⟩ v'
  obtain ⟨vr, r1, r2⟩ := hr.rack.row
  refine ⟨⟨⟨⟨vr, hF.blk r1 (fun e => blk_ne r1 hb (by decide) e), r2.keep hF (fun i hi e => Sl.ne r2 hb (by decide) (by rw [hi, show i = b8 from e]))⟩, hr.rack.lanes.keep hF (fun i hi e => ?_), hr.rack.le⟩, hr.fr.in1 hF hn, hr.hgs⟩,
    hd.keep hF (fun b hb' e => ?_) (fun u zs hu b hb' e => Sl.ne hu hb (by decide) (by rw [hb', show b = b8 from e])), by rw [blk_set hb]; rfl, hn, hw⟩
  · obtain ⟨cs, fr, hx⟩ := hr.rack.inP hi
    exact blk_ne hx hb (by decide) e
  · obtain ⟨D, _, hdd⟩ := hd
    exact Sl.ne hdd.row hb (by decide) (by rw [hb', show b = b8 from e])
theorem WF.do_ {R : List Lan} (h : WF R) (t f o : Int) : WF (doR R t f o) := by
  rcases do_is_ h t f o with ⟨_, e⟩ | ⟨n, m, T, _, _, hn, hT, hm, hnm, hr, _, e⟩ | ⟨n, T, _, _, hn, hT, _, e⟩
  · rw [e]; exact h
  · rw [e]; exact h.mov hn hT hm hnm hr
  · rw [e]; exact h.out hn hT
/-- A store into the slice 'in'. -/
theorem GpS.setI {w wr : World} {p b8 : Nat} {gs : List Nat} {R : List Lan} {v : Value} (h : GpS w wr p b8 gs R v) (hE : ∀ i, i < R.length → (lan R i).2 = []) {g off n c : Nat} {xs : List Int} (hs : NewI w wr (.slice (some ⟨g, off, none⟩) n c) xs) (j : Nat) (x : Value) : GpS w (wr.setCell ⟨g, j, none⟩ x) p b8 gs R v := by
  obtain ⟨_, ⟨q, _⟩ | ⟨g', off', cap, cur, q, hg, _⟩⟩ := id hs.1
  · cases q
  · injection q with q _ _
    injection q with q
    injection q with q _ _
    subst q
    have hF := Fr.setCell wr ⟨g, j, none⟩ x
    have hF2 : Fr wr (wr.setCell ⟨g, j, none⟩ x) (fun k => (Value.slice (some ⟨g, off, none⟩) n c).ownBlock = some k) := hF.mono (fun i _ e => by rw [show i = g from e]; rfl)
    exact ⟨h.rack.ownI hs.1 hF2 hs.2.2, h.doc.setI hE hg j x, blk_far h.box (fun e => blk_ne h.box hg (by decide) e) x, h.new, h.wf⟩
theorem planL_len {R : List Lan} (h : WF R) (hs : Small R) (t : Int) : (planL R t).length ≤ 1000 := by
  by_cases hw : whereR t R < 0
  · have e : planL R t = [] := by unfold planL planO; rw [if_pos hw]; rfl
    rw [e]; simp
  · obtain ⟨a, ha⟩ : ∃ a : Nat, whereR t R = a := ⟨(whereR t R).toNat, by omega⟩
    obtain ⟨haR, hi, _⟩ := whereR_at t R a ha
    have hi : 0 ≤ idx t (lan R a).2 := hi
    obtain ⟨j, hj⟩ : ∃ j : Nat, idx t (lan R a).2 = j := ⟨(idx t (lan R a).2).toNat, by omega⟩
    have hA := ahead_len (lan R a).2 t j hj
    have h8 := hs.eight a haR
    rcases planIs h ha with ⟨_, e2, _⟩ | ⟨P, l, R1, _, e2, e3, _⟩
    · rw [e2]; simp
    · rw [e2]; simp; omega
theorem rack0_empty (ds : List Int) (i : Nat) : (lan (rack0 ds) i).2 = [] := by
  unfold lan rack0
  simp only [List.getD, List.getElem?_map]
  cases ds[i]? <;> rfl

set_option maxRecDepth 100000 in
set_option maxHeartbeats 8000000 in
theorem gridPlays_ok (w : World) (v : Value) (ds : List Int) (hv : RdI w v ds) (u : Value) (m : Nat) (fl : List Int) (hu : Rd w u m (fl.map (Value.int .i64)) 4) (hm : m ≤ 17592186044415) (hok : okDs ds) :
    Calls Try.prog 12 #[v, u] w fun e w' => e = .returned (.bool true) ∧ Fr w w' No := by
  obtain ⟨av, cv, rfl, _⟩ := hv.open_
  obtain ⟨au, cu, rfl⟩ : ∃ a c, u = .slice a m c := by obtain ⟨_, a, c, h, _⟩ := hu; exact ⟨a, c, h⟩
  have HV := Lib.hid hv
  have HU := Lib.hid hu
  have HOK := Lib.hid hok
  have h32 := hok.2.1
  clear hv hu hok
  go_enter Try.func12, Try.ntmps12
  go_wp2_with fail
  refine (awakeG_any _).mono ?_
  rintro e w1 ⟨rfl, hf1⟩
  have HF := Lib.hid hf1
  clear hf1
  go_wp2_with (at_builtin; refine wpList_appS rfl _ _ rfl _ [] rfl ?c1 _ ds rfl ?c2 ?c3 ?_)
  case c1 => exact Sl.made (cs := #[]) (blk_new _ _) rfl (by decide)
  case c2 => exact HV.out.keep0 (HF.out.nn (Fr.alloc _ _ _))
  case c3 => simp; omega
  intro v2 w2 hs1 hf3 ho3
  obtain ⟨hN1, hf3', _⟩ := NewI.app0 HF.out hs1 hf3 ho3
  obtain ⟨a2, c2, rfl⟩ := slv_form hN1.1
  have HN2 := Lib.hid hN1
  have HF2 := Lib.hid (HF.out.nn hf3')
  clear hs1 hf3 ho3 hN1 hf3'
  go_wp2_with fail
  refine (newG_ok _ ds _ (SlI.rd HN2.out.1 (by omega)) HOK.out).mono ?_
  rintro e w3 ⟨p, gs, rfl, hN⟩
  have HR3 := Lib.hid (hN.from HF2.out)
  have HN3 := Lib.hid (HN2.out.keep hN.fr (fun _ _ h => h) (fun _ h => h.elim))
  clear hN HN2
  go_wp2_with fail
  refine (refNew_ok _ ds _ (HV.out.keep0 HR3.out.fr) HOK.out).mono ?_
  rintro e w4 ⟨v4, rfl, hD4, hf4⟩
  obtain ⟨a4, c4, hv4⟩ := hD4.form
  rw [rack0_len] at hv4
  subst hv4
  have hA := Fr.alloc w4 (.cells #[.slice a4 ds.length c4] 74) No
  have HS5 : Hid (GpS w (w4.alloc (.cells #[.slice a4 ds.length c4] 74)) p w4.heap.size gs (rack0 ds) (.slice a4 ds.length c4)) := Lib.hid
    ⟨(HR3.out.keep0 hf4).keep0 hA, hD4.keep0 hA, blk_new w4 _, (HR3.out.fr.nn hf4).size, WF.init ds⟩
  have HN5 := Lib.hid ((HN3.out.keep hf4 (fun _ _ h => h) (fun _ h => h.elim)).keep hA (fun _ _ h => h) (fun _ h => h.elim))
  clear hD4 hf4 hA HR3 HN3 HF2 HF
  go_wp2_with fail
  refine (ints_true _ _ ds _ (SlI.rd HN5.out.1 (by omega)) (HV.out.keep0 HS5.out.rack.fr)).mono ?_
  rintro e w6 ⟨rfl, hf6⟩
  have HS6 := Lib.hid (HS5.out.keep0 hf6)
  have HN6 := Lib.hid (HN5.out.keep hf6 (fun _ _ h => h) (fun _ h => h.elim))
  clear hf6 HS5 HN5
  obtain ⟨b8, hb8⟩ : ∃ b8, w4.heap.size = b8 := ⟨_, rfl⟩
  rw [hb8] at HS6 ⊢
  clear hb8
  obtain ⟨g2, o2, ha2, _⟩ := (SlI.rd HN6.out.1 (by omega)).get 0 (by have := HOK.out.1; omega)
  subst ha2
  go_wp2_with fail
  go_loopg [53] ds.length (fun g v53 wr => ∃ (k : Nat) (xs : List Int), k + g = ds.length ∧ v53 = .int .i64 k ∧ xs.length = ds.length ∧ NewI w wr (.slice (some ⟨g2, o2, none⟩) ds.length c2) xs ∧ GpS w wr p b8 gs (rack0 ds) (.slice a4 ds.length c4))
  case atStart => exact ⟨0, ds, by omega, rfl, rfl, HN6.out, HS6.out⟩
  case round =>
    obtain ⟨k, xs, hk, rfl, hxl, hN, hS⟩ := hrel
    have HK := Lib.hid hk
    have HXL := Lib.hid hxl
    have HN := Lib.hid hN
    have HS := Lib.hid hS
    clear hk hxl hN hS HN6 HS6
    by_cases hlt : k < ds.length
    · have hk1 : (k : Int) < (ds.length : Int) := by omega
      have hk0 : (0 : Int) ≤ (k : Int) := by omega
      have HLT := Lib.hid hlt
      have hcell := SlI.at HXL.out HN.out.1 k hlt
      have hfrz := Sl.frz HN.out.1 (o2 + k)
      have hset := SlI.set HXL.out HN.out.1 k hlt 1
      have hF := Fr.setCell wr ⟨g2, o2 + k, none⟩ (.int .i64 1)
      have HN2 : Hid (NewI w (wr.setCell ⟨g2, o2 + k, none⟩ (.int .i64 1)) (.slice (some ⟨g2, o2, none⟩) ds.length c2) (xs.set k 1)) := Lib.hid
        ⟨hset, HN.out.2.1.in1 hF (HN.out.2.2 g2 rfl), HN.out.2.2⟩
      have HS2 := Lib.hid (HS.out.setI (fun i _ => rack0_empty ds i) HN.out (o2 + k) (.int .i64 1))
      clear hset hF hlt
      go_wp2_with fail
      go_roundg (gk - 1)
      case measure => have := HK.out; have := HLT.out; omega
      case rel => exact ⟨k + 1, _, by have := HK.out; have := HLT.out; omega, by go_num, by rw [List.length_set]; exact HXL.out, HN2.out, HS2.out⟩
    · have hk1 : ¬ (k : Int) < (ds.length : Int) := by omega
      clear hlt HK HN HXL
      go_wp2_with fail
      go_loopg [7, 9, 11] 100 (fun g v7 v9 v11 wr => ∃ (i : Nat) (R : List Lan) (vm : Value), i + g = 100 ∧ v11 = .int .i64 i ∧ GpS w wr p b8 gs R vm)
      case atStart => exact ⟨0, _, _, by omega, rfl, HS.out⟩
      case round =>
        clear hk1
        obtain ⟨i, R, vm, hi, rfl, hS⟩ := hrel
        have HI := Lib.hid hi
        have HS2 := Lib.hid hS
        obtain ⟨am, cm, rfl⟩ := hS.doc.form
        clear hi hS HS
        by_cases hlt : i < m ∧ i < 100
        · obtain ⟨hlt, hlt100⟩ := hlt
          obtain ⟨b, off, hau, hcell⟩ := (HU.out.keep0 HS2.out.rack.fr).get i hlt
          subst hau
          have hc0 := hcell 0 (by decide)
          simp only [Nat.add_zero] at hc0
          have hc1 := hcell 1 (by decide)
          have hc2 := hcell 2 (by decide)
          have hc3 := hcell 3 (by decide)
          generalize fl.getD (i * 4) 0 = K at *
          generalize fl.getD (i * 4 + 1) 0 = t at *
          generalize fl.getD (i * 4 + 2) 0 = f at *
          generalize fl.getD (i * 4 + 3) 0 = o at *
          have hi1 : (i : Int) < (m : Int) := by omega
          have hi2 : (i : Int) < 100 := by omega
          have hi0 : (0 : Int) ≤ (i : Int) := by omega
          have HLT := Lib.hid (And.intro hlt hlt100)
          have hA := Fr.alloc wr (.cells #[.int .i64 K, .int .i64 t, .int .i64 f, .int .i64 o] 78) No
          have HS3 := Lib.hid (HS2.out.keep0 hA)
          have HO := Lib.hid (blk_new wr (.cells #[.int .i64 K, .int .i64 t, .int .i64 f, .int .i64 o] 78))
          clear hcell hlt hlt100 hA
          go_upto_block 4 with (fail)
          generalize hw4 : wr.alloc (.cells #[.int .i64 K, .int .i64 t, .int .i64 f, .int .i64 o] 78) = w5 at *
          obtain ⟨bo, hbo⟩ : ∃ bo, wr.heap.size = bo := ⟨_, rfl⟩
          rw [hbo] at HO ⊢
          clear hc0 hc1 hc2 hc3 hw4 hbo HS2
          have ko1 : w5.cell? ⟨bo, 1, none⟩ = some (.int .i64 t) := blk_cell HO.out 1
          have ko2 : w5.cell? ⟨bo, 2, none⟩ = some (.int .i64 f) := blk_cell HO.out 2
          have ko3 : w5.cell? ⟨bo, 3, none⟩ = some (.int .i64 o) := blk_cell HO.out 3
          have hcase : (K == 1) = true ∨ ((K == 1) = false ∧ (K == 2) = true) ∨ ((K == 1) = false ∧ (K == 2) = false) := by
            by_cases a1 : K = 1 <;> by_cases a2 : K = 2 <;> simp [a1, a2]
          go_cut [7, 9, 13, 14, 15, 16, 17, 18, 19] from 80 to 143 (fun v7 v9 v13 v14 v15 v16 v17 v18 v19 wx => ∃ (E : Int) (R' : List Lan) (vm' : Value), v7 = .int .i64 E ∧ v9 = .int .i64 E ∧ GpS w wx p b8 gs R' vm')
          case first =>
            rcases hcase with c1 | ⟨c1, c2⟩ | ⟨c1, c2⟩
            · go_wp2_with fail
              refine (put_any p gs R t _ HS3.out.rack.rack).mono ?_
              rintro e w6 ⟨rfl, hr6, hf6⟩
              obtain ⟨hR6, hD6, hB6⟩ := HS3.out.turn hr6 hf6
              have hO6 := hf6.blk HO.out (fun e => by obtain ⟨cs, fr, hx⟩ := HS3.out.rack.rack.inP e; exact blk_ne HO.out hx (by decide) rfl)
              have HR6 := Lib.hid hR6
              have HD6 := Lib.hid hD6
              have HB6 := Lib.hid hB6
              clear hr6 hf6 hR6 hD6 hB6 ko1 ko2 ko3
              have ko1 : w6.cell? ⟨bo, 1, none⟩ = some (.int .i64 t) := blk_cell hO6 1
              have kb : w6.cell? ⟨b8, 0, none⟩ = some (.slice am R.length cm) := blk_cell HB6.out 0
              clear hO6
              go_wp2_with fail
              refine (refPut_any w6 _ R t HD6.out HS3.out.small).mono ?_
              rintro e w7 ⟨v7, rfl, hD7, hf7⟩
              obtain ⟨a7, c7, hv7⟩ := hD7.form
              rw [putR_len] at hv7
              subst hv7
              have hB7 := hf7.blk HB6.out id
              have HS7 := Lib.hid (GpS.store (HR6.out.keep0 hf7) hD7 hB7 HS3.out.new (HS3.out.wf.put t))
              have kb7 : w7.cell? ⟨b8, 0, none⟩ = some (.slice am R.length cm) := blk_cell hB7 0
              have kz7 : w7.frozen? ⟨b8, 0, none⟩ = false := blk_frozen hB7 0
              have hii : (putI R t != putI R t) = false := bne_self_eq_false _
              generalize putI R t = I at *
              generalize putE R t = E at *
              clear hD7 hf7 hB7 kb ko1
              go_wp2_with fail
              go_meet
              case rel => exact ⟨E, _, _, rfl, rfl, HS7.out⟩
            · go_wp2_with fail
              refine (plan_any t HS3.out.rack.rack).mono ?_
              rintro e w6 ⟨v6, rfl, hM6⟩
              obtain ⟨a6, c6, rfl⟩ := hM6.form
              have HS6 := Lib.hid (HS3.out.keep0 hM6.2.1)
              have hO6 := hM6.2.1.blk HO.out id
              have HM6 := Lib.hid hM6
              clear ko1 ko2 ko3 hM6
              have ko1 : w6.cell? ⟨bo, 1, none⟩ = some (.int .i64 t) := blk_cell hO6 1
              have kb : w6.cell? ⟨b8, 0, none⟩ = some (.slice am R.length cm) := blk_cell HS6.out.box 0
              clear hO6
              go_wp2_with fail
              refine (refPlan_any w6 _ R t HS6.out.doc HS6.out.small HS6.out.wf).mono ?_
              rintro e w7 ⟨v7, rfl, hM7⟩
              obtain ⟨a7, c7, rfl⟩ := hM7.form
              have HS7 := Lib.hid (HS6.out.keep0 hM7.2.1)
              have HM67 : Hid (SlM 62 w7 (.slice a6 (planL R t).length c6) (planL R t)) := Lib.hid (Sl.keep0 HM6.out.1 hM7.2.1)
              have HM7 := Lib.hid hM7.1
              have HLL := Lib.hid (planL_len HS3.out.wf HS3.out.small t)
              clear ko1 kb hM7
              generalize planL R t = L at *
              generalize planE R t = E at *
              go_wp2_with fail
              refine (same_true w7 _ _ L HM67.out HM7.out HLL.out).mono ?_
              rintro e w8 ⟨rfl, hf8⟩
              have HS8 := Lib.hid (HS7.out.keep0 hf8)
              clear hf8
              go_wp2_with fail
              go_meet
              case rel => exact ⟨E, _, _, rfl, rfl, HS8.out⟩
            · go_wp2_with fail
              refine (do_any p gs R t f o _ HS3.out.rack.rack).mono ?_
              rintro e w6 ⟨rfl, hr6, hf6⟩
              obtain ⟨hR6, hD6, hB6⟩ := HS3.out.turn hr6 hf6
              have hO6 := hf6.blk HO.out (fun e => by obtain ⟨cs, fr, hx⟩ := HS3.out.rack.rack.inP e; exact blk_ne HO.out hx (by decide) rfl)
              have HR6 := Lib.hid hR6
              have HD6 := Lib.hid hD6
              have HB6 := Lib.hid hB6
              clear hr6 hf6 hR6 hD6 hB6 ko1 ko2 ko3
              have ko1 : w6.cell? ⟨bo, 1, none⟩ = some (.int .i64 t) := blk_cell hO6 1
              have ko2 : w6.cell? ⟨bo, 2, none⟩ = some (.int .i64 f) := blk_cell hO6 2
              have ko3 : w6.cell? ⟨bo, 3, none⟩ = some (.int .i64 o) := blk_cell hO6 3
              have kb : w6.cell? ⟨b8, 0, none⟩ = some (.slice am R.length cm) := blk_cell HB6.out 0
              clear hO6
              go_wp2_with fail
              refine (refDo_any w6 _ R t f o HD6.out HS3.out.small HS3.out.wf).mono ?_
              rintro e w7 ⟨v7, rfl, hD7, hf7⟩
              obtain ⟨a7, c7, rfl⟩ := hD7.form
              have hB7 := hf7.blk HB6.out id
              have HS7 := Lib.hid (GpS.store (HR6.out.keep0 hf7) hD7 hB7 HS3.out.new (HS3.out.wf.do_ t f o))
              have kb7 : w7.cell? ⟨b8, 0, none⟩ = some (.slice am R.length cm) := blk_cell hB7 0
              have kz7 : w7.frozen? ⟨b8, 0, none⟩ = false := blk_frozen hB7 0
              generalize doE R t f o = E at *
              generalize doR R t f o = R' at *
              clear hD7 hf7 hB7 kb ko1 ko2 ko3
              go_wp2_with fail
              go_meet
              case rel => exact ⟨E, _, _, rfl, rfl, HS7.out⟩
          case rest =>
            obtain ⟨E, R', vm', rfl, rfl, hS9⟩ := hcut
            obtain ⟨am', cm', rfl⟩ := hS9.doc.form
            have HS9 := Lib.hid hS9
            clear hS9 HS3 HO ko1 ko2 ko3
            have kb : wc.cell? ⟨b8, 0, none⟩ = some (.slice am' R'.length cm') := blk_cell HS9.out.box 0
            have hee : (E != E) = false := bne_self_eq_false _
            go_wp2_with fail
            refine (tells_any wc p gs R' _ HS9.out.rack.rack HS9.out.doc).mono ?_
            rintro e w10 ⟨rfl, hf10⟩
            have HS10 := Lib.hid (HS9.out.keep0 hf10)
            clear hf10 kb
            go_wp2_with fail
            go_roundg (gk - 1)
            case measure => have := HI.out; have := HLT.out; omega
            case rel => exact ⟨i + 1, R', _, by have := HI.out; have := HLT.out; omega, by go_num, HS10.out⟩
        · have hcase : ¬ ((i : Int) < (m : Int)) ∨ ((i : Int) < (m : Int) ∧ ¬ ((i : Int) < 100)) := by omega
          clear hlt
          rcases hcase with q | ⟨q, q'⟩
          all_goals
            go_wp2_with fail
            go_ret
            exact ⟨rfl, HS2.out.rack.fr⟩

set_option maxRecDepth 100000 in
set_option maxHeartbeats 8000000 in
theorem gridPlays_bad (w : World) (v : Value) (ds : List Int) (hv : RdI w v ds) (u : Value) (m : Nat) (fl : List Int) (hu : Rd w u m (fl.map (Value.int .i64)) 4) (hm : m ≤ 17592186044415) (hok : ¬ okDs ds) :
    Calls Try.prog 12 #[v, u] w fun e w' => e = .returned (.bool true) ∧ Fr w w' No := by
  obtain ⟨av, cv, rfl, _⟩ := hv.open_
  obtain ⟨au, cu, rfl⟩ : ∃ a c, u = .slice a m c := by obtain ⟨_, a, c, h, _⟩ := hu; exact ⟨a, c, h⟩
  have HV := Lib.hid hv
  have HOK := Lib.hid hok
  have hl := hv.2
  clear hv hu hok
  go_enter Try.func12, Try.ntmps12
  go_wp2_with fail
  refine (awakeG_any _).mono ?_
  rintro e w1 ⟨rfl, hf1⟩
  have HF := Lib.hid hf1
  clear hf1
  go_wp2_with (at_builtin; refine wpList_appS rfl _ _ rfl _ [] rfl ?c1 _ ds rfl ?c2 ?c3 ?_)
  case c1 => exact Sl.made (cs := #[]) (blk_new _ _) rfl (by decide)
  case c2 => exact HV.out.keep0 (HF.out.nn (Fr.alloc _ _ _))
  case c3 => simp; omega
  intro v2 w2 hs1 hf3 ho3
  obtain ⟨hN1, hf3', _⟩ := NewI.app0 HF.out hs1 hf3 ho3
  obtain ⟨a2, c2, rfl⟩ := slv_form hN1.1
  have HN2 := Lib.hid hN1
  have HF2 := Lib.hid (HF.out.nn hf3')
  clear hs1 hf3 ho3 hN1 hf3'
  go_wp2_with fail
  refine (newG_bad _ ds _ (SlI.rd HN2.out.1 (by omega)) HOK.out).mono ?_
  rintro e w3 ⟨rfl, hf3⟩
  have HF3 := Lib.hid (HF2.out.nn hf3)
  have HN3 := Lib.hid (HN2.out.keep hf3 (fun _ _ h => h) (fun _ h => h.elim))
  clear hf3 HN2
  go_wp2_with fail
  refine (refNew_bad _ ds _ (HV.out.keep0 HF3.out) HOK.out).mono ?_
  rintro e w4 ⟨rfl, hf4⟩
  have hA := Fr.alloc w4 (.cells #[.slice none 0 0] 74) No
  have HF5 := Lib.hid ((HF3.out.nn hf4).nn hA)
  have HN5 := Lib.hid ((HN3.out.keep hf4 (fun _ _ h => h) (fun _ h => h.elim)).keep hA (fun _ _ h => h) (fun _ h => h.elim))
  clear hf4 hA HN3 HF2 HF HF3
  go_wp2_with fail
  refine (ints_true _ _ ds _ (SlI.rd HN5.out.1 (by omega)) (HV.out.keep0 HF5.out)).mono ?_
  rintro e w6 ⟨rfl, hf6⟩
  have HF6 := Lib.hid (HF5.out.nn hf6)
  have HN6 := Lib.hid (HN5.out.keep hf6 (fun _ _ h => h) (fun _ h => h.elim))
  clear hf6 HF5 HN5
  go_wp2_with fail
  go_loopg [53] ds.length (fun g v53 wr => ∃ (k : Nat) (xs : List Int), k + g = ds.length ∧ v53 = .int .i64 k ∧ xs.length = ds.length ∧ NewI w wr (.slice a2 ds.length c2) xs)
  case atStart => exact ⟨0, ds, by omega, rfl, rfl, HN6.out⟩
  case round =>
    obtain ⟨k, xs, hk, rfl, hxl, hN⟩ := hrel
    have HK := Lib.hid hk
    have HXL := Lib.hid hxl
    have HN := Lib.hid hN
    clear hk hxl hN HN6 HF6
    by_cases hlt : k < ds.length
    · have hk1 : (k : Int) < (ds.length : Int) := by omega
      have hk0 : (0 : Int) ≤ (k : Int) := by omega
      have HLT := Lib.hid hlt
      obtain ⟨g2, o2, ha2, _⟩ := (SlI.rd HN.out.1 (by rw [HXL.out]; exact hl)).get k (by rw [HXL.out]; exact hlt)
      subst ha2
      have hcell := SlI.at HXL.out HN.out.1 k hlt
      have hfrz := Sl.frz HN.out.1 (o2 + k)
      have hset := SlI.set HXL.out HN.out.1 k hlt 1
      have hF := Fr.setCell wr ⟨g2, o2 + k, none⟩ (.int .i64 1)
      have HN2 : Hid (NewI w (wr.setCell ⟨g2, o2 + k, none⟩ (.int .i64 1)) (.slice (some ⟨g2, o2, none⟩) ds.length c2) (xs.set k 1)) := Lib.hid
        ⟨hset, HN.out.2.1.in1 hF (HN.out.2.2 g2 rfl), HN.out.2.2⟩
      clear hset hF hlt
      go_wp2_with fail
      go_roundg (gk - 1)
      case measure => have := HK.out; have := HLT.out; omega
      case rel => exact ⟨k + 1, _, by have := HK.out; have := HLT.out; omega, by go_num, by rw [List.length_set]; exact HXL.out, HN2.out⟩
    · have hk1 : ¬ (k : Int) < (ds.length : Int) := by omega
      clear hlt HK HXL
      go_wp2_with fail
      go_loopg [11] 0 (fun g v11 wr2 => v11 = .int .i64 0 ∧ wr2 = wr)
      case atStart => exact ⟨rfl, rfl⟩
      case round =>
        obtain ⟨rfl, rfl⟩ := hrel
        go_wp2_with fail
        go_ret
        exact ⟨rfl, HN.out.2.1⟩

theorem gridPlays_row (w : World) (v : Value) (ds : List Int) (hv : RdI w v ds) (u : Value) (m : Nat) (fl : List Int) (hu : Rd w u m (fl.map (Value.int .i64)) 4) (hm : m ≤ 17592186044415) :
    Calls Try.prog 12 #[v, u] w fun e w' => e = .returned (.bool true) ∧ Fr w w' No := by
  by_cases hok : okDs ds
  · exact gridPlays_ok w v ds hv u m fl hu hm hok
  · exact gridPlays_bad w v ds hv u m fl hu hm hok
end Go.Proofs.Ytegoilhkooneaaa
