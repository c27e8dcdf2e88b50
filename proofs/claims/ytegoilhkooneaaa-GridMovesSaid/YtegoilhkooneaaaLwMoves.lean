/-
  The law GridMoves: its walk.
-/
import Derived.Test.YtegoilhkooneaaaGp2
namespace Go.Proofs.Ytegoilhkooneaaa
open Go.RowKit Go.Sort
set_option linter.unusedVariables false
set_option linter.unusedSimpArgs false

theorem info22 : (Try.prog.info? 22).map (fun i => (i.zero, i.size, i.bytes)) = some (some (.slice none 0 0), 1, 24) := by kernel_rfl
/-- 'append(v, s)', s a slice of numbers. -/
theorem wpList_appW {w : World} {ops : Array Oper} {rest : List Oper} {o : Oper} {a : Act} {Q : Exit → Act → World → Prop} (hgd : o.guard = none) (s x : Operand)
    (ho : o.op = .call { callee := .builtin .append, args := #[s, x], argTypes := #[69, 69] })
    (v : Value) (n : Nat) (vs : List Value) (hev : a.eval s = v) (hs : Sl w 22 1 v n vs) (b : Nat) (y : Value) (hex : a.eval x = .slice (some ⟨b, 0, none⟩) 1 1) (hb : w.heap[b]? = some (.cells #[y] 22 (0, 0))) (hy : y.oneCell' = true)
    (hl : n ≤ 10000000)
    (h : ∀ v' w', Sl w' 22 1 v' (n + 1) (vs ++ [y]) → Fr w w' (fun g => v.ownBlock = some g) → (v'.ownBlock = v.ownBlock ∨ v'.ownBlock = some w.heap.size) → wpList Try.prog ops Q rest (a.put o.dst v') w') : wpList Try.prog ops Q (o :: rest) a w := by
  obtain ⟨i0, hi, hz0, hz1, hz2⟩ := info_parts info22
  refine wpList_app hgd s x 69 ho 22 i0 (.slice none 0 0) 1 24 Try.underlying69 hi hz0 hz1 hz2 rfl (by decide) v n _ hev hs _ 1 [y] hex (Sl.made (k := 1) hb rfl (by decide)).rd (by simp [hy]) (by unfold maxLen; omega) (by omega) ?_
  intro v' w' h1 h2 h3 _
  exact h v' w' h1 h2 h3

/-- What stood in the lanes: a slice of slices of the call's own. -/
structure WasAt (w wr : World) (v : Value) (vs : List Value) (R : List Lan) (k : Nat) : Prop where
  sl : Sl wr 22 1 v k vs
  own : ∀ b, v.ownBlock = some b → w.heap.size ≤ b
  each : ∀ j, j < k → ∃ u, vs[j]? = some u ∧ SlI wr u (lan R j).2 ∧ ∀ b, u.ownBlock = some b → w.heap.size ≤ b
theorem WasAt.keep {w wr w' : World} {S : Nat → Prop} {v : Value} {vs : List Value} {R : List Lan} {k : Nat} (h : WasAt w wr v vs R k) (hf : Fr wr w' S) (h1 : ∀ b, v.ownBlock = some b → ¬ S b) (h2 : ∀ u zs, SlI wr u zs → ∀ b, u.ownBlock = some b → ¬ S b) : WasAt w w' v vs R k :=
  ⟨h.sl.keep hf h1, h.own, fun j hj => by
    obtain ⟨u, a, b, c⟩ := h.each j hj
    exact ⟨u, a, Sl.keep b hf (h2 u _ b), c⟩⟩
theorem WasAt.keep0 {w wr w' : World} {v : Value} {vs : List Value} {R : List Lan} {k : Nat} (h : WasAt w wr v vs R k) (hf : Fr wr w' No) : WasAt w w' v vs R k := h.keep hf (fun _ _ h => h) (fun _ _ _ _ _ h => h)
theorem RackAt.in_lane {w : World} {p : Nat} {gs : List Nat} {R : List Lan} (h : RackAt w p gs R) {b : Nat} (hb : b ∈ gs) : ∃ cs fr, w.heap[b]? = some (.cells cs 93 fr) := by
  obtain ⟨i, hi, hbi⟩ := List.getElem_of_mem hb
  obtain ⟨_, _, _, r, _, hx⟩ := h.lane i (by rw [← h.len]; exact hi)
  rw [List.getD_eq_getElem?_getD, List.getElem?_eq_getElem hi, Option.getD_some, hbi] at hx
  exact ⟨_, _, hx⟩
theorem WasAt.keepR {w wr w' : World} {v : Value} {vs : List Value} {R R0 : List Lan} {k p : Nat} {gs : List Nat} (h : WasAt w wr v vs R0 k) (hR : RackAt wr p gs R) (hf : Fr wr w' (In gs)) : WasAt w w' v vs R0 k :=
  h.keep hf (fun b e hb => by obtain ⟨cs, fr, hx⟩ := hR.in_lane hb; exact Sl.ne h.sl hx (by decide) e) (fun u zs hu b e hb => by obtain ⟨cs, fr, hx⟩ := hR.in_lane hb; exact Sl.ne hu hx (by decide) e)
theorem WasAt.add {w wr w4 w5 : World} {v v' u : Value} {vs : List Value} {R : List Lan} {k : Nat} (h : WasAt w wr v vs R k) (hfw : Fr w wr No) (hN : NewI wr w4 u (lan R k).2)
    (h1 : Sl w5 22 1 v' (k + 1) (vs ++ [u])) (h2 : Fr (w4.alloc (.cells #[u] 22)) w5 (fun g => v.ownBlock = some g)) (h3 : v'.ownBlock = v.ownBlock ∨ v'.ownBlock = some (w4.heap.size + 1)) : WasAt w w5 v' (vs ++ [u]) R (k + 1) := by
  have h4 := h.keep0 (hN.2.1.nn (Fr.alloc w4 (.cells #[u] 22) No))
  have hNe : ∀ x zs, SlI (w4.alloc (.cells #[u] 22)) x zs → ∀ b, x.ownBlock = some b → ¬ v.ownBlock = some b := fun x zs hx b e e' => by
    obtain ⟨_, ⟨rfl, _⟩ | ⟨g, off, cap, cur, rfl, hg, _⟩⟩ := h4.sl
    · simp [Value.ownBlock] at e'
    · simp [Value.ownBlock] at e'
      subst e'
      exact Sl.ne hx hg (by decide) e
  have hlen : vs.length = k := by have := h.sl.1; omega
  refine ⟨h1, fun b e => ?_, fun j hj => ?_⟩
  · rcases h3 with e' | e'
    · exact h.own b (e' ▸ e)
    · rw [e] at e'; cases e'; have := hfw.size; have := hN.2.1.size; omega
  · by_cases hjk : j < k
    · obtain ⟨x, a, b, c⟩ := h4.each j hjk
      exact ⟨x, by rw [List.getElem?_append_left (by omega)]; exact a, Sl.keep b h2 (hNe x _ b), c⟩
    · obtain rfl : j = k := by omega
      have hu : SlI (w4.alloc (.cells #[u] 22)) u (lan R j).2 := Sl.keep0 hN.1 (Fr.alloc _ _ _)
      exact ⟨u, by rw [← hlen]; simp, Sl.keep hu h2 (hNe u _ hu), fun b e => Nat.le_trans hfw.size (hN.2.2 b e)⟩

/-- What stood in lane k. -/
theorem WasAt.get {w wr : World} {a : Option Addr} {n c : Nat} {vs : List Value} {R : List Lan} (h : WasAt w wr (.slice a n c) vs R n) (k : Nat) (hk : k < n) :
    ∃ b off a9 c9, a = some ⟨b, off, none⟩ ∧ wr.cell? ⟨b, off + k, none⟩ = some (.slice a9 (lan R k).2.length c9) ∧ SlI wr (.slice a9 (lan R k).2.length c9) (lan R k).2 := by
  obtain ⟨u, h1, h2, _⟩ := h.each k hk
  obtain ⟨a9, c9, rfl⟩ := slv_form h2
  obtain ⟨_, a', c', hv, _, hs⟩ := Sl.rd h.sl
  cases hv
  obtain ⟨b, off, rfl, hc⟩ := hs (by omega)
  exact ⟨b, off, a9, c9, rfl, hc k _ h1, h2⟩

/-- The law's state: the rack as it stands, the move's box, what stood. -/
structure MvS (w wr : World) (p bx : Nat) (gs : List Nat) (R R0 : List Lan) (t f o : Int) (v : Value) (vs : List Value) (k : Nat) : Prop where
  rack : NewR w wr p gs R
  box : wr.heap[bx]? = some (.cells #[.int .i64 t, .int .i64 f, .int .i64 o] 62 (0, 0))
  was : WasAt w wr v vs R0 k
theorem MvS.keep0 {w wr w' : World} {p bx : Nat} {gs : List Nat} {R R0 : List Lan} {t f o : Int} {v : Value} {vs : List Value} {k : Nat} (h : MvS w wr p bx gs R R0 t f o v vs k) (hf : Fr wr w' No) : MvS w w' p bx gs R R0 t f o v vs k :=
  ⟨h.rack.keep0 hf, hf.blk h.box id, h.was.keep0 hf⟩
theorem MvS.do_ {w wr w' : World} {p bx : Nat} {gs : List Nat} {R R' R0 : List Lan} {t f o : Int} {v : Value} {vs : List Value} {k : Nat} (h : MvS w wr p bx gs R R0 t f o v vs k) (hr : RackAt w' p gs R') (hf : Fr wr w' (In gs)) : MvS w w' p bx gs R' R0 t f o v vs k :=
  ⟨h.rack.into hr hf, hf.blk h.box (fun hb => by obtain ⟨cs, fr, hx⟩ := h.rack.rack.in_lane hb; exact blk_ne h.box hx (by decide) rfl), h.was.keepR h.rack.rack hf⟩
theorem box3 {w : World} {bx : Nat} {t f o : Int} (h : w.heap[bx]? = some (.cells #[.int .i64 t, .int .i64 f, .int .i64 o] 62 (0, 0))) :
    w.cell? ⟨bx, 0, none⟩ = some (.int .i64 t) ∧ w.cell? ⟨bx, 1, none⟩ = some (.int .i64 f) ∧ w.cell? ⟨bx, 2, none⟩ = some (.int .i64 o) := ⟨blk_cell h 0, blk_cell h 1, blk_cell h 2⟩

set_option maxRecDepth 100000 in
set_option maxHeartbeats 4000000 in
theorem gridMoves_walk (w : World) (v u : Value) (ds zs : List Int) (hv : RdI w v ds) (hu : RdI w u zs) (t f o : Int) :
    Calls Try.prog 11 #[v, u, .agg #[.int .i64 t, .int .i64 f, .int .i64 o]] w fun e w' => e = .returned (.bool true) ∧ Fr w w' No := by
  obtain ⟨a, c, rfl, _⟩ := hv.open_
  have HV := Lib.hid hv
  have HU := Lib.hid hu
  clear hv hu
  go_enter Try.func11, Try.ntmps11
  go_wp2_with fail
  refine (awakeG_any _).mono ?_
  rintro e w1 ⟨rfl, hf1⟩
  have hbox := hf1.blk (blk_new w (.cells #[.int .i64 t, .int .i64 f, .int .i64 o] 62)) id
  have HF := Lib.hid ((Fr.alloc w (.cells #[.int .i64 t, .int .i64 f, .int .i64 o] 62) No).nn hf1)
  have HB := Lib.hid hbox
  clear hf1 hbox
  go_wp2_with fail
  refine (filled_any _ u ds zs _ (HV.out.keep0 HF.out) (HU.out.keep0 HF.out)).mono ?_
  rintro e w2 (⟨hok, p, gs, rfl, hN⟩ | ⟨_, rfl, hf⟩)
  · obtain ⟨R, hRe⟩ : ∃ R, fill (rack0 ds) (zs.take 60) = R := ⟨_, rfl⟩
    have hlen : R.length = ds.length := by rw [← hRe, fill_len, rack0_len]
    have hwf : WF R := by rw [← hRe]; exact (WF.init ds).fill _
    have h32 := hok.2.1
    rw [hRe] at hN
    have HS0 : Hid (MvS w w2 p w.heap.size gs R R t f o (.slice none 0 0) [] 0) := Lib.hid
      ⟨hN.from HF.out, hN.fr.blk HB.out id, ⟨Sl.nil _ _ _, by simp [Value.ownBlock], fun j hj => absurd hj (Nat.not_lt_zero j)⟩⟩
    have HWF := Lib.hid hwf
    have HLEN := Lib.hid hlen
    clear hN HF HB hRe hwf hok hlen
    generalize w.heap.size = bx at *
    go_wp2_with fail
    go_loopg [8, 21] ds.length (fun g v8 v21 wr => ∃ (k : Nat) (vs : List Value), k + g = ds.length ∧ v21 = .int .i64 k ∧ MvS w wr p bx gs R R t f o v8 vs k)
    case atStart => exact ⟨0, [], by omega, rfl, HS0.out⟩
    case round =>
      obtain ⟨k, vs, hk, rfl, hS⟩ := hrel
      have HK := Lib.hid hk
      have HS := Lib.hid hS
      clear hk hS HS0
      by_cases hlt : k < ds.length
      · have hk1 : (k : Int) < (ds.length : Int) := by omega
        have HLT := Lib.hid hlt
        clear hlt
        go_wp2_with fail
        refine (laneG_any p gs R k _ HS.out.rack.rack).mono ?_
        rw [lanT_at R k (by rw [HLEN.out]; exact HLT.out)]
        rintro e w4 ⟨v4, rfl, hN4⟩
        obtain ⟨a4, c4, rfl⟩ := slv_form hN4.1
        have HN4 := Lib.hid hN4
        obtain ⟨a8, c8, rfl⟩ := Sl.form1 HS.out.was.sl
        have hk32 : k ≤ 10000000 := by have := HLT.out; omega
        clear hN4
        go_wp2_with (at_builtin; refine wpList_appW rfl (.tmp 24) (.tmp 28) rfl (.slice a8 k c8) k vs rfl ?c1 w4.heap.size (.slice a4 (lan R k).2.length c4) rfl ?c2 rfl hk32 ?_)
        case c1 => exact Sl.keep0 HS.out.was.sl (HN4.out.2.1.nn (Fr.alloc _ _ _))
        case c2 => have := blk_new w4 (.cells #[.slice a4 (lan R k).2.length c4] 22); simpa using this
        intro v6 w6 h1' h2' h3'
        have hwas := HS.out.was.add HS.out.rack.fr HN4.out h1' h2' (by simpa using h3')
        have hown : ∀ b, (Value.slice a8 k c8).ownBlock = some b → w.heap.size ≤ b := HS.out.was.own
        have hs4 := HS.out.keep0 (HN4.out.2.1.nn (Fr.alloc w4 (.cells #[.slice a4 (lan R k).2.length c4] 22) No))
        have HS6 : Hid (MvS w w6 p bx gs R R t f o v6 (vs ++ [.slice a4 (lan R k).2.length c4]) (k + 1)) := Lib.hid (by
          obtain ⟨_, ⟨h, h0⟩ | ⟨g', off', cap', cur', h, hbk, _⟩⟩ := hs4.was.sl
          · refine ⟨hs4.rack.keep0 (h2'.mono (fun i _ e => by rw [h] at e; simp [Value.ownBlock] at e)), h2'.blk hs4.box (fun e => by rw [h] at e; simp [Value.ownBlock] at e), hwas⟩
          · have he : ∀ i, (Value.slice a8 k c8).ownBlock = some i → i = g' := fun i e => by rw [h] at e; simp [Value.ownBlock] at e; exact e.symm
            have hrk := hs4.rack
            refine ⟨⟨?_, hrk.fr.into h2' hown, hrk.hgs⟩, h2'.blk hs4.box (fun e => blk_ne hs4.box hbk (by decide) (he _ e)), hwas⟩
            obtain ⟨vr, r1, r2⟩ := hrk.rack.row
            refine ⟨⟨vr, h2'.blk r1 (fun e => blk_ne r1 hbk (by decide) (he _ e)), r2.keep h2' (fun i hi e => Sl.ne r2 hbk (by decide) (by rw [hi, he _ e]))⟩, hrk.rack.lanes.keep h2' (fun i hi e => ?_), hrk.rack.le⟩
            obtain ⟨cs, fr, hx⟩ := hrk.rack.in_lane hi
            exact blk_ne hx hbk (by decide) (he _ e))
        clear h1' h2' h3' hwas hs4 hown
        go_wp2_with fail
        go_roundg (gk - 1)
        case measure => have := HK.out; have := HLT.out; omega
        case rel => exact ⟨k + 1, _, by have := HK.out; have := HLT.out; omega, by go_num, HS6.out⟩
      · have hke : k = ds.length := by have := HK.out; omega
        subst hke
        have hk1 : ¬ (ds.length : Int) < (ds.length : Int) := by omega
        obtain ⟨k0, k1, k2⟩ := box3 HS.out.box
        obtain ⟨a8, c8, rfl⟩ := Sl.form1 HS.out.was.sl
        clear hlt HK
        go_wp2_with fail
        refine (do_any p gs R t f o _ HS.out.rack.rack).mono ?_
        rintro e w4 ⟨rfl, hr, hf⟩
        have HS4 := Lib.hid (HS.out.do_ hr hf)
        clear hr hf k0 k1 k2 HS
        rcases do_is_ HWF.out t f o with ⟨h1, h2⟩ | ⟨n, m, T, rfl, rfl, hn, hT, hm, hnm, hr, h1, h2⟩ | ⟨n, T, rfl, rfl, hn, hT, h1, h2⟩
        · rw [h2] at HS4
          have d1 : (doE R t f o == 0) = false := by simpa using h1
          generalize doE R t f o = E at *
          clear h1 h2
          go_wp2_with fail
          generalize w4 = w9 at *
          go_loopg [84] ds.length (fun g v84 wr => ∃ (k : Nat), k + g = ds.length ∧ v84 = .int .i64 k ∧ MvS w wr p bx gs R R t f o (.slice a8 ds.length c8) vs ds.length)
          case atStart => exact ⟨0, by omega, rfl, HS4.out⟩
          case round =>
            obtain ⟨k, hk, rfl, hS⟩ := hrel
            have HK := Lib.hid hk
            have HS := Lib.hid hS
            clear hk hS HS4
            by_cases hlt : k < ds.length
            · have hk1 : (k : Int) < (ds.length : Int) := by omega
              obtain ⟨b8, o8, a9, c9, ha8, hcm, hsu⟩ := HS.out.was.get k hlt
              subst ha8
              have hl8 : (lan R k).2.length ≤ 8 := by
                have h1 := (HS.out.rack.rack.lane k (by rw [HLEN.out]; exact hlt))
                obtain ⟨q1, q2, q3, _⟩ := h1
                unfold lan; omega
              have hL8 := Lib.hid hl8
              have hLT := Lib.hid (lanT_at R k (by rw [HLEN.out]; exact hlt))
              have HLT := Lib.hid hlt
              have HSU := Lib.hid hsu
              have hk0 : (0 : Int) ≤ (k : Int) := by omega
              clear hlt hsu hl8
              go_upto_region 21 with (fail)
              go_cut [95] (fun v95 wc => v95 = .bool false ∧ Fr wr wc No)
              case first =>
                go_region_held3 (fun w' => w'.cell? ⟨b8, o8 + k, none⟩ = some (.slice a9 (lan R k).2.length c9) ∧ Fr wr w' No)
                  ((go_split_ands; refine (fun hq : Fr wr _ No => ⟨hq.cell hcm id, hq⟩) ?_; first
                    | exact Fr.drew wr No
                    | exact Fr.nn (by assumption) hN5.2.1
                    | exact Fr.nn (by assumption) hf6))
                  (first
                    | (go_at_call 36; refine (laneG_any p gs R k _ (HS.out.keep0 (by go_split_ands; assumption)).rack.rack).mono ?_; rw [hLT.out]; rintro e w5 ⟨v5, rfl, hN5⟩; obtain ⟨a5, c5, hv5⟩ := slv_form hN5.1; subst hv5)
                    | (go_at_call 21; refine (ints_true _ _ (lan R k).2 _ (SlI.rd hN5.1 (by have := hL8.out; omega)) (SlI.rd (Sl.keep0 HSU.out (by go_split_ands; assumption)) (by have := hL8.out; omega))).mono ?_; rintro e w6 ⟨rfl, hf6⟩))
                all_goals
                  obtain ⟨_, hq⟩ := ‹_ ∧ _›
                  have HQ := Lib.hid hq
                  clear hq
                  go_wp2_with fail
                  go_meet
                  case rel => exact ⟨rfl, HQ.out⟩
              case rest =>
                obtain ⟨rfl, hfc⟩ := hcut
                have HS5 := Lib.hid (HS.out.keep0 hfc)
                clear hfc hcm
                go_wp2_with fail
                go_roundg (gk - 1)
                case measure => have := HK.out; have := HLT.out; omega
                case rel => exact ⟨k + 1, by have := HK.out; have := HLT.out; omega, by go_num, HS5.out⟩
            · have hk1 : ¬ (k : Int) < (ds.length : Int) := by omega
              go_wp2_with fail
              go_ret
              exact ⟨rfl, HS.out.rack.fr⟩
        · rw [h2] at HS4
          rw [h1]
          obtain ⟨b1, b2, b3⟩ := movT_back HWF.out hn hT hm hnm hr
          obtain ⟨k0, k1, k2⟩ := box3 HS4.out.box
          have hm0 : (0 : Int) ≤ (m : Int) := by omega
          generalize movT R t n m T = R1 at *
          have HB1 := Lib.hid b1
          have HB2 := Lib.hid b2
          have HB3 := Lib.hid b3
          have hmm : ((m : Int) != (m : Int)) = false := bne_self_eq_false _
          clear h1 h2 b1 b2 b3 hT hr hn hm
          go_upto_region 14 with (fail)
          go_cut [59] (fun v59 wc => v59 = .bool false ∧ MvS w wc p bx gs R R t n m (.slice a8 ds.length c8) vs ds.length)
          case first =>
            go_region_held3 (fun w' => w'.cell? ⟨bx, 0, none⟩ = some (.int .i64 t) ∧ w'.cell? ⟨bx, 1, none⟩ = some (.int .i64 n) ∧ w'.cell? ⟨bx, 2, none⟩ = some (.int .i64 m))
              ((first
                | exact box3 (HS4.out.keep0 (Fr.drew _ _)).box
                | exact box3 hS5.box
                | exact box3 hS6.box))
              (first
                | (go_at_call 34; refine (where_any p gs R1 t _ (HS4.out.keep0 (Fr.drew _ _)).rack.rack).mono ?_; rw [HB1.out]; rintro e w5 ⟨rfl, hf5⟩; have hS5 := (HS4.out.keep0 (Fr.drew _ _)).keep0 hf5)
                | (go_at_call 33; refine (do_any p gs R1 t m n _ hS5.rack.rack).mono ?_; rw [HB2.out, HB3.out]; rintro e w6 ⟨rfl, hr6, hf6⟩; have hS6 := hS5.do_ hr6 hf6))
            all_goals
              go_wp2_with fail
              go_meet
              case rel => exact ⟨rfl, hS6⟩
          case rest =>
            obtain ⟨rfl, hS7⟩ := hcut
            have HS4 := Lib.hid hS7
            clear hS7
            go_wp2_with fail
            generalize wc = w9 at *
            go_loopg [84] ds.length (fun g v84 wr => ∃ (k : Nat), k + g = ds.length ∧ v84 = .int .i64 k ∧ MvS w wr p bx gs R R t n m (.slice a8 ds.length c8) vs ds.length)
            case atStart => exact ⟨0, by omega, rfl, HS4.out⟩
            case round =>
              obtain ⟨k, hk, rfl, hS⟩ := hrel
              have HK := Lib.hid hk
              have HS := Lib.hid hS
              clear hk hS HS4
              by_cases hlt : k < ds.length
              · have hk1 : (k : Int) < (ds.length : Int) := by omega
                obtain ⟨b8, o8, a9, c9, ha8, hcm, hsu⟩ := HS.out.was.get k hlt
                subst ha8
                have hl8 : (lan R k).2.length ≤ 8 := by
                  have h1 := (HS.out.rack.rack.lane k (by rw [HLEN.out]; exact hlt))
                  obtain ⟨q1, q2, q3, _⟩ := h1
                  unfold lan; omega
                have hL8 := Lib.hid hl8
                have hLT := Lib.hid (lanT_at R k (by rw [HLEN.out]; exact hlt))
                have HLT := Lib.hid hlt
                have HSU := Lib.hid hsu
                have hk0 : (0 : Int) ≤ (k : Int) := by omega
                clear hlt hsu hl8
                go_upto_region 21 with (fail)
                go_cut [95] (fun v95 wc => v95 = .bool false ∧ Fr wr wc No)
                case first =>
                  go_region_held3 (fun w' => w'.cell? ⟨b8, o8 + k, none⟩ = some (.slice a9 (lan R k).2.length c9) ∧ Fr wr w' No)
                    ((go_split_ands; refine (fun hq : Fr wr _ No => ⟨hq.cell hcm id, hq⟩) ?_; first
                      | exact Fr.drew wr No
                      | exact Fr.nn (by assumption) hN5.2.1
                      | exact Fr.nn (by assumption) hf6))
                    (first
                      | (go_at_call 36; refine (laneG_any p gs R k _ (HS.out.keep0 (by go_split_ands; assumption)).rack.rack).mono ?_; rw [hLT.out]; rintro e w5 ⟨v5, rfl, hN5⟩; obtain ⟨a5, c5, hv5⟩ := slv_form hN5.1; subst hv5)
                      | (go_at_call 21; refine (ints_true _ _ (lan R k).2 _ (SlI.rd hN5.1 (by have := hL8.out; omega)) (SlI.rd (Sl.keep0 HSU.out (by go_split_ands; assumption)) (by have := hL8.out; omega))).mono ?_; rintro e w6 ⟨rfl, hf6⟩))
                  all_goals
                    obtain ⟨_, hq⟩ := ‹_ ∧ _›
                    have HQ := Lib.hid hq
                    clear hq
                    go_wp2_with fail
                    go_meet
                    case rel => exact ⟨rfl, HQ.out⟩
                case rest =>
                  obtain ⟨rfl, hfc⟩ := hcut
                  have HS5 := Lib.hid (HS.out.keep0 hfc)
                  clear hfc hcm
                  go_wp2_with fail
                  go_roundg (gk - 1)
                  case measure => have := HK.out; have := HLT.out; omega
                  case rel => exact ⟨k + 1, by have := HK.out; have := HLT.out; omega, by go_num, HS5.out⟩
              · have hk1 : ¬ (k : Int) < (ds.length : Int) := by omega
                go_wp2_with fail
                go_ret
                exact ⟨rfl, HS.out.rack.fr⟩
        · rw [h2] at HS4
          rw [h1]
          have hc := outT_cnt hn hT t
          rw [if_pos rfl] at hc
          have hw1 : whereR t (outT R n T) = -1 := where_not (by have := (lane_last HWF.out hn hT).1; omega)
          have hl1 : lanT (outT R n T) n = T := by rw [lanT_at _ _ (by rw [outT_len]; exact hn), outT_lan hn, if_pos rfl]
          have hTl : (lan R n).2.length = T.length + 1 := by rw [hT]; simp
          have hT8 : (lan R n).2.length ≤ 8 := by
            have h1 := (HS4.out.rack.rack.lane n (by rw [outT_len]; exact hn))
            obtain ⟨q1, q2, q3, _⟩ := h1
            have h2 := HWF.out.good n hn
            have h3 : ((outT R n T).getD n (1, [])).1 = (lan R n).1 := by rw [show (outT R n T).getD n (1, []) = lan (outT R n T) n from rfl, outT_lan hn, if_pos rfl]
            omega
          obtain ⟨b8, o8, a9, c9, ha8, hcm, hsu⟩ := HS4.out.was.get n (by rw [← HLEN.out]; exact hn)
          subst ha8
          have hnl : (n : Int) < (ds.length : Int) := by rw [← HLEN.out]; omega
          have hnl' : n < ds.length := by rw [← HLEN.out]; exact hn
          have hn0 : (0 : Int) ≤ (n : Int) := by omega
          rw [hTl] at hcm hT8
          obtain ⟨k0, k1, k2⟩ := box3 HS4.out.box
          have HW1 := Lib.hid hw1
          have HL1 := Lib.hid hl1
          generalize outT R n T = R1 at *
          clear h1 h2 hc hw1 hl1 hsu hTl
          go_upto_region 17 with (fail)
          go_region_held3 (fun w' => w'.cell? ⟨bx, 0, none⟩ = some (.int .i64 t) ∧ w'.cell? ⟨bx, 1, none⟩ = some (.int .i64 n) ∧ w'.cell? ⟨b8, o8 + n, none⟩ = some (.slice a9 (T.length + 1) c9) ∧ Fr w4 w' No)
            ((go_split_ands; refine (fun hq : Fr w4 _ No => ⟨hq.cell k0 id, hq.cell k1 id, hq.cell hcm id, hq⟩) ?_; first
              | exact Fr.drew w4 No
              | exact Fr.nn (by assumption) hf5
              | exact Fr.nn (by assumption) hN6.2.1))
            (first
              | (go_at_call 34; refine (where_any p gs R1 t _ (HS4.out.keep0 (by go_split_ands; assumption)).rack.rack).mono ?_; rw [HW1.out]; rintro e w5 ⟨rfl, hf5⟩)
              | (go_at_call 36; refine (laneG_any p gs R1 n _ (HS4.out.keep0 (by go_split_ands; assumption)).rack.rack).mono ?_; rw [HL1.out]; rintro e w6 ⟨v6, rfl, hN6⟩; obtain ⟨a6, c6, hv6⟩ := slv_form hN6.1; subst hv6))
          all_goals
            obtain ⟨_, _, _, hq⟩ := ‹_ ∧ _ ∧ _ ∧ _›
            have HQ := Lib.hid hq
            clear hq
            go_wp2_with fail
            go_ret
            refine ⟨?_, HS4.out.rack.fr.nn HQ.out⟩
            first | rfl | (simp; exact (IntWalk.i64_in _ (by omega)).symm)
  · have HF2 := Lib.hid (HF.out.nn hf)
    clear hf
    go_wp2_with fail
    go_ret
    exact ⟨rfl, HF2.out⟩
theorem gridMoves_row (w : World) (v : Value) (ds : List Int) (hv : RdI w v ds) (u : Value) (zs : List Int) (hu : RdI w u zs) (t f o : Int) (_ : ∀ z ∈ [t, f, o], (Lit.int .i64 z).wf = true) :
    Calls Try.prog 11 #[v, u, .agg #[.int .i64 t, .int .i64 f, .int .i64 o]] w fun e w' => e = .returned (.bool true) ∧ Fr w w' No := gridMoves_walk w v u ds zs hv hu t f o
end Go.Proofs.Ytegoilhkooneaaa
