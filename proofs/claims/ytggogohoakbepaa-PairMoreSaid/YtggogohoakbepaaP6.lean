/-
  The document's package for pairs, walked: ref, good, Cost.
-/
import Derived.Test.YtggogohoakbepaaP5
import Derived.Test.YtggogohoakbepaaLwDrives
namespace Go.Proofs.Ytggogohoakbepaa
open Go.RowKit Go.Sort
set_option linter.unusedVariables false
set_option linter.unusedSimpArgs false

/-- append, at a step of a region that draws. -/
theorem step_app {P : Program} {w : World} {ops : Array Oper} {o : Oper} {a : Act} {K : Act → World → Prop} {Q : Exit → Act → World → Prop} {E : Prop} (hgd : o.guard = none) (s x : Operand) (t : TypeId)
    (ho : o.op = .call { callee := .builtin .append, args := #[s, x], argTypes := #[t, t] })
    (e : TypeId) (i : TypeInfo) (z : Value) (k bytes : Nat) (ht : P.underlying t = some (.slice e)) (hi : P.info? e = some i) (hz : i.zero = some z)
    (hsize : i.size = k) (hby : i.bytes = bytes) (hzs : z.cells.size = k) (hk : 0 < k)
    (v : Value) (n : Nat) (xs : List Value) (hev : a.eval s = v) (hs : Sl w e k v n xs) (xv : Value) (m : Nat) (news : List Value) (hex : a.eval x = xv) (hx : Rd w xv m news k) (h1 : ∀ u ∈ news, u.oneCell' = true)
    (h63 : n + m ≤ maxLen) (hbytes : (n + m) * bytes ≤ 140737488355328)
    (h : ∀ v' w', Sl w' e k v' (n + m) (xs ++ news) → Fr w w' (fun g => v.ownBlock = some g) → (v'.ownBlock = v.ownBlock ∨ v'.ownBlock = some w.heap.size) → K (a.put o.dst v') w') :
    if Region.wanted o (yielded ops a.tmps) = true then Oper.wp P o a w K Q else E := by
  have hw : Region.wanted o (yielded ops a.tmps) = true := by simp [Region.wanted, hgd]
  rw [if_pos hw]
  obtain ⟨v', w', hr, h2, h3, h4, h5⟩ := run_app (P := P) w t o.type e i z k bytes ht hi hz hsize hby hzs hk v n xs hs xv m news hx h1 h63 hbytes
  unfold Oper.wp execOp
  simp only [ho, resolve, invoke, builtin, Sem.run_bind, Sem.run_pure, Result.andThen_ok, List.map_toArray, List.map_cons, List.map_nil, hev, hex, hr]
  exact h v' w' h2 h3 h4

theorem info28 : (Try.prog.info? 28).map (fun i => (i.zero, i.size, i.bytes)) = some (some (.agg #[.int .i64 0, .int .i64 0]), 2, 16) := by kernel_rfl
/-- A slice of the document's spots that may be written. -/
def SlT (w : World) (v : Value) (l : List Spot) : Prop := Sl w 28 2 v l.length (spC l)
def NewT (w w' : World) (v : Value) (l : List Spot) : Prop := SlT w' v l ∧ Fr w w' No ∧ ∀ k, v.ownBlock = some k → w.heap.size ≤ k
theorem NewT.form {w w' : World} {v : Value} {l : List Spot} (h : NewT w w' v l) : ∃ a c, v = .slice a l.length c := by
  obtain ⟨⟨hl, ⟨rfl, h0⟩ | ⟨g, off, cap, cur, rfl, _⟩⟩, _⟩ := h
  · exact ⟨none, 0, by rw [h0]⟩
  · exact ⟨_, _, rfl⟩
theorem NewT.rd {w w' : World} {v : Value} {l : List Spot} (h : NewT w w' v l) (hl : l.length ≤ 8796093022207) : RdS w' v l := ⟨h.1.rd, hl⟩
theorem NewT.keep0 {a w w' : World} {v : Value} {l : List Spot} (h : NewT a w v l) (hf : Fr w w' No) : NewT a w' v l := ⟨Sl.keep0 h.1 hf, h.2.1.nn hf, h.2.2⟩
theorem NewT.app {a w wb w' : World} {v v' : Value} {ts ts' : List Spot} (h : NewT a w v ts) (hb : Fr w wb No) (h1 : SlT w' v' ts') (h2 : Fr wb w' (fun g => v.ownBlock = some g)) (h3 : v'.ownBlock = v.ownBlock ∨ v'.ownBlock = some wb.heap.size) : NewT a w' v' ts' :=
  ⟨h1, (h.2.1.nn hb).into h2 h.2.2, fun k hk => by
    rcases h3 with e | e
    · exact h.2.2 k (e ▸ hk)
    · rw [hk] at e; cases e; exact Nat.le_trans h.2.1.size hb.size⟩
theorem step_appT {w : World} {ops : Array Oper} {o : Oper} {a : Act} {K : Act → World → Prop} {Q : Exit → Act → World → Prop} {E : Prop} (hgd : o.guard = none) (s x : Operand)
    (ho : o.op = .call { callee := .builtin .append, args := #[s, x], argTypes := #[38, 38] })
    (v : Value) (ts : List Spot) (hev : a.eval s = v) (hs : SlT w v ts) (b : Nat) (y : Spot) (hex : a.eval x = .slice (some ⟨b, 0, none⟩) 1 1) (hb : w.heap[b]? = some (.cells #[.int .i64 y.1, .int .i64 y.2] 28 (0, 0)))
    (hl : ts.length ≤ 10000000)
    (h : ∀ v' w', SlT w' v' (ts ++ [y]) → Fr w w' (fun g => v.ownBlock = some g) → (v'.ownBlock = v.ownBlock ∨ v'.ownBlock = some w.heap.size) → K (a.put o.dst v') w') :
    if Region.wanted o (yielded ops a.tmps) = true then Oper.wp Try.prog o a w K Q else E := by
  obtain ⟨i0, hi, hz0, hz1, hz2⟩ := info_parts info28
  refine step_app hgd s x 38 ho 28 i0 (.agg #[.int .i64 0, .int .i64 0]) 2 16 Try.underlying38 hi hz0 hz1 hz2 rfl (by decide) v ts.length _ hev hs _ 1 [.int .i64 y.1, .int .i64 y.2] hex (Sl.made (k := 2) hb rfl (by decide)).rd (by simp [Value.oneCell']) (by unfold maxLen; omega) (by omega) ?_
  intro v' w' h1 h2 h3
  refine h v' w' ?_ h2 h3
  unfold SlT
  rw [List.length_append, spC_append]
  exact h1

set_option maxRecDepth 100000 in
set_option maxHeartbeats 4000000 in
theorem ref_any (v : Value) (l : List Spot) (w : World) (hv : RdS w v l) (hl : l.length ≤ 1000) :
    Calls Try.prog 16 #[v] w fun e w' => ∃ v', e = .returned v' ∧ NewT w w' v' l := by
  obtain ⟨a, c, rfl⟩ := hv.form
  have HV := Lib.hid hv
  have hlt0 : ∀ k, k < l.length → ∃ b off, a = some ⟨b, off, none⟩ ∧ b < w.heap.size := fun k hk => by
    obtain ⟨b, off, rfl, h1, _⟩ := hv.at_ k hk
    exact ⟨b, off, rfl, World.block_lt_of_cell? _ _ h1⟩
  have HB := Lib.hid hlt0
  clear hv hlt0
  go_enter Try.func16, Try.ntmps16
  go_wp2
  go_loopg [3, 4, 7] l.length (fun g v3 _ v7 wr => ∃ (i : Nat) (v : Value), v = v3 ∧ i + g = l.length ∧ v7 = .int .i64 i ∧ NewT w wr v3 (l.take i))
  case atStart => exact ⟨0, _, rfl, by omega, rfl, Sl.nil _ _ _, Fr.refl _ _, by simp [Value.ownBlock]⟩
  case round =>
    obtain ⟨i, v3, rfl, hg, rfl, hN⟩ := hrel
    have HG := Lib.hid hg
    clear hg
    by_cases hlt : i < l.length
    · have HT : Hid (l.take (i + 1) = l.take i ++ [l.getD i (0, 0)]) := Lib.hid (by rw [List.take_succ_eq_append_getElem hlt]; simp [List.getD, List.getElem?_eq_getElem hlt])
      obtain ⟨T, hT⟩ : ∃ T, T = l.take i := ⟨_, rfl⟩
      rw [← hT] at hN
      have HTT := Lib.hid hT
      have hTl : T.length ≤ 1000 := by rw [hT]; simp; omega
      clear hT
      obtain ⟨a3, c3, rfl⟩ := hN.form
      have HN := Lib.hid hN
      clear hN
      obtain ⟨b, off, ha, hb⟩ := HB.out i hlt
      have hV := HV.out.keep0 HN.out.2.1
      subst ha
      obtain ⟨b', off', he, h1, h2⟩ := hV.at_ i hlt
      cases he
      have hne : (Value.slice a3 T.length c3).ownBlock ≠ some b := fun e => by have := HN.out.2.2 b e; omega
      have HNE := Lib.hid hne
      clear hne hV
      have hi0 : (0 : Int) ≤ (i : Int) := by omega
      have hi1 : (i : Int) < (l.length : Int) := by omega
      generalize hs : l.getD i (0, 0) = s at *
      have HS := Lib.hid hs
      clear hs
      have hbw : b < wr.heap.size := World.block_lt_of_cell? _ _ h1
      go_wp2_with fail
      go_region_held3 (fun w' => w'.cell? ⟨b, off + i * 2, none⟩ = some (.int .i64 s.1) ∧ w'.cell? ⟨b, off + i * 2 + 1, none⟩ = some (.int .i64 s.2))
        (first | exact ⟨h1, h2⟩ | exact ⟨(Fr.alloc wr.drew _ No).cell h1 id, (Fr.alloc wr.drew _ No).cell h2 id⟩ | exact ⟨hf1.cell ((Fr.alloc wr.drew _ No).cell h1 id) (fun e => HNE.out e), hf1.cell ((Fr.alloc wr.drew _ No).cell h2 id) (fun e => HNE.out e)⟩)
        ((refine step_appT (by rfl) _ _ (by rfl) (.slice a3 T.length c3) T (by rfl) (Sl.keep0 HN.out.1 ((Fr.drew wr No).nn (Fr.alloc _ _ No))) wr.heap.size s (by rfl) (blk_new wr.drew _) (by omega) ?_; intro v6 w6 hs1 hf1 ho1))
      have HN6 := Lib.hid (HN.out.app ((Fr.drew wr No).nn (Fr.alloc wr.drew (.cells #[.int .i64 s.1, .int .i64 s.2] 28) No)) hs1 hf1 (by simpa using ho1))
      clear hs1 hf1 ho1 h1 h2
      go_wp2_with fail
      go_roundg (gk - 1)
      case measure => have := HG.out; omega
      case rel => exact ⟨i + 1, _, rfl, by have := HG.out; omega, by go_num, by rw [HT.out, ← HTT.out]; exact HN6.out⟩
    · have e : l.take i = l := List.take_of_length_le (by omega)
      rw [e] at hN
      have HN2 := Lib.hid hN
      clear hN e
      go_wp2
      go_ret
      exact ⟨_, rfl, HN2.out⟩

theorem sp_cases (x y : Int) : (decide (x < 0) = true ∧ ¬ okS (x, y)) ∨ (decide (x < 0) = false ∧ decide ((1000 : Int) < x) = true ∧ ¬ okS (x, y)) ∨ (decide (x < 0) = false ∧ decide ((1000 : Int) < x) = false ∧ decide (y < 0) = true ∧ ¬ okS (x, y)) ∨
    (decide (x < 0) = false ∧ decide ((1000 : Int) < x) = false ∧ decide (y < 0) = false ∧ decide ((1000 : Int) < y) = true ∧ ¬ okS (x, y)) ∨ (decide (x < 0) = false ∧ decide ((1000 : Int) < x) = false ∧ decide (y < 0) = false ∧ decide ((1000 : Int) < y) = false ∧ okS (x, y)) := by
  simp only [decide_eq_true_eq, decide_eq_false_iff_not]
  unfold okS
  simp only
  omega

set_option maxRecDepth 100000 in
set_option maxHeartbeats 2000000 in
theorem good_any (v : Value) (l : List Spot) (w : World) (hv : RdS w v l) :
    Calls Try.prog 26 #[v] w fun e w' => e = .returned (.bool (decide (okL l))) ∧ w = w' := by
  have hl := hv.2
  obtain ⟨a, c, rfl⟩ := hv.form
  have HV := Lib.hid hv
  clear hv
  go_enter Try.func26, Try.ntmps26
  go_wp2
  go_loop [3, 6] (fun _ i => ∃ k : Nat, k ≤ l.length ∧ i = .int .i64 k ∧ (∀ j, j < k → okS (l.getD j (0, 0)))) (fun _ i => l.length - (intOf i).toNat)
  case atStart => exact ⟨0, Nat.zero_le _, rfl, by omega⟩
  case round =>
    obtain ⟨k, hk, rfl, hn⟩ := hrel
    have HN := Lib.hid hn
    clear hn
    by_cases hlt : k < l.length
    · obtain ⟨b, off, rfl, h1, h2⟩ := HV.out.at_ k hlt
      have hmem : l.getD k (0, 0) ∈ l := by simp [List.getD, List.getElem?_eq_getElem hlt]
      obtain ⟨s, hs⟩ : ∃ s, s = l.getD k (0, 0) := ⟨_, rfl⟩
      rw [← hs] at h1 h2 hmem
      have HS := Lib.hid hs
      have HM := Lib.hid hmem
      clear hs hmem
      obtain ⟨x, y⟩ := s
      rcases sp_cases x y with ⟨e1, hO⟩ | ⟨e1, e2, hO⟩ | ⟨e1, e2, e3, hO⟩ | ⟨e1, e2, e3, e4, hO⟩ | ⟨e1, e2, e3, e4, hO⟩
      all_goals
        have HO := Lib.hid hO
        clear hO
        go_wp2_with fail
      iterate 4
        · go_ret
          exact ⟨by simp [show ¬ okL l from fun h => HO.out (h.2 _ HM.out)], rfl⟩
      go_round
      case rel =>
        refine ⟨k + 1, by omega, by go_num, fun j hj => ?_⟩
        rcases Nat.lt_or_ge j k with h | h
        · exact HN.out j h
        · obtain rfl : j = k := by omega
          rw [← HS.out]; exact HO.out
      case measure => simp [intOf]; omega
    · have hall : ∀ s ∈ l, okS s := fun s hs => by
        obtain ⟨j, hj, rfl⟩ := List.mem_iff_getElem.1 hs
        have := HN.out j (by omega)
        simpa [List.getD, List.getElem?_eq_getElem hj] using this
      have hd : decide (okL l) = decide ((l.length : Int) ≤ 6) := decide_eq_decide.2 ⟨fun h => by have := h.1; omega, fun h => ⟨by omega, hall⟩⟩
      have HD := Lib.hid hd
      clear hd hall
      go_wp2
      go_ret
      exact ⟨by rw [HD.out]; rfl, rfl⟩

/-! ### Cost, as the document has it -/
def boolsC (u : List Int) (n : Nat) : Array Value := ((List.range n).map fun g : Nat => Value.bool (decide ((g : Int) ∈ u))).toArray
/-- Which retrievals are used. -/
def UsedAt (w : World) (b : Nat) (u : List Int) (n : Nat) : Prop := w.heap[b]? = some (.cells (boolsC u n) 4 (0, 0))
theorem UsedAt.at_ {w : World} {b : Nat} {u : List Int} {n : Nat} (h : UsedAt w b u n) (g : Nat) (hg : g < n) : w.cell? ⟨b, g, none⟩ = some (.bool (decide ((g : Int) ∈ u))) := by
  rw [blk_cell h]
  unfold boolsC
  rw [List.getElem?_toArray, List.getElem?_map, List.getElem?_range hg]; rfl
theorem UsedAt.set {w : World} {b : Nat} {u : List Int} {n : Nat} (h : UsedAt w b u n) (g : Nat) : UsedAt (w.setCell ⟨b, g, none⟩ (.bool true)) b (u ++ [(g : Int)]) n := by
  unfold UsedAt
  rw [blk_set h]
  congr 2
  apply Array.ext'
  unfold boolsC
  rw [Array.toList_setIfInBounds]
  apply List.ext_getElem (by simp)
  intro j h1 h2
  rw [List.getElem_set]
  simp only [List.getElem_map, List.getElem_range]
  by_cases e : g = j
  · subst e; simp
  · have : ¬ (j : Int) = (g : Int) := by omega
    rw [if_neg e]; simp [this]
theorem UsedAt.neg {w : World} {b : Nat} {u : List Int} {n : Nat} (h : UsedAt w b u n) (p : Int) (hp : p < 0) : UsedAt w b (u ++ [p]) n := by
  unfold UsedAt at *
  rw [h]
  congr 2
  unfold boolsC
  congr 1
  apply List.map_congr_left
  intro j _
  have : ¬ (j : Int) = p := by omega
  simp [this]
theorem UsedAt.keep0 {w w' : World} {b : Nat} {u : List Int} {n : Nat} (h : UsedAt w b u n) (hf : Fr w w' No) : UsedAt w' b u n := hf.blk h id
theorem UsedAt.frz {w : World} {b : Nat} {u : List Int} {n : Nat} (h : UsedAt w b u n) (g : Nat) : w.frozen? ⟨b, g, none⟩ = false := blk_frozen h g
theorem info4 : (Try.prog.info? 4).map (fun i => (i.zero, i.size, i.bytes)) = some (some (.bool false), 1, 1) := by kernel_rfl
theorem make_bools (n : Nat) (hn : n ≤ 100) (W : World) : (Instr.makeSlice 62 (.int .i64 (n : Int)) (.int .i64 (n : Int))).run Try.prog W = .ok (.slice (some ⟨W.heap.size, 0, none⟩) n n) (W.alloc (.cells (boolsC [] n) 4)) := by
  obtain ⟨i0, hi, hz, hs, hb⟩ := info_parts info4
  have hr := run_make (P := Try.prog) W 62 4 i0 (.bool false) Try.underlying62 hi hz .i64 .i64 n n (by omega) (by omega) (by rw [hb]; omega) (by omega)
  simp only [Int.toNat_natCast, hs] at hr
  rw [hr]
  congr 3
  apply Array.ext'
  unfold boolsC
  apply List.ext_getElem
  · simp [madeCells, Value.cells]
  · intro j h1 h2
    simp [madeCells, Value.cells, Nat.mod_one]

set_option maxRecDepth 100000 in
set_option maxHeartbeats 4000000 in
theorem refCost_bad (u v x : Value) (ss gs : List Spot) (ps : List Int) (w : World) (hu : RdS w u ss) (hv : RdS w v gs) (hx : RdI w x ps) (h : ¬ (okL ss ∧ okL gs ∧ ps.length = ss.length ∧ inR gs.length ps)) :
    Calls Try.prog 21 #[u, v, x] w fun e w' => e = .returned (.tuple #[.int .i64 0, .int .i64 1]) ∧ Fr w w' No := by
  obtain ⟨a, c, rfl⟩ := hu.form
  obtain ⟨a', c', rfl⟩ := hv.form
  obtain ⟨a2, c2, rfl, _⟩ := hx.open_
  have l1 := hu.2
  have l2 := hx.2
  have l3 := hv.2
  have HU := Lib.hid hu
  have HV := Lib.hid hv
  have HX := Lib.hid hx
  clear hu hv hx
  by_cases h1 : okL ss
  · have d1 : decide (okL ss) = true := by simpa using h1
    by_cases h2 : okL gs
    · have d2 : decide (okL gs) = true := by simpa using h2
      by_cases h3 : ps.length = ss.length
      · have d3 : ((ps.length : Int) != (ss.length : Int)) = false := by simp [h3]
        have HR : Hid (¬ inR gs.length ps) := Lib.hid fun h4 => h ⟨h1, h2, h3, h4⟩
        clear h h1 h2 h3
        go_enter Try.func21, Try.ntmps21
        go_wp2_with fail
        refine (good_any _ ss _ HU.out).mono ?_
        rw [d1]
        rintro e w1 ⟨rfl, rfl⟩
        go_wp2_with fail
        refine (good_any _ gs _ HV.out).mono ?_
        rw [d2]
        rintro e w1 ⟨rfl, rfl⟩
        clear d1 d2
        go_wp2_with fail
        clear d3
        go_loopg [8, 31] ps.length (fun g _ v31 wr => ∃ k : Nat, k + g = ps.length ∧ v31 = .int .i64 k ∧ (∀ j, j < k → ¬ outP gs.length (ps.getD j 0)) ∧ w = wr)
        case atStart => exact ⟨0, by omega, rfl, by omega, rfl⟩
        case round =>
          obtain ⟨k, hg, rfl, hn, rfl⟩ := hrel
          have HGK := Lib.hid hg
          have HN := Lib.hid hn
          clear hg hn
          by_cases hlt : k < ps.length
          · obtain ⟨b, off, rfl, hcp⟩ := HX.out.get k hlt
            obtain ⟨p, hp⟩ : ∃ p, p = ps.getD k 0 := ⟨_, rfl⟩
            rw [← hp] at hcp
            have HP := Lib.hid hp
            clear hp
            have hcase : (decide (p < -1) = true ∧ outP gs.length p) ∨ (decide (p < -1) = false ∧ decide ((gs.length : Int) ≤ p) = true ∧ outP gs.length p) ∨ (decide (p < -1) = false ∧ decide ((gs.length : Int) ≤ p) = false ∧ ¬ outP gs.length p) := by
              simp only [decide_eq_true_eq, decide_eq_false_iff_not]
              unfold outP
              omega
            rcases hcase with ⟨a1, ho⟩ | ⟨a1, a2, ho⟩ | ⟨a1, a2, ho⟩
            all_goals
              have HO := Lib.hid ho
              clear ho
              go_wp2_with fail
            · go_ret2
              exact ⟨rfl, Fr.refl _ _⟩
            · go_ret2
              exact ⟨rfl, Fr.refl _ _⟩
            · go_roundg (gk - 1)
              case measure => have := HGK.out; omega
              case rel =>
                refine ⟨k + 1, by have := HGK.out; omega, by go_num, fun j hj => ?_, rfl⟩
                rcases Nat.lt_or_ge j k with h | h
                · exact HN.out j h
                · obtain rfl : j = k := by omega
                  rw [← HP.out]; exact HO.out
          · exfalso
            refine HR.out (fun p hp => ?_)
            obtain ⟨j, hj, rfl⟩ := List.mem_iff_getElem.1 hp
            have := HN.out j (by omega)
            simp only [List.getD, List.getElem?_eq_getElem hj, Option.getD_some] at this
            unfold outP at this
            omega
      · have d3 : ((ps.length : Int) != (ss.length : Int)) = true := by simp; omega
        clear h h1 h2 h3
        go_enter Try.func21, Try.ntmps21
        go_wp2_with fail
        refine (good_any _ ss _ HU.out).mono ?_
        rw [d1]
        rintro e w1 ⟨rfl, rfl⟩
        go_wp2_with fail
        refine (good_any _ gs _ HV.out).mono ?_
        rw [d2]
        rintro e w1 ⟨rfl, rfl⟩
        clear d1 d2
        go_wp2_with fail
        go_ret2
        exact ⟨rfl, Fr.refl _ _⟩
    · have d2 : decide (okL gs) = false := by simpa using h2
      clear h h1 h2
      go_enter Try.func21, Try.ntmps21
      go_wp2_with fail
      refine (good_any _ ss _ HU.out).mono ?_
      rw [d1]
      rintro e w1 ⟨rfl, rfl⟩
      go_wp2_with fail
      refine (good_any _ gs _ HV.out).mono ?_
      rw [d2]
      rintro e w1 ⟨rfl, rfl⟩
      clear d1 d2
      go_wp2_with fail
      go_ret2
      exact ⟨rfl, Fr.refl _ _⟩
  · have d1 : decide (okL ss) = false := by simpa using h1
    clear h h1
    go_enter Try.func21, Try.ntmps21
    go_wp2_with fail
    refine (good_any _ ss _ HU.out).mono ?_
    rw [d1]
    rintro e w1 ⟨rfl, rfl⟩
    clear d1
    go_wp2_with fail
    go_ret2
    exact ⟨rfl, Fr.refl _ _⟩

set_option maxRecDepth 100000 in
set_option maxHeartbeats 8000000 in
theorem refCost_good (u v x : Value) (ss gs : List Spot) (ps : List Int) (w : World) (hu : RdS w u ss) (hv : RdS w v gs) (hx : RdI w x ps) (h1 : okL ss) (h2 : okL gs) (h3 : ps.length = ss.length) (h4 : inR gs.length ps) :
    Calls Try.prog 21 #[u, v, x] w fun e w' => e = .returned (.tuple #[.int .i64 (res (alone ss + alone gs) (cst gs ss [] ps)).1, .int .i64 (res (alone ss + alone gs) (cst gs ss [] ps)).2]) ∧ Fr w w' No := by
  obtain ⟨a, c, rfl⟩ := hu.form
  obtain ⟨a', c', rfl⟩ := hv.form
  obtain ⟨a2, c2, rfl, _⟩ := hx.open_
  have l1 := hu.2
  have l2 := hx.2
  have HU := Lib.hid hu
  have HV := Lib.hid hv
  have HX := Lib.hid hx
  have HS := Lib.hid h1
  have HG := Lib.hid h2
  have HL := Lib.hid h3
  have HR := Lib.hid h4
  have hs6 := h1.1
  have hg6 := h2.1
  have hp6 : ps.length ≤ 6 := by omega
  clear hu hv hx
  have d1 : decide (okL ss) = true := by simpa using h1
  have d2 : decide (okL gs) = true := by simpa using h2
  have d3 : ((ps.length : Int) != (ss.length : Int)) = false := by simp [h3]
  clear h1 h2 h3 h4
  have hmk := make_bools gs.length (by omega)
  go_enter Try.func21, Try.ntmps21
  go_wp2_with fail
  refine (good_any _ ss _ HU.out).mono ?_
  rw [d1]
  rintro e w1 ⟨rfl, rfl⟩
  go_wp2_with fail
  refine (good_any _ gs _ HV.out).mono ?_
  rw [d2]
  rintro e w1 ⟨rfl, rfl⟩
  clear d1 d2
  go_wp2_with fail
  clear d3
  go_loopg [8, 31] ps.length (fun g _ v31 wr => ∃ k : Nat, k + g = ps.length ∧ v31 = .int .i64 k ∧ w = wr)
  case atStart => exact ⟨0, by omega, rfl, rfl⟩
  case round =>
    obtain ⟨k, hg, rfl, rfl⟩ := hrel
    have HGK := Lib.hid hg
    clear hg
    by_cases hlt : k < ps.length
    · obtain ⟨b, off, rfl, hcp⟩ := HX.out.get k hlt
      have hpr := HR.out (ps.getD k 0) (by simp [List.getD, List.getElem?_eq_getElem hlt])
      obtain ⟨p, hp⟩ : ∃ p, p = ps.getD k 0 := ⟨_, rfl⟩
      rw [← hp] at hcp hpr
      clear hp
      have a1 : decide (p < -1) = false := by simp; omega
      have a2 : decide ((gs.length : Int) ≤ p) = false := by simp; omega
      clear hpr
      go_wp2_with fail
      go_roundg (gk - 1)
      case measure => have := HGK.out; omega
      case rel => exact ⟨k + 1, by have := HGK.out; omega, by go_num, rfl⟩
    · clear HGK
      go_wp2_with fail
      clear hmk
      have hU0 : UsedAt ((w.alloc (.cells (boolsC [] gs.length) 4)).alloc (.cells #[.int .i64 0, .int .i64 0] 28)) w.heap.size (ps.take 0) gs.length := blk_old (blk_new w _) _
      have hH0 := blk_new (w.alloc (.cells (boolsC [] gs.length) 4)) (.cells #[.int .i64 0, .int .i64 0] 28)
      have hF0 := ((Fr.refl w No).to_alloc (.cells (boolsC [] gs.length) 4)).to_alloc (.cells #[.int .i64 0, .int .i64 0] 28)
      have hbs : w.heap.size + 1 = (w.alloc (.cells (boolsC [] gs.length) 4)).heap.size := by simp
      rw [← hbs] at hH0
      clear hbs
      have HF0 := Lib.hid hF0
      clear hF0
      generalize (w.alloc (.cells (boolsC [] gs.length) 4)).alloc (.cells #[.int .i64 0, .int .i64 0] 28) = w2 at *
      obtain ⟨bu, hbu⟩ : ∃ b, w.heap.size = b := ⟨_, rfl⟩
      have HU0 : Hid (UsedAt w2 bu (ps.take 0) gs.length) := Lib.hid (by rw [← hbu]; exact hU0)
      have HH0 : Hid (w2.heap[bu + 1]? = some (.cells #[.int .i64 0, .int .i64 0] 28 (0, 0))) := Lib.hid (by rw [← hbu]; exact hH0)
      have hbuw : w.heap.size ≤ bu := by omega
      rw [hbu]
      clear hU0 hH0 hbu
      go_loopg [11, 12, 55] ps.length (fun g v11 _ v55 wr => ∃ (k : Nat) (n : Int), k + g = ps.length ∧ v55 = .int .i64 k ∧ v11 = .int .i64 n ∧ 0 ≤ n ∧ n ≤ 3000 * (k : Int) ∧
        res (n + alone (ss.drop k) + Nn gs (ps.take k) gs.length) (cst gs (ss.drop k) (ps.take k) (ps.drop k)) = res (alone ss + alone gs) (cst gs ss [] ps) ∧ UsedAt wr bu (ps.take k) gs.length ∧
        wr.heap[bu + 1]? = some (.cells #[.int .i64 0, .int .i64 0] 28 (0, 0)) ∧ Fr w wr No)
      case atStart => exact ⟨0, 0, by omega, rfl, rfl, by omega, by omega, by simp only [List.drop_zero, List.take_zero, Nn_all]; rw [Int.zero_add], HU0.out, HH0.out, HF0.out⟩
      case round =>
        clear HU0 HH0 HF0
        obtain ⟨k, n, hg, rfl, rfl, hn1, hn2, hres, hu, hh, hf⟩ := hrel
        have HGK := Lib.hid hg
        have HRES := Lib.hid hres
        have HU2 := Lib.hid hu
        have HH2 := Lib.hid hh
        have HF2 := Lib.hid hf
        clear hg hres hu hf
        by_cases hlt : k < ps.length
        · have hks : k < ss.length := by have := HL.out; omega
          obtain ⟨b, off, rfl, hcp⟩ := (HX.out.keep0 HF2.out).get k hlt
          have hpr := HR.out (ps.getD k 0) (by simp [List.getD, List.getElem?_eq_getElem hlt])
          obtain ⟨p, hp⟩ : ∃ p, p = ps.getD k 0 := ⟨_, rfl⟩
          rw [← hp] at hcp hpr
          have HP := Lib.hid hp
          have HTK : Hid (ps.take (k + 1) = ps.take k ++ [p]) := Lib.hid (by rw [List.take_succ_eq_append_getElem hlt, hp]; simp [List.getD, List.getElem?_eq_getElem hlt])
          clear hp
          have hp1 := hpr.1
          have hp2 := hpr.2
          clear hpr
          obtain ⟨b1, o1, rfl, s1, s2⟩ := (HU.out.keep0 HF2.out).at_ k hks
          have hoS : okS (ss.getD k (0, 0)) := HS.out.2 _ (by simp [List.getD, List.getElem?_eq_getElem hks])
          have hdrop : alone (ss.drop k) = 2 * hm (ss.getD k (0, 0)) + alone (ss.drop (k + 1)) := by rw [drop_at ss k hks]; simp [alone]
          obtain ⟨s0, hs0⟩ : ∃ x, x = ss.getD k (0, 0) := ⟨_, rfl⟩
          rw [← hs0] at s1 s2 hoS hdrop
          have HS0 := Lib.hid hs0
          have HDR := Lib.hid hdrop
          clear hs0 hdrop
          have z1 : wr.cell? ⟨bu + 1, 0, none⟩ = some (.int .i64 0) := blk_cell hh 0
          have z2 : wr.cell? ⟨bu + 1, 1, none⟩ = some (.int .i64 0) := blk_cell hh 1
          clear hh
          have hhs := hm_ok hoS
          have hhs0 := hm_nonneg s0
          have k1 : (0 : Int) ≤ (k : Int) := by omega
          have k2 : (k : Int) < (ss.length : Int) := by omega
          have k3 : (k : Int) < (ps.length : Int) := by omega
          by_cases hneg : p < 0
          · have hst := cst_neg gs ss ps k hks hlt (by rw [← HP.out]; exact hneg)
            have HST := Lib.hid hst
            clear hst
            have w1' : IntKind.i64.wrap (2 * hm s0) = 2 * hm s0 := IntWalk.i64_in _ (by omega)
            have w2' : IntKind.i64.wrap (n + 2 * hm s0) = n + 2 * hm s0 := IntWalk.i64_in _ (by omega)
            go_upto_region 16 with (fail)
            have q1 := cell_regrown s1
            have q2 := cell_regrown s2
            have q3 := cell_regrown z1
            have q4 := cell_regrown z2
            have R1 : ∀ d os, Calls Try.prog 12 #[spV (0, 0), spV s0] (grow (redrawn wr d) os) fun e w'' => e = .returned (.int .i64 (hm s0)) ∧ ∃ p : Regrown, w'' = grow (redrawn wr p.d) p.os := fun d os => Calls.regrown_of ((refDrive_any (0, 0) s0 _ nearS.zero hoS.near).mono fun e w' ⟨he, hf⟩ => ⟨he, hf.below (Nat.le_refl _) (fun _ _ h => h)⟩)
            refine wp_region_quiet_below (by kernel_rfl) (by kernel_rfl) ?_
            repeat (go_big_quiet_step ((with_reducible exact R1 _ _)))
            refine wpQuiet_nil ?_
            intro w8 hw8
            obtain ⟨pp, rfl⟩ := hw8
            have hf8 := Fr.of_below (below_regrown wr pp.d pp.os) No
            generalize grow (redrawn wr pp.d) pp.os = w8 at *
            have HF8 := Lib.hid hf8
            clear q1 q2 q3 q4 R1 s1 s2 z1 z2 w1' w2' hf8 hcp
            go_wp2_with fail
            go_roundg (gk - 1)
            case measure => have := HGK.out; omega
            case rel =>
              refine ⟨k + 1, n + 2 * hm s0, by have := HGK.out; omega, by go_num, rfl, by omega, by omega, ?_, ?_, HF8.out.blk HH2.out id, HF2.out.nn HF8.out⟩
              · rw [← HRES.out, HST.out, HTK.out, Nn_neg _ _ _ hneg, HDR.out]
                congr 1; omega
              · rw [HTK.out]; exact (HU2.out.keep0 HF8.out).neg p hneg
          · have HNEG := Lib.hid hneg
            obtain ⟨g, hgp⟩ : ∃ g : Nat, p = (g : Int) := ⟨p.toNat, by omega⟩
            subst hgp
            have hgl : g < gs.length := by omega
            have k4 : (0 : Int) ≤ (g : Int) := by omega
            have k5 : (g : Int) < (gs.length : Int) := by omega
            have cu := HU2.out.at_ g hgl
            by_cases hm' : (g : Int) ∈ ps.take k
            · have hst := cst_dup gs ss ps k hks hlt (by rw [← HP.out]; exact HNEG.out) (by rw [← HP.out]; exact hm')
              have hE := HRES.out
              rw [hst] at hE
              have HE := Lib.hid hE.symm
              have hd : decide ((g : Int) ∈ ps.take k) = true := by simpa using hm'
              rw [hd] at cu
              clear hE hst hm' hd
              go_wp2_with fail
              go_ret2
              exact ⟨by rw [HE.out]; rfl, HF2.out⟩
            · have hst := cst_new gs ss ps k hks hlt (by rw [← HP.out]; exact HNEG.out) (by rw [← HP.out]; exact hm')
              have hd : decide ((g : Int) ∈ ps.take k) = false := by simpa using hm'
              rw [hd] at cu
              have HST := Lib.hid hst
              have HM := Lib.hid hm'
              clear hst hm' hd
              have cf := HU2.out.frz g
              go_upto_region 20 with (fail)
              have HU3 := Lib.hid (HU2.out.set g)
              have hf3 := Fr.setCell wr ⟨bu, g, none⟩ (.bool true)
              have hF3 := HF2.out.to_new ⟨bu, g, none⟩ (.bool true) hbuw
              have HF3 := Lib.hid hF3
              have hh3 := hf3.blk HH2.out (fun e => by have : bu + 1 = bu := e; omega)
              have hcp3 := ((HX.out.keep0 hF3).get k hlt)
              obtain ⟨b', off', he', hcp3⟩ := hcp3
              cases he'
              rw [← HP.out] at hcp3
              obtain ⟨b1', o1', he', s1', s2'⟩ := (HU.out.keep0 hF3).at_ k hks
              cases he'
              rw [← HS0.out] at s1' s2'
              obtain ⟨b2, o2, ha2, g1, g2⟩ := (HV.out.keep0 hF3).at_ g hgl
              have HA2 := Lib.hid ha2
              subst ha2
              have hoG : okS (gs.getD g (0, 0)) := HG.out.2 _ (by simp [List.getD, List.getElem?_eq_getElem hgl])
              obtain ⟨g0, hg0⟩ : ∃ x, x = gs.getD g (0, 0) := ⟨_, rfl⟩
              rw [← hg0] at g1 g2 hoG
              have HG0 := Lib.hid hg0
              clear hg0 cu cf hf3 hF3 s1 s2 z1 z2 hcp
              have z1 : (wr.setCell ⟨bu, g, none⟩ (.bool true)).cell? ⟨bu + 1, 0, none⟩ = some (.int .i64 0) := blk_cell hh3 0
              have z2 : (wr.setCell ⟨bu, g, none⟩ (.bool true)).cell? ⟨bu + 1, 1, none⟩ = some (.int .i64 0) := blk_cell hh3 1
              have HH3 := Lib.hid hh3
              clear hh3
              generalize wr.setCell ⟨bu, g, none⟩ (.bool true) = w4 at *
              have hgh := hm_ok hoG
              have hgh0 := hm_nonneg g0
              have hdr := drv_ok hoS hoG
              have hdr0 := drv_nonneg s0 g0
              have w1' : IntKind.i64.wrap (n + hm s0) = n + hm s0 := IntWalk.i64_in _ (by omega)
              have w2' : IntKind.i64.wrap (n + hm s0 + drv s0 g0) = n + hm s0 + drv s0 g0 := IntWalk.i64_in _ (by omega)
              have w3' : IntKind.i64.wrap (n + hm s0 + drv s0 g0 + hm g0) = n + hm s0 + drv s0 g0 + hm g0 := IntWalk.i64_in _ (by omega)
              have q1 := cell_regrown s1'
              have q2 := cell_regrown s2'
              have q3 := cell_regrown z1
              have q4 := cell_regrown z2
              have q5 := cell_regrown g1
              have q6 := cell_regrown g2
              have q7 := cell_regrown hcp3
              have R1 : ∀ d os, Calls Try.prog 12 #[spV (0, 0), spV s0] (grow (redrawn w4 d) os) fun e w'' => e = .returned (.int .i64 (hm s0)) ∧ ∃ p : Regrown, w'' = grow (redrawn w4 p.d) p.os := fun d os => Calls.regrown_of ((refDrive_any (0, 0) s0 _ nearS.zero hoS.near).mono fun e w' ⟨he, hf⟩ => ⟨he, hf.below (Nat.le_refl _) (fun _ _ h => h)⟩)
              have R2 : ∀ d os, Calls Try.prog 12 #[spV s0, spV g0] (grow (redrawn w4 d) os) fun e w'' => e = .returned (.int .i64 (drv s0 g0)) ∧ ∃ p : Regrown, w'' = grow (redrawn w4 p.d) p.os := fun d os => Calls.regrown_of ((refDrive_any s0 g0 _ hoS.near hoG.near).mono fun e w' ⟨he, hf⟩ => ⟨he, hf.below (Nat.le_refl _) (fun _ _ h => h)⟩)
              have R3 : ∀ d os, Calls Try.prog 12 #[spV g0, spV (0, 0)] (grow (redrawn w4 d) os) fun e w'' => e = .returned (.int .i64 (hm g0)) ∧ ∃ p : Regrown, w'' = grow (redrawn w4 p.d) p.os := fun d os => Calls.regrown_of ((refDrive_any g0 (0, 0) _ hoG.near nearS.zero).mono fun e w' ⟨he, hf⟩ => ⟨by rw [he, drv_comm]; rfl, hf.below (Nat.le_refl _) (fun _ _ h => h)⟩)
              refine wp_region_quiet_below (by kernel_rfl) (by kernel_rfl) ?_
              repeat (go_big_quiet_step ((first | (with_reducible exact R1 _ _) | (with_reducible exact R2 _ _) | (with_reducible exact R3 _ _))))
              refine wpQuiet_nil ?_
              intro w8 hw8
              obtain ⟨pp, rfl⟩ := hw8
              have hf8 := Fr.of_below (below_regrown w4 pp.d pp.os) No
              generalize grow (redrawn w4 pp.d) pp.os = w8 at *
              have HF8 := Lib.hid hf8
              clear q1 q2 q3 q4 q5 q6 q7 R1 R2 R3 s1' s2' g1 g2 z1 z2 hcp3 w1' w2' w3' hf8
              go_wp2_with fail
              go_roundg (gk - 1)
              case measure => have := HGK.out; omega
              case rel =>
                refine ⟨k + 1, n + hm s0 + drv s0 g0 + hm g0, by have := HGK.out; omega, by go_num, rfl, by omega, by omega, ?_, ?_, HF8.out.blk HH3.out id, HF3.out.nn HF8.out⟩
                · rw [← HRES.out, HST.out, res_map, HTK.out, Nn_new _ _ _ HM.out, if_pos hgl, HDR.out, ← HP.out, ← HS0.out]
                  simp only [Int.toNat_natCast]
                  rw [← HG0.out]
                  congr 1
                  have : sv s0 g0 = hm s0 + hm g0 - drv s0 g0 := rfl
                  omega
                · rw [HTK.out]; exact HU3.out.keep0 HF8.out
        · have hst := cst_end gs ss ps k (by have := HL.out; omega)
          have hE := HRES.out
          rw [hst] at hE
          have e1 : ss.drop k = [] := List.drop_eq_nil_of_le (by have := HL.out; omega)
          have e2 : ps.take k = ps := List.take_of_length_le (by omega)
          rw [e1, e2] at hE
          have HE : Hid (res (alone ss + alone gs) (cst gs ss [] ps) = (n + Nn gs ps gs.length, 0)) := Lib.hid (by rw [← hE]; simp [res, alone])
          have HU3 : Hid (UsedAt wr bu ps gs.length) := Lib.hid (by have := HU2.out; rwa [e2] at this)
          have hk6 : k ≤ 6 := by have := HGK.out; omega
          clear hst hE e1 e2 HRES HU2 HGK hh
          go_wp2_with fail
          go_loopg [11, 13, 119] gs.length (fun g v11 _ v119 wx => ∃ j : Nat, j + g = gs.length ∧ v119 = .int .i64 j ∧ v11 = .int .i64 (n + Nn gs ps j) ∧ Fr wr wx No)
          case atStart => exact ⟨0, by omega, rfl, by simp [Nn], Fr.refl _ _⟩
          case round =>
            obtain ⟨j, hg, rfl, rfl, hf⟩ := hrel
            have HGJ := Lib.hid hg
            have HF3 := Lib.hid hf
            clear hg hf
            by_cases hjl : j < gs.length
            · have hnb := Nn_bd gs ps HG.out.2 j (by omega)
              have k4 : (0 : Int) ≤ (j : Int) := by omega
              have k5 : (j : Int) < (gs.length : Int) := by omega
              have cu := (HU3.out.keep0 HF3.out).at_ j hjl
              have HNS : Hid (Nn gs ps (j + 1) = Nn gs ps j + if (j : Int) ∈ ps then 0 else 2 * hm (gs.getD j (0, 0))) := Lib.hid rfl
              by_cases hm' : (j : Int) ∈ ps
              · have hd : decide ((j : Int) ∈ ps) = true := by simpa using hm'
                rw [hd] at cu
                have HM := Lib.hid hm'
                clear hm' hd
                go_wp2_with fail
                go_roundg (gk - 1)
                case measure => have := HGJ.out; omega
                case rel => exact ⟨j + 1, by have := HGJ.out; omega, by go_num, by rw [HNS.out, if_pos HM.out, Int.add_zero], HF3.out⟩
              · have hd : decide ((j : Int) ∈ ps) = false := by simpa using hm'
                rw [hd] at cu
                have HM := Lib.hid hm'
                clear hm' hd
                obtain ⟨b2, o2, rfl, g1, g2⟩ := ((HV.out.keep0 HF2.out).keep0 HF3.out).at_ j hjl
                have hoG : okS (gs.getD j (0, 0)) := HG.out.2 _ (by simp [List.getD, List.getElem?_eq_getElem hjl])
                obtain ⟨g0, hg0⟩ : ∃ x, x = gs.getD j (0, 0) := ⟨_, rfl⟩
                rw [← hg0] at g1 g2 hoG
                have HG0 := Lib.hid hg0
                clear hg0
                have hgh := hm_ok hoG
                have hgh0 := hm_nonneg g0
                have hh3 := HF3.out.blk HH2.out id
                have z1 : wr.cell? ⟨bu + 1, 0, none⟩ = some (.int .i64 0) := blk_cell hh3 0
                have z2 : wr.cell? ⟨bu + 1, 1, none⟩ = some (.int .i64 0) := blk_cell hh3 1
                clear hh3
                obtain ⟨N0, hN0⟩ : ∃ x, x = Nn gs ps j := ⟨_, rfl⟩
                rw [← hN0] at hnb ⊢
                have HN0 := Lib.hid hN0
                clear hN0
                have w1' : IntKind.i64.wrap (2 * hm g0) = 2 * hm g0 := IntWalk.i64_in _ (by omega)
                have w2' : IntKind.i64.wrap (n + N0 + 2 * hm g0) = n + N0 + 2 * hm g0 := IntWalk.i64_in _ (by omega)
                go_upto_region 26 with (fail)
                have q1 := cell_regrown g1
                have q2 := cell_regrown g2
                have q3 := cell_regrown z1
                have q4 := cell_regrown z2
                have R1 : ∀ d os, Calls Try.prog 12 #[spV (0, 0), spV g0] (grow (redrawn wr d) os) fun e w'' => e = .returned (.int .i64 (hm g0)) ∧ ∃ p : Regrown, w'' = grow (redrawn wr p.d) p.os := fun d os => Calls.regrown_of ((refDrive_any (0, 0) g0 _ nearS.zero hoG.near).mono fun e w' ⟨he, hf⟩ => ⟨he, hf.below (Nat.le_refl _) (fun _ _ h => h)⟩)
                refine wp_region_quiet_below (by kernel_rfl) (by kernel_rfl) ?_
                repeat (go_big_quiet_step ((with_reducible exact R1 _ _)))
                refine wpQuiet_nil ?_
                intro w8 hw8
                obtain ⟨pp, rfl⟩ := hw8
                have hf8 := Fr.of_below (below_regrown wr pp.d pp.os) No
                generalize grow (redrawn wr pp.d) pp.os = w8 at *
                have HF8 := Lib.hid (HF3.out.nn hf8)
                clear q1 q2 q3 q4 R1 g1 g2 z1 z2 w1' w2' hf8 cu
                go_wp2_with fail
                go_roundg (gk - 1)
                case measure => have := HGJ.out; omega
                case rel => exact ⟨j + 1, by have := HGJ.out; omega, by go_num, by rw [HNS.out, if_neg HM.out, ← HN0.out, ← HG0.out, Int.add_assoc], HF8.out⟩
            · obtain rfl : j = gs.length := by have := HGJ.out; omega
              go_wp2_with fail
              go_ret2
              exact ⟨by rw [HE.out]; rfl, HF2.out.nn HF3.out⟩

theorem refCost_any (u v x : Value) (ss gs : List Spot) (ps : List Int) (w : World) (hu : RdS w u ss) (hv : RdS w v gs) (hx : RdI w x ps) :
    Calls Try.prog 21 #[u, v, x] w fun e w' => e = .returned (.tuple #[.int .i64 (costA ss gs ps).1, .int .i64 (costA ss gs ps).2]) ∧ Fr w w' No := by
  by_cases h : okL ss ∧ okL gs ∧ ps.length = ss.length ∧ inR gs.length ps
  · unfold costA; rw [if_pos h]
    exact refCost_good u v x ss gs ps w hu hv hx h.1 h.2.1 h.2.2.1 h.2.2.2
  · unfold costA; rw [if_neg h]
    exact refCost_bad u v x ss gs ps w hu hv hx h
end Go.Proofs.Ytggogohoakbepaa
