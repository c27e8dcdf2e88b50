import Derived.Test.YtoilalohhicipaaRf2
import Derived.Deep.CutBlock
import Derived.Deep.DeepCutAuto
namespace Go.Proofs.Ytoilalohhicipaa
open Go.RowKit
set_option linter.unusedVariables false
set_option linter.unusedSimpArgs false

theorem tenBlk {w : World} {g : Nat} {c0 c1 c2 c3 c4 c5 c6 c7 c8 c9 : Value} (h : w.heap[g]? = some (.cells #[c0, c1, c2, c3, c4, c5, c6, c7, c8, c9] 45 (0, 0))) (v0 v1 v2 v3 v4 v5 v6 v7 v8 v9 : Value) :
    ((((((((((w.setCell ⟨g, 0, none⟩ v0).setCell ⟨g, 1, none⟩ v1).setCell ⟨g, 2, none⟩ v2).setCell ⟨g, 3, none⟩ v3).setCell ⟨g, 4, none⟩ v4).setCell ⟨g, 5, none⟩ v5).setCell ⟨g, 6, none⟩ v6).setCell ⟨g, 7, none⟩ v7).setCell ⟨g, 8, none⟩ v8).setCell ⟨g, 9, none⟩ v9).heap[g]? = some (.cells #[v0, v1, v2, v3, v4, v5, v6, v7, v8, v9] 45 (0, 0)) := by
  have q0 := blk_set h 0 v0
  have q1 := blk_set q0 1 v1
  have q2 := blk_set q1 2 v2
  have q3 := blk_set q2 3 v3
  have q4 := blk_set q3 4 v4
  have q5 := blk_set q4 5 v5
  have q6 := blk_set q5 6 v6
  have q7 := blk_set q6 7 v7
  have q8 := blk_set q7 8 v8
  have q9 := blk_set q8 9 v9
  simpa using q9
theorem tenFr1 (w : World) (g : Nat) (v0 v1 v2 v3 v4 v5 v6 v7 v8 v9 : Value) : Fr w ((((((((((w.setCell ⟨g, 0, none⟩ v0).setCell ⟨g, 1, none⟩ v1).setCell ⟨g, 2, none⟩ v2).setCell ⟨g, 3, none⟩ v3).setCell ⟨g, 4, none⟩ v4).setCell ⟨g, 5, none⟩ v5).setCell ⟨g, 6, none⟩ v6).setCell ⟨g, 7, none⟩ v7).setCell ⟨g, 8, none⟩ v8).setCell ⟨g, 9, none⟩ v9) (One g) :=
  Fr.to_one (Fr.to_one (Fr.to_one (Fr.to_one (Fr.to_one (Fr.to_one (Fr.to_one (Fr.to_one (Fr.to_one (Fr.to_one (Fr.refl _ _) _ _) _ _) _ _) _ _) _ _) _ _) _ _) _ _) _ _) _ _

/-- The law's state: the shuttle in g, the document's in bm. -/
structure Pl (w wr : World) (g bm : Nat) (s : St) : Prop where
  sh : ShAt wr g s
  blk : wr.heap[bm]? = some (.cells #[.int .i64 s.n, .int .i64 s.pat, .int .i64 s.place, .int .i64 s.state, .int .i64 s.was, .int .i64 s.ticks, .int .i64 s.tote, .int .i64 s.fr, .int .i64 s.to_, .int .i64 s.done] 45 (0, 0))
  fr : Fr w wr No
  ok : Ok s
  hg : w.heap.size ≤ g
  hb : w.heap.size ≤ bm
theorem Pl.ne {w wr : World} {g bm : Nat} {s : St} (h : Pl w wr g bm s) : bm ≠ g := blk_ne h.blk h.sh (by decide)
theorem Pl.keep0 {w wr w' : World} {g bm : Nat} {s : St} (h : Pl w wr g bm s) (hf : Fr wr w' No) : Pl w w' g bm s :=
  ⟨h.sh.keep0 hf, hf.blk h.blk (fun h => h), h.fr.nn hf, h.ok, h.hg, h.hb⟩
/-- The shuttle's step, the document's answer, and its store. -/
theorem Pl.step {w w4 w5 w6 : World} {g bm : Nat} {s T : St} (h : Pl w w4 g bm s) (hs : ShAt w5 g T) (h5 : Fr w4 w5 (One g)) (h6 : Fr w5 w6 No) (hO : Ok T) : Pl w ((((((((((w6.setCell ⟨bm, 0, none⟩ (.int .i64 T.n)).setCell ⟨bm, 1, none⟩ (.int .i64 T.pat)).setCell ⟨bm, 2, none⟩ (.int .i64 T.place)).setCell ⟨bm, 3, none⟩ (.int .i64 T.state)).setCell ⟨bm, 4, none⟩ (.int .i64 T.was)).setCell ⟨bm, 5, none⟩ (.int .i64 T.ticks)).setCell ⟨bm, 6, none⟩ (.int .i64 T.tote)).setCell ⟨bm, 7, none⟩ (.int .i64 T.fr)).setCell ⟨bm, 8, none⟩ (.int .i64 T.to_)).setCell ⟨bm, 9, none⟩ (.int .i64 T.done)) g bm T := by
  have hb := h6.blk (h5.blk h.blk (fun e => h.ne e)) (fun h => h)
  have hF := tenFr1 w6 bm (.int .i64 T.n) (.int .i64 T.pat) (.int .i64 T.place) (.int .i64 T.state) (.int .i64 T.was) (.int .i64 T.ticks) (.int .i64 T.tote) (.int .i64 T.fr) (.int .i64 T.to_) (.int .i64 T.done)
  exact ⟨(hs.keep0 h6).keep hF (fun e => h.ne e.symm), tenBlk hb (.int .i64 T.n) (.int .i64 T.pat) (.int .i64 T.place) (.int .i64 T.state) (.int .i64 T.was) (.int .i64 T.ticks) (.int .i64 T.tote) (.int .i64 T.fr) (.int .i64 T.to_) (.int .i64 T.done), ((h.fr.in1 h5 h.hg).nn h6).in1 hF h.hb, hO, h.hg, h.hb⟩

theorem info45 : (Try.prog.info? 45).map (·.size) = some 10 := by kernel_rfl
theorem wpList_store45 {w : World} {ops : Array Oper} {rest : List Oper} {a : Act} {Q : Exit → Act → World → Prop} {ty : TypeId} {pos : String} {aft : Array Edge} {ptr val : Operand} (b : Nat) (y0 y1 y2 y3 y4 y5 y6 y7 y8 y9 x0 x1 x2 x3 x4 x5 x6 x7 x8 x9 : Int)
    (hp : a.eval ptr = .pointer (some ⟨b, 0, none⟩)) (hv : a.eval val = .agg #[.int .i64 x0, .int .i64 x1, .int .i64 x2, .int .i64 x3, .int .i64 x4, .int .i64 x5, .int .i64 x6, .int .i64 x7, .int .i64 x8, .int .i64 x9]) (hb : w.heap[b]? = some (.cells #[.int .i64 y0, .int .i64 y1, .int .i64 y2, .int .i64 y3, .int .i64 y4, .int .i64 y5, .int .i64 y6, .int .i64 y7, .int .i64 y8, .int .i64 y9] 45 (0, 0)))
    (h : ∀ w', w'.heap[b]? = some (.cells #[.int .i64 x0, .int .i64 x1, .int .i64 x2, .int .i64 x3, .int .i64 x4, .int .i64 x5, .int .i64 x6, .int .i64 x7, .int .i64 x8, .int .i64 x9] 45 (0, 0)) → Fr w w' (One b) → wpList Try.prog ops Q rest (a.put none undef) w') : wpList Try.prog ops Q ({ dst := none, op := .store 45 ptr val, type := ty, pos := pos, after := aft, guard := none } :: rest) a w := by
  refine wpList_store_row rfl 45 ptr val rfl b #[.int .i64 x0, .int .i64 x1, .int .i64 x2, .int .i64 x3, .int .i64 x4, .int .i64 x5, .int .i64 x6, .int .i64 x7, .int .i64 x8, .int .i64 x9] hp hv 45 #[.int .i64 y0, .int .i64 y1, .int .i64 y2, .int .i64 y3, .int .i64 y4, .int .i64 y5, .int .i64 y6, .int .i64 y7, .int .i64 y8, .int .i64 y9] hb info45 rfl (by simp [Value.oneCell']) ?_
  exact h _ (setRow_heap w b _ _ 45 (0, 0) hb) ⟨rfl, rfl, rfl, by simp, fun k _ hk => setRow_other w b k _ (fun e => hk e)⟩
theorem Pl.step2 {w w4 w5 w6 w7 : World} {g bm : Nat} {s T : St} (h : Pl w w4 g bm s) (hs : ShAt w5 g T) (h5 : Fr w4 w5 (One g)) (h6 : Fr w5 w6 No) (hO : Ok T) (hb7 : w7.heap[bm]? = some (.cells #[.int .i64 T.n, .int .i64 T.pat, .int .i64 T.place, .int .i64 T.state, .int .i64 T.was, .int .i64 T.ticks, .int .i64 T.tote, .int .i64 T.fr, .int .i64 T.to_, .int .i64 T.done] 45 (0, 0))) (hf7 : Fr w6 w7 (One bm)) : Pl w w7 g bm T :=
  ⟨(hs.keep0 h6).keep hf7 (fun e => h.ne e.symm), hb7, ((h.fr.in1 h5 h.hg).nn h6).in1 hf7 h.hb, hO, h.hg, h.hb⟩

set_option maxRecDepth 100000 in
set_option maxHeartbeats 40000000 in
theorem shuttlePlays_bad (w : World) (n a p : Int) (v : Value) (m : Nat) (hv : ∃ a c, v = .slice a m c) (h : newBad n a p) :
    Calls Try.prog 5 #[.agg #[.int .i64 n, .int .i64 a, .int .i64 p], v] w fun e w' => e = .returned (.bool true) ∧ Fr w w' No := by
  obtain ⟨av, cv, rfl⟩ := hv
  have H := Lib.hid h
  clear h
  go_enter Try.func5, Try.ntmps5
  go_wp2_with fail
  refine (awake_any _).mono ?_
  rintro e w1 ⟨rfl, hf1⟩
  have hb := hf1.blk (blk_new w (.cells #[.int .i64 n, .int .i64 a, .int .i64 p] 23)) (fun h => h)
  have hF := Lib.hid ((Fr.alloc w (.cells #[.int .i64 n, .int .i64 a, .int .i64 p] 23) No).nn hf1)
  have c0 : w1.cell? ⟨w.heap.size, 0, none⟩ = some (.int .i64 n) := blk_cell hb 0
  have c1 : w1.cell? ⟨w.heap.size, 1, none⟩ = some (.int .i64 a) := blk_cell hb 1
  have c2 : w1.cell? ⟨w.heap.size, 2, none⟩ = some (.int .i64 p) := blk_cell hb 2
  clear hb hf1
  go_wp2_with fail
  refine (new_bad _ n a p H.out).mono ?_
  rintro e w2 ⟨rfl, rfl⟩
  go_wp2_with fail
  refine (refNew_bad _ n a p H.out).mono ?_
  rintro e w3 ⟨rfl, hf3⟩
  have hF3 := Lib.hid (hF.out.nn hf3)
  clear hf3 c0 c1 c2
  go_wp2_with fail
  have hF4 := Lib.hid (hF3.out.nn (Fr.alloc w3 (.cells #[.int .i64 0, .int .i64 0, .int .i64 0, .int .i64 0, .int .i64 0, .int .i64 0, .int .i64 0, .int .i64 0, .int .i64 0, .int .i64 0] 45) No))
  generalize w3.alloc (.cells #[.int .i64 0, .int .i64 0, .int .i64 0, .int .i64 0, .int .i64 0, .int .i64 0, .int .i64 0, .int .i64 0, .int .i64 0, .int .i64 0] 45) = w4 at *
  go_loopw [9] (fun v9 wr => v9 = .int .i64 0 ∧ Fr w wr No) (fun i _ => 0)
  case atStart => exact ⟨rfl, hF4.out⟩
  case round =>
    obtain ⟨rfl, hf⟩ := hrel
    have HF := Lib.hid hf
    clear hf
    go_wp2
    go_ret
    exact ⟨rfl, HF.out⟩

set_option maxRecDepth 100000 in
set_option maxHeartbeats 40000000 in
theorem shuttlePlays_good (w : World) (n a p : Int) (v : Value) (m : Nat) (fl : List Int) (hv : Rd w v m (fl.map (Value.int .i64)) 5) (hm : m ≤ 17592186044415) (h : ¬ newBad n a p) :
    Calls Try.prog 5 #[.agg #[.int .i64 n, .int .i64 a, .int .i64 p], v] w fun e w' => e = .returned (.bool true) ∧ Fr w w' No := by
  obtain ⟨av, cv, rfl⟩ : ∃ a c, v = .slice a m c := by obtain ⟨_, a, c, h, _⟩ := hv; exact ⟨a, c, h⟩
  have HV := Lib.hid hv
  have H := Lib.hid h
  clear h hv
  go_enter Try.func5, Try.ntmps5
  go_wp2_with fail
  refine (awake_any _).mono ?_
  rintro e w1 ⟨rfl, hf1⟩
  have hb := hf1.blk (blk_new w (.cells #[.int .i64 n, .int .i64 a, .int .i64 p] 23)) (fun h => h)
  have hF := Lib.hid ((Fr.alloc w (.cells #[.int .i64 n, .int .i64 a, .int .i64 p] 23) No).nn hf1)
  have c0 : w1.cell? ⟨w.heap.size, 0, none⟩ = some (.int .i64 n) := blk_cell hb 0
  have c1 : w1.cell? ⟨w.heap.size, 1, none⟩ = some (.int .i64 a) := blk_cell hb 1
  have c2 : w1.cell? ⟨w.heap.size, 2, none⟩ = some (.int .i64 p) := blk_cell hb 2
  go_wp2_with fail
  refine (new_ok _ n a p H.out).mono ?_
  rintro e w2 ⟨rfl, hs, hf2⟩
  have hb2 := hf2.blk hb (fun h => h)
  have d0 : w2.cell? ⟨w.heap.size, 0, none⟩ = some (.int .i64 n) := blk_cell hb2 0
  have d1 : w2.cell? ⟨w.heap.size, 1, none⟩ = some (.int .i64 a) := blk_cell hb2 1
  have d2 : w2.cell? ⟨w.heap.size, 2, none⟩ = some (.int .i64 p) := blk_cell hb2 2
  go_wp2_with fail
  refine (refNew_ok _ n a p H.out).mono ?_
  rintro e w3 ⟨rfl, hf3⟩
  have hO := ok_new n a p H.out
  generalize hS : newS n a p = S0 at *
  have hd0 : S0.done = 0 := by rw [← hS]; rfl
  have HD0 := Lib.hid hd0
  have HP : Hid (Pl w (w3.alloc (.cells #[.int .i64 S0.n, .int .i64 S0.pat, .int .i64 S0.place, .int .i64 S0.state, .int .i64 S0.was, .int .i64 S0.ticks, .int .i64 S0.tote, .int .i64 S0.fr, .int .i64 S0.to_, .int .i64 S0.done] 45)) w1.heap.size w3.heap.size S0) := Lib.hid
    ⟨(hs.keep0 hf3).keep0 (Fr.alloc _ _ _), blk_new _ _, ((hF.out.nn hf2).nn hf3).nn (Fr.alloc _ _ _), hO, hF.out.size, ((hF.out.nn hf2).nn hf3).size⟩
  clear hS hF hf1 hf2 hf3 hs hb hb2 c0 c1 c2 d0 d1 d2 hO hd0
  go_wp2_with fail
  generalize w3.alloc (.cells #[.int .i64 S0.n, .int .i64 S0.pat, .int .i64 S0.place, .int .i64 S0.state, .int .i64 S0.was, .int .i64 S0.ticks, .int .i64 S0.tote, .int .i64 S0.fr, .int .i64 S0.to_, .int .i64 S0.done] 45) = w4 at *
  generalize w1.heap.size = g at *
  generalize w3.heap.size = bm at *
  go_loopw [9] (fun v9 wr => ∃ (k : Nat) (s : St), k ≤ m ∧ k ≤ 300 ∧ v9 = .int .i64 k ∧ s.done ≤ k ∧ Pl w wr g bm s) (fun i _ => 300 - (intOf i).toNat)
  case atStart => exact ⟨0, S0, by omega, by omega, rfl, by rw [HD0.out]; decide, HP.out⟩
  case round =>
    clear HP HD0
    obtain ⟨k, s, hk, hk50, rfl, hd, hR⟩ := hrel
    have HR := Lib.hid hR
    clear hR
    by_cases hlt : k < m ∧ k < 300
    · obtain ⟨hlt, hlt50⟩ := hlt
      obtain ⟨b, off, rfl, hcell⟩ := (HV.out.keep0 HR.out.fr).get k hlt
      have hk0 := hcell 0 (by decide)
      simp only [Nat.add_zero] at hk0
      have hk1 := hcell 1 (by decide)
      have hk2 := hcell 2 (by decide)
      have hk3 := hcell 3 (by decide)
      have hk4 := hcell 4 (by decide)
      generalize fl.getD (k * 5) 0 = K at *
      generalize fl.getD (k * 5 + 1) 0 = N at *
      generalize fl.getD (k * 5 + 2) 0 = t at *
      generalize fl.getD (k * 5 + 3) 0 = f at *
      generalize fl.getD (k * 5 + 4) 0 = o at *
      clear hcell
      have HBW := Lib.hid (HR.out.keep0 (Fr.alloc wr (.cells #[.int .i64 K, .int .i64 N, .int .i64 t, .int .i64 f, .int .i64 o] 49) No))
      have HO := Lib.hid (blk_new wr (.cells #[.int .i64 K, .int .i64 N, .int .i64 t, .int .i64 f, .int .i64 o] 49))
      have hglt : g < wr.heap.size := HR.out.sh.lt
      go_upto_block 2 with (fail)
      generalize hw4 : wr.alloc (.cells #[.int .i64 K, .int .i64 N, .int .i64 t, .int .i64 f, .int .i64 o] 49) = w4 at *
      generalize wr.heap.size = bo at *
      clear hk0 hk1 hk2 hk3 hk4 hw4 HR
      have hbo : bo ≠ g := by omega
      have ko0 : w4.cell? ⟨bo, 0, none⟩ = some (.int .i64 K) := blk_cell HO.out 0
      have ko1 : w4.cell? ⟨bo, 1, none⟩ = some (.int .i64 N) := blk_cell HO.out 1
      have ko2 : w4.cell? ⟨bo, 2, none⟩ = some (.int .i64 t) := blk_cell HO.out 2
      have ko3 : w4.cell? ⟨bo, 3, none⟩ = some (.int .i64 f) := blk_cell HO.out 3
      have ko4 : w4.cell? ⟨bo, 4, none⟩ = some (.int .i64 o) := blk_cell HO.out 4
      have hcase : (K == 1) = true ∨ ((K == 1) = false ∧ (K == 2) = true) ∨ ((K == 1) = false ∧ (K == 2) = false ∧ (K == 3) = true) ∨ ((K == 1) = false ∧ (K == 2) = false ∧ (K == 3) = false ∧ (K == 4) = true) ∨ ((K == 1) = false ∧ (K == 2) = false ∧ (K == 3) = false ∧ (K == 4) = false ∧ (K == 5) = true) ∨
          ((K == 1) = false ∧ (K == 2) = false ∧ (K == 3) = false ∧ (K == 4) = false ∧ (K == 5) = false ∧ (K == 6) = true) ∨ ((K == 1) = false ∧ (K == 2) = false ∧ (K == 3) = false ∧ (K == 4) = false ∧ (K == 5) = false ∧ (K == 6) = false) := by
        by_cases a1 : K = 1 <;> by_cases a2 : K = 2 <;> by_cases a3 : K = 3 <;> by_cases a4 : K = 4 <;> by_cases a5 : K = 5 <;> by_cases a6 : K = 6 <;> simp [a1, a2, a3, a4, a5, a6]
      have hd0 := HBW.out.ok.d1
      have ht0 := HBW.out.ok.t1
      have ht1 := HBW.out.ok.t2
      have hp1 := HBW.out.ok.p2
      have hw1 := HBW.out.ok.w1
      have hw2 := HBW.out.ok.w2
      go_cut [6, 8, 11, 12, 13] from 46 to 155 (fun v6 v8 v11 v12 v13 wx => ∃ S E, v6 = .int .i64 E ∧ v8 = .int .i64 E ∧ S.done ≤ (k : Int) + 1 ∧ Pl w wx g bm S)
      case first =>
        rcases hcase with c1 | ⟨c1, c2⟩ | ⟨c1, c2, c3⟩ | ⟨c1, c2, c3, c4⟩ | ⟨c1, c2, c3, c4, c5⟩ | ⟨c1, c2, c3, c4, c5, c6⟩ | ⟨c1, c2, c3, c4, c5, c6⟩
        · as_aux_lemma =>
          go_wp2_with fail
          refine (assign_any w4 g s t f o HBW.out.sh).mono ?_
          rintro e w5 ⟨rfl, hs5, hf5⟩
          have ko1' : w5.cell? ⟨bo, 1, none⟩ = some (.int .i64 N) := hf5.cell ko1 hbo
          have ko2' : w5.cell? ⟨bo, 2, none⟩ = some (.int .i64 t) := hf5.cell ko2 hbo
          have ko3' : w5.cell? ⟨bo, 3, none⟩ = some (.int .i64 f) := hf5.cell ko3 hbo
          have ko4' : w5.cell? ⟨bo, 4, none⟩ = some (.int .i64 o) := hf5.cell ko4 hbo
          have hb5 := hf5.blk HBW.out.blk (fun e => HBW.out.ne e)
          have HS5 := Lib.hid hs5
          have HF5 := Lib.hid hf5
          clear hs5 hf5
          have kb0 : w5.cell? ⟨bm, 0, none⟩ = some (.int .i64 s.n) := blk_cell hb5 0
          have kb1 : w5.cell? ⟨bm, 1, none⟩ = some (.int .i64 s.pat) := blk_cell hb5 1
          have kb2 : w5.cell? ⟨bm, 2, none⟩ = some (.int .i64 s.place) := blk_cell hb5 2
          have kb3 : w5.cell? ⟨bm, 3, none⟩ = some (.int .i64 s.state) := blk_cell hb5 3
          have kb4 : w5.cell? ⟨bm, 4, none⟩ = some (.int .i64 s.was) := blk_cell hb5 4
          have kb5 : w5.cell? ⟨bm, 5, none⟩ = some (.int .i64 s.ticks) := blk_cell hb5 5
          have kb6 : w5.cell? ⟨bm, 6, none⟩ = some (.int .i64 s.tote) := blk_cell hb5 6
          have kb7 : w5.cell? ⟨bm, 7, none⟩ = some (.int .i64 s.fr) := blk_cell hb5 7
          have kb8 : w5.cell? ⟨bm, 8, none⟩ = some (.int .i64 s.to_) := blk_cell hb5 8
          have kb9 : w5.cell? ⟨bm, 9, none⟩ = some (.int .i64 s.done) := blk_cell hb5 9
          have HB5 := Lib.hid hb5
          clear hb5 ko0 ko1 ko2 ko3 ko4
          go_wp2_with fail
          refine (refAssign_any w5 s t f o).mono ?_
          rintro e w6 ⟨rfl, hf6⟩
          have hb6 := hf6.blk HB5.out (fun h => h)
          have kc0 : w6.cell? ⟨bm, 0, none⟩ = some (.int .i64 s.n) := blk_cell hb6 0
          have kc1 : w6.cell? ⟨bm, 1, none⟩ = some (.int .i64 s.pat) := blk_cell hb6 1
          have kc2 : w6.cell? ⟨bm, 2, none⟩ = some (.int .i64 s.place) := blk_cell hb6 2
          have kc3 : w6.cell? ⟨bm, 3, none⟩ = some (.int .i64 s.state) := blk_cell hb6 3
          have kc4 : w6.cell? ⟨bm, 4, none⟩ = some (.int .i64 s.was) := blk_cell hb6 4
          have kc5 : w6.cell? ⟨bm, 5, none⟩ = some (.int .i64 s.ticks) := blk_cell hb6 5
          have kc6 : w6.cell? ⟨bm, 6, none⟩ = some (.int .i64 s.tote) := blk_cell hb6 6
          have kc7 : w6.cell? ⟨bm, 7, none⟩ = some (.int .i64 s.fr) := blk_cell hb6 7
          have kc8 : w6.cell? ⟨bm, 8, none⟩ = some (.int .i64 s.to_) := blk_cell hb6 8
          have kc9 : w6.cell? ⟨bm, 9, none⟩ = some (.int .i64 s.done) := blk_cell hb6 9
          have HOK : Hid (Ok (assignS s t f o)) := Lib.hid (HBW.out.ok.assign t f o)
          have HDN : Hid ((assignS s t f o).done ≤ (k : Int) + 1) := Lib.hid (by rw [(assign_load t f o).2]; omega)
          have HB6 := Lib.hid hb6
          have HF6 := Lib.hid hf6
          clear hb6 hf6 HB5 kb0 kb1 kb2 kb3 kb4 kb5 kb6 kb7 kb8 kb9 ko1' ko2' ko3' ko4'
          generalize (assignS s t f o) = T at *
          generalize (assignE s t f o) = E at *
          go_wp2_with (with_reducible refine wpList_store45 bm s.n s.pat s.place s.state s.was s.ticks s.tote s.fr s.to_ s.done T.n T.pat T.place T.state T.was T.ticks T.tote T.fr T.to_ T.done ?s1 ?s2 HB6.out ?_)
          case s1 => rfl
          case s2 => rfl
          intro w7 hb7 hf7
          have HZ := Lib.hid (HBW.out.step2 HS5.out HF5.out HF6.out HOK.out hb7 hf7)
          clear hb7 hf7 kc0 kc1 kc2 kc3 kc4 kc5 kc6 kc7 kc8 kc9 HBW HS5 HF5 HF6 HB6
          go_wp2_with fail
          go_meet
          case rel => exact ⟨T, E, rfl, rfl, HDN.out, HZ.out⟩
        · as_aux_lemma =>
          go_wp2_with fail
          refine (tick_any w4 g s ht0 (by omega) HBW.out.sh).mono ?_
          rintro e w5 ⟨rfl, hs5, hf5⟩
          have hf5a := hf5
          have hb5 := (Fr.alloc w5 (.cells #[.int .i64 (tickK s), .int .i64 (tickW s)] 37) No).blk (hf5.blk HBW.out.blk (fun e => HBW.out.ne e)) (fun h => h)
          have hx5 := blk_new w5 (.cells #[.int .i64 (tickK s), .int .i64 (tickW s)] 37)
          have hs6 := hs5.keep0 (Fr.alloc w5 (.cells #[.int .i64 (tickK s), .int .i64 (tickW s)] 37) No)
          have hf6 := hf5.r1 (Fr.alloc w5 (.cells #[.int .i64 (tickK s), .int .i64 (tickW s)] 37) No)
          clear hs5 hf5 hf5a
          have HS5 := Lib.hid hs6
          have HF5 := Lib.hid hf6
          clear hs6 hf6
          go_upto_region 18 with (fail)
          obtain ⟨bx, hbx⟩ : ∃ bx, w5.heap.size = bx := ⟨_, rfl⟩
          rw [hbx] at hx5 ⊢
          generalize w5.alloc (.cells #[.int .i64 (tickK s), .int .i64 (tickW s)] 37) = w5q at *
          have HX5 := Lib.hid hx5
          clear hx5 hbx
          have kb0 : w5q.cell? ⟨bm, 0, none⟩ = some (.int .i64 s.n) := blk_cell hb5 0
          have kb1 : w5q.cell? ⟨bm, 1, none⟩ = some (.int .i64 s.pat) := blk_cell hb5 1
          have kb2 : w5q.cell? ⟨bm, 2, none⟩ = some (.int .i64 s.place) := blk_cell hb5 2
          have kb3 : w5q.cell? ⟨bm, 3, none⟩ = some (.int .i64 s.state) := blk_cell hb5 3
          have kb4 : w5q.cell? ⟨bm, 4, none⟩ = some (.int .i64 s.was) := blk_cell hb5 4
          have kb5 : w5q.cell? ⟨bm, 5, none⟩ = some (.int .i64 s.ticks) := blk_cell hb5 5
          have kb6 : w5q.cell? ⟨bm, 6, none⟩ = some (.int .i64 s.tote) := blk_cell hb5 6
          have kb7 : w5q.cell? ⟨bm, 7, none⟩ = some (.int .i64 s.fr) := blk_cell hb5 7
          have kb8 : w5q.cell? ⟨bm, 8, none⟩ = some (.int .i64 s.to_) := blk_cell hb5 8
          have kb9 : w5q.cell? ⟨bm, 9, none⟩ = some (.int .i64 s.done) := blk_cell hb5 9
          have HB5 := Lib.hid hb5
          clear hb5 ko0 ko1 ko2 ko3 ko4
          go_wp2_with fail
          refine (refTick_any w5q s HBW.out.ok).mono ?_
          rintro e w6 ⟨rfl, hf6⟩
          have hb6 := hf6.blk HB5.out (fun h => h)
          have kc0 : w6.cell? ⟨bm, 0, none⟩ = some (.int .i64 s.n) := blk_cell hb6 0
          have kc1 : w6.cell? ⟨bm, 1, none⟩ = some (.int .i64 s.pat) := blk_cell hb6 1
          have kc2 : w6.cell? ⟨bm, 2, none⟩ = some (.int .i64 s.place) := blk_cell hb6 2
          have kc3 : w6.cell? ⟨bm, 3, none⟩ = some (.int .i64 s.state) := blk_cell hb6 3
          have kc4 : w6.cell? ⟨bm, 4, none⟩ = some (.int .i64 s.was) := blk_cell hb6 4
          have kc5 : w6.cell? ⟨bm, 5, none⟩ = some (.int .i64 s.ticks) := blk_cell hb6 5
          have kc6 : w6.cell? ⟨bm, 6, none⟩ = some (.int .i64 s.tote) := blk_cell hb6 6
          have kc7 : w6.cell? ⟨bm, 7, none⟩ = some (.int .i64 s.fr) := blk_cell hb6 7
          have kc8 : w6.cell? ⟨bm, 8, none⟩ = some (.int .i64 s.to_) := blk_cell hb6 8
          have kc9 : w6.cell? ⟨bm, 9, none⟩ = some (.int .i64 s.done) := blk_cell hb6 9
          have hx6 := hf6.blk HX5.out (fun h => h)
          have hbm : bm ≠ bx := blk_ne hb6 hx6 (by decide)
          have kx0 : w6.cell? ⟨bx, 0, none⟩ = some (.int .i64 (tickK s)) := blk_cell hx6 0
          have kx1 : w6.cell? ⟨bx, 1, none⟩ = some (.int .i64 (tickW s)) := blk_cell hx6 1
          have x1 : (tickK s != tickK s) = false := bne_self_eq_false _
          have x2 : (tickW s != tickW s) = false := bne_self_eq_false _
          have HX6 := Lib.hid hx6
          clear hx6 HX5 kx0 kx1
          have HOK : Hid (Ok (tickS s)) := Lib.hid HBW.out.ok.tick
          have HDN : Hid ((tickS s).done ≤ (k : Int) + 1) := Lib.hid (by rw [tick_load.2.1]; omega)
          have HB6 := Lib.hid hb6
          have HF6 := Lib.hid hf6
          clear hb6 hf6 HB5 kb0 kb1 kb2 kb3 kb4 kb5 kb6 kb7 kb8 kb9
          generalize tickS s = T at *
          generalize tickK s = TK at *
          generalize tickW s = TW at *
          go_wp2_with (with_reducible refine wpList_store45 bm s.n s.pat s.place s.state s.was s.ticks s.tote s.fr s.to_ s.done T.n T.pat T.place T.state T.was T.ticks T.tote T.fr T.to_ T.done ?s1 ?s2 HB6.out ?_)
          case s1 => rfl
          case s2 => rfl
          intro w7 hb7 hf7
          have HZ := Lib.hid (HBW.out.step2 HS5.out HF5.out HF6.out HOK.out hb7 hf7)
          have hx7 := hf7.blk HX6.out (fun e => hbm e.symm)
          have kx0 : w7.cell? ⟨bx, 0, none⟩ = some (.int .i64 TK) := blk_cell hx7 0
          have kx1 : w7.cell? ⟨bx, 1, none⟩ = some (.int .i64 TW) := blk_cell hx7 1
          clear hx7
          clear hb7 hf7 kc0 kc1 kc2 kc3 kc4 kc5 kc6 kc7 kc8 kc9 HBW HS5 HF5 HF6 HB6
          go_wp2_with fail
          go_meet
          case rel => exact ⟨T, 0, rfl, rfl, HDN.out, HZ.out⟩
        · as_aux_lemma =>
          go_wp2_with fail
          refine (moved_any w4 g s N HBW.out.sh).mono ?_
          rintro e w5 ⟨rfl, hs5, hf5⟩
          have ko1' : w5.cell? ⟨bo, 1, none⟩ = some (.int .i64 N) := hf5.cell ko1 hbo
          have ko2' : w5.cell? ⟨bo, 2, none⟩ = some (.int .i64 t) := hf5.cell ko2 hbo
          have ko3' : w5.cell? ⟨bo, 3, none⟩ = some (.int .i64 f) := hf5.cell ko3 hbo
          have ko4' : w5.cell? ⟨bo, 4, none⟩ = some (.int .i64 o) := hf5.cell ko4 hbo
          have hb5 := hf5.blk HBW.out.blk (fun e => HBW.out.ne e)
          have HS5 := Lib.hid hs5
          have HF5 := Lib.hid hf5
          clear hs5 hf5
          have kb0 : w5.cell? ⟨bm, 0, none⟩ = some (.int .i64 s.n) := blk_cell hb5 0
          have kb1 : w5.cell? ⟨bm, 1, none⟩ = some (.int .i64 s.pat) := blk_cell hb5 1
          have kb2 : w5.cell? ⟨bm, 2, none⟩ = some (.int .i64 s.place) := blk_cell hb5 2
          have kb3 : w5.cell? ⟨bm, 3, none⟩ = some (.int .i64 s.state) := blk_cell hb5 3
          have kb4 : w5.cell? ⟨bm, 4, none⟩ = some (.int .i64 s.was) := blk_cell hb5 4
          have kb5 : w5.cell? ⟨bm, 5, none⟩ = some (.int .i64 s.ticks) := blk_cell hb5 5
          have kb6 : w5.cell? ⟨bm, 6, none⟩ = some (.int .i64 s.tote) := blk_cell hb5 6
          have kb7 : w5.cell? ⟨bm, 7, none⟩ = some (.int .i64 s.fr) := blk_cell hb5 7
          have kb8 : w5.cell? ⟨bm, 8, none⟩ = some (.int .i64 s.to_) := blk_cell hb5 8
          have kb9 : w5.cell? ⟨bm, 9, none⟩ = some (.int .i64 s.done) := blk_cell hb5 9
          have HB5 := Lib.hid hb5
          clear hb5 ko0 ko1 ko2 ko3 ko4
          go_wp2_with fail
          refine (refMoved_any w5 s N).mono ?_
          rintro e w6 ⟨rfl, hf6⟩
          have hb6 := hf6.blk HB5.out (fun h => h)
          have kc0 : w6.cell? ⟨bm, 0, none⟩ = some (.int .i64 s.n) := blk_cell hb6 0
          have kc1 : w6.cell? ⟨bm, 1, none⟩ = some (.int .i64 s.pat) := blk_cell hb6 1
          have kc2 : w6.cell? ⟨bm, 2, none⟩ = some (.int .i64 s.place) := blk_cell hb6 2
          have kc3 : w6.cell? ⟨bm, 3, none⟩ = some (.int .i64 s.state) := blk_cell hb6 3
          have kc4 : w6.cell? ⟨bm, 4, none⟩ = some (.int .i64 s.was) := blk_cell hb6 4
          have kc5 : w6.cell? ⟨bm, 5, none⟩ = some (.int .i64 s.ticks) := blk_cell hb6 5
          have kc6 : w6.cell? ⟨bm, 6, none⟩ = some (.int .i64 s.tote) := blk_cell hb6 6
          have kc7 : w6.cell? ⟨bm, 7, none⟩ = some (.int .i64 s.fr) := blk_cell hb6 7
          have kc8 : w6.cell? ⟨bm, 8, none⟩ = some (.int .i64 s.to_) := blk_cell hb6 8
          have kc9 : w6.cell? ⟨bm, 9, none⟩ = some (.int .i64 s.done) := blk_cell hb6 9
          have HOK : Hid (Ok (movedS s N)) := Lib.hid (HBW.out.ok.moved N)
          have HDN : Hid ((movedS s N).done ≤ (k : Int) + 1) := Lib.hid (by rw [(moved_load N).2]; omega)
          have HB6 := Lib.hid hb6
          have HF6 := Lib.hid hf6
          clear hb6 hf6 HB5 kb0 kb1 kb2 kb3 kb4 kb5 kb6 kb7 kb8 kb9 ko1' ko2' ko3' ko4'
          generalize (movedS s N) = T at *
          generalize (movedE s N) = E at *
          go_wp2_with (with_reducible refine wpList_store45 bm s.n s.pat s.place s.state s.was s.ticks s.tote s.fr s.to_ s.done T.n T.pat T.place T.state T.was T.ticks T.tote T.fr T.to_ T.done ?s1 ?s2 HB6.out ?_)
          case s1 => rfl
          case s2 => rfl
          intro w7 hb7 hf7
          have HZ := Lib.hid (HBW.out.step2 HS5.out HF5.out HF6.out HOK.out hb7 hf7)
          clear hb7 hf7 kc0 kc1 kc2 kc3 kc4 kc5 kc6 kc7 kc8 kc9 HBW HS5 HF5 HF6 HB6
          go_wp2_with fail
          go_meet
          case rel => exact ⟨T, E, rfl, rfl, HDN.out, HZ.out⟩
        · as_aux_lemma =>
          go_wp2_with fail
          refine (picked_any w4 g s N HBW.out.sh).mono ?_
          rintro e w5 ⟨rfl, hs5, hf5⟩
          have ko1' : w5.cell? ⟨bo, 1, none⟩ = some (.int .i64 N) := hf5.cell ko1 hbo
          have ko2' : w5.cell? ⟨bo, 2, none⟩ = some (.int .i64 t) := hf5.cell ko2 hbo
          have ko3' : w5.cell? ⟨bo, 3, none⟩ = some (.int .i64 f) := hf5.cell ko3 hbo
          have ko4' : w5.cell? ⟨bo, 4, none⟩ = some (.int .i64 o) := hf5.cell ko4 hbo
          have hb5 := hf5.blk HBW.out.blk (fun e => HBW.out.ne e)
          have HS5 := Lib.hid hs5
          have HF5 := Lib.hid hf5
          clear hs5 hf5
          have kb0 : w5.cell? ⟨bm, 0, none⟩ = some (.int .i64 s.n) := blk_cell hb5 0
          have kb1 : w5.cell? ⟨bm, 1, none⟩ = some (.int .i64 s.pat) := blk_cell hb5 1
          have kb2 : w5.cell? ⟨bm, 2, none⟩ = some (.int .i64 s.place) := blk_cell hb5 2
          have kb3 : w5.cell? ⟨bm, 3, none⟩ = some (.int .i64 s.state) := blk_cell hb5 3
          have kb4 : w5.cell? ⟨bm, 4, none⟩ = some (.int .i64 s.was) := blk_cell hb5 4
          have kb5 : w5.cell? ⟨bm, 5, none⟩ = some (.int .i64 s.ticks) := blk_cell hb5 5
          have kb6 : w5.cell? ⟨bm, 6, none⟩ = some (.int .i64 s.tote) := blk_cell hb5 6
          have kb7 : w5.cell? ⟨bm, 7, none⟩ = some (.int .i64 s.fr) := blk_cell hb5 7
          have kb8 : w5.cell? ⟨bm, 8, none⟩ = some (.int .i64 s.to_) := blk_cell hb5 8
          have kb9 : w5.cell? ⟨bm, 9, none⟩ = some (.int .i64 s.done) := blk_cell hb5 9
          have HB5 := Lib.hid hb5
          clear hb5 ko0 ko1 ko2 ko3 ko4
          go_wp2_with fail
          refine (refPicked_any w5 s N).mono ?_
          rintro e w6 ⟨rfl, hf6⟩
          have hb6 := hf6.blk HB5.out (fun h => h)
          have kc0 : w6.cell? ⟨bm, 0, none⟩ = some (.int .i64 s.n) := blk_cell hb6 0
          have kc1 : w6.cell? ⟨bm, 1, none⟩ = some (.int .i64 s.pat) := blk_cell hb6 1
          have kc2 : w6.cell? ⟨bm, 2, none⟩ = some (.int .i64 s.place) := blk_cell hb6 2
          have kc3 : w6.cell? ⟨bm, 3, none⟩ = some (.int .i64 s.state) := blk_cell hb6 3
          have kc4 : w6.cell? ⟨bm, 4, none⟩ = some (.int .i64 s.was) := blk_cell hb6 4
          have kc5 : w6.cell? ⟨bm, 5, none⟩ = some (.int .i64 s.ticks) := blk_cell hb6 5
          have kc6 : w6.cell? ⟨bm, 6, none⟩ = some (.int .i64 s.tote) := blk_cell hb6 6
          have kc7 : w6.cell? ⟨bm, 7, none⟩ = some (.int .i64 s.fr) := blk_cell hb6 7
          have kc8 : w6.cell? ⟨bm, 8, none⟩ = some (.int .i64 s.to_) := blk_cell hb6 8
          have kc9 : w6.cell? ⟨bm, 9, none⟩ = some (.int .i64 s.done) := blk_cell hb6 9
          have HOK : Hid (Ok (handS s 2 3 N)) := Lib.hid (HBW.out.ok.picked N)
          have HDN : Hid ((handS s 2 3 N).done ≤ (k : Int) + 1) := Lib.hid (by rw [(picked_load N).2.2.1]; omega)
          have HB6 := Lib.hid hb6
          have HF6 := Lib.hid hf6
          clear hb6 hf6 HB5 kb0 kb1 kb2 kb3 kb4 kb5 kb6 kb7 kb8 kb9 ko1' ko2' ko3' ko4'
          generalize (handS s 2 3 N) = T at *
          generalize (handE s 2 N) = E at *
          go_wp2_with (with_reducible refine wpList_store45 bm s.n s.pat s.place s.state s.was s.ticks s.tote s.fr s.to_ s.done T.n T.pat T.place T.state T.was T.ticks T.tote T.fr T.to_ T.done ?s1 ?s2 HB6.out ?_)
          case s1 => rfl
          case s2 => rfl
          intro w7 hb7 hf7
          have HZ := Lib.hid (HBW.out.step2 HS5.out HF5.out HF6.out HOK.out hb7 hf7)
          clear hb7 hf7 kc0 kc1 kc2 kc3 kc4 kc5 kc6 kc7 kc8 kc9 HBW HS5 HF5 HF6 HB6
          go_wp2_with fail
          go_meet
          case rel => exact ⟨T, E, rfl, rfl, HDN.out, HZ.out⟩
        · as_aux_lemma =>
          go_wp2_with fail
          refine (dropped_any w4 g s N hd0 (by omega) HBW.out.sh).mono ?_
          rintro e w5 ⟨rfl, hs5, hf5⟩
          have ko1' : w5.cell? ⟨bo, 1, none⟩ = some (.int .i64 N) := hf5.cell ko1 hbo
          have ko2' : w5.cell? ⟨bo, 2, none⟩ = some (.int .i64 t) := hf5.cell ko2 hbo
          have ko3' : w5.cell? ⟨bo, 3, none⟩ = some (.int .i64 f) := hf5.cell ko3 hbo
          have ko4' : w5.cell? ⟨bo, 4, none⟩ = some (.int .i64 o) := hf5.cell ko4 hbo
          have hb5 := hf5.blk HBW.out.blk (fun e => HBW.out.ne e)
          have HS5 := Lib.hid hs5
          have HF5 := Lib.hid hf5
          clear hs5 hf5
          have kb0 : w5.cell? ⟨bm, 0, none⟩ = some (.int .i64 s.n) := blk_cell hb5 0
          have kb1 : w5.cell? ⟨bm, 1, none⟩ = some (.int .i64 s.pat) := blk_cell hb5 1
          have kb2 : w5.cell? ⟨bm, 2, none⟩ = some (.int .i64 s.place) := blk_cell hb5 2
          have kb3 : w5.cell? ⟨bm, 3, none⟩ = some (.int .i64 s.state) := blk_cell hb5 3
          have kb4 : w5.cell? ⟨bm, 4, none⟩ = some (.int .i64 s.was) := blk_cell hb5 4
          have kb5 : w5.cell? ⟨bm, 5, none⟩ = some (.int .i64 s.ticks) := blk_cell hb5 5
          have kb6 : w5.cell? ⟨bm, 6, none⟩ = some (.int .i64 s.tote) := blk_cell hb5 6
          have kb7 : w5.cell? ⟨bm, 7, none⟩ = some (.int .i64 s.fr) := blk_cell hb5 7
          have kb8 : w5.cell? ⟨bm, 8, none⟩ = some (.int .i64 s.to_) := blk_cell hb5 8
          have kb9 : w5.cell? ⟨bm, 9, none⟩ = some (.int .i64 s.done) := blk_cell hb5 9
          have HB5 := Lib.hid hb5
          clear hb5 ko0 ko1 ko2 ko3 ko4
          go_wp2_with fail
          refine (refDropped_any w5 s N hd0 (by omega)).mono ?_
          rintro e w6 ⟨rfl, hf6⟩
          have hb6 := hf6.blk HB5.out (fun h => h)
          have kc0 : w6.cell? ⟨bm, 0, none⟩ = some (.int .i64 s.n) := blk_cell hb6 0
          have kc1 : w6.cell? ⟨bm, 1, none⟩ = some (.int .i64 s.pat) := blk_cell hb6 1
          have kc2 : w6.cell? ⟨bm, 2, none⟩ = some (.int .i64 s.place) := blk_cell hb6 2
          have kc3 : w6.cell? ⟨bm, 3, none⟩ = some (.int .i64 s.state) := blk_cell hb6 3
          have kc4 : w6.cell? ⟨bm, 4, none⟩ = some (.int .i64 s.was) := blk_cell hb6 4
          have kc5 : w6.cell? ⟨bm, 5, none⟩ = some (.int .i64 s.ticks) := blk_cell hb6 5
          have kc6 : w6.cell? ⟨bm, 6, none⟩ = some (.int .i64 s.tote) := blk_cell hb6 6
          have kc7 : w6.cell? ⟨bm, 7, none⟩ = some (.int .i64 s.fr) := blk_cell hb6 7
          have kc8 : w6.cell? ⟨bm, 8, none⟩ = some (.int .i64 s.to_) := blk_cell hb6 8
          have kc9 : w6.cell? ⟨bm, 9, none⟩ = some (.int .i64 s.done) := blk_cell hb6 9
          have HOK : Hid (Ok (dropS s N)) := Lib.hid (HBW.out.ok.dropped N)
          have HDN : Hid ((dropS s N).done ≤ (k : Int) + 1) := Lib.hid (by unfold dropS; split <;> first | omega | (show s.done + 1 ≤ (k : Int) + 1; omega))
          have HB6 := Lib.hid hb6
          have HF6 := Lib.hid hf6
          clear hb6 hf6 HB5 kb0 kb1 kb2 kb3 kb4 kb5 kb6 kb7 kb8 kb9 ko1' ko2' ko3' ko4'
          generalize (dropS s N) = T at *
          generalize (handE s 4 N) = E at *
          go_wp2_with (with_reducible refine wpList_store45 bm s.n s.pat s.place s.state s.was s.ticks s.tote s.fr s.to_ s.done T.n T.pat T.place T.state T.was T.ticks T.tote T.fr T.to_ T.done ?s1 ?s2 HB6.out ?_)
          case s1 => rfl
          case s2 => rfl
          intro w7 hb7 hf7
          have HZ := Lib.hid (HBW.out.step2 HS5.out HF5.out HF6.out HOK.out hb7 hf7)
          clear hb7 hf7 kc0 kc1 kc2 kc3 kc4 kc5 kc6 kc7 kc8 kc9 HBW HS5 HF5 HF6 HB6
          go_wp2_with fail
          go_meet
          case rel => exact ⟨T, E, rfl, rfl, HDN.out, HZ.out⟩
        · as_aux_lemma =>
          go_wp2_with fail
          refine (reset_any w4 g s hw1 (by omega) HBW.out.sh).mono ?_
          rintro e w5 ⟨rfl, hs5, hf5⟩
          have ko1' : w5.cell? ⟨bo, 1, none⟩ = some (.int .i64 N) := hf5.cell ko1 hbo
          have ko2' : w5.cell? ⟨bo, 2, none⟩ = some (.int .i64 t) := hf5.cell ko2 hbo
          have ko3' : w5.cell? ⟨bo, 3, none⟩ = some (.int .i64 f) := hf5.cell ko3 hbo
          have ko4' : w5.cell? ⟨bo, 4, none⟩ = some (.int .i64 o) := hf5.cell ko4 hbo
          have hb5 := hf5.blk HBW.out.blk (fun e => HBW.out.ne e)
          have HS5 := Lib.hid hs5
          have HF5 := Lib.hid hf5
          clear hs5 hf5
          have kb0 : w5.cell? ⟨bm, 0, none⟩ = some (.int .i64 s.n) := blk_cell hb5 0
          have kb1 : w5.cell? ⟨bm, 1, none⟩ = some (.int .i64 s.pat) := blk_cell hb5 1
          have kb2 : w5.cell? ⟨bm, 2, none⟩ = some (.int .i64 s.place) := blk_cell hb5 2
          have kb3 : w5.cell? ⟨bm, 3, none⟩ = some (.int .i64 s.state) := blk_cell hb5 3
          have kb4 : w5.cell? ⟨bm, 4, none⟩ = some (.int .i64 s.was) := blk_cell hb5 4
          have kb5 : w5.cell? ⟨bm, 5, none⟩ = some (.int .i64 s.ticks) := blk_cell hb5 5
          have kb6 : w5.cell? ⟨bm, 6, none⟩ = some (.int .i64 s.tote) := blk_cell hb5 6
          have kb7 : w5.cell? ⟨bm, 7, none⟩ = some (.int .i64 s.fr) := blk_cell hb5 7
          have kb8 : w5.cell? ⟨bm, 8, none⟩ = some (.int .i64 s.to_) := blk_cell hb5 8
          have kb9 : w5.cell? ⟨bm, 9, none⟩ = some (.int .i64 s.done) := blk_cell hb5 9
          have HB5 := Lib.hid hb5
          clear hb5 ko0 ko1 ko2 ko3 ko4
          go_wp2_with fail
          refine (refReset_any w5 s).mono ?_
          rintro e w6 ⟨rfl, hf6⟩
          have hb6 := hf6.blk HB5.out (fun h => h)
          have kc0 : w6.cell? ⟨bm, 0, none⟩ = some (.int .i64 s.n) := blk_cell hb6 0
          have kc1 : w6.cell? ⟨bm, 1, none⟩ = some (.int .i64 s.pat) := blk_cell hb6 1
          have kc2 : w6.cell? ⟨bm, 2, none⟩ = some (.int .i64 s.place) := blk_cell hb6 2
          have kc3 : w6.cell? ⟨bm, 3, none⟩ = some (.int .i64 s.state) := blk_cell hb6 3
          have kc4 : w6.cell? ⟨bm, 4, none⟩ = some (.int .i64 s.was) := blk_cell hb6 4
          have kc5 : w6.cell? ⟨bm, 5, none⟩ = some (.int .i64 s.ticks) := blk_cell hb6 5
          have kc6 : w6.cell? ⟨bm, 6, none⟩ = some (.int .i64 s.tote) := blk_cell hb6 6
          have kc7 : w6.cell? ⟨bm, 7, none⟩ = some (.int .i64 s.fr) := blk_cell hb6 7
          have kc8 : w6.cell? ⟨bm, 8, none⟩ = some (.int .i64 s.to_) := blk_cell hb6 8
          have kc9 : w6.cell? ⟨bm, 9, none⟩ = some (.int .i64 s.done) := blk_cell hb6 9
          have HOK : Hid (Ok (resetS s)) := Lib.hid HBW.out.ok.reset
          have HDN : Hid ((resetS s).done ≤ (k : Int) + 1) := Lib.hid (by rw [(reset_load HBW.out.ok).2]; omega)
          have HB6 := Lib.hid hb6
          have HF6 := Lib.hid hf6
          clear hb6 hf6 HB5 kb0 kb1 kb2 kb3 kb4 kb5 kb6 kb7 kb8 kb9 ko1' ko2' ko3' ko4'
          generalize (resetS s) = T at *
          generalize (resetE s) = E at *
          go_wp2_with (with_reducible refine wpList_store45 bm s.n s.pat s.place s.state s.was s.ticks s.tote s.fr s.to_ s.done T.n T.pat T.place T.state T.was T.ticks T.tote T.fr T.to_ T.done ?s1 ?s2 HB6.out ?_)
          case s1 => rfl
          case s2 => rfl
          intro w7 hb7 hf7
          have HZ := Lib.hid (HBW.out.step2 HS5.out HF5.out HF6.out HOK.out hb7 hf7)
          clear hb7 hf7 kc0 kc1 kc2 kc3 kc4 kc5 kc6 kc7 kc8 kc9 HBW HS5 HF5 HF6 HB6
          go_wp2_with fail
          go_meet
          case rel => exact ⟨T, E, rfl, rfl, HDN.out, HZ.out⟩
        · go_wp2_with fail
          go_meet
          case rel => exact ⟨s, 0, rfl, rfl, by omega, HBW.out⟩
      case rest =>
        obtain ⟨S9, E9, rfl, rfl, hd9, hR9⟩ := hcut
        have HR9 := Lib.hid hR9
        clear hR9 HBW HO ko0 ko1 ko2 ko3 ko4
        have kb0 : wc.cell? ⟨bm, 0, none⟩ = some (.int .i64 S9.n) := blk_cell HR9.out.blk 0
        have kb1 : wc.cell? ⟨bm, 1, none⟩ = some (.int .i64 S9.pat) := blk_cell HR9.out.blk 1
        have kb2 : wc.cell? ⟨bm, 2, none⟩ = some (.int .i64 S9.place) := blk_cell HR9.out.blk 2
        have kb3 : wc.cell? ⟨bm, 3, none⟩ = some (.int .i64 S9.state) := blk_cell HR9.out.blk 3
        have kb4 : wc.cell? ⟨bm, 4, none⟩ = some (.int .i64 S9.was) := blk_cell HR9.out.blk 4
        have kb5 : wc.cell? ⟨bm, 5, none⟩ = some (.int .i64 S9.ticks) := blk_cell HR9.out.blk 5
        have kb6 : wc.cell? ⟨bm, 6, none⟩ = some (.int .i64 S9.tote) := blk_cell HR9.out.blk 6
        have kb7 : wc.cell? ⟨bm, 7, none⟩ = some (.int .i64 S9.fr) := blk_cell HR9.out.blk 7
        have kb8 : wc.cell? ⟨bm, 8, none⟩ = some (.int .i64 S9.to_) := blk_cell HR9.out.blk 8
        have kb9 : wc.cell? ⟨bm, 9, none⟩ = some (.int .i64 S9.done) := blk_cell HR9.out.blk 9
        have xe : (E9 != E9) = false := bne_self_eq_false _
        go_wp2_with fail
        refine (tells_any wc g S9 HR9.out.sh).mono ?_
        rintro e w9 ⟨rfl, hf9⟩
        have HR10 := Lib.hid (HR9.out.keep0 hf9)
        clear hf9 kb0 kb1 kb2 kb3 kb4 kb5 kb6 kb7 kb8 kb9
        go_wp2
        go_roundw
        case rel => exact ⟨k + 1, S9, by omega, by omega, by go_num, by omega, HR10.out⟩
        case measure => simp [intOf]; omega
    · have hcase : (¬ k < m) ∨ (k < m ∧ ¬ k < 300) := by omega
      clear hlt
      rcases hcase with hlt | ⟨hlt, hlt2⟩
      all_goals
        go_wp2
        go_ret
        exact ⟨rfl, HR.out.fr⟩

/-- As the row wants it. -/
theorem shuttlePlays_row (w : World) (n a p : Int) (_ : ∀ z ∈ [n, a, p], (Lit.int .i64 z).wf = true) (v : Value) (m : Nat) (fl : List Int) (hv : Rd w v m (fl.map (Value.int .i64)) 5) (hm : m ≤ 17592186044415) :
    Calls Try.prog 5 #[.agg #[.int .i64 n, .int .i64 a, .int .i64 p], v] w fun e w' => e = .returned (.bool true) ∧ Fr w w' No := by
  by_cases h : newBad n a p
  · exact shuttlePlays_bad w n a p v m (by obtain ⟨_, a, c, h, _⟩ := hv; exact ⟨a, c, h⟩) h
  · exact shuttlePlays_good w n a p v m fl hv hm h

end Go.Proofs.Ytoilalohhicipaa
