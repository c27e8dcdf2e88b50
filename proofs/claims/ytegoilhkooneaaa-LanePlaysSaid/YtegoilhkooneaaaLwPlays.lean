import Derived.Test.YtegoilhkooneaaaRf2
namespace Go.Proofs.Ytegoilhkooneaaa
open Go.RowKit
set_option linter.unusedVariables false
set_option linter.unusedSimpArgs false

theorem ahead_any (g : Nat) (ts : List Int) (d : Nat) (t : Int) (w : World) (hL : LaneAt w g ts d) :
    Calls Try.prog 26 #[.pointer (some ⟨g, 0, none⟩), .int .i64 t] w fun e w' => ∃ v, e = .returned (.tuple #[v, .int .i64 (aheadE ts t)]) ∧ NewI w w' v (aheadOf ts t) := by
  have hi := idx_ge t ts
  by_cases c : idx t ts < 0
  · unfold aheadE aheadOf
    rw [if_pos c, if_pos c]
    exact (ahead_none g ts d t w hL c).mono fun e w' ⟨he, hf⟩ => ⟨_, he, Sl.nil _ _ _, hf, by simp [Value.ownBlock]⟩
  · unfold aheadE aheadOf
    rw [if_neg c, if_neg c]
    exact ahead_some g ts d t (idx t ts).toNat w hL (by omega)

/-- The lane's state in the law: the lane, the document's lane in its own block. -/
structure Both (w wr : World) (g bm : Nat) (a : Option Addr) (n c : Nat) (d : Nat) (ts : List Int) : Prop where
  lane : LaneAt wr g ts d
  blk : wr.heap[bm]? = some (.cells #[.int .i64 d, .slice a n c] 42 (0, 0))
  len : n = ts.length
  new : NewI w wr (.slice a n c) ts
theorem Both.keep {w wr w' : World} {g bm : Nat} {a : Option Addr} {n c : Nat} {d : Nat} {ts : List Int} {S : Nat → Prop} (h : Both w wr g bm a n c d ts) (hf : Fr wr w' S) (h1 : ¬ S g) (h2 : ¬ S bm) (h3 : ∀ k, (Value.slice a n c).ownBlock = some k → ¬ S k) (h4 : ∀ k, S k → w.heap.size ≤ k) : Both w w' g bm a n c d ts :=
  ⟨h.lane.keep hf h1, hf.blk h.blk h2, h.len, h.new.keep hf h3 h4⟩
theorem Both.keep0 {w wr w' : World} {g bm : Nat} {a : Option Addr} {n c : Nat} {d : Nat} {ts : List Int} (h : Both w wr g bm a n c d ts) (hf : Fr wr w' No) : Both w w' g bm a n c d ts :=
  h.keep hf (fun h => h) (fun h => h) (fun _ _ h => h) (fun _ h => h.elim)
theorem Both.ne {w wr : World} {g bm : Nat} {a : Option Addr} {n c : Nat} {d : Nat} {ts : List Int} (h : Both w wr g bm a n c d ts) : bm ≠ g ∧ (Value.slice a n c).ownBlock ≠ some g ∧ (Value.slice a n c).ownBlock ≠ some bm :=
  ⟨by obtain ⟨_, _, _, r, _, hb⟩ := h.lane; exact blk_ne h.blk hb (by decide), h.lane.ne h.new.1, Sl.ne h.new.1 h.blk (by decide)⟩
/-- Behind a call of the lane's: the document's lane stands as it was. -/
theorem Both.lane_step {w wr w' : World} {g bm : Nat} {a : Option Addr} {n c : Nat} {d : Nat} {ts : List Int} (h : Both w wr g bm a n c d ts) (hf : Fr wr w' (One g)) (hg : w.heap.size ≤ g) :
    w'.heap[bm]? = some (.cells #[.int .i64 d, .slice a n c] 42 (0, 0)) ∧ NewI w w' (.slice a n c) ts :=
  ⟨hf.blk h.blk (fun e => h.ne.1 e), h.new.keep hf (fun k hk e => h.ne.2.1 (by rw [hk, show k = g from e])) (fun k e => by rw [show k = g from e]; exact hg)⟩
/-- .. and then the document's lane's answer is stored. -/
theorem Both.store {w w1 w2 : World} {g bm : Nat} {a a' : Option Addr} {n n' c c' : Nat} {d : Nat} {ts T : List Int} (hl : LaneAt w1 g T d) (hb : w1.heap[bm]? = some (.cells #[.int .i64 d, .slice a n c] 42 (0, 0))) (hN : NewI w w1 (.slice a n c) ts)
    (hR : RefL w1 w2 (.slice a n c) (.slice a' n' c') T) (hn : n' = T.length) (hbm : w.heap.size ≤ bm) :
    Both w ((w2.setCell ⟨bm, 0, none⟩ (.int .i64 d)).setCell ⟨bm, 1, none⟩ (.slice a' n' c')) g bm a' n' c' d T := by
  have hl2 := hl.keep hR.2.1 (fun h => h)
  have hb2 := hR.2.1.blk hb (fun h => h)
  have hne : bm ≠ g := by obtain ⟨_, _, _, r, _, hb⟩ := hl2; exact blk_ne hb2 hb (by decide)
  have hf : Fr w2 ((w2.setCell ⟨bm, 0, none⟩ (.int .i64 d)).setCell ⟨bm, 1, none⟩ (.slice a' n' c')) (One bm) := ((Fr.refl w2 (One bm)).to_one _ _).to_one _ _
  have hN2 : NewI w w2 (.slice a' n' c') T := by
    refine ⟨hR.1, hN.2.1.nn hR.2.1, fun k hk => ?_⟩
    rcases hR.2.2 with e | e
    · rw [e] at hk; exact hN.2.2 k hk
    · exact Nat.le_trans hN.2.1.size (e k hk)
  refine ⟨hl2.keep hf (fun e => hne e.symm), ?_, hn, hN2.keep hf (fun k hk e => Sl.ne hR.1 hb2 (by decide) (by rw [hk, show k = bm from e])) (fun k e => by rw [show k = bm from e]; exact hbm)⟩
  have := blk_set (blk_set hb2 0 (.int .i64 d)) 1 (.slice a' n' c')
  simpa using this

/-- A slice that is new since w1 lies apart from all that the state holds. -/
theorem Both.apart {w w1 w2 : World} {g bm : Nat} {a : Option Addr} {n c : Nat} {d : Nat} {ts : List Int} (h : Both w w1 g bm a n c d ts) {v : Value} {zs : List Int} (hN : NewI w1 w2 v zs) :
    ∀ k, v.ownBlock = some k → k ≠ g ∧ k ≠ bm ∧ (Value.slice a n c).ownBlock ≠ some k ∧ w.heap.size ≤ k := fun k hk => by
  have h1 := hN.2.2 k hk
  have h2 := h.lane.lt
  have h3 := blk_lt h.blk
  have h4 := h.new.2.1.size
  refine ⟨by omega, by omega, fun e => ?_, by omega⟩
  have := Sl.lt h.new.1 k e
  omega
/-- .. and may be written. -/
theorem Both.write {w wr : World} {g bm : Nat} {a : Option Addr} {n c : Nat} {d : Nat} {ts : List Int} (h : Both w wr g bm a n c d ts) {v : Value}
    (ha : ∀ k, v.ownBlock = some k → k ≠ g ∧ k ≠ bm ∧ (Value.slice a n c).ownBlock ≠ some k ∧ w.heap.size ≤ k) (b o : Nat) (hb : v.ownBlock = some b) (u : Value) : Both w (wr.setCell ⟨b, o, none⟩ u) g bm a n c d ts := by
  obtain ⟨h1, h2, h3, h4⟩ := ha b hb
  exact h.keep (Fr.setCell wr ⟨b, o, none⟩ u) (fun e => h1 e.symm) (fun e => h2 e.symm) (fun k hk e => h3 (by rw [hk, show k = b from e])) (fun k e => by rw [show k = b from e]; exact h4)

set_option maxRecDepth 100000 in
set_option maxHeartbeats 1000000 in
theorem lanePlays_bad (w : World) (x : Int) (v : Value) (hx : x < 1 ∨ 8 < x) :
    Calls Try.prog 6 #[.int .i64 x, v] w fun e w' => e = .returned (.bool true) ∧ Fr w w' No := by
  have hcase : x < 1 ∨ (¬ x < 1 ∧ 8 < x) := by omega
  have HX := Lib.hid hx
  clear hx
  rcases hcase with hx | ⟨hx, hx2⟩
  all_goals
    go_enter Try.func6, Try.ntmps6
    go_wp2_with fail
    refine (awake_any w).mono ?_
    rintro e w1 ⟨rfl, hf1⟩
    go_wp2_with fail
    refine (new_bad x w1 HX.out).mono ?_
    rintro e w2 ⟨rfl, rfl⟩
    go_wp2
    go_ret
    exact ⟨rfl, hf1⟩

set_option maxRecDepth 100000 in
set_option maxHeartbeats 1000000 in
theorem lanePlays_good (w : World) (d : Nat) (h1 : 1 ≤ d) (h8' : d ≤ 8) (v : Value) (n : Nat) (fl : List Int) (hv : Rd w v n (fl.map (Value.int .i64)) 2) (hn : n ≤ 17592186044415) :
    Calls Try.prog 6 #[.int .i64 d, v] w fun e w' => e = .returned (.bool true) ∧ Fr w w' No := by
  obtain ⟨a, c, rfl⟩ : ∃ a c, v = .slice a n c := by obtain ⟨_, a, c, h, _⟩ := hv; exact ⟨a, c, h⟩
  have HV := Lib.hid hv
  have b1 : ¬ (d : Int) < 1 := by omega
  have b2 : ¬ 8 < (d : Int) := by omega
  clear hv
  go_enter Try.func6, Try.ntmps6
  go_wp2_with fail
  refine (awake_any w).mono ?_
  rintro e w1 ⟨rfl, hf1⟩
  go_wp2_with fail
  refine (new_ok d w1 h1 h8').mono ?_
  rintro e w2 ⟨rfl, hL, hf2⟩
  have hg : w.heap.size ≤ w1.heap.size := hf1.size
  generalize w1.heap.size = g at *
  have hf := hf1.nn hf2
  have HL := Lib.hid hL
  have HF := Lib.hid hf
  clear hf1 hf2 hL hf
  go_wp2_with fail
  have hb := blk_new w2 (.cells #[.int .i64 d, .slice none 0 0] 42)
  have HB0 : Hid (Both w (w2.alloc (.cells #[.int .i64 d, .slice none 0 0] 42)) g w2.heap.size none 0 0 d []) := Lib.hid
    ⟨HL.out.keep (Fr.alloc _ _ No) (fun h => h), hb, rfl, Sl.nil _ _ _, HF.out.nn (Fr.alloc _ _ _), by simp [Value.ownBlock]⟩
  have hbm : w.heap.size ≤ w2.heap.size := HF.out.size
  generalize w2.alloc (.cells #[.int .i64 d, .slice none 0 0] 42) = w3 at *
  generalize w2.heap.size = bm at *
  clear hb HL HF
  go_loopw [8] (fun v8 wr => ∃ (k : Nat) (ts : List Int) (a' : Option Addr) (n' c' : Nat), k ≤ n ∧ k ≤ 200 ∧ v8 = .int .i64 k ∧ Both w wr g bm a' n' c' d ts) (fun i _ => 200 - (intOf i).toNat)
  case atStart => exact ⟨0, [], none, 0, 0, by omega, by omega, rfl, HB0.out⟩
  case round =>
    clear HB0
    obtain ⟨k, ts, a', n', c', hk, hk50, rfl, hB⟩ := hrel
    have HB := Lib.hid hB
    clear hB
    by_cases hlt : k < n ∧ k < 200
    · obtain ⟨hlt, hlt50⟩ := hlt
      obtain ⟨b, off, rfl, hcell⟩ := (HV.out.keep0 HB.out.new.2.1).get k hlt
      have hk0 := hcell 0 (by decide)
      simp only [Nat.add_zero] at hk0
      have hk1 := hcell 1 (by decide)
      generalize fl.getD (k * 2) 0 = K at *
      generalize fl.getD (k * 2 + 1) 0 = t at *
      clear hcell
      have h8 := HB.out.lane.1
      have hcase : (K == 1) = true ∨ ((K == 1) = false ∧ (K == 2) = true) ∨ ((K == 1) = false ∧ (K == 2) = false ∧ (K == 3) = true) ∨ ((K == 1) = false ∧ (K == 2) = false ∧ (K == 3) = false ∧ (K == 4) = true) ∨ ((K == 1) = false ∧ (K == 2) = false ∧ (K == 3) = false ∧ (K == 4) = false) := by
        by_cases a1 : K = 1 <;> by_cases a2 : K = 2 <;> by_cases a3 : K = 3 <;> by_cases a4 : K = 4 <;> simp [a1, a2, a3, a4]
      have HBW := Lib.hid (HB.out.keep0 (Fr.alloc wr (.cells #[.int .i64 K, .int .i64 t] 39) No))
      have HO := Lib.hid (blk_new wr (.cells #[.int .i64 K, .int .i64 t] 39))
      have hglt : g < wr.heap.size := HB.out.lane.lt
      go_upto_region 13 with (fail)
      generalize hw4 : wr.alloc (.cells #[.int .i64 K, .int .i64 t] 39) = w4 at *
      generalize wr.heap.size = bo at *
      have ko0 : w4.cell? ⟨bo, 0, none⟩ = some (.int .i64 K) := blk_cell HO.out 0
      have ko1 : w4.cell? ⟨bo, 1, none⟩ = some (.int .i64 t) := blk_cell HO.out 1
      clear hk0 hk1 hw4 HB
      rcases hcase with c1 | ⟨c1, c2⟩ | ⟨c1, c2, c3⟩ | ⟨c1, c2, c3, c4⟩ | ⟨c1, c2, c3, c4⟩
      case' inl =>
        go_wp2_with fail
        refine (push_any g ts d t _ HBW.out.lane).mono ?_
        rintro e w5 ⟨rfl, hL5, hf5⟩
        obtain ⟨hb5, hN5⟩ := HBW.out.lane_step hf5 hg
        have ko1' : w5.cell? ⟨bo, 1, none⟩ = some (.int .i64 t) := hf5.cell ko1 (fun e => by have : bo = g := e; omega)
        have kb0 : w5.cell? ⟨bm, 0, none⟩ = some (.int .i64 d) := blk_cell hb5 0
        have kb1 : w5.cell? ⟨bm, 1, none⟩ = some (.slice a' n' c') := blk_cell hb5 1
        have HS5 := Lib.hid (And.intro hL5 (And.intro hb5 hN5))
        clear ko0 ko1 hL5 hf5 hb5 hN5
        go_wp2_with fail
        refine (refPush_any w5 d _ ts t HS5.out.2.2.1 h8 h8').mono ?_
        rintro e w6 ⟨v6, rfl, hR⟩
        obtain ⟨a6, c6, rfl, _⟩ := hR.1.form
        have hb6 := hR.2.1.blk HS5.out.2.1 (fun h => h)
        have HB7 := Lib.hid (Both.store HS5.out.1 HS5.out.2.1 HS5.out.2.2 hR rfl hbm)
        have k0 : w6.cell? ⟨bm, 0, none⟩ = some (.int .i64 d) := blk_cell hb6 0
        have k1 : w6.cell? ⟨bm, 1, none⟩ = some (.slice a' n' c') := blk_cell hb6 1
        have z0 := blk_frozen hb6 0
        have z1 := blk_frozen hb6 1
        clear hR hb6 kb0 kb1 ko1'
        generalize pushE d ts t = E at *
        generalize pushT d ts t = T at *
        go_wp2_with fail
        generalize (w6.setCell ⟨bm, 0, none⟩ (.int .i64 d)).setCell ⟨bm, 1, none⟩ (.slice a6 T.length c6) = w7 at *
      case' inr.inl =>
        go_wp2_with fail
        refine (pop_any g ts d _ HBW.out.lane).mono ?_
        rintro e w5 ⟨rfl, hL5, hf5⟩
        obtain ⟨hb5, hN5⟩ := HBW.out.lane_step hf5 hg
        have kb0 : w5.cell? ⟨bm, 0, none⟩ = some (.int .i64 d) := blk_cell hb5 0
        have kb1 : w5.cell? ⟨bm, 1, none⟩ = some (.slice a' n' c') := blk_cell hb5 1
        have HS5 := Lib.hid (And.intro hL5 (And.intro hb5 hN5))
        clear ko0 ko1 hL5 hf5 hb5 hN5
        go_wp2_with fail
        refine (refPop_any w5 d _ ts HS5.out.2.2.1 h8 h8').mono ?_
        rintro e w6 ⟨v6, rfl, hR⟩
        obtain ⟨a6, c6, rfl, _⟩ := hR.1.form
        have hb6 := hR.2.1.blk HS5.out.2.1 (fun h => h)
        have HB7 := Lib.hid (Both.store HS5.out.1 HS5.out.2.1 HS5.out.2.2 hR rfl hbm)
        have k0 : w6.cell? ⟨bm, 0, none⟩ = some (.int .i64 d) := blk_cell hb6 0
        have k1 : w6.cell? ⟨bm, 1, none⟩ = some (.slice a' n' c') := blk_cell hb6 1
        have z0 := blk_frozen hb6 0
        have z1 := blk_frozen hb6 1
        clear hR hb6 kb0 kb1
        generalize popE ts = E at *
        generalize popX ts = X at *
        generalize ts.dropLast = T at *
        have hX : (X != X) = false := bne_self_eq_false X
        go_wp2_with fail
        generalize (w6.setCell ⟨bm, 0, none⟩ (.int .i64 d)).setCell ⟨bm, 1, none⟩ (.slice a6 T.length c6) = w7 at *
      case' inr.inr.inl =>
        go_wp2_with fail
        refine (take_any g ts d t _ HBW.out.lane).mono ?_
        rintro e w5 ⟨rfl, hL5, hf5⟩
        obtain ⟨hb5, hN5⟩ := HBW.out.lane_step hf5 hg
        have ko1' : w5.cell? ⟨bo, 1, none⟩ = some (.int .i64 t) := hf5.cell ko1 (fun e => by have : bo = g := e; omega)
        have kb0 : w5.cell? ⟨bm, 0, none⟩ = some (.int .i64 d) := blk_cell hb5 0
        have kb1 : w5.cell? ⟨bm, 1, none⟩ = some (.slice a' n' c') := blk_cell hb5 1
        have HS5 := Lib.hid (And.intro hL5 (And.intro hb5 hN5))
        clear ko0 ko1 hL5 hf5 hb5 hN5
        go_wp2_with fail
        refine (refTake_any w5 d _ ts t HS5.out.2.2.1 h8 h8').mono ?_
        rintro e w6 ⟨v6, rfl, hR⟩
        obtain ⟨a6, c6, rfl, _⟩ := hR.1.form
        have hb6 := hR.2.1.blk HS5.out.2.1 (fun h => h)
        have HB7 := Lib.hid (Both.store HS5.out.1 HS5.out.2.1 HS5.out.2.2 hR rfl hbm)
        have k0 : w6.cell? ⟨bm, 0, none⟩ = some (.int .i64 d) := blk_cell hb6 0
        have k1 : w6.cell? ⟨bm, 1, none⟩ = some (.slice a' n' c') := blk_cell hb6 1
        have z0 := blk_frozen hb6 0
        have z1 := blk_frozen hb6 1
        clear hR hb6 kb0 kb1 ko1'
        generalize takeE ts t = E at *
        generalize takeT ts t = T at *
        go_wp2_with fail
        generalize (w6.setCell ⟨bm, 0, none⟩ (.int .i64 d)).setCell ⟨bm, 1, none⟩ (.slice a6 T.length c6) = w7 at *
      case' inr.inr.inr.inl =>
        go_wp2_with fail
        refine (ahead_any g ts d t _ HBW.out.lane).mono ?_
        rintro e w5 ⟨v15, rfl, hN5⟩
        obtain ⟨a15, c15, rfl, _⟩ := hN5.1.form
        have HB5 := Lib.hid (HBW.out.keep0 hN5.2.1)
        have HA5 := Lib.hid (HBW.out.apart hN5)
        have ko1' : w5.cell? ⟨bo, 1, none⟩ = some (.int .i64 t) := hN5.2.1.cell ko1 (fun h => h)
        have kb0 : w5.cell? ⟨bm, 0, none⟩ = some (.int .i64 d) := blk_cell HB5.out.blk 0
        have kb1 : w5.cell? ⟨bm, 1, none⟩ = some (.slice a' n' c') := blk_cell HB5.out.blk 1
        have HN5 := Lib.hid hN5
        have hal : (aheadOf ts t).length ≤ 8 := by unfold aheadOf; split <;> simp; omega
        clear ko0 ko1 hN5
        go_wp2_with fail
        refine (refAhead_any w5 d _ ts t HB5.out.new.1 (by omega)).mono ?_
        rintro e w6 ⟨v17, rfl, hN6⟩
        obtain ⟨a17, c17, rfl, _⟩ := hN6.1.form
        have HB6 := Lib.hid (HB5.out.keep0 hN6.2.1)
        have HN6 := Lib.hid (hN6.1)
        have HV6 := Lib.hid (Sl.keep0 HN5.out.1 hN6.2.1)
        clear hN6 HN5 kb0 kb1 ko1'
        generalize aheadE ts t = E at *
        generalize aheadOf ts t = A at *
        go_wp2_with fail
        refine (ints_trueN _ _ A _ (SlI.rd HV6.out (by omega)) (SlI.rd HN6.out (by omega))).mono ?_
        rintro e w7 ⟨rfl, q, rfl⟩
        have HB7 := Lib.hid (HB6.out.keep0 (Fr.drewN w6 q No))
        have HV7 := Lib.hid (Sl.keep0 HV6.out (Fr.drewN w6 q No))
        clear HN6
        go_wp2_with fail
        go_loopw [130] (fun v130 wr => ∃ (j : Nat) (ys : List Int), j ≤ A.length ∧ v130 = .int .i64 j ∧ ys.length = A.length ∧ SlI wr (.slice a15 A.length c15) ys ∧ Both w wr g bm a' n' c' d ts) (fun u _ => A.length - (intOf u).toNat)
        case atStart => exact ⟨0, A, Nat.zero_le _, rfl, rfl, HV7.out, HB7.out⟩
        case' round =>
          obtain ⟨j, ys, hj, rfl, hyl, hSy, hBy⟩ := hrel
          have HSY := Lib.hid hSy
          have HBY := Lib.hid hBy
          have HYL := Lib.hid hyl
          clear hyl hSy hBy HB7 HV7 HB6 HV6 HB5
          by_cases hjl : j < A.length
          case' pos =>
            obtain ⟨b9, o9, rfl, hc9⟩ := (SlI.rd HSY.out (by rw [HYL.out]; omega)).get j (by rw [HYL.out]; exact hjl)
            have hf9 := Sl.frz HSY.out (o9 + j)
            generalize ys.getD j 0 = y at *
            have HSY2 := Lib.hid (SlI.set HYL.out HSY.out j hjl 99)
            have HBY2 := Lib.hid (HBY.out.write HA5.out b9 (o9 + j) rfl (.int .i64 99))
            go_wp2
            go_roundw
            case' rel => exact ⟨j + 1, ys.set j 99, by omega, by go_num, by rw [List.length_set]; exact HYL.out, HSY2.out, HBY2.out⟩
            case' measure => simp [intOf]; omega
          case' neg =>
            have HBW' := HBY
            have hw7 : ∃ w7 : World, w7 = wr := ⟨_, rfl⟩
            go_wp2_with fail
            have HB7 : Hid (Both w wr g bm a' n' c' d ts) := HBY
            obtain rfl : n' = ts.length := HBY.out.len
            generalize ts = T at *
            generalize wr = w7 at *
      case' inr.inr.inr.inr =>
        go_wp2_with fail
        obtain rfl : n' = ts.length := HBW.out.len
        have HB7 := HBW
        generalize ts = T at *
        generalize w4 = w7 at *
      all_goals
        obtain ⟨ax, cx, HBX⟩ : ∃ ax cx, Hid (Both w w7 g bm ax T.length cx d T) := ⟨_, _, HB7⟩
        clear HB7
        have h8T := HBX.out.lane.1
        refine (totes_any g T d _ HBX.out.lane).mono ?_
        rintro e w8 ⟨v20, rfl, hN8⟩
        obtain ⟨a20, c20, rfl, _⟩ := hN8.1.form
        have HB8 := Lib.hid (HBX.out.keep0 hN8.2.1)
        have HA8 := Lib.hid (HBX.out.apart hN8)
        have HN8 := Lib.hid hN8.1
        have kb1 : w8.cell? ⟨bm, 1, none⟩ = some (.slice ax T.length cx) := blk_cell HB8.out.blk 1
        have hw1 : IntKind.i64.wrap ((d : Int) - (T.length : Int)) = (d : Int) - (T.length : Int) := IntWalk.i64_in _ (by omega)
        clear hN8 HBX
        go_wp2_with fail
        go_quiet ((first | (go_at_call 18; exact Calls.quiet_of ((room_any g T d _ (HB8.out.lane.drewN _)).mono fun e w' ⟨he, n, hn⟩ => ⟨he, n, hn.symm⟩)) | (go_at_call 21; exact Calls.quiet_of (ints_trueN _ _ T _ ((SlI.rd HN8.out (by omega)).drewN _) ((SlI.rd HB8.out.new.1 (by omega)).drewN _)))))
        have HB9 := Lib.hid (HB8.out.keep0 (Fr.drewN w8 nq No))
        have HN9 := Lib.hid (Sl.keep0 HN8.out (Fr.drewN w8 nq No))
        clear kb1 hw1 HB8 HN8
        go_wp2_with fail
        go_loopw [163] (fun v163 wr => ∃ (j : Nat) (ys : List Int), j ≤ T.length ∧ v163 = .int .i64 j ∧ ys.length = T.length ∧ SlI wr (.slice a20 T.length c20) ys ∧ Both w wr g bm ax T.length cx d T) (fun u _ => T.length - (intOf u).toNat)
        case atStart => exact ⟨0, T, Nat.zero_le _, rfl, rfl, HN9.out, HB9.out⟩
        case round =>
          clear HB9 HN9
          obtain ⟨j, ys, hj, rfl, hyl, hSy, hBy⟩ := hrel
          have HSY := Lib.hid hSy
          have HBY := Lib.hid hBy
          have HYL := Lib.hid hyl
          clear hyl hSy hBy
          by_cases hjl : j < T.length
          · obtain ⟨b9, o9, rfl, hc9⟩ := (SlI.rd HSY.out (by rw [HYL.out]; omega)).get j (by rw [HYL.out]; exact hjl)
            have hf9 := Sl.frz HSY.out (o9 + j)
            generalize ys.getD j 0 = y at *
            have HSY2 := Lib.hid (SlI.set HYL.out HSY.out j hjl 99)
            have HBY2 := Lib.hid (HBY.out.write HA8.out b9 (o9 + j) rfl (.int .i64 99))
            go_wp2
            go_roundw
            case rel => exact ⟨j + 1, ys.set j 99, by omega, by go_num, by rw [List.length_set]; exact HYL.out, HSY2.out, HBY2.out⟩
            case measure => simp [intOf]; omega
          · go_wp2_with fail
            go_roundw
            case rel => exact ⟨k + 1, T, ax, T.length, cx, by omega, by omega, by go_num, HBY.out⟩
            case measure => simp [intOf]; omega
    · have hcase : (¬ k < n) ∨ (k < n ∧ ¬ k < 200) := by omega
      clear hlt
      rcases hcase with hlt | ⟨hlt, hlt2⟩
      all_goals
        go_wp2
        go_ret
        exact ⟨rfl, HB.out.new.2.1⟩

/-- As the row wants it. -/
theorem lanePlays_row (w : World) (x : Int) (_ : (Lit.int .i64 x).wf = true) (v : Value) (n : Nat) (fl : List Int) (hv : Rd w v n (fl.map (Value.int .i64)) 2) (hn : n ≤ 17592186044415) :
    Calls Try.prog 6 #[.int .i64 x, v] w fun e w' => e = .returned (.bool true) ∧ Fr w w' No := by
  by_cases h : x < 1 ∨ 8 < x
  · exact lanePlays_bad w x v h
  · have := lanePlays_good w x.toNat (by omega) (by omega) v n fl hv hn
    rwa [Int.toNat_of_nonneg (by omega)] at this

end Go.Proofs.Ytegoilhkooneaaa
