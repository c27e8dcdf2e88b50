import Derived.Test.YtoilalohhicipaaSh5
import Derived.Deep.CutBlock
import Derived.Deep.DeepCutAuto
import Derived.Deep.RegionWith
namespace Go.Proofs.Ytoilalohhicipaa
open Go.RowKit
set_option linter.unusedVariables false
set_option linter.unusedSimpArgs false

/-- The law's state: the shuttle in g, the law's arguments in their boxes. -/
structure Box (w wr : World) (g bh bj : Nat) (n a p t f o : Int) (s : St) : Prop where
  sh : ShAt wr g s
  job : wr.heap[bj]? = some (.cells #[.int .i64 t, .int .i64 f, .int .i64 o] 33 (0, 0))
  how : wr.heap[bh]? = some (.cells #[.int .i64 n, .int .i64 a, .int .i64 p] 23 (0, 0))
  fr : Fr w wr No
  hg : w.heap.size ≤ g
theorem Box.keep0 {w wr w' : World} {g bh bj : Nat} {n a p t f o : Int} {s : St} (h : Box w wr g bh bj n a p t f o s) (hf : Fr wr w' No) : Box w w' g bh bj n a p t f o s :=
  ⟨h.sh.keep0 hf, hf.blk h.job (fun h => h), hf.blk h.how (fun h => h), h.fr.nn hf, h.hg⟩
theorem Box.step {w wr w' : World} {g bh bj : Nat} {n a p t f o : Int} {s T : St} (h : Box w wr g bh bj n a p t f o s) (hs : ShAt w' g T) (hf : Fr wr w' (One g)) : Box w w' g bh bj n a p t f o T :=
  ⟨hs, hf.blk h.job (fun e => blk_ne h.job h.sh (by decide) e), hf.blk h.how (fun e => blk_ne h.how h.sh (by decide) e), h.fr.in1 hf h.hg, h.hg⟩

set_option maxRecDepth 100000 in
set_option maxHeartbeats 1000000 in
theorem shuttleStalls_bad (w : World) (n a p t f o y : Int) (h : newBad n a p) :
    Calls Try.prog 4 #[.agg #[.int .i64 n, .int .i64 a, .int .i64 p], .agg #[.int .i64 t, .int .i64 f, .int .i64 o], .int .i64 y] w fun e w' => e = .returned (.bool true) ∧ Fr w w' No := by
  have H := Lib.hid h
  clear h
  go_enter Try.func4, Try.ntmps4
  go_wp2_with fail
  refine (awake_any _).mono ?_
  rintro e w1 ⟨rfl, hf1⟩
  have hb := hf1.blk (blk_old (blk_new w (.cells #[.int .i64 n, .int .i64 a, .int .i64 p] 23)) _) (fun h => h)
  have hF := Lib.hid (((Fr.alloc w (.cells #[.int .i64 n, .int .i64 a, .int .i64 p] 23) No).nn (Fr.alloc _ _ _)).nn hf1)
  have c0 : w1.cell? ⟨w.heap.size, 0, none⟩ = some (.int .i64 n) := blk_cell hb 0
  have c1 : w1.cell? ⟨w.heap.size, 1, none⟩ = some (.int .i64 a) := blk_cell hb 1
  have c2 : w1.cell? ⟨w.heap.size, 2, none⟩ = some (.int .i64 p) := blk_cell hb 2
  clear hb hf1
  go_wp2_with fail
  refine (new_bad _ n a p H.out).mono ?_
  rintro e w2 ⟨rfl, rfl⟩
  go_wp2
  go_ret
  exact ⟨rfl, hF.out⟩


set_option maxRecDepth 100000 in
set_option maxHeartbeats 4000000 in
theorem shuttleStalls_good (w : World) (n a p t f o y : Int) (h : ¬ newBad n a p) :
    Calls Try.prog 4 #[.agg #[.int .i64 n, .int .i64 a, .int .i64 p], .agg #[.int .i64 t, .int .i64 f, .int .i64 o], .int .i64 y] w fun e w' => e = .returned (.bool true) ∧ Fr w w' No := by
  have H := Lib.hid h
  clear h
  go_enter Try.func4, Try.ntmps4
  go_wp2_with fail
  refine (awake_any _).mono ?_
  rintro e w1 ⟨rfl, hf1⟩
  have hb := hf1.blk (blk_old (blk_new w (.cells #[.int .i64 n, .int .i64 a, .int .i64 p] 23)) _) (fun h => h)
  have hj := hf1.blk (blk_new (w.alloc (.cells #[.int .i64 n, .int .i64 a, .int .i64 p] 23)) (.cells #[.int .i64 t, .int .i64 f, .int .i64 o] 33)) (fun h => h)
  have hF := Lib.hid (((Fr.alloc w (.cells #[.int .i64 n, .int .i64 a, .int .i64 p] 23) No).nn (Fr.alloc _ _ _)).nn hf1)
  have c0 : w1.cell? ⟨w.heap.size, 0, none⟩ = some (.int .i64 n) := blk_cell hb 0
  have c1 : w1.cell? ⟨w.heap.size, 1, none⟩ = some (.int .i64 a) := blk_cell hb 1
  have c2 : w1.cell? ⟨w.heap.size, 2, none⟩ = some (.int .i64 p) := blk_cell hb 2
  go_wp2_with fail
  refine (new_ok _ n a p H.out).mono ?_
  rintro e w2 ⟨rfl, hs, hf2⟩
  have HB : Hid (Box w w2 w1.heap.size w.heap.size (w.heap.size + 1) n a p t f o (newS n a p)) := Lib.hid
    ⟨hs, by have := hf2.blk hj (fun h => h); simpa using this, hf2.blk hb (fun h => h), hF.out.nn hf2, hF.out.size⟩
  have HO := Lib.hid (ok_new n a p H.out)
  clear hF hf1 hf2 hs hb hj c0 c1 c2
  generalize w1.heap.size = g at *
  have hj0 : w2.cell? ⟨w.heap.size + 1, 0, none⟩ = some (.int .i64 t) := blk_cell HB.out.job 0
  have hj1 : w2.cell? ⟨w.heap.size + 1, 1, none⟩ = some (.int .i64 f) := blk_cell HB.out.job 1
  have hj2 : w2.cell? ⟨w.heap.size + 1, 2, none⟩ = some (.int .i64 o) := blk_cell HB.out.job 2
  go_wp2_with fail
  refine (assign_any w2 g _ t f o HB.out.sh).mono ?_
  rintro e w3 ⟨rfl, hs3, hf3⟩
  clear hj0 hj1 hj2
  have HB3 := Lib.hid (HB.out.step hs3 hf3)
  have HE : Hid (assignE (newS n a p) t f o = 0 → assignBad (newS n a p) t f o = false) := Lib.hid (fun e => by unfold assignE at e; split at e; exact absurd e (by decide); rename_i h; simpa using h)
  clear hs3 hf3
  by_cases he : assignE (newS n a p) t f o = 0
  case neg =>
    have he' : (assignE (newS n a p) t f o != 0) = true := by simpa using he
    clear HE he
    generalize assignE (newS n a p) t f o = E at *
    go_wp2
    go_ret
    exact ⟨rfl, HB3.out.fr⟩
  case pos =>
    have hbad := HE.out he
    rw [he]
    have h0 : ∃ S, Hid (Box w w3 g w.heap.size (w.heap.size + 1) n a p t f o S ∧ Ok S ∧ S.ticks = 0 ∧ S.state ≤ 4 ∧ S.done = 0 ∧ S.n = n ∧ S.pat = p) := by
      refine ⟨assignS (newS n a p) t f o, Lib.hid ⟨HB3.out, HO.out.assign t f o, ?_⟩⟩
      unfold assignS
      rw [if_pos he]
      unfold onS
      refine ⟨rfl, ?_, rfl, rfl, rfl⟩
      dsimp only
      split <;> decide
    obtain ⟨S0, HS0⟩ := h0
    have HBad : Hid (∀ S : St, S.n = n → assignBad S t f o = false) := Lib.hid (fun S hn => by
      rw [← hbad]; unfold assignBad noneB; rw [hn]; rfl)
    clear HE HB HB3 HO he hbad
    obtain ⟨m, hm, e0⟩ := umodn y 4 (by decide) (by decide)
    have e0 : wrap64 ((IntKind.u64.wrap y).tmod 4) = (m : Int) := e0
    go_wp2_with fail
    go_loopw [9] (fun v9 wr => ∃ (i : Nat) (s : St), i ≤ m ∧ v9 = .int .i64 i ∧ Box w wr g w.heap.size (w.heap.size + 1) n a p t f o s ∧ Ok s ∧ s.ticks = 0 ∧ s.state ≤ 4 ∧ s.done ≤ i ∧ s.n = n ∧ s.pat = p) (fun i _ => m - (intOf i).toNat)
    case atStart => exact ⟨0, S0, by omega, rfl, HS0.out.1, HS0.out.2.1, HS0.out.2.2.1, HS0.out.2.2.2.1, by rw [HS0.out.2.2.2.2.1]; decide, HS0.out.2.2.2.2.2⟩
    case round =>
      clear HS0
      obtain ⟨i, s, hi, rfl, hB, hO, ht, hst, hd, hn, hp⟩ := hrel
      have HB := Lib.hid hB
      have HO := Lib.hid hO
      have HT := Lib.hid ht
      have HN := Lib.hid hn
      have HP := Lib.hid hp
      have HK : Hid (tk s 0 = s) := Lib.hid (by obtain ⟨⟩ := s; simp [tk] at *; exact ht.symm)
      have hs0 := hO.st1
      have hd0 := hO.d1
      have hpp := hO.p1
      have hp2 := hO.p2
      clear hB hO ht hn hp
      by_cases hlt : i < m
      · have hcase : s.state = 0 ∨ s.state = 1 ∨ s.state = 2 ∨ s.state = 3 ∨ s.state = 4 := by omega
        rcases hcase with hx | hx | hx | hx | hx
        · have HTK := Lib.hid (tick_off (.inl hx))
          clear hx
          go_wp2_with fail
          refine (tick_is wr g s 0 0 s (by rw [HT.out]; decide) (by rw [HT.out]; decide) HB.out.sh HTK.out.1 HTK.out.2.1 HTK.out.2.2).mono ?_
          rintro e w4 ⟨rfl, hs4, hf4⟩
          have HB4 := Lib.hid ((HB.out.step hs4 hf4).keep0 (Fr.alloc w4 (.cells #[.int .i64 0, .int .i64 0] 37) No))
          clear hs4 hf4
          go_wp2
          go_roundw
          case rel => exact ⟨i + 1, s, by omega, by go_num, HB4.out, HO.out, HT.out, hst, by omega, HN.out, HP.out⟩
          case measure => simp [intOf]; omega
        · have HTK : Hid (tickK s = 1 ∧ tickW s = s.fr ∧ tickS s = tk s 1) := Lib.hid (by
            have := tick_tk (s := s) (q := 0) (by omega) (by omega) (by omega)
            rw [HK.out] at this
            rw [this.1, this.2.1, this.2.2]
            refine ⟨?_, ?_, rfl⟩ <;> simp [kOf, wOf, hx])
          have HX := Lib.hid hx
          clear hx
          go_wp2_with fail
          refine (tick_is wr g s 1 s.fr _ (by rw [HT.out]; decide) (by rw [HT.out]; decide) HB.out.sh HTK.out.1 HTK.out.2.1 HTK.out.2.2).mono ?_
          rintro e w4 ⟨rfl, hs4, hf4⟩
          have HB4 := Lib.hid ((HB.out.step hs4 hf4).keep0 (Fr.alloc w4 (.cells #[.int .i64 1, .int .i64 (s.fr)] 37) No))
          clear hs4 hf4
          go_wp2_with fail
          refine (moved_is _ g (tk s 1) s.fr 0 _ HB4.out.sh (ans1 HO.out HX.out).1 (ans1 HO.out HX.out).2).mono ?_
          rintro e w5 ⟨rfl, hs5, hf5⟩
          have HB5 := Lib.hid (HB4.out.step hs5 hf5)
          clear hs5 hf5
          go_wp2
          go_roundw
          case rel =>
            have hok := HO.out.ans HT.out
            have hans : ans s = { s with ticks := 0, place := s.fr, state := 2 } := by unfold ans; simp [HX.out]
            rw [hans] at hok
            exact ⟨i + 1, _, by omega, by go_num, HB5.out, hok.1, hok.2, by dsimp only; decide, by first | (show s.done ≤ ((i + 1 : Nat) : Int); omega) | (show s.done + 1 ≤ ((i + 1 : Nat) : Int); omega), HN.out, HP.out⟩
          case measure => simp [intOf]; omega
        · have HTK : Hid (tickK s = 2 ∧ tickW s = s.tote ∧ tickS s = tk s 1) := Lib.hid (by
            have := tick_tk (s := s) (q := 0) (by omega) (by omega) (by omega)
            rw [HK.out] at this
            rw [this.1, this.2.1, this.2.2]
            refine ⟨?_, ?_, rfl⟩ <;> simp [kOf, wOf, hx])
          have HX := Lib.hid hx
          clear hx
          go_wp2_with fail
          refine (tick_is wr g s 2 s.tote _ (by rw [HT.out]; decide) (by rw [HT.out]; decide) HB.out.sh HTK.out.1 HTK.out.2.1 HTK.out.2.2).mono ?_
          rintro e w4 ⟨rfl, hs4, hf4⟩
          have HB4 := Lib.hid ((HB.out.step hs4 hf4).keep0 (Fr.alloc w4 (.cells #[.int .i64 2, .int .i64 (s.tote)] 37) No))
          clear hs4 hf4
          go_wp2_with fail
          refine (picked_is _ g (tk s 1) s.tote 0 _ HB4.out.sh (ans2 HX.out).1 (ans2 HX.out).2).mono ?_
          rintro e w5 ⟨rfl, hs5, hf5⟩
          have HB5 := Lib.hid (HB4.out.step hs5 hf5)
          clear hs5 hf5
          go_wp2
          go_roundw
          case rel =>
            have hok := HO.out.ans HT.out
            have hans : ans s = { s with ticks := 0, state := if s.place = s.to_ then 4 else 3 } := by unfold ans; simp [HX.out]
            rw [hans] at hok
            exact ⟨i + 1, _, by omega, by go_num, HB5.out, hok.1, hok.2, by dsimp only; split <;> decide, by first | (show s.done ≤ ((i + 1 : Nat) : Int); omega) | (show s.done + 1 ≤ ((i + 1 : Nat) : Int); omega), HN.out, HP.out⟩
          case measure => simp [intOf]; omega
        · have HTK : Hid (tickK s = 1 ∧ tickW s = s.to_ ∧ tickS s = tk s 1) := Lib.hid (by
            have := tick_tk (s := s) (q := 0) (by omega) (by omega) (by omega)
            rw [HK.out] at this
            rw [this.1, this.2.1, this.2.2]
            refine ⟨?_, ?_, rfl⟩ <;> simp [kOf, wOf, hx])
          have HX := Lib.hid hx
          clear hx
          go_wp2_with fail
          refine (tick_is wr g s 1 s.to_ _ (by rw [HT.out]; decide) (by rw [HT.out]; decide) HB.out.sh HTK.out.1 HTK.out.2.1 HTK.out.2.2).mono ?_
          rintro e w4 ⟨rfl, hs4, hf4⟩
          have HB4 := Lib.hid ((HB.out.step hs4 hf4).keep0 (Fr.alloc w4 (.cells #[.int .i64 1, .int .i64 (s.to_)] 37) No))
          clear hs4 hf4
          go_wp2_with fail
          refine (moved_is _ g (tk s 1) s.to_ 0 _ HB4.out.sh (ans3 HO.out HX.out).1 (ans3 HO.out HX.out).2).mono ?_
          rintro e w5 ⟨rfl, hs5, hf5⟩
          have HB5 := Lib.hid (HB4.out.step hs5 hf5)
          clear hs5 hf5
          go_wp2
          go_roundw
          case rel =>
            have hok := HO.out.ans HT.out
            have hans : ans s = { s with ticks := 0, place := s.to_, state := 4 } := by unfold ans; simp [HX.out]
            rw [hans] at hok
            exact ⟨i + 1, _, by omega, by go_num, HB5.out, hok.1, hok.2, by dsimp only; decide, by first | (show s.done ≤ ((i + 1 : Nat) : Int); omega) | (show s.done + 1 ≤ ((i + 1 : Nat) : Int); omega), HN.out, HP.out⟩
          case measure => simp [intOf]; omega
        · have HTK : Hid (tickK s = 3 ∧ tickW s = s.tote ∧ tickS s = tk s 1) := Lib.hid (by
            have := tick_tk (s := s) (q := 0) (by omega) (by omega) (by omega)
            rw [HK.out] at this
            rw [this.1, this.2.1, this.2.2]
            refine ⟨?_, ?_, rfl⟩ <;> simp [kOf, wOf, hx])
          have HX := Lib.hid hx
          clear hx
          go_wp2_with fail
          refine (tick_is wr g s 3 s.tote _ (by rw [HT.out]; decide) (by rw [HT.out]; decide) HB.out.sh HTK.out.1 HTK.out.2.1 HTK.out.2.2).mono ?_
          rintro e w4 ⟨rfl, hs4, hf4⟩
          have HB4 := Lib.hid ((HB.out.step hs4 hf4).keep0 (Fr.alloc w4 (.cells #[.int .i64 3, .int .i64 (s.tote)] 37) No))
          clear hs4 hf4
          go_wp2_with fail
          refine (dropped_is _ g (tk s 1) s.tote 0 _ hd0 (by show s.done ≤ 1000000; omega) HB4.out.sh (ans4 HX.out).1 (ans4 HX.out).2).mono ?_
          rintro e w5 ⟨rfl, hs5, hf5⟩
          have HB5 := Lib.hid (HB4.out.step hs5 hf5)
          clear hs5 hf5
          go_wp2
          go_roundw
          case rel =>
            have hok := HO.out.ans HT.out
            have hans : ans s = { s with ticks := 0, state := 0, done := s.done + 1 } := by unfold ans; simp [HX.out]
            rw [hans] at hok
            exact ⟨i + 1, _, by omega, by go_num, HB5.out, hok.1, hok.2, by dsimp only; decide, by first | (show s.done ≤ ((i + 1 : Nat) : Int); omega) | (show s.done + 1 ≤ ((i + 1 : Nat) : Int); omega), HN.out, HP.out⟩
          case measure => simp [intOf]; omega
      · by_cases hx : s.state = 0
        · have HX := Lib.hid hx
          have hr : resetE s = 140 := by unfold resetE; rw [if_pos (by omega)]
          have HR := Lib.hid hr
          have HRS : Hid (resetS s = s) := Lib.hid (by unfold resetS; rw [if_neg (by omega)])
          clear hx hr
          go_wp2_with fail
          refine (state_is _ g s 0 HB.out.sh HX.out).mono ?_
          rintro e w' ⟨rfl, rfl⟩
          go_wp2_with fail
          refine (load_any _ g s HB.out.sh).mono ?_
          rintro e w' ⟨rfl, rfl⟩
          go_wp2_with fail
          refine (reset_is _ g s 140 s (by have := HO.out.w1; omega) (by have := HO.out.w2; omega) HB.out.sh HR.out HRS.out).mono ?_
          rintro e w5 ⟨rfl, hs5, hf5⟩
          have HB5 := Lib.hid (HB.out.step hs5 hf5)
          go_wp2
          go_ret
          exact ⟨rfl, HB5.out.fr⟩
        · have hx1 : 1 ≤ s.state := by omega
          have hx2 : (s.state == 0) = false := by simpa using hx
          have HTK : Hid (∀ q : Int, q + 1 ≤ s.pat → tickK (tk s q) = kOf s ∧ tickW (tk s q) = wOf s ∧ tickS (tk s q) = tk s (q + 1)) := Lib.hid (fun q h => tick_tk hx1 hst h)
          have HT0 := Lib.hid (HTK.out 0 (by omega))
          rw [HK.out] at HT0
          have HLa := Lib.hid (late_tick hx1 hst)
          have HLr := Lib.hid (late_reset HO.out hx1 hst)
          have HBk := Lib.hid (back_tick hx1 hst hpp)
          have HLl := Lib.hid (late_load (s := s) hst)
          have HLm := Lib.hid (late_moved HO.out)
          have HLs := Lib.hid (late_assign (HBad.out s HN.out))
          clear hx
          go_wp2_with fail
          refine (state_any _ g s HB.out.sh).mono ?_
          rintro e w' ⟨rfl, rfl⟩
          go_wp2_with fail
          refine (load_any _ g s HB.out.sh).mono ?_
          rintro e w' ⟨rfl, rfl⟩
          generalize hgk : kOf s = K at *
          generalize hgw : wOf s = W at *
          clear hgk hgw
          go_wp2_with fail
          refine (tick_is wr g s K W _ (by rw [HT.out]; decide) (by rw [HT.out]; decide) HB.out.sh HT0.out.1 HT0.out.2.1 HT0.out.2.2).mono ?_
          rintro e w4 ⟨rfl, hs4, hf4⟩
          have HB4 := Lib.hid ((HB.out.step hs4 hf4).keep0 (Fr.alloc w4 (.cells #[.int .i64 K, .int .i64 W] 37) No))
          have HX := Lib.hid (blk_new w4 (.cells #[.int .i64 K, .int .i64 W] 37))
          clear hs4 hf4
          go_wp2_with fail
          generalize w4.alloc (.cells #[.int .i64 K, .int .i64 W] 37) = w5 at *
          generalize w4.heap.size = bx at *
          rw [show (0 : Int) + 1 = 1 by rfl] at HB4
          have hpN : ∃ P : Nat, s.pat = P := ⟨s.pat.toNat, by omega⟩
          obtain ⟨P, hP⟩ := hpN
          rw [hP] at hpp hp2
          have HPP := Lib.hid hP
          have HPp : Hid (p = (P : Int)) := Lib.hid (by rw [← HP.out, hP])
          rw [hP] at HLa
          clear hP HT0 HB
          go_loopw [14] (fun v14 wr2 => ∃ (q : Nat), 1 ≤ q ∧ q ≤ P ∧ v14 = .int .i64 q ∧ Box w wr2 g w.heap.size (w.heap.size + 1) n a p t f o (tk s q) ∧ wr2.heap[bx]? = some (.cells #[.int .i64 K, .int .i64 W] 37 (0, 0))) (fun j _ => P - (intOf j).toNat)
          case atStart => exact ⟨1, by omega, by omega, rfl, HB4.out, HX.out⟩
          case round =>
            clear HB4 HX
            obtain ⟨q, hq1, hq2, rfl, hBq, hbx⟩ := hrel
            have HBq := Lib.hid hBq
            have HBX := Lib.hid hbx
            have hpc : wr.cell? ⟨w.heap.size, 2, none⟩ = some (.int .i64 P) := by have h := blk_cell hBq.how 2; rw [HPp.out] at h; exact h
            clear hBq hbx
            by_cases hlt2 : q < P
            · have HTQ := Lib.hid (HTK.out q (by rw [HPP.out]; omega))
              have hKK : (K == K) = true := beq_self_eq_true K
              have hWW : (W == W) = true := beq_self_eq_true W
              have hxx : (s.state == s.state) = true := beq_self_eq_true _
              have hk0 : wr.cell? ⟨bx, 0, none⟩ = some (.int .i64 K) := blk_cell HBX.out 0
              have hk1 : wr.cell? ⟨bx, 1, none⟩ = some (.int .i64 W) := blk_cell HBX.out 1
              have hgb : bx ≠ g := blk_ne HBX.out HBq.out.sh (by decide)
              go_upto_region 24 with (fail)
              go_cut [95] from 80 to 95 (fun v95 wx => v95 = .bool false ∧ Box w wx g w.heap.size (w.heap.size + 1) n a p t f o (tk s ((q : Int) + 1)) ∧ wx.heap[bx]? = some (.cells #[.int .i64 K, .int .i64 W] 37 (0, 0)))
              case first =>
                go_region_with (first | (go_at_call 12; refine (tick_is _ g (tk s q) K W _ (by show (0 : Int) ≤ q; omega) (by show (q : Int) ≤ 1000000; omega) (HBq.out.sh.drewN _) HTQ.out.1 HTQ.out.2.1 HTQ.out.2.2).mono ?_; rintro e w6 ⟨rfl, hs6, hf6⟩; have hm0 : w6.cell? ⟨bx, 0, none⟩ = some (.int .i64 K) := hf6.cell hk0 hgb; have hm1 : w6.cell? ⟨bx, 1, none⟩ = some (.int .i64 W) := hf6.cell hk1 hgb) | (go_at_call 11; refine (state_is _ g _ s.state hs6 rfl).mono ?_; rintro e w7 ⟨rfl, rfl⟩))
                all_goals
                  go_wp2_with fail
                  go_meet
                  case rel => exact ⟨rfl, HBq.out.step hs6 ((Fr.drewN _ _ _).rr hf6), hf6.blk HBX.out hgb⟩
              case rest =>
                obtain ⟨rfl, hB2, hX2⟩ := hcut
                have HB2 := Lib.hid hB2
                have HX2 := Lib.hid hX2
                clear hB2 hX2
                go_wp2
                go_roundw
                case rel => exact ⟨q + 1, by omega, by omega, by go_num, by have h := HB2.out; simpa using h, HX2.out⟩
                case measure => simp [intOf]; omega
            · obtain rfl : q = P := by omega
              have hk0 : wr.cell? ⟨bx, 0, none⟩ = some (.int .i64 K) := blk_cell HBX.out 0
              have hk1 : wr.cell? ⟨bx, 1, none⟩ = some (.int .i64 W) := blk_cell HBX.out 1
              have hgb : bx ≠ g := blk_ne HBX.out HBq.out.sh (by decide)
              have hj0 : wr.cell? ⟨w.heap.size + 1, 0, none⟩ = some (.int .i64 t) := blk_cell HBq.out.job 0
              have hj1 : wr.cell? ⟨w.heap.size + 1, 1, none⟩ = some (.int .i64 f) := blk_cell HBq.out.job 1
              have hj2 : wr.cell? ⟨w.heap.size + 1, 2, none⟩ = some (.int .i64 o) := blk_cell HBq.out.job 2
              have hjg : w.heap.size + 1 ≠ g := blk_ne HBq.out.job HBq.out.sh (by decide)
              go_wp2_with fail
              refine (tick_is _ g (tk s q) 0 0 (late s) (by show (0 : Int) ≤ q; omega) (by show (q : Int) ≤ 1000000; omega) HBq.out.sh HLa.out.1 HLa.out.2.1 HLa.out.2.2).mono ?_
              rintro e w6 ⟨rfl, hs6, hf6⟩
              have HB6 := Lib.hid (HBq.out.step hs6 hf6)
              have HX6 := Lib.hid (hf6.blk HBX.out hgb)
              clear hs6 hf6 hj0 hj1 hj2 hk0 hk1 HBq HBX
              go_wp2_with fail
              refine (state_is _ g _ 5 HB6.out.sh rfl).mono ?_
              rintro e w' ⟨rfl, rfl⟩
              go_wp2_with fail
              refine (load_is _ g _ (loadS s) HB6.out.sh HLl.out).mono ?_
              rintro e w' ⟨rfl, rfl⟩
              have hll : (loadS s != loadS s) = false := bne_self_eq_false _
              go_wp2_with fail
              refine (tick_is _ g (late s) 0 0 (late s) (by show (0 : Int) ≤ s.pat + 1; rw [HPP.out]; omega) (by show s.pat + 1 ≤ 1000000; rw [HPP.out]; omega) HB6.out.sh (late_tick2 s).1 (late_tick2 s).2.1 (late_tick2 s).2.2).mono ?_
              rintro e w7 ⟨rfl, hs7, hf7⟩
              have HB7 := Lib.hid (HB6.out.step hs7 hf7)
              have HX7 := Lib.hid (hf7.blk HX6.out hgb)
              clear hs7 hf7 HB6 HX6
              go_wp2_with fail
              refine (moved_is _ g (late s) 0 140 (late s) HB7.out.sh HLm.out.1 HLm.out.2).mono ?_
              rintro e w8 ⟨rfl, hs8, hf8⟩
              have HB8 := Lib.hid (HB7.out.step hs8 hf8)
              have HX8 := Lib.hid (hf8.blk HX7.out hgb)
              clear hs8 hf8 HB7 HX7
              have hj0 : w8.cell? ⟨w.heap.size + 1, 0, none⟩ = some (.int .i64 t) := blk_cell HB8.out.job 0
              have hj1 : w8.cell? ⟨w.heap.size + 1, 1, none⟩ = some (.int .i64 f) := blk_cell HB8.out.job 1
              have hj2 : w8.cell? ⟨w.heap.size + 1, 2, none⟩ = some (.int .i64 o) := blk_cell HB8.out.job 2
              go_wp2_with fail
              refine (assign_is _ g (late s) t f o 140 (late s) HB8.out.sh HLs.out.1 HLs.out.2).mono ?_
              rintro e w9 ⟨rfl, hs9, hf9⟩
              have HB9 := Lib.hid (HB8.out.step hs9 hf9)
              have HX9 := Lib.hid (hf9.blk HX8.out hgb)
              clear hs9 hf9 HB8 HX8 hj0 hj1 hj2
              go_upto_region 28 with (fail)
              have hk0 : w9.cell? ⟨bx, 0, none⟩ = some (.int .i64 K) := blk_cell HX9.out 0
              have hk1 : w9.cell? ⟨bx, 1, none⟩ = some (.int .i64 W) := blk_cell HX9.out 1
              have hKK : (K == K) = true := beq_self_eq_true K
              have hWW : (W == W) = true := beq_self_eq_true W
              have hxx : (s.state == s.state) = true := beq_self_eq_true _
              have hyy : (loadS s == loadS s) = true := beq_self_eq_true _
              have hwas1 : 0 ≤ s.state := by omega
              go_region_with (first | (go_at_call 19; refine (reset_is _ g (late s) 0 (back s) hwas1 (by show s.state ≤ 5; omega) (HB9.out.sh.drewN _) HLr.out.1 HLr.out.2).mono ?_; rintro e w10 ⟨rfl, hs10, hf10⟩; have hm0 : w10.cell? ⟨bx, 0, none⟩ = some (.int .i64 K) := hf10.cell hk0 hgb; have hm1 : w10.cell? ⟨bx, 1, none⟩ = some (.int .i64 W) := hf10.cell hk1 hgb) |
                (go_at_call 11; refine (state_is _ g (back s) s.state hs10 rfl).mono ?_; rintro e w' ⟨rfl, rfl⟩) |
                (go_at_call 12; refine (tick_is _ g (back s) K W _ (by show (0 : Int) ≤ 0; omega) (by show (0 : Int) ≤ 1000000; omega) hs10 HBk.out.1 HBk.out.2.1 rfl).mono ?_; rintro e w11 ⟨rfl, hs11, hf11⟩; have hn0 : w11.cell? ⟨bx, 0, none⟩ = some (.int .i64 K) := hf11.cell hm0 hgb; have hn1 : w11.cell? ⟨bx, 1, none⟩ = some (.int .i64 W) := hf11.cell hm1 hgb) |
                (go_at_call 17; refine (load_is _ g _ (loadS s) hs11 HBk.out.2.2).mono ?_; rintro e w' ⟨rfl, rfl⟩))
              all_goals
                go_wp2
                go_ret
                exact ⟨rfl, (HB9.out.fr.in1 ((Fr.drewN _ _ _).rr hf10) HB9.out.hg).in1 hf11 HB9.out.hg⟩

/-- As the row wants it. -/
theorem shuttleStalls_row (w : World) (n a p : Int) (_ : ∀ z ∈ [n, a, p], (Lit.int .i64 z).wf = true) (t f o : Int) (_ : ∀ z ∈ [t, f, o], (Lit.int .i64 z).wf = true) (y : Int) (_ : (Lit.int .i64 y).wf = true) :
    Calls Try.prog 4 #[.agg #[.int .i64 n, .int .i64 a, .int .i64 p], .agg #[.int .i64 t, .int .i64 f, .int .i64 o], .int .i64 y] w fun e w' => e = .returned (.bool true) ∧ Fr w w' No := by
  by_cases h : newBad n a p
  · exact shuttleStalls_bad w n a p t f o y h
  · exact shuttleStalls_good w n a p t f o y h

end Go.Proofs.Ytoilalohhicipaa
