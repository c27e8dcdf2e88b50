/-
  The law GatePlays, walked.
-/
import Derived.Test.YtmdciipaggcjoaaPl
namespace Go.Proofs.Ytmdciipaggcjoaa
open Go.RowKit Go.Conc
set_option linter.unusedVariables false
set_option linter.unusedSimpArgs false

def Pw2 (a w : World) (p bm : Nat) (vW vI : Value) (cap : Nat) (W I : List Int) (v : Value) (l : List Int) (u : Value) (m : List Int) : Prop := ∃ S, Pg a w p S bm vW vI cap W I W I ∧ SlI w v l ∧ SlI w u m ∧
  (∀ g, Bl v g → ¬ S g ∧ ¬ Bl vW g ∧ ¬ Bl vI g ∧ a.heap.size ≤ g) ∧ (∀ g, Bl u g → ¬ S g ∧ ¬ Bl vW g ∧ ¬ Bl vI g ∧ a.heap.size ≤ g) ∧ ∀ g, Bl v g → ¬ Bl u g
section
variable {a w w' w2 : World} {p bm : Nat} {vW vI : Value} {cap : Nat} {W I : List Int}
theorem Pq.beside2 (h : Pq a w p bm vW vI cap W I) {v u : Value} {l m : List Int} (hN : NewI w w' v l) (hM : NewI w' w2 u m) : Pw2 a w2 p bm vW vI cap W I v l u m := by
  obtain ⟨S, h⟩ := h
  have hs := hN.2.1.size
  exact ⟨S, (h.same hN.2.1).same hM.2.1, hN.1.keep0 hM.2.1, hM.1,
    fun g hg => ⟨fun e => by have := h.st.lt g e; have := hN.2.2 g hg; omega, fun e => by have := Sl.lt h.sw g e; have := hN.2.2 g hg; omega, fun e => by have := Sl.lt h.si g e; have := hN.2.2 g hg; omega, Nat.le_trans h.st.fr.size (hN.2.2 g hg)⟩,
    fun g hg => ⟨fun e => by have := h.st.lt g e; have := hM.2.2 g hg; omega, fun e => by have := Sl.lt h.sw g e; have := hM.2.2 g hg; omega, fun e => by have := Sl.lt h.si g e; have := hM.2.2 g hg; omega, by have := h.st.fr.size; have := hM.2.2 g hg; omega⟩,
    fun g h1 h2 => by have := Sl.lt hN.1 g h1; have := hM.2.2 g h2; omega⟩
theorem Pw2.same {v u : Value} {l m : List Int} (h : Pw2 a w p bm vW vI cap W I v l u m) (hf : Fr w w' No) : Pw2 a w' p bm vW vI cap W I v l u m := by
  obtain ⟨S, h1, h2, h3, h4⟩ := h; exact ⟨S, h1.same hf, h2.keep0 hf, h3.keep0 hf, h4⟩
theorem Pw2.pq {v u : Value} {l m : List Int} (h : Pw2 a w p bm vW vI cap W I v l u m) : Pq a w p bm vW vI cap W I := by obtain ⟨S, h, _⟩ := h; exact ⟨S, h⟩
theorem Pw2.s1 {v u : Value} {l m : List Int} (h : Pw2 a w p bm vW vI cap W I v l u m) : SlI w v l := by obtain ⟨S, _, h, _⟩ := h; exact h
theorem Pw2.s2 {v u : Value} {l m : List Int} (h : Pw2 a w p bm vW vI cap W I v l u m) : SlI w u m := by obtain ⟨S, _, _, h, _⟩ := h; exact h
theorem Pw2.right {v u : Value} {l m : List Int} (h : Pw2 a w p bm vW vI cap W I v l u m) : Pw a w p bm vW vI cap W I u m := by obtain ⟨S, h1, h2, h3, h4, h5, h6⟩ := h; exact ⟨S, h1, h3, h5⟩
theorem Pw2.set {g off n c : Nat} {u : Value} {l m : List Int} (h : Pw2 a w p bm vW vI cap W I (.slice (some ⟨g, off, none⟩) n c) l u m) (hn : l.length = n) (i : Nat) (hi : i < n) (x : Int) :
    Pw2 a (w.setCell ⟨g, off + i, none⟩ (.int .i64 x)) p bm vW vI cap W I (.slice (some ⟨g, off, none⟩) n c) (l.set i x) u m := by
  obtain ⟨S, h1, h2, hm, h3, h4, h5⟩ := h
  obtain ⟨k1, k2, k3, k4⟩ := h3 g rfl
  refine ⟨S, h1.write k1 ?_ k2 k3 k4 _ _, ?_, ?_, h3, h4, h5⟩
  · intro e; subst e; exact Sl.ne h2 h1.bk (by decide) rfl
  · subst hn
    have := Sl.set h2 i hi (.int .i64 x)
    unfold SlI
    rwa [List.map_set, List.length_set]
  · exact hm.keep (Fr.setCell w ⟨g, off + i, none⟩ _) (fun k hk e => h5 g rfl (by rw [← show k = g from e]; exact hk))
theorem Sg.pq (h : Sg a w p cap [] []) : Pq a (w.alloc (.cells #[.int .i64 cap, .slice none 0 0, .slice none 0 0] 42)) p w.heap.size (.slice none 0 0) (.slice none 0 0) cap [] [] := by
  obtain ⟨S, h⟩ := h
  have hb : ∀ g, ¬ Bl (.slice none 0 0) g := by intro g hg; simp [Bl, Value.ownBlock] at hg
  exact ⟨S, h.keep0 (Fr.alloc _ _ _), blk_new _ _, Sl.nil _ _ _, Sl.nil _ _ _, fun e => by have := h.lt _ e; omega, fun g hg => (hb g hg).elim, fun g hg => (hb g hg).elim, h.fr.size, fun g hg => (hb g hg).elim, fun g hg => (hb g hg).elim⟩
end
theorem slI_cell {w : World} {g off n c : Nat} {l : List Int} (h : SlI w (.slice (some ⟨g, off, none⟩) n c) l) (hn : l.length = n) (i : Nat) (hi : i < n) : w.cell? ⟨g, off + i, none⟩ = some (.int .i64 (l.getD i 0)) := by
  subst hn
  exact Sl.cell h i _ (by simp [List.getElem?_eq_getElem hi, List.getD])

set_option maxRecDepth 100000 in
set_option maxHeartbeats 1000000 in
theorem gatePlays_bad (w : World) (x : Int) (v : Value) (hx : x < 1 ∨ 16 < x) :
    Calls Try.prog 6 #[.int .i64 x, v] w fun e w' => e = .returned (.bool true) ∧ Fr w w' No := by
  have hcase : x < 1 ∨ (¬ x < 1 ∧ 16 < x) := by omega
  have HX := Lib.hid hx
  clear hx
  rcases hcase with hx | ⟨hx, hx2⟩
  all_goals
    go_enter Try.func6, Try.ntmps6
    go_wp2_with fail
    refine (awake_any w).mono ?_
    rintro e w1 ⟨rfl, hf1⟩
    go_wp2_with fail
    refine (new_bad x w1 HX.out).mono ?_
    rintro e w2 ⟨rfl, rfl⟩
    go_wp2
    go_ret
    exact ⟨rfl, hf1⟩

set_option maxRecDepth 100000 in
set_option maxHeartbeats 16000000 in
theorem gatePlays_good (w : World) (cap : Nat) (h1 : 1 ≤ cap) (h16' : cap ≤ 16) (v : Value) (n : Nat) (fl : List Int) (hv : Rd w v n (fl.map (Value.int .i64)) 2) (hn : n ≤ 8796093022207) :
    Calls Try.prog 6 #[.int .i64 cap, v] w fun e w' => e = .returned (.bool true) ∧ Fr w w' No := by
  obtain ⟨a, c, rfl⟩ : ∃ a c, v = .slice a n c := by obtain ⟨_, a, c, h, _⟩ := hv; exact ⟨a, c, h⟩
  have HV := Lib.hid hv
  have b1 : ¬ (cap : Int) < 1 := by omega
  have b2 : ¬ 16 < (cap : Int) := by omega
  clear hv
  go_enter Try.func6, Try.ntmps6
  go_wp2_with fail
  refine (awake_any _).mono ?_
  rintro e w1 ⟨rfl, hf1⟩
  have HF := Lib.hid hf1
  clear hf1
  go_wp2_with fail
  refine (new_g w cap _ HF.out h1 h16').mono ?_
  rintro e w2 ⟨rfl, hG⟩
  generalize w1.heap.size + 1 = p at *
  have HP := Lib.hid hG.pq
  clear hG HF
  go_wp2_with fail
  generalize w2.alloc (.cells #[.int .i64 cap, .slice none 0 0, .slice none 0 0] 42) = w3 at *
  generalize w2.heap.size = bm at *
  go_loopg [8] 250 (fun g v8 wr => ∃ (k : Nat) (vW vI : Value) (W I : List Int), k + g = 250 ∧ k ≤ n ∧ v8 = .int .i64 k ∧ Pq w wr p bm vW vI cap W I)
  case atStart => exact ⟨0, _, _, _, _, by omega, by omega, rfl, HP.out⟩
  case round =>
    clear HP
    obtain ⟨k, vW, vI, W, I, hk, hkn, rfl, hP⟩ := hrel
    have HP := Lib.hid hP
    have HK := Lib.hid hk
    clear hP hk
    obtain ⟨gq, hgq⟩ : ∃ q : Nat, q = gk := ⟨_, rfl⟩
    subst hgq
    by_cases hlt : k < n ∧ k < 250
    · obtain ⟨hlt, hlt50⟩ := hlt
      obtain ⟨b, off, rfl, hcell⟩ := Rd.get (HV.out.keep0 HP.out.fr) k hlt
      have hk0 := hcell 0 (by decide)
      simp only [Nat.add_zero] at hk0
      have hk1 := hcell 1 (by decide)
      generalize fl.getD (k * 2) 0 = K at *
      generalize fl.getD (k * 2 + 1) 0 = t at *
      clear hcell
      have hcase : (K == 1) = true ∨ ((K == 1) = false ∧ (K == 2) = true) ∨ ((K == 1) = false ∧ (K == 2) = false ∧ (K == 3) = true) ∨ ((K == 1) = false ∧ (K == 2) = false ∧ (K == 3) = false ∧ (K == 4) = true) ∨ ((K == 1) = false ∧ (K == 2) = false ∧ (K == 3) = false ∧ (K == 4) = false) := by
        by_cases a1 : K = 1 <;> by_cases a2 : K = 2 <;> by_cases a3 : K = 3 <;> by_cases a4 : K = 4 <;> simp [a1, a2, a3, a4]
      have HX := Lib.hid (HP.out.entry K t)
      go_upto_block 2 with (fail)
      generalize hw4 : wr.alloc (.cells #[.int .i64 K, .int .i64 t] 37) = w4 at *
      generalize wr.heap.size = bo at *
      obtain ⟨ko0, ko1⟩ := HX.out.ent
      have HLT := Lib.hid (And.intro hlt hlt50)
      have hle := HX.out.le
      clear hk0 hk1 hw4 HP hlt hlt50
      go_cut [10, 11, 12, 13, 14] from 46 to 117 (fun v10 v11 v12 v13 v14 wx => ∃ (E : Int) (vW vI : Value) (W I : List Int), v10 = .int .i64 E ∧ v11 = .int .i64 E ∧ Pq w wx p bm vW vI cap W I)
      case first =>
        rcases hcase with c1 | ⟨c1, c2⟩ | ⟨c1, c2, c3⟩ | ⟨c1, c2, c3, c4⟩ | ⟨c1, c2, c3, c4⟩
        · go_wp2_with fail
          refine (accept_x t HX.out).mono ?_
          rintro e w5 ⟨rfl, hX⟩
          have HX5 := Lib.hid hX
          obtain ⟨ko0, ko1⟩ := hX.ent
          obtain ⟨kb0, kb1, kb2⟩ := cells_three hX.blk
          have hs5 := hX.sl
          have HS5 := Lib.hid hs5
          clear hX HX hs5
          go_wp2_with fail
          refine (refAcc_any w5 cap vW vI W I t HS5.out.1 HS5.out.2 hle.1 h16' hle.2).mono ?_
          rintro e w6 ⟨vW', vI', rfl, r1, r2, r3, r4, r5⟩
          have hPq := HX5.out.store r3 r1 r2 r4 r5
          have HPq := Lib.hid hPq
          have hb6 := r3.blk HX5.out.blk (fun h => h)
          obtain ⟨kb0, kb1, kb2⟩ := cells_three hb6
          obtain ⟨z0, z1, z2⟩ := frz_three hb6
          obtain ⟨a5, c5, hv5⟩ := slv_form r1
          obtain ⟨a6, c6, hv6⟩ := slv_form r2
          generalize accE W I t = E at *
          generalize (accW W I t).length = n5 at hv5
          generalize I.length = n6 at hv6
          subst hv5
          subst hv6
          clear hPq HX5 HS5 hb6 r1 r2 r3 r4 r5
          go_wp2_with fail
          generalize ((w6.setCell ⟨bm, 0, none⟩ (.int .i64 cap)).setCell ⟨bm, 1, none⟩ (.slice a5 n5 c5)).setCell ⟨bm, 2, none⟩ (.slice a6 n6 c6) = w7 at *
          go_meet
          case rel => exact ⟨_, _, _, _, _, rfl, rfl, HPq.out⟩
        · go_wp2_with fail
          refine (cancel_x t HX.out).mono ?_
          rintro e w5 ⟨rfl, hX⟩
          have HX5 := Lib.hid hX
          obtain ⟨ko0, ko1⟩ := hX.ent
          obtain ⟨kb0, kb1, kb2⟩ := cells_three hX.blk
          have hs5 := hX.sl
          have HS5 := Lib.hid hs5
          clear hX HX hs5
          go_wp2_with fail
          refine (refCan_any w5 cap vW vI W I t HS5.out.1 HS5.out.2 hle.1 h16').mono ?_
          rintro e w6 ⟨vW', vI', rfl, r1, r2, r3, r4, r5⟩
          have hPq := HX5.out.store r3 r1 r2 r4 r5
          have HPq := Lib.hid hPq
          have hb6 := r3.blk HX5.out.blk (fun h => h)
          obtain ⟨kb0, kb1, kb2⟩ := cells_three hb6
          obtain ⟨z0, z1, z2⟩ := frz_three hb6
          obtain ⟨a5, c5, hv5⟩ := slv_form r1
          obtain ⟨a6, c6, hv6⟩ := slv_form r2
          generalize lookE W I t = E at *
          generalize (canW W I t).length = n5 at hv5
          generalize I.length = n6 at hv6
          subst hv5
          subst hv6
          clear hPq HX5 HS5 hb6 r1 r2 r3 r4 r5
          go_wp2_with fail
          generalize ((w6.setCell ⟨bm, 0, none⟩ (.int .i64 cap)).setCell ⟨bm, 1, none⟩ (.slice a5 n5 c5)).setCell ⟨bm, 2, none⟩ (.slice a6 n6 c6) = w7 at *
          go_meet
          case rel => exact ⟨_, _, _, _, _, rfl, rfl, HPq.out⟩
        · go_wp2_with fail
          refine (arrive_x t HX.out).mono ?_
          rintro e w5 ⟨rfl, hX⟩
          have HX5 := Lib.hid hX
          obtain ⟨ko0, ko1⟩ := hX.ent
          obtain ⟨kb0, kb1, kb2⟩ := cells_three hX.blk
          have hs5 := hX.sl
          have HS5 := Lib.hid hs5
          clear hX HX hs5
          go_wp2_with fail
          refine (refArr_any w5 cap vW vI W I t HS5.out.1 HS5.out.2 hle.1 h16' hle.2).mono ?_
          rintro e w6 ⟨vW', vI', rfl, r1, r2, r3, r4, r5⟩
          have hPq := HX5.out.store r3 r1 r2 r4 r5
          have HPq := Lib.hid hPq
          have hb6 := r3.blk HX5.out.blk (fun h => h)
          obtain ⟨kb0, kb1, kb2⟩ := cells_three hb6
          obtain ⟨z0, z1, z2⟩ := frz_three hb6
          obtain ⟨a5, c5, hv5⟩ := slv_form r1
          obtain ⟨a6, c6, hv6⟩ := slv_form r2
          generalize arrE cap W I t = E at *
          generalize (arrW cap W I t).length = n5 at hv5
          generalize (arrI cap W I t).length = n6 at hv6
          subst hv5
          subst hv6
          clear hPq HX5 HS5 hb6 r1 r2 r3 r4 r5
          go_wp2_with fail
          generalize ((w6.setCell ⟨bm, 0, none⟩ (.int .i64 cap)).setCell ⟨bm, 1, none⟩ (.slice a5 n5 c5)).setCell ⟨bm, 2, none⟩ (.slice a6 n6 c6) = w7 at *
          go_meet
          case rel => exact ⟨_, _, _, _, _, rfl, rfl, HPq.out⟩
        · go_wp2_with fail
          refine (leave_x HX.out).mono ?_
          rintro e w5 ⟨rfl, hX⟩
          have HX5 := Lib.hid hX
          obtain ⟨kb0, kb1, kb2⟩ := cells_three hX.blk
          have hs5 := hX.sl
          have HS5 := Lib.hid hs5
          clear hX HX hs5 ko0 ko1
          go_wp2_with fail
          refine (refLea_any w5 cap vW vI W I HS5.out.1 HS5.out.2 hle.1).mono ?_
          rintro e w6 ⟨vW', vI', rfl, r1, r2, r3, r4, r5⟩
          have hPq := HX5.out.store r3 r1 r2 r4 r5
          have HPq := Lib.hid hPq
          have hb6 := r3.blk HX5.out.blk (fun h => h)
          obtain ⟨kb0, kb1, kb2⟩ := cells_three hb6
          obtain ⟨z0, z1, z2⟩ := frz_three hb6
          obtain ⟨a5, c5, hv5⟩ := slv_form r1
          obtain ⟨a6, c6, hv6⟩ := slv_form r2
          generalize leaE I = E at *
          generalize leaX I = X at *
          generalize W.length = n5 at hv5
          generalize I.tail.length = n6 at hv6
          subst hv5
          subst hv6
          have hX : (X == X) = true := by simp
          clear hPq HX5 HS5 hb6 r1 r2 r3 r4 r5
          go_wp2_with fail
          generalize ((w6.setCell ⟨bm, 0, none⟩ (.int .i64 cap)).setCell ⟨bm, 1, none⟩ (.slice a5 n5 c5)).setCell ⟨bm, 2, none⟩ (.slice a6 n6 c6) = w7 at *
          go_meet
          case rel => exact ⟨_, _, _, _, _, rfl, rfl, HPq.out⟩
        · go_wp2_with fail
          have HPq : Hid (Pq w w4 p bm vW vI cap W I) := Lib.hid (by obtain ⟨S, h, _⟩ := HX.out; exact ⟨S, h⟩)
          go_meet
          case rel => exact ⟨_, _, _, _, _, rfl, rfl, HPq.out⟩
      case rest =>
        clear HX ko0 ko1 hle hcase
        obtain ⟨E, vW, vI, W, I, rfl, rfl, hP⟩ := hcut
        have HP := Lib.hid hP
        have hle := hP.le
        clear hP
        go_wp2_with fail
        refine (waiting_q HP.out).mono ?_
        rintro e w5 ⟨v15, rfl, hN⟩
        have HN := Lib.hid hN
        have HP5 := Lib.hid (HP.out.same hN.2.1)
        clear hN
        go_wp2_with fail
        refine (inside_q HP5.out).mono ?_
        rintro e w6 ⟨v16, rfl, hM⟩
        have HQ := Lib.hid (HP.out.beside2 HN.out hM)
        clear hM HN HP HP5
        obtain ⟨a15, c15, hv15⟩ := slv_form HQ.out.s1
        subst hv15
        obtain ⟨a16, c16, hv16⟩ := slv_form HQ.out.s2
        subst hv16
        obtain ⟨kb0, kb1, kb2⟩ := cells_three HQ.out.pq.blk
        obtain ⟨aW, cW, hvW⟩ := slv_form HQ.out.pq.sl.1
        subst hvW
        obtain ⟨aI, cI, hvI⟩ := slv_form HQ.out.pq.sl.2
        subst hvI
        have hE : (E == E) = true := by simp
        have hE' : (E != E) = false := bne_self_eq_false E
        have hw1 : IntKind.i64.wrap ((cap : Int) - (I.length : Int)) = (cap : Int) - (I.length : Int) := IntWalk.i64_in _ (by omega)
        go_upto_region 32 with (fail)
        go_quiet ((first
          | (go_at_call 18; exact Calls.quiet_of ((credits_q (HQ.out.pq.same (Fr.drewN _ _ _))).mono fun e w' ⟨he, n, hn⟩ => ⟨he, n, hn.symm⟩))
          | (go_at_call_of 15 (Value.slice a15 W.length c15); exact Calls.quiet_of (ints_trueN _ _ W _ ((SlI.rd HQ.out.s1 (by omega)).drewN _) ((SlI.rd HQ.out.pq.sl.1 (by omega)).drewN _)))
          | (go_at_call_of 15 (Value.slice a16 I.length c16); exact Calls.quiet_of (ints_trueN _ _ I _ ((SlI.rd HQ.out.s2 (by omega)).drewN _) ((SlI.rd HQ.out.pq.sl.2 (by omega)).drewN _)))))
        have HQ2 := Lib.hid (HQ.out.same (Fr.drewN w6 nq No))
        clear kb0 kb1 kb2 hE hE' hw1 HQ
        go_wp2_with fail
        go_loopg [151] W.length (fun g v151 wr => ∃ (j : Nat) (ys : List Int), j + g = W.length ∧ v151 = .int .i64 j ∧ ys.length = W.length ∧ Pw2 w wr p bm (.slice aW W.length cW) (.slice aI I.length cI) cap W I (.slice a15 W.length c15) ys (.slice a16 I.length c16) I)
        case atStart => exact ⟨0, W, by omega, rfl, rfl, HQ2.out⟩
        case round =>
          clear HQ2
          obtain ⟨j, ys, hj, rfl, hyl, hQ⟩ := hrel
          have HQ := Lib.hid hQ
          have HJ := Lib.hid hj
          have HYL := Lib.hid hyl
          clear hQ hj hyl
          by_cases hjl : j < W.length
          · obtain ⟨b9, o9, hb9, kc⟩ := (SlI.rd HQ.out.s1 (by rw [HYL.out]; omega)).get j (by rw [HYL.out]; exact hjl)
            subst hb9
            have hf9 := Sl.frz HQ.out.s1 (o9 + j)
            generalize ys.getD j 0 = y at *
            have HQ3 := Lib.hid (HQ.out.set HYL.out j hjl (wrap64 (y + 1)))
            have hjl' : (j : Int) < (W.length : Int) := by omega
            have HJL := Lib.hid hjl
            clear hjl
            go_wp2_with fail
            go_roundg (gk - 1)
            case measure => have := HJ.out; have := HJL.out; omega
            case rel => exact ⟨j + 1, ys.set j (wrap64 (y + 1)), by have := HJ.out; have := HJL.out; omega, by go_num, by rw [List.length_set]; exact HYL.out, HQ3.out⟩
          · have HR := Lib.hid HQ.out.right
            have hjl' : ¬ (j : Int) < (W.length : Int) := by omega
            clear HQ hjl HJ HYL
            go_wp2_with fail
            go_loopg [163] I.length (fun g v163 wr => ∃ (i : Nat) (ys : List Int), i + g = I.length ∧ v163 = .int .i64 i ∧ ys.length = I.length ∧ Pw w wr p bm (.slice aW W.length cW) (.slice aI I.length cI) cap W I (.slice a16 I.length c16) ys)
            case atStart => exact ⟨0, I, by omega, rfl, rfl, HR.out⟩
            case round =>
              clear HR
              obtain ⟨i, ys, hi, rfl, hyl, hQ⟩ := hrel
              have HQ := Lib.hid hQ
              have HI := Lib.hid hi
              have HYL := Lib.hid hyl
              clear hQ hi hyl
              by_cases hil : i < I.length
              · obtain ⟨b9, o9, hb9, kc⟩ := (SlI.rd HQ.out.sl (by rw [HYL.out]; omega)).get i (by rw [HYL.out]; exact hil)
                subst hb9
                have hf9 := Sl.frz HQ.out.sl (o9 + i)
                generalize ys.getD i 0 = y at *
                have HQ3 := Lib.hid (HQ.out.set HYL.out i hil (wrap64 (y + 1)))
                have hil' : (i : Int) < (I.length : Int) := by omega
                have HIL := Lib.hid hil
                clear hil
                go_wp2_with fail
                go_roundg (gk - 1)
                case measure => have := HI.out; have := HIL.out; omega
                case rel => exact ⟨i + 1, ys.set i (wrap64 (y + 1)), by have := HI.out; have := HIL.out; omega, by go_num, by rw [List.length_set]; exact HYL.out, HQ3.out⟩
              · have hil' : ¬ (i : Int) < (I.length : Int) := by omega
                have HE := Lib.hid HQ.out.pq
                clear hil HI HYL HQ
                go_wp2_with fail
                go_roundg (gq - 1)
                case measure => have := HK.out; have := HLT.out; omega
                case rel => exact ⟨k + 1, _, _, _, _, by have := HK.out; have := HLT.out; omega, by have := HLT.out; omega, by go_num, HE.out⟩
    · have hcase : (¬ (k : Int) < (n : Int)) ∨ ((k : Int) < (n : Int) ∧ ¬ (k : Int) < 250) := by omega
      clear hlt
      rcases hcase with hlt | ⟨hlt, hlt2⟩
      all_goals
        go_wp2_with fail
        go_ret
        exact ⟨rfl, HP.out.fr⟩

theorem gatePlays_all (w : World) (x : Int) (_ : (Lit.int .i64 x).wf = true) (v : Value) (n : Nat) (fl : List Int) (hv : Rd w v n (fl.map (Value.int .i64)) 2) (hn : n ≤ 8796093022207) :
    Calls Try.prog 6 #[.int .i64 x, v] w fun e w' => e = .returned (.bool true) ∧ Fr w w' No := by
  by_cases h : x < 1 ∨ 16 < x
  · exact gatePlays_bad w x v h
  · have := gatePlays_good w x.toNat (by omega) (by omega) v n fl hv hn
    rwa [Int.toNat_of_nonneg (by omega)] at this
end Go.Proofs.Ytmdciipaggcjoaa
