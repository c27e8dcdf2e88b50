import Derived.Test.YtoilalohhicipaaSh4
import Derived.Deep.CutBlock
import Derived.Deep.DeepCutAuto
namespace Go.Proofs.Ytoilalohhicipaa
open Go.RowKit
set_option linter.unusedVariables false
set_option linter.unusedSimpArgs false

set_option maxRecDepth 100000 in
set_option maxHeartbeats 1000000 in
theorem shuttleLoads_bad (w : World) (n a p : Int) (v : Value) (h : newBad n a p) :
    Calls Try.prog 6 #[.agg #[.int .i64 n, .int .i64 a, .int .i64 p], v] w fun e w' => e = .returned (.bool true) ∧ Fr w w' No := by
  have H := Lib.hid h
  clear h
  go_enter Try.func6, Try.ntmps6
  go_wp2_with fail
  refine (awake_any _).mono ?_
  rintro e w1 ⟨rfl, hf1⟩
  have hb := hf1.blk (blk_new w (.cells #[.int .i64 n, .int .i64 a, .int .i64 p] 23)) (fun h => h)
  have hF := Lib.hid ((Fr.alloc w (.cells #[.int .i64 n, .int .i64 a, .int .i64 p] 23) No).nn hf1)
  have c0 : w1.cell? ⟨w.heap.size, 0, none⟩ = some (.int .i64 n) := blk_cell hb 0
  have c1 : w1.cell? ⟨w.heap.size, 1, none⟩ = some (.int .i64 a) := blk_cell hb 1
  have c2 : w1.cell? ⟨w.heap.size, 2, none⟩ = some (.int .i64 p) := blk_cell hb 2
  clear hb hf1
  go_wp2_with fail
  refine (new_bad _ n a p H.out).mono ?_
  rintro e w2 ⟨rfl, rfl⟩
  go_wp2
  go_ret
  exact ⟨rfl, hF.out⟩

/-- The law's state: the shuttle in g, the job that was taken in bj. -/
structure Run (w wr : World) (g bj : Nat) (s : St) : Prop where
  sh : ShAt wr g s
  job : wr.heap[bj]? = some (.cells #[.int .i64 s.tote, .int .i64 s.fr, .int .i64 s.to_] 33 (0, 0))
  fr : Fr w wr No
  ok : Ok s
  hg : w.heap.size ≤ g
  hb : w.heap.size ≤ bj
theorem Run.ne {w wr : World} {g bj : Nat} {s : St} (h : Run w wr g bj s) : bj ≠ g := blk_ne h.job h.sh (by decide)
theorem Run.keep0 {w wr w' : World} {g bj : Nat} {s : St} (h : Run w wr g bj s) (hf : Fr wr w' No) : Run w w' g bj s :=
  ⟨h.sh.keep0 hf, hf.blk h.job (fun h => h), h.fr.nn hf, h.ok, h.hg, h.hb⟩
/-- The shuttle took a step, and its job stayed. -/
theorem Run.step {w wr w' : World} {g bj : Nat} {s T : St} (h : Run w wr g bj s) (hs : ShAt w' g T) (hf : Fr wr w' (One g)) (hT : Ok T) (h1 : T.tote = s.tote) (h2 : T.fr = s.fr) (h3 : T.to_ = s.to_) : Run w w' g bj T :=
  ⟨hs, by rw [h1, h2, h3]; exact hf.blk h.job (fun e => h.ne e), h.fr.in1 hf h.hg, hT, h.hg, h.hb⟩
/-- The shuttle took a job, and the law notes it. -/
theorem Run.took {w wr w' : World} {g bj : Nat} {s T : St} (h : Run w wr g bj s) (hs : ShAt w' g T) (hf : Fr wr w' (One g)) (hT : Ok T) {t f o : Int} (h1 : T.tote = t) (h2 : T.fr = f) (h3 : T.to_ = o) :
    Run w (((w'.setCell ⟨bj, 0, none⟩ (.int .i64 t)).setCell ⟨bj, 1, none⟩ (.int .i64 f)).setCell ⟨bj, 2, none⟩ (.int .i64 o)) g bj T := by
  have hb := hf.blk h.job (fun e => h.ne e)
  have hF : Fr w' (((w'.setCell ⟨bj, 0, none⟩ (.int .i64 t)).setCell ⟨bj, 1, none⟩ (.int .i64 f)).setCell ⟨bj, 2, none⟩ (.int .i64 o)) (One bj) := (((Fr.refl w' (One bj)).to_one _ _).to_one _ _).to_one _ _
  refine ⟨hs.keep hF (fun e => h.ne e.symm), ?_, (h.fr.in1 hf h.hg).in1 hF h.hb, hT, h.hg, h.hb⟩
  rw [h1, h2, h3]
  have := blk_set (blk_set (blk_set hb 0 (.int .i64 t)) 1 (.int .i64 f)) 2 (.int .i64 o)
  simpa using this

set_option maxRecDepth 100000 in
set_option maxHeartbeats 8000000 in
theorem shuttleLoads_good (w : World) (n a p : Int) (v : Value) (m : Nat) (fl : List Int) (hv : Rd w v m (fl.map (Value.int .i64)) 5) (hm : m ≤ 17592186044415) (h : ¬ newBad n a p) :
    Calls Try.prog 6 #[.agg #[.int .i64 n, .int .i64 a, .int .i64 p], v] w fun e w' => e = .returned (.bool true) ∧ Fr w w' No := by
  obtain ⟨av, cv, rfl⟩ : ∃ a c, v = .slice a m c := by obtain ⟨_, a, c, h, _⟩ := hv; exact ⟨a, c, h⟩
  have HV := Lib.hid hv
  have H := Lib.hid h
  clear h hv
  go_enter Try.func6, Try.ntmps6
  go_wp2_with fail
  refine (awake_any _).mono ?_
  rintro e w1 ⟨rfl, hf1⟩
  have hb := hf1.blk (blk_new w (.cells #[.int .i64 n, .int .i64 a, .int .i64 p] 23)) (fun h => h)
  have hF := Lib.hid ((Fr.alloc w (.cells #[.int .i64 n, .int .i64 a, .int .i64 p] 23) No).nn hf1)
  have c0 : w1.cell? ⟨w.heap.size, 0, none⟩ = some (.int .i64 n) := blk_cell hb 0
  have c1 : w1.cell? ⟨w.heap.size, 1, none⟩ = some (.int .i64 a) := blk_cell hb 1
  have c2 : w1.cell? ⟨w.heap.size, 2, none⟩ = some (.int .i64 p) := blk_cell hb 2
  clear hb hf1
  go_wp2_with fail
  refine (new_ok _ n a p H.out).mono ?_
  rintro e w2 ⟨rfl, hs, hf2⟩
  have HR : Hid (Run w (w2.alloc (.cells #[.int .i64 0, .int .i64 0, .int .i64 0] 33)) w1.heap.size w2.heap.size (newS n a p)) := Lib.hid
    ⟨hs.keep0 (Fr.alloc _ _ _), blk_new _ _, (hF.out.nn hf2).nn (Fr.alloc _ _ _), ok_new n a p H.out, hF.out.size, (hF.out.nn hf2).size⟩
  have HL : Hid (loadS (newS n a p) = 0) := Lib.hid (by simp [loadS, loadK, newS])
  clear hF hf2 hs c0 c1 c2
  go_wp2_with fail
  generalize w2.alloc (.cells #[.int .i64 0, .int .i64 0, .int .i64 0] 33) = w3 at *
  generalize w1.heap.size = g at *
  generalize w2.heap.size = bj at *
  go_loopw [8, 9, 10] (fun v8 v9 v10 wr => ∃ (k : Nat) (s : St), k ≤ m ∧ k ≤ 300 ∧ v10 = .int .i64 k ∧ v8 = .int .i64 (loadS s) ∧ v9 = .int .i64 s.done ∧ s.done ≤ k ∧ Run w wr g bj s) (fun _ _ i _ => 300 - (intOf i).toNat)
  case atStart => exact ⟨0, newS n a p, by omega, by omega, rfl, by rw [HL.out], rfl, by simp [newS], HR.out⟩
  case round =>
    clear HR HL
    obtain ⟨k, s, hk, hk50, rfl, rfl, rfl, hd, hR⟩ := hrel
    have HR := Lib.hid hR
    clear hR
    by_cases hlt : k < m ∧ k < 300
    · obtain ⟨hlt, hlt50⟩ := hlt
      obtain ⟨b, off, rfl, hcell⟩ := (HV.out.keep0 HR.out.fr).get k hlt
      have hk0 := hcell 0 (by decide)
      simp only [Nat.add_zero] at hk0
      have hk1 := hcell 1 (by decide)
      have hk2 := hcell 2 (by decide)
      have hk3 := hcell 3 (by decide)
      have hk4 := hcell 4 (by decide)
      generalize fl.getD (k * 5) 0 = K at *
      generalize fl.getD (k * 5 + 1) 0 = N at *
      generalize fl.getD (k * 5 + 2) 0 = t at *
      generalize fl.getD (k * 5 + 3) 0 = f at *
      generalize fl.getD (k * 5 + 4) 0 = o at *
      clear hcell
      have HBW := Lib.hid (HR.out.keep0 (Fr.alloc wr (.cells #[.int .i64 K, .int .i64 N, .int .i64 t, .int .i64 f, .int .i64 o] 49) No))
      have HO := Lib.hid (blk_new wr (.cells #[.int .i64 K, .int .i64 N, .int .i64 t, .int .i64 f, .int .i64 o] 49))
      have hglt : g < wr.heap.size := HR.out.sh.lt
      go_upto_block 2 with (fail)
      generalize hw4 : wr.alloc (.cells #[.int .i64 K, .int .i64 N, .int .i64 t, .int .i64 f, .int .i64 o] 49) = w4 at *
      generalize wr.heap.size = bo at *
      have ko0 : w4.cell? ⟨bo, 0, none⟩ = some (.int .i64 K) := blk_cell HO.out 0
      have ko1 : w4.cell? ⟨bo, 1, none⟩ = some (.int .i64 N) := blk_cell HO.out 1
      have ko2 : w4.cell? ⟨bo, 2, none⟩ = some (.int .i64 t) := blk_cell HO.out 2
      have ko3 : w4.cell? ⟨bo, 3, none⟩ = some (.int .i64 f) := blk_cell HO.out 3
      have ko4 : w4.cell? ⟨bo, 4, none⟩ = some (.int .i64 o) := blk_cell HO.out 4
      clear hk0 hk1 hk2 hk3 hk4 hw4 HR
      have hcase : (K == 1) = true ∨ ((K == 1) = false ∧ (K == 2) = true) ∨ ((K == 1) = false ∧ (K == 2) = false ∧ (K == 3) = true) ∨ ((K == 1) = false ∧ (K == 2) = false ∧ (K == 3) = false ∧ (K == 4) = true) ∨ ((K == 1) = false ∧ (K == 2) = false ∧ (K == 3) = false ∧ (K == 4) = false ∧ (K == 5) = true) ∨
          ((K == 1) = false ∧ (K == 2) = false ∧ (K == 3) = false ∧ (K == 4) = false ∧ (K == 5) = false ∧ (K == 6) = true) ∨ ((K == 1) = false ∧ (K == 2) = false ∧ (K == 3) = false ∧ (K == 4) = false ∧ (K == 5) = false ∧ (K == 6) = false) := by
        by_cases a1 : K = 1 <;> by_cases a2 : K = 2 <;> by_cases a3 : K = 3 <;> by_cases a4 : K = 4 <;> by_cases a5 : K = 5 <;> by_cases a6 : K = 6 <;> simp [a1, a2, a3, a4, a5, a6]
      have hd0 := HBW.out.ok.d1
      have ht0 := HBW.out.ok.t1
      have ht1 := HBW.out.ok.t2
      have hp1 := HBW.out.ok.p2
      have hw1 := HBW.out.ok.w1
      have hw2 := HBW.out.ok.w2
      go_cut [8, 9, 12] from 32 to 179 (fun v8 v9 v12 wx => ∃ S, v8 = .int .i64 (loadS S) ∧ v9 = .int .i64 S.done ∧ S.done ≤ (k : Int) + 1 ∧ Run w wx g bj S)
      case first =>
        rcases hcase with c1 | ⟨c1, c2⟩ | ⟨c1, c2, c3⟩ | ⟨c1, c2, c3, c4⟩ | ⟨c1, c2, c3, c4, c5⟩ | ⟨c1, c2, c3, c4, c5, c6⟩ | ⟨c1, c2, c3, c4, c5, c6⟩
        · as_aux_lemma =>
          go_wp2_with fail
          refine (assign_any w4 g s t f o HBW.out.sh).mono ?_
          rintro e w5 ⟨rfl, hs5, hf5⟩
          have ko2' : w5.cell? ⟨bo, 2, none⟩ = some (.int .i64 t) := hf5.cell ko2 (fun e => by have : bo = g := e; omega)
          have ko3' : w5.cell? ⟨bo, 3, none⟩ = some (.int .i64 f) := hf5.cell ko3 (fun e => by have : bo = g := e; omega)
          have ko4' : w5.cell? ⟨bo, 4, none⟩ = some (.int .i64 o) := hf5.cell ko4 (fun e => by have : bo = g := e; omega)
          have hb5 := hf5.blk HBW.out.job (fun e => HBW.out.ne e)
          have kb0 := blk_frozen hb5 0
          have kb1 := blk_frozen hb5 1
          have kb2 := blk_frozen hb5 2
          have kc0 : w5.cell? ⟨bj, 0, none⟩ = some (.int .i64 s.tote) := blk_cell hb5 0
          have kc1 : w5.cell? ⟨bj, 1, none⟩ = some (.int .i64 s.fr) := blk_cell hb5 1
          have kc2 : w5.cell? ⟨bj, 2, none⟩ = some (.int .i64 s.to_) := blk_cell hb5 2
          obtain ⟨al, ad⟩ := @assign_load s t f o
          obtain ⟨aj, an⟩ := @assign_job s t f o
          have hok := HBW.out.ok.assign t f o
          by_cases he : assignE s t f o = 0
          · as_aux_lemma =>
            have HX := Lib.hid (HBW.out.took hs5 hf5 hok (aj he).1 (aj he).2.1 (aj he).2.2)
            have AL := Lib.hid al
            have AD := Lib.hid ad
            rw [he]
            clear aj an al ad hok hb5 hs5 hf5 he ko0 ko1 ko2 ko3 ko4
            go_wp2_with fail
            generalize ((w5.setCell ⟨bj, 0, none⟩ (.int .i64 t)).setCell ⟨bj, 1, none⟩ (.int .i64 f)).setCell ⟨bj, 2, none⟩ (.int .i64 o) = w9 at *
            clear kb0 kb1 kb2 ko2' ko3' ko4' kc0 kc1 kc2
            have HZ : Hid (∃ S, Run w w9 g bj S ∧ loadS S = loadS s ∧ S.done = s.done) := Lib.hid ⟨_, HX.out, AL.out, AD.out⟩
            clear HX AL AD
            obtain ⟨S9, hR9, hL9, hD9⟩ := HZ.out
            clear HZ
            go_meet
            case rel => exact ⟨S9, by rw [hL9], by rw [hD9], by omega, hR9⟩
          · as_aux_lemma =>
            have HX := Lib.hid (HBW.out.step (T := s) (by rw [an he] at hs5; exact hs5) hf5 HBW.out.ok rfl rfl rfl)
            have he' : (assignE s t f o == 0) = false := by simpa using he
            clear aj an al ad hok hb5 hs5 hf5 he ko0 ko1 ko2 ko3 ko4 kb0 kb1 kb2 kc0 kc1 kc2
            generalize assignE s t f o = E at *
            go_wp2_with fail
            clear ko2' ko3' ko4'
            have HZ : Hid (∃ S, Run w w5 g bj S ∧ loadS S = loadS s ∧ S.done = s.done) := Lib.hid ⟨_, HX.out, rfl, rfl⟩
            clear HX
            generalize w5 = w9 at *
            obtain ⟨S9, hR9, hL9, hD9⟩ := HZ.out
            clear HZ
            go_meet
            case rel => exact ⟨S9, by rw [hL9], by rw [hD9], by omega, hR9⟩
        · as_aux_lemma =>
          go_wp2_with fail
          refine (tick_any w4 g s ht0 (by omega) HBW.out.sh).mono ?_
          rintro e w5 ⟨rfl, hs5, hf5⟩
          obtain ⟨al, ad, ap, j1, j2, j3⟩ := @tick_load s
          have HX := Lib.hid (HBW.out.step hs5 hf5 HBW.out.ok.tick j1 j2 j3)
          have AL := Lib.hid al
          have AD := Lib.hid ad
          have AP := Lib.hid ap
          have J1 := Lib.hid j1
          have J2 := Lib.hid j2
          have J3 := Lib.hid j3
          have htells := tick_tells HBW.out.ok
          clear al ad ap j1 j2 j3 hs5 hf5 ko0 ko1 ko2 ko3 ko4
          generalize tickS s = S at *
          generalize tickK s = TK at *
          generalize tickW s = TW at *
          have HX6 := Lib.hid (HX.out.keep0 (Fr.alloc w5 (.cells #[.int .i64 TK, .int .i64 TW] 37) No))
          have hx := blk_new w5 (.cells #[.int .i64 TK, .int .i64 TW] 37)
          go_upto_region 17 with (fail)
          generalize w5.alloc (.cells #[.int .i64 TK, .int .i64 TW] 37) = w6 at *
          generalize w5.heap.size = bx at *
          have kx0 : w6.cell? ⟨bx, 0, none⟩ = some (.int .i64 TK) := blk_cell hx 0
          have kx1 : w6.cell? ⟨bx, 1, none⟩ = some (.int .i64 TW) := blk_cell hx 1
          have kj0 : w6.cell? ⟨bj, 0, none⟩ = some (.int .i64 s.tote) := by rw [← J1.out]; exact blk_cell HX6.out.job 0
          have kj1 : w6.cell? ⟨bj, 1, none⟩ = some (.int .i64 s.fr) := by rw [← J2.out]; exact blk_cell HX6.out.job 1
          have kj2 : w6.cell? ⟨bj, 2, none⟩ = some (.int .i64 s.to_) := by rw [← J3.out]; exact blk_cell HX6.out.job 2
          clear hx
          have HZ : Hid (∃ S, Run w w6 g bj S ∧ loadS S = loadS s ∧ S.done = s.done) := Lib.hid ⟨_, HX6.out, AL.out, AD.out⟩
          have HA := Lib.hid (⟨AP.out, J1.out, J2.out, J3.out⟩ : S.place = s.place ∧ S.tote = s.tote ∧ S.fr = s.fr ∧ S.to_ = s.to_)
          clear AP J1 J2 J3 AL AD
          have hcase : (TK = 0 ∧ TW = 0) ∨ (TK = 1 ∧ TW = s.fr ∧ (s.fr != s.fr) = false) ∨ (TK = 2 ∧ TW = s.tote ∧ (loadS s != 0) = false ∧ (s.tote != s.tote) = false ∧ (s.place != s.fr) = false) ∨ (TK = 1 ∧ TW = s.to_ ∧ (s.to_ != s.to_) = false ∧ (s.to_ != s.fr) = true) ∨ (TK = 1 ∧ TW = s.to_ ∧ (s.to_ != s.to_) = false ∧ (s.to_ != s.fr) = false) ∨
              (TK = 3 ∧ TW = s.tote ∧ (loadS s != s.tote) = false ∧ (s.tote != loadS s) = false ∧ (s.place != s.to_) = false) := by
            rcases htells with ⟨h1, h2⟩ | ⟨h0, h1, h2⟩ | ⟨h0, h1, h2, h3, h4⟩ | ⟨h0, h1, h2⟩ | ⟨h0, h1, h2, h3, h4⟩
            · exact .inl ⟨h1, h2⟩
            · exact .inr (.inl ⟨h1, h2, bne_self_eq_false _⟩)
            · exact .inr (.inr (.inl ⟨h1, h2, by simp [h3], bne_self_eq_false _, by simp [h4]⟩))
            · by_cases hh : s.to_ = s.fr
              · exact .inr (.inr (.inr (.inr (.inl ⟨h1, h2, bne_self_eq_false _, by simp [hh]⟩))))
              · exact .inr (.inr (.inr (.inl ⟨h1, h2, bne_self_eq_false _, by simp [hh]⟩)))
            · exact .inr (.inr (.inr (.inr (.inr ⟨h1, h2, by simp [h3], by simp [h3], by simp [h4]⟩))))
          clear htells
          rcases hcase with ⟨rfl, rfl⟩ | ⟨rfl, rfl, b1⟩ | ⟨rfl, rfl, b1, b2, b3⟩ | ⟨rfl, rfl, b1, b2⟩ | ⟨rfl, rfl, b1, b2⟩ | ⟨rfl, rfl, b1, b2, b3⟩
          all_goals
            go_quiet ((go_at_call 16; exact Calls.quiet_of_same ((place_is _ g S s.place (HX6.out.sh.drewN _) HA.out.1).mono fun e w' h => ⟨h.1, h.2.symm⟩)))
            go_wp2_with fail
            have HZ9 : Hid (∃ S, Run w (w6.drewN nq) g bj S ∧ loadS S = loadS s ∧ S.done = s.done) := Lib.hid (by
              obtain ⟨S, h1, h2⟩ := HZ.out
              exact ⟨S, h1.keep0 (Fr.drewN w6 nq No), h2⟩)
            clear HZ HX6
            generalize w6.drewN nq = w9 at *
            have HZ : Hid (∃ S, Run w w9 g bj S ∧ loadS S = loadS s ∧ S.done = s.done) := HZ9
            obtain ⟨S9, hR9, hL9, hD9⟩ := HZ.out
            clear HZ
            go_meet
            case rel => exact ⟨S9, by rw [hL9], by rw [hD9], by omega, hR9⟩
        · as_aux_lemma =>
          go_wp2_with fail
          refine (moved_any w4 g s N HBW.out.sh).mono ?_
          rintro e w9 ⟨rfl, hs5, hf5⟩
          have HZ : Hid (∃ S, Run w w9 g bj S ∧ loadS S = loadS s ∧ S.done = s.done) := Lib.hid ⟨_, HBW.out.step hs5 hf5 (HBW.out.ok.moved N) (moved_job N).1 (moved_job N).2.1 (moved_job N).2.2, (moved_load N).1, (moved_load N).2⟩
          clear hs5 hf5 ko0 ko1 ko2 ko3 ko4
          generalize movedE s N = E at *
          go_wp2_with fail
          obtain ⟨S9, hR9, hL9, hD9⟩ := HZ.out
          clear HZ
          go_meet
          case rel => exact ⟨S9, by rw [hL9], by rw [hD9], by omega, hR9⟩
        · as_aux_lemma =>
          go_wp2_with fail
          refine (picked_any w4 g s N HBW.out.sh).mono ?_
          rintro e w5 ⟨rfl, hs5, hf5⟩
          obtain ⟨q1, q2, q3, q4, q5, q6⟩ := @picked_load s N
          have ko1' : w5.cell? ⟨bo, 1, none⟩ = some (.int .i64 N) := hf5.cell ko1 (fun e => by have : bo = g := e; omega)
          by_cases he : handE s 2 N = 0
          · as_aux_lemma =>
            have HX := Lib.hid (HBW.out.step hs5 hf5 (HBW.out.ok.picked N) q4 q5 q6)
            obtain ⟨r1, r2, r3⟩ := q1 he
            have r4 := Lib.hid r3
            have kj0 : w5.cell? ⟨bj, 0, none⟩ = some (.int .i64 N) := by have h := blk_cell HX.out.job 0; rw [q4, ← r2] at h; exact h
            have b1 : (loadS s != 0) = false := by simp [r1]
            have b2 : (N != N) = false := bne_self_eq_false _
            have R3 := Lib.hid q3
            rw [he]
            clear q1 q2 q4 q5 q6 q3 r1 r2 r3 he hs5 hf5 ko0 ko1 ko2 ko3 ko4
            go_wp2_with fail
            have HZ : Hid (∃ S, Run w w5 g bj S ∧ loadS S = N ∧ S.done = s.done) := Lib.hid ⟨_, HX.out, r4.out, R3.out⟩
            clear HX kj0 ko1' r4 R3
            generalize w5 = w9 at *
            obtain ⟨S9, hR9, hL9, hD9⟩ := HZ.out
            clear HZ
            go_meet
            case rel => exact ⟨S9, by rw [hL9], by rw [hD9], by omega, hR9⟩
          · as_aux_lemma =>
            have HX := Lib.hid (HBW.out.step (T := s) (by rw [q2 he] at hs5; exact hs5) hf5 HBW.out.ok rfl rfl rfl)
            have he' : (handE s 2 N == 0) = false := by simpa using he
            clear q1 q2 q3 q4 q5 q6 he hs5 hf5 ko0 ko1 ko2 ko3 ko4 ko1'
            generalize handE s 2 N = E at *
            go_wp2_with fail
            have HZ : Hid (∃ S, Run w w5 g bj S ∧ loadS S = loadS s ∧ S.done = s.done) := Lib.hid ⟨_, HX.out, rfl, rfl⟩
            clear HX
            generalize w5 = w9 at *
            obtain ⟨S9, hR9, hL9, hD9⟩ := HZ.out
            clear HZ
            go_meet
            case rel => exact ⟨S9, by rw [hL9], by rw [hD9], by omega, hR9⟩
        · as_aux_lemma =>
          go_wp2_with fail
          refine (dropped_any w4 g s N hd0 (by omega) HBW.out.sh).mono ?_
          rintro e w5 ⟨rfl, hs5, hf5⟩
          obtain ⟨q1, q2, q4, q5, q6⟩ := dropped_load HBW.out.ok N
          have ko1' : w5.cell? ⟨bo, 1, none⟩ = some (.int .i64 N) := hf5.cell ko1 (fun e => by have : bo = g := e; omega)
          by_cases he : handE s 4 N = 0
          · as_aux_lemma =>
            have HX := Lib.hid (HBW.out.step hs5 hf5 (HBW.out.ok.dropped N) q4 q5 q6)
            obtain ⟨r1, r2, r3, r4⟩ := q1 he
            have R3 := Lib.hid r3
            have R4 := Lib.hid r4
            have b1 : (loadS s == 0) = false := by simp [r1]
            have b2 : (N != loadS s) = false := by simp [r2]
            have hw : IntKind.i64.wrap (s.done + 1) = s.done + 1 := IntWalk.i64_in _ (by omega)
            rw [he]
            clear q1 q2 q4 q5 q6 r1 r2 r3 r4 he hs5 hf5 ko0 ko1 ko2 ko3 ko4
            go_wp2_with fail
            have HZ : Hid (∃ S, Run w w5 g bj S ∧ loadS S = 0 ∧ S.done = s.done + 1) := Lib.hid ⟨_, HX.out, R3.out, R4.out⟩
            clear HX ko1' R3 R4
            generalize w5 = w9 at *
            obtain ⟨S9, hR9, hL9, hD9⟩ := HZ.out
            clear HZ
            go_meet
            case rel => exact ⟨S9, by rw [hL9], by rw [hD9], by omega, hR9⟩
          · as_aux_lemma =>
            have HX := Lib.hid (HBW.out.step (T := s) (by rw [q2 he] at hs5; exact hs5) hf5 HBW.out.ok rfl rfl rfl)
            have he' : (handE s 4 N == 0) = false := by simpa using he
            clear q1 q2 q4 q5 q6 he hs5 hf5 ko0 ko1 ko2 ko3 ko4 ko1'
            generalize handE s 4 N = E at *
            go_wp2_with fail
            have HZ : Hid (∃ S, Run w w5 g bj S ∧ loadS S = loadS s ∧ S.done = s.done) := Lib.hid ⟨_, HX.out, rfl, rfl⟩
            clear HX
            generalize w5 = w9 at *
            obtain ⟨S9, hR9, hL9, hD9⟩ := HZ.out
            clear HZ
            go_meet
            case rel => exact ⟨S9, by rw [hL9], by rw [hD9], by omega, hR9⟩
        · as_aux_lemma =>
          go_wp2_with fail
          refine (reset_any w4 g s hw1 (by omega) HBW.out.sh).mono ?_
          rintro e w9 ⟨rfl, hs5, hf5⟩
          have HZ : Hid (∃ S, Run w w9 g bj S ∧ loadS S = loadS s ∧ S.done = s.done) := Lib.hid ⟨_, HBW.out.step hs5 hf5 HBW.out.ok.reset reset_job.1 reset_job.2.1 reset_job.2.2, (reset_load HBW.out.ok).1, (reset_load HBW.out.ok).2⟩
          clear hs5 hf5 ko0 ko1 ko2 ko3 ko4
          generalize resetE s = E at *
          go_wp2_with fail
          obtain ⟨S9, hR9, hL9, hD9⟩ := HZ.out
          clear HZ
          go_meet
          case rel => exact ⟨S9, by rw [hL9], by rw [hD9], by omega, hR9⟩
        · as_aux_lemma =>
          go_wp2_with fail
          have HZ : Hid (∃ S, Run w w4 g bj S ∧ loadS S = loadS s ∧ S.done = s.done) := Lib.hid ⟨_, HBW.out, rfl, rfl⟩
          generalize w4 = w9 at *
          obtain ⟨S9, hR9, hL9, hD9⟩ := HZ.out
          clear HZ
          go_meet
          case rel => exact ⟨S9, by rw [hL9], by rw [hD9], by omega, hR9⟩
      case rest => as_aux_lemma =>
        obtain ⟨S9, rfl, rfl, hd9, hR9⟩ := hcut
        have HR9 := Lib.hid hR9
        clear hR9 HBW HO ko0 ko1 ko2 ko3 ko4
        go_wp2_with fail
        refine (load_any _ g S9 HR9.out.sh).mono ?_
        rintro e w' ⟨rfl, rfl⟩
        go_wp2_with fail
        refine (done_any _ g S9 HR9.out.sh).mono ?_
        rintro e w' ⟨rfl, rfl⟩
        go_wp2
        go_roundw
        case rel => exact ⟨k + 1, S9, by omega, by omega, by go_num, rfl, rfl, by omega, HR9.out⟩
        case measure => simp [intOf]; omega
    · have hcase : (¬ k < m) ∨ (k < m ∧ ¬ k < 300) := by omega
      clear hlt
      rcases hcase with hlt | ⟨hlt, hlt2⟩
      all_goals
        go_wp2
        go_ret
        exact ⟨rfl, HR.out.fr⟩

/-- As the row wants it. -/
theorem shuttleLoads_row (w : World) (n a p : Int) (_ : ∀ z ∈ [n, a, p], (Lit.int .i64 z).wf = true) (v : Value) (m : Nat) (fl : List Int) (hv : Rd w v m (fl.map (Value.int .i64)) 5) (hm : m ≤ 17592186044415) :
    Calls Try.prog 6 #[.agg #[.int .i64 n, .int .i64 a, .int .i64 p], v] w fun e w' => e = .returned (.bool true) ∧ Fr w w' No := by
  by_cases h : newBad n a p
  · exact shuttleLoads_bad w n a p v h
  · exact shuttleLoads_good w n a p v m fl hv hm h

end Go.Proofs.Ytoilalohhicipaa
