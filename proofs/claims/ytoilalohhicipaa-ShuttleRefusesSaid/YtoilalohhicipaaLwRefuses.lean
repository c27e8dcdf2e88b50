import Derived.Test.YtoilalohhicipaaSh4
import Derived.Deep.CutBlock
import Derived.Deep.DeepCutAuto
namespace Go.Proofs.Ytoilalohhicipaa
open Go.RowKit
set_option linter.unusedVariables false
set_option linter.unusedSimpArgs false

def doE (s : St) (K N t f o : Int) : Int := if K = 1 then assignE s t f o else if K = 2 then 0 else if K = 3 then movedE s N else if K = 4 then handE s 2 N else if K = 5 then handE s 4 N else if K = 6 then resetE s else 0
def doS (s : St) (K N t f o : Int) : St := if K = 1 then assignS s t f o else if K = 2 then tickS s else if K = 3 then movedS s N else if K = 4 then handS s 2 3 N else if K = 5 then dropS s N else if K = 6 then resetS s else s

theorem Ok.do {s : St} (h : Ok s) (K N t f o : Int) : Ok (doS s K N t f o) := by
  unfold doS
  repeat' split
  · exact h.assign _ _ _
  · exact h.tick
  · exact h.moved _
  · exact h.picked _
  · exact h.dropped _
  · exact h.reset
  · exact h
theorem do_same {s : St} {K N t f o : Int} (h : doE s K N t f o ≠ 0) : doS s K N t f o = s := by
  unfold doE at h
  unfold doS
  split
  · rename_i c; rw [if_pos c] at h; unfold assignS; rw [if_neg h]
  · rename_i c; rw [if_neg c] at h
    split
    · rename_i c; rw [if_pos c] at h; exact absurd rfl h
    · rename_i c; rw [if_neg c] at h
      split
      · rename_i c; rw [if_pos c] at h; unfold movedS; rw [if_neg h]
      · rename_i c; rw [if_neg c] at h
        split
        · rename_i c; rw [if_pos c] at h; unfold handS; rw [if_neg h]
        · rename_i c; rw [if_neg c] at h
          split
          · rename_i c; rw [if_pos c] at h; unfold dropS; rw [if_neg h]
          · rename_i c; rw [if_neg c] at h
            split
            · rename_i c; rw [if_pos c] at h; unfold resetS; rw [if_neg h]
            · rfl
theorem do_done {s : St} (h : Ok s) (K N t f o : Int) : (doS s K N t f o).done ≤ s.done + 1 := by
  have hd := h.d1
  unfold doS
  split
  · rw [(assign_load t f o).2]; omega
  · split
    · rw [tick_load.2.1]; omega
    · split
      · rw [(moved_load N).2]; omega
      · split
        · rw [(picked_load N).2.2.1]; omega
        · split
          · unfold dropS; split
            · exact Int.le_refl _
            · omega
          · split
            · rw [(reset_load h).2]; omega
            · omega

set_option maxRecDepth 100000 in
set_option maxHeartbeats 2000000 in
theorem do_any (w : World) (g : Nat) (s : St) (K N t f o : Int) (hO : Ok s) (hd : s.done ≤ 1000000) (hs : ShAt w g s) :
    Calls Try.prog 27 #[.pointer (some ⟨g, 0, none⟩), .agg #[.int .i64 K, .int .i64 N, .int .i64 t, .int .i64 f, .int .i64 o]] w fun e w' => e = .returned (.int .i64 (doE s K N t f o)) ∧ ShAt w' g (doS s K N t f o) ∧ Fr w w' (One g) := by
  have hcase : (K = 1 ∧ (K == 1) = true) ∨ (K = 2 ∧ (K == 1) = false ∧ (K == 2) = true) ∨ (K = 3 ∧ (K == 1) = false ∧ (K == 2) = false ∧ (K == 3) = true) ∨ (K = 4 ∧ (K == 1) = false ∧ (K == 2) = false ∧ (K == 3) = false ∧ (K == 4) = true) ∨ (K = 5 ∧ (K == 1) = false ∧ (K == 2) = false ∧ (K == 3) = false ∧ (K == 4) = false ∧ (K == 5) = true) ∨
      (K = 6 ∧ (K == 1) = false ∧ (K == 2) = false ∧ (K == 3) = false ∧ (K == 4) = false ∧ (K == 5) = false ∧ (K == 6) = true) ∨ ((K ≠ 1 ∧ K ≠ 2 ∧ K ≠ 3 ∧ K ≠ 4 ∧ K ≠ 5 ∧ K ≠ 6) ∧ (K == 1) = false ∧ (K == 2) = false ∧ (K == 3) = false ∧ (K == 4) = false ∧ (K == 5) = false ∧ (K == 6) = false) := by
    by_cases a1 : K = 1 <;> by_cases a2 : K = 2 <;> by_cases a3 : K = 3 <;> by_cases a4 : K = 4 <;> by_cases a5 : K = 5 <;> by_cases a6 : K = 6 <;> simp [a1, a2, a3, a4, a5, a6]
  have HO := Lib.hid hO
  have hd0 := hO.d1
  have ht0 := hO.t1
  have ht1 := hO.t2
  have hp1 := hO.p2
  have hw1 := hO.w1
  have hw2 := hO.w2
  have HS := Lib.hid (hs.keep0 (Fr.alloc w (.cells #[.int .i64 K, .int .i64 N, .int .i64 t, .int .i64 f, .int .i64 o] 49) No))
  have HF := Lib.hid (Fr.alloc w (.cells #[.int .i64 K, .int .i64 N, .int .i64 t, .int .i64 f, .int .i64 o] 49) (One g))
  clear hs hO
  rcases hcase with ⟨h, c1⟩ | ⟨h, c1, c2⟩ | ⟨h, c1, c2, c3⟩ | ⟨h, c1, c2, c3, c4⟩ | ⟨h, c1, c2, c3, c4, c5⟩ | ⟨h, c1, c2, c3, c4, c5, c6⟩ | ⟨h, c1, c2, c3, c4, c5, c6⟩
  · have HE : Hid (doE s K N t f o = assignE s t f o ∧ doS s K N t f o = assignS s t f o) := Lib.hid (by unfold doE doS; simp [h])
    clear h
    rw [HE.out.1, HE.out.2]
    go_enter Try.func27, Try.ntmps27
    go_wp2_with fail
    refine (assign_any _ g s t f o HS.out).mono ?_
    rintro e w5 ⟨rfl, hs5, hf5⟩
    go_wp2
    go_ret
    exact ⟨rfl, hs5, HF.out.rr hf5⟩
  · have HE : Hid (doE s K N t f o = 0 ∧ doS s K N t f o = tickS s) := Lib.hid (by unfold doE doS; simp [h])
    clear h
    rw [HE.out.1, HE.out.2]
    go_enter Try.func27, Try.ntmps27
    go_wp2_with fail
    refine (tick_any _ g s ht0 (by omega) HS.out).mono ?_
    rintro e w5 ⟨rfl, hs5, hf5⟩
    go_wp2
    go_ret
    exact ⟨rfl, hs5, HF.out.rr hf5⟩
  · have HE : Hid (doE s K N t f o = movedE s N ∧ doS s K N t f o = movedS s N) := Lib.hid (by unfold doE doS; simp [h])
    clear h
    rw [HE.out.1, HE.out.2]
    go_enter Try.func27, Try.ntmps27
    go_wp2_with fail
    refine (moved_any _ g s N HS.out).mono ?_
    rintro e w5 ⟨rfl, hs5, hf5⟩
    go_wp2
    go_ret
    exact ⟨rfl, hs5, HF.out.rr hf5⟩
  · have HE : Hid (doE s K N t f o = handE s 2 N ∧ doS s K N t f o = handS s 2 3 N) := Lib.hid (by unfold doE doS; simp [h])
    clear h
    rw [HE.out.1, HE.out.2]
    go_enter Try.func27, Try.ntmps27
    go_wp2_with fail
    refine (picked_any _ g s N HS.out).mono ?_
    rintro e w5 ⟨rfl, hs5, hf5⟩
    go_wp2
    go_ret
    exact ⟨rfl, hs5, HF.out.rr hf5⟩
  · have HE : Hid (doE s K N t f o = handE s 4 N ∧ doS s K N t f o = dropS s N) := Lib.hid (by unfold doE doS; simp [h])
    clear h
    rw [HE.out.1, HE.out.2]
    go_enter Try.func27, Try.ntmps27
    go_wp2_with fail
    refine (dropped_any _ g s N hd0 hd HS.out).mono ?_
    rintro e w5 ⟨rfl, hs5, hf5⟩
    go_wp2
    go_ret
    exact ⟨rfl, hs5, HF.out.rr hf5⟩
  · have HE : Hid (doE s K N t f o = resetE s ∧ doS s K N t f o = resetS s) := Lib.hid (by unfold doE doS; simp [h])
    clear h
    rw [HE.out.1, HE.out.2]
    go_enter Try.func27, Try.ntmps27
    go_wp2_with fail
    refine (reset_any _ g s hw1 (by omega) HS.out).mono ?_
    rintro e w5 ⟨rfl, hs5, hf5⟩
    go_wp2
    go_ret
    exact ⟨rfl, hs5, HF.out.rr hf5⟩
  · have HE : Hid (doE s K N t f o = 0 ∧ doS s K N t f o = s) := Lib.hid (by unfold doE doS; simp [h])
    clear h
    rw [HE.out.1, HE.out.2]
    go_enter Try.func27, Try.ntmps27
    go_wp2
    go_ret
    exact ⟨rfl, HS.out, HF.out⟩

/-- The two shuttles of the law. -/
structure Two (w wr : World) (g h : Nat) (s u : St) : Prop where
  a : ShAt wr g s
  b : ShAt wr h u
  ne : g ≠ h
  fr : Fr w wr No
  hg : w.heap.size ≤ g
  hh : w.heap.size ≤ h
theorem Two.keep0 {w wr w' : World} {g h : Nat} {s u : St} (x : Two w wr g h s u) (hf : Fr wr w' No) : Two w w' g h s u :=
  ⟨x.a.keep0 hf, x.b.keep0 hf, x.ne, x.fr.nn hf, x.hg, x.hh⟩
theorem Two.sa {w wr w' : World} {g h : Nat} {s u T : St} (x : Two w wr g h s u) (hs : ShAt w' g T) (hf : Fr wr w' (One g)) : Two w w' g h T u :=
  ⟨hs, x.b.keep hf (fun e => x.ne e.symm), x.ne, x.fr.in1 hf x.hg, x.hg, x.hh⟩
theorem Two.sb {w wr w' : World} {g h : Nat} {s u T : St} (x : Two w wr g h s u) (hs : ShAt w' h T) (hf : Fr wr w' (One h)) : Two w w' g h s T :=
  ⟨x.a.keep hf (fun e => x.ne e), hs, x.ne, x.fr.in1 hf x.hh, x.hg, x.hh⟩

set_option maxRecDepth 100000 in
set_option maxHeartbeats 1000000 in
theorem shuttleRefuses_bad (w : World) (n a p : Int) (v : Value) (h : newBad n a p) :
    Calls Try.prog 7 #[.agg #[.int .i64 n, .int .i64 a, .int .i64 p], v] w fun e w' => e = .returned (.bool true) ∧ Fr w w' No := by
  have H := Lib.hid h
  clear h
  go_enter Try.func7, Try.ntmps7
  go_wp2_with fail
  refine (awake_any _).mono ?_
  rintro e w1 ⟨rfl, hf1⟩
  have hb := hf1.blk (blk_new w (.cells #[.int .i64 n, .int .i64 a, .int .i64 p] 23)) (fun h => h)
  have hF := Lib.hid ((Fr.alloc w (.cells #[.int .i64 n, .int .i64 a, .int .i64 p] 23) No).nn hf1)
  have c0 : w1.cell? ⟨w.heap.size, 0, none⟩ = some (.int .i64 n) := blk_cell hb 0
  have c1 : w1.cell? ⟨w.heap.size, 1, none⟩ = some (.int .i64 a) := blk_cell hb 1
  have c2 : w1.cell? ⟨w.heap.size, 2, none⟩ = some (.int .i64 p) := blk_cell hb 2
  clear hb hf1
  go_wp2_with fail
  refine (new_bad _ n a p H.out).mono ?_
  rintro e w2 ⟨rfl, rfl⟩
  go_wp2_with fail
  refine (new_bad _ n a p H.out).mono ?_
  rintro e w2 ⟨rfl, rfl⟩
  go_wp2
  go_ret
  exact ⟨rfl, hF.out⟩

set_option maxRecDepth 100000 in
set_option maxHeartbeats 4000000 in
theorem shuttleRefuses_good (w : World) (n a p : Int) (v : Value) (m : Nat) (fl : List Int) (hv : Rd w v m (fl.map (Value.int .i64)) 5) (hm : m ≤ 17592186044415) (h : ¬ newBad n a p) :
    Calls Try.prog 7 #[.agg #[.int .i64 n, .int .i64 a, .int .i64 p], v] w fun e w' => e = .returned (.bool true) ∧ Fr w w' No := by
  obtain ⟨av, cv, rfl⟩ : ∃ a c, v = .slice a m c := by obtain ⟨_, a, c, h, _⟩ := hv; exact ⟨a, c, h⟩
  have HV := Lib.hid hv
  have H := Lib.hid h
  clear h hv
  go_enter Try.func7, Try.ntmps7
  go_wp2_with fail
  refine (awake_any _).mono ?_
  rintro e w1 ⟨rfl, hf1⟩
  have hb := hf1.blk (blk_new w (.cells #[.int .i64 n, .int .i64 a, .int .i64 p] 23)) (fun h => h)
  have hF := Lib.hid ((Fr.alloc w (.cells #[.int .i64 n, .int .i64 a, .int .i64 p] 23) No).nn hf1)
  have c0 : w1.cell? ⟨w.heap.size, 0, none⟩ = some (.int .i64 n) := blk_cell hb 0
  have c1 : w1.cell? ⟨w.heap.size, 1, none⟩ = some (.int .i64 a) := blk_cell hb 1
  have c2 : w1.cell? ⟨w.heap.size, 2, none⟩ = some (.int .i64 p) := blk_cell hb 2
  go_wp2_with fail
  refine (new_ok _ n a p H.out).mono ?_
  rintro e w2 ⟨rfl, hs, hf2⟩
  have hb2 := hf2.blk hb (fun h => h)
  have d0 : w2.cell? ⟨w.heap.size, 0, none⟩ = some (.int .i64 n) := blk_cell hb2 0
  have d1 : w2.cell? ⟨w.heap.size, 1, none⟩ = some (.int .i64 a) := blk_cell hb2 1
  have d2 : w2.cell? ⟨w.heap.size, 2, none⟩ = some (.int .i64 p) := blk_cell hb2 2
  go_wp2_with fail
  refine (new_ok _ n a p H.out).mono ?_
  rintro e w3 ⟨rfl, hs3, hf3⟩
  have HT : Hid (Two w w3 w1.heap.size w2.heap.size (newS n a p) (newS n a p)) := Lib.hid
    ⟨hs.keep0 hf3, hs3, by have := hs.lt; omega, (hF.out.nn hf2).nn hf3, hF.out.size, (hF.out.nn hf2).size⟩
  have HO := Lib.hid (ok_new n a p H.out)
  clear hF hf1 hf2 hf3 hs hs3 hb hb2 c0 c1 c2 d0 d1 d2
  generalize w1.heap.size = g at *
  generalize w2.heap.size = h at *
  go_wp2_with fail
  go_loopw [10] (fun v10 wr => ∃ (k : Nat) (s : St), k ≤ m ∧ k ≤ 300 ∧ v10 = .int .i64 k ∧ s.done ≤ k ∧ Ok s ∧ Two w wr g h s s) (fun i _ => 300 - (intOf i).toNat)
  case atStart => exact ⟨0, newS n a p, by omega, by omega, rfl, by simp [newS], HO.out, HT.out⟩
  case round =>
    clear HT HO
    obtain ⟨k, s, hk, hk50, rfl, hd, hO, hT⟩ := hrel
    have HT := Lib.hid hT
    have HO := Lib.hid hO
    have hd0 := hO.d1
    have ht0 := hO.t1
    have ht1 := hO.t2
    have hp1 := hO.p2
    clear hT hO
    by_cases hlt : k < m ∧ k < 300
    · obtain ⟨hlt, hlt50⟩ := hlt
      obtain ⟨b, off, rfl, hcell⟩ := (HV.out.keep0 HT.out.fr).get k hlt
      have HC : Hid (∀ w' : World, Fr w w' No → ∀ j, j < 5 → w'.cell? ⟨b, off + k * 5 + j, none⟩ = some (.int .i64 (fl.getD (k * 5 + j) 0))) := Lib.hid (fun w' hf => by
        obtain ⟨b', off', e, hc⟩ := (HV.out.keep0 hf).get k hlt
        injection e with e; injection e with e1 e2 _; subst e1; subst e2
        exact hc)
      have hk0 := hcell 0 (by decide)
      simp only [Nat.add_zero] at hk0
      have hk1 := hcell 1 (by decide)
      have hk2 := hcell 2 (by decide)
      have hk3 := hcell 3 (by decide)
      have hk4 := hcell 4 (by decide)
      generalize hgK : fl.getD (k * 5) 0 = K at *
      generalize hgN : fl.getD (k * 5 + 1) 0 = N at *
      generalize hgt : fl.getD (k * 5 + 2) 0 = t at *
      generalize hgf : fl.getD (k * 5 + 3) 0 = f at *
      generalize hgo : fl.getD (k * 5 + 4) 0 = o at *
      have HG := Lib.hid (And.intro hgK (And.intro hgN (And.intro hgt (And.intro hgf hgo))))
      clear hcell hgK hgN hgt hgf hgo
      go_wp2_with fail
      refine (do_any wr g s K N t f o HO.out (by omega) HT.out.a).mono ?_
      rintro e w4 ⟨rfl, hs4, hf4⟩
      have HT4 := Lib.hid (HT.out.sa hs4 hf4)
      have HSm : Hid (doE s K N t f o ≠ 0 → doS s K N t f o = s) := Lib.hid do_same
      have HOk := Lib.hid (HO.out.do K N t f o)
      have HDn := Lib.hid (do_done HO.out K N t f o)
      clear hs4 hf4 hk0 hk1 hk2 hk3 hk4 HT
      by_cases he : doE s K N t f o = 0
      case' pos =>
        obtain ⟨gK, gN, gt, gf, go⟩ := HG.out
        have hc := HC.out w4 HT4.out.fr
        have hk0 := hc 0 (by decide)
        simp only [Nat.add_zero] at hk0
        have hk1 := hc 1 (by decide)
        have hk2 := hc 2 (by decide)
        have hk3 := hc 3 (by decide)
        have hk4 := hc 4 (by decide)
        rw [gK] at hk0
        rw [gN] at hk1
        rw [gt] at hk2
        rw [gf] at hk3
        rw [go] at hk4
        have HE := Lib.hid he
        rw [he]
        clear gK gN gt gf go hc he
        go_wp2_with fail
        refine (do_any w4 h s K N t f o HO.out (by omega) HT4.out.b).mono ?_
        rw [HE.out]
        rintro e w5 ⟨rfl, hs5, hf5⟩
        have HZ : Hid (Two w w5 g h (doS s K N t f o) (doS s K N t f o) ∧ Ok (doS s K N t f o) ∧ (doS s K N t f o).done ≤ (k : Int) + 1) := Lib.hid ⟨HT4.out.sb hs5 hf5, HOk.out, by have := HDn.out; omega⟩
        clear HT4 HSm HOk HDn hs5 hf5 hk0 hk1 hk2 hk3 hk4 HE HO
        generalize doS s K N t f o = S at *
        go_wp2_with fail
        generalize w5 = w9 at *
      case' neg =>
        have he' : (doE s K N t f o == 0) = false := by simpa using he
        rw [HSm.out he] at HT4
        have HZ : Hid (Two w w4 g h s s ∧ Ok s ∧ s.done ≤ (k : Int) + 1) := Lib.hid ⟨HT4.out, HO.out, by omega⟩
        clear HT4 HSm HOk HDn he HO
        generalize doE s K N t f o = E at *
        go_wp2_with fail
        generalize w4 = w9 at *
        generalize s = S at *
      all_goals
        have h1 : (S.state != S.state) = false := bne_self_eq_false _
        have h2 : (S.place != S.place) = false := bne_self_eq_false _
        have h3 : (loadS S != loadS S) = false := bne_self_eq_false _
        have h4 : (S.done != S.done) = false := bne_self_eq_false _
        refine (state_is _ g S _ HZ.out.1.a rfl).mono ?_
        rintro e w' ⟨rfl, rfl⟩
        go_wp2_with fail
        refine (state_is _ h S _ HZ.out.1.b rfl).mono ?_
        rintro e w' ⟨rfl, rfl⟩
        go_wp2_with fail
        refine (place_is _ g S _ HZ.out.1.a rfl).mono ?_
        rintro e w' ⟨rfl, rfl⟩
        go_wp2_with fail
        refine (place_is _ h S _ HZ.out.1.b rfl).mono ?_
        rintro e w' ⟨rfl, rfl⟩
        go_wp2_with fail
        refine (load_is _ g S _ HZ.out.1.a rfl).mono ?_
        rintro e w' ⟨rfl, rfl⟩
        go_wp2_with fail
        refine (load_is _ h S _ HZ.out.1.b rfl).mono ?_
        rintro e w' ⟨rfl, rfl⟩
        go_wp2_with fail
        refine (done_is _ g S _ HZ.out.1.a rfl).mono ?_
        rintro e w' ⟨rfl, rfl⟩
        go_wp2_with fail
        refine (done_is _ h S _ HZ.out.1.b rfl).mono ?_
        rintro e w' ⟨rfl, rfl⟩
        go_wp2
        go_roundw
        case rel => exact ⟨k + 1, S, by omega, by omega, by go_num, HZ.out.2.2, HZ.out.2.1, HZ.out.1⟩
        case measure => simp [intOf]; omega
    · have hcase : (¬ k < m) ∨ (k < m ∧ ¬ k < 300) := by omega
      clear hlt
      rcases hcase with hlt | ⟨hlt, hlt2⟩
      all_goals
        go_wp2_with fail
        refine (tick_any _ g s ht0 (by omega) HT.out.a).mono ?_
        rintro e w4 ⟨rfl, hs4, hf4⟩
        have HT4 := Lib.hid (HT.out.sa hs4 hf4)
        clear hs4 hf4
        go_wp2_with fail
        refine (tick_any _ h s ht0 (by omega) HT4.out.b).mono ?_
        rintro e w5 ⟨rfl, hs5, hf5⟩
        have HT5 := Lib.hid (HT4.out.sb hs5 hf5)
        clear hs5 hf5
        generalize tickS s = S at *
        generalize tickK s = K at *
        generalize tickW s = W at *
        have h0 : (K == K) = true := beq_self_eq_true _
        have h1 : (W == W) = true := beq_self_eq_true _
        have h2 : (S.state == S.state) = true := beq_self_eq_true _
        go_wp2_with fail
        refine (state_is _ g S _ HT5.out.a rfl).mono ?_
        rintro e w' ⟨rfl, rfl⟩
        go_wp2_with fail
        refine (state_is _ h S _ HT5.out.b rfl).mono ?_
        rintro e w' ⟨rfl, rfl⟩
        go_wp2
        go_ret
        exact ⟨rfl, HT5.out.fr⟩

/-- As the row wants it. -/
theorem shuttleRefuses_row (w : World) (n a p : Int) (_ : ∀ z ∈ [n, a, p], (Lit.int .i64 z).wf = true) (v : Value) (m : Nat) (fl : List Int) (hv : Rd w v m (fl.map (Value.int .i64)) 5) (hm : m ≤ 17592186044415) :
    Calls Try.prog 7 #[.agg #[.int .i64 n, .int .i64 a, .int .i64 p], v] w fun e w' => e = .returned (.bool true) ∧ Fr w w' No := by
  by_cases h : newBad n a p
  · exact shuttleRefuses_bad w n a p v h
  · exact shuttleRefuses_good w n a p v m fl hv hm h

end Go.Proofs.Ytoilalohhicipaa
