import Derived.Test.YtoilalohhicipaaSh5
import Derived.Deep.CutBlock
import Derived.Deep.DeepCutAuto
import Derived.Deep.RegionWith
namespace Go.Proofs.Ytoilalohhicipaa
open Go.RowKit
set_option linter.unusedVariables false
set_option linter.unusedSimpArgs false

def RdI (w : World) (v : Value) (zs : List Int) : Prop := Rd w v zs.length (zs.map (Value.int .i64)) 1 ∧ zs.length ≤ 17592186044415
theorem RdI.keep {w w' : World} {S : Nat → Prop} {v : Value} {zs : List Int} (h : RdI w v zs) (hf : Fr w w' S) (hS : ∀ g, v.ownBlock = some g → ¬ S g) : RdI w' v zs := by
  obtain ⟨⟨h0, a, c, rfl, hn, hs⟩, hl⟩ := h
  refine ⟨⟨h0, a, c, rfl, hn, fun hp => ?_⟩, hl⟩
  obtain ⟨b, off, rfl, hc⟩ := hs hp
  exact ⟨b, off, rfl, fun j u hu => hf.cell (hc j u hu) (hS b rfl)⟩

theorem RdI.keep0 {w w' : World} {v : Value} {zs : List Int} (h : RdI w v zs) (hf : Fr w w' No) : RdI w' v zs := h.keep hf (fun _ _ h => h)
theorem RdI.get {w : World} {a : Option Addr} {n c : Nat} {zs : List Int} (h : RdI w (.slice a n c) zs) (k : Nat) (hk : k < zs.length) :
    ∃ b off, a = some ⟨b, off, none⟩ ∧ w.cell? ⟨b, off + k, none⟩ = some (.int .i64 (zs.getD k 0)) := by
  obtain ⟨⟨_, a', c', hv, _, hs⟩, _⟩ := h
  cases hv
  obtain ⟨b, off, rfl, hc⟩ := hs (by omega)
  exact ⟨b, off, rfl, hc k _ (by simp [List.getElem?_eq_getElem hk, List.getD])⟩
theorem RdI.len {w : World} {a : Option Addr} {n c : Nat} {zs : List Int} (h : RdI w (.slice a n c) zs) : n = zs.length := by
  obtain ⟨⟨_, a', c', hv, _⟩, _⟩ := h
  cases hv; rfl

/-- How many answers are due. -/
def rank (k : Int) : Int := if k = 0 then 0 else 5 - k

/-- The law's state: the shuttle in g, the settings in their box. -/
structure Jb (w wr : World) (g bh : Nat) (n a p : Int) (s : St) : Prop where
  sh : ShAt wr g s
  how : wr.heap[bh]? = some (.cells #[.int .i64 n, .int .i64 a, .int .i64 p] 23 (0, 0))
  fr : Fr w wr No
  hg : w.heap.size ≤ g
theorem Jb.keep0 {w wr w' : World} {g bh : Nat} {n a p : Int} {s : St} (h : Jb w wr g bh n a p s) (hf : Fr wr w' No) : Jb w w' g bh n a p s :=
  ⟨h.sh.keep0 hf, hf.blk h.how (fun h => h), h.fr.nn hf, h.hg⟩
theorem Jb.step {w wr w' : World} {g bh : Nat} {n a p : Int} {s T : St} (h : Jb w wr g bh n a p s) (hs : ShAt w' g T) (hf : Fr wr w' (One g)) : Jb w w' g bh n a p T :=
  ⟨hs, hf.blk h.how (fun e => blk_ne h.how h.sh (by decide) e), h.fr.in1 hf h.hg, h.hg⟩

set_option maxRecDepth 100000 in
set_option maxHeartbeats 1000000 in
theorem shuttleJobs_bad (w : World) (n a p : Int) (v u : Value) (h : newBad n a p) :
    Calls Try.prog 3 #[.agg #[.int .i64 n, .int .i64 a, .int .i64 p], v, u] w fun e w' => e = .returned (.bool true) ∧ Fr w w' No := by
  have H := Lib.hid h
  clear h
  go_enter Try.func3, Try.ntmps3
  go_wp2_with fail
  refine (awake_any _).mono ?_
  rintro e w1 ⟨rfl, hf1⟩
  have hb := hf1.blk (blk_new w (.cells #[.int .i64 n, .int .i64 a, .int .i64 p] 23)) (fun h => h)
  have hF := Lib.hid ((Fr.alloc w (.cells #[.int .i64 n, .int .i64 a, .int .i64 p] 23) No).nn hf1)
  have c0 : w1.cell? ⟨w.heap.size, 0, none⟩ = some (.int .i64 n) := blk_cell hb 0
  have c1 : w1.cell? ⟨w.heap.size, 1, none⟩ = some (.int .i64 a) := blk_cell hb 1
  have c2 : w1.cell? ⟨w.heap.size, 2, none⟩ = some (.int .i64 p) := blk_cell hb 2
  clear hb hf1
  go_wp2_with fail
  refine (new_bad _ n a p H.out).mono ?_
  rintro e w2 ⟨rfl, rfl⟩
  go_wp2
  go_ret
  exact ⟨rfl, hF.out⟩

set_option maxRecDepth 100000 in
set_option maxHeartbeats 8000000 in
theorem shuttleJobs_good (w : World) (n a p : Int) (v : Value) (m : Nat) (fl : List Int) (hv : Rd w v m (fl.map (Value.int .i64)) 3) (hm : m ≤ 17592186044415) (u : Value) (zs : List Int) (hu : RdI w u zs) (h : ¬ newBad n a p) :
    Calls Try.prog 3 #[.agg #[.int .i64 n, .int .i64 a, .int .i64 p], v, u] w fun e w' => e = .returned (.bool true) ∧ Fr w w' No := by
  obtain ⟨av, cv, rfl⟩ : ∃ a c, v = .slice a m c := by obtain ⟨_, a, c, h, _⟩ := hv; exact ⟨a, c, h⟩
  obtain ⟨au, cu, rfl⟩ : ∃ a c, u = .slice a zs.length c := by obtain ⟨⟨_, a, c, h, _⟩, _⟩ := hu; exact ⟨a, c, h⟩
  have hzl := hu.2
  have HV := Lib.hid hv
  have HU := Lib.hid hu
  have H := Lib.hid h
  clear h hv hu
  go_enter Try.func3, Try.ntmps3
  go_wp2_with fail
  refine (awake_any _).mono ?_
  rintro e w1 ⟨rfl, hf1⟩
  have hb := hf1.blk (blk_new w (.cells #[.int .i64 n, .int .i64 a, .int .i64 p] 23)) (fun h => h)
  have hF := Lib.hid ((Fr.alloc w (.cells #[.int .i64 n, .int .i64 a, .int .i64 p] 23) No).nn hf1)
  have c0 : w1.cell? ⟨w.heap.size, 0, none⟩ = some (.int .i64 n) := blk_cell hb 0
  have c1 : w1.cell? ⟨w.heap.size, 1, none⟩ = some (.int .i64 a) := blk_cell hb 1
  have c2 : w1.cell? ⟨w.heap.size, 2, none⟩ = some (.int .i64 p) := blk_cell hb 2
  go_wp2_with fail
  refine (new_ok _ n a p H.out).mono ?_
  rintro e w2 ⟨rfl, hs, hf2⟩
  have HB : Hid (Jb w w2 w1.heap.size w.heap.size n a p (newS n a p)) := Lib.hid ⟨hs, hf2.blk hb (fun h => h), hF.out.nn hf2, hF.out.size⟩
  have HO := Lib.hid (ok_new n a p H.out)
  clear hF hf1 hf2 hs hb c0 c1 c2
  generalize w1.heap.size = g at *
  go_wp2_with fail
  go_loopw [9, 10, 11] (fun v9 v10 v11 wr => ∃ (k nn : Nat) (s : St), k ≤ m ∧ k ≤ 40 ∧ nn ≤ 5 * k ∧ v11 = .int .i64 k ∧ v10 = .int .i64 nn ∧ v9 = .int .i64 s.done ∧ s.done ≤ k ∧ s.state = 0 ∧ s.n = n ∧ s.pat = p ∧ Ok s ∧ Jb w wr g w.heap.size n a p s) (fun _ _ i _ => 40 - (intOf i).toNat)
  case atStart => exact ⟨0, 0, newS n a p, by omega, by omega, by omega, rfl, rfl, rfl, by simp [newS], rfl, rfl, rfl, HO.out, HB.out⟩
  case round =>
    clear HB HO
    obtain ⟨k, nn, s, hk, hk40, hnn, rfl, rfl, rfl, hd, hst, hn, hp, hO, hB⟩ := hrel
    have HB := Lib.hid hB
    have HO := Lib.hid hO
    have HS := Lib.hid hst
    have HN := Lib.hid hn
    have HP := Lib.hid hp
    have hd0 := hO.d1
    clear hB hO hst hn hp
    by_cases hlt : k < m ∧ k < 40
    · obtain ⟨hlt, hlt40⟩ := hlt
      obtain ⟨b, off, rfl, hcell⟩ := (HV.out.keep0 HB.out.fr).get k hlt
      have hk0 := hcell 0 (by decide)
      simp only [Nat.add_zero] at hk0
      have hk1 := hcell 1 (by decide)
      have hk2 := hcell 2 (by decide)
      have HK2 : Hid (∀ w' : World, Fr w w' No → w'.cell? ⟨b, off + k * 3 + 2, none⟩ = some (.int .i64 (fl.getD (k * 3 + 2) 0))) := Lib.hid (fun w' hf => by
        obtain ⟨b', off', e, hc⟩ := (HV.out.keep0 hf).get k hlt
        injection e with e; injection e with e1 e2 _; subst e1; subst e2
        exact hc 2 (by decide))
      generalize fl.getD (k * 3) 0 = t at *
      generalize fl.getD (k * 3 + 1) 0 = f at *
      generalize fl.getD (k * 3 + 2) 0 = o at *
      clear hcell
      go_wp2_with fail
      refine (assign_any wr g s t f o HB.out.sh).mono ?_
      rintro e w3 ⟨rfl, hs3, hf3⟩
      clear hk0 hk1 hk2
      have HB3 := Lib.hid (HB.out.step hs3 hf3)
      clear hs3 hf3
      by_cases he : assignE s t f o = 0
      case neg =>
        have he' : (assignE s t f o != 0) = true := by simpa using he
        have hS : assignS s t f o = s := by unfold assignS; rw [if_neg he]
        rw [hS] at HB3
        clear he hS HB
        generalize assignE s t f o = E at *
        go_wp2_with fail
        go_roundw
        case rel => exact ⟨k + 1, nn, s, by omega, by omega, by omega, by go_num, rfl, rfl, by omega, HS.out, HN.out, HP.out, HO.out, HB3.out⟩
        case measure => simp [intOf]; omega
      case pos =>
        rw [he]
        have h0 : ∃ S, Hid (Jb w w3 g w.heap.size n a p S ∧ Ok S ∧ S.ticks = 0 ∧ (1 ≤ S.state ∧ S.state ≤ 2) ∧ S.done = s.done ∧ S.to_ = o ∧ S.n = n ∧ S.pat = p) := by
          refine ⟨assignS s t f o, Lib.hid ⟨HB3.out, HO.out.assign t f o, ?_⟩⟩
          unfold assignS
          rw [if_pos he]
          unfold onS
          refine ⟨rfl, ?_, rfl, rfl, HN.out, HP.out⟩
          dsimp only
          split <;> decide
        obtain ⟨S0, HS0⟩ := h0
        clear HB HB3 HO he HS
        generalize s.done = D at *
        go_wp2_with fail
        go_loopw [10, 12] (fun v10 v12 wr2 => ∃ (st nn2 : Nat) (s : St), v12 = .int .i64 st ∧ v10 = .int .i64 nn2 ∧ nn2 ≤ 5 * k + st ∧ (st : Int) + rank s.state ≤ 4 ∧ s.done = D + (if s.state = 0 then 1 else 0) ∧ s.to_ = o ∧ (s.state = 0 → s.place = o) ∧ s.state ≤ 4 ∧ s.ticks = 0 ∧ s.n = n ∧ s.pat = p ∧ Ok s ∧ Jb w wr2 g w.heap.size n a p s) (fun _ i _ => 5 - (intOf i).toNat)
        case atStart =>
          obtain ⟨q1, q2, q3, ⟨q4, q5⟩, q6, q7, q8, q9⟩ := HS0.out
          exact ⟨0, nn, S0, rfl, rfl, by omega, by unfold rank; rw [if_neg (by omega)]; omega, by rw [q6, if_neg (by omega)]; omega, q7, fun e => by omega, by omega, q3, q8, q9, q2, q1⟩
        case round =>
          clear HS0
          obtain ⟨st, nn2, s, rfl, rfl, hnn2, hr, hdn, hto, hpl, hs4, htk, hn, hp, hO, hB⟩ := hrel
          have HB := Lib.hid hB
          have HO := Lib.hid hO
          have HT := Lib.hid htk
          have HN := Lib.hid hn
          have HP := Lib.hid hp
          have HTO := Lib.hid hto
          have HDN := Lib.hid hdn
          have HPL := Lib.hid hpl
          have hs0 := hO.st1
          have hp1 := hO.p1
          have hp2 := hO.p2
          have HR := Lib.hid hr
          have HK : Hid (tk s 0 = s) := Lib.hid (by obtain ⟨⟩ := s; simp [tk] at *; exact htk.symm)
          clear hB hO htk hn hp hto hdn hpl hr
          by_cases hx : s.state = 0
          · have hrk : rank s.state = 0 := by unfold rank; rw [if_pos hx]
            have HX := Lib.hid hx
            have hpl := HPL.out hx
            have hdn := HDN.out
            rw [if_pos hx] at hdn
            have HD := Lib.hid hdn
            have HPl := Lib.hid hpl
            have hst4 : st ≤ 4 := by have := HR.out; omega
            have HLd : Hid (loadS s = 0) := Lib.hid (by rw [Ok.load (by omega), if_neg (by omega)])
            have hcc := HK2.out wr HB.out.fr
            have hoo : (o != o) = false := bne_self_eq_false _
            have hw1 : IntKind.i64.wrap (D + 1) = D + 1 := IntWalk.i64_in _ (by omega)
            have hDD : (D + 1 != D + 1) = false := bne_self_eq_false _
            clear hx hpl hdn hrk
            go_wp2_with fail
            refine (state_is _ g s 0 HB.out.sh HX.out).mono ?_
            rintro e w' ⟨rfl, rfl⟩
            go_wp2_with fail
            go_quiet ((first | (go_at_call 16; exact Calls.quiet_of_same ((place_is _ g s o (HB.out.sh.drewN _) HPl.out).mono fun e w' h => ⟨h.1, h.2.symm⟩)) | (go_at_call 17; exact Calls.quiet_of_same ((load_is _ g s 0 (HB.out.sh.drewN _) HLd.out).mono fun e w' h => ⟨h.1, h.2.symm⟩)) | (go_at_call 18; exact Calls.quiet_of_same ((done_is _ g s (D + 1) (HB.out.sh.drewN _) HD.out).mono fun e w' h => ⟨h.1, h.2.symm⟩))))
            go_wp2
            go_roundw
            case rel => exact ⟨k + 1, nn2, s, by omega, by omega, by omega, by go_num, rfl, by rw [HD.out], by rw [HD.out]; omega, HX.out, HN.out, HP.out, HO.out, HB.out.keep0 (Fr.drewN _ _ _)⟩
            case measure => simp [intOf]; omega
          · have hx2 : (s.state != 0) = true := by simpa using hx
            have hrk : rank s.state = 5 - s.state := by unfold rank; rw [if_neg hx]
            have hst4 : st + 1 ≤ 4 := by have := HR.out; omega
            go_wp2_with fail
            refine (state_any _ g s HB.out.sh).mono ?_
            rintro e w' ⟨rfl, rfl⟩
            have hdiv : zs.length ≠ 0 → ((zs.length : Int) == 0) = false := fun h => beq_eq_false_iff_ne.2 (by omega)
            have HDV := Lib.hid hdiv
            clear hdiv
            have hpc : wr.cell? ⟨w.heap.size, 2, none⟩ = some (.int .i64 p) := blk_cell HB.out.how 2
            go_upto_if 64 with (fail)
            go_cut [10, 13] from 57 to 117 (fun v10 v13 wx => ∃ q : Nat, (q : Int) + 1 ≤ s.pat ∧ q ≤ 20 ∧ v10 = .int .i64 nn2 ∧ v13 = .int .i64 q ∧ Jb w wx g w.heap.size n a p s)
            case first =>
              by_cases hz : zs.length = 0
              · have hz1 : ¬ (0 : Int) < (zs.length : Int) := by omega
                clear hz
                go_wp2
                go_meet
                case rel => exact ⟨0, by omega, by omega, rfl, rfl, HB.out⟩
              · have hz1 : (0 : Int) < (zs.length : Int) := by omega
                have hz2 := HDV.out hz
                obtain ⟨b5, off5, rfl, hc5⟩ := (HU.out.keep0 HB.out.fr).get (nn2 % zs.length) (Nat.mod_lt _ (by omega))
                generalize hzj : zs.getD (nn2 % zs.length) 0 = y at *
                have e1 : (nn2 : Int) % (zs.length : Int) = ((nn2 % zs.length : Nat) : Int) := by omega
                have e2 : (nn2 : Int).tmod (zs.length : Int) = ((nn2 % zs.length : Nat) : Int) := by rw [Int.tmod_eq_emod_of_nonneg (by omega)]; exact e1
                have hjl : nn2 % zs.length < zs.length := Nat.mod_lt _ (by omega)
                generalize nn2 % zs.length = j at *
                clear hz hzj
                have hq1 : 1 ≤ p := by rw [← HP.out]; exact hp1
                have hq2 : p ≤ 1000 := by rw [← HP.out]; exact hp2
                go_wp2_with fail
                by_cases h20 : (20 : Int) < p
                · go_quiet (fail)
                  go_wp2
                  go_meet
                  case rel =>
                    obtain ⟨q, hq, e3⟩ := umodn y 20 (by omega) (by omega)
                    exact ⟨q, by rw [HP.out]; omega, by omega, rfl, by rw [show (20 : Int) = ((20 : Nat) : Int) by rfl, e3], HB.out.keep0 (Fr.drewN _ _ _)⟩
                · go_quiet (fail)
                  go_wp2
                  go_meet
                  case rel =>
                    obtain ⟨c, hc⟩ : ∃ c : Nat, p = c := ⟨p.toNat, by omega⟩
                    obtain ⟨q, hq, e3⟩ := umodn y c (by omega) (by omega)
                    exact ⟨q, by rw [HP.out]; omega, by omega, rfl, by rw [hc, e3], HB.out.keep0 (Fr.drewN _ _ _)⟩
            case rest =>
              obtain ⟨q, hq1, hq20, rfl, rfl, hBc⟩ := hcut
              have HBc := Lib.hid hBc
              have hx1 : 1 ≤ s.state := by omega
              have HTK : Hid (∀ j : Int, j + 1 ≤ s.pat → tickK (tk s j) = kOf s ∧ tickW (tk s j) = wOf s ∧ tickS (tk s j) = tk s (j + 1)) := Lib.hid (fun j h => tick_tk hx1 hs4 h)
              have HT0 := Lib.hid (HTK.out 0 (by omega))
              rw [HK.out] at HT0
              clear hBc HB hpc
              go_wp2_with fail
              refine (tick_is wc g s _ _ _ (by rw [HT.out]; decide) (by rw [HT.out]; decide) HBc.out.sh HT0.out.1 HT0.out.2.1 HT0.out.2.2).mono ?_
              rintro e w4 ⟨rfl, hs4', hf4⟩
              have HB4 := Lib.hid ((HBc.out.step hs4' hf4).keep0 (Fr.alloc w4 (.cells #[.int .i64 (kOf s), .int .i64 (wOf s)] 37) No))
              have HX4 := Lib.hid (blk_new w4 (.cells #[.int .i64 (kOf s), .int .i64 (wOf s)] 37))
              clear hs4' hf4 HBc HT0
              go_wp2_with fail
              generalize w4.alloc (.cells #[.int .i64 (kOf s), .int .i64 (wOf s)] 37) = w5 at *
              generalize w4.heap.size = bx at *
              rw [show (0 : Int) + 1 = 1 by rfl] at HB4
              go_loopw [15] (fun v15 wr2 => ∃ (j : Nat), j ≤ q ∧ v15 = .int .i64 j ∧ Jb w wr2 g w.heap.size n a p (tk s ((j : Int) + 1)) ∧ wr2.heap[bx]? = some (.cells #[.int .i64 (kOf s), .int .i64 (wOf s)] 37 (0, 0))) (fun i _ => q - (intOf i).toNat)
              case atStart => exact ⟨0, by omega, rfl, by have h := HB4.out; simpa using h, HX4.out⟩
              case round =>
                clear HB4 HX4
                obtain ⟨j, hjq, rfl, hB6, hBo⟩ := hrel
                have HB6 := Lib.hid hB6
                have HBo := Lib.hid hBo
                clear hB6 hBo
                by_cases hlt2 : j < q
                · have HTQ := Lib.hid (HTK.out ((j : Int) + 1) (by omega))
                  generalize kOf s = K at *
                  generalize wOf s = W at *
                  have hKK : (K == K) = true := beq_self_eq_true K
                  have hWW : (W == W) = true := beq_self_eq_true W
                  have hk0 : wr.cell? ⟨bx, 0, none⟩ = some (.int .i64 K) := blk_cell HBo.out 0
                  have hk1 : wr.cell? ⟨bx, 1, none⟩ = some (.int .i64 W) := blk_cell HBo.out 1
                  have hgb : bx ≠ g := blk_ne HBo.out HB6.out.sh (by decide)
                  go_upto_region 22 with (fail)
                  go_cut [91] from 83 to 91 (fun v91 wx => v91 = .bool false ∧ Jb w wx g w.heap.size n a p (tk s ((j : Int) + 1 + 1)) ∧ wx.heap[bx]? = some (.cells #[.int .i64 K, .int .i64 W] 37 (0, 0)))
                  case first =>
                    go_region_with (first | (go_at_call 12; refine (tick_is _ g (tk s ((j : Int) + 1)) K W _ (by show (0 : Int) ≤ (j : Int) + 1; omega) (by show (j : Int) + 1 ≤ 1000000; omega) (HB6.out.sh.drewN _) HTQ.out.1 HTQ.out.2.1 HTQ.out.2.2).mono ?_; rintro e w6 ⟨rfl, hs6, hf6⟩; have hm0 : w6.cell? ⟨bx, 0, none⟩ = some (.int .i64 K) := hf6.cell hk0 hgb; have hm1 : w6.cell? ⟨bx, 1, none⟩ = some (.int .i64 W) := hf6.cell hk1 hgb) | fail)
                    all_goals
                      go_wp2_with fail
                      go_meet
                      case rel => exact ⟨rfl, HB6.out.step hs6 ((Fr.drewN _ _ _).rr hf6), hf6.blk HBo.out hgb⟩
                  case rest =>
                    obtain ⟨rfl, hB2, hX2⟩ := hcut
                    have HB2 := Lib.hid hB2
                    have HX2 := Lib.hid hX2
                    clear hB2 hX2
                    go_wp2
                    go_roundw
                    case rel => exact ⟨j + 1, by omega, by go_num, by have h := HB2.out; simpa using h, HX2.out⟩
                    case measure => simp [intOf]; omega
                · have hcase : s.state = 1 ∨ s.state = 2 ∨ s.state = 3 ∨ s.state = 4 := by omega
                  clear hx hx2 hrk
                  rcases hcase with hxx | hxx | hxx | hxx
                  · have hko : kOf s = 1 := by unfold kOf; simp [hxx]
                    have hwo : wOf s = s.fr := by unfold wOf; simp [hxx]
                    have HXX := Lib.hid hxx
                    rw [hko, hwo] at HBo
                    have hk0 : wr.cell? ⟨bx, 0, none⟩ = some (.int .i64 1) := by have h := blk_cell HBo.out 0; exact h
                    have hk1 : wr.cell? ⟨bx, 1, none⟩ = some (.int .i64 (s.fr)) := by have h := blk_cell HBo.out 1; exact h
                    clear hxx hko hwo
                    go_wp2_with fail
                    refine (moved_is _ g (tk s ((j : Int) + 1)) s.fr 0 _ HB6.out.sh (ans1 HO.out HXX.out).1 (ans1 HO.out HXX.out).2).mono ?_
                    rintro e w7 ⟨rfl, hs7, hf7⟩
                    have HB7 := Lib.hid (HB6.out.step hs7 hf7)
                    clear hs7 hf7 hk0 hk1
                    have hst5 : ¬ (4 : Int) < (st : Int) := by omega
                    go_wp2
                    go_roundw
                    case rel =>
                      have hok := HO.out.ans HT.out
                      have hans : ans s = { s with ticks := 0, place := s.fr, state := 2 } := by unfold ans; simp [HXX.out]
                      rw [hans] at hok
                      have hhr := HR.out
                      have hdd := HDN.out
                      rw [if_neg (by rw [HXX.out]; decide)] at hdd
                      have hrk2 : rank s.state = 5 - s.state := by unfold rank; rw [if_neg (by rw [HXX.out]; decide)]
                      rw [hrk2, HXX.out] at hhr
                      refine ⟨st + 1, nn2 + 1, ({ s with ticks := 0, place := s.fr, state := 2 } : St), by go_num, by go_num, by omega, ?_, ?_, HTO.out, ?_, ?_, rfl, HN.out, HP.out, hok.1, HB7.out⟩
                      · show ((st + 1 : Nat) : Int) + rank 2 ≤ 4; unfold rank; rw [if_neg (by decide)]; omega
                      · show s.done = D + (if (2 : Int) = 0 then 1 else 0); rw [if_neg (by decide)]; omega
                      · intro e; exact absurd e (by dsimp only; decide)
                      · show (2 : Int) ≤ 4; decide
                    case measure => simp [intOf]; omega
                  · have hko : kOf s = 2 := by unfold kOf; simp [hxx]
                    have hwo : wOf s = s.tote := by unfold wOf; simp [hxx]
                    have HXX := Lib.hid hxx
                    rw [hko, hwo] at HBo
                    have hk0 : wr.cell? ⟨bx, 0, none⟩ = some (.int .i64 2) := by have h := blk_cell HBo.out 0; exact h
                    have hk1 : wr.cell? ⟨bx, 1, none⟩ = some (.int .i64 (s.tote)) := by have h := blk_cell HBo.out 1; exact h
                    clear hxx hko hwo
                    go_wp2_with fail
                    refine (picked_is _ g (tk s ((j : Int) + 1)) s.tote 0 _ HB6.out.sh (ans2 HXX.out).1 (ans2 HXX.out).2).mono ?_
                    rintro e w7 ⟨rfl, hs7, hf7⟩
                    have HB7 := Lib.hid (HB6.out.step hs7 hf7)
                    clear hs7 hf7 hk0 hk1
                    have hst5 : ¬ (4 : Int) < (st : Int) := by omega
                    go_wp2
                    go_roundw
                    case rel =>
                      have hok := HO.out.ans HT.out
                      have hans : ans s = { s with ticks := 0, state := if s.place = s.to_ then 4 else 3 } := by unfold ans; simp [HXX.out]
                      rw [hans] at hok
                      have hhr := HR.out
                      have hdd := HDN.out
                      rw [if_neg (by rw [HXX.out]; decide)] at hdd
                      have hrk2 : rank s.state = 5 - s.state := by unfold rank; rw [if_neg (by rw [HXX.out]; decide)]
                      rw [hrk2, HXX.out] at hhr
                      refine ⟨st + 1, nn2 + 1, ({ s with ticks := 0, state := if s.place = s.to_ then 4 else 3 } : St), by go_num, by go_num, by omega, ?_, ?_, HTO.out, ?_, ?_, rfl, HN.out, HP.out, hok.1, HB7.out⟩
                      · show ((st + 1 : Nat) : Int) + rank (if s.place = s.to_ then 4 else 3) ≤ 4
                        unfold rank; split <;> (rw [if_neg (by decide)]; omega)
                      · show s.done = D + (if (if s.place = s.to_ then (4 : Int) else 3) = 0 then 1 else 0)
                        rw [if_neg (by split <;> decide)]; omega
                      · intro e
                        have e : (if s.place = s.to_ then (4 : Int) else 3) = 0 := e
                        exfalso; split at e <;> omega
                      · show (if s.place = s.to_ then (4 : Int) else 3) ≤ 4; split <;> decide
                    case measure => simp [intOf]; omega
                  · have hko : kOf s = 1 := by unfold kOf; simp [hxx]
                    have hwo : wOf s = s.to_ := by unfold wOf; simp [hxx]
                    have HXX := Lib.hid hxx
                    rw [hko, hwo] at HBo
                    have hk0 : wr.cell? ⟨bx, 0, none⟩ = some (.int .i64 1) := by have h := blk_cell HBo.out 0; exact h
                    have hk1 : wr.cell? ⟨bx, 1, none⟩ = some (.int .i64 (s.to_)) := by have h := blk_cell HBo.out 1; exact h
                    clear hxx hko hwo
                    go_wp2_with fail
                    refine (moved_is _ g (tk s ((j : Int) + 1)) s.to_ 0 _ HB6.out.sh (ans3 HO.out HXX.out).1 (ans3 HO.out HXX.out).2).mono ?_
                    rintro e w7 ⟨rfl, hs7, hf7⟩
                    have HB7 := Lib.hid (HB6.out.step hs7 hf7)
                    clear hs7 hf7 hk0 hk1
                    have hst5 : ¬ (4 : Int) < (st : Int) := by omega
                    go_wp2
                    go_roundw
                    case rel =>
                      have hok := HO.out.ans HT.out
                      have hans : ans s = { s with ticks := 0, place := s.to_, state := 4 } := by unfold ans; simp [HXX.out]
                      rw [hans] at hok
                      have hhr := HR.out
                      have hdd := HDN.out
                      rw [if_neg (by rw [HXX.out]; decide)] at hdd
                      have hrk2 : rank s.state = 5 - s.state := by unfold rank; rw [if_neg (by rw [HXX.out]; decide)]
                      rw [hrk2, HXX.out] at hhr
                      refine ⟨st + 1, nn2 + 1, ({ s with ticks := 0, place := s.to_, state := 4 } : St), by go_num, by go_num, by omega, ?_, ?_, HTO.out, ?_, ?_, rfl, HN.out, HP.out, hok.1, HB7.out⟩
                      · show ((st + 1 : Nat) : Int) + rank 4 ≤ 4; unfold rank; rw [if_neg (by decide)]; omega
                      · show s.done = D + (if (4 : Int) = 0 then 1 else 0); rw [if_neg (by decide)]; omega
                      · intro e; exact absurd e (by dsimp only; decide)
                      · show (4 : Int) ≤ 4; decide
                    case measure => simp [intOf]; omega
                  · have hko : kOf s = 3 := by unfold kOf; simp [hxx]
                    have hwo : wOf s = s.tote := by unfold wOf; simp [hxx]
                    have HXX := Lib.hid hxx
                    rw [hko, hwo] at HBo
                    have hk0 : wr.cell? ⟨bx, 0, none⟩ = some (.int .i64 3) := by have h := blk_cell HBo.out 0; exact h
                    have hk1 : wr.cell? ⟨bx, 1, none⟩ = some (.int .i64 (s.tote)) := by have h := blk_cell HBo.out 1; exact h
                    clear hxx hko hwo
                    go_wp2_with fail
                    refine (dropped_is _ g (tk s ((j : Int) + 1)) s.tote 0 _ HO.out.d1 (by show s.done ≤ 1000000; have := HDN.out; split at this <;> omega) HB6.out.sh (ans4 HXX.out).1 (ans4 HXX.out).2).mono ?_
                    rintro e w7 ⟨rfl, hs7, hf7⟩
                    have HB7 := Lib.hid (HB6.out.step hs7 hf7)
                    clear hs7 hf7 hk0 hk1
                    have hst5 : ¬ (4 : Int) < (st : Int) := by omega
                    go_wp2
                    go_roundw
                    case rel =>
                      have hok := HO.out.ans HT.out
                      have hans : ans s = { s with ticks := 0, state := 0, done := s.done + 1 } := by unfold ans; simp [HXX.out]
                      rw [hans] at hok
                      have hhr := HR.out
                      have hdd := HDN.out
                      rw [if_neg (by rw [HXX.out]; decide)] at hdd
                      have hrk2 : rank s.state = 5 - s.state := by unfold rank; rw [if_neg (by rw [HXX.out]; decide)]
                      rw [hrk2, HXX.out] at hhr
                      refine ⟨st + 1, nn2 + 1, ({ s with ticks := 0, state := 0, done := s.done + 1 } : St), by go_num, by go_num, by omega, ?_, ?_, HTO.out, ?_, ?_, rfl, HN.out, HP.out, hok.1, HB7.out⟩
                      · show ((st + 1 : Nat) : Int) + rank 0 ≤ 4; unfold rank; rw [if_pos rfl]; omega
                      · show s.done + 1 = D + (if (0 : Int) = 0 then 1 else 0); rw [if_pos rfl]; omega
                      · intro e
                        have h4 := HO.out.k4 (by rw [Ok.lk s (by rw [HXX.out]; decide)]; exact HXX.out)
                        show s.place = o
                        rw [h4]; exact HTO.out
                      · show (0 : Int) ≤ 4; decide
                    case measure => simp [intOf]; omega
    · have hcase : (¬ k < m) ∨ (k < m ∧ ¬ k < 40) := by omega
      clear hlt
      rcases hcase with hlt | ⟨hlt, hlt2⟩
      all_goals
        go_wp2
        go_ret
        exact ⟨rfl, HB.out.fr⟩

/-- As the row wants it. -/
theorem shuttleJobs_row (w : World) (n a p : Int) (_ : ∀ z ∈ [n, a, p], (Lit.int .i64 z).wf = true) (v : Value) (m : Nat) (fl : List Int) (hv : Rd w v m (fl.map (Value.int .i64)) 3) (hm : m ≤ 17592186044415) (u : Value) (zs : List Int) (hu : RdI w u zs) :
    Calls Try.prog 3 #[.agg #[.int .i64 n, .int .i64 a, .int .i64 p], v, u] w fun e w' => e = .returned (.bool true) ∧ Fr w w' No := by
  by_cases h : newBad n a p
  · exact shuttleJobs_bad w n a p v u h
  · exact shuttleJobs_good w n a p v m fl hv hm u zs hu h

end Go.Proofs.Ytoilalohhicipaa
