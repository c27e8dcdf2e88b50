/-
  The law GridOut: its walk.
-/
import Derived.Test.YtegoilhkooneaaaGp5
import Derived.Test.YtegoilhkooneaaaLwEven
import Derived.Test.YtegoilhkooneaaaLwPlans
namespace Go.Proofs.Ytegoilhkooneaaa
open Go.RowKit Go.Sort
set_option linter.unusedVariables false
set_option linter.unusedSimpArgs false

theorem umod6 (x : Int) : ∃ d : Nat, d < 6 ∧ wrap64 ((IntKind.u64.wrap x).tmod 6) = d := by
  obtain ⟨e, h1, h2⟩ := umod x 6 (by decide) (by decide)
  exact ⟨((IntKind.u64.wrap x) % 6).toNat, by omega, by rw [e]; omega⟩

/-- The rack, and the list of what stands in it. -/
structure OuS (w wr : World) (p : Nat) (gs : List Nat) (R : List Lan) (n d : Nat) (v : Value) (ins : List Int) : Prop where
  rack : NewR w wr p gs R
  ls : NewI w wr v ins
  st : InS R n d ins
theorem OuS.keep0 {w wr w' : World} {p : Nat} {gs : List Nat} {R : List Lan} {n d : Nat} {v : Value} {ins : List Int} (h : OuS w wr p gs R n d v ins) (hf : Fr wr w' No) : OuS w w' p gs R n d v ins := ⟨h.rack.keep0 hf, h.ls.keep0 hf, h.st⟩
theorem RackAt.inb {w : World} {p : Nat} {gs : List Nat} {R : List Lan} (h : RackAt w p gs R) {b : Nat} (hb : b ∈ gs) : ∃ cs fr, w.heap[b]? = some (.cells cs 93 fr) := by
  obtain ⟨i, hi, hbi⟩ := List.getElem_of_mem hb
  obtain ⟨_, _, _, r, _, hx⟩ := h.lane i (by rw [← h.len]; exact hi)
  rw [List.getD_eq_getElem?_getD, List.getElem?_eq_getElem hi, Option.getD_some, hbi] at hx
  exact ⟨_, _, hx⟩
/-- A call that turns lanes. -/
theorem NewI.lanes {a w w' : World} {p : Nat} {gs : List Nat} {R : List Lan} {v : Value} {ins : List Int} (h : NewI a w v ins) (hR : NewR a w p gs R) (hf : Fr w w' (In gs)) : NewI a w' v ins :=
  h.keep hf (fun b e hb => by obtain ⟨cs, fr, hx⟩ := hR.rack.inb hb; exact Sl.ne h.1 hx (by decide) e) hR.hgs

/-- An append to a slice of the call's own leaves the rack. -/
theorem NewR.own {a w w' : World} {p : Nat} {gs : List Nat} {R : List Lan} (h : NewR a w p gs R) {v : Value} {ins : List Int} (hs : SlI w v ins) (hf : Fr w w' (fun g => v.ownBlock = some g)) (hown : ∀ b, v.ownBlock = some b → a.heap.size ≤ b) : NewR a w' p gs R := by
  have hne : ∀ i cs t fr, w.heap[i]? = some (.cells cs t fr) → t ≠ 3 → ¬ v.ownBlock = some i := fun i cs t fr hb ht e => Sl.ne hs hb ht e
  obtain ⟨vr, r1, r2⟩ := h.rack.row
  refine ⟨⟨⟨vr, hf.blk r1 (hne _ _ _ _ r1 (by decide)), r2.keep hf (fun i hi e => ?_)⟩, h.rack.lanes.keep hf (fun i hi => ?_), h.rack.le⟩, h.fr.into hf hown, h.hgs⟩
  · obtain ⟨_, ⟨q, _⟩ | ⟨g, off, cap, cur, q, hg, _⟩⟩ := r2
    · rw [q] at hi; simp [Value.ownBlock] at hi
    · rw [q] at hi; simp [Value.ownBlock] at hi; subst hi
      exact hne _ _ _ _ hg (by decide) e
  · obtain ⟨cs, fr, hx⟩ := h.rack.inb hi
    exact hne _ _ _ _ hx (by decide)

set_option maxRecDepth 100000 in
set_option maxHeartbeats 8000000 in
theorem gridOut_walk (w : World) (h0 h1 : Int) (v : Value) (zs : List Int) (hv : RdI w v zs) (u : Value) (ps : List Int) (hu : RdI w u ps) :
    Calls Try.prog 9 #[.agg #[.int .i64 h0, .int .i64 h1], v, u] w fun e w' => e = .returned (.bool true) ∧ Fr w w' No := by
  obtain ⟨av, cv, rfl, _⟩ := hv.open_
  obtain ⟨au, cu, rfl, _⟩ := hu.open_
  have HV := Lib.hid hv
  have HU := Lib.hid hu
  obtain ⟨n0, hn0, hn⟩ := umod6 h0
  obtain ⟨d0, hd0, hd⟩ := umod6 h1
  have hlv := hv.2
  have hlu := hu.2
  clear hv hu
  go_enter Try.func9, Try.ntmps9
  go_wp2_with fail
  refine (awakeG_any _).mono ?_
  rintro e w1 ⟨rfl, hf1⟩
  have hbox := hf1.blk (blk_new w (.cells #[.int .i64 h0, .int .i64 h1] 57)) id
  have HF := Lib.hid ((Fr.alloc w (.cells #[.int .i64 h0, .int .i64 h1] 57) No).nn hf1)
  have c0 : w1.cell? ⟨w.heap.size, 0, none⟩ = some (.int .i64 h0) := blk_cell hbox 0
  have c1 : w1.cell? ⟨w.heap.size, 1, none⟩ = some (.int .i64 h1) := blk_cell hbox 1
  clear hf1 hbox
  go_wp2_with fail
  go_quiet (fail)
  have HF1 := Lib.hid (HF.out.to_drewN nq)
  clear c0 c1 HF hn hd
  obtain ⟨n, hn⟩ : ∃ n, n0 + 2 = n := ⟨_, rfl⟩
  obtain ⟨d, hd⟩ : ∃ d, d0 + 1 = d := ⟨_, rfl⟩
  rw [show (n0 : Int) + 2 = ((n0 + 2 : Nat) : Int) from rfl, show (d0 : Int) + 1 = ((d0 + 1 : Nat) : Int) from rfl, hn, hd]
  have hn2 : 2 ≤ n := by omega
  have hn7 : n ≤ 7 := by omega
  have hd1 : 1 ≤ d := by omega
  have hd6 : d ≤ 6 := by omega
  have hmk := make_ints n (by omega)
  have HOK := Lib.hid (rep_ok n d (by omega) (by omega) hd1 (by omega))
  clear hn0 hd0 hn hd
  generalize w1.drewN nq = w1 at *
  rename_i w1'
  go_wp2_with fail
  obtain ⟨G, hG⟩ : ∃ G, w1.heap.size = G := ⟨_, rfl⟩
  have hg1 : w.heap.size ≤ w1.heap.size := HF1.out.size
  rw [hG] at hg1
  have HP0 : Hid (SlI (w1.alloc (.cells (Array.replicate n (.int .i64 0)) 3)) (.slice (some ⟨G, 0, none⟩) n n) (part n d 0)) := Lib.hid (by
    have h := (made_new w1 n (by omega)).1
    rw [hG] at h
    simpa [part, zer] using h)
  have HF2 := Lib.hid (HF1.out.nn (Fr.alloc w1 (.cells (Array.replicate n (.int .i64 0)) 3) No))
  rw [hG]
  generalize w1.alloc (.cells (Array.replicate n (.int .i64 0)) 3) = w2 at *
  clear hG HF1 hmk
  go_loopg [43] n (fun g v43 wr => ∃ (k : Nat), k + g = n ∧ v43 = .int .i64 k ∧ SlI wr (.slice (some ⟨G, 0, none⟩) n n) (part n d k) ∧ Fr w wr No)
  case atStart => exact ⟨0, by omega, rfl, HP0.out, HF2.out⟩
  case round =>
    obtain ⟨k, hk, rfl, hS, hf⟩ := hrel
    have HK := Lib.hid hk
    have HS := Lib.hid hS
    have HF := Lib.hid hf
    clear hk hS hf HP0 HF2
    by_cases hlt : k < n
    · have hpl := part_len n d k (by omega)
      have hcell := SlI.at hpl HS.out k hlt
      have hfrz := Sl.frz HS.out (0 + k)
      have hset := SlI.set hpl HS.out k hlt (d : Int)
      rw [part_set n d k hlt] at hset
      rw [Nat.zero_add] at hcell hfrz hset
      have HSET := Lib.hid hset
      have HF3 : Hid (Fr w (wr.setCell ⟨G, k, none⟩ (.int .i64 (d : Int))) No) := Lib.hid (HF.out.in1 (Fr.setCell _ _ _) hg1)
      have hk1 : (k : Int) < (n : Int) := by omega
      have HLT := Lib.hid hlt
      clear hpl hset
      go_wp2_with fail
      go_roundg (gk - 1)
      case measure => have := HK.out; have := HLT.out; omega
      case rel => exact ⟨k + 1, by have := HK.out; have := HLT.out; omega, by go_num, HSET.out, HF3.out⟩
    · have hke : k = n := by have := HK.out; omega
      subst hke
      rename_i n_
      have hk1 : ¬ (k : Int) < (k : Int) := by omega
      rw [part_all] at HS
      have HV0 : Hid (RdI wr (.slice (some ⟨G, 0, none⟩) k k) (List.replicate k (d : Int))) := Lib.hid (by
        have h := SlI.rd HS.out (by simp; omega)
        exact h)
      clear hlt HK
      go_wp2_with fail
      refine (newG_ok _ (List.replicate k (d : Int)) _ HV0.out HOK.out).mono ?_
      rintro e w3 ⟨p, gs, rfl, hN⟩
      have HS0 : Hid (OuS w w3 p gs (rack0 (List.replicate k (d : Int))) k d (.slice none 0 0) []) := Lib.hid
        ⟨hN.from HF.out, ⟨Sl.nil _ _ _, HF.out.nn hN.fr, by simp [Value.ownBlock]⟩, inS_init k d (by omega) hd1 (by omega)⟩
      clear hN HV0 HS HF
      obtain ⟨M, hM⟩ : ∃ M, (k - 1) * d = M := ⟨_, rfl⟩
      have hM36 : M ≤ 36 := by
        rw [← hM]
        exact Nat.mul_le_mul (show k - 1 ≤ 6 by omega) hd6
      have hmulM : ((k : Int) - 1) * (d : Int) = (M : Int) := by
        rw [← hM, Int.natCast_mul, show ((k - 1 : Nat) : Int) = (k : Int) - 1 by omega]
      have HM := Lib.hid hM
      clear hM
      go_upto_block 2 with (fail)
      go_cut [13, 14] from 62 to 96 (fun v13 v14 wc => ∃ (R : List Lan) (ins : List Int), OuS w wc p gs R k d v13 ins)
      case first =>
        go_wp2_with fail
        go_loopg [13, 14] zs.length (fun g v13 v14 wr => ∃ (i : Nat) (R : List Lan) (ins : List Int), i + g = zs.length ∧ v14 = .int .i64 i ∧ OuS w wr p gs R k d v13 ins)
        case atStart => exact ⟨0, _, [], by omega, rfl, HS0.out⟩
        case round =>
          clear hk1
          obtain ⟨i, R, ins, hi, rfl, hS⟩ := hrel
          have HI := Lib.hid hi
          have HS := Lib.hid hS
          obtain ⟨a13, c13, rfl⟩ := slv_form hS.ls.1
          have hle := hS.st.le
          rw [HM.out] at hle
          clear hi hS HS0
          by_cases hlt : i < zs.length ∧ ins.length < M
          · obtain ⟨h1, h2⟩ := hlt
            have hi1 : (i : Int) < (zs.length : Int) := by omega
            have hi2 : (ins.length : Int) < (M : Int) := by omega
            obtain ⟨b, off, hav, h3⟩ := (HV.out.keep0 HS.out.rack.fr).get i h1
            subst hav
            obtain ⟨x, hx⟩ : ∃ x, zs.getD i 0 = x := ⟨_, rfl⟩
            rw [hx] at h3
            have htt := tt_eq x
            obtain ⟨ht1, ht30⟩ := tt_bd x
            have HLT := Lib.hid h1
            have HIP := Lib.hid (inS_put HS.out.st ht1 ht30 (by rw [HM.out]; exact h2))
            have HTB := Lib.hid (And.intro ht1 ht30)
            have hil : ins.length ≤ 10000000 := by omega
            clear hx h1 h2
            go_upto_region 18 with (fail)
            rw [htt]
            generalize tt x = t at *
            clear htt h3
            go_wp2_with fail
            refine (put_any p gs R t _ HS.out.rack.rack).mono ?_
            rintro e w4 ⟨rfl, hr4, hf4⟩
            have HR4 := Lib.hid (HS.out.rack.into hr4 hf4)
            have HL4 := Lib.hid (HS.out.ls.lanes HS.out.rack hf4)
            clear hr4 hf4
            rcases HIP.out with ⟨e1, e2⟩ | ⟨e1, e2⟩
            · rw [e1]
              have HE2 := Lib.hid e2
              clear e1 e2 HIP
              go_wp2_with (at_builtin; refine wpList_appI rfl (.tmp 93) (.tmp 95) rfl (.slice a13 ins.length c13) ins rfl ?c1 w4.heap.size t rfl ?c2 hil ?_)
              case c1 => exact Sl.keep0 HL4.out.1 (Fr.alloc _ _ _)
              case c2 => have := blk_new w4 (.cells #[.int .i64 t] 3); simpa using this
              intro v6 w6 h1' h2' h3'
              have HL6 := Lib.hid (HL4.out.app (Fr.alloc w4 (.cells #[.int .i64 t] 3) No) h1' h2' (by simpa using h3'))
              have HR6 := Lib.hid ((HR4.out.keep0 (Fr.alloc w4 (.cells #[.int .i64 t] 3) No)).own (Sl.keep0 HL4.out.1 (Fr.alloc _ _ _)) h2' HL4.out.2.2)
              clear h1' h2' h3'
              go_wp2_with fail
              go_roundg (gk - 1)
              case measure => have := HI.out; have := HLT.out; omega
              case rel => exact ⟨i + 1, _, _, by have := HI.out; have := HLT.out; omega, by go_num, ⟨HR6.out, HL6.out, HE2.out⟩⟩
            · have hb : (putE R t == 0) = false := by simpa using e1
              rw [e2] at HR4
              generalize putE R t = E at *
              clear e1 e2 HIP
              go_wp2_with fail
              go_roundg (gk - 1)
              case measure => have := HI.out; have := HLT.out; omega
              case rel => exact ⟨i + 1, _, _, by have := HI.out; have := HLT.out; omega, by go_num, ⟨HR4.out, HL4.out, HS.out.st⟩⟩
          · have hcase : ¬ ((i : Int) < (zs.length : Int)) ∨ ((i : Int) < (zs.length : Int) ∧ ¬ ((ins.length : Int) < (M : Int))) := by omega
            clear hlt
            rcases hcase with q | ⟨q, q'⟩
            all_goals
              go_wp2_with fail
              go_meet
              case rel => exact ⟨R, ins, HS.out⟩
      case rest =>
        obtain ⟨R, ins, hS⟩ := hcut
        have HS := Lib.hid hS
        clear hS HS0
        have hle0 := HS.out.st.le
        rw [HM.out] at hle0
        go_wp2_with fail
        go_loopg [13, 18] ins.length (fun g v13 v18 wr => ∃ (q : Nat) (R : List Lan) (ins : List Int), ins.length = g ∧ q + ins.length ≤ 36 ∧ v18 = .int .i64 q ∧ OuS w wr p gs R k d v13 ins)
        case atStart => exact ⟨0, R, ins, rfl, by omega, rfl, HS.out⟩
        case round =>
          clear hk1 hle0 HS
          obtain ⟨g5, hg5⟩ : ∃ q : Nat, q = gk := ⟨_, rfl⟩
          subst hg5
          clear R ins
          obtain ⟨q, R, ins, hg, hq36, rfl, hS⟩ := hrel
          have HGK := Lib.hid hg
          have HS := Lib.hid hS
          clear hg hS
          obtain ⟨a13, c13, rfl⟩ := slv_form HS.out.ls.1
          by_cases hlt : 0 < ins.length
          · have hi1 : (0 : Int) < (ins.length : Int) := by omega
            go_upto_if 104 with (fail)
            go_cut [19] from 104 to 117 (fun v19 wc => ∃ iv : Int, v19 = .int .i64 iv ∧ 0 ≤ iv ∧ iv < (ins.length : Int) ∧ wc = wr)
            case first =>
              by_cases hps : 0 < ps.length
              · have hp1 : (0 : Int) < (ps.length : Int) := by omega
                have hm : q % ps.length < ps.length := Nat.mod_lt _ hps
                obtain ⟨b, off, hau, h3⟩ := (HU.out.keep0 HS.out.rack.fr).get (q % ps.length) hm
                subst hau
                generalize ps.getD (q % ps.length) 0 = z at *
                have hil : (ins.length : Int) ≤ 1000000 := by omega
                obtain ⟨m1, m2, m3⟩ := umod z (ins.length : Int) hi1 hil
                have hrem : (q : Int).tmod (ps.length : Int) = ((q % ps.length : Nat) : Int) := by
                  rw [Int.tmod_eq_emod_of_nonneg (by omega)]; simp
                have hm1 : ((q % ps.length : Nat) : Int) < (ps.length : Int) := by omega
                have hm0 : (0 : Int) ≤ ((q % ps.length : Nat) : Int) := by omega
                have hwl : IntKind.u64.wrap (ins.length : Int) = (ins.length : Int) := by unfold IntKind.wrap; simp [IntKind.signed, IntKind.bits]; omega
                go_wp2_with fail
                go_meet
                case rel => exact ⟨_, rfl, by rw [m1]; exact m2, by rw [m1]; exact m3, rfl⟩
              · have hp1 : ¬ (0 : Int) < (ps.length : Int) := by omega
                go_wp2_with fail
                go_meet
                case rel => exact ⟨_, rfl, Int.le_refl _, hi1, rfl⟩
            case rest =>
              obtain ⟨iv, rfl, hiv0, hiv1, rfl⟩ := hcut
              obtain ⟨i, rfl⟩ : ∃ i : Nat, iv = i := ⟨iv.toNat, by omega⟩
              have hi : i < ins.length := by omega
              clear hiv0 hiv1
              obtain ⟨g7, o7, ha13⟩ : ∃ g off, a13 = some ⟨g, off, none⟩ := by
                obtain ⟨b, off, h, _⟩ := (SlI.rd HS.out.ls.1 (by omega)).get i hi
                exact ⟨b, off, h⟩
              subst ha13
              obtain ⟨Rf, hO⟩ := inS_out HS.out.st (by omega) (by omega) i hi
              have hcell := SlI.at rfl HS.out.ls.1 i hi
              obtain ⟨x, hx⟩ : ∃ x, ins.getD i 0 = x := ⟨_, rfl⟩
              rw [hx] at hcell hO
              have HO := Lib.hid hO
              have hii : (i : Int) < (ins.length : Int) := by omega
              have hi0 : (0 : Int) ≤ (i : Int) := by omega
              clear hx hO
              obtain ⟨nA, hnA⟩ : ∃ nA, ins.length = nA := ⟨_, rfl⟩
              have hS1 := HS.out.ls.1
              rw [hnA] at hi hii hS1 hq36 hlt hi1 ⊢
              obtain ⟨_, hcc, hp1, hp2, hp3⟩ := part_facts hS1 (by omega) i hi
              have HNA := Lib.hid hnA
              have HP1 := Lib.hid hp1
              have HP2 := Lib.hid hp2
              have HP3 := Lib.hid hp3
              have f2 : (i : Int) ≤ (c13 : Int) := by omega
              have f3 : i ≤ c13 := by omega
              have f4 : (0 : Int) ≤ (i : Int) + 1 := by omega
              have f5 : (i : Int) + 1 ≤ (nA : Int) := by omega
              have f6 : ¬ c13 = 0 := by omega
              have f7 : i < 1000 := by omega
              have f11 : IntKind.i64.wrap ((i : Int) + 1) = (i : Int) + 1 := IntWalk.i64_in _ (by omega)
              clear hp1 hp2 hp3 hnA hS1
              go_upto_region 28 with (fail)
              go_cut [13] (fun v13 wd => NewI wc wd v13 (ins.take i ++ ins.drop (i + 1)))
              case first =>
                by_cases hc1 : c13 = i + 1
                · obtain rfl : nA = i + 1 := by omega
                  subst hc1
                  have hdr : ins.drop (i + 1) = [] := List.drop_eq_nil_of_le (by have := HNA.out; omega)
                  have f8 : (i : Int) ≤ (i : Int) + 1 := by omega
                  have f9 : i < i + 1 := by omega
                  have f10 : 0 < i + 1 := by omega
                  have HDR := Lib.hid hdr
                  clear hdr
                  go_region_held3 (fun w' => Fr wc w' No)
                    ((first
                      | exact Fr.drew wc No
                      | exact Fr.into (by assumption) r2 (fun i e => by
                          rcases q3 with h | h
                          · rw [h] at e; simp [Value.ownBlock] at e; omega
                          · rw [h] at e; simp at e; omega)
                      | exact Fr.into (by assumption) q2 (fun i e => by simp [Value.ownBlock] at e; omega)
                      | exact Fr.to_alloc (by assumption) _))
                    (first
                      | (refine step_appS (by rfl) _ _ (by rfl) _ [] (by rfl) (Sl.made (blk_new _ _) rfl (by decide)) _ (ins.take i) (by rfl) (HP1.out.keep0 (Fr.to_alloc (Fr.drew wc No) _)) (by simp; omega) ?_; intro v1 w1 q1 q2 q3)
                      | (refine step_appS (by rfl) _ _ (by rfl) v1 (ins.take i) (by rfl) (by simpa using q1) _ [] (by rfl) (HP3.out.keep0 (by assumption)) (by simp; omega) ?_; intro v2 w2 r1 r2 r3))
                  have hfr : Fr wc w2 No := by assumption
                  have hN : NewI wc w2 v2 (ins.take i ++ ins.drop (i + 1)) := ⟨by rw [HDR.out]; exact r1, hfr, fun i e => by
                    rcases r3 with h | h
                    · rw [h] at e
                      rcases q3 with h' | h'
                      · rw [h'] at e; simp [Value.ownBlock] at e; omega
                      · rw [h'] at e; simp at e; omega
                    · rw [h] at e
                      have : w1.heap.size = i := by simpa using e
                      have h5 := q2.size
                      simp at h5
                      omega⟩
                  have HN := Lib.hid hN
                  clear hN hfr r1 r2 r3 q1 q2 q3
                  go_wp2_with fail
                  go_meet
                  case rel => exact HN.out
                · go_region_held3 (fun w' => Fr wc w' No)
                    ((first
                      | exact Fr.drew wc No
                      | exact Fr.into (by assumption) r2 (fun i e => by
                          rcases q3 with h | h
                          · rw [h] at e; simp [Value.ownBlock] at e; omega
                          · rw [h] at e; simp at e; omega)
                      | exact Fr.into (by assumption) q2 (fun i e => by simp [Value.ownBlock] at e; omega)
                      | exact Fr.to_alloc (by assumption) _))
                    (first
                      | (refine step_appS (by rfl) _ _ (by rfl) _ [] (by rfl) (Sl.made (blk_new _ _) rfl (by decide)) _ (ins.take i) (by rfl) (HP1.out.keep0 (Fr.to_alloc (Fr.drew wc No) _)) (by simp; omega) ?_; intro v1 w1 q1 q2 q3)
                      | (refine step_appS (by rfl) _ _ (by rfl) v1 (ins.take i) (by rfl) (by simpa using q1) _ (ins.drop (i + 1)) (by rfl) (HP2.out.keep0 (by assumption)) (by have := HNA.out; simp; omega) ?_; intro v2 w2 r1 r2 r3))
                  have hfr : Fr wc w2 No := by assumption
                  have hN : NewI wc w2 v2 (ins.take i ++ ins.drop (i + 1)) := ⟨r1, hfr, fun i e => by
                    rcases r3 with h | h
                    · rw [h] at e
                      rcases q3 with h' | h'
                      · rw [h'] at e; simp [Value.ownBlock] at e; omega
                      · rw [h'] at e; simp at e; omega
                    · rw [h] at e
                      have : w1.heap.size = i := by simpa using e
                      have h5 := q2.size
                      simp at h5
                      omega⟩
                  have HN := Lib.hid hN
                  clear hN hfr r1 r2 r3 q1 q2 q3
                  go_wp2_with fail
                  go_meet
                  case rel => exact HN.out
              case rest =>
                have HR2 := Lib.hid (HS.out.rack.keep0 hcut.2.1)
                have HL2 := Lib.hid (hcut.from HS.out.rack.fr)
                obtain ⟨a14, c14, rfl⟩ := slv_form hcut.1
                have hil : (ins.take i ++ ins.drop (i + 1)).length + 1 = nA := by have := HNA.out; simp; omega
                have HIL := Lib.hid hil
                generalize ins.take i ++ ins.drop (i + 1) = ins' at *
                clear hcut HP1 HP2 HP3 f2 f3 f4 f5 f6 f7 f11 hcell hil
                go_wp2_with fail
                refine (plan_any x HR2.out.rack).mono ?_
                rw [HO.out.err]
                rintro e w4 ⟨v4, rfl, hM4⟩
                obtain ⟨a4, c4, rfl⟩ := hM4.form
                have HS4 := Lib.hid (PnS.mk (HR2.out.keep0 hM4.2.1) (hM4.from HR2.out.fr))
                have HL4 := Lib.hid (HL2.out.keep0 hM4.2.1)
                have hL9 := HO.out.len
                have HRUN := Lib.hid HO.out.run
                have HGONE := Lib.hid HO.out.gone
                have HST := Lib.hid HO.out.st
                clear hM4 HR2 HL2 HO
                generalize planL R x = L at *
                go_wp2_with fail
                go_loopg [142] L.length (fun g v142 wr => ∃ (j : Nat) (Rk : List Lan), j + g = L.length ∧ v142 = .int .i64 j ∧ runL Rk (L.drop j) = some Rf ∧ PnS w wr p gs Rk (.slice a4 L.length c4) L ∧ NewI w wr (.slice a14 ins'.length c14) ins')
                case atStart => exact ⟨0, R, by omega, rfl, HRUN.out, HS4.out, HL4.out⟩
                case round =>
                  obtain ⟨j, Rk, hj, rfl, hrun, hP, hl⟩ := hrel
                  have HJ := Lib.hid hj
                  have HRN := Lib.hid hrun
                  have HP := Lib.hid hP
                  have HL := Lib.hid hl
                  clear hj hrun hP hl HS4 HL4 HRUN
                  by_cases hlj : j < L.length
                  · have hj1 : (j : Int) < (L.length : Int) := by omega
                    have HLJ := Lib.hid hlj
                    obtain ⟨b4, o4, ha4, m1, m2, m3⟩ := HP.out.mv.1.at_ j hlj
                    have hdr : L.drop j = L.getD j (0, 0, 0) :: L.drop (j + 1) := by
                      rw [List.drop_eq_getElem_cons hlj]
                      congr 1
                      simp [List.getD, List.getElem?_eq_getElem hlj]
                    have hh := HRN.out
                    rw [hdr] at hh
                    obtain ⟨d1, d2⟩ := runL_head hh
                    subst ha4
                    generalize L.getD j (0, 0, 0) = mm at *
                    obtain ⟨q1, q2, q3⟩ := mm
                    simp only at m1 m2 m3 d1 d2
                    have HD1 := Lib.hid d1
                    have HD2 := Lib.hid d2
                    clear hlj hdr hh d1 d2
                    go_wp2_with fail
                    refine (do_any p gs Rk q1 q2 q3 _ (HP.out.keep0 (Fr.alloc _ _ _)).rack.rack).mono ?_
                    rw [HD1.out]
                    rintro e w8 ⟨rfl, hr8, hf8⟩
                    have HP8 := Lib.hid ((HP.out.keep0 (Fr.alloc wr (.cells #[.int .i64 q1, .int .i64 q2, .int .i64 q3] 62) No)).do_ hr8 hf8)
                    have HL8 := Lib.hid ((HL.out.keep0 (Fr.alloc wr (.cells #[.int .i64 q1, .int .i64 q2, .int .i64 q3] 62) No)).lanes (HP.out.keep0 (Fr.alloc wr (.cells #[.int .i64 q1, .int .i64 q2, .int .i64 q3] 62) No)).rack hf8)
                    clear hr8 hf8 m1 m2 m3
                    go_wp2_with fail
                    go_roundg (gk - 1)
                    case measure => have := HJ.out; have := HLJ.out; omega
                    case rel => exact ⟨j + 1, _, by have := HJ.out; have := HLJ.out; omega, by go_num, HD2.out, HP8.out, HL8.out⟩
                  · have hj1 : ¬ (j : Int) < (L.length : Int) := by omega
                    have hRf := HRN.out
                    rw [List.drop_eq_nil_of_le (by omega), runL_nil] at hRf
                    obtain rfl : Rk = Rf := Option.some.inj hRf
                    clear hlj HJ HRN hRf
                    go_wp2_with fail
                    refine (where_any p gs Rk x _ HP.out.rack.rack).mono ?_
                    rw [HGONE.out]
                    rintro e w9 ⟨rfl, hf9⟩
                    have HS9 : Hid (OuS w w9 p gs Rk k d (.slice a14 ins'.length c14) ins') := Lib.hid ⟨HP.out.rack.keep0 hf9, HL.out.keep0 hf9, HST.out⟩
                    clear hf9
                    go_wp2_with fail
                    go_roundg (g5 - 1)
                    case measure => have := HGK.out; have := HNA.out; omega
                    case rel => exact ⟨q + 1, Rk, ins', by have := HGK.out; have := HNA.out; have := HIL.out; omega, by have := HNA.out; have := HIL.out; omega, by go_num, HS9.out⟩
          · have hi1 : ¬ (0 : Int) < (ins.length : Int) := by omega
            have hroom := HS.out.st.room
            have hroom2 : roomR R = ((k * d : Nat) : Int) := by omega
            have hkd : k * d ≤ 42 := Nat.mul_le_mul (show k ≤ 7 by omega) hd6
            have hmul2 : (k : Int) * (d : Int) = ((k * d : Nat) : Int) := (Int.natCast_mul k d).symm
            obtain ⟨M2, hM2⟩ : ∃ M2, k * d = M2 := ⟨_, rfl⟩
            rw [hM2] at hroom2 hkd hmul2
            have HRM := Lib.hid hroom2
            have hmm : ((M2 : Int) == (M2 : Int)) = true := beq_self_eq_true _
            clear hlt hroom hroom2 hM2
            go_wp2_with fail
            refine (roomG_any p gs R _ HS.out.rack.rack).mono ?_
            rw [HRM.out]
            rintro e w9 ⟨rfl, hf9⟩
            have HF9 := Lib.hid (HS.out.rack.fr.nn hf9)
            clear hf9
            go_wp2_with fail
            go_ret
            exact ⟨rfl, HF9.out⟩

theorem gridOut_row (w : World) (h0 h1 : Int) (_ : ∀ z ∈ [h0, h1], (Lit.int .i64 z).wf = true) (v : Value) (zs : List Int) (hv : RdI w v zs) (u : Value) (ps : List Int) (hu : RdI w u ps) :
    Calls Try.prog 9 #[.agg #[.int .i64 h0, .int .i64 h1], v, u] w fun e w' => e = .returned (.bool true) ∧ Fr w w' No := gridOut_walk w h0 h1 v zs hv u ps hu
end Go.Proofs.Ytegoilhkooneaaa
