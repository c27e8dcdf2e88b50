import Derived.Test.YtggogohoakbepaaP1
import Derived.Test.YtggogohoakbepaaQl
import Derived.Test.YtggogohoakbepaaSl
namespace Go.Proofs.Ytggogohoakbepaa
open Go.RowKit Go.Sort
set_option linter.unusedVariables false
set_option linter.unusedSimpArgs false

def arrC (f : Nat → Int) : Array Value := ((List.range 448).map fun k => Value.int .i64 (f k)).toArray
/-- The table of the most, in block b. -/
def ArrAt (w : World) (b : Nat) (f : Nat → Int) : Prop := w.heap[b]? = some (.cells (arrC f) 54 (0, 0))
def upd (f : Nat → Int) (k : Nat) (v : Int) : Nat → Int := fun q => if q = k then v else f q
theorem arrC_at (f : Nat → Int) (k : Nat) (hk : k < 448) : (arrC f)[k]? = some (.int .i64 (f k)) := by
  unfold arrC
  rw [List.getElem?_toArray, List.getElem?_map, List.getElem?_range hk]; rfl
theorem arrC_set (f : Nat → Int) (k : Nat) (v : Int) : (arrC f).setIfInBounds k (.int .i64 v) = arrC (upd f k v) := by
  apply Array.ext'
  unfold arrC
  rw [Array.toList_setIfInBounds]
  apply List.ext_getElem (by simp)
  intro j h1 h2
  rw [List.getElem_set]
  simp only [List.getElem_map, List.getElem_range, upd]
  by_cases e : k = j
  · subst e; simp
  · rw [if_neg e, if_neg (fun h => e h.symm)]
theorem ArrAt.at_ {w : World} {b : Nat} {f : Nat → Int} (h : ArrAt w b f) (k : Nat) (hk : k < 448) : w.cell? ⟨b, k, none⟩ = some (.int .i64 (f k)) := by
  rw [blk_cell h]; exact arrC_at f k hk
theorem ArrAt.set {w : World} {b : Nat} {f : Nat → Int} (h : ArrAt w b f) (k : Nat) (v : Int) : ArrAt (w.setCell ⟨b, k, none⟩ (.int .i64 v)) b (upd f k v) := by
  unfold ArrAt
  rw [blk_set h, arrC_set]
theorem ArrAt.frz {w : World} {b : Nat} {f : Nat → Int} (h : ArrAt w b f) (k : Nat) : w.frozen? ⟨b, k, none⟩ = false := blk_frozen h k
theorem ArrAt.keep0 {w w' : World} {b : Nat} {f : Nat → Int} (h : ArrAt w b f) (hf : Fr w w' No) : ArrAt w' b f := hf.blk h id
theorem zero54 (w : World) : (zeroValue 54).run Try.prog w = .ok (.agg (arrC fun _ => 0)) w := by kernel_rfl
/-- From row i on all is reckoned. -/
def Done (f : Nat → Int) (ss gs : List Spot) (i : Nat) : Prop := ∀ j, i ≤ j → j ≤ ss.length → ∀ t, t < 2 ^ gs.length → f (j * 64 + t) = M gs (ss.drop j) t

theorem upd_eq (f : Nat → Int) (k : Nat) (v : Int) : upd f k v k = v := by simp [upd]
theorem upd_ne (f : Nat → Int) (k : Nat) (v : Int) (q : Nat) (h : q ≠ k) : upd f k v q = f q := by simp [upd, h]
theorem M_bd (gs ss : List Spot) (hs : ∀ s ∈ ss, okS s) (hl : ss.length ≤ 6) (t : Nat) : 0 ≤ M gs ss t ∧ M gs ss t ≤ 12000 := by
  have h1 := M_nonneg gs ss t
  have h2 := M_le gs ss hs t
  omega
theorem ofInt_i64 (a : Nat) (ha : a < 9223372036854775808) : (BitVec.ofInt 64 (a : Int)).toNat = a := by
  rw [BitVec.ofInt_natCast, BitVec.toNat_ofNat]; exact Nat.mod_eq_of_lt (by omega)
theorem bits_and (a b : Nat) (ha : a < 9223372036854775808) (hb : b < 9223372036854775808) : bits .and .i64 (a : Int) (b : Int) = ((a &&& b : Nat) : Int) := by
  have hx : a &&& b < 2 ^ 63 := Nat.and_lt_two_pow _ (by omega)
  show IntKind.i64.wrap ((BitVec.ofInt 64 (a : Int) &&& BitVec.ofInt 64 (b : Int)).toNat : Int) = _
  rw [BitVec.toNat_and, ofInt_i64 a ha, ofInt_i64 b hb, IntKind.wrap_i64]
  omega
theorem bits_or (a b : Nat) (ha : a < 9223372036854775808) (hb : b < 9223372036854775808) : bits .or .i64 (a : Int) (b : Int) = ((a ||| b : Nat) : Int) := by
  have hx : a ||| b < 2 ^ 63 := Nat.or_lt_two_pow (by omega) (by omega)
  show IntKind.i64.wrap ((BitVec.ofInt 64 (a : Int) ||| BitVec.ofInt 64 (b : Int)).toNat : Int) = _
  rw [BitVec.toNat_or, ofInt_i64 a ha, ofInt_i64 b hb, IntKind.wrap_i64]
  omega
theorem and_bit (t j : Nat) (ht : t < 64) : bits BinOp.and IntKind.i64 (↑t / 2 ^ j) 1 = if t.testBit j = true then 1 else 0 := by
  have e : ((t : Int) / 2 ^ j) = ((t / 2 ^ j : Nat) : Int) := by simp
  have h : t / 2 ^ j ≤ t := Nat.div_le_self _ _
  rw [e, show (1 : Int) = ((1 : Nat) : Int) from rfl, bits_and _ _ (by omega) (by decide), Nat.testBit_eq_decide_div_mod_eq, Nat.and_one_is_mod]
  have := Nat.mod_lt (t / 2 ^ j) (show 2 > 0 by decide)
  generalize t / 2 ^ j % 2 = m at *
  by_cases hm : m = 1
  · subst hm; rfl
  · obtain rfl : m = 0 := by omega
    rfl
theorem pow_le0 (n : Nat) (h : n ≤ 6) : 2 ^ n ≤ 64 := Nat.pow_le_pow_right (by decide) h
theorem Done.upd {f : Nat → Int} {ss gs : List Spot} {i : Nat} (h : Done f ss gs i) (k : Nat) {v : Int} (hk : k < i * 64) : Done (upd f k v) ss gs i := fun j h1 h2 t ht => by
  rw [upd_ne _ _ _ _ (by omega)]
  exact h j h1 h2 t ht
theorem pow_le (n : Nat) (h : n ≤ 6) : 2 ^ n ≤ 64 := Nat.pow_le_pow_right (by decide) h
theorem pow_wrap (n : Nat) (h : n ≤ 6) : wrap64 (2 ^ n) = ((2 ^ n : Nat) : Int) := by
  have := pow_le n h
  have e : (2 : Int) ^ n = ((2 ^ n : Nat) : Int) := by simp
  rw [e]
  generalize 2 ^ n = m at *
  unfold wrap64
  omega

theorem or_bit (t j : Nat) (ht : t < 64) (hj : j ≤ 6) : bits BinOp.or IntKind.i64 ↑t (wrap64 (2 ^ j)) = ((t ||| 2 ^ j : Nat) : Int) := by
  have := pow_le j hj
  rw [pow_wrap j hj]
  exact bits_or _ _ (by omega) (by omega)

theorem or_bit' (t j : Nat) (ht : t < 64) (hj : j ≤ 6) : bits BinOp.or IntKind.i64 ↑t (IntKind.i64.wrap (2 ^ j)) = ((t ||| 2 ^ j : Nat) : Int) := by
  have := or_bit t j ht hj
  have e : IntKind.i64.wrap (2 ^ j) = wrap64 (2 ^ j) := by unfold wrap64; exact IntKind.wrap_i64 _
  rw [e]; exact this

def BestPost (ss gs : List Spot) (w : World) (e : Ending) (w' : World) : Prop := ∃ q, e = .returned (.tuple #[q, .int .i64 (alone ss + alone gs - M gs ss 0), .int .i64 0]) ∧ NewI w w' q (R gs ss 0)
theorem drop_at (l : List Spot) (k : Nat) (h : k < l.length) : l.drop k = l.getD k (0, 0) :: l.drop (k + 1) := by
  rw [List.drop_eq_getElem_cons h]
  simp [List.getD, List.getElem?_eq_getElem h]
theorem R_miss (gs ss : List Spot) (i tk : Nat) (hi : i < ss.length) (h : M gs (ss.drop i) tk = M gs (ss.drop (i + 1)) tk) : R gs (ss.drop i) tk = -1 :: R gs (ss.drop (i + 1)) tk := by
  rw [drop_at ss i hi] at h ⊢
  rw [R, if_pos h]
theorem R_hit (gs ss : List Spot) (i tk j : Nat) (hi : i < ss.length) (h : M gs (ss.drop i) tk ≠ M gs (ss.drop (i + 1)) tk) (hj : j < gs.length)
    (hb : tk.testBit j = false) (he : M gs (ss.drop i) tk = sv (ss.getD i (0, 0)) (gs.getD j (0, 0)) + M gs (ss.drop (i + 1)) (tk ||| 2 ^ j))
    (hn : ∀ x, x < j → ¬ (tk.testBit x = false ∧ M gs (ss.drop i) tk = sv (ss.getD i (0, 0)) (gs.getD x (0, 0)) + M gs (ss.drop (i + 1)) (tk ||| 2 ^ x))) : R gs (ss.drop i) tk = (j : Int) :: R gs (ss.drop (i + 1)) (tk ||| 2 ^ j) := by
  rw [drop_at ss i hi] at h he hn ⊢
  obtain ⟨g, hg⟩ := fstg_ne h
  obtain ⟨h1, h2, h3, h4⟩ := fstg_some hg
  have : g = j := by
    rcases Nat.lt_trichotomy g j with hl | hl | hl
    · exact absurd ⟨h2, h3⟩ (hn g hl)
    · exact hl
    · exact absurd ⟨hb, he⟩ (h4 j hl)
  subst this
  rw [R, if_neg h, hg]
theorem R_none (gs ss : List Spot) (i tk : Nat) (hi : i < ss.length) (h : M gs (ss.drop i) tk ≠ M gs (ss.drop (i + 1)) tk)
    (hn : ∀ x, x < gs.length → ¬ (tk.testBit x = false ∧ M gs (ss.drop i) tk = sv (ss.getD i (0, 0)) (gs.getD x (0, 0)) + M gs (ss.drop (i + 1)) (tk ||| 2 ^ x))) : False := by
  rw [drop_at ss i hi] at h hn
  obtain ⟨g, hg⟩ := fstg_ne h
  obtain ⟨h1, h2, h3, h4⟩ := fstg_some hg
  exact hn g h1 ⟨h2, h3⟩
theorem Done.start (ss gs : List Spot) : Done (fun _ => 0) ss gs ss.length := fun j h1 h2 t _ => by
  rw [List.drop_eq_nil_of_le h1]; rfl
theorem Done.down {f : Nat → Int} {ss gs : List Spot} {k : Nat} (h : Done f ss gs (k + 1)) (hr : ∀ x, x < 2 ^ gs.length → f (k * 64 + x) = M gs (ss.drop k) x) : Done f ss gs k := fun j h1 h2 t ht => by
  by_cases e : j = k
  · subst e; exact hr t ht
  · exact h j (by omega) h2 t ht

set_option maxRecDepth 100000 in
set_option maxHeartbeats 1000000 in
theorem best_ok (u v : Value) (ss gs : List Spot) (w : World) (hu : RdS w u ss) (hv : RdS w v gs) (hs : okL ss) (hg : okL gs) :
    Calls Try.prog 14 #[u, v] w (BestPost ss gs w) := by
  have l1 := hs.1
  have l2 := hg.1
  obtain ⟨a, c, rfl⟩ := hu.form
  obtain ⟨a', c', rfl⟩ := hv.form
  have HU := Lib.hid hu
  have HV := Lib.hid hv
  have HS := Lib.hid hs
  have HG := Lib.hid hg
  have d1 : decide (¬ okL ss) = false := by simpa using hs
  have d2 : decide (¬ okL gs) = false := by simpa using hg
  clear hu hv hs hg
  go_enter Try.func14, Try.ntmps14
  go_wp2_with fail
  go_step3
  go_wp2_with fail
  refine (bad_any _ ss _ HU.out).mono ?_
  rw [d1]
  rintro e w1 ⟨rfl, hf1⟩
  go_wp2_with fail
  refine (bad_any _ gs _ (HV.out.keep0 hf1)).mono ?_
  rw [d2]
  rintro e w2 ⟨rfl, hf2⟩
  clear d1 d2
  have HF2 := Lib.hid (hf1.nn hf2)
  clear hf1 hf2
  have hz := zero54
  go_wp2_with fail
  clear hz
  have HB : Hid (ArrAt (w2.alloc (.cells (arrC fun _ => 0) 54)) w2.heap.size (fun _ => 0)) := Lib.hid (blk_new _ _)
  have HF3 := Lib.hid (HF2.out.to_alloc (.cells (arrC fun _ => 0) 54))
  have hbw : w.heap.size ≤ w2.heap.size := HF2.out.size
  generalize w2.alloc (.cells (arrC fun _ => 0) 54) = w3 at *
  generalize w2.heap.size = b at *
  go_loopg [8] ss.length (fun g v8 wr => ∃ (f : Nat → Int), g ≤ ss.length ∧ v8 = .int .i64 ((g : Int) - 1) ∧ ArrAt wr b f ∧ Done f ss gs g ∧ Fr w wr No)
  case atStart => exact ⟨_, Nat.le_refl _, by simp, HB.out, Done.start ss gs, HF3.out⟩
  case round =>
    obtain ⟨f, hg, rfl, hA, hD, hf⟩ := hrel
    have HA := Lib.hid hA
    have HD := Lib.hid hD
    have HF := Lib.hid hf
    clear hA hD hf HB HF3
    cases gk with
    | zero =>
      have ek : ((0 : Nat) : Int) - 1 = -1 := by omega
      rw [ek]
      clear ek
      go_wp2_with fail
      go_step3
      go_wp2_with fail
      have hpw := pow_le _ l2
      have HNI : Hid (NewI w wr (.slice none 0 0) []) := Lib.hid ⟨Sl.nil _ _ _, HF.out, by simp [Value.ownBlock]⟩
      go_loopg [11, 12, 13, 14, 15, 88] ss.length (fun g v11 v12 v13 v14 v15 v88 wr => ∃ (i tk : Nat) (acc : List Int), i + g = ss.length ∧ v88 = .int .i64 i ∧ v12 = .int .i64 tk ∧ tk < 2 ^ gs.length ∧ acc.length = i ∧ NewI w wr v11 acc ∧ acc ++ R gs (ss.drop i) tk = R gs ss 0 ∧ ArrAt wr b f)
      case atStart => exact ⟨0, 0, [], by omega, rfl, rfl, Nat.pos_of_ne_zero (by simp), rfl, HNI.out, rfl, HA.out⟩
      case round =>
        obtain ⟨g, hg1⟩ : ∃ q1 : Nat, q1 = gk := ⟨_, rfl⟩
        subst hg1
        clear HNI HA HF
        obtain ⟨i, tk, acc, hgi, rfl, rfl, htk, hal, hN, hacc, hA⟩ := hrel
        have HN := Lib.hid hN
        have HC := Lib.hid hacc
        have HA := Lib.hid hA
        have HAL := Lib.hid hal
        have HGI := Lib.hid hgi
        clear hN hacc hA hal hgi
        obtain ⟨a11, c11, rfl, _⟩ := HN.out.1.form
        by_cases hlt : i < ss.length
        · have htk64 : tk < 64 := by omega
          have fX := HD.out i (by omega) (by omega) tk htk
          have fY := HD.out (i + 1) (by omega) (by omega) tk htk
          have cX := HA.out.at_ (i * 64 + tk) (by omega)
          have cY := HA.out.at_ ((i + 1) * 64 + tk) (by omega)
          rw [fX] at cX
          rw [fY] at cY
          clear fX fY
          obtain ⟨b1, o1, ha1, s1, s2⟩ := (HU.out.keep0 HN.out.2.1).at_ i hlt
          obtain ⟨sx, hsx⟩ : ∃ x, x = ss.getD i (0, 0) := ⟨_, rfl⟩
          rw [← hsx] at s1 s2
          have HSX := Lib.hid hsx
          have hoS : okS sx := by rw [hsx]; exact HS.out.2 _ (by simp [List.getD, List.getElem?_eq_getElem hlt])
          clear hsx
          have HA1 := Lib.hid ha1
          subst ha1
          obtain ⟨X, hX⟩ : ∃ X, X = M gs (ss.drop i) tk := ⟨_, rfl⟩
          obtain ⟨Y, hY⟩ : ∃ Y, Y = M gs (ss.drop (i + 1)) tk := ⟨_, rfl⟩
          rw [← hX] at cX
          rw [← hY] at cY
          have HX := Lib.hid hX
          have HY := Lib.hid hY
          clear hX hY
          have hi0 : (0 : Int) ≤ (i : Int) := by omega
          have hi1 : (i : Int) < 7 := by omega
          have hi2 : (i : Int) + 1 < 7 := by omega
          have hi3 : (0 : Int) ≤ (i : Int) + 1 := by omega
          have hi4 : ((i : Int) + 1).toNat = i + 1 := by omega
          have ht0 : (0 : Int) ≤ (tk : Int) := by omega
          have ht1 : (tk : Int) < 64 := by omega
          have his : (i : Int) < (ss.length : Int) := by omega
          have hwi : IntKind.i64.wrap ((i : Int) + 1) = (i : Int) + 1 := IntWalk.i64_in _ (by omega)
          by_cases hXY : X = Y
          · have hEq : (X == Y) = true := by simpa using hXY
            have HXY := Lib.hid hXY
            clear hXY
            go_upto_region 23 with (fail)
            have hf4 := Fr.alloc wr (.cells #[.int .i64 sx.1, .int .i64 sx.2] 23) No
            have cX' := hf4.cell cX id
            have cY' := hf4.cell cY id
            have HN4 := Lib.hid (HN.out.keep hf4 (fun _ _ h => h) (fun _ h => h.elim))
            have HA4 := Lib.hid (HA.out.keep0 hf4)
            clear cX cY s1 s2 hf4
            generalize wr.alloc (.cells #[.int .i64 sx.1, .int .i64 sx.2] 23) = w4 at *
            go_quiet (fail)
            have HN5 := Lib.hid (HN4.out.keep (Fr.drewN w4 nq No) (fun _ _ h => h) (fun _ h => h.elim))
            have HA5 := Lib.hid (HA4.out.keep0 (Fr.drewN w4 nq No))
            clear cX' cY' HN4 HA4
            generalize w4.drewN nq = w5 at *
            go_wp2_with (at_builtin; refine wpList_appI rfl (.tmp 105) (.tmp 106) rfl (.slice a11 acc.length c11) acc rfl ?c1 w5.heap.size (-1) rfl ?c2 ?c3 ?_)
            case c1 => exact Sl.keep0 HN5.out.1 (Fr.alloc _ _ _)
            case c2 => have := blk_new w5 (.cells #[.int .i64 (-1)] 3); simpa using this
            case c3 => rw [HAL.out]; omega
            intro v6 w6 h1 h2 h3
            have HN6 := Lib.hid (HN5.out.app (Fr.alloc _ _ No) h1 h2 (by simpa using h3))
            have HA6 : Hid (ArrAt w6 b f) := Lib.hid (h2.blk ((HA5.out.keep0 (Fr.alloc w5 (.cells #[.int .i64 (-1)] 3) No))) (fun e => Sl.ne HN5.out.1 HA5.out (by decide) e))
            clear h1 h2 h3 HN5 HA5
            go_wp2_with fail
            go_roundg (g - 1)
            case measure => have := HGI.out; omega
            case rel =>
              refine ⟨i + 1, tk, acc ++ [-1], by have := HGI.out; omega, by go_num, rfl, htk, by simp; exact HAL.out, HN6.out, ?_, HA6.out⟩
              rw [← HC.out, R_miss gs ss i tk hlt (by rw [← HX.out, ← HY.out]; exact HXY.out)]
              simp
          · have hEq : (X == Y) = false := by simpa using hXY
            have HXY : Hid (X ≠ Y) := Lib.hid hXY
            clear hXY
            go_upto_region 23 with (fail)
            have hf4 := Fr.alloc wr (.cells #[.int .i64 sx.1, .int .i64 sx.2] 23) No
            have cX' := hf4.cell cX id
            have cY' := hf4.cell cY id
            have HN4 := Lib.hid (HN.out.keep hf4 (fun _ _ h => h) (fun _ h => h.elim))
            have HA4 := Lib.hid (HA.out.keep0 hf4)
            have hbs := blk_new wr (.cells #[.int .i64 sx.1, .int .i64 sx.2] 23)
            clear cX cY s1 s2 hf4
            generalize wr.alloc (.cells #[.int .i64 sx.1, .int .i64 sx.2] 23) = w4 at *
            generalize wr.heap.size = bs at *
            go_quiet (fail)
            have HN5 := Lib.hid (HN4.out.keep (Fr.drewN w4 nq No) (fun _ _ h => h) (fun _ h => h.elim))
            have HA5 := Lib.hid (HA4.out.keep0 (Fr.drewN w4 nq No))
            have HB5 := Lib.hid ((Fr.drewN w4 nq No).blk hbs id)
            clear cX' cY' HN4 HA4 hbs
            generalize w4.drewN nq = w5 at *
            go_wp2_with fail
            go_loopg [11, 12, 15, 110] gs.length (fun q v11 v12 v15 v110 wx => ∃ j : Nat, j + q = gs.length ∧ v110 = .int .i64 j ∧ v11 = .slice a11 acc.length c11 ∧ v12 = .int .i64 tk ∧ (∀ x, x < j → ¬ (tk.testBit x = false ∧ X = sv sx (gs.getD x (0, 0)) + M gs (ss.drop (i + 1)) (tk ||| 2 ^ x))) ∧ Fr w5 wx No)
            case atStart => exact ⟨0, by omega, rfl, rfl, rfl, by omega, Fr.refl _ _⟩
            case round =>
              obtain ⟨q2, hq2⟩ : ∃ q1 : Nat, q1 = gk := ⟨_, rfl⟩
              subst hq2
              obtain ⟨j, hjq, rfl, rfl, rfl, hno, hf6⟩ := hrel
              have HJQ := Lib.hid hjq
              have HNO := Lib.hid hno
              have HF6 := Lib.hid hf6
              clear hjq hno hf6
              by_cases hjl : j < gs.length
              · have hand := and_bit tk j htk64
                by_cases hb : tk.testBit j = true
                · have HBT := Lib.hid hb
                  rw [if_pos hb] at hand
                  have hg1 : (bits BinOp.and IntKind.i64 (↑tk / 2 ^ j) 1 == 0) = false := by rw [hand]; rfl
                  clear hand hb
                  go_wp2_with fail
                  go_quiet (fail)
                  have HF7 := Lib.hid (HF6.out.to_drewN nq)
                  generalize wr.drewN nq = w7 at *
                  go_wp2_with fail
                  go_roundg (q2 - 1)
                  case measure => have := HJQ.out; omega
                  case rel =>
                    refine ⟨j + 1, by have := HJQ.out; omega, by go_num, rfl, rfl, fun x hx => ?_, HF7.out⟩
                    by_cases e : x < j
                    · exact HNO.out x e
                    · obtain rfl : x = j := by omega
                      rw [HBT.out]
                      exact fun h => by cases h.1
                · have HBT : Hid (tk.testBit j = false) := Lib.hid (by simpa using hb)
                  rw [if_neg hb] at hand
                  have hg1 : (bits BinOp.and IntKind.i64 (↑tk / 2 ^ j) 1 == 0) = true := by rw [hand]; rfl
                  clear hand hb
                  have hm2 : tk ||| 2 ^ j < 2 ^ gs.length := Nat.or_lt_two_pow htk (Nat.pow_lt_pow_right (by decide) hjl)
                  have hor := or_bit' tk j htk64 (by omega)
                  have hor' := or_bit tk j htk64 (by omega)
                  have fZ := HD.out (i + 1) (by omega) (by omega) (tk ||| 2 ^ j) hm2
                  have cZ := (HA5.out.keep0 HF6.out).at_ ((i + 1) * 64 + (tk ||| 2 ^ j)) (by omega)
                  rw [fZ] at cZ
                  have cX := (HA5.out.keep0 HF6.out).at_ (i * 64 + tk) (by omega)
                  rw [HD.out i (by omega) (by omega) tk htk, ← HX.out] at cX
                  obtain ⟨b2, o2, ha2, g1, g2⟩ := (HV.out.keep0 (HN5.out.2.1.nn HF6.out)).at_ j hjl
                  have HA2 := Lib.hid ha2
                  subst ha2
                  have hoG : okS (gs.getD j (0, 0)) := HG.out.2 _ (by simp [List.getD, List.getElem?_eq_getElem hjl])
                  have hbs := HF6.out.blk HB5.out id
                  have z1 : wr.cell? ⟨bs, 0, none⟩ = some (.int .i64 sx.1) := blk_cell hbs 0
                  have z2 : wr.cell? ⟨bs, 1, none⟩ = some (.int .i64 sx.2) := blk_cell hbs 1
                  have hbd := M_bd gs (ss.drop (i + 1)) (fun x hx => HS.out.2 x (List.mem_of_mem_drop hx)) (by simp; omega) (tk ||| 2 ^ j)
                  have hsv := sv_le (g := gs.getD j (0, 0)) hoS
                  have hsv0 := sv_nonneg sx (gs.getD j (0, 0))
                  obtain ⟨m, hm⟩ : ∃ m, m = tk ||| 2 ^ j := ⟨_, rfl⟩
                  obtain ⟨g0, hg0⟩ : ∃ x, x = gs.getD j (0, 0) := ⟨_, rfl⟩
                  obtain ⟨Z, hZ⟩ : ∃ x, x = M gs (ss.drop (i + 1)) (tk ||| 2 ^ j) := ⟨_, rfl⟩
                  rw [← hZ] at cZ hbd
                  rw [← hg0] at g1 g2 hsv hsv0 hoG
                  rw [← hm] at hor hor' cZ hm2
                  have HM := Lib.hid hm
                  have HG0 := Lib.hid hg0
                  have HZ := Lib.hid hZ
                  have hm64 : m < 64 := by omega
                  clear hm hg0 hZ fZ hbs
                  have hw1 : IntKind.i64.wrap (sv sx g0 + Z) = sv sx g0 + Z := IntWalk.i64_in _ (by omega)
                  have k5 : (0 : Int) ≤ (m : Int) := by omega
                  have k6 : (m : Int) < 64 := by omega
                  have k7 : (0 : Int) ≤ (j : Int) := by omega
                  have k8 : (j : Int) < (gs.length : Int) := by omega
                  go_wp2_with fail
                  have q1 := cell_regrown cX
                  have q3 := cell_regrown cZ
                  have q4 := cell_regrown g1
                  have q5 := cell_regrown g2
                  have q6 := cell_regrown z1
                  have q7 := cell_regrown z2
                  refine wp_region_quiet_below (by kernel_rfl) (by kernel_rfl) ?_
                  repeat (go_big_quiet_step ((go_at_call 24; exact Calls.regrown_of ((saved_any sx g0 _ hoS.near hoG.near).mono fun e w' ⟨he, hf⟩ => ⟨he, hf.below (Nat.le_refl _) (fun _ _ h => h)⟩))))
                  refine wpQuiet_nil ?_
                  intro w7 hw7
                  obtain ⟨p, rfl⟩ := hw7
                  have HF7 := Lib.hid (HF6.out.nn (Fr.of_below (below_regrown wr p.d p.os) No))
                  generalize grow (redrawn wr p.d) p.os = w7 at *
                  clear q1 q3 q4 q5 q6 q7 cX cZ g1 g2 z1 z2 hw1
                  by_cases hq : X = sv sx g0 + Z
                  · have hEq2 : (X == sv sx g0 + Z) = true := by simpa using hq
                    have HQ := Lib.hid hq
                    clear hq
                    have HN7 := Lib.hid (HN5.out.keep HF7.out (fun _ _ h => h) (fun _ h => h.elim))
                    have HA7 := Lib.hid (HA5.out.keep0 HF7.out)
                    go_wp2_with (at_builtin; refine wpList_appI rfl (.tmp 142) (.tmp 144) rfl (.slice a11 acc.length c11) acc rfl ?d1 w7.heap.size j rfl ?d2 ?d3 ?_)
                    case d1 => exact Sl.keep0 HN7.out.1 (Fr.alloc _ _ _)
                    case d2 => have := blk_new w7 (.cells #[.int .i64 j] 3); simpa using this
                    case d3 => rw [HAL.out]; omega
                    intro v8 w8 h1 h2 h3
                    have HN8 := Lib.hid (HN7.out.app (Fr.alloc _ _ No) h1 h2 (by simpa using h3))
                    have HA8 : Hid (ArrAt w8 b f) := Lib.hid (h2.blk ((HA7.out.keep0 (Fr.alloc w7 (.cells #[.int .i64 j] 3) No))) (fun e => Sl.ne HN7.out.1 HA7.out (by decide) e))
                    clear h1 h2 h3 HN7 HA7
                    go_wp2_with fail
                    go_roundg (g - 1)
                    case measure => have := HGI.out; omega
                    case rel =>
                      refine ⟨i + 1, m, acc ++ [(j : Int)], by have := HGI.out; omega, by go_num, rfl, hm2, by simp; exact HAL.out, HN8.out, ?_, HA8.out⟩
                      rw [← HC.out, R_hit gs ss i tk j hlt (by rw [← HX.out, ← HY.out]; exact HXY.out) hjl HBT.out (by rw [← HX.out, ← HSX.out, ← HG0.out, ← HZ.out]; exact HQ.out) (by rw [← HX.out, ← HSX.out]; exact HNO.out), HM.out]
                      simp
                  · have hEq2 : (X == sv sx g0 + Z) = false := by simpa using hq
                    have HQ := Lib.hid hq
                    clear hq
                    go_wp2_with fail
                    go_roundg (q2 - 1)
                    case measure => have := HJQ.out; omega
                    case rel =>
                      refine ⟨j + 1, by have := HJQ.out; omega, by go_num, rfl, rfl, fun x hx => ?_, HF7.out⟩
                      by_cases e : x < j
                      · exact HNO.out x e
                      · obtain rfl : x = j := by omega
                        rw [← HG0.out, ← HZ.out]
                        exact fun h => HQ.out h.2
              · exfalso
                refine R_none gs ss i tk hlt (by rw [← HX.out, ← HY.out]; exact HXY.out) (fun x hx => ?_)
                rw [← HX.out, ← HSX.out]
                exact HNO.out x (by omega)
        · have hb0 := HA.out.at_ 0 (by decide)
          have hM0 : f 0 = M gs ss 0 := by have := HD.out 0 (by omega) (by omega) 0 (Nat.pos_of_ne_zero (by simp)); simpa using this
          rw [hM0] at hb0
          have n1 := alone_nonneg ss
          have n2 := alone_nonneg gs
          have n3 := alone_le ss HS.out.2
          have n4 := alone_le gs HG.out.2
          have n5 := M_bd gs ss HS.out.2 HS.out.1 0
          have hw1 : IntKind.i64.wrap (alone ss + alone gs) = alone ss + alone gs := IntWalk.i64_in _ (by omega)
          have hw2 : IntKind.i64.wrap (alone ss + alone gs - M gs ss 0) = alone ss + alone gs - M gs ss 0 := IntWalk.i64_in _ (by omega)
          clear hM0 n1 n2 n3 n4 n5
          go_wp2_with fail
          have q0 := cell_regrown hb0
          have cU := fun d os => Calls.regrown_of (d := d) (os := os) ((alone_any _ ss _ ((HU.out.keep0 HN.out.2.1).keep0 (Fr.of_below (below_regrown wr d os) No)) HS.out).mono fun e w' ⟨he, hf⟩ => ⟨he, hf.below (Nat.le_refl _) (fun _ _ h => h)⟩)
          have cV := fun d os => Calls.regrown_of (d := d) (os := os) ((alone_any _ gs _ ((HV.out.keep0 HN.out.2.1).keep0 (Fr.of_below (below_regrown wr d os) No)) HG.out).mono fun e w' ⟨he, hf⟩ => ⟨he, hf.below (Nat.le_refl _) (fun _ _ h => h)⟩)
          refine wp_region_quiet_below (by kernel_rfl) (by kernel_rfl) ?_
          repeat (go_big_quiet_step ((first | (with_reducible exact cU _ _) | (with_reducible exact cV _ _))))
          refine wpQuiet_nil ?_
          intro w5 hw5
          obtain ⟨p, rfl⟩ := hw5
          have hf5 := Fr.of_below (below_regrown wr p.d p.os) No
          generalize grow (redrawn wr p.d) p.os = w5 at *
          clear q0 hb0 hw1 hw2 cU cV
          have hHN := HN.out.keep hf5 (fun _ _ h => h) (fun _ h => h.elim)
          have hR : acc = R gs ss 0 := by
            have := HC.out
            rw [List.drop_eq_nil_of_le (by omega)] at this
            simpa [R] using this
          have key : ∀ v, NewI w w5 v acc → NewI w w5 v (R gs ss 0) := fun v h => hR ▸ h
          have HHN := Lib.hid (key _ hHN)
          clear hHN hf5 hR key
          go_wp2_with fail
          try rw [Exit.noGoto_ret]
          go_ret3
          exact ⟨_, rfl, HHN.out⟩
    | succ k =>
      have ek : ((k + 1 : Nat) : Int) - 1 = (k : Int) := by omega
      rw [ek]
      clear ek
      have hk0 : (0 : Int) ≤ (k : Int) := by omega
      go_wp2_with fail
      have hp : wrap64 (2 ^ gs.length) = ((2 ^ gs.length : Nat) : Int) := pow_wrap _ l2
      rw [hp]
      clear hp
      have hT := pow_le _ l2
      have HT : Hid (∃ T, T = 2 ^ gs.length) := Lib.hid ⟨_, rfl⟩
      generalize hTT : 2 ^ gs.length = T at *
      have HTT := Lib.hid hTT
      clear hTT HT
      go_loopg [32] T (fun q v32 wr => ∃ (t : Nat) (f : Nat → Int), t + q = T ∧ v32 = .int .i64 t ∧ ArrAt wr b f ∧ Done f ss gs (k + 1) ∧ (∀ x, x < t → f (k * 64 + x) = M gs (ss.drop k) x) ∧ Fr w wr No)
      case atStart => exact ⟨0, f, by omega, rfl, HA.out, HD.out, by omega, HF.out⟩
      case round =>
        obtain ⟨q1, hq1⟩ : ∃ q1 : Nat, q1 = gk := ⟨_, rfl⟩
        subst hq1
        clear HA HD HF
        obtain ⟨t, f, hq, rfl, hA, hD, hR, hf⟩ := hrel
        have HA := Lib.hid hA
        have HD := Lib.hid hD
        have HR := Lib.hid hR
        have HF := Lib.hid hf
        have HQ := Lib.hid hq
        clear hA hD hR hf hq
        by_cases hlt : t < T
        · go_upto_region 10 with (fail)
          have hm : k * 64 + t < 448 := by omega
          have hm1 : (k + 1) * 64 + t < 448 := by omega
          have c1 : wr.cell? ⟨b, (k + 1) * 64 + t, none⟩ = some (.int .i64 (f ((k + 1) * 64 + t))) := HA.out.at_ _ hm1
          have c2 := HA.out.at_ _ hm
          have c3 := HA.out.frz (k * 64 + t)
          have k1 : (k : Int) < 6 := by omega
          have k3 : (k : Int) + 1 < 7 := by omega
          have k4 : (0 : Int) ≤ (t : Int) := by omega
          have k5 : (t : Int) < 64 := by omega
          generalize f (k * 64 + t) = f0 at *
          go_region
          have HW : Hid (f ((k + 1) * 64 + t) = bst gs (ss.getD k (0, 0)) (M gs (ss.drop (k + 1))) t 0) := Lib.hid (HD.out _ (by omega) (by omega) t (by rw [HTT.out]; exact hlt))
          have HA2 := Lib.hid ((HA.out.set (k * 64 + t) (f ((k + 1) * 64 + t))).keep0 (Fr.drew _ _))
          have HD2 : Hid (Done (upd f (k * 64 + t) (f ((k + 1) * 64 + t))) ss gs (k + 1)) := Lib.hid (HD.out.upd _ (by omega))
          have HR2 : Hid (∀ x, x < t → upd f (k * 64 + t) (f ((k + 1) * 64 + t)) (k * 64 + x) = M gs (ss.drop k) x) := Lib.hid (fun x hx => by rw [upd_ne _ _ _ _ (by omega)]; exact HR.out x hx)
          have HW2 : Hid (upd f (k * 64 + t) (f ((k + 1) * 64 + t)) (k * 64 + t) = bst gs (ss.getD k (0, 0)) (M gs (ss.drop (k + 1))) t 0) := Lib.hid (by rw [upd_eq]; exact HW.out)
          have HF2 := Lib.hid ((HF.out.to_new ⟨b, k * 64 + t, none⟩ (.int .i64 (f ((k + 1) * 64 + t))) hbw).to_drew)
          clear c1 c2 c3 HW HA HD HR HF
          generalize (wr.setCell ⟨b, k * 64 + t, none⟩ (.int .i64 (f ((k + 1) * 64 + t)))).drew = w4 at *
          generalize upd f (k * 64 + t) (f ((k + 1) * 64 + t)) = f2 at *
          go_wp2_with fail
          go_loopg [47] gs.length (fun q v47 wr => ∃ (j : Nat) (f : Nat → Int), j + q = gs.length ∧ v47 = .int .i64 j ∧ ArrAt wr b f ∧ Done f ss gs (k + 1) ∧ (∀ x, x < t → f (k * 64 + x) = M gs (ss.drop k) x) ∧
            f (k * 64 + t) = bst gs (ss.getD k (0, 0)) (M gs (ss.drop (k + 1))) t j ∧ Fr w wr No)
          case atStart => exact ⟨0, f2, by omega, rfl, HA2.out, HD2.out, HR2.out, HW2.out, HF2.out⟩
          case round =>
            obtain ⟨q2, hq2⟩ : ∃ q2 : Nat, q2 = gk := ⟨_, rfl⟩
            subst hq2
            clear HA2 HD2 HR2 HF2 HW2
            obtain ⟨j, f, hq, rfl, hA, hD, hR, hW, hf⟩ := hrel
            have HA := Lib.hid hA
            have HD := Lib.hid hD
            have HR := Lib.hid hR
            have HF := Lib.hid hf
            have HW := Lib.hid hW
            have HQ2 := Lib.hid hq
            clear hA hD hR hf hq hW
            by_cases hjl : j < gs.length
            · have hbd := M_bd gs (ss.drop (k + 1)) (fun x hx => HS.out.2 x (List.mem_of_mem_drop hx)) (by simp; omega)
              have hand := and_bit t j (by omega)
              have hk6 : (k : Int) < (ss.length : Int) := by omega
              have hj6 : (j : Int) < (gs.length : Int) := by omega
              by_cases hb : t.testBit j = true
              · have HBT := Lib.hid hb
                rw [hb] at hand
                have h54 : (bits BinOp.and IntKind.i64 (↑t / 2 ^ j) 1 == 0) = false := by rw [hand]; rfl
                clear hand hb
                go_wp2_with fail
                go_roundg (q2 - 1)
                case measure => have := HQ2.out; omega
                case rel => exact ⟨j + 1, f, by have := HQ2.out; omega, by go_num, HA.out, HD.out, HR.out, by rw [HW.out, bst, if_pos HBT.out], HF.out⟩
              · have HBT : Hid (t.testBit j = false) := Lib.hid (by simpa using hb)
                have h54 : (bits BinOp.and IntKind.i64 (↑t / 2 ^ j) 1 == 0) = true := by rw [hand, if_neg hb]; rfl
                clear hand hb
                have hm64 : t ||| 2 ^ j < T := by rw [← HTT.out] at hlt ⊢; exact Nat.or_lt_two_pow hlt (Nat.pow_lt_pow_right (by decide) hjl)
                have hor : bits BinOp.or IntKind.i64 ↑t (IntKind.i64.wrap (2 ^ j)) = ((t ||| 2 ^ j : Nat) : Int) := or_bit' t j (by omega) (by omega)
                have HX1 : Hid (f ((k + 1) * 64 + (t ||| 2 ^ j)) = M gs (ss.drop (k + 1)) (t ||| 2 ^ j)) := Lib.hid (HD.out _ (by omega) (by omega) _ (by rw [HTT.out]; exact hm64))
                have hx1 := hbd (t ||| 2 ^ j)
                go_upto_region 15 with (fail)
                obtain ⟨b1, o1, rfl, s1, s2⟩ := (HU.out.keep0 HF.out).at_ k (by omega)
                obtain ⟨b2, o2, rfl, g1, g2⟩ := (HV.out.keep0 HF.out).at_ j hjl
                have c1 : wr.cell? ⟨b, (k + 1) * 64 + (t ||| 2 ^ j), none⟩ = some (.int .i64 (f ((k + 1) * 64 + (t ||| 2 ^ j)))) := HA.out.at_ _ (by omega)
                have c2 := HA.out.at_ (k * 64 + t) (by omega)
                have c3 := HA.out.frz (k * 64 + t)
                have hoS : okS (ss.getD k (0, 0)) := HS.out.2 _ (by simp [List.getD, List.getElem?_eq_getElem (show k < ss.length by omega)])
                have hoG : okS (gs.getD j (0, 0)) := HG.out.2 _ (by simp [List.getD, List.getElem?_eq_getElem hjl])
                generalize hs0 : ss.getD k (0, 0) = s0 at *
                generalize hg0 : gs.getD j (0, 0) = g0 at *
                have HS0 := Lib.hid hs0
                have HG0 := Lib.hid hg0
                clear hs0 hg0
                have hsv := sv_le (g := g0) hoS
                have hsv0 := sv_nonneg s0 g0
                rw [← HX1.out] at hx1
                generalize hM : t ||| 2 ^ j = m at *
                have HM := Lib.hid hM
                clear hM
                generalize hx0 : f ((k + 1) * 64 + m) = x1 at *
                have HX0 := Lib.hid hx0
                clear hx0
                have hw0 : Hid (f (k * 64 + t) = f (k * 64 + t)) := Lib.hid rfl
                generalize hy0 : f (k * 64 + t) = y0 at *
                have HY0 := Lib.hid hy0
                clear hy0
                have hw1 : IntKind.i64.wrap (sv s0 g0 + x1) = sv s0 g0 + x1 := IntWalk.i64_in _ (by omega)
                have hw2 : IntKind.i64.wrap ((k : Int) + 1) = (k : Int) + 1 := IntWalk.i64_in _ (by omega)
                have k1 : (0 : Int) ≤ (t : Int) := by omega
                have k2 : (t : Int) < 64 := by omega
                have k3 : (k : Int) < 7 := by omega
                have k4 : (k : Int) + 1 < 7 := by omega
                have k5 : (0 : Int) ≤ (m : Int) := by omega
                have k6 : (m : Int) < 64 := by omega
                have k7 : (0 : Int) ≤ (j : Int) := by omega
                have k8 : (0 : Int) ≤ (k : Int) + 1 := by omega
                have k9 : ((k : Int) + 1).toNat = k + 1 := by omega
                have q1 := cell_regrown s1
                have q2' := cell_regrown s2
                have q3 := cell_regrown g1
                have q4 := cell_regrown g2
                have q5 := cell_regrown c1
                have q6 := cell_regrown c2
                refine wp_region_last 29 (by kernel_rfl) (by kernel_rfl) ?_
                simp only [List.take_succ_cons, List.take_zero, List.drop_succ_cons, List.drop_zero]
                repeat (quiet_step ((go_at_call 24; exact Calls.regrown_of ((saved_any s0 g0 _ hoS.near hoG.near).mono fun e w' ⟨he, hf⟩ => ⟨he, hf.below (Nat.le_refl _) (fun _ _ h => h)⟩))))
                refine wpQuiet_nil ?_
                intro w5 hf5
                have e2 := hf5.cell c2 id
                have e3 := (HA.out.keep0 hf5).frz (k * 64 + t)
                have HF5 := Lib.hid hf5
                clear q1 q2' q3 q4 q5 q6 c1 c2 c3 s1 s2 g1 g2 hf5 hw1 hw2 hor
                go_wp2_with fail
                all_goals
                  go_roundg (q2 - 1)
                  case measure => have := HQ2.out; omega
                  case rel =>
                    refine ⟨j + 1, upd f (k * 64 + t) _, by have := HQ2.out; omega, by go_num, (HA.out.keep0 HF5.out).set _ _, HD.out.upd _ (by omega), fun x hx => by rw [upd_ne _ _ _ _ (by omega)]; exact HR.out x hx, ?_, (HF.out.nn HF5.out).to_new _ _ hbw⟩
                    rw [upd_eq, bst, if_neg (by rw [HBT.out]; exact Bool.false_ne_true), HG0.out, HM.out, ← HX1.out, ← HW.out]
                    omega
            · go_wp2_with fail
              go_roundg (q1 - 1)
              case measure => have := HQ.out; omega
              case rel =>
                refine ⟨t + 1, f, by have := HQ.out; omega, by go_num, HA.out, HD.out, fun x hx => ?_, HF.out⟩
                by_cases e : x < t
                · exact HR.out x e
                · obtain rfl : x = t := by omega
                  obtain rfl : j = gs.length := by have := HQ2.out; omega
                  rw [HW.out, drop_at ss k (by omega)]
                  rfl
        · go_wp2_with fail
          go_roundg k
          case measure => omega
          case rel => exact ⟨f, by omega, rfl, HA.out, HD.out.down (fun x hx => HR.out x (by rw [HTT.out] at hx; omega)), HF.out⟩
end Go.Proofs.Ytggogohoakbepaa
