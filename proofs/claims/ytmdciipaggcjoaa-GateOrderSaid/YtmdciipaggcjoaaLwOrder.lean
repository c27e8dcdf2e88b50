/-
  The law GateOrder, walked.
-/
import Derived.Test.YtmdciipaggcjoaaT4
namespace Go.Proofs.Ytmdciipaggcjoaa
open Go.RowKit Go.Conc
set_option linter.unusedVariables false
set_option linter.unusedSimpArgs false

/-- What was accepted, went and left, against the gate. -/
structure Ord (A G L W I : List Int) : Prop where
  a : A = G ++ W
  g : G = L ++ I
  d : W.Nodup

theorem Ord.acc {A G L W I : List Int} (h : Ord A G L W I) (id : Int) (hE : accE W I id = 0) : Ord (A ++ [id]) G L (accW W I id) I := by
  have hw : accW W I id = W ++ [id] := by unfold accW; rw [if_pos hE]
  rw [hw]
  refine ⟨by rw [h.a]; simp, h.g, ?_⟩
  have hno : id ∉ W := by
    intro hm
    unfold accE at hE
    rw [if_pos (.inl (by rw [has_mem]; simpa using hm))] at hE
    cases hE
  rw [List.nodup_append]
  refine ⟨h.d, by simp, fun a ha b hb e => ?_⟩
  simp at hb
  subst hb; subst e
  exact hno ha
theorem acc_no {W I : List Int} {id : Int} (hE : accE W I id ≠ 0) : accW W I id = W := by unfold accW; rw [if_neg hE]
theorem Ord.arr {A G L W I : List Int} (h : Ord A G L W I) (cap : Nat) (id : Int) (hE : arrE cap W I id = 0) : Ord A (G ++ [id]) L (arrW cap W I id) (arrI cap W I id) := by
  have hk : ∃ R, W = id :: R := by
    unfold arrE at hE
    split at hE
    · contradiction
    · rename_i c1
      split at hE
      · cases hE
      · have c1' : lookE W I id = 0 := by simpa using c1
        unfold lookE at c1'
        split at c1'
        · cases c1'
        · split at c1'
          · cases c1'
          · exact idx0 id W (by omega)
  obtain ⟨R, rfl⟩ := hk
  have e1 : arrW cap (id :: R) I id = R := by unfold arrW; rw [if_pos hE]; rfl
  have e2 : arrI cap (id :: R) I id = I ++ [id] := by unfold arrI; rw [if_pos hE]
  rw [e1, e2]
  exact ⟨by rw [h.a]; simp, by rw [h.g]; simp, (List.nodup_cons.1 h.d).2⟩
theorem arr_no {cap : Nat} {W I : List Int} {id : Int} (hE : arrE cap W I id ≠ 0) : arrW cap W I id = W ∧ arrI cap W I id = I := by
  unfold arrW arrI; rw [if_neg hE, if_neg hE]; exact ⟨rfl, rfl⟩
theorem Ord.lea {A G L W I : List Int} {x : Int} (h : Ord A G L W (x :: I)) : Ord A G (L ++ [x]) W I := ⟨h.a, by rw [h.g]; simp, h.d⟩
theorem nodup_idx (id : Int) (W : List Int) (hd : W.Nodup) (i : Nat) (h : idx id W = i) : ∀ j, j < W.length → (W.getD j 0 = id ↔ j = i) := by
  induction W generalizing i with
  | nil => intro j hj; simp at hj
  | cons x r ih =>
    have hd' := List.nodup_cons.1 hd
    have hge := idx_ge id r
    unfold idx at h
    split at h
    · rename_i e
      obtain rfl : i = 0 := by omega
      intro j hj
      cases j with
      | zero => simp [e]
      | succ j =>
        simp only [List.length_cons] at hj
        have hj' : j < r.length := by omega
        constructor
        · intro h2
          exfalso
          apply hd'.1
          rw [← e, ← h2]
          simp [List.getD, List.getElem?_eq_getElem hj']
        · intro h2; omega
    · rename_i e
      split at h
      · omega
      · cases i with
        | zero => omega
        | succ i =>
          intro j hj
          cases j with
          | zero => simp; exact fun h2 => e h2.symm
          | succ j =>
            have := ih hd'.2 i (by omega) j (by simpa using hj)
            simpa using this
theorem can_facts {A G L W I : List Int} (h : Ord A G L W I) (id : Int) (hE : lookE W I id = 0) : ∃ i : Nat, i < W.length ∧ canW W I id = W.eraseIdx i ∧ (∀ j, G.length ≤ j → j < A.length → (A.getD j 0 = id ↔ j = G.length + i)) ∧ G.length + i < A.length ∧ Ord (A.take (G.length + i) ++ A.drop (G.length + i + 1)) G L (W.eraseIdx i) I := by
  have h1 : ¬ idx id W < 0 := by
    unfold lookE at hE
    split at hE
    · cases hE
    · split at hE
      · cases hE
      · assumption
  have h2 := idx_lt id W
  obtain ⟨i, hi⟩ : ∃ i : Nat, idx id W = i := ⟨(idx id W).toNat, by omega⟩
  have hlt : i < W.length := by omega
  refine ⟨i, hlt, ?_, ?_, by rw [h.a]; simp; omega, ?_, h.g, ?_⟩
  · unfold canW; rw [if_pos hE, hi]; simp
  · intro j hj hj2
    have := nodup_idx id W h.d i hi (j - G.length) (by rw [h.a] at hj2; simp at hj2; omega)
    have e : A.getD j 0 = W.getD (j - G.length) 0 := by
      rw [h.a]; simp only [List.getD]; rw [List.getElem?_append_right hj]
    rw [e, this]
    omega
  · rw [h.a, List.take_append, List.drop_append, List.take_of_length_le (by omega), List.drop_eq_nil_of_le (by omega), show G.length + i - G.length = i by omega, show G.length + i + 1 - G.length = i + 1 by omega, List.eraseIdx_eq_take_drop_succ]
    simp
  · exact List.Nodup.sublist (List.eraseIdx_sublist _ _) h.d
theorem can_no {W I : List Int} {id : Int} (hE : lookE W I id ≠ 0) : canW W I id = W := by unfold canW; rw [if_neg hE]

theorem slv_two {w : World} {v : Value} {zs : List Int} (h : SlI w v zs) : (v = .slice none 0 0 ∧ zs = []) ∨ ∃ g off c, v = .slice (some ⟨g, off, none⟩) zs.length c ∧ zs.length ≤ c := by
  obtain ⟨hl, ⟨rfl, h0⟩ | ⟨g, off, cap, cur, rfl, _, hn, _⟩⟩ := h
  · exact .inl ⟨rfl, List.eq_nil_of_length_eq_zero h0⟩
  · exact .inr ⟨g, off, cap, rfl, hn⟩
/-- The first k of a slice. -/
theorem pre_facts {w : World} {g off n c : Nat} {A : List Int} (h : SlI w (.slice (some ⟨g, off, none⟩) n c) A) (hl : A.length ≤ 1000) (k : Nat) (hk : k ≤ A.length) : RdI w (.slice (some ⟨g, off, none⟩) k c) (A.take k) :=
  SlI.rdn h k c hk (by omega) (.inr (by simp))
theorem cell_1 {w : World} {g : Nat} {a b : Value} {t : TypeId} {fr : Nat × Nat} (h : w.heap[g]? = some (.cells #[a, b] t fr)) : w.cell? ⟨g, 1, none⟩ = some b := blk_cell h 1

set_option maxRecDepth 100000 in
set_option maxHeartbeats 16000000 in
theorem gateOrder_all (w : World) (x : Int) (hx : (Lit.int .i64 x).wf = true) (v : Value) (n : Nat) (fl : List Int) (hv : Rd w v n (fl.map (Value.int .i64)) 2) (hn : n ≤ 8796093022207) :
    Calls Try.prog 4 #[.int .i64 x, v] w fun e w' => e = .returned (.bool true) ∧ Fr w w' No := by
  obtain ⟨cap, h1, h16, hd⟩ := umod1 x 16 (by decide) (by decide)
  have h16' : cap ≤ 16 := by omega
  obtain ⟨a, c, rfl⟩ : ∃ a c, v = .slice a n c := by obtain ⟨_, a, c, h, _⟩ := hv; exact ⟨a, c, h⟩
  have HV := Lib.hid hv
  clear hx hv
  go_enter Try.func4, Try.ntmps4
  go_wp2_with fail
  refine (awake_any _).mono ?_
  rintro e w1 ⟨rfl, hf1⟩
  have HF := Lib.hid hf1
  clear hf1
  go_wp2_with fail
  rw [hd]
  clear hd
  refine (new_g w cap _ HF.out h1 h16').mono ?_
  rintro e w2 ⟨rfl, hG⟩
  generalize w1.heap.size + 1 = p at *
  have HG := Lib.hid hG.is3
  clear hG HF
  go_wp2_with fail
  go_loopg [7, 8, 9, 10] 250 (fun g v7 v8 v9 v10 wr => ∃ (k : Nat) (A G L W I : List Int), k + g = 250 ∧ k ≤ n ∧ v10 = .int .i64 k ∧ Is3 w wr p cap W I v7 A v8 G v9 L ∧ Ord A G L W I ∧ A.length ≤ k)
  case atStart => exact ⟨0, [], [], [], [], [], by omega, by omega, rfl, HG.out, ⟨rfl, rfl, List.nodup_nil⟩, by simp⟩
  case round =>
    clear HG
    obtain ⟨k, A, G, L, W, I, hk, hkn, rfl, hG, hO, hAl⟩ := hrel
    have HG := Lib.hid hG
    have HK := Lib.hid hk
    have HO := Lib.hid hO
    have HAL := Lib.hid hAl
    clear hG hk hO hAl
    obtain ⟨gq, hgq⟩ : ∃ q : Nat, q = gk := ⟨_, rfl⟩
    subst hgq
    by_cases hlt : k < n ∧ k < 250
    · obtain ⟨hlt, hlt50⟩ := hlt
      obtain ⟨b, off, rfl, hcell⟩ := Rd.get (HV.out.keep0 HG.out.fr) k hlt
      have hk0 := hcell 0 (by decide)
      simp only [Nat.add_zero] at hk0
      have hk1 := hcell 1 (by decide)
      generalize fl.getD (k * 2) 0 = K at *
      generalize fl.getD (k * 2 + 1) 0 = t at *
      clear hcell
      have hcase : (K == 1) = true ∨ ((K == 1) = false ∧ (K == 2) = true) ∨ ((K == 1) = false ∧ (K == 2) = false ∧ (K == 3) = true) ∨ ((K == 1) = false ∧ (K == 2) = false ∧ (K == 3) = false ∧ (K == 4) = true) ∨ ((K == 1) = false ∧ (K == 2) = false ∧ (K == 3) = false ∧ (K == 4) = false) := by
        by_cases a1 : K = 1 <;> by_cases a2 : K = 2 <;> by_cases a3 : K = 3 <;> by_cases a4 : K = 4 <;> simp [a1, a2, a3, a4]
      have HG4 := Lib.hid (HG.out.entry (.cells #[.int .i64 K, .int .i64 t] 37))
      go_upto_block 2 with (fail)
      generalize hw4 : wr.alloc (.cells #[.int .i64 K, .int .i64 t] 37) = w4 at *
      generalize wr.heap.size = bo at *
      have ko1 : w4.cell? ⟨bo, 1, none⟩ = some (.int .i64 t) := blk_cell HG4.out.blk 1
      have HLT := Lib.hid (And.intro hlt hlt50)
      clear hk0 hk1 hw4 HG hlt hlt50
      go_cut [7, 8, 9, 12, 13, 14, 15] from 34 to 121 (fun v7 v8 v9 v12 v13 v14 v15 wx => ∃ (A' G' L' W' I' : List Int), Is3 w wx p cap W' I' v7 A' v8 G' v9 L' ∧ Ord A' G' L' W' I' ∧ A'.length ≤ k + 1)
      case first =>
        rcases hcase with c1 | ⟨c1, c2⟩ | ⟨c1, c2, c3⟩ | ⟨c1, c2, c3, c4⟩ | ⟨c1, c2, c3, c4⟩
        · by_cases hE : accE W I t = 0
          · have HO2 := Lib.hid (HO.out.acc t hE)
            have HE := Lib.hid hE
            have hW : accW W I t = W ++ [t] := by unfold accW; rw [if_pos hE]
            clear hE
            go_wp2_with fail
            refine (accept_4 t 0 _ HG4.out HE.out rfl).mono ?_
            rintro e w5 ⟨rfl, hG⟩
            have HG5 := Lib.hid hG.is3
            have ko5 : w5.cell? ⟨bo, 1, none⟩ = some (.int .i64 t) := blk_cell hG.blk 1
            have ha := hG.is3.n1.1
            obtain ⟨a7, c7, hv7⟩ := slv_form ha
            subst hv7
            have HA := Lib.hid ha
            clear hG ha HG4 ko1
            go_wp2_with (at_builtin; refine wpList_appI rfl (.tmp 57) (.tmp 60) rfl _ A rfl ?d1 w5.heap.size t rfl ?d2 ?d3 ?_)
            case d1 => exact Sl.keep0 HA.out (Fr.alloc _ _ _)
            case d2 => exact blk_new w5 _
            case d3 => have := HAL.out; have := HLT.out; omega
            intro v' w6 q1 q2 q3
            have HG6 := Lib.hid (HG5.out.ap1 (Ap.of (Fr.alloc w5 (.cells #[.int .i64 t] 3) No) q1 q2 (by simpa using q3)))
            clear q1 q2 q3 HA HG5 ko5
            go_wp2_with fail
            go_meet
            case rel => exact ⟨_, _, _, _, _, HG6.out, HO2.out, by have := HAL.out; simp; omega⟩
          · have hb : (accE W I t == 0) = false := by simpa using hE
            have HW := Lib.hid (acc_no hE)
            clear hE
            go_wp2_with fail
            refine (accept_4 t _ _ HG4.out rfl HW.out).mono ?_
            rintro e w5 ⟨rfl, hG⟩
            have HG5 := Lib.hid hG.is3
            clear hG HG4 ko1
            go_wp2_with fail
            go_meet
            case rel => exact ⟨_, _, _, _, _, HG5.out, HO.out, by have := HAL.out; omega⟩
        · by_cases hE : lookE W I t = 0
          · obtain ⟨i, hi, hcw, huni, hql, hO2⟩ := can_facts HO.out t hE
            have HO2 := Lib.hid hO2
            have HE := Lib.hid hE
            have HCW := Lib.hid hcw
            have HU := Lib.hid huni
            clear hO2 hE hcw huni hi
            obtain ⟨q, hq⟩ : ∃ q, G.length + i = q := ⟨_, rfl⟩
            rw [hq] at HO2 HU hql
            have hGq : G.length ≤ q := by omega
            have HGQ := Lib.hid hGq
            have HQL := Lib.hid hql
            clear hq hGq hql
            go_wp2_with fail
            refine (cancel_4 t 0 _ HG4.out HE.out HCW.out).mono ?_
            rintro e w5 ⟨rfl, hG⟩
            have HG5 := Lib.hid hG
            obtain ⟨a7, c7, hv7⟩ := slv_form hG.is3.n1.1
            subst hv7
            obtain ⟨a8, c8, hv8⟩ := slv_form hG.is3.n2.1
            subst hv8
            clear hG HG4 ko1
            go_wp2_with fail
            go_loopg [12, 13] (A.length + 1 - G.length) (fun g v12 v13 wq => ∃ (j : Nat), j + g = A.length + 1 ∧ G.length ≤ j ∧ j ≤ A.length ∧ v13 = .int .i64 j ∧ v12 = .int .i64 (if q < j then (q : Int) else -1) ∧ Is4 w wq p cap (W.eraseIdx i) I (.slice a7 A.length c7) A (.slice a8 G.length c8) G u9 L bo (.cells #[.int .i64 K, .int .i64 t] 37))
            case atStart => exact ⟨G.length, by have := HGQ.out; have := HQL.out; omega, by omega, by have := HGQ.out; have := HQL.out; omega, rfl, by rw [if_neg (by have := HGQ.out; omega)], HG5.out⟩
            case round =>
              clear HG5
              obtain ⟨j, hj, hj1, hj2, rfl, rfl, hG⟩ := hrel
              have HG5 := Lib.hid hG
              have HJ := Lib.hid hj
              have HJ1 := Lib.hid hj1
              clear hG hj hj1
              by_cases hja : j < A.length
              · have hAl := HAL.out
                have hlt2 := HLT.out
                obtain ⟨b7, o7, hb7, hc7⟩ := (SlI.rd HG5.out.is3.n1.1 (by omega)).get j hja
                subst hb7
                have ko5 := cell_1 HG5.out.blk
                have hu := HU.out j HJ1.out hja
                obtain ⟨z, hz⟩ : ∃ z, A.getD j 0 = z := ⟨_, rfl⟩
                rw [hz] at hc7 hu
                have hj9 : j < 1000 := by omega
                clear hz hAl hlt2
                have HJA := Lib.hid hja
                by_cases hzt : z = t
                · have hjq := hu.1 hzt
                  subst hzt
                  clear hu
                  subst hjq
                  go_wp2_with fail
                  go_quiet (fail)
                  have HG6 := Lib.hid (HG5.out.same (Fr.drewN _ nq No))
                  clear ko5 hc7 HG5
                  go_wp2_with fail
                  have hif : (if j < j + 1 then (j : Int) else -1) = j := by rw [if_pos (by omega)]
                  go_roundg (gk - 1)
                  case measure => have := HJ.out; have := HJA.out; omega
                  case rel => exact ⟨j + 1, by have := HJ.out; have := HJA.out; omega, by have := HJ1.out; omega, by have := HJA.out; omega, by go_num, by rw [hif], HG6.out⟩
                · have hjq : ¬ j = q := fun h => hzt (hu.2 h)
                  have hb : (z == t) = false := by simpa using hzt
                  have hif : (if q < j + 1 then (q : Int) else -1) = (if q < j then (q : Int) else -1) := by split <;> split <;> omega
                  have HIF := Lib.hid hif
                  clear hu hzt hif hjq
                  generalize (if q < j then (q : Int) else -1) = at_ at *
                  go_wp2_with fail
                  go_quiet (fail)
                  have HG6 := Lib.hid (HG5.out.same (Fr.drewN _ nq No))
                  clear ko5 hc7 HG5
                  go_wp2_with fail
                  go_roundg (gk - 1)
                  case measure => have := HJ.out; have := HJA.out; omega
                  case rel => exact ⟨j + 1, by have := HJ.out; have := HJA.out; omega, by have := HJ1.out; omega, by have := HJA.out; omega, by go_num, by rw [HIF.out], HG6.out⟩
              · have e : (if q < j then (q : Int) else -1) = q := if_pos (by have := HQL.out; omega)
                rw [e]
                clear e
                have hql := HQL.out
                have hal : A.length ≤ 1000 := by have := HAL.out; have := HLT.out; omega
                obtain ⟨nA, hnA⟩ : ∃ nA, A.length = nA := ⟨_, rfl⟩
                have HNA := Lib.hid hnA
                have HLN : Hid (A.length = nA) := HNA
                rw [hnA] at HG5 hql ⊢
                have hsl := HG5.out.is3.n1.1
                obtain ⟨g7, o7, e7⟩ : ∃ g7 o7, a7 = some ⟨g7, o7, none⟩ := by
                  obtain ⟨hl, ⟨hv, h0⟩ | ⟨g, off, cap, cur, hv, _⟩⟩ := hsl
                  · cases hv; simp at hql
                  · cases hv; exact ⟨_, _, rfl⟩
                subst e7
                obtain ⟨_, hcc, hp1, hp2, hp3⟩ := part_facts hsl hal q hql
                have HP1 := Lib.hid hp1
                have HP2' := Lib.hid hp2
                have HP3 := Lib.hid hp3
                have f1 : (0 : Int) ≤ (q : Int) := by omega
                have f2 : (q : Int) ≤ (c7 : Int) := by omega
                have f3 : q ≤ c7 := by omega
                have f4 : (0 : Int) ≤ (q : Int) + 1 := by omega
                have f5 : (q : Int) + 1 ≤ (nA : Int) := by omega
                have f6 : ¬ c7 = 0 := by omega
                have f7 : q < 1000 := by omega
                have f11 : IntKind.i64.wrap ((q : Int) + 1) = (q : Int) + 1 := IntWalk.i64_in _ (by omega)
                have hzt : (wr.heap.size) = wr.heap.size := rfl
                clear hp1 hp2 hp3 hsl hnA hzt
                by_cases hc1 : c7 = q + 1
                · obtain rfl : nA = q + 1 := by omega
                  subst hc1
                  have hdr : A.drop (q + 1) = [] := List.drop_eq_nil_of_le (by have := HNA.out; omega)
                  have f8 : (q : Int) ≤ (q : Int) + 1 := by omega
                  have f9 : q < q + 1 := by omega
                  have f10 : 0 < q + 1 := by omega
                  have HP2 := HP3
                  have HDR := Lib.hid hdr
                  clear hdr
                  go_upto_region 26 with (fail)
                  go_region_held3 (fun w' => Fr wr w' No)
                    ((first
                      | exact Fr.drew wr No
                      | exact Fr.into (by assumption) r2 (fun i e => by
                          rcases q3 with h | h
                          · rw [h] at e; simp [Value.ownBlock] at e; omega
                          · rw [h] at e; simp at e; omega)
                      | exact Fr.into (by assumption) q2 (fun i e => by simp [Value.ownBlock] at e; omega)
                      | exact Fr.to_alloc (by assumption) _))
                    (first
                      | (refine step_appS (by rfl) _ _ (by rfl) _ [] (by rfl) (Sl.made (blk_new _ _) rfl (by decide)) _ (A.take q) (by rfl) (HP1.out.keep0 (Fr.to_alloc (Fr.drew wr No) _)) (by simp; omega) ?_; intro v1 w1 q1 q2 q3)
                      | (refine step_appS (by rfl) _ _ (by rfl) v1 (A.take q) (by rfl) (by simpa using q1) _ [] (by rfl) (HP2.out.keep0 (by assumption)) (by simp; omega) ?_; intro v2 w2 r1 r2 r3))
                  have hfr : Fr wr w2 No := by assumption
                  have hN : NewI wr w2 v2 (A.take q ++ A.drop (q + 1)) := ⟨by rw [HDR.out]; exact r1, hfr, fun i e => by
                    rcases r3 with h | h
                    · rw [h] at e
                      rcases q3 with h' | h'
                      · rw [h'] at e; simp [Value.ownBlock] at e; omega
                      · rw [h'] at e; simp at e; omega
                    · rw [h] at e
                      have : w1.heap.size = i := by simpa using e
                      have h5 := q2.size
                      simp at h5
                      omega⟩
                  have HG6 := Lib.hid (HG5.out.is3.new1 hN)
                  clear hN hfr r1 r2 r3 q1 q2 q3
                  go_wp2_with fail
                  go_meet
                  case rel => exact ⟨_, _, _, _, _, HG6.out, HO2.out, by have := HAL.out; have := HLN.out; simp; omega⟩
                · have HP2 := HP2'
                  go_upto_region 26 with (fail)
                  go_region_held3 (fun w' => Fr wr w' No)
                    ((first
                      | exact Fr.drew wr No
                      | exact Fr.into (by assumption) r2 (fun i e => by
                          rcases q3 with h | h
                          · rw [h] at e; simp [Value.ownBlock] at e; omega
                          · rw [h] at e; simp at e; omega)
                      | exact Fr.into (by assumption) q2 (fun i e => by simp [Value.ownBlock] at e; omega)
                      | exact Fr.to_alloc (by assumption) _))
                    (first
                      | (refine step_appS (by rfl) _ _ (by rfl) _ [] (by rfl) (Sl.made (blk_new _ _) rfl (by decide)) _ (A.take q) (by rfl) (HP1.out.keep0 (Fr.to_alloc (Fr.drew wr No) _)) (by simp; omega) ?_; intro v1 w1 q1 q2 q3)
                      | (refine step_appS (by rfl) _ _ (by rfl) v1 (A.take q) (by rfl) (by simpa using q1) _ (A.drop (q + 1)) (by rfl) (HP2.out.keep0 (by assumption)) (by simp; omega) ?_; intro v2 w2 r1 r2 r3))
                  have hfr : Fr wr w2 No := by assumption
                  have hN : NewI wr w2 v2 (A.take q ++ A.drop (q + 1)) := ⟨r1, hfr, fun i e => by
                    rcases r3 with h | h
                    · rw [h] at e
                      rcases q3 with h' | h'
                      · rw [h'] at e; simp [Value.ownBlock] at e; omega
                      · rw [h'] at e; simp at e; omega
                    · rw [h] at e
                      have : w1.heap.size = i := by simpa using e
                      have h5 := q2.size
                      simp at h5
                      omega⟩
                  have HG6 := Lib.hid (HG5.out.is3.new1 hN)
                  clear hN hfr r1 r2 r3 q1 q2 q3
                  go_wp2_with fail
                  go_meet
                  case rel => exact ⟨_, _, _, _, _, HG6.out, HO2.out, by have := HAL.out; have := HLN.out; simp; omega⟩
          · have hb : (lookE W I t == 0) = false := by simpa using hE
            have HW := Lib.hid (can_no hE)
            clear hE
            go_wp2_with fail
            refine (cancel_4 t _ _ HG4.out rfl HW.out).mono ?_
            rintro e w5 ⟨rfl, hG⟩
            have HG5 := Lib.hid hG.is3
            clear hG HG4 ko1
            go_wp2_with fail
            go_meet
            case rel => exact ⟨_, _, _, _, _, HG5.out, HO.out, by have := HAL.out; omega⟩
        · by_cases hE : arrE cap W I t = 0
          · have HO2 := Lib.hid (HO.out.arr cap t hE)
            have HE := Lib.hid hE
            clear hE
            go_wp2_with fail
            refine (arrive_4 t 0 _ _ HG4.out HE.out rfl rfl).mono ?_
            rintro e w5 ⟨rfl, hG⟩
            have HG5 := Lib.hid hG.is3
            have ko5 : w5.cell? ⟨bo, 1, none⟩ = some (.int .i64 t) := blk_cell hG.blk 1
            have ha := hG.is3.n2.1
            obtain ⟨a8, c8, hv8⟩ := slv_form ha
            subst hv8
            have HA := Lib.hid ha
            clear hG ha HG4 ko1
            go_wp2_with (at_builtin; refine wpList_appI rfl (.tmp 104) (.tmp 107) rfl _ G rfl ?d1 w5.heap.size t rfl ?d2 ?d3 ?_)
            case d1 => exact Sl.keep0 HA.out (Fr.alloc _ _ _)
            case d2 => exact blk_new w5 _
            case d3 =>
              have h1 := HAL.out
              have h2 := HLT.out
              have h3 := congrArg List.length HO.out.a
              simp only [List.length_append] at h3
              omega
            intro v' w6 q1 q2 q3
            have HG6 := Lib.hid (HG5.out.ap2 (Ap.of (Fr.alloc w5 (.cells #[.int .i64 t] 3) No) q1 q2 (by simpa using q3)))
            clear q1 q2 q3 HA HG5 ko5
            go_wp2_with fail
            go_meet
            case rel => exact ⟨_, _, _, _, _, HG6.out, HO2.out, by have := HAL.out; omega⟩
          · have hb : (arrE cap W I t == 0) = false := by simpa using hE
            have HW := Lib.hid (arr_no hE)
            clear hE
            go_wp2_with fail
            refine (arrive_4 t _ _ _ HG4.out rfl HW.out.1 HW.out.2).mono ?_
            rintro e w5 ⟨rfl, hG⟩
            have HG5 := Lib.hid hG.is3
            clear hG HG4 ko1
            go_wp2_with fail
            go_meet
            case rel => exact ⟨_, _, _, _, _, HG5.out, HO.out, by have := HAL.out; omega⟩
        · cases I with
          | nil =>
            go_wp2_with fail
            refine (leave_3 0 4 [] HG4.out.is3 rfl rfl rfl).mono ?_
            rintro e w5 ⟨rfl, hG⟩
            have HG5 := Lib.hid hG
            clear hG HG4 ko1
            go_wp2_with fail
            go_meet
            case rel => exact ⟨_, _, _, _, _, HG5.out, HO.out, by have := HAL.out; omega⟩
          | cons y I =>
            have HO2 := Lib.hid HO.out.lea
            go_wp2_with fail
            refine (leave_3 y 0 I HG4.out.is3 rfl rfl rfl).mono ?_
            rintro e w5 ⟨rfl, hG⟩
            have HG5 := Lib.hid hG
            have ha := hG.n3.1
            obtain ⟨a9, c9, hv9⟩ := slv_form ha
            subst hv9
            have HA := Lib.hid ha
            clear hG ha HG4 ko1
            go_wp2_with (at_builtin; refine wpList_appI rfl (.tmp 118) (.tmp 120) rfl _ L rfl ?d1 w5.heap.size y rfl ?d2 ?d3 ?_)
            case d1 => exact Sl.keep0 HA.out (Fr.alloc _ _ _)
            case d2 => exact blk_new w5 _
            case d3 =>
              have h1 := HAL.out
              have h2 := HLT.out
              have h3 := congrArg List.length HO.out.a
              have h4 := congrArg List.length HO.out.g
              simp only [List.length_append] at h3 h4
              omega
            intro v' w6 q1 q2 q3
            have HG6 := Lib.hid (HG5.out.ap3 (Ap.of (Fr.alloc w5 (.cells #[.int .i64 y] 3) No) q1 q2 (by simpa using q3)))
            clear q1 q2 q3 HA HG5
            go_wp2_with fail
            go_meet
            case rel => exact ⟨_, _, _, _, _, HG6.out, HO2.out, by have := HAL.out; omega⟩
        · go_wp2_with fail
          have HG5 := Lib.hid HG4.out.is3
          go_meet
          case rel => exact ⟨_, _, _, _, _, HG5.out, HO.out, by have := HAL.out; omega⟩
      case rest =>
        clear HG4 ko1 HO HAL hcase
        obtain ⟨A, G, L, W, I, hG, hO, hAl⟩ := hcut
        have HG := Lib.hid hG
        have HO := Lib.hid hO
        have HAL := Lib.hid hAl
        have l1 := congrArg List.length hO.a
        have l2 := congrArg List.length hO.g
        simp only [List.length_append] at l1 l2
        have l3 := hG.le
        have l4 : A.length ≤ 1000 := by have := HLT.out; omega
        have n1 := hG.n1.1
        have n2 := hG.n2.1
        have n3 := hG.n3.1
        obtain ⟨a9, c9, hv9⟩ := slv_form n3
        subst hv9
        have tG : A.take G.length = G := by rw [hO.a]; simp
        have tL : G.take L.length = L := by rw [hO.g]; simp
        clear hG hO hAl
        have q1 : ¬ (A.length : Int) < (G.length : Int) := by omega
        have q2 : ¬ (G.length : Int) < (L.length : Int) := by omega
        have q3 : ¬ (cap : Int) < (G.length : Int) - (L.length : Int) := by omega
        have q4 : (0 : Int) ≤ (G.length : Int) := by omega
        have q5 : (0 : Int) ≤ (L.length : Int) := by omega
        rcases slv_two n1 with ⟨hv7, hA⟩ | ⟨g7, o7, c7, hv7, hc7⟩
        · subst hv7
          have hG0 : G = [] := List.eq_nil_of_length_eq_zero (by rw [hA] at l1; simp at l1; omega)
          have hL0 : L = [] := List.eq_nil_of_length_eq_zero (by rw [hG0] at l2; simp at l2; omega)
          subst hA; subst hG0; subst hL0
          simp only [List.length_nil] at q1 q2 q3 q4 q5 n1 n2 n3
          have N3 := Lib.hid n3
          rcases slv_two n2 with ⟨hv8, _⟩ | ⟨g8, o8, c8, hv8, hc8⟩
          · subst hv8
            clear n1 n2 n3 tG tL l1 l2 q1 q2 q3 q4 q5
            have q3 : ¬ (cap : Int) < 0 := by omega
            go_wp2_with fail
            refine (ints_true _ _ [] _ (SlI.rd (Sl.nil _ _ _) (by simp)) (SlI.rd (Sl.nil _ _ _) (by simp))).mono ?_
            rintro e w5 ⟨rfl, hf5⟩
            have HG5 := Lib.hid (HG.out.same hf5)
            have HF5 := Lib.hid hf5
            clear hf5 HG
            go_wp2_with fail
            refine (ints_true _ _ [] _ (SlI.rd (Sl.keep0 N3.out HF5.out) (by simp)) (SlI.rd (Sl.nil _ _ _) (by simp))).mono ?_
            rintro e w6 ⟨rfl, hf6⟩
            have HG6 := Lib.hid (HG5.out.same hf6)
            clear hf6 HG5 HF5
            go_wp2_with fail
            go_roundg (gq - 1)
            case measure => have := HK.out; have := HLT.out; omega
            case rel => exact ⟨k + 1, _, _, _, _, _, by have := HK.out; have := HLT.out; omega, by have := HLT.out; omega, by go_num, HG6.out, HO.out, HAL.out⟩
          · subst hv8
            have rL := pre_facts n2 (by simp) 0 (by simp)
            simp only [List.take_nil, List.length_nil] at rL
            have RL := Lib.hid rL
            have N2 := Lib.hid n2
            simp only [List.length_nil] at N2
            clear n1 n2 n3 tG tL l1 l2 q1 q2 q3 q4 q5 rL
            have q3 : ¬ (cap : Int) < 0 := by omega
            have m3 : (0 : Int) ≤ (c8 : Int) := by omega
            go_wp2_with fail
            refine (ints_true _ _ [] _ (SlI.rd N2.out (by simp)) (SlI.rd (Sl.nil _ _ _) (by simp))).mono ?_
            rintro e w5 ⟨rfl, hf5⟩
            have HG5 := Lib.hid (HG.out.same hf5)
            have HF5 := Lib.hid hf5
            clear hf5 HG
            go_wp2_with fail
            refine (ints_true _ _ [] _ (SlI.rd (Sl.keep0 N3.out HF5.out) (by simp)) (RL.out.keep0 HF5.out)).mono ?_
            rintro e w6 ⟨rfl, hf6⟩
            have HG6 := Lib.hid (HG5.out.same hf6)
            clear hf6 HG5 HF5
            go_wp2_with fail
            go_roundg (gq - 1)
            case measure => have := HK.out; have := HLT.out; omega
            case rel => exact ⟨k + 1, _, _, _, _, _, by have := HK.out; have := HLT.out; omega, by have := HLT.out; omega, by go_num, HG6.out, HO.out, HAL.out⟩
        · subst hv7
          have rG := pre_facts n1 l4 G.length (by omega)
          rw [tG] at rG
          have RG := Lib.hid rG
          have N2 := Lib.hid n2
          have N3 := Lib.hid n3
          have m1 : (G.length : Int) ≤ (c7 : Int) := by omega
          have m2 : G.length ≤ c7 := by omega
          rcases slv_two n2 with ⟨hv8, hG⟩ | ⟨g8, o8, c8, hv8, hc8⟩
          · subst hv8
            subst hG
            have hL0 : L = [] := List.eq_nil_of_length_eq_zero (by simp at l2; omega)
            subst hL0
            simp only [List.length_nil] at q1 q2 q3 q4 q5 RG N3 m1 m2
            clear n1 n2 n3 rG tG tL l1 l2 q1 q2 q3 q4 q5
            have q1 : ¬ (A.length : Int) < 0 := by omega
            have q3 : ¬ (cap : Int) < 0 := by omega
            go_wp2_with fail
            refine (ints_true _ _ [] _ (SlI.rd (Sl.nil _ _ _) (by simp)) RG.out).mono ?_
            rintro e w5 ⟨rfl, hf5⟩
            have HG5 := Lib.hid (HG.out.same hf5)
            have HF5 := Lib.hid hf5
            clear hf5 HG
            go_wp2_with fail
            refine (ints_true _ _ [] _ (SlI.rd (Sl.keep0 N3.out HF5.out) (by simp)) (SlI.rd (Sl.nil _ _ _) (by simp))).mono ?_
            rintro e w6 ⟨rfl, hf6⟩
            have HG6 := Lib.hid (HG5.out.same hf6)
            clear hf6 HG5 HF5
            go_wp2_with fail
            go_roundg (gq - 1)
            case measure => have := HK.out; have := HLT.out; omega
            case rel => exact ⟨k + 1, _, _, _, _, _, by have := HK.out; have := HLT.out; omega, by have := HLT.out; omega, by go_num, HG6.out, HO.out, HAL.out⟩
          · subst hv8
            have rL := pre_facts n2 (by omega) L.length (by omega)
            rw [tL] at rL
            have RL := Lib.hid rL
            have m3 : (L.length : Int) ≤ (c8 : Int) := by omega
            have m4 : L.length ≤ c8 := by omega
            have m5 : G.length ≤ 1000 := by omega
            have m6 : L.length ≤ 1000 := by omega
            clear n1 n2 n3 rG rL tG tL l1 l2
            go_wp2_with fail
            refine (ints_true _ _ G _ (SlI.rd N2.out (by omega)) RG.out).mono ?_
            rintro e w5 ⟨rfl, hf5⟩
            have HG5 := Lib.hid (HG.out.same hf5)
            have HF5 := Lib.hid hf5
            clear hf5 HG
            go_wp2_with fail
            refine (ints_true _ _ L _ (SlI.rd (Sl.keep0 N3.out HF5.out) (by omega)) (RL.out.keep0 HF5.out)).mono ?_
            rintro e w6 ⟨rfl, hf6⟩
            have HG6 := Lib.hid (HG5.out.same hf6)
            clear hf6 HG5 HF5
            go_wp2_with fail
            go_roundg (gq - 1)
            case measure => have := HK.out; have := HLT.out; omega
            case rel => exact ⟨k + 1, _, _, _, _, _, by have := HK.out; have := HLT.out; omega, by have := HLT.out; omega, by go_num, HG6.out, HO.out, HAL.out⟩
    · have hcase : (¬ (k : Int) < (n : Int)) ∨ ((k : Int) < (n : Int) ∧ ¬ (k : Int) < 250) := by omega
      clear hlt
      rcases hcase with hlt | ⟨hlt, hlt2⟩
      all_goals
        go_wp2_with fail
        go_ret
        exact ⟨rfl, HG.out.fr⟩
end Go.Proofs.Ytmdciipaggcjoaa
