/-
  Package gate: Accept, look, Leave, Arrive.
-/
import Derived.Test.YtmdciipaggcjoaaGt
namespace Go.Proofs.Ytmdciipaggcjoaa
open Go.RowKit Go.Conc
set_option linter.unusedVariables false
set_option linter.unusedSimpArgs false

/-! ### Accept -/
def accE (W I : List Int) (id : Int) : Int := if has id W = true ∨ has id I = true then 2 else if 64 ≤ W.length + I.length then 5 else 0
def accW (W I : List Int) (id : Int) : List Int := if accE W I id = 0 then W ++ [id] else W

theorem slv_form {w : World} {v : Value} {zs : List Int} (h : SlI w v zs) : ∃ a c, v = .slice a zs.length c := by
  obtain ⟨a, c, h, _⟩ := SlI.form h; exact ⟨a, c, h⟩

set_option maxHeartbeats 1000000 in
theorem accept_any (p : Nat) (S : Nat → Prop) (cap : Nat) (W I : List Int) (id : Int) (w : World) (hG : GAt w p S cap W I) :
    Calls Try.prog 11 #[.pointer (some ⟨p, 0, none⟩), .int .i64 id] w fun e w' => e = .returned (.int .i64 (accE W I id)) ∧ GTo w w' p S cap (accW W I id) I := by
  have HG := Lib.hid hG
  obtain ⟨c, vw, vo, hP, hS, _⟩ := hG
  have HS := Lib.hid hS
  clear hS
  have h0 := hP.c0
  have h2 := hP.c2
  have hle := hP.le
  obtain ⟨aw, cw, rfl⟩ := slv_form hP.sw
  obtain ⟨ao, co, rfl⟩ := slv_form hP.so
  have HP := Lib.hid hP
  clear hP
  cases hb : has id W with
  | true =>
    have e1 : accE W I id = 2 := by unfold accE; rw [if_pos (.inl hb)]
    have e2 : accW W I id = W := by unfold accW; rw [e1]; rfl
    rw [e1, e2]
    clear e1 e2
    have HB := Lib.hid hb
    clear hb
    go_enter Try.func11, Try.ntmps11
    go_wp2_with fail
    refine (contains_any _ W id _ (SlI.rd HP.out.sw (by omega))).mono ?_
    rw [HB.out]
    rintro e w' ⟨rfl, rfl⟩
    go_wp2_with fail
    go_ret
    exact ⟨rfl, HG.out.to_same (Fr.refl _ _)⟩
  | false =>
    have HB := Lib.hid hb
    cases hb2 : has id I with
    | true =>
      have e1 : accE W I id = 2 := by unfold accE; rw [if_pos (.inr hb2)]
      have e2 : accW W I id = W := by unfold accW; rw [e1]; rfl
      rw [e1, e2]
      clear e1 e2
      have HB2 := Lib.hid hb2
      clear hb hb2
      go_enter Try.func11, Try.ntmps11
      go_wp2_with fail
      refine (contains_any _ W id _ (SlI.rd HP.out.sw (by omega))).mono ?_
      rw [HB.out]
      rintro e w' ⟨rfl, rfl⟩
      go_wp2_with fail
      refine (contains_any _ I id _ (SlI.rd HP.out.so (by omega))).mono ?_
      rw [HB2.out]
      rintro e w' ⟨rfl, rfl⟩
      go_wp2_with fail
      go_ret
      exact ⟨rfl, HG.out.to_same (Fr.refl _ _)⟩
    | false =>
      have HB2 := Lib.hid hb2
      by_cases hc : 64 ≤ W.length + I.length
      · have e1 : accE W I id = 5 := by unfold accE; rw [if_neg (by rw [hb, hb2]; simp), if_pos hc]
        have e2 : accW W I id = W := by unfold accW; rw [e1]; rfl
        rw [e1, e2]
        clear e1 e2 hb hb2
        have hd : decide ((64 : Int) ≤ (W.length : Int) + I.length) = true := by simp; omega
        go_enter Try.func11, Try.ntmps11
        go_wp2_with fail
        refine (contains_any _ W id _ (SlI.rd HP.out.sw (by omega))).mono ?_
        rw [HB.out]
        rintro e w' ⟨rfl, rfl⟩
        go_wp2_with fail
        refine (contains_any _ I id _ (SlI.rd HP.out.so (by omega))).mono ?_
        rw [HB2.out]
        rintro e w' ⟨rfl, rfl⟩
        go_wp2_with fail
        go_quiet (fail)
        go_wp2_with fail
        go_ret
        exact ⟨rfl, HG.out.to_same (Fr.drewN _ _ _)⟩
      · have e1 : accE W I id = 0 := by unfold accE; rw [if_neg (by rw [hb, hb2]; simp), if_neg hc]
        have e2 : accW W I id = W ++ [id] := by unfold accW; rw [e1]; rfl
        rw [e1, e2]
        clear e1 e2 hb hb2
        have hd : decide ((64 : Int) ≤ (W.length : Int) + I.length) = false := by simp; omega
        go_enter Try.func11, Try.ntmps11
        go_wp2_with fail
        refine (contains_any _ W id _ (SlI.rd HP.out.sw (by omega))).mono ?_
        rw [HB.out]
        rintro e w' ⟨rfl, rfl⟩
        go_wp2_with fail
        refine (contains_any _ I id _ (SlI.rd HP.out.so (by omega))).mono ?_
        rw [HB2.out]
        rintro e w' ⟨rfl, rfl⟩
        go_wp2_with fail
        go_quiet (fail)
        have HP1 := Lib.hid (HP.out.keep (Fr.drewN w nq No) (fun _ _ h => h))
        go_wp2_with (at_builtin; refine wpList_appI rfl (.tmp 37) (.tmp 39) rfl (.slice aw W.length cw) W rfl ?d1 w.heap.size id rfl ?d2 ?d3 ?_)
        case d1 => exact Sl.keep0 HP1.out.sw (Fr.alloc _ _ _)
        case d2 => exact blk_new (w.drewN nq) _
        case d3 => omega
        intro v' w2 k1 k2 k3
        obtain ⟨a1, c1, hv1⟩ := slv_form k1
        have hf := ((Fr.drewN w nq (fun g => (Value.slice aw W.length cw).ownBlock = some g)).to_alloc (.cells #[.int .i64 id] 3)).rr k2
        have hpn : ¬ (Value.slice aw W.length cw).ownBlock = some p := fun e => Sl.ne HP.out.sw HP.out.blk (by decide) e
        have hcn : ¬ (Value.slice aw W.length cw).ownBlock = some c := fun e => ch_own HP.out.ch HP.out.sw e
        have kb := hf.blk HP.out.blk hpn
        have hk0 : w2.cell? ⟨p, 0, none⟩ = some (.slice aw W.length cw) := blk_cell kb 0
        have hfz : w2.frozen? ⟨p, 0, none⟩ = false := blk_frozen kb 0
        have hsz : w.heap.size ≤ w2.heap.size := hf.size
        have HK1 := Lib.hid k1
        have HK3 := Lib.hid k3
        have HF := Lib.hid hf
        have HPN := Lib.hid hpn
        have HCN := Lib.hid hcn
        have KB := Lib.hid kb
        have HSZ := Lib.hid hsz
        clear k1 k2 k3 hf hpn hcn kb hsz h0 h2
        generalize (W ++ [id]).length = n1 at hv1
        subst hv1
        go_wp2
        go_ret
        generalize hvv : Value.slice a1 n1 c1 = v' at *
        have hv : ∀ k, v'.ownBlock = some k → (Value.slice aw W.length cw).ownBlock = some k ∨ w.heap.size ≤ k := by
          intro k hk
          rcases HK3.out with h | h
          · exact .inl (h ▸ hk)
          · rw [hk] at h; cases h; exact .inr (by simp)
        have hnp : v'.ownBlock ≠ some p := Sl.ne HK1.out KB.out (by decide)
        have hol : ∀ k, (Value.slice ao I.length co).ownBlock = some k → k < w.heap.size := Sl.lt HP.out.so
        have hfs := Fr.setCell w2 ⟨p, 0, none⟩ v'
        have hdis : ∀ k, v'.ownBlock = some k → (Value.slice ao I.length co).ownBlock ≠ some k := by
          intro k hk e
          rcases hv k hk with h | h
          · exact HP.out.dis k h e
          · exact absurd (hol k e) (by omega)
        have hso2 : SlI w2 (.slice ao I.length co) I := HP.out.so.keep HF.out (fun g e e' => HP.out.dis g e' e)
        have hch2 : ChAt w2 c cap I := HP.out.ch.keep HF.out HCN.out
        refine ⟨rfl, own p c v' (.slice ao I.length co), GP.at_ ⟨?_, ?_, ?_, ?_, hdis, HP.out.cap1, HP.out.cap16, HP.out.ic, by simp; omega⟩, ?_, ?_⟩
        · exact blk_set KB.out 0 v'
        · exact HK1.out.keep hfs (fun g e e' => hnp (by rw [e, show g = p from e']))
        · exact hso2.keep hfs (fun g e e' => Sl.ne HP.out.so HP.out.blk (by decide) (by rw [e, show g = p from e']))
        · exact hch2.keep hfs (fun e => ch_ne HP.out.ch HP.out.blk e)
        · exact (HF.out.mono (fun i _ e => HS.out i (.inr (.inr (.inl e))))).to_set _ _ (HS.out p (.inl rfl))
        · rintro k (rfl | rfl | e | e)
          · exact .inl (HS.out _ (.inl rfl))
          · exact .inl (HS.out _ (.inr (.inl rfl)))
          · rcases hv k e with h | h
            · exact .inl (HS.out _ (.inr (.inr (.inl h))))
            · exact .inr h
          · exact .inl (HS.out _ (.inr (.inr (.inr e))))

/-! ### look -/
def lookE (W I : List Int) (id : Int) : Int := if has id I = true then 140 else if idx id W < 0 then 4 else 0
def lookI (W I : List Int) (id : Int) : Int := if lookE W I id = 0 then idx id W else 0
set_option maxHeartbeats 1000000 in
theorem look_any (p : Nat) (S : Nat → Prop) (cap : Nat) (W I : List Int) (id : Int) (w : World) (hG : GAt w p S cap W I) :
    Calls Try.prog 26 #[.pointer (some ⟨p, 0, none⟩), .int .i64 id] w fun e w' => e = .returned (.tuple #[.int .i64 (lookI W I id), .int .i64 (lookE W I id)]) ∧ w = w' := by
  obtain ⟨c, vw, vo, hP, hS, _⟩ := hG
  have h0 := hP.c0
  have h2 := hP.c2
  have hle := hP.le
  have HP := Lib.hid hP
  clear hP
  cases hb : has id I with
  | true =>
    have e1 : lookE W I id = 140 := by unfold lookE; rw [if_pos hb]
    have e2 : lookI W I id = 0 := by unfold lookI; rw [e1]; rfl
    rw [e1, e2]
    clear e1 e2
    have HB := Lib.hid hb
    clear hb
    go_enter Try.func26, Try.ntmps26
    go_wp2_with fail
    refine (contains_any _ I id _ (SlI.rd HP.out.so (by omega))).mono ?_
    rw [HB.out]
    rintro e w' ⟨rfl, rfl⟩
    go_wp2_with fail
    go_ret2
    exact ⟨rfl, rfl⟩
  | false =>
    by_cases hi : idx id W < 0
    · have e1 : lookE W I id = 4 := by unfold lookE; rw [if_neg (by rw [hb]; simp), if_pos hi]
      have e2 : lookI W I id = 0 := by unfold lookI; rw [e1]; rfl
      rw [e1, e2]
      clear e1 e2
      have HB := Lib.hid hb
      clear hb
      go_enter Try.func26, Try.ntmps26
      go_wp2_with fail
      refine (contains_any _ I id _ (SlI.rd HP.out.so (by omega))).mono ?_
      rw [HB.out]
      rintro e w' ⟨rfl, rfl⟩
      go_wp2_with fail
      refine (index_any _ W id _ (SlI.rd HP.out.sw (by omega))).mono ?_
      rintro e w' ⟨rfl, rfl⟩
      go_wp2_with fail
      go_ret2
      exact ⟨rfl, rfl⟩
    · have e1 : lookE W I id = 0 := by unfold lookE; rw [if_neg (by rw [hb]; simp), if_neg hi]
      have e2 : lookI W I id = idx id W := by unfold lookI; rw [e1]; rfl
      rw [e1, e2]
      clear e1 e2
      have HB := Lib.hid hb
      clear hb
      go_enter Try.func26, Try.ntmps26
      go_wp2_with fail
      refine (contains_any _ I id _ (SlI.rd HP.out.so (by omega))).mono ?_
      rw [HB.out]
      rintro e w' ⟨rfl, rfl⟩
      go_wp2_with fail
      refine (index_any _ W id _ (SlI.rd HP.out.sw (by omega))).mono ?_
      rintro e w' ⟨rfl, rfl⟩
      go_wp2_with fail
      go_ret2
      exact ⟨rfl, rfl⟩

/-! ### Leave -/
/-- 'v[1:]' -/
def tl (v : Value) : Value := match v with
  | .slice (some ⟨g, off, z⟩) n c => .slice (some ⟨g, if c = 1 then off else off + 1, z⟩) (n - 1) (c - 1)
  | v => v
theorem tl_run {w : World} {v : Value} {x : Int} {r : List Int} (h : SlI w v (x :: r)) :
    (∀ w', (Instr.sliceAt 22 v (some (.int .i64 1)) none none).run Try.prog w' = .ok (tl v) w') ∧ (∀ w', (Instr.slice 22 v (some (.int .i64 1)) none none).run Try.prog w' = .ok (tl v) w') ∧ SlI w (tl v) r ∧ (tl v).ownBlock = v.ownBlock := by
  obtain ⟨hl, ⟨rfl, h0⟩ | ⟨g, off, cap, cur, rfl, hg, hn, hc, hs, ht⟩⟩ := h
  · simp at h0
  · simp only [List.length_cons] at hn ht hs ⊢
    have hsz : ∀ w', (sizeOf 3).run Try.prog w' = .ok 1 w' := by intro w'; kernel_rfl
    have el : Try.prog.elem 22 = 3 := by kernel_rfl
    have key : ∀ w', (Instr.slice 22 (.slice (some ⟨g, off, none⟩) (r.length + 1) cap) (some (.int .i64 1)) none none).run Try.prog w' = .ok (tl (.slice (some ⟨g, off, none⟩) (r.length + 1) cap)) w' := by
      intro w'
      have h1 := run_slice_l (P := Try.prog) w' 22 (some ⟨g, off, none⟩) (r.length + 1) cap (by rw [el]; exact Try.underlying22) .i64 1 (by omega) (by omega)
      rw [el, hsz] at h1
      rw [h1]
      simp only [Result.andThen, sliced, tl, Int.toNat_one]
      congr 2
      by_cases e : cap = 1
      · simp [e]
      · simp [e, Addr.add_lit]
    refine ⟨fun w' => ?_, key, ?_, rfl⟩
    · rw [run_sliceAt_slice (P := Try.prog) w' 22 _ _ _ _ (by rw [el]; exact Try.underlying22)]
      exact key w'
    · refine ⟨by simp, .inr ⟨g, _, cap - 1, cur, by simp [tl]; rfl, hg, by omega, by omega, by split <;> omega, ?_⟩⟩
      by_cases e : cap = 1
      · rw [if_pos e]
        have : r.length = 0 := by omega
        have : r = [] := List.eq_nil_of_length_eq_zero this
        subst this
        simp
      · rw [if_neg e]
        simp only [Nat.mul_one] at ht ⊢
        have e2 : cur.toList.drop (off + 1) = (cur.toList.drop off).tail := by rw [List.tail_drop]
        rw [e2]
        cases hL : cur.toList.drop off with
        | nil => rw [hL] at ht; simp at ht
        | cons y L =>
          rw [hL, List.take_succ_cons, List.map_cons] at ht
          injection ht with _ ht

end Go.Proofs.Ytmdciipaggcjoaa
