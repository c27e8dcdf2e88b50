/-
  slices.Delete of one place; package gate: Cancel.
-/
import Derived.Test.YtmdciipaggcjoaaGt4
namespace Go.Proofs.Ytmdciipaggcjoaa
open Go.RowKit Go.Conc
set_option linter.unusedVariables false
set_option linter.unusedSimpArgs false

theorem del_cells (cur : List Value) (W : List Int) (off i : Nat) (ht : (cur.drop off).take W.length = W.map (Value.int .i64)) (hi : i < W.length) (hs : off + W.length ≤ cur.length) :
    ((over (off + (W.length - 1)) [Value.int .i64 0] (over (off + i) ((W.drop (i + 1)).map (Value.int .i64)) cur)).drop off).take (W.length - 1) = (W.eraseIdx i).map (Value.int .i64) := by
  have e1 : ((cur.take (off + i)).drop off) = (W.take i).map (Value.int .i64) := by
    rw [List.drop_take, Nat.add_sub_cancel_left, List.map_take, ← ht, List.take_take, Nat.min_eq_left (by omega)]
  have l1 : (cur.take (off + i)).length = off + i := by simp; omega
  have l2 : ((W.drop (i + 1)).map (Value.int .i64)).length = W.length - (i + 1) := by simp
  generalize hn : (W.drop (i + 1)).map (Value.int .i64) = news at *
  have e2 : (over (off + i) news cur).take (off + (W.length - 1)) = cur.take (off + i) ++ news := by
    unfold over
    exact List.take_left' (by rw [List.length_append, l1, l2]; omega)
  unfold over at e2 ⊢
  rw [e2, List.append_assoc, List.append_assoc, List.drop_append_of_le_length (by omega), e1, ← List.append_assoc]
  rw [List.take_left' (by rw [List.length_append, l2, List.length_map, List.length_take]; omega)]
  rw [List.eraseIdx_eq_take_drop_succ, List.map_append, ← hn]

theorem info3' : ∃ i, Try.prog.info? 3 = some i ∧ i.size = 1 := by
  obtain ⟨i0, hi, hz0, hz1, hz2⟩ := info_parts info3
  exact ⟨i0, hi, hz1⟩
theorem del_app (w : World) (g off n cap i o2 c2 : Nat) (cur : Array Value) (W : List Int) (hW : W.length = n) (hg : w.heap[g]? = some (.cells cur 3 (0, 0))) (hn : n ≤ cap) (hs : off + cap ≤ cur.size) (ht : (cur.toList.drop off).take n = W.map (Value.int .i64)) (hi : i < n)
    (ho : n = i + 1 ∨ o2 = off + (i + 1)) :
    (Builtin.append_ #[22, 22] 22 #[.slice (some ⟨g, off, none⟩) i cap, .slice (some ⟨g, o2, none⟩) (n - (i + 1)) c2]).run Try.prog w = .ok (.slice (some ⟨g, off, none⟩) (n - 1) cap) (w.setCells g (off + i) ((W.drop (i + 1)).map (Value.int .i64))) := by
  obtain ⟨i0, h0, h1⟩ := info3'
  have := run_append_room_cells (P := Try.prog) w 22 22 3 i0 Try.underlying22 h0 g off i cap ⟨g, o2, none⟩ (n - (i + 1)) c2 ((W.drop (i + 1)).map (Value.int .i64)) (by rw [h1]; simp; omega) (fun j u hu => ?_) (oneI _) (by omega) (fun j hj => ?_) (fun j hj => blk_frozen hg _)
  · rw [h1] at this
    rw [show i + (n - (i + 1)) = n - 1 by omega, Nat.mul_one] at this
    exact this
  · rcases ho with ho | rfl
    · have : W.drop (i + 1) = [] := List.drop_eq_nil_of_le (by omega)
      rw [this] at hu; simp at hu
    · have hu' : (W.map (Value.int .i64))[i + 1 + j]? = some u := by rw [List.map_drop, List.getElem?_drop] at hu; exact hu
      rw [← ht, List.getElem?_take] at hu'
      split at hu'
      · rw [List.getElem?_drop] at hu'
        rw [Addr.add_lit, blk_cell hg, ← hu', Array.getElem?_toList]
        congr 1; omega
      · cases hu'
  · rw [blk_cell hg, h1]
    simp at hj ⊢
    omega
theorem del_clear (w : World) (g o c : Nat) (cur : Array Value) (hg : w.heap[g]? = some (.cells cur 3 (0, 0))) (ho : o < cur.size) (ty : TypeId) :
    (Builtin.clear_ #[22] ty #[.slice (some ⟨g, o, none⟩) 1 c]).run Try.prog w = .ok (.tuple #[]) (w.setCells g o [.int .i64 0]) :=
  Lib.run_clear_slice (P := Try.prog) w 22 3 ty (.int .i64 0) Try.underlying22 (fun w => by kernel_rfl) rfl rfl g o 1 c (by omega) (fun j hj => by rw [blk_cell hg]; simp; omega) (fun j hj => blk_frozen hg _)

/-- 'append', whose run is known, at a step of a region that draws. -/
theorem step_run2 {P : Program} {w : World} {ops : Array Oper} {o : Oper} {a : Act} {K : Act → World → Prop} {Q : Exit → Act → World → Prop} {E : Prop} (hgd : o.guard = none) (s x : Operand) (t : TypeId)
    (ho : o.op = .call { callee := .builtin .append, args := #[s, x], argTypes := #[t, t] }) (v xv : Value) (hev : a.eval s = v) (hex : a.eval x = xv) (v' : Value) (w' : World)
    (hr : (Builtin.append_ #[t, t] o.type #[v, xv]).run P w = .ok v' w') (h : K (a.put o.dst v') w') :
    if Region.wanted o (yielded ops a.tmps) = true then Oper.wp P o a w K Q else E := by
  have hw : Region.wanted o (yielded ops a.tmps) = true := by simp [Region.wanted, hgd]
  rw [if_pos hw]
  unfold Oper.wp execOp
  simp only [ho, resolve, invoke, builtin, Sem.run_bind, Sem.run_pure, Result.andThen_ok, List.map_toArray, List.map_cons, List.map_nil, hev, hex, hr]
  exact h
theorem wpList_clear {P : Program} {w : World} {ops : Array Oper} {rest : List Oper} {o : Oper} {a : Act} {Q : Exit → Act → World → Prop} (hgd : o.guard = none) (s : Operand) (t : TypeId)
    (ho : o.op = .call { callee := .builtin .clear, args := #[s], argTypes := #[t] }) (v : Value) (hev : a.eval s = v) (u : Value) (w' : World)
    (hr : (Builtin.clear_ #[t] o.type #[v]).run P w = .ok u w') (h : wpList P ops Q rest (a.put o.dst u) w') : wpList P ops Q (o :: rest) a w := by
  refine wpList_plain hgd fun K hK => ?_
  unfold Oper.wp execOp
  simp only [ho, resolve, invoke, builtin, Sem.run_bind, Sem.run_pure, Result.andThen_ok, List.map_toArray, List.map_cons, List.map_nil, hev, hr]
  exact hK _ _ h

set_option maxHeartbeats 1000000 in
theorem delete_any (v : Value) (W : List Int) (i : Nat) (w : World) (hv : SlI w v W) (hi : i < W.length) (hl : W.length ≤ 1000) :
    Calls Try.prog 27 #[v, .int .i64 i, .int .i64 ((i : Int) + 1)] w fun e w' => ∃ v', e = .returned v' ∧ SlI w' v' (W.eraseIdx i) ∧ Fr w w' (fun g => v.ownBlock = some g) ∧ v'.ownBlock = v.ownBlock := by
  obtain ⟨hl, ⟨rfl, h0⟩ | ⟨g, off, cap, cur, rfl, hg, hn, hc, hs, ht⟩⟩ := hv
  · omega
  · simp only [Nat.mul_one] at hs ht
    have HT := Lib.hid ht
    have HG := Lib.hid hg
    have HS := Lib.hid hs
    have HC := Lib.hid hc
    have HN := Lib.hid hn
    obtain ⟨n, hW⟩ : ∃ n, W.length = n := ⟨_, rfl⟩
    rw [hW] at hi hn ⊢
    have HW := Lib.hid hW
    have e0 : ¬ n = i := by omega
    have e1 : ¬ cap = 0 := by omega
    have e2 : ((i : Int) == (i : Int) + 1) = false := by simp; omega
    have e3 : ¬ cap = n - 1 := by omega
    have hap := del_app w.drew g off n cap i (off + (i + 1)) (cap - (i + 1)) cur W hW hg hn hs (by rw [← hW]; exact ht) hi (.inr rfl)
    have h2 : (w.drew.setCells g (off + i) ((W.drop (i + 1)).map (Value.int .i64))).heap[g]? = some (.cells (over (off + i) ((W.drop (i + 1)).map (Value.int .i64)) cur.toList).toArray 3 (0, 0)) := setCells_heap g _ (off + i) w.drew cur 3 (0, 0) hg (by simp; omega)
    have hcl := del_clear _ g (off + (n - 1)) (cap - (n - 1)) _ h2 (by simp [over]; omega)
    have hfin := setCells_heap g [.int .i64 0] (off + (n - 1)) _ _ 3 (0, 0) h2 (by simp [over]; omega)
    have hf2 : Fr w (w.drew.setCells g (off + i) ((W.drop (i + 1)).map (Value.int .i64))) (One g) := (Fr.drew w (One g)).rr (setCells_fr g _ _ _)
    have hf3 := hf2.rr (setCells_fr g [.int .i64 0] (off + (n - 1)) _)
    have HFIN := Lib.hid hfin
    have HF3 := Lib.hid hf3
    have key : SlI (w.drew.setCells g (off + i) ((W.drop (i + 1)).map (Value.int .i64)) |>.setCells g (off + (n - 1)) [.int .i64 0]) (.slice (some ⟨g, off, none⟩) (n - 1) cap) (W.eraseIdx i) := by
      have hd := del_cells cur.toList W off i ht (by omega) (by simp; omega)
      rw [hW] at hd
      have hln : (W.eraseIdx i).length = n - 1 := by rw [List.length_eraseIdx_of_lt (by omega), hW]
      refine ⟨by simp, .inr ⟨g, off, cap, _, by rw [hln], hfin, by omega, hc, ?_, ?_⟩⟩
      · simp [over]; omega
      · rw [hln, Nat.mul_one]
        exact hd
    have KEY := Lib.hid key
    have f1 : (0 : Int) ≤ (i : Int) := by omega
    have f2 : (i : Int) ≤ (cap : Int) := by omega
    have f3 : i ≤ cap := by omega
    have f4 : (0 : Int) ≤ (i : Int) + 1 := by omega
    have f5 : (i : Int) + 1 ≤ (n : Int) := by omega
    by_cases hc1 : cap = i + 1
    · obtain rfl : n = i + 1 := by omega
      subst hc1
      have hap := del_app w.drew g off (i + 1) (i + 1) i off 0 cur W hW hg hn hs (by rw [← hW]; exact ht) hi (.inl rfl)
      simp only [Nat.add_sub_cancel, Nat.sub_self, Nat.add_sub_cancel_left] at hap hcl KEY HF3
      have f6 : (i : Int) ≤ (i : Int) + 1 := by omega
      have f7 : 0 < i + 1 := by omega
      have f8 : i < i + 1 := by omega
      clear ht hg hs hW hl hc h2 hfin hf2 hf3 HFIN key
      generalize w.drew.setCells g (off + i) ((W.drop (i + 1)).map (Value.int .i64)) = w2 at *
      go_enter Try.func27, Try.ntmps27
      go_upto_region 5 with (fail)
      go_region_held3 (fun _ => True) (trivial) (refine step_run2 (by rfl) _ _ _ (by rfl) _ _ (by rfl) (by rfl) _ _ hap ?_)
      go_wp2_with (at_builtin; refine wpList_clear (by rfl) _ _ (by rfl) _ (by rfl) _ _ (hcl _) ?_)
      go_ret
      exact ⟨_, rfl, KEY.out, HF3.out.mono (fun k _ e => by rw [show k = g from e]; rfl), rfl⟩
    · clear ht hg hs hW hl hc h2 hfin hf2 hf3 HFIN key
      generalize w.drew.setCells g (off + i) ((W.drop (i + 1)).map (Value.int .i64)) = w2 at *
      have hn1 : n - 1 ≤ n := by omega
      have e4 : n - (n - 1) = 1 := by omega
      go_enter Try.func27, Try.ntmps27
      go_upto_region 5 with (fail)
      go_region_held3 (fun _ => True) (trivial) (refine step_run2 (by rfl) _ _ _ (by rfl) _ _ (by rfl) (by rfl) _ _ hap ?_)
      go_wp2_with (at_builtin; refine wpList_clear (by rfl) _ _ (by rfl) _ (by rfl) _ _ (hcl _) ?_)
      go_ret
      exact ⟨_, rfl, KEY.out, HF3.out.mono (fun k _ e => by rw [show k = g from e]; rfl), rfl⟩

/-! ### Cancel -/
def canW (W I : List Int) (id : Int) : List Int := if lookE W I id = 0 then W.eraseIdx (idx id W).toNat else W
theorem cancel_fin {w w2 : World} {p c : Nat} {S : Nat → Prop} {vw vo v' : Value} {cap : Nat} {W I W' : List Int} (hP : GP w p c vw vo cap W I) (hS : ∀ k, own p c vw vo k → S k)
    (hs : SlI w2 v' W') (hf : Fr w w2 (fun g => vw.ownBlock = some g)) (ho : v'.ownBlock = vw.ownBlock) (hl : W'.length ≤ W.length) : GTo w (w2.setCell ⟨p, 0, none⟩ v') p S cap W' I := by
  have npw : vw.ownBlock ≠ some p := Sl.ne hP.sw hP.blk (by decide)
  have npo : vo.ownBlock ≠ some p := Sl.ne hP.so hP.blk (by decide)
  have ncw := ch_own hP.ch hP.sw
  have hcp : c ≠ p := ch_ne hP.ch hP.blk
  have kb := hf.blk hP.blk npw
  have hfs := Fr.setCell w2 ⟨p, 0, none⟩ v'
  have hle := hP.le
  refine ⟨own p c v' vo, GP.at_ ⟨blk_set kb 0 _, ?_, ?_, ?_, fun k e => hP.dis k (ho ▸ e), hP.cap1, hP.cap16, hP.ic, by omega⟩, ?_, ?_⟩
  · exact hs.keep hfs (fun g e e' => npw (by rw [← ho, e, show g = p from e']))
  · exact (hP.so.keep hf (fun g e e' => hP.dis g e' e)).keep hfs (fun g e e' => npo (by rw [e, show g = p from e']))
  · exact (hP.ch.keep hf ncw).keep hfs hcp
  · exact (hf.mono (fun i _ e => hS i (.inr (.inr (.inl e))))).to_set _ _ (hS p (.inl rfl))
  · rintro k (rfl | rfl | e | e)
    · exact .inl (hS _ (.inl rfl))
    · exact .inl (hS _ (.inr (.inl rfl)))
    · exact .inl (hS _ (.inr (.inr (.inl (ho ▸ e)))))
    · exact .inl (hS _ (.inr (.inr (.inr e))))

set_option maxHeartbeats 1000000 in
theorem cancel_any (p : Nat) (S : Nat → Prop) (cap : Nat) (W I : List Int) (id : Int) (w : World) (hG : GAt w p S cap W I) :
    Calls Try.prog 17 #[.pointer (some ⟨p, 0, none⟩), .int .i64 id] w fun e w' => e = .returned (.int .i64 (lookE W I id)) ∧ GTo w w' p S cap (canW W I id) I := by
  have HG := Lib.hid hG
  obtain ⟨c, vw, vo, hP, hS, _⟩ := hG
  have HS := Lib.hid hS
  have h0 := hP.c0
  have hle := hP.le
  have HP := Lib.hid hP
  clear hP hS
  by_cases hE : lookE W I id = 0
  · have e2 : canW W I id = W.eraseIdx (idx id W).toNat := by unfold canW; rw [if_pos hE]
    have hI : lookI W I id = idx id W := by unfold lookI; rw [if_pos hE]
    have h1 : ¬ idx id W < 0 := by
      unfold lookE at hE
      split at hE
      · cases hE
      · split at hE
        · cases hE
        · assumption
    have h2 := idx_lt id W
    obtain ⟨i, hi⟩ : ∃ i : Nat, idx id W = i := ⟨(idx id W).toNat, by omega⟩
    rw [hE, e2]
    have HE := Lib.hid hE
    have HI := Lib.hid hI
    rw [hi] at HI h2 ⊢
    clear hE e2 hI h1 hi
    simp only [Int.toNat_natCast]
    have h64 : i < 64 := by omega
    have hlt : i < W.length := by omega
    have HLT := Lib.hid hlt
    have hle' : W.length ≤ 1000 := by omega
    obtain ⟨a0, c0, hv0⟩ := slv_form HP.out.sw
    subst hv0
    go_enter Try.func17, Try.ntmps17
    go_wp2_with fail
    refine (look_any p S cap W I id _ HG.out).mono ?_
    rw [HE.out, HI.out]
    rintro e w' ⟨rfl, rfl⟩
    go_wp2_with fail
    refine (delete_any _ W i _ HP.out.sw HLT.out hle').mono ?_
    rintro e w2 ⟨v', rfl, hs, hf, ho⟩
    have kb := hf.blk HP.out.blk (Sl.ne HP.out.sw HP.out.blk (by decide))
    have k0 : w2.cell? ⟨p, 0, none⟩ = some (.slice a0 W.length c0) := blk_cell kb 0
    have hfz : w2.frozen? ⟨p, 0, none⟩ = false := blk_frozen kb 0
    obtain ⟨a1, c1, hv1⟩ := slv_form hs
    have HSS := Lib.hid hs
    have HF := Lib.hid hf
    have HO := Lib.hid ho
    clear hs hf ho kb h0
    have hln : (W.eraseIdx i).length ≤ W.length := by rw [List.length_eraseIdx_of_lt hlt]; omega
    have HLN := Lib.hid hln
    clear hln
    generalize (W.eraseIdx i).length = n1 at hv1
    subst hv1
    go_wp2_with fail
    go_ret
    exact ⟨rfl, cancel_fin HP.out HS.out HSS.out HF.out HO.out HLN.out⟩
  · have e2 : canW W I id = W := by unfold canW; rw [if_neg hE]
    have hb : (lookE W I id == 0) = false := by simpa using hE
    rw [e2]
    clear e2 hE
    go_enter Try.func17, Try.ntmps17
    go_wp2_with fail
    refine (look_any p S cap W I id _ HG.out).mono ?_
    rintro e w' ⟨rfl, rfl⟩
    go_wp2_with fail
    go_ret
    exact ⟨rfl, HG.out.to_same (Fr.refl _ _)⟩
end Go.Proofs.Ytmdciipaggcjoaa
