/-
  Plain: racks whose totes stand once each; what Do does to them.
-/
import Derived.Test.YtegoilhkooneaaaLwFull
namespace Go.Proofs.Ytegoilhkooneaaa
set_option linter.unusedVariables false
set_option linter.unusedSimpArgs false

/-- Each tote once, and a tote. -/
structure WF (R : List Lan) : Prop where
  good : Good R
  nd : ∀ t, cnt t R ≤ 1
  rng : ∀ t, 0 < cnt t R → 1 ≤ t ∧ t ≤ 30
theorem WF.init (ds : List Int) : WF (rack0 ds) := ⟨rack0_good ds, fun t => by rw [rack0_cnt]; omega, fun t h => by rw [rack0_cnt] at h; omega⟩
theorem putTo_wf {R R' : List Lan} {t : Int} (h : WF R) (p : PutTo R R' t) (h1 : 1 ≤ t) (h30 : t ≤ 30) (hc : cnt t R = 0) : WF R' := by
  refine ⟨p.good, fun u => ?_, fun u hu => ?_⟩
  · rw [p.cnt]
    have := h.nd u
    split
    · subst_vars; omega
    · omega
  · rw [p.cnt] at hu
    by_cases e : u = t
    · subst e; exact ⟨h1, h30⟩
    · rw [if_neg e] at hu; exact h.rng u (by omega)
theorem WF.put {R : List Lan} (h : WF R) (t : Int) : WF (putR R t) := by
  by_cases ht : t < 1 ∨ 30 < t
  · have e1 : putE R t = 1 := by unfold putE; rw [if_pos ht]
    have : putR R t = R := by unfold putR; rw [if_neg (by rw [e1]; decide)]
    rw [this]; exact h
  · by_cases hc : cnt t R = 0
    · rcases Int.lt_or_le 0 (roomR R) with hr | hr
      · exact putTo_wf h (put_to h.good (by omega) (by omega) hc hr) (by omega) (by omega) hc
      · rw [(put_full h.good (by omega) (by omega) hc hr).2.1]; exact h
    · rw [(put_twice (t := t) (R := R) (by omega) (by omega) (by omega)).2.1]; exact h
theorem WF.fill {R : List Lan} (h : WF R) (ts : List Int) : WF (fill R ts) := by
  induction ts generalizing R with
  | nil => exact h
  | cons t r ih => exact ih (h.put _)
theorem fill_len (R : List Lan) (ts : List Int) : (fill R ts).length = R.length := by
  induction ts generalizing R with
  | nil => rfl
  | cons t r ih => rw [show fill R (t :: r) = fill (putR R (tt t)) r from rfl, ih, putR_len]
theorem rack0_len (ds : List Int) : (rack0 ds).length = ds.length := by simp [rack0]

theorem idx_neg (t : Int) (l : List Int) : idx t l < 0 ↔ l.count t = 0 := by have := idx_cnt t l; omega
theorem where_is {R : List Lan} (h : WF R) {t : Int} {i : Nat} (hi : i < R.length) (hc : 0 < (lan R i).2.count t) : whereR t R = i := by
  refine whereR_hit t R i hi (fun j hj => ?_) ((idx_cnt _ _).2 hc)
  have h1 := cnt_two t R i j hi (by omega) (by omega)
  have h2 := h.nd t
  exact (idx_neg _ _).2 (show (lan R j).2.count t = 0 by omega)
theorem where_not {R : List Lan} {t : Int} (h : cnt t R = 0) : whereR t R = -1 := by
  have h1 := (where_cnt t R).1
  have h2 := whereR_ge t R
  omega
theorem rack_ext {R R' : List Lan} (hl : R.length = R'.length) (h : ∀ i, i < R.length → lan R i = lan R' i) : R = R' := by
  apply List.ext_getElem hl
  intro i h1 h2
  have := h i h1
  unfold lan at this
  simpa [List.getD, List.getElem?_eq_getElem h1, List.getElem?_eq_getElem h2] using this

theorem take_last {T : List Int} {t : Int} (h : T.count t = 0) : takeE (T ++ [t]) t = 0 ∧ takeT (T ++ [t]) t = T := by
  have h1 : idx t (T ++ [t]) = T.length := by
    rw [idx_append, if_neg (by have := (idx_neg t T).2 h; omega), if_pos rfl]
  have e : takeE (T ++ [t]) t = 0 := by
    unfold takeE
    rw [h1, if_neg (by omega), if_neg (by simp)]
  refine ⟨e, ?_⟩
  unfold takeT
  rw [if_pos e]; simp
theorem push_ok {d : Nat} {ts : List Int} {t : Int} (h1 : 1 ≤ t) (h30 : t ≤ 30) (hc : ts.count t = 0) (hl : ts.length < d) : pushE d ts t = 0 ∧ pushT d ts t = ts ++ [t] := by
  have e : pushE d ts t = 0 := by unfold pushE; rw [if_neg (by omega), if_neg (by have := (idx_neg t ts).2 hc; omega), if_neg (by omega)]
  exact ⟨e, by unfold pushT; rw [if_pos e]⟩

/-- tote t, the last one of lane n, goes to lane m. -/
def movT (R : List Lan) (t : Int) (n m : Nat) (T : List Int) : List Lan := (R.set m ((lan R m).1, (lan R m).2 ++ [t])).set n ((lan R n).1, T)
def outT (R : List Lan) (n : Nat) (T : List Int) : List Lan := R.set n ((lan R n).1, T)
theorem lane_last {R : List Lan} (h : WF R) {t : Int} {n : Nat} {T : List Int} (hn : n < R.length) (hT : (lan R n).2 = T ++ [t]) : cnt t R = 1 ∧ T.count t = 0 ∧ 1 ≤ t ∧ t ≤ 30 := by
  have h1 := cnt_lane t R n hn
  have h2 := h.nd t
  rw [hT] at h1
  simp only [List.count_append, List.count_singleton_self] at h1
  have := h.rng t (by omega)
  omega
theorem do_to {R : List Lan} (h : WF R) {t : Int} {n m : Nat} {T : List Int} (hn : n < R.length) (hT : (lan R n).2 = T ++ [t]) (hm : m < R.length) (hnm : m ≠ n) (hr : (lan R m).2.length < (lan R m).1) :
    doE R t n m = 0 ∧ doR R t n m = movT R t n m T := by
  obtain ⟨hc, hT0, h1, h30⟩ := lane_last h hn hT
  have hm0 : (lan R m).2.count t = 0 := by
    have h2 := cnt_two t R n m hn hm (Ne.symm hnm)
    rw [hT] at h2
    simp only [List.count_append, List.count_singleton_self] at h2
    omega
  obtain ⟨p1, p2⟩ := push_ok (d := (lan R m).1) h1 h30 hm0 hr
  obtain ⟨t1, t2⟩ := take_last hT0
  have hb : ¬ badM R.length n m := by unfold badM; omega
  have hl : ¬ ((lan R n).2.getLast? ≠ some t) := by rw [hT]; simp
  refine ⟨?_, ?_⟩
  · unfold doE; rw [if_neg hb, Int.toNat_natCast, if_neg hl, Int.toNat_natCast, if_neg (fun h => h.2 p1), hT]; exact t1
  · unfold doR doP movT; rw [if_neg hb, Int.toNat_natCast, if_neg hl, Int.toNat_natCast, if_neg (fun h => h.2 p1), if_pos (by omega), p2, hT, t2]
theorem do_out {R : List Lan} (h : WF R) {t : Int} {n : Nat} {T : List Int} (hn : n < R.length) (hT : (lan R n).2 = T ++ [t]) :
    doE R t n (-1) = 0 ∧ doR R t n (-1) = outT R n T := by
  obtain ⟨hc, hT0, h1, h30⟩ := lane_last h hn hT
  obtain ⟨t1, t2⟩ := take_last hT0
  have hb : ¬ badM R.length n (-1) := by unfold badM; omega
  have hl : ¬ ((lan R n).2.getLast? ≠ some t) := by rw [hT]; simp
  refine ⟨?_, ?_⟩
  · unfold doE; rw [if_neg hb, Int.toNat_natCast, if_neg hl, if_neg (fun h => by have := h.1; omega), hT]; exact t1
  · unfold doR doP outT; rw [if_neg hb, Int.toNat_natCast, if_neg hl, if_neg (fun h => by have := h.1; omega), if_neg (by omega), hT, t2]

theorem movT_len (R : List Lan) (t : Int) (n m : Nat) (T : List Int) : (movT R t n m T).length = R.length := by simp [movT]
theorem outT_len (R : List Lan) (n : Nat) (T : List Int) : (outT R n T).length = R.length := by simp [outT]
theorem movT_lan {R : List Lan} {t : Int} {n m : Nat} {T : List Int} (hn : n < R.length) (hm : m < R.length) (hnm : m ≠ n) (i : Nat) :
    lan (movT R t n m T) i = if i = n then ((lan R n).1, T) else if i = m then ((lan R m).1, (lan R m).2 ++ [t]) else lan R i := by
  unfold movT
  rw [lan_set _ _ _ _ (by rw [List.length_set]; exact hn)]
  by_cases e : n = i
  · rw [if_pos e, if_pos e.symm]
  · rw [if_neg e, if_neg (Ne.symm e), lan_set _ _ _ _ hm]
    by_cases e2 : m = i
    · rw [if_pos e2, if_pos e2.symm]
    · rw [if_neg e2, if_neg (Ne.symm e2)]
theorem outT_lan {R : List Lan} {n : Nat} {T : List Int} (hn : n < R.length) (i : Nat) : lan (outT R n T) i = if i = n then ((lan R n).1, T) else lan R i := by
  unfold outT
  rw [lan_set _ _ _ _ hn]
  by_cases e : n = i
  · rw [if_pos e, if_pos e.symm]
  · rw [if_neg e, if_neg (Ne.symm e)]
theorem movT_cnt {R : List Lan} {t : Int} {n m : Nat} {T : List Int} (hn : n < R.length) (hT : (lan R n).2 = T ++ [t]) (hm : m < R.length) (hnm : m ≠ n) (u : Int) : cnt u (movT R t n m T) = cnt u R := by
  unfold movT
  have h1 := cnt_set u (R.set m ((lan R m).1, (lan R m).2 ++ [t])) n (by rw [List.length_set]; exact hn) ((lan R n).1, T)
  rw [lan_set _ _ _ _ hm, if_neg hnm, hT] at h1
  have h2 := cnt_set u R m hm ((lan R m).1, (lan R m).2 ++ [t])
  simp only [List.count_append] at h1 h2
  omega
theorem outT_cnt {R : List Lan} {t : Int} {n : Nat} {T : List Int} (hn : n < R.length) (hT : (lan R n).2 = T ++ [t]) (u : Int) : cnt u (outT R n T) + (if u = t then 1 else 0) = cnt u R := by
  unfold outT
  have h1 := cnt_set u R n hn ((lan R n).1, T)
  rw [hT] at h1
  simp only [List.count_append, List.count_singleton] at h1
  by_cases e : u = t
  · subst e; simp at h1 ⊢; omega
  · have e' : (t == u) = false := by simp; exact fun h => e h.symm
    rw [e'] at h1
    rw [if_neg e]
    simp at h1; omega
theorem movT_room {R : List Lan} {t : Int} {n m : Nat} {T : List Int} (hn : n < R.length) (hT : (lan R n).2 = T ++ [t]) (hm : m < R.length) (hnm : m ≠ n) : roomR (movT R t n m T) = roomR R := by
  unfold movT
  have h1 := roomR_set (R.set m ((lan R m).1, (lan R m).2 ++ [t])) n (by rw [List.length_set]; exact hn) ((lan R n).1, T)
  rw [lan_set _ _ _ _ hm, if_neg hnm, hT] at h1
  have h2 := roomR_set R m hm ((lan R m).1, (lan R m).2 ++ [t])
  simp only [List.length_append, List.length_singleton] at h1 h2
  omega
theorem outT_room {R : List Lan} {t : Int} {n : Nat} {T : List Int} (hn : n < R.length) (hT : (lan R n).2 = T ++ [t]) : roomR (outT R n T) = roomR R + 1 := by
  unfold outT
  have h1 := roomR_set R n hn ((lan R n).1, T)
  rw [hT] at h1
  simp only [List.length_append, List.length_singleton] at h1
  omega
theorem WF.mov {R : List Lan} (h : WF R) {t : Int} {n m : Nat} {T : List Int} (hn : n < R.length) (hT : (lan R n).2 = T ++ [t]) (hm : m < R.length) (hnm : m ≠ n) (hr : (lan R m).2.length < (lan R m).1) : WF (movT R t n m T) := by
  refine ⟨fun i hi => ?_, fun u => by rw [movT_cnt hn hT hm hnm]; exact h.nd u, fun u hu => by rw [movT_cnt hn hT hm hnm] at hu; exact h.rng u hu⟩
  rw [movT_len] at hi
  rw [movT_lan hn hm hnm]
  split
  · have := h.good n hn; rw [hT] at this; simp at this ⊢; omega
  · split
    · simp; omega
    · exact h.good i hi
theorem WF.out {R : List Lan} (h : WF R) {t : Int} {n : Nat} {T : List Int} (hn : n < R.length) (hT : (lan R n).2 = T ++ [t]) : WF (outT R n T) := by
  refine ⟨fun i hi => ?_, fun u => by have := outT_cnt hn hT u; have := h.nd u; omega, fun u hu => h.rng u (by have := outT_cnt hn hT u; omega)⟩
  rw [outT_len] at hi
  rw [outT_lan hn]
  split
  · have := h.good n hn; rw [hT] at this; simp at this ⊢; omega
  · exact h.good i hi

/-- What a Do does: refused, nothing turns; or the tote goes to a lane; or out. -/
inductive DoIs (R : List Lan) (t f o : Int) : Prop
  | refused (h : doE R t f o ≠ 0) (h2 : doR R t f o = R)
  | to (n m : Nat) (T : List Int) (hf : f = n) (ho : o = m) (hn : n < R.length) (hT : (lan R n).2 = T ++ [t]) (hm : m < R.length) (hnm : m ≠ n) (hr : (lan R m).2.length < (lan R m).1) (h1 : doE R t f o = 0) (h2 : doR R t f o = movT R t n m T)
  | out (n : Nat) (T : List Int) (hf : f = n) (ho : o = -1) (hn : n < R.length) (hT : (lan R n).2 = T ++ [t]) (h1 : doE R t f o = 0) (h2 : doR R t f o = outT R n T)
theorem do_is_ {R : List Lan} (h : WF R) (t f o : Int) : DoIs R t f o := by
  by_cases hb : badM R.length f o
  · exact .refused (by unfold doE; rw [if_pos hb]; decide) (by unfold doR; rw [if_pos hb])
  · obtain ⟨n, rfl⟩ : ∃ n : Nat, f = n := ⟨f.toNat, by unfold badM at hb; omega⟩
    have hn : n < R.length := by unfold badM at hb; omega
    by_cases hl : (lan R n).2.getLast? ≠ some t
    · exact .refused (by unfold doE; rw [if_neg hb, Int.toNat_natCast, if_pos hl]; decide) (by unfold doR; rw [if_neg hb, Int.toNat_natCast, if_pos hl])
    · obtain ⟨T, hT⟩ : ∃ T, (lan R n).2 = T ++ [t] := by
        rcases List.eq_nil_or_concat (lan R n).2 with h' | ⟨T, x, h'⟩
        · rw [h'] at hl; simp at hl
        · rw [h'] at hl; simp at hl; exact ⟨T, by rw [h', hl]; simp⟩
      by_cases ho : 0 ≤ o
      · obtain ⟨m, rfl⟩ : ∃ m : Nat, o = m := ⟨o.toNat, by omega⟩
        have hm : m < R.length := by unfold badM at hb; omega
        have hnm : m ≠ n := by unfold badM at hb; omega
        by_cases hr : (lan R m).2.length < (lan R m).1
        · obtain ⟨h1, h2⟩ := do_to h hn hT hm hnm hr
          exact .to n m T rfl rfl hn hT hm hnm hr h1 h2
        · have hp : pushE (lan R m).1 (lan R m).2 t ≠ 0 := by
            have := h.good m hm
            unfold pushE
            split
            · decide
            · split
              · decide
              · rw [if_pos (by omega)]; decide
          exact .refused (by unfold doE; rw [if_neg hb, Int.toNat_natCast, if_neg hl, Int.toNat_natCast, if_pos ⟨ho, hp⟩]; exact hp) (by unfold doR; rw [if_neg hb, Int.toNat_natCast, if_neg hl, Int.toNat_natCast, if_pos ⟨ho, hp⟩])
      · obtain rfl : o = -1 := by unfold badM at hb; omega
        obtain ⟨h1, h2⟩ := do_out h hn hT
        exact .out n T rfl rfl hn hT h1 h2
/-- There and back. -/
theorem movT_back {R : List Lan} (h : WF R) {t : Int} {n m : Nat} {T : List Int} (hn : n < R.length) (hT : (lan R n).2 = T ++ [t]) (hm : m < R.length) (hnm : m ≠ n) (hr : (lan R m).2.length < (lan R m).1) :
    whereR t (movT R t n m T) = m ∧ doE (movT R t n m T) t m n = 0 ∧ doR (movT R t n m T) t m n = R := by
  have hw := h.mov hn hT hm hnm hr
  have hl := movT_lan (t := t) (T := T) hn hm hnm
  have hlm : (lan (movT R t n m T) m).2 = (lan R m).2 ++ [t] := by rw [hl, if_neg hnm, if_pos rfl]
  have hln : lan (movT R t n m T) n = ((lan R n).1, T) := by rw [hl, if_pos rfl]
  have hlen := movT_len R t n m T
  have hg := h.good n hn
  rw [hT] at hg
  simp only [List.length_append, List.length_singleton] at hg
  obtain ⟨h1, h2⟩ := do_to hw (n := m) (m := n) (by rw [hlen]; exact hm) hlm (by rw [hlen]; exact hn) (Ne.symm hnm) (by rw [hln]; simp; omega)
  refine ⟨where_is hw (by rw [hlen]; exact hm) (by rw [hlm]; simp), h1, ?_⟩
  rw [h2]
  refine rack_ext (by rw [movT_len, hlen]) (fun i hi => ?_)
  rw [movT_lan (by rw [hlen]; exact hm) (by rw [hlen]; exact hn) (Ne.symm hnm)]
  split
  · subst_vars; rw [hl, if_neg hnm, if_pos rfl]
  · split
    · subst_vars; rw [hln]; simp only; rw [← hT]
    · rw [hl, if_neg (by assumption), if_neg (by assumption)]
theorem lanT_at (R : List Lan) (i : Nat) (h : i < R.length) : lanT R i = (lan R i).2 := by unfold lanT; rw [if_pos (by omega)]; simp
end Go.Proofs.Ytegoilhkooneaaa
