/-
  Plain: what the law of getting all out looks at.
-/
import Derived.Test.YtegoilhkooneaaaAp
namespace Go.Proofs.Ytegoilhkooneaaa
set_option linter.unusedVariables false
set_option linter.unusedSimpArgs false

theorem putE_zero {R : List Lan} {t : Int} (h : Good R) (h1 : 1 ≤ t) (h30 : t ≤ 30) (hE : putE R t = 0) : PutTo R (putR R t) t ∧ cnt t R = 0 := by
  by_cases hc : cnt t R = 0
  · rcases Int.lt_or_le 0 (roomR R) with hr | hr
    · exact ⟨put_to h h1 h30 hc hr, hc⟩
    · rw [(put_full h h1 h30 hc hr).1] at hE; cases hE
  · rw [(put_twice h1 h30 (by omega)).1] at hE; cases hE
theorem putE_not {R : List Lan} {t : Int} (hE : putE R t ≠ 0) : putR R t = R := by unfold putR; rw [if_neg hE]

/-- n lanes of depth d; ins: the totes that stand in it. -/
structure InS (R : List Lan) (n d : Nat) (ins : List Int) : Prop where
  wf : WF R
  len : R.length = n
  dep : ∀ i, i < n → (lan R i).1 = d
  cnt : ∀ u, cnt u R = ins.count u
  room : roomR R + ins.length = ((n * d : Nat) : Int)
  le : ins.length ≤ (n - 1) * d
theorem inS_init (n d : Nat) (hn : 1 ≤ n) (hd1 : 1 ≤ d) (hd8 : d ≤ 8) : InS (rack0 (List.replicate n (d : Int))) n d [] := by
  have hE := Evn_init' n d hn
  refine ⟨WF.init _, by rw [rack0_len]; simp, hE, fun u => by rw [rack0_cnt]; simp, ?_, by simp⟩
  rw [rack0_room _ (fun x hx => by rw [List.eq_of_mem_replicate hx]; unfold okD; omega)]
  simp [List.sum_replicate_int]
where
  Evn_init' (n d : Nat) (hn : 1 ≤ n) : ∀ i, i < n → (lan (rack0 (List.replicate n (d : Int))) i).1 = d := by
    intro i hi
    have e : rack0 (List.replicate n (d : Int)) = List.replicate n (d, []) := by simp [rack0]
    rw [e]
    simp [lan, List.getD, List.getElem?_replicate, hi]
theorem inS_put {R : List Lan} {n d : Nat} {ins : List Int} (h : InS R n d ins) {t : Int} (h1 : 1 ≤ t) (h30 : t ≤ 30) (hl : ins.length < (n - 1) * d) :
    (putE R t = 0 ∧ InS (putR R t) n d (ins ++ [t])) ∨ (putE R t ≠ 0 ∧ putR R t = R) := by
  by_cases hE : putE R t = 0
  · obtain ⟨p, hc⟩ := putE_zero h.wf.good h1 h30 hE
    refine .inl ⟨hE, ⟨putTo_wf h.wf p h1 h30 hc, by rw [p.len]; exact h.len, fun i hi => by rw [putR_dep]; exact h.dep i hi, fun u => ?_, ?_, by simp; omega⟩⟩
    · rw [p.cnt, h.cnt, List.count_append, List.count_singleton]
      by_cases e : u = t
      · simp [e]
      · have e' : (t == u) = false := by simp; exact fun h => e h.symm
        simp [e, e']
    · have := p.room
      have := h.room
      simp only [List.length_append, List.length_singleton]
      omega
  · exact .inr ⟨hE, putE_not hE⟩
/-- What the getting out of one tote is. -/
structure OutS (R : List Lan) (n d : Nat) (x : Int) (ins' : List Int) (Rf : List Lan) : Prop where
  err : planE R x = 0
  run : runL R (planL R x) = some Rf
  st : InS Rf n d ins'
  gone : whereR x Rf = -1
  len : (planL R x).length ≤ 9
theorem inS_out {R : List Lan} {n d : Nat} {ins : List Int} (h : InS R n d ins) (hn : 1 ≤ n) (hd : d ≤ 8) (i : Nat) (hi : i < ins.length) : ∃ Rf, OutS R n d (ins.getD i 0) (ins.take i ++ ins.drop (i + 1)) Rf := by
  obtain ⟨x, hx⟩ : ∃ x, ins.getD i 0 = x := ⟨_, rfl⟩
  rw [hx]
  have hsp : ins = ins.take i ++ x :: ins.drop (i + 1) := by
    have h1 : ins.drop i = x :: ins.drop (i + 1) := by
      rw [List.drop_eq_getElem_cons hi, ← hx]
      simp [List.getD, List.getElem?_eq_getElem hi]
    rw [← h1, List.take_append_drop]
  have hcx : ∀ u, ins.count u = (ins.take i ++ ins.drop (i + 1)).count u + if u = x then 1 else 0 := fun u => by
    conv => lhs; rw [hsp]
    rw [List.count_append, List.count_append, List.count_cons]
    by_cases e : u = x
    · simp [e]; omega
    · have e' : (x == u) = false := by simp; exact fun h => e h.symm
      simp [e, e']
  have hln : ins.length = (ins.take i ++ ins.drop (i + 1)).length + 1 := by simp; omega
  have hc : 0 < cnt x R := by rw [h.cnt, hcx, if_pos rfl]; omega
  have hw : 0 ≤ whereR x R := (where_cnt x R).2 hc
  obtain ⟨a, ha⟩ : ∃ a : Nat, whereR x R = a := ⟨(whereR x R).toNat, by omega⟩
  obtain ⟨haR, hidx, _⟩ := whereR_at x R a ha
  have hidx : 0 ≤ idx x (lan R a).2 := hidx
  obtain ⟨j, hj⟩ : ∃ j : Nat, idx x (lan R a).2 = j := ⟨(idx x (lan R a).2).toNat, by omega⟩
  have hjl := idx_lt x (lan R a).2
  have hA := ahead_len (lan R a).2 x j hj
  have hdepa := h.dep a (by rw [← h.len]; exact haR)
  have hga := h.wf.good a haR
  have hroom := h.room
  have hle := h.le
  have hmul : n * d = (n - 1) * d + d := by
    obtain ⟨m, rfl⟩ : ∃ m, n = m + 1 := ⟨n - 1, by omega⟩
    rw [Nat.add_sub_cancel, Nat.succ_mul]
  have hX : (((lan R a).2.length : Int)) ≤ roomX R a := by unfold roomX; omega
  rcases planIs h.wf ha with ⟨_, _, h3⟩ | ⟨P, l, R1, e1, e2, e3, e4, e5, e6, e7⟩
  · exfalso; omega
  · have hO := out_of haR e6
    rw [← e2] at e7
    have hcn := hO.cnt
    refine ⟨_, e1, e7, ⟨hO.wf, by rw [hO.len]; exact h.len, fun i hi => by rw [hO.dep i (by rw [h.len]; exact hi)]; exact h.dep i hi, fun u => ?_, ?_, by omega⟩, where_not ?_, by rw [e2]; simp; omega⟩
    · have h1 := hcn u
      have h2 := hcx u
      rw [h.cnt u, h2] at h1
      omega
    · have := hO.room; omega
    · have h1 := hcn x
      have h2 := h.wf.nd x
      rw [if_pos rfl] at h1
      omega
end Go.Proofs.Ytegoilhkooneaaa
