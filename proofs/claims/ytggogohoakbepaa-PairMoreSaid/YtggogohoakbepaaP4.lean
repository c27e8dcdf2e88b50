/-
  pair.Best for whatever spots; the turned spots.
-/
import Derived.Test.YtggogohoakbepaaP3
namespace Go.Proofs.Ytggogohoakbepaa
open Go.RowKit Go.Sort
set_option linter.unusedVariables false
set_option linter.unusedSimpArgs false

def bestN (ss gs : List Spot) : Int := if okL ss ∧ okL gs then alone ss + alone gs - M gs ss 0 else 0
def bestE (ss gs : List Spot) : Int := if okL ss ∧ okL gs then 0 else 1
def bestL (ss gs : List Spot) : List Int := if okL ss ∧ okL gs then R gs ss 0 else []
def BestAny (ss gs : List Spot) (w : World) (e : Ending) (w' : World) : Prop := ∃ q, e = .returned (.tuple #[q, .int .i64 (bestN ss gs), .int .i64 (bestE ss gs)]) ∧ NewI w w' q (bestL ss gs)
theorem best_any (u v : Value) (ss gs : List Spot) (w : World) (hu : RdS w u ss) (hv : RdS w v gs) : Calls Try.prog 14 #[u, v] w (BestAny ss gs w) := by
  by_cases h : okL ss ∧ okL gs
  · refine (best_ok u v ss gs w hu hv h.1 h.2).mono ?_
    rintro e w' ⟨q, he, hN⟩
    refine ⟨q, ?_, ?_⟩
    · unfold bestN bestE; rw [if_pos h, if_pos h]; exact he
    · unfold bestL; rw [if_pos h]; exact hN
  · refine (best_bad u v ss gs w hu hv (by by_cases h1 : okL ss; exact .inr (fun h2 => h ⟨h1, h2⟩); exact .inl h1)).mono ?_
    rintro e w' ⟨he, hf⟩
    refine ⟨.slice none 0 0, ?_, ?_⟩
    · unfold bestN bestE; rw [if_neg h, if_neg h]; exact he
    · unfold bestL; rw [if_neg h]; exact ⟨Sl.nil _ _ _, hf, by simp [Value.ownBlock]⟩
theorem bestE_01 (ss gs : List Spot) : bestE ss gs = 0 ∨ bestE ss gs = 1 := by unfold bestE; split <;> simp
theorem M_le_alone (gs ss : List Spot) : M gs ss 0 ≤ alone ss := by
  have h : ∀ (ss : List Spot) (t : Nat), M gs ss t ≤ alone ss := by
    intro ss
    induction ss with
    | nil => intro t; simp [M, alone]
    | cons s r ih =>
      intro t
      have hnn := hm_nonneg s
      have e : alone (s :: r) = 2 * hm s + alone r := by simp [alone]
      rw [e]
      unfold M
      rcases bst_at gs s (M gs r) t gs.length with h | ⟨g, _, _, h⟩
      · have := ih t; omega
      · have := ih (t ||| 2 ^ g); have := sv_le_s s (gs.getD g (0, 0)); omega
  exact h ss 0
theorem bestN_bd (ss gs : List Spot) : 0 ≤ bestN ss gs ∧ bestN ss gs ≤ 24000 := by
  unfold bestN
  split
  · rename_i h
    have n1 := alone_nonneg ss
    have n2 := alone_nonneg gs
    have n3 := alone_le ss h.1.2
    have n4 := alone_le gs h.2.2
    have n5 := M_bd gs ss h.1.2 h.1.1 0
    have n6 : M gs ss 0 ≤ alone ss := by
      exact M_le_alone gs ss
    have := h.1.1
    have := h.2.1
    omega
  · omega

/-- A slice of spots that may be written. -/
def SlS (w : World) (v : Value) (l : List Spot) : Prop := Sl w 23 2 v l.length (spC l)
theorem SlS.form {w : World} {v : Value} {l : List Spot} (h : SlS w v l) : ∃ a c, v = .slice a l.length c := by
  obtain ⟨hl, ⟨rfl, h0⟩ | ⟨g, off, cap, cur, rfl, _⟩⟩ := h
  · exact ⟨none, 0, by rw [h0]⟩
  · exact ⟨_, _, rfl⟩
theorem NewS.form {w w' : World} {v : Value} {l : List Spot} (h : NewS w w' v l) : ∃ a c, v = .slice a l.length c := SlS.form h.1
theorem NewS.keep {a w w' : World} {S : Nat → Prop} {v : Value} {l : List Spot} (h : NewS a w v l) (hf : Fr w w' S) (hS : ∀ g, v.ownBlock = some g → ¬ S g) (hS' : ∀ g, S g → a.heap.size ≤ g) : NewS a w' v l :=
  ⟨Sl.keep h.1 hf hS, h.2.1.into hf hS', h.2.2⟩
theorem NewS.keep0 {a w w' : World} {v : Value} {l : List Spot} (h : NewS a w v l) (hf : Fr w w' No) : NewS a w' v l := h.keep hf (fun _ _ h => h) (fun _ h => h.elim)
theorem NewS.from {a w w' : World} {v : Value} {l : List Spot} (h : NewS w w' v l) (hf : Fr a w No) : NewS a w' v l :=
  ⟨h.1, hf.nn h.2.1, fun k hk => Nat.le_trans hf.size (h.2.2 k hk)⟩
theorem NewS.app {a w wb w' : World} {v v' : Value} {ts ts' : List Spot} (h : NewS a w v ts) (hb : Fr w wb No) (h1 : SlS w' v' ts') (h2 : Fr wb w' (fun g => v.ownBlock = some g)) (h3 : v'.ownBlock = v.ownBlock ∨ v'.ownBlock = some wb.heap.size) : NewS a w' v' ts' :=
  ⟨h1, (h.2.1.nn hb).into h2 h.2.2, fun k hk => by
    rcases h3 with e | e
    · exact h.2.2 k (e ▸ hk)
    · rw [hk] at e; cases e; exact Nat.le_trans h.2.1.size hb.size⟩
theorem spC_append (a b : List Spot) : spC (a ++ b) = spC a ++ spC b := by simp [spC]

/-- 'append(v, s)' -/
theorem wpList_appSp {w : World} {ops : Array Oper} {rest : List Oper} {o : Oper} {a : Act} {Q : Exit → Act → World → Prop} (hgd : o.guard = none) (s x : Operand)
    (ho : o.op = .call { callee := .builtin .append, args := #[s, x], argTypes := #[30, 30] })
    (v : Value) (ts : List Spot) (hev : a.eval s = v) (hs : SlS w v ts) (b : Nat) (y : Spot) (hex : a.eval x = .slice (some ⟨b, 0, none⟩) 1 1) (hb : w.heap[b]? = some (.cells #[.int .i64 y.1, .int .i64 y.2] 23 (0, 0)))
    (hl : ts.length ≤ 10000000)
    (h : ∀ v' w', SlS w' v' (ts ++ [y]) → Fr w w' (fun g => v.ownBlock = some g) → (v'.ownBlock = v.ownBlock ∨ v'.ownBlock = some w.heap.size) → wpList Try.prog ops Q rest (a.put o.dst v') w') : wpList Try.prog ops Q (o :: rest) a w := by
  obtain ⟨i0, hi, hz0, hz1, hz2⟩ := info_parts info23
  refine wpList_app hgd s x 30 ho 23 i0 (.agg #[.int .i64 0, .int .i64 0]) 2 16 Try.underlying30 hi hz0 hz1 hz2 rfl (by decide) v ts.length _ hev hs _ 1 [.int .i64 y.1, .int .i64 y.2] hex (Sl.made (k := 2) hb rfl (by decide)).rd (by simp [Value.oneCell']) (by unfold maxLen; omega) (by omega) ?_
  intro v' w' h1 h2 h3 _
  refine h v' w' ?_ h2 h3
  unfold SlS
  rw [List.length_append, spC_append]
  exact h1

theorem rot_take (l : List Spot) (k i : Nat) (hi : i < l.length) : (rot l k).take (i + 1) = (rot l k).take i ++ [l.getD ((i + k) % l.length) (0, 0)] := by
  rw [← rot_at l k i hi, List.take_succ_eq_append_getElem (by rw [rot_len]; exact hi)]
  simp [List.getD, List.getElem?_eq_getElem (show i < (rot l k).length by rw [rot_len]; exact hi)]

/-- By how much it is turned. -/
def turnK (by_ : Int) : Nat := ((IntKind.u64.wrap by_) % 7).toNat
theorem turnK_lt (by_ : Int) : turnK by_ < 7 := by
  have := umod by_ 7 (by decide) (by decide)
  unfold turnK; omega
theorem turn_idx (by_ : Int) (i n : Nat) (hn : n ≤ 100) (hi : i < n) : (wrap64 (↑i + wrap64 ((IntKind.u64.wrap by_).tmod 7))).tmod ↑n = (((i + turnK by_) % n : Nat) : Int) := by
  obtain ⟨h1, h2, h3⟩ := umod by_ 7 (by decide) (by decide)
  rw [h1]
  have e : (IntKind.u64.wrap by_) % 7 = (turnK by_ : Int) := by unfold turnK; omega
  rw [e]
  have := turnK_lt by_
  have e2 : wrap64 ((i : Int) + (turnK by_ : Int)) = ((i + turnK by_ : Nat) : Int) := by unfold wrap64; omega
  rw [e2, Int.tmod_eq_emod_of_nonneg (by omega)]
  simp
set_option maxRecDepth 100000 in
set_option maxHeartbeats 1000000 in
theorem turn_any (v : Value) (l : List Spot) (bb : Nat) (by_ : Int) (w : World) (hv : RdS w v l) (hl : l.length ≤ 100) (hb : w.cell? ⟨bb, 0, none⟩ = some (.int .i64 by_)) :
    Calls Try.prog 19 #[v, .pointer (some ⟨bb, 0, none⟩)] w fun e w' => ∃ v', e = .returned v' ∧ NewS w w' v' (rot l (turnK by_)) := by
  obtain ⟨a, c, rfl⟩ := hv.form
  have HV := Lib.hid hv
  have HB := Lib.hid hb
  clear hv hb
  go_enter Try.func19, Try.ntmps19
  go_wp2
  go_loopg [4, 5, 8] l.length (fun g v4 _ v8 wr => ∃ (i : Nat) (v : Value), v = v4 ∧ i + g = l.length ∧ v8 = .int .i64 i ∧ NewS w wr v4 ((rot l (turnK by_)).take i))
  case atStart => exact ⟨0, _, rfl, by omega, rfl, Sl.nil _ _ _, Fr.refl _ _, by simp [Value.ownBlock]⟩
  case round =>
    obtain ⟨i, v4, rfl, hg, rfl, hN⟩ := hrel
    have HG := Lib.hid hg
    have HN := Lib.hid hN
    clear hg hN
    by_cases hlt : i < l.length
    · have hK : turnK by_ < 7 := turnK_lt by_
      have hm : (i + turnK by_) % l.length < l.length := Nat.mod_lt _ (by omega)
      have HT := Lib.hid (rot_take l (turnK by_) i hlt)
      obtain ⟨T, hT⟩ : ∃ T, T = (rot l (turnK by_)).take i := ⟨_, rfl⟩
      have HN' : Hid (NewS w wr v4 T) := by rw [hT]; exact HN
      have he := turn_idx by_ i l.length hl hlt
      obtain ⟨m, hmm⟩ : ∃ m, m = (i + turnK by_) % l.length := ⟨_, rfl⟩
      rw [← hmm] at hm he
      have HMM := Lib.hid hmm
      have HTT := Lib.hid hT
      clear HN hT hmm
      obtain ⟨a4, c4, rfl⟩ := HN'.out.form
      have hcb := HN'.out.2.1.cell HB.out id
      obtain ⟨b, off, rfl, h1, h2⟩ := (HV.out.keep0 HN'.out.2.1).at_ m hm
      have hTl : T.length ≤ 100 := by rw [HTT.out]; simp; omega
      have hm0 : (0 : Int) ≤ (m : Int) := by omega
      have hm1 : (m : Int) < (l.length : Int) := by omega
      generalize hs : l.getD m (0, 0) = s at *
      have HS := Lib.hid hs
      clear hs
      go_wp2_with (at_builtin; refine wpList_appSp rfl (.tmp 11) (.tmp 24) rfl (.slice a4 T.length c4) T rfl ?c1 wr.heap.size s rfl ?c2 ?c3 ?_)
      case c1 => exact Sl.keep0 HN'.out.1 (Fr.alloc _ _ _)
      case c2 => have := blk_new wr (.cells #[.int .i64 s.1, .int .i64 s.2] 23); simpa using this
      case c3 => omega
      intro v6 w6 h1' h2' h3'
      have HN6 := Lib.hid (HN'.out.app (Fr.alloc _ _ No) h1' h2' (by simpa using h3'))
      clear h1' h2' h3' hcb h1 h2 he
      go_wp2_with fail
      go_roundg (gk - 1)
      case measure => have := HG.out; omega
      case rel => exact ⟨i + 1, _, rfl, by have := HG.out; omega, by go_num, by rw [HT.out, ← HTT.out, ← HMM.out, HS.out]; exact HN6.out⟩
    · have e : (rot l (turnK by_)).take i = rot l (turnK by_) := List.take_of_length_le (by rw [rot_len]; omega)
      have hN := HN.out
      rw [e] at hN
      have HN2 := Lib.hid hN
      clear HN hN e
      go_wp2
      go_ret
      exact ⟨_, rfl, HN2.out⟩
/-- A slice of spots, out of its cells. -/
theorem Rd.spots {w : World} {v : Value} {n : Nat} {fl : List Int} (h : Rd w v n (fl.map (Value.int .i64)) 2) (hn : n ≤ 8796093022207) : ∃ l : List Spot, RdS w v l ∧ l.length = n := by
  obtain ⟨hl, a, c, rfl, hnone, hs⟩ := h
  have key : ∀ (n : Nat) (fl : List Int), fl.length = n * 2 → ∃ l : List Spot, l.length = n ∧ spC l = fl.map (Value.int .i64) := by
    intro n
    induction n with
    | zero =>
      intro fl h
      obtain rfl : fl = [] := List.eq_nil_of_length_eq_zero (by simpa using h)
      exact ⟨[], rfl, rfl⟩
    | succ n ih =>
      intro fl h
      match fl, h with
      | x :: y :: r, h =>
        obtain ⟨l, h1, h2⟩ := ih r (by simp at h; omega)
        exact ⟨(x, y) :: l, by simp [h1], by simp [spC] at h2 ⊢; exact h2⟩
      | [x], h => simp at h; omega
      | [], h => simp at h
  obtain ⟨l, h1, h2⟩ := key n fl (by simpa using hl)
  subst h1
  exact ⟨l, ⟨⟨spC_len l, a, c, rfl, hnone, fun hp => by
    obtain ⟨b, off, rfl, hc⟩ := hs hp
    exact ⟨b, off, rfl, fun j u hu => hc j u (by rw [← h2]; exact hu)⟩⟩, hn⟩, rfl⟩
end Go.Proofs.Ytggogohoakbepaa
