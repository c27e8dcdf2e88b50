import Derived.Test.YtegoilhkooneaaaProg
import Derived.Test.YtegoilhkooneaaaM
namespace Go.Proofs.Ytegoilhkooneaaa
open Go.RowKit
set_option linter.unusedVariables false
set_option linter.unusedSimpArgs false

/-- The place of a number in a list; -1: none. -/
def idx (t : Int) : List Int → Int
  | [] => -1
  | x :: r => if t = x then 0 else if idx t r < 0 then -1 else idx t r + 1

/-- A slice of ints that can be read: its elements. -/
def RdI (w : World) (v : Value) (zs : List Int) : Prop := Rd w v zs.length (zs.map (Value.int .i64)) 1 ∧ zs.length ≤ 17592186044415
/-- A slice of ints that may be written. -/
def SlI (w : World) (v : Value) (zs : List Int) : Prop := Sl w 3 1 v zs.length (zs.map (Value.int .i64))
theorem SlI.rd {w : World} {v : Value} {zs : List Int} (h : SlI w v zs) (hl : zs.length ≤ 17592186044415) : RdI w v zs := ⟨Sl.rd h, hl⟩
theorem RdI.open_ {w : World} {v : Value} {zs : List Int} (h : RdI w v zs) :
    ∃ a c, v = .slice a zs.length c ∧ (a = none → zs = [] ∧ c = 0) ∧ (zs = [] ∨ ∃ b off, a = some ⟨b, off, none⟩ ∧ ∀ j, j < zs.length → w.cell? ⟨b, off + j, none⟩ = some (.int .i64 (zs.getD j 0))) := by
  obtain ⟨⟨_, a, c, rfl, hn, hs⟩, hl⟩ := h
  refine ⟨a, c, rfl, fun h => ⟨List.eq_nil_of_length_eq_zero (hn h).1, (hn h).2⟩, ?_⟩
  by_cases hz : zs = []
  · exact .inl hz
  · obtain ⟨b, off, rfl, hc⟩ := hs (by have : zs.length ≠ 0 := fun e => hz (List.eq_nil_of_length_eq_zero e); omega)
    exact .inr ⟨b, off, rfl, fun j hj => hc j _ (by simp [List.getElem?_eq_getElem hj, List.getD])⟩
theorem RdI.keep {w w' : World} {S : Nat → Prop} {v : Value} {zs : List Int} (h : RdI w v zs) (hf : Fr w w' S) (hS : ∀ g, v.ownBlock = some g → ¬ S g) : RdI w' v zs := by
  obtain ⟨⟨h0, a, c, rfl, hn, hs⟩, hl⟩ := h
  refine ⟨⟨h0, a, c, rfl, hn, fun hp => ?_⟩, hl⟩
  obtain ⟨b, off, rfl, hc⟩ := hs hp
  exact ⟨b, off, rfl, fun j u hu => hf.cell (hc j u hu) (hS b rfl)⟩

theorem RdI.keep0 {w w' : World} {v : Value} {zs : List Int} (h : RdI w v zs) (hf : Fr w w' No) : RdI w' v zs := h.keep hf (fun _ _ h => h)
theorem RdI.drewN {w : World} {v : Value} {zs : List Int} (h : RdI w v zs) (m : Nat) : RdI (w.drewN m) v zs := h.keep0 (Fr.drewN w m No)

theorem idx_ge (t : Int) (l : List Int) : -1 ≤ idx t l := by
  induction l with
  | nil => simp [idx]
  | cons x r ih => unfold idx; split; omega; split <;> omega
theorem idx_lt (t : Int) (l : List Int) : idx t l < l.length := by
  induction l with
  | nil => simp [idx]
  | cons x r ih => unfold idx; simp only [List.length_cons]; split; omega; split <;> omega
theorem RdI.get {w : World} {a : Option Addr} {n c : Nat} {zs : List Int} (h : RdI w (.slice a n c) zs) (k : Nat) (hk : k < zs.length) :
    ∃ b off, a = some ⟨b, off, none⟩ ∧ w.cell? ⟨b, off + k, none⟩ = some (.int .i64 (zs.getD k 0)) := by
  obtain ⟨⟨_, a', c', hv, _, hs⟩, _⟩ := h
  cases hv
  obtain ⟨b, off, rfl, hc⟩ := hs (by omega)
  exact ⟨b, off, rfl, hc k _ (by simp [List.getElem?_eq_getElem hk, List.getD])⟩
theorem RdI.len {w : World} {a : Option Addr} {n c : Nat} {zs : List Int} (h : RdI w (.slice a n c) zs) : n = zs.length := by
  obtain ⟨⟨_, a', c', hv, _⟩, _⟩ := h
  cases hv; rfl
theorem SlI.form {w : World} {v : Value} {zs : List Int} (h : SlI w v zs) : ∃ a c, v = .slice a zs.length c ∧ (a = none → zs = []) := by
  obtain ⟨hl, ⟨rfl, h0⟩ | ⟨g, off, cap, cur, rfl, _⟩⟩ := h
  · exact ⟨none, 0, by rw [h0], fun _ => List.eq_nil_of_length_eq_zero h0⟩
  · exact ⟨_, _, rfl, fun e => nomatch e⟩
theorem SlI.cap {w : World} {a : Option Addr} {n c : Nat} {zs : List Int} (h : SlI w (.slice a n c) zs) : zs.length ≤ c := by
  obtain ⟨hl, ⟨hv, h0⟩ | ⟨g, off, cap, cur, hv, _, hn, _⟩⟩ := h
  · cases hv; omega
  · cases hv; omega
theorem SlI.rdn {w : World} {a : Option Addr} {n c : Nat} {zs : List Int} (h : SlI w (.slice a n c) zs) (k c' : Nat) (hk : k ≤ zs.length) (hl : zs.length ≤ 17592186044415) (hc : 0 < k ∨ a ≠ none) : RdI w (.slice a k c') (zs.take k) := by
  obtain ⟨⟨_, a', c'', hv, hn, hs⟩, _⟩ := SlI.rd h hl
  cases hv
  have e : (zs.take k).length = k := by simp; omega
  refine ⟨⟨by simp, a, c', by rw [e], fun h0 => ?_, fun hp => ?_⟩, by omega⟩
  · rcases hc with hc | hc
    · have := (hn h0).1; omega
    · exact absurd h0 hc
  · obtain ⟨b, off, rfl, hcell⟩ := hs (by omega)
    refine ⟨b, off, rfl, fun j u hu => hcell j u ?_⟩
    rw [List.map_take, List.getElem?_take] at hu
    split at hu
    · exact hu
    · cases hu
theorem idx_append (t x : Int) (l : List Int) : idx t (l ++ [x]) = if 0 ≤ idx t l then idx t l else if t = x then (l.length : Int) else -1 := by
  induction l with
  | nil => simp only [idx, List.nil_append]; split <;> simp
  | cons y r ih =>
    have h1 := idx_ge t r
    simp only [List.cons_append, idx, ih, List.length_cons]
    by_cases e : t = y
    · simp [e]
    · simp only [e, if_false]
      by_cases e2 : 0 ≤ idx t r
      · rw [if_pos e2, if_neg (by omega), if_pos (by omega)]
      · rw [if_neg e2]
        have e4 : idx t r < 0 := by omega
        by_cases e3 : t = x
        · simp only [if_pos e3, if_pos e4]; (repeat' split) <;> omega
        · simp only [if_neg e3, if_pos e4]; (repeat' split) <;> omega

/-- none of the first k is t, and the next one is. -/
theorem idx_hit (t : Int) (l : List Int) (k : Nat) (hk : k < l.length) (h : ∀ j, j < k → l.getD j 0 ≠ t) (he : l.getD k 0 = t) : idx t l = k := by
  induction l generalizing k with
  | nil => simp at hk
  | cons x r ih =>
    cases k with
    | zero => simp at he; simp [idx, he]
    | succ k =>
      have h0 := h 0 (by omega)
      simp at h0
      have := ih k (by simpa using hk) (fun j hj => by have := h (j + 1) (by omega); simpa using this) (by simpa using he)
      unfold idx
      rw [if_neg (fun e => h0 e.symm), this, if_neg (by omega)]
      omega
theorem idx_miss (t : Int) (l : List Int) (h : ∀ j, j < l.length → l.getD j 0 ≠ t) : idx t l = -1 := by
  induction l with
  | nil => simp [idx]
  | cons x r ih =>
    have h0 := h 0 (by simp)
    simp at h0
    have := ih (fun j hj => by have := h (j + 1) (by simp; omega); simpa using this)
    unfold idx
    rw [if_neg (fun e => h0 e.symm), this, if_pos (by omega)]

set_option maxHeartbeats 400000 in
theorem index_any (v : Value) (zs : List Int) (t : Int) (w : World) (hv : RdI w v zs) :
    Calls Try.prog 55 #[v, .int .i64 t] w fun e w' => e = .returned (.int .i64 (idx t zs)) ∧ w = w' := by
  have hl := hv.2
  obtain ⟨a, c, rfl, _, hr⟩ := hv.open_
  rcases hr with rfl | ⟨b, off, rfl, hc⟩
  · go_enter Try.func55, Try.ntmps55
    go_wp2
    refine wp_loop_rounds 1 ?_
    rw [rounds_succ]
    go_wp2
    go_ret
    exact ⟨rfl, rfl⟩
  · go_enter Try.func55, Try.ntmps55
    go_wp2
    go_loop [5, 8] (fun _ i => ∃ k : Nat, k ≤ zs.length ∧ i = .int .i64 k ∧ ∀ j, j < k → zs.getD j 0 ≠ t) (fun _ i => zs.length - (intOf i).toNat)
    case atStart => exact ⟨0, Nat.zero_le _, rfl, by omega⟩
    case round =>
      obtain ⟨k, hk, rfl, hn⟩ := hrel
      have HN := Lib.hid hn
      clear hn
      have hcell : k < zs.length → w.cell? ⟨b, off + k, none⟩ = some (.int .i64 (zs.getD k 0)) := fun h => hc k h
      go_wp2
      · have hlt : k < zs.length := by assumption
        have hq : (t == zs[k]) = true := by assumption
        have e : idx t zs = k := idx_hit t zs k hlt HN.out (by rw [List.getD_eq_getElem?_getD, List.getElem?_eq_getElem hlt]; simpa using (by simpa using hq : t = zs[k]).symm)
        go_ret
        exact ⟨by rw [e]; rfl, rfl⟩
      · have hlt : k < zs.length := by assumption
        have hq : (t == zs[k]) = false := by assumption
        go_round
        case rel =>
          refine ⟨k + 1, by omega, by go_num, fun j hj => ?_⟩
          rcases Nat.lt_or_ge j k with h | h
          · exact HN.out j h
          · obtain rfl : j = k := by omega
            rw [List.getD_eq_getElem?_getD, List.getElem?_eq_getElem hlt]
            simp at hq
            simpa using fun e => hq e.symm
        case measure => simp [intOf]; omega
      · have hge : ¬ k < zs.length := by assumption
        have e : idx t zs = -1 := idx_miss t zs (fun j hj => HN.out j (by omega))
        go_ret
        exact ⟨by rw [e]; rfl, rfl⟩

/-- Is a number in a list? -/
def has (t : Int) (l : List Int) : Bool := decide (0 ≤ idx t l)

theorem has_snoc (t x : Int) (l : List Int) : has t (l ++ [x]) = (has t l || (x == t)) := by
  unfold has
  rw [idx_append]
  by_cases e : 0 ≤ idx t l
  · simp [e]
  · by_cases e2 : t = x
    · subst e2; simp [e]
    · have : (x == t) = false := by simp; exact fun h => e2 h.symm
      simp [e, e2, this]

set_option maxHeartbeats 400000 in
theorem contains_any (v : Value) (zs : List Int) (t : Int) (w : World) (hv : RdI w v zs) :
    Calls Try.prog 50 #[v, .int .i64 t] w fun e w' => e = .returned (.bool (has t zs)) ∧ w = w' := by
  go_enter Try.func50, Try.ntmps50
  go_wp2_with (go_at_call 55; refine (index_any _ zs _ _ hv).mono ?_; rintro e w' ⟨rfl, rfl⟩)
  go_ret
  exact ⟨by simp [has], rfl⟩

theorem info3 : (Try.prog.info? 3).map (fun i => (i.zero, i.size, i.bytes)) = some (some (.int .i64 0), 1, 8) := by kernel_rfl

/-- A slice of ints that the call has made. -/
def NewI (w w' : World) (v : Value) (zs : List Int) : Prop := SlI w' v zs ∧ Fr w w' No ∧ ∀ k, v.ownBlock = some k → w.heap.size ≤ k

theorem NewI.from {a w w' : World} {v : Value} {zs : List Int} (h : NewI w w' v zs) (hf : Fr a w No) : NewI a w' v zs :=
  ⟨h.1, hf.nn h.2.1, fun k hk => Nat.le_trans hf.size (h.2.2 k hk)⟩

theorem oneI (zs : List Int) : ∀ u ∈ zs.map (Value.int .i64), u.oneCell' = true := by
  intro u hu
  obtain ⟨x, _, rfl⟩ := List.mem_map.1 hu
  rfl

/-- 'append(v, y)': the element lies in a new block. -/
theorem wpList_appI {w : World} {ops : Array Oper} {rest : List Oper} {o : Oper} {a : Act} {Q : Exit → Act → World → Prop} (hgd : o.guard = none) (s x : Operand)
    (ho : o.op = .call { callee := .builtin .append, args := #[s, x], argTypes := #[22, 22] })
    (v : Value) (ts : List Int) (hev : a.eval s = v) (hs : SlI w v ts) (b : Nat) (y : Int) (hex : a.eval x = .slice (some ⟨b, 0, none⟩) 1 1) (hb : w.heap[b]? = some (.cells #[.int .i64 y] 3 (0, 0)))
    (hl : ts.length ≤ 10000000)
    (h : ∀ v' w', SlI w' v' (ts ++ [y]) → Fr w w' (fun g => v.ownBlock = some g) → (v'.ownBlock = v.ownBlock ∨ v'.ownBlock = some w.heap.size) → wpList Try.prog ops Q rest (a.put o.dst v') w') : wpList Try.prog ops Q (o :: rest) a w := by
  obtain ⟨i0, hi, hz0, hz1, hz2⟩ := info_parts info3
  refine wpList_app hgd s x 22 ho 3 i0 (.int .i64 0) 1 8 Try.underlying22 hi hz0 hz1 hz2 rfl (by decide) v ts.length _ hev hs _ 1 [.int .i64 y] hex (Sl.made hb rfl (by decide)).rd (by simp [Value.oneCell']) (by unfold maxLen; omega) (by omega) ?_
  intro v' w' h1 h2 h3 _
  refine h v' w' ?_ h2 h3
  unfold SlI
  rw [List.length_append, List.map_append]
  exact h1
/-- 'append(v, ys...)' -/
theorem wpList_appS {w : World} {ops : Array Oper} {rest : List Oper} {o : Oper} {a : Act} {Q : Exit → Act → World → Prop} (hgd : o.guard = none) (s x : Operand)
    (ho : o.op = .call { callee := .builtin .append, args := #[s, x], argTypes := #[22, 22] })
    (v : Value) (ts : List Int) (hev : a.eval s = v) (hs : SlI w v ts) (xv : Value) (ys : List Int) (hex : a.eval x = xv) (hx : RdI w xv ys)
    (hl : ts.length + ys.length ≤ 17592186044416)
    (h : ∀ v' w', SlI w' v' (ts ++ ys) → Fr w w' (fun g => v.ownBlock = some g) → (v'.ownBlock = v.ownBlock ∨ v'.ownBlock = some w.heap.size) → wpList Try.prog ops Q rest (a.put o.dst v') w') : wpList Try.prog ops Q (o :: rest) a w := by
  obtain ⟨i0, hi, hz0, hz1, hz2⟩ := info_parts info3
  refine wpList_app hgd s x 22 ho 3 i0 (.int .i64 0) 1 8 Try.underlying22 hi hz0 hz1 hz2 rfl (by decide) v ts.length _ hev hs xv ys.length (ys.map (Value.int .i64)) hex hx.1 (by intro u hu; obtain ⟨x, _, rfl⟩ := List.mem_map.1 hu; rfl) (by unfold maxLen; omega) (by omega) ?_
  intro v' w' h1 h2 h3 _
  refine h v' w' ?_ h2 h3
  unfold SlI
  rw [List.length_append, List.map_append]
  exact h1
/-- .. of a slice that the call has made. -/
theorem NewI.app {a w wb w' : World} {v v' : Value} {ts ts' : List Int} (h : NewI a w v ts) (hb : Fr w wb No) (h1 : SlI w' v' ts') (h2 : Fr wb w' (fun g => v.ownBlock = some g)) (h3 : v'.ownBlock = v.ownBlock ∨ v'.ownBlock = some wb.heap.size) : NewI a w' v' ts' :=
  ⟨h1, (h.2.1.nn hb).into h2 h.2.2, fun k hk => by
    rcases h3 with e | e
    · exact h.2.2 k (e ▸ hk)
    · rw [hk] at e; cases e; exact Nat.le_trans h.2.1.size hb.size⟩
/-- '[]int{}' -/
theorem NewI.made0 {a w : World} (hf : Fr a w No) : NewI a (w.alloc (.cells #[] 3)) (.slice (some ⟨w.heap.size, 0, none⟩) 0 0) [] :=
  ⟨Sl.made (blk_new w _) rfl (by decide), hf.nn (Fr.alloc w _ No), fun k hk => by simp [Value.ownBlock] at hk; have := hf.size; omega⟩
/-- 'append([]int{}, ts...)' behind it. -/
theorem NewI.app0 {a w w' : World} {v' : Value} {ts : List Int} (hf : Fr a w No) (h1 : SlI w' v' ts) (h2 : Fr (w.alloc (.cells #[] 3)) w' (fun g => (Value.slice (some ⟨w.heap.size, 0, none⟩) 0 0).ownBlock = some g))
    (h3 : v'.ownBlock = (Value.slice (some ⟨w.heap.size, 0, none⟩) 0 0).ownBlock ∨ v'.ownBlock = some (w.heap.size + 1)) : NewI a w' v' ts ∧ Fr w w' No ∧ ∀ k, v'.ownBlock = some k → w.heap.size ≤ k :=
  have h := (NewI.made0 (Fr.refl w No)).app (Fr.refl _ No) h1 h2 (by simpa using h3)
  ⟨h.from hf, h.2.1, h.2.2⟩
theorem NewI.keep {a w w' : World} {S : Nat → Prop} {v : Value} {ts : List Int} (h : NewI a w v ts) (hf : Fr w w' S) (hS : ∀ g, v.ownBlock = some g → ¬ S g) (hS' : ∀ g, S g → a.heap.size ≤ g) : NewI a w' v ts :=
  ⟨Sl.keep h.1 hf hS, h.2.1.into hf hS', h.2.2⟩

set_option maxHeartbeats 400000 in
theorem clone_any (v : Value) (zs : List Int) (w : World) (hv : RdI w v zs) :
    Calls Try.prog 44 #[v] w fun e w' => ∃ v', e = .returned v' ∧ NewI w w' v' zs := by
  obtain ⟨i0, hi, hz0, hz1, hz2⟩ := info_parts info3
  obtain ⟨a, c, rfl, ha, hr⟩ := hv.open_
  have hsl := hv.1
  cases a with
  | none =>
    obtain ⟨rfl, rfl⟩ := ha rfl
    have heq := fun w => Lib.run_eql_slice_nil (P := Try.prog) w (t := 22) (e := 3) none 0 0 0 0 Try.underlying22
    go_enter Try.func44, Try.ntmps44
    go_wp2
    go_ret
    exact ⟨_, rfl, Sl.nil _ _ _, Fr.refl _ _, by simp [Value.ownBlock]⟩
  | some a =>
    have heq := fun w => Lib.run_eql_slice_nil (P := Try.prog) w (t := 22) (e := 3) (some a) zs.length c 0 0 Try.underlying22
    have hl := hv.2
    have HV := Lib.hid hv
    clear ha hr hv hsl
    go_enter Try.func44, Try.ntmps44
    go_wp2_with (at_builtin; refine wpList_app rfl _ _ 22 rfl 3 i0 (.int .i64 0) 1 8 Try.underlying22 hi hz0 hz1 hz2 rfl (by decide) _ 0 [] rfl ?c1 _ zs.length (zs.map (Value.int .i64)) rfl ?c2 (oneI zs) ?c3 ?c4 ?_)
    case c1 => exact Sl.made (blk_new _ _) rfl (by decide)
    case c2 => exact HV.out.1.keep0 (Fr.alloc _ _ _)
    case c3 => unfold maxLen; omega
    case c4 => omega
    intro v' w1 hs1 hf1 ho1 _
    go_wp2
    go_ret
    refine ⟨v', rfl, hs1, (Fr.alloc w _ No).trans hf1 (fun _ _ h => h) (fun i hi e => ?_), fun k hk => ?_⟩
    · simp [Value.ownBlock] at e; omega
    · rcases ho1 with e | e <;> rw [hk] at e <;> simp [Value.ownBlock] at e <;> omega

set_option maxHeartbeats 400000 in
theorem ints_n (u v : Value) (xs ys : List Int) (w : World) (hu : RdI w u xs) (hv : RdI w v ys) :
    Calls Try.prog 21 #[u, v] w fun e w' => e = .returned (.bool (decide (xs = ys))) ∧ ∃ n, w.drewN n = w' := by
  have hlx := hu.2
  have hly := hv.2
  obtain ⟨a, c, rfl, _, hr⟩ := hu.open_
  obtain ⟨a', c', rfl, _, hr'⟩ := hv.open_
  clear hu hv
  by_cases hne : xs.length = ys.length
  · have hb : ((xs.length : Int) != (ys.length : Int)) = false := by simp [hne]
    by_cases h0 : xs.length = 0
    · have h0' := h0
      rw [hne] at h0'
      obtain rfl : xs = [] := List.eq_nil_of_length_eq_zero h0
      obtain rfl : ys = [] := List.eq_nil_of_length_eq_zero h0'
      clear hne h0 h0' hr hr'
      go_enter Try.func21, Try.ntmps21
      go_wp2
      refine wp_loop_rounds 1 ?_
      rw [rounds_succ]
      go_wp2
      go_ret
      exact ⟨rfl, 0, rfl⟩
    · have h0' : ys.length ≠ 0 := by omega
      obtain ⟨b, off, rfl, hc⟩ := hr.resolve_left (fun e => h0 (by rw [e]; rfl))
      obtain ⟨b', off', rfl, hc'⟩ := hr'.resolve_left (fun e => h0' (by rw [e]; rfl))
      have HE := Lib.hid hne
      have HC := Lib.hid hc
      have HC' := Lib.hid hc'
      clear hne hr hr' h0 h0' hc hc'
      go_enter Try.func21, Try.ntmps21
      go_wp2
      go_loopw [5, 13] (fun _ i wr => ∃ k : Nat, k ≤ xs.length ∧ i = .int .i64 k ∧ xs.take k = ys.take k ∧ ∃ n, wr = w.drewN n) (fun _ i _ => xs.length - (intOf i).toNat)
      case atStart => exact ⟨0, Nat.zero_le _, rfl, rfl, 0, rfl⟩
      case round =>
        obtain ⟨k, hk, rfl, hn, n, rfl⟩ := hrel
        have HN := Lib.hid hn
        clear hn
        by_cases hlt : k < xs.length
        · have hlt' : k < ys.length := by have := HE.out; omega
          have hcell := HC.out k hlt
          have hcell' := HC'.out k hlt'
          go_wp2
          go_quiet (fail)
          go_wp2
          · have hq : (xs[k] != ys[k]) = true := by assumption
            go_ret
            refine ⟨?_, n + nq, (World.drewN_drewN _ _ _).symm⟩
            have : ¬ xs = ys := fun e => by subst e; simp at hq
            rw [decide_eq_false this]; rfl
          · have hq : (xs[k] != ys[k]) = false := by assumption
            go_roundw
            case rel => exact ⟨k + 1, by omega, by go_num, by rw [List.take_succ_eq_append_getElem hlt, List.take_succ_eq_append_getElem hlt', HN.out, show xs[k] = ys[k] by simpa using hq], n + nq, rfl⟩
            case measure => simp [intOf]; omega
        · have e : xs = ys := by
            have := HN.out
            rwa [List.take_of_length_le (by omega), List.take_of_length_le (by have := HE.out; omega)] at this
          have hlt' : ¬ k < ys.length := by have := HE.out; omega
          go_wp2
          go_ret
          exact ⟨by simp [e], n, rfl⟩
  · have hb : ((xs.length : Int) != (ys.length : Int)) = true := by simp; omega
    go_enter Try.func21, Try.ntmps21
    go_wp2
    go_ret
    exact ⟨by simp; intro e; exact hne (by rw [e]), 0, rfl⟩

theorem ints_any (u v : Value) (xs ys : List Int) (w : World) (hu : RdI w u xs) (hv : RdI w v ys) :
    Calls Try.prog 21 #[u, v] w fun e w' => e = .returned (.bool (decide (xs = ys))) ∧ Fr w w' No :=
  (ints_n u v xs ys w hu hv).mono fun e w' ⟨he, n, hn⟩ => ⟨he, by rw [← hn]; exact Fr.drewN _ _ _⟩
theorem ints_trueN (u v : Value) (xs : List Int) (w : World) (hu : RdI w u xs) (hv : RdI w v xs) :
    Calls Try.prog 21 #[u, v] w fun e w' => e = .returned (.bool true) ∧ ∃ n, w' = w.drewN n :=
  (ints_n u v xs xs w hu hv).mono fun e w' ⟨he, n, hn⟩ => ⟨by rw [he]; simp, n, hn.symm⟩
theorem ints_true (u v : Value) (xs : List Int) (w : World) (hu : RdI w u xs) (hv : RdI w v xs) :
    Calls Try.prog 21 #[u, v] w fun e w' => e = .returned (.bool true) ∧ Fr w w' No := (ints_any u v xs xs w hu hv).mono fun e w' ⟨he, h⟩ => ⟨by rw [he]; simp, h⟩

theorem umod (x m : Int) (h0 : 0 < m) (hm : m ≤ 1000000) : wrap64 ((IntKind.u64.wrap x).tmod m) = (IntKind.u64.wrap x) % m ∧ 0 ≤ (IntKind.u64.wrap x) % m ∧ (IntKind.u64.wrap x) % m < m := by
  have hx : 0 ≤ IntKind.u64.wrap x := by unfold IntKind.wrap; simp [IntKind.signed, IntKind.bits]; omega
  have h1 := Int.emod_nonneg (IntKind.u64.wrap x) (show m ≠ 0 by omega)
  have h2 := Int.emod_lt_of_pos (IntKind.u64.wrap x) h0
  rw [Int.tmod_eq_emod_of_nonneg hx]
  refine ⟨?_, h1, h2⟩
  unfold wrap64; omega
/-- 'int(uint(x) % m) + 1' -/
theorem umod1 (x m : Int) (h0 : 0 < m) (hm : m ≤ 1000000) : ∃ d : Nat, 1 ≤ d ∧ (d : Int) ≤ m ∧ wrap64 (wrap64 ((IntKind.u64.wrap x).tmod m) + 1) = d := by
  obtain ⟨e, h1, h2⟩ := umod x m h0 hm
  rw [e]
  refine ⟨((IntKind.u64.wrap x) % m + 1).toNat, by omega, by omega, ?_⟩
  unfold wrap64; omega

end Go.Proofs.Ytegoilhkooneaaa
