/-
  Package pair, walked: the small functions.
-/
import Derived.Test.YtggogohoakbepaaProg
import Derived.Test.YtggogohoakbepaaM
import Derived.Test.YtggogohoakbepaaPm2
namespace Go.Proofs.Ytggogohoakbepaa
open Go.RowKit
set_option linter.unusedVariables false
set_option linter.unusedSimpArgs false

/-- A spot, by value. -/
abbrev spV (s : Spot) : Value := .agg #[.int .i64 s.1, .int .i64 s.2]
/-- No coordinate is out of any reach. -/
def nearS (s : Spot) : Prop := -1073741824 ≤ s.1 ∧ s.1 ≤ 1073741824 ∧ -1073741824 ≤ s.2 ∧ s.2 ≤ 1073741824
theorem okS.near {s : Spot} (h : okS s) : nearS s := by unfold okS at h; unfold nearS; omega
theorem nearS.zero : nearS (0, 0) := by unfold nearS; simp only; omega

theorem ret_int {a b : Int} (h : a = b) : Ending.returned (.int .i64 a) = .returned (.int .i64 b) := by rw [h]

theorem apart_any (a b : Int) (w : World) (h1 : -1073741824 ≤ a) (h2 : a ≤ 1073741824) (h3 : -1073741824 ≤ b) (h4 : b ≤ 1073741824) :
    Calls Try.prog 22 #[.int .i64 a, .int .i64 b] w fun e w' => e = .returned (.int .i64 (apart a b)) ∧ w = w' := by
  go_enter Try.func22, Try.ntmps22
  go_wp2
  all_goals
    go_ret
    exact ⟨ret_int (by unfold apart; omega), rfl⟩

set_option maxHeartbeats 1000000 in
theorem drive_any (a b : Spot) (w : World) (ha : nearS a) (hb : nearS b) :
    Calls Try.prog 11 #[spV a, spV b] w fun e w' => e = .returned (.int .i64 (drv a b)) ∧ Fr w w' No := by
  obtain ⟨a1, a2⟩ := a
  obtain ⟨b1, b2⟩ := b
  unfold nearS at ha hb
  simp only at ha hb
  obtain ⟨p1, p2, p3, p4⟩ := ha
  obtain ⟨q1, q2, q3, q4⟩ := hb
  go_enter Try.func11, Try.ntmps11
  go_wp2_with fail
  go_quiet ((go_at_call 22; exact Calls.quiet_of_same ((apart_any _ _ _ (by omega) (by omega) (by omega) (by omega)).mono fun e w' h => ⟨h.1, h.2.symm⟩)))
  go_wp2
  all_goals
    go_ret
    exact ⟨ret_int (by unfold drv; simp only; omega), (((Fr.refl w No).to_alloc _).to_alloc _).to_drewN _⟩

set_option maxHeartbeats 1000000 in
theorem home_any (a : Spot) (w : World) (ha : nearS a) :
    Calls Try.prog 33 #[spV a] w fun e w' => e = .returned (.int .i64 (hm a)) ∧ Fr w w' No := by
  obtain ⟨a1, a2⟩ := a
  go_enter Try.func33, Try.ntmps33
  go_wp2_with fail
  refine (drive_any (0, 0) (a1, a2) _ nearS.zero ha).mono ?_
  rintro e w1 ⟨rfl, hf⟩
  go_wp2
  go_ret
  exact ⟨rfl, ((Fr.refl w No).to_alloc _).nn hf⟩

theorem hm_near {a : Spot} (h : nearS a) : hm a ≤ 1073741824 := by unfold nearS at h; unfold hm drv apart; simp only; omega
theorem drv_near {a b : Spot} (h : nearS a) (k : nearS b) : drv a b ≤ 2147483648 := by unfold nearS at h k; unfold drv apart; omega

set_option maxHeartbeats 2000000 in
theorem saved_any (a b : Spot) (w : World) (ha : nearS a) (hb : nearS b) :
    Calls Try.prog 24 #[spV a, spV b] w fun e w' => e = .returned (.int .i64 (sv a b)) ∧ Fr w w' No := by
  obtain ⟨a1, a2⟩ := a
  obtain ⟨b1, b2⟩ := b
  have h1 := hm_near ha
  have h2 := hm_near hb
  have h3 := drv_near ha hb
  have h4 := hm_nonneg (a1, a2)
  have h5 := hm_nonneg (b1, b2)
  have h6 := drv_nonneg (a1, a2) (b1, b2)
  have hw1 : IntKind.i64.wrap (hm (a1, a2) + hm (b1, b2)) = hm (a1, a2) + hm (b1, b2) := IntWalk.i64_in _ (by omega)
  have hw2 : IntKind.i64.wrap (hm (a1, a2) + hm (b1, b2) - drv (a1, a2) (b1, b2)) = hm (a1, a2) + hm (b1, b2) - drv (a1, a2) (b1, b2) := IntWalk.i64_in _ (by omega)
  go_enter Try.func24, Try.ntmps24
  go_wp2_with fail
  have hf0 := ((Fr.refl w No).to_alloc (.cells #[.int .i64 a1, .int .i64 a2] 23)).to_alloc (.cells #[.int .i64 b1, .int .i64 b2] 23)
  obtain ⟨k1, k2, _, _⟩ := two_blk w (.cells #[.int .i64 a1, .int .i64 a2] 23) (.cells #[.int .i64 b1, .int .i64 b2] 23)
  have c1 := blk_cell k1 0
  have c2 := blk_cell k1 1
  have c3 := blk_cell k2 0
  have c4 := blk_cell k2 1
  clear k1 k2 h1 h2 h3 h4 h5 h6
  generalize (w.alloc (.cells #[.int .i64 a1, .int .i64 a2] 23)).alloc (.cells #[.int .i64 b1, .int .i64 b2] 23) = w2 at *
  go_region_held3 (fun w' => w'.cell? ⟨w.heap.size, 0, none⟩ = some (.int .i64 a1) ∧ w'.cell? ⟨w.heap.size, 1, none⟩ = some (.int .i64 a2) ∧ w'.cell? ⟨w.heap.size + 1, 0, none⟩ = some (.int .i64 b1) ∧ w'.cell? ⟨w.heap.size + 1, 1, none⟩ = some (.int .i64 b2) ∧ Fr w w' No)
    (first | exact ⟨c1, c2, c3, c4, hf0.to_drew⟩ | (go_split_ands; exact ⟨hf.cell (by assumption) id, hf.cell (by assumption) id, hf.cell (by assumption) id, hf.cell (by assumption) id, Fr.nn (by assumption) hf⟩))
    (first | (go_at_call 33; refine (home_any (a1, a2) _ ha).mono ?_; rintro e w' ⟨rfl, hf⟩) | (go_at_call 33; refine (home_any (b1, b2) _ hb).mono ?_; rintro e w' ⟨rfl, hf⟩) | (go_at_call 11; refine (drive_any (a1, a2) (b1, b2) _ ha hb).mono ?_; rintro e w' ⟨rfl, hf⟩))
  obtain ⟨_, _, _, _, hF⟩ := ‹_ ∧ _ ∧ _ ∧ _ ∧ _›
  go_wp2
  go_ret
  exact ⟨rfl, hF⟩

/-! ### Slices of spots -/
def spC (l : List Spot) : List Value := l.flatMap fun s => [.int .i64 s.1, .int .i64 s.2]
theorem spC_len (l : List Spot) : (spC l).length = l.length * 2 := by
  induction l with
  | nil => rfl
  | cons s r ih => simp [spC] at ih ⊢; omega
theorem spC_at (l : List Spot) (k : Nat) (hk : k < l.length) : (spC l)[k * 2]? = some (.int .i64 (l.getD k (0, 0)).1) ∧ (spC l)[k * 2 + 1]? = some (.int .i64 (l.getD k (0, 0)).2) := by
  induction l generalizing k with
  | nil => simp at hk
  | cons s r ih =>
    cases k with
    | zero => simp [spC]
    | succ k =>
      have := ih k (by simpa using hk)
      rw [show (k + 1) * 2 = k * 2 + 1 + 1 by omega]
      simpa [spC] using this
/-- A slice of spots that can be read. -/
def RdS (w : World) (v : Value) (l : List Spot) : Prop := Rd w v l.length (spC l) 2 ∧ l.length ≤ 8796093022207
theorem RdS.form {w : World} {v : Value} {l : List Spot} (h : RdS w v l) : ∃ a c, v = .slice a l.length c := by
  obtain ⟨⟨_, a, c, rfl, _⟩, _⟩ := h
  exact ⟨a, c, rfl⟩
theorem RdS.at_ {w : World} {a : Option Addr} {n c : Nat} {l : List Spot} (h : RdS w (.slice a n c) l) (k : Nat) (hk : k < l.length) :
    ∃ b off, a = some ⟨b, off, none⟩ ∧ w.cell? ⟨b, off + k * 2, none⟩ = some (.int .i64 (l.getD k (0, 0)).1) ∧ w.cell? ⟨b, off + k * 2 + 1, none⟩ = some (.int .i64 (l.getD k (0, 0)).2) := by
  obtain ⟨⟨_, a', c', hv, _, hs⟩, _⟩ := h
  cases hv
  obtain ⟨b, off, rfl, hc⟩ := hs (by omega)
  obtain ⟨h1, h2⟩ := spC_at l k hk
  exact ⟨b, off, rfl, hc _ _ h1, by have := hc _ _ h2; rwa [← Nat.add_assoc] at this⟩
theorem RdS.keep {w w' : World} {S : Nat → Prop} {v : Value} {l : List Spot} (h : RdS w v l) (hf : Fr w w' S) (hS : ∀ g, v.ownBlock = some g → ¬ S g) : RdS w' v l := ⟨h.1.keep hf hS, h.2⟩
theorem RdS.keep0 {w w' : World} {v : Value} {l : List Spot} (h : RdS w v l) (hf : Fr w w' No) : RdS w' v l := ⟨h.1.keep0 hf, h.2⟩

/-! ### bad -/
theorem dec_eq {p : Prop} [Decidable p] {b : Bool} (h : p ↔ b = true) : decide p = b := by
  cases b with
  | true => exact decide_eq_true (h.2 rfl)
  | false => exact decide_eq_false (fun k => by have := h.1 k; cases this)
set_option maxHeartbeats 1000000 in
theorem bad1_any (s : Spot) (w : World) :
    Calls Try.prog 32 #[spV s] w fun e w' => e = .returned (.bool (decide (¬ okS s))) ∧ Fr w w' No := by
  obtain ⟨x, y⟩ := s
  have hF := Lib.hid ((Fr.refl w No).to_alloc (.cells #[.int .i64 x, .int .i64 y] 23))
  have hcase : (decide (x < 0) = true ∧ ¬ okS (x, y)) ∨ (decide (x < 0) = false ∧ decide ((1000 : Int) < x) = true ∧ ¬ okS (x, y)) ∨ (decide (x < 0) = false ∧ decide ((1000 : Int) < x) = false ∧ decide (y < 0) = true ∧ ¬ okS (x, y)) ∨
      (decide (x < 0) = false ∧ decide ((1000 : Int) < x) = false ∧ decide (y < 0) = false ∧ decide ((1000 : Int) < y) = true ∧ ¬ okS (x, y)) ∨ (decide (x < 0) = false ∧ decide ((1000 : Int) < x) = false ∧ decide (y < 0) = false ∧ decide ((1000 : Int) < y) = false ∧ okS (x, y)) := by
    simp only [decide_eq_true_eq, decide_eq_false_iff_not]
    unfold okS
    simp only
    omega
  rcases hcase with ⟨a1, hO⟩ | ⟨a1, a2, hO⟩ | ⟨a1, a2, a3, hO⟩ | ⟨a1, a2, a3, a4, hO⟩ | ⟨a1, a2, a3, a4, hO⟩
  all_goals
    have HO := Lib.hid hO
    clear hO
    go_enter Try.func32, Try.ntmps32
    go_wp2
    go_ret
    exact ⟨by simp [HO.out], hF.out⟩

def fbad : List Spot → Int
  | [] => -1
  | s :: r => if okS s then (if fbad r < 0 then -1 else fbad r + 1) else 0
theorem fbad_hit (l : List Spot) (k : Nat) (hk : k < l.length) (h : ∀ j, j < k → okS (l.getD j (0, 0))) (he : ¬ okS (l.getD k (0, 0))) : fbad l = k := by
  induction l generalizing k with
  | nil => simp at hk
  | cons x r ih =>
    cases k with
    | zero => simp at he; simp [fbad, he]
    | succ k =>
      have h0 := h 0 (by omega)
      simp at h0
      have := ih k (by simpa using hk) (fun j hj => by have := h (j + 1) (by omega); simpa using this) (by simpa using he)
      unfold fbad
      rw [if_pos h0, this, if_neg (by omega)]
      omega
theorem fbad_miss (l : List Spot) (h : ∀ j, j < l.length → okS (l.getD j (0, 0))) : fbad l = -1 := by
  induction l with
  | nil => rfl
  | cons x r ih =>
    have h0 := h 0 (by simp)
    simp at h0
    have := ih (fun j hj => by have := h (j + 1) (by simp; omega); simpa using this)
    unfold fbad
    rw [if_pos h0, this, if_pos (by omega)]
theorem fbad_iff (l : List Spot) : 0 ≤ fbad l ↔ ¬ ∀ s ∈ l, okS s := by
  induction l with
  | nil => simp [fbad]
  | cons x r ih =>
    unfold fbad
    by_cases h : okS x
    · rw [if_pos h]
      simp only [List.forall_mem_cons, h, true_and]
      rw [← ih]
      split <;> omega
    · rw [if_neg h]; simp [h]

set_option maxHeartbeats 1000000 in
theorem indexBad_any (v : Value) (l : List Spot) (w : World) (hv : RdS w v l) :
    Calls Try.prog 36 #[v, .func (.func 32) #[] #[]] w fun e w' => e = .returned (.int .i64 (fbad l)) ∧ Fr w w' No := by
  have hl := hv.2
  obtain ⟨a, c, rfl⟩ := hv.form
  have HV := Lib.hid hv
  clear hv
  go_enter Try.func36, Try.ntmps36
  go_wp2
  go_loopw [5, 8] (fun _ i wr => ∃ k : Nat, k ≤ l.length ∧ i = .int .i64 k ∧ (∀ j, j < k → okS (l.getD j (0, 0))) ∧ Fr w wr No) (fun _ i _ => l.length - (intOf i).toNat)
  case atStart => exact ⟨0, Nat.zero_le _, rfl, by omega, Fr.refl _ _⟩
  case round =>
    obtain ⟨k, hk, rfl, hn, hf⟩ := hrel
    have HN := Lib.hid hn
    have HF := Lib.hid hf
    clear hn hf
    by_cases hlt : k < l.length
    · obtain ⟨b, off, rfl, h1, h2⟩ := (HV.out.keep0 HF.out).at_ k hlt
      generalize hs : l.getD k (0, 0) = s at *
      have HS := Lib.hid hs
      clear hs
      go_wp2_with fail
      refine (bad1_any s _).mono ?_
      rintro e w2 ⟨rfl, hf2⟩
      have HF2 := Lib.hid (HF.out.nn hf2)
      clear hf2 h1 h2
      by_cases ho : okS s
      · have HO := Lib.hid ho
        have hd : decide (¬ okS s) = false := by simpa using ho
        clear ho
        rw [hd]
        clear hd
        go_wp2
        go_roundw
        case rel =>
          refine ⟨k + 1, by omega, by go_num, fun j hj => ?_, HF2.out⟩
          rcases Nat.lt_or_ge j k with h | h
          · exact HN.out j h
          · obtain rfl : j = k := by omega
            rw [HS.out]; exact HO.out
        case measure => simp [intOf]; omega
      · have HI : Hid (fbad l = k) := Lib.hid (fbad_hit l k hlt HN.out (by rw [HS.out]; exact ho))
        have hd : decide (¬ okS s) = true := by simpa using ho
        clear ho
        rw [hd]
        clear hd
        go_wp2
        go_ret
        exact ⟨by rw [HI.out]; rfl, HF2.out⟩
    · have HI : Hid (fbad l = -1) := Lib.hid (fbad_miss l (fun j hj => HN.out j (by omega)))
      go_wp2
      go_ret
      exact ⟨by rw [HI.out]; rfl, HF.out⟩

theorem containsBad_any (v : Value) (l : List Spot) (w : World) (hv : RdS w v l) :
    Calls Try.prog 31 #[v, .func (.func 32) #[] #[]] w fun e w' => e = .returned (.bool (decide (0 ≤ fbad l))) ∧ Fr w w' No := by
  go_enter Try.func31, Try.ntmps31
  go_wp2_with (go_at_call 36; refine (indexBad_any v l _ hv).mono ?_; rintro e w' ⟨rfl, hf⟩)
  go_ret
  exact ⟨rfl, hf⟩

theorem bad_any (v : Value) (l : List Spot) (w : World) (hv : RdS w v l) :
    Calls Try.prog 23 #[v] w fun e w' => e = .returned (.bool (decide (¬ okL l))) ∧ Fr w w' No := by
  have hl := hv.2
  have HV := Lib.hid hv
  obtain ⟨a, c, rfl⟩ := hv.form
  clear hv
  by_cases h : l.length ≤ 6
  · have hd : decide (¬ okL l) = decide (0 ≤ fbad l) := by
      unfold okL
      simp only [h, true_and]
      exact decide_eq_decide.2 (fbad_iff l).symm
    rw [hd]
    clear hd
    have hd : decide ((6 : Int) < (l.length : Int)) = false := by simp; omega
    go_enter Try.func23, Try.ntmps23
    go_wp2_with (go_at_call 31; refine (containsBad_any _ l _ HV.out).mono ?_; rintro e w' ⟨rfl, hf⟩)
    go_ret
    exact ⟨rfl, hf⟩
  · have hd : decide (¬ okL l) = true := by simp [okL, h]
    rw [hd]
    clear hd
    have hd : decide ((6 : Int) < (l.length : Int)) = true := by simp; omega
    go_enter Try.func23, Try.ntmps23
    go_wp2
    go_ret
    exact ⟨rfl, Fr.refl _ _⟩

/-! ### alone -/
theorem alone_nonneg (l : List Spot) : 0 ≤ alone l := by
  induction l with
  | nil => simp [alone]
  | cons s r ih => have := hm_nonneg s; simp [alone] at ih ⊢; omega
theorem alone_le (l : List Spot) (h : ∀ s ∈ l, okS s) : alone l ≤ 2000 * l.length := by
  induction l with
  | nil => simp [alone]
  | cons s r ih =>
    have := hm_ok (h s (by simp))
    have := ih (fun x hx => h x (by simp [hx]))
    simp [alone] at this ⊢; omega
theorem alone_take (l : List Spot) (k : Nat) (hk : k < l.length) : alone (l.take (k + 1)) = alone (l.take k) + 2 * hm (l.getD k (0, 0)) := by
  rw [List.take_succ_eq_append_getElem hk, alone_append]
  simp [alone, List.getD, List.getElem?_eq_getElem hk]

set_option maxHeartbeats 1000000 in
theorem alone_any (v : Value) (l : List Spot) (w : World) (hv : RdS w v l) (ho : okL l) :
    Calls Try.prog 25 #[v] w fun e w' => e = .returned (.int .i64 (alone l)) ∧ Fr w w' No := by
  have hl6 := ho.1
  obtain ⟨a, c, rfl⟩ := hv.form
  have HV := Lib.hid hv
  have HO := Lib.hid ho
  clear hv ho
  go_enter Try.func25, Try.ntmps25
  go_wp2
  go_loopw [3, 5, 8] (fun n _ i wr => ∃ k : Nat, k ≤ l.length ∧ i = .int .i64 k ∧ n = .int .i64 (alone (l.take k)) ∧ Fr w wr No) (fun _ _ i _ => l.length - (intOf i).toNat)
  case atStart => exact ⟨0, Nat.zero_le _, rfl, by simp [alone], Fr.refl _ _⟩
  case round =>
    obtain ⟨k, hk, rfl, rfl, hf⟩ := hrel
    have HF := Lib.hid hf
    clear hf
    by_cases hlt : k < l.length
    · obtain ⟨b, off, rfl, h1, h2⟩ := (HV.out.keep0 HF.out).at_ k hlt
      have HA := Lib.hid (alone_take l k hlt)
      have b1 := alone_le (l.take k) (fun s hs => HO.out.2 s (List.mem_of_mem_take hs))
      have b2 := alone_nonneg (l.take k)
      have hls : (l.take k).length ≤ 6 := by simp; omega
      have hS : okS (l.getD k (0, 0)) := HO.out.2 _ (by simp [List.getD, List.getElem?_eq_getElem hlt])
      generalize l.getD k (0, 0) = s at *
      have b3 := hm_ok hS
      have b4 := hm_nonneg s
      go_wp2_with fail
      refine (home_any s _ hS.near).mono ?_
      rintro e w2 ⟨rfl, hf2⟩
      have HF2 := Lib.hid ((HF.out.to_alloc _).nn hf2)
      clear hf2 h1 h2
      go_wp2
      go_roundw
      case rel => exact ⟨k + 1, by omega, by go_num, by rw [HA.out], HF2.out⟩
      case measure => simp [intOf]; omega
    · go_wp2
      go_ret
      exact ⟨by rw [List.take_of_length_le (by omega)]; rfl, HF.out⟩
end Go.Proofs.Ytggogohoakbepaa
