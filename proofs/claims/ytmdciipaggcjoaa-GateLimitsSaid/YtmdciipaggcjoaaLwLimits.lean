/-
  The law GateLimits, walked.
-/
import Derived.Test.YtmdciipaggcjoaaGw
namespace Go.Proofs.Ytmdciipaggcjoaa
open Go.RowKit Go.Conc
set_option linter.unusedVariables false
set_option linter.unusedSimpArgs false

/-- lo, lo + 1, .., n of them. -/
def rg (lo n : Nat) : List Int := (List.range' lo n).map fun k : Nat => (k : Int)
theorem rg_len (lo n : Nat) : (rg lo n).length = n := by simp [rg]
theorem rg_mem (lo n : Nat) (t : Int) : t ∈ rg lo n ↔ (lo : Int) ≤ t ∧ t < (lo : Int) + n := by
  simp only [rg, List.mem_map, List.mem_range'_1]
  constructor
  · rintro ⟨k, h, rfl⟩; omega
  · rintro ⟨h1, h2⟩; exact ⟨t.toNat, by omega, by omega⟩
theorem rg_snoc (lo n : Nat) : rg lo n ++ [((lo + n : Nat) : Int)] = rg lo (n + 1) := by
  simp [rg, List.range'_concat]
theorem rg_cons (lo n : Nat) : rg lo (n + 1) = (lo : Int) :: rg (lo + 1) n := by simp [rg, List.range'_succ]
theorem rg_has (lo n : Nat) (t : Int) : has t (rg lo n) = decide ((lo : Int) ≤ t ∧ t < (lo : Int) + n) := by
  rw [has_mem]; exact decide_eq_decide.2 (rg_mem lo n t)
theorem rg_nodup (n : Nat) : ∀ lo, (rg lo n).Nodup := by
  induction n with
  | zero => intro lo; simp [rg]
  | succ n ih =>
    intro lo
    rw [rg_cons]
    refine List.nodup_cons.2 ⟨fun h => ?_, ih (lo + 1)⟩
    have := (rg_mem _ _ _).1 h
    omega
theorem rg_zero (lo : Nat) : rg lo 0 = [] := by simp [rg]
theorem idx_mem (t : Int) (l : List Int) : 0 ≤ idx t l ↔ t ∈ l := by
  have := has_mem t l
  unfold has at this
  simpa using this
theorem idx_none {t : Int} {l : List Int} (h : t ∉ l) : idx t l < 0 := by
  rcases Int.lt_or_le (idx t l) 0 with h' | h'
  · exact h'
  · exact absurd ((idx_mem t l).1 h') h

section
variable (cap : Nat) (h1 : 1 ≤ cap) (h16 : cap ≤ 16)
/-- The first 64. -/
theorem lm1 (k : Nat) (hk : k < 64) : accE (rg 0 k) [] (k : Int) = 0 ∧ accW (rg 0 k) [] (k : Int) = rg 0 (k + 1) := by
  have e : accE (rg 0 k) [] (k : Int) = 0 := by
    unfold accE
    rw [if_neg (by rw [rg_has]; simp [has_mem]), if_neg (by rw [rg_len]; simp; omega)]
  refine ⟨e, ?_⟩
  unfold accW
  rw [if_pos e]
  have := rg_snoc 0 k
  rwa [Nat.zero_add] at this
theorem lm2 (i : Nat) (hi : i < 64) : accE (rg i (64 - i)) (rg 0 i) 64 = 5 ∧ accW (rg i (64 - i)) (rg 0 i) 64 = rg i (64 - i) := by
  have e : accE (rg i (64 - i)) (rg 0 i) 64 = 5 := by
    unfold accE
    rw [if_neg (by rw [rg_has, rg_has]; simp; omega), if_pos (by rw [rg_len, rg_len]; omega)]
  exact ⟨e, by unfold accW; rw [if_neg (by rw [e]; decide)]⟩
theorem lm3 (i : Nat) (hi : i < 64) : accE (rg i (64 - i)) (rg 0 i) (i : Int) = 2 ∧ accW (rg i (64 - i)) (rg 0 i) (i : Int) = rg i (64 - i) := by
  have e : accE (rg i (64 - i)) (rg 0 i) (i : Int) = 2 := by
    unfold accE
    rw [if_pos (by rw [rg_has, rg_has]; simp; omega)]
  exact ⟨e, by unfold accW; rw [if_neg (by rw [e]; decide)]⟩
theorem lm4 (i : Nat) (hi : i < cap) (h16 : cap ≤ 16) : arrE cap (rg i (64 - i)) (rg 0 i) (i : Int) = 0 ∧ arrW cap (rg i (64 - i)) (rg 0 i) (i : Int) = rg (i + 1) (63 - i) ∧ arrI cap (rg i (64 - i)) (rg 0 i) (i : Int) = rg 0 (i + 1) := by
  have hw : rg i (64 - i) = (i : Int) :: rg (i + 1) (63 - i) := by rw [← rg_cons]; congr 1; omega
  have hi0 : idx (i : Int) (rg i (64 - i)) = 0 := by rw [hw]; simp [idx]
  have hl : lookE (rg i (64 - i)) (rg 0 i) (i : Int) = 0 := by
    unfold lookE
    rw [if_neg (by rw [rg_has]; simp), if_neg (by rw [hi0]; decide)]
  have e : arrE cap (rg i (64 - i)) (rg 0 i) (i : Int) = 0 := by
    unfold arrE
    rw [if_neg (by rw [hl]; simp), if_neg (by rw [hi0]; decide), if_pos (by rw [rg_len]; exact hi)]
  refine ⟨e, ?_, ?_⟩
  · unfold arrW; rw [if_pos e, hw]; rfl
  · unfold arrI
    rw [if_pos e]
    have := rg_snoc 0 i
    rwa [Nat.zero_add] at this
theorem lm5 (i : Nat) (W : List Int) : lookE W (rg 0 (i + 1)) (i : Int) = 140 ∧ canW W (rg 0 (i + 1)) (i : Int) = W := by
  have e : lookE W (rg 0 (i + 1)) (i : Int) = 140 := by
    unfold lookE
    rw [if_pos (by rw [rg_has]; simp; omega)]
  exact ⟨e, by unfold canW; rw [if_neg (by rw [e]; decide)]⟩
theorem lm6 (h16 : cap ≤ 16) : arrE cap (rg cap (64 - cap)) (rg 0 cap) (cap : Int) = 5 ∧ arrW cap (rg cap (64 - cap)) (rg 0 cap) (cap : Int) = rg cap (64 - cap) ∧ arrI cap (rg cap (64 - cap)) (rg 0 cap) (cap : Int) = rg 0 cap := by
  have hw : rg cap (64 - cap) = (cap : Int) :: rg (cap + 1) (63 - cap) := by rw [← rg_cons]; congr 1; omega
  have hi0 : idx (cap : Int) (rg cap (64 - cap)) = 0 := by rw [hw]; simp [idx]
  have hl : lookE (rg cap (64 - cap)) (rg 0 cap) (cap : Int) = 0 := by
    unfold lookE
    rw [if_neg (by rw [rg_has]; simp), if_neg (by rw [hi0]; decide)]
  have e : arrE cap (rg cap (64 - cap)) (rg 0 cap) (cap : Int) = 5 := by
    unfold arrE
    rw [if_neg (by rw [hl]; simp), if_neg (by rw [hi0]; decide), if_neg (by rw [rg_len]; omega)]
  exact ⟨e, by unfold arrW; rw [if_neg (by rw [e]; decide)], by unfold arrI; rw [if_neg (by rw [e]; decide)]⟩
/-- One of those that wait is cancelled. -/
theorem lm7 (h16 : cap ≤ 16) (t : Int) (ht : (cap : Int) ≤ t ∧ t < 64) : ∃ W', lookE (rg cap (64 - cap)) (rg 0 cap) t = 0 ∧ canW (rg cap (64 - cap)) (rg 0 cap) t = W' ∧
    (lookE W' (rg 0 cap) t = 4 ∧ canW W' (rg 0 cap) t = W') ∧ (accE W' (rg 0 cap) 64 = 0 ∧ accW W' (rg 0 cap) 64 = W' ++ [64]) ∧ (accE (W' ++ [64]) (rg 0 cap) t = 5 ∧ accW (W' ++ [64]) (rg 0 cap) t = W' ++ [64]) := by
  have hm : t ∈ rg cap (64 - cap) := (rg_mem _ _ _).2 (by omega)
  have hno : has t (rg 0 cap) = false := by rw [rg_has]; simp; omega
  have hi := (idx_mem t (rg cap (64 - cap))).2 hm
  have hlt := idx_lt t (rg cap (64 - cap))
  have e : lookE (rg cap (64 - cap)) (rg 0 cap) t = 0 := by unfold lookE; rw [if_neg (by rw [hno]; simp), if_neg (by omega)]
  obtain ⟨n, hn⟩ : ∃ n : Nat, idx t (rg cap (64 - cap)) = n := ⟨(idx t (rg cap (64 - cap))).toNat, by omega⟩
  have hn' : n < (rg cap (64 - cap)).length := by omega
  have hidx : ∀ (l : List Int) (n : Nat), idx t l = n → l.Nodup → t ∉ l.eraseIdx n := by
    intro l
    induction l with
    | nil => intro n h; simp [idx] at h
    | cons x r ih =>
      intro n h hd
      have hd' := List.nodup_cons.1 hd
      unfold idx at h
      split at h
      · rename_i ex
        obtain rfl : n = 0 := by omega
        rw [ex]; simpa using hd'.1
      · rename_i ex
        have := idx_ge t r
        split at h
        · omega
        · cases n with
          | zero => omega
          | succ n =>
            have := ih n (by omega) hd'.2
            simp [ex, this]
  have hnd : (rg cap (64 - cap)).Nodup := rg_nodup _ _
  have hnot := hidx _ n hn hnd
  have hlen : ((rg cap (64 - cap)).eraseIdx n).length = 63 - cap := by rw [List.length_eraseIdx_of_lt hn', rg_len]; omega
  have h64 : (64 : Int) ∉ (rg cap (64 - cap)).eraseIdx n := fun h => by
    have := (rg_mem _ _ _).1 (List.mem_of_mem_eraseIdx h)
    omega
  have hno64 : has 64 (rg 0 cap) = false := by rw [rg_has]; simp; omega
  have e2 : lookE ((rg cap (64 - cap)).eraseIdx n) (rg 0 cap) t = 4 := by
    unfold lookE; rw [if_neg (by rw [hno]; simp), if_pos (idx_none hnot)]
  have e3 : accE ((rg cap (64 - cap)).eraseIdx n) (rg 0 cap) 64 = 0 := by
    unfold accE
    rw [if_neg (by rw [has_mem, hno64]; simp [h64]), if_neg (by rw [hlen, rg_len]; omega)]
  have e4 : accE ((rg cap (64 - cap)).eraseIdx n ++ [64]) (rg 0 cap) t = 5 := by
    unfold accE
    rw [if_neg (by rw [has_mem, hno]; simp [hnot]; omega), if_pos (by rw [List.length_append, hlen, rg_len]; simp; omega)]
  refine ⟨(rg cap (64 - cap)).eraseIdx n, e, ?_, ⟨e2, ?_⟩, ⟨e3, ?_⟩, ⟨e4, ?_⟩⟩
  · unfold canW; rw [if_pos e, hn]; simp
  · unfold canW; rw [if_neg (by rw [e2]; decide)]
  · unfold accW; rw [if_pos e3]
  · unfold accW; rw [if_neg (by rw [e4]; decide)]
end

set_option maxRecDepth 100000 in
set_option maxHeartbeats 4000000 in
theorem gateLimits_all (w : World) (x : Int) (hx : (Lit.int .i64 x).wf = true) (y : Int) (hy : (Lit.int .i64 y).wf = true) :
    Calls Try.prog 5 #[.int .i64 x, .int .i64 y] w fun e w' => e = .returned (.bool true) ∧ Fr w w' No := by
  obtain ⟨cap, h1, h16, hd⟩ := umod1 x 16 (by decide) (by decide)
  have h16' : cap ≤ 16 := by omega
  obtain ⟨hm, hm0, hm1⟩ := umod y (64 - cap) (by omega) (by omega)
  have hu64 : IntKind.u64.wrap (64 - (cap : Int)) = 64 - cap := by unfold IntKind.wrap; simp [IntKind.bits, IntKind.signed]; omega
  generalize (IntKind.u64.wrap y) % (64 - (cap : Int)) = m at *
  clear hx hy
  go_enter Try.func5, Try.ntmps5
  go_wp2_with fail
  refine (awake_any _).mono ?_
  rintro e w1 ⟨rfl, hf1⟩
  have HF := Lib.hid hf1
  clear hf1
  go_wp2_with fail
  rw [hd]
  clear hd
  refine (new_g w cap _ HF.out h1 h16').mono ?_
  rintro e w2 ⟨rfl, hG⟩
  generalize w1.heap.size + 1 = p at *
  have HG := Lib.hid hG
  clear hG HF
  go_wp2_with fail
  refine (new_bad 17 _ (by decide)).mono ?_
  rintro e w3 ⟨rfl, rfl⟩
  go_wp2_with fail
  go_loopg [9] 64 (fun g v9 wr => ∃ k : Nat, k + g = 64 ∧ v9 = .int .i64 k ∧ Sg w wr p cap (rg 0 k) [])
  case atStart => exact ⟨0, by omega, rfl, by rw [rg_zero]; exact HG.out⟩
  case round =>
    clear HG
    obtain ⟨k, hk, rfl, hG⟩ := hrel
    have HG := Lib.hid hG
    have HK := Lib.hid hk
    clear hG hk
    by_cases hlt : k < 64
    · have hlt' : (k : Int) < 64 := by omega
      have HLT := Lib.hid hlt
      clear hlt
      go_wp2_with fail
      refine (accept_g w p cap (rg 0 k) [] k 0 (rg 0 (k + 1)) _ HG.out (lm1 k HLT.out).1 (lm1 k HLT.out).2).mono ?_
      rintro e w4 ⟨rfl, hG⟩
      have HG4 := Lib.hid hG
      clear hG HG
      go_wp2_with fail
      go_roundg (gk - 1)
      case measure => have := HK.out; have := HLT.out; omega
      case rel => exact ⟨k + 1, by have := HK.out; have := HLT.out; omega, by go_num, HG4.out⟩
    · obtain rfl : k = 64 := by have := HK.out; omega
      clear hlt HK
      go_wp2_with fail
      go_loopg [10] cap (fun g v10 wr => ∃ i : Nat, i + g = cap ∧ v10 = .int .i64 i ∧ Sg w wr p cap (rg i (64 - i)) (rg 0 i))
      case atStart => exact ⟨0, by omega, rfl, by rw [rg_zero]; exact HG.out⟩
      case round =>
        clear HG
        obtain ⟨i, hi, rfl, hG⟩ := hrel
        have HG := Lib.hid hG
        have HI := Lib.hid hi
        clear hG hi
        by_cases hlt : i < cap
        · have hlt' : (i : Int) < (cap : Int) := by omega
          have hi64 : i < 64 := by omega
          have HLT := Lib.hid hlt
          clear hlt
          go_wp2_with fail
          refine (accept_g w p cap (rg i (64 - i)) (rg 0 i) 64 5 (rg i (64 - i)) _ HG.out (lm2 i hi64).1 (lm2 i hi64).2).mono ?_
          rintro e w4 ⟨rfl, hG⟩
          have HG4 := Lib.hid hG
          clear hG HG
          go_wp2_with fail
          refine (accept_g w p cap (rg i (64 - i)) (rg 0 i) i 2 (rg i (64 - i)) _ HG4.out (lm3 i hi64).1 (lm3 i hi64).2).mono ?_
          rintro e w5 ⟨rfl, hG⟩
          have HG5 := Lib.hid hG
          clear hG HG4
          go_wp2_with fail
          refine (arrive_g w p cap (rg i (64 - i)) (rg 0 i) i 0 (rg (i + 1) (63 - i)) (rg 0 (i + 1)) _ HG5.out (lm4 cap i HLT.out h16').1 (lm4 cap i HLT.out h16').2.1 (lm4 cap i HLT.out h16').2.2).mono ?_
          rintro e w6 ⟨rfl, hG⟩
          have HG6 := Lib.hid hG
          clear hG HG5
          go_wp2_with fail
          refine (cancel_g w p cap (rg (i + 1) (63 - i)) (rg 0 (i + 1)) i 140 (rg (i + 1) (63 - i)) _ HG6.out (lm5 i _).1 (lm5 i _).2).mono ?_
          rintro e w7 ⟨rfl, hG⟩
          have HG7 := Lib.hid hG
          clear hG HG6
          go_wp2_with fail
          go_roundg (gk - 1)
          case measure => have := HI.out; have := HLT.out; omega
          case rel => exact ⟨i + 1, by have := HI.out; have := HLT.out; omega, by go_num, by have := HG7.out; rwa [show 64 - (i + 1) = 63 - i by omega]⟩
        · obtain rfl : cap = i := by have := HI.out; omega
          clear hlt HI
          have hz : ((64 : Int) - cap == 0) = false := by simp; omega
          have hmw : wrap64 ((cap : Int) + m) = cap + m := by unfold wrap64; omega
          have hat : (cap : Int) ≤ cap + m ∧ (cap : Int) + m < 64 := by omega
          have HAT := Lib.hid hat
          obtain ⟨W', q1, q2, ⟨q3, q4⟩, ⟨q5, q6⟩, q7, q8⟩ := lm7 cap h16' _ hat
          have Q := Lib.hid (And.intro q1 (And.intro q2 (And.intro q3 (And.intro q4 (And.intro q5 (And.intro q6 (And.intro q7 q8)))))))
          clear q1 q2 q3 q4 q5 q6 q7 q8 hat
          go_wp2_with fail
          refine (arrive_g w p cap (rg cap (64 - cap)) (rg 0 cap) cap 5 _ _ _ HG.out (lm6 cap h16').1 (lm6 cap h16').2.1 (lm6 cap h16').2.2).mono ?_
          rintro e w4 ⟨rfl, hG⟩
          have HG4 := Lib.hid hG
          clear hG HG
          go_wp2_with fail
          refine (credits_g w p cap _ _ 0 _ HG4.out (by rw [rg_len]; omega)).mono ?_
          rintro e w5 ⟨rfl, hG⟩
          have HG5 := Lib.hid hG
          clear hG HG4
          go_wp2_with fail
          refine (cancel_g w p cap _ _ _ 0 W' _ HG5.out Q.out.1 Q.out.2.1).mono ?_
          rintro e w6 ⟨rfl, hG⟩
          have HG6 := Lib.hid hG
          clear hG HG5
          go_wp2_with fail
          refine (cancel_g w p cap _ _ _ 4 W' _ HG6.out Q.out.2.2.1 Q.out.2.2.2.1).mono ?_
          rintro e w7 ⟨rfl, hG⟩
          have HG7 := Lib.hid hG
          clear hG HG6
          go_wp2_with fail
          refine (accept_g w p cap _ _ 64 0 (W' ++ [64]) _ HG7.out Q.out.2.2.2.2.1 Q.out.2.2.2.2.2.1).mono ?_
          rintro e w8 ⟨rfl, hG⟩
          have HG8 := Lib.hid hG
          clear hG HG7
          go_wp2_with fail
          refine (accept_g w p cap _ _ _ 5 _ _ HG8.out Q.out.2.2.2.2.2.2.1 Q.out.2.2.2.2.2.2.2).mono ?_
          rintro e w9 ⟨rfl, hG⟩
          have HG9 := Lib.hid hG
          clear hG HG8
          go_wp2_with fail
          go_ret
          exact ⟨rfl, HG9.out.fr⟩
end Go.Proofs.Ytmdciipaggcjoaa
