/-
  The law GridEven: its plain part and its walk.
-/
import Derived.Test.YtegoilhkooneaaaGp
namespace Go.Proofs.Ytegoilhkooneaaa
open Go.RowKit Go.Sort
set_option linter.unusedVariables false
set_option linter.unusedSimpArgs false

/-- n lanes of depth d, filled evenly: the first q hold m + 1, the others m. -/
structure Evn (R : List Lan) (n d m q : Nat) : Prop where
  len : R.length = n
  hq : q < n
  hm : m ≤ d
  hqm : 0 < q → m < d
  dep : ∀ i, i < n → (lan R i).1 = d
  cnt : ∀ i, i < n → (lan R i).2.length = if i < q then m + 1 else m
theorem Evn.good {R : List Lan} {n d m q : Nat} (h : Evn R n d m q) : Good R := fun i hi => by
  rw [h.len] at hi
  have h1 := h.dep i hi
  have h2 := h.cnt i hi
  have := h.hm
  have := h.hqm
  split at h2 <;> omega
theorem Evn.put {R : List Lan} {n d m q : Nat} (h : Evn R n d m q) (t : Int) : ∃ m' q', Evn (putR R t) n d m' q' := by
  by_cases hE : putE R t = 0
  · have hb : 0 ≤ putB R := by
      unfold putE at hE
      split at hE
      · cases hE
      · split at hE
        · cases hE
        · split at hE
          · cases hE
          · omega
    have hgood := h.good
    have hlen := h.len
    have hq := h.hq
    have hr : 0 < roomR R := by
      rcases Int.lt_or_le 0 (roomR R) with h' | h'
      · exact h'
      · rw [putB_none hgood h'] at hb; omega
    obtain ⟨i, hi, hbi, hlt, hmin⟩ := putB_some hgood hr
    rw [hlen] at hi
    have h1 := h.dep i hi
    have h2 := h.cnt i hi
    have h3 := h.dep q hq
    have h4 := h.cnt q hq
    rw [if_neg (Nat.lt_irrefl q)] at h4
    have hmd : m < d := by
      rcases Nat.lt_or_ge m d with h' | h'
      · exact h'
      · have : ¬ 0 < q := fun e => by have := h.hqm e; omega
        rw [if_neg (by omega)] at h2
        omega
    have h5 := hmin q (by omega) (by omega)
    have hiq : i = q := by
      by_cases e : i < q
      · rw [if_pos e] at h2; omega
      · rw [if_neg e] at h2
        rcases Nat.lt_or_ge q i with h' | h'
        · have := h5.2 h'; omega
        · omega
    subst hiq
    have hR' : putR R t = R.set i (d, (lan R i).2 ++ [t]) := by unfold putR; rw [if_pos hE, hbi]; simp [h1]
    rw [hR']
    have hset : ∀ j, lan (R.set i (d, (lan R i).2 ++ [t])) j = if i = j then (d, (lan R i).2 ++ [t]) else lan R j := fun j => lan_set R i j _ (by omega)
    by_cases hlast : i + 1 = n
    · refine ⟨m + 1, 0, by rw [List.length_set]; exact hlen, by omega, hmd, fun h => by omega, fun j hj => ?_, fun j hj => ?_⟩
      · rw [hset]; split
        · rfl
        · exact h.dep j hj
      · rw [hset, if_neg (Nat.not_lt_zero j)]
        split
        · simp [h4]
        · rw [h.cnt j hj, if_pos (by omega)]
    · refine ⟨m, i + 1, by rw [List.length_set]; exact hlen, by omega, h.hm, fun _ => hmd, fun j hj => ?_, fun j hj => ?_⟩
      · rw [hset]; split
        · rfl
        · exact h.dep j hj
      · rw [hset]
        split
        · rename_i e; subst e; simp [h4]
        · rw [h.cnt j hj]
          by_cases e : j < i
          · rw [if_pos e, if_pos (by omega)]
          · rw [if_neg e, if_neg (by omega)]
  · have : putR R t = R := by unfold putR; rw [if_neg hE]
    rw [this]
    exact ⟨m, q, h⟩
theorem Evn.fill {R : List Lan} {n d m q : Nat} (h : Evn R n d m q) (ts : List Int) : ∃ m' q', Evn (fill R ts) n d m' q' := by
  induction ts generalizing R m q with
  | nil => exact ⟨m, q, h⟩
  | cons t r ih =>
    obtain ⟨m', q', h'⟩ := h.put (tt t)
    exact ih h'
theorem Evn.init (n d : Nat) (hn : 1 ≤ n) : Evn (rack0 (List.replicate n (d : Int))) n d 0 0 := by
  have e : rack0 (List.replicate n (d : Int)) = List.replicate n (d, []) := by simp [rack0]
  rw [e]
  refine ⟨by simp, by omega, Nat.zero_le _, fun h => by omega, fun i hi => ?_, fun i hi => ?_⟩
  · simp [lan, List.getD, List.getElem?_replicate, hi]
  · simp [lan, List.getD, List.getElem?_replicate, hi]
theorem rep_ok (n d : Nat) (hn : 1 ≤ n) (hn8 : n ≤ 32) (hd : 1 ≤ d) (hd8 : d ≤ 8) : okDs (List.replicate n (d : Int)) :=
  ⟨by simpa using hn, by simpa using hn8, fun x hx => by rw [List.eq_of_mem_replicate hx]; unfold okD; omega⟩
/-- the first k of n set to d. -/
def part (n d k : Nat) : List Int := List.replicate k (d : Int) ++ List.replicate (n - k) 0
theorem part_len (n d k : Nat) (h : k ≤ n) : (part n d k).length = n := by simp [part]; omega
theorem part_set (n d k : Nat) (h : k < n) : (part n d k).set k (d : Int) = part n d (k + 1) := by
  unfold part
  rw [List.set_append_right _ _ (by simp), List.replicate_succ' (n := k), show n - k = (n - (k + 1)) + 1 by omega, List.replicate_succ]
  simp
theorem part_all (n d : Nat) : part n d n = List.replicate n (d : Int) := by simp [part]

/-- The lens of two lanes beside each other. -/
theorem Evn.law {R : List Lan} {n d m q : Nat} (h : Evn R n d m q) (i : Nat) (hi : i + 1 < n) :
    (lan R (i + 1)).2.length ≤ (lan R i).2.length ∧ (lan R i).2.length ≤ (lan R (i + 1)).2.length + 1 ∧ ((lan R i).2.length = (lan R (i + 1)).2.length ∨ (lan R 0).2.length = (lan R (n - 1)).2.length + 1) := by
  have h1 := h.cnt i (by omega)
  have h2 := h.cnt (i + 1) hi
  have h3 := h.cnt 0 (by omega)
  have h4 := h.cnt (n - 1) (by omega)
  have hq := h.hq
  rw [h1, h2, h3, h4]
  by_cases e1 : i < q <;> by_cases e2 : i + 1 < q
  · rw [if_pos e1, if_pos e2]; omega
  · rw [if_pos e1, if_neg e2, if_pos (by omega), if_neg (by omega)]; omega
  · omega
  · rw [if_neg e1, if_neg e2]; omega
theorem lanT_in (R : List Lan) (i : Nat) (h : i < R.length) : lanT R i = (lan R i).2 := by unfold lanT; rw [if_pos (by omega)]; simp

set_option maxRecDepth 100000 in
set_option maxHeartbeats 4000000 in
theorem gridEven_row (w : World) (x : Int) (hx : (Lit.int .i64 x).wf = true) (y : Int) (hy : (Lit.int .i64 y).wf = true) (u : Value) (zs : List Int) (hu : RdI w u zs) :
    Calls Try.prog 10 #[.int .i64 x, .int .i64 y, u] w fun e w' => e = .returned (.bool true) ∧ Fr w w' No := by
  have HU := Lib.hid hu
  obtain ⟨n, hn1, hn8, hn⟩ := umod1 x 8 (by decide) (by decide)
  obtain ⟨d, hd1, hd8, hd⟩ := umod1 y 8 (by decide) (by decide)
  have HOK := Lib.hid (rep_ok n d hn1 (by omega) hd1 (by omega))
  have hmk := make_ints n (by omega)
  clear hu hx hy
  go_enter Try.func10, Try.ntmps10
  go_wp2_with fail
  refine (awakeG_any _).mono ?_
  rintro e w1 ⟨rfl, hf1⟩
  have HF := Lib.hid hf1
  clear hf1
  go_upto_region 4 with (fail)
  rw [hn, hd]
  clear hn hd
  go_wp2_with fail
  obtain ⟨G, hG⟩ : ∃ G, w1.heap.size = G := ⟨_, rfl⟩
  have hg1 : w.heap.size ≤ w1.heap.size := HF.out.size
  rw [hG] at hg1
  have HP0 : Hid (SlI (w1.alloc (.cells (Array.replicate n (.int .i64 0)) 3)) (.slice (some ⟨G, 0, none⟩) n n) (part n d 0)) := Lib.hid (by
    have h := (made_new w1 n (by omega)).1
    rw [hG] at h
    simpa [part, zer] using h)
  have HF2 := Lib.hid (HF.out.nn (Fr.alloc w1 (.cells (Array.replicate n (.int .i64 0)) 3) No))
  rw [hG]
  generalize w1.alloc (.cells (Array.replicate n (.int .i64 0)) 3) = w2 at *
  clear hG HF hmk
  go_loopg [29] n (fun g v29 wr => ∃ (k : Nat), k + g = n ∧ v29 = .int .i64 k ∧ SlI wr (.slice (some ⟨G, 0, none⟩) n n) (part n d k) ∧ Fr w wr No)
  case atStart => exact ⟨0, by omega, rfl, HP0.out, HF2.out⟩
  case round =>
    obtain ⟨k, hk, rfl, hS, hf⟩ := hrel
    have HK := Lib.hid hk
    have HS := Lib.hid hS
    have HF := Lib.hid hf
    clear hk hS hf HP0 HF2
    by_cases hlt : k < n
    · have hpl := part_len n d k (by omega)
      have hcell := SlI.at hpl HS.out k hlt
      have hfrz := Sl.frz HS.out (0 + k)
      have hset := SlI.set hpl HS.out k hlt (d : Int)
      rw [part_set n d k hlt] at hset
      rw [Nat.zero_add] at hcell hfrz hset
      have HSET := Lib.hid hset
      have HF3 : Hid (Fr w (wr.setCell ⟨G, k, none⟩ (.int .i64 (d : Int))) No) := Lib.hid (HF.out.in1 (Fr.setCell _ _ _) hg1)
      have hk1 : (k : Int) < (n : Int) := by omega
      have HLT := Lib.hid hlt
      clear hpl hset
      go_wp2_with fail
      go_roundg (gk - 1)
      case measure => have := HK.out; have := HLT.out; omega
      case rel => exact ⟨k + 1, by have := HK.out; have := HLT.out; omega, by go_num, HSET.out, HF3.out⟩
    · obtain rfl : k = n := by have := HK.out; omega
      have hk1 : ¬ (k : Int) < (k : Int) := by omega
      rw [part_all] at HS
      have HV : Hid (RdI wr (.slice (some ⟨G, 0, none⟩) k k) (List.replicate k (d : Int))) := Lib.hid (by
        have h := SlI.rd HS.out (by simp; omega)
        exact h)
      clear hlt
      go_wp2_with fail
      refine (filled_any _ u (List.replicate k (d : Int)) zs _ HV.out (HU.out.keep0 HF.out)).mono ?_
      rintro e w3 (⟨_, p, gs, rfl, hN⟩ | ⟨hb, _⟩)
      · obtain ⟨m, q, hE⟩ := (Evn.init k d (by omega)).fill (zs.take 60)
        have hN' := hN.from HF.out
        generalize fill (rack0 (List.replicate k (d : Int))) (zs.take 60) = R at *
        have HN := Lib.hid hN'
        have HE := Lib.hid hE
        have hlen := hE.len
        have HLEN := Lib.hid hlen
        clear hN hN' hE HK HV HS HF
        go_wp2_with fail
        go_loopg [10] (k - 1) (fun g v10 wr => ∃ (i : Nat), i + g = k - 1 ∧ v10 = .int .i64 i ∧ NewR w wr p gs R)
        case atStart => exact ⟨0, by omega, rfl, HN.out⟩
        case round =>
          obtain ⟨i, hi, rfl, hR⟩ := hrel
          have HI := Lib.hid hi
          have HR := Lib.hid hR
          clear hi hR HN
          by_cases hlt : i + 1 < k
          · have hi1 : (i : Int) + 1 < (k : Int) := by omega
            obtain ⟨c1, c2, c3⟩ := HE.out.law i hlt
            have HLT := Lib.hid hlt
            clear hlt
            go_wp2_with fail
            refine (laneG_any p gs R i _ HR.out.rack).mono ?_
            rw [lanT_in R i (by have := HLT.out; omega)]
            rintro e w4 ⟨v4, rfl, hN4⟩
            obtain ⟨a4, d4, rfl⟩ := slv_form hN4.1
            have HR4 := Lib.hid (HR.out.keep0 hN4.2.1)
            clear hN4
            go_wp2_with fail
            refine (laneG_any p gs R ((i : Int) + 1) _ HR4.out.rack).mono ?_
            rw [show (i : Int) + 1 = ((i + 1 : Nat) : Int) by omega, lanT_in R (i + 1) (by have := HLT.out; omega)]
            rintro e w5 ⟨v5, rfl, hN5⟩
            obtain ⟨a5, d5, rfl⟩ := slv_form hN5.1
            have HR5 := Lib.hid (HR4.out.keep0 hN5.2.1)
            clear hN5
            have hl0 := lanT_in R 0 (by have := HLT.out; omega)
            have hl1 := lanT_in R (k - 1) (by have := HLT.out; omega)
            have hlb : (lan R i).2.length ≤ 1000 := by
              have h1 := HE.out.good i (by have := HLT.out; omega)
              have h2 := HE.out.dep i (by have := HLT.out; omega)
              omega
            generalize (lan R i).2.length = A at *
            generalize (lan R (i + 1)).2.length = B at *
            have d2 : ¬ (A : Int) < (B : Int) := by omega
            have d3 : ¬ (B : Int) + 1 < (A : Int) := by omega
            by_cases hab : A = B
            · have d1 : ((A : Int) != (B : Int)) = false := by simp [hab]
              clear c1 c2 c3
              go_wp2_with fail
              go_roundg (gk - 1)
              case measure => have := HI.out; have := HLT.out; omega
              case rel => exact ⟨i + 1, by have := HI.out; have := HLT.out; omega, by go_num, HR5.out⟩
            · have d1 : ((A : Int) != (B : Int)) = true := by simp; omega
              have hc := c3.resolve_left hab
              clear c1 c2 c3
              go_wp2_with fail
              refine (laneG_any p gs R (0 : Nat) _ HR5.out.rack).mono ?_
              rw [hl0]
              rintro e w6 ⟨v6, rfl, hN6⟩
              obtain ⟨a6, d6, rfl⟩ := slv_form hN6.1
              have HR6 := Lib.hid (HR5.out.keep0 hN6.2.1)
              clear hN6
              go_wp2_with fail
              refine (laneG_any p gs R ((k : Int) - 1) _ HR6.out.rack).mono ?_
              rw [show (k : Int) - 1 = ((k - 1 : Nat) : Int) by omega, hl1]
              rintro e w7 ⟨v7, rfl, hN7⟩
              obtain ⟨a7, d7, rfl⟩ := slv_form hN7.1
              have HR7 := Lib.hid (HR6.out.keep0 hN7.2.1)
              clear hN7
              have hlb2 : (lan R (k - 1)).2.length ≤ 1000 := by
                have h1 := HE.out.good (k - 1) (by have := HLT.out; omega)
                have h2 := HE.out.dep (k - 1) (by have := HLT.out; omega)
                omega
              generalize (lan R 0).2.length = C at *
              generalize (lan R (k - 1)).2.length = D at *
              subst hc
              have d4 : (((D + 1 : Nat) : Int) != (D : Int) + 1) = false := by simp
              have d5 : ((D : Int) + 1 != (D : Int) + 1) = false := by simp
              go_wp2_with fail
              go_roundg (gk - 1)
              case measure => have := HI.out; have := HLT.out; omega
              case rel => exact ⟨i + 1, by have := HI.out; have := HLT.out; omega, by go_num, HR7.out⟩
          · have hi1 : ¬ (i : Int) + 1 < (k : Int) := by omega
            have hi2 : (i : Int) ≤ 8 := by have := HI.out; omega
            go_wp2_with fail
            go_ret
            exact ⟨rfl, HR.out.fr⟩
      · exact absurd HOK.out hb
end Go.Proofs.Ytegoilhkooneaaa
