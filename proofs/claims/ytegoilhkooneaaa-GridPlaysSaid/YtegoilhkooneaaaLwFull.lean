/-
  The law GridFull: its plain part and its walk.
-/
import Derived.Test.YtegoilhkooneaaaGp
namespace Go.Proofs.Ytegoilhkooneaaa
open Go.RowKit Go.Sort
set_option linter.unusedVariables false
set_option linter.unusedSimpArgs false

theorem rack0_good (ds : List Int) : Good (rack0 ds) := fun i hi => by
  unfold lan rack0
  simp only [rack0, List.length_map] at hi
  simp [List.getD, List.getElem?_map, List.getElem?_eq_getElem hi]
theorem rack0_cnt (t : Int) (ds : List Int) : cnt t (rack0 ds) = 0 := by
  induction ds with
  | nil => rfl
  | cons d r ih => rw [show rack0 (d :: r) = (d.toNat, []) :: rack0 r from rfl, cnt_cons, ih]; simp
theorem rack0_room (ds : List Int) (h : ∀ d ∈ ds, okD d) : roomR (rack0 ds) = ds.sum := by
  induction ds with
  | nil => rfl
  | cons d r ih =>
    rw [show rack0 (d :: r) = (d.toNat, []) :: rack0 r from rfl, roomR_cons, ih (fun x hx => h x (List.mem_cons_of_mem _ hx)), List.sum_cons]
    have := h d (by simp)
    unfold okD at this
    simp; omega
theorem sum_take_bd (ds : List Int) (h : ∀ d ∈ ds, okD d) (k : Nat) : 0 ≤ (ds.take k).sum ∧ (ds.take k).sum ≤ 8 * (k : Int) := by
  induction k generalizing ds with
  | zero => simp
  | succ k ih =>
    cases ds with
    | nil => simp; omega
    | cons d r =>
      have h1 := ih r (fun x hx => h x (List.mem_cons_of_mem _ hx))
      have h2 := h d (by simp)
      unfold okD at h2
      rw [List.take_succ_cons, List.sum_cons]
      omega

/-- k totes have been tried. -/
structure Tried (R : List Lan) (S : Int) (k : Nat) : Prop where
  good : Good R
  cnt : ∀ t : Int, (k : Int) < t → cnt t R = 0
  room : roomR R = max 0 (S - k)
theorem Tried.init {ds : List Int} (h : okDs ds) : Tried (rack0 ds) ds.sum 0 := ⟨rack0_good ds, fun t _ => rack0_cnt t ds, by
  have h1 := roomR_nonneg (rack0_good ds)
  rw [rack0_room ds h.2.2] at *
  omega⟩
theorem Tried.step {R : List Lan} {S : Int} {k : Nat} (h : Tried R S k) (hk : k < 30) :
    Tried (putR R ((k : Int) + 1)) S (k + 1) ∧ ((((k : Int) + 1 ≤ S) ∧ putE R ((k : Int) + 1) = 0) ∨ (¬ ((k : Int) + 1 ≤ S) ∧ putE R ((k : Int) + 1) = 5 ∧ putI R ((k : Int) + 1) = 0)) := by
  have hc := h.cnt ((k : Int) + 1) (by omega)
  have hr := h.room
  by_cases hS : (k : Int) + 1 ≤ S
  · have hp := put_to h.good (t := (k : Int) + 1) (by omega) (by omega) hc (by omega)
    have hd := put_done h.good (t := (k : Int) + 1) (by omega) (by omega) hc (by omega)
    refine ⟨⟨hp.good, fun t ht => ?_, ?_⟩, .inl ⟨hS, hd.1⟩⟩
    · rw [hp.cnt, h.cnt t (by omega), if_neg (by omega)]
    · have := hp.room
      omega
  · obtain ⟨e1, e2, e3⟩ := put_full h.good (t := (k : Int) + 1) (by omega) (by omega) hc (by omega)
    rw [e2]
    exact ⟨⟨h.good, fun t ht => h.cnt t (by omega), by omega⟩, .inr ⟨hS, e1, e3⟩⟩

set_option maxRecDepth 100000 in
set_option maxHeartbeats 2000000 in
theorem gridFull_bad (w : World) (v : Value) (ds : List Int) (hv : RdI w v ds) (hok : ¬ okDs ds) :
    Calls Try.prog 8 #[v] w fun e w' => e = .returned (.bool true) ∧ Fr w w' No := by
  have HV := Lib.hid hv
  clear hv
  go_enter Try.func8, Try.ntmps8
  go_wp2_with fail
  refine (awakeG_any _).mono ?_
  rintro e w1 ⟨rfl, hf1⟩
  have HF := Lib.hid hf1
  clear hf1
  go_wp2_with fail
  refine (newG_bad _ ds _ (HV.out.keep0 HF.out) hok).mono ?_
  rintro e w2 ⟨rfl, hf2⟩
  have HF2 := Lib.hid (HF.out.nn hf2)
  clear hf2
  go_wp2_with fail
  go_ret
  exact ⟨rfl, HF2.out⟩

set_option maxRecDepth 100000 in
set_option maxHeartbeats 2000000 in
theorem gridFull_ok (w : World) (v : Value) (ds : List Int) (hv : RdI w v ds) (hok : okDs ds) :
    Calls Try.prog 8 #[v] w fun e w' => e = .returned (.bool true) ∧ Fr w w' No := by
  obtain ⟨a, c, rfl, _⟩ := hv.open_
  have HV := Lib.hid hv
  have HOK := Lib.hid hok
  have h32 := hok.2.1
  clear hv hok
  go_enter Try.func8, Try.ntmps8
  go_wp2_with fail
  refine (awakeG_any _).mono ?_
  rintro e w1 ⟨rfl, hf1⟩
  have HF := Lib.hid hf1
  clear hf1
  go_wp2_with fail
  refine (newG_ok _ ds _ (HV.out.keep0 HF.out) HOK.out).mono ?_
  rintro e w2 ⟨p, gs, rfl, hN⟩
  have HN := Lib.hid (hN.from HF.out)
  clear hN HF
  go_wp2_with fail
  go_loopg [5, 32] ds.length (fun g v5 v32 wr => ∃ (k : Nat) (n : Int), k + g = ds.length ∧ v32 = .int .i64 k ∧ v5 = .int .i64 n ∧ n = (ds.take k).sum ∧ 0 ≤ n ∧ n ≤ 8 * (k : Int) ∧ wr = w2)
  case atStart => exact ⟨0, 0, by omega, rfl, rfl, by simp, by omega, by omega, rfl⟩
  case round =>
    obtain ⟨k, n, hk, rfl, rfl, hn, hn0, hn1, rfl⟩ := hrel
    have HK := Lib.hid hk
    have HNN := Lib.hid hn
    clear hk hn
    by_cases hlt : k < ds.length
    · obtain ⟨b, off, rfl, h3⟩ := (HV.out.keep0 HN.out.fr).get k hlt
      obtain ⟨x, hx⟩ : ∃ x, ds.getD k 0 = x := ⟨_, rfl⟩
      rw [hx] at h3
      have htk : ds.take (k + 1) = ds.take k ++ [x] := by rw [List.take_succ_eq_append_getElem hlt, ← hx]; simp [List.getD, List.getElem?_eq_getElem hlt]
      have hxm : x ∈ ds := by rw [← hx]; simp [List.getD, List.getElem?_eq_getElem hlt]
      have hxo := HOK.out.2.2 x hxm
      unfold okD at hxo
      have HTK := Lib.hid htk
      have hk1 : (k : Int) < (ds.length : Int) := by omega
      have hw : wrap64 (n + x) = n + x := by unfold wrap64; omega
      have HW := Lib.hid hw
      clear hx htk hxm
      have HLT := Lib.hid hlt
      go_wp2_with fail
      go_roundg (gk - 1)
      case measure => have := HK.out; have := HLT.out; omega
      case rel => exact ⟨k + 1, n + x, by have := HK.out; have := HLT.out; omega, by go_num, rfl, by rw [HTK.out, HNN.out]; simp, by omega, by omega, rfl⟩
    · have htk : ds.take k = ds := List.take_of_length_le (by omega)
      have hnn := HNN.out
      rw [htk] at hnn
      have hk1 : ¬ (k : Int) < (ds.length : Int) := by omega
      have hn2 : n ≤ 256 := by have := HK.out; omega
      have HS := Lib.hid hnn
      have HT0 : Hid (Tried (rack0 ds) n 0) := Lib.hid (by rw [hnn]; exact Tried.init HOK.out)
      clear htk hnn HNN HK hlt
      go_wp2_with fail
      go_loopg [8] 30 (fun g v8 wr => ∃ (k : Nat) (R : List Lan), k + g = 30 ∧ v8 = .int .i64 ((k : Int) + 1) ∧ Tried R n k ∧ NewR w wr p gs R)
      case atStart => exact ⟨0, _, by omega, rfl, HT0.out, HN.out⟩
      case round =>
        obtain ⟨k, R, hk, rfl, hT, hR⟩ := hrel
        have HK := Lib.hid hk
        have HT := Lib.hid hT
        have HR := Lib.hid hR
        clear hk hT hR HN
        by_cases hlt : k < 30
        · have hk1 : (k : Int) + 1 ≤ 30 := by omega
          obtain ⟨hT2, hcase⟩ := HT.out.step hlt
          have HT2 := Lib.hid hT2
          clear hT2
          go_wp2_with fail
          refine (put_any p gs R ((k : Int) + 1) _ HR.out.rack).mono ?_
          rintro e w3 ⟨rfl, hr, hf⟩
          have HR2 := Lib.hid (HR.out.into hr hf)
          clear hr hf
          rcases hcase with ⟨d1, d2⟩ | ⟨d1, d2, d3⟩
          · rw [d2]
            have hd : decide ((k : Int) + 1 ≤ n) = true := decide_eq_true d1
            clear d1 d2
            go_wp2_with fail
            go_roundg (gk - 1)
            case measure => have := HK.out; omega
            case rel => exact ⟨k + 1, _, by have := HK.out; omega, by go_num, HT2.out, HR2.out⟩
          · rw [d2, d3]
            have hd : decide ((k : Int) + 1 ≤ n) = false := decide_eq_false (by omega)
            clear d1 d2 d3
            go_wp2_with fail
            go_roundg (gk - 1)
            case measure => have := HK.out; omega
            case rel => exact ⟨k + 1, _, by have := HK.out; omega, by go_num, HT2.out, HR2.out⟩
        · have hk30 : k = 30 := by have := HK.out; omega
          subst hk30
          have hroom := HT.out.room
          have HROOM := Lib.hid hroom
          clear hroom HT HK
          go_wp2_with fail
          refine (roomG_any p gs R _ HR.out.rack).mono ?_
          rintro e w3 ⟨rfl, hf⟩
          have HF3 := Lib.hid (HR.out.fr.nn hf)
          rw [HROOM.out]
          clear hf
          go_wp2_with fail
          · go_ret
            refine ⟨?_, HF3.out⟩
            show Ending.returned (Value.bool (max 0 (n - 30) == n - 30)) = _
            rw [show max 0 (n - 30) = n - 30 by omega]
            simp
          · go_ret
            refine ⟨?_, HF3.out⟩
            show Ending.returned (Value.bool (max 0 (n - 30) == 0)) = _
            rw [show max 0 (n - 30) = 0 by omega]
            rfl

theorem gridFull_row (w : World) (v : Value) (ds : List Int) (hv : RdI w v ds) :
    Calls Try.prog 8 #[v] w fun e w' => e = .returned (.bool true) ∧ Fr w w' No := by
  by_cases hok : okDs ds
  · exact gridFull_ok w v ds hv hok
  · exact gridFull_bad w v ds hv hok
end Go.Proofs.Ytegoilhkooneaaa
