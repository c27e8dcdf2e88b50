/-
  The laws of the grid: 'filled'.
-/
import Derived.Test.YtegoilhkooneaaaGr10
namespace Go.Proofs.Ytegoilhkooneaaa
open Go.RowKit Go.Sort
set_option linter.unusedVariables false
set_option linter.unusedSimpArgs false

/-- 'int(uint(x)%30) + 1' -/
def tt (x : Int) : Int := (IntKind.u64.wrap x) % 30 + 1
theorem tt_eq (x : Int) : wrap64 (wrap64 ((IntKind.u64.wrap x).tmod 30) + 1) = tt x := by
  obtain ⟨h1, h2, h3⟩ := umod x 30 (by decide) (by decide)
  rw [h1]
  unfold tt wrap64; omega
theorem tt_bd (x : Int) : 1 ≤ tt x ∧ tt x ≤ 30 := by
  obtain ⟨h1, h2, h3⟩ := umod x 30 (by decide) (by decide)
  unfold tt; omega
def fill (R : List Lan) (ts : List Int) : List Lan := ts.foldl (fun R x => putR R (tt x)) R
theorem fill_snoc (R : List Lan) (ts : List Int) (x : Int) : fill R (ts ++ [x]) = putR (fill R ts) (tt x) := by simp [fill]

def FilledOk (w : World) (ds zs : List Int) (e : Ending) (w' : World) : Prop := ∃ p gs, e = .returned (.pointer (some ⟨p, 0, none⟩)) ∧ NewR w w' p gs (fill (rack0 ds) (zs.take 60))
def FilledPost (w : World) (ds zs : List Int) (e : Ending) (w' : World) : Prop := (okDs ds ∧ FilledOk w ds zs e w') ∨ (¬ okDs ds ∧ e = .returned (.pointer none) ∧ Fr w w' No)

set_option maxRecDepth 100000 in
set_option maxHeartbeats 2000000 in
theorem filled_any (v u : Value) (ds zs : List Int) (w : World) (hv : RdI w v ds) (hu : RdI w u zs) :
    Calls Try.prog 35 #[v, u] w fun e w' => FilledPost w ds zs e w' := by
  obtain ⟨a, c, rfl, _⟩ := hu.open_
  have HU := Lib.hid hu
  have HV := Lib.hid hv
  have hl := hu.2
  clear hv hu
  by_cases hok : okDs ds
  · go_enter Try.func35, Try.ntmps35
    go_wp2_with fail
    refine (newG_ok _ ds _ HV.out hok).mono ?_
    rintro e w1 ⟨p, gs, rfl, hN⟩
    have HN := Lib.hid hN
    clear hN
    go_wp2_with fail
    go_loopg [7] (zs.take 60).length (fun g v7 wr => ∃ (k : Nat), k + g = (zs.take 60).length ∧ v7 = .int .i64 k ∧ NewR w wr p gs (fill (rack0 ds) (zs.take k)))
    case atStart => exact ⟨0, by omega, rfl, HN.out⟩
    case round =>
      obtain ⟨k, hk, rfl, hR⟩ := hrel
      have HK := Lib.hid hk
      have HR := Lib.hid hR
      clear hk hR HN
      have hmin : (zs.take 60).length = min 60 zs.length := List.length_take
      have HMIN := Lib.hid hmin
      clear hmin
      by_cases hlt : k < 60 ∧ k < zs.length
      · obtain ⟨h60, hlz⟩ := hlt
        obtain ⟨b, off, rfl, h3⟩ := (HU.out.keep0 HR.out.fr).get k hlz
        obtain ⟨x, hx⟩ : ∃ x, zs.getD k 0 = x := ⟨_, rfl⟩
        rw [hx] at h3
        have hk1 : (k : Int) < (zs.length : Int) := by omega
        have hk2 : (k : Int) < 60 := by omega
        have HTK : Hid (zs.take (k + 1) = zs.take k ++ [x]) := Lib.hid (by rw [List.take_succ_eq_append_getElem hlz, ← hx]; simp [List.getD, List.getElem?_eq_getElem hlz])
        have htt := tt_eq x
        clear hx
        go_wp2_with fail
        rw [htt]
        refine (put_any p gs _ (tt x) _ HR.out.rack).mono ?_
        rintro e w2 ⟨rfl, hr2, hf2⟩
        have HR2 := Lib.hid (HR.out.into hr2 hf2)
        clear hr2 hf2 h3
        go_wp2_with fail
        go_roundg (gk - 1)
        case measure => have := HK.out; have := HMIN.out; omega
        case rel => exact ⟨k + 1, by have := HK.out; have := HMIN.out; omega, by go_num, by rw [HTK.out, fill_snoc]; exact HR2.out⟩
      · have hz : zs.take k = zs.take 60 := by
          have := HK.out
          have h4 := HMIN.out
          rcases Nat.lt_or_ge k 60 with h | h
          · rw [List.take_of_length_le (by omega), List.take_of_length_le (by omega)]
          · rw [show k = 60 by omega]
        rw [hz] at HR
        have hcase : ¬ ((k : Int) < (zs.length : Int)) ∨ ((k : Int) < (zs.length : Int) ∧ ¬ ((k : Int) < 60)) := by omega
        clear hz hlt
        rcases hcase with d1 | ⟨d1, d2⟩
        all_goals
          go_wp2_with fail
          go_ret
          exact .inl ⟨hok, p, gs, rfl, HR.out⟩
  · go_enter Try.func35, Try.ntmps35
    go_wp2_with fail
    refine (newG_bad _ ds _ HV.out hok).mono ?_
    rintro e w1 ⟨rfl, hf⟩
    have HF := Lib.hid hf
    clear hf
    go_wp2_with fail
    go_ret
    exact .inr ⟨hok, rfl, HF.out⟩
end Go.Proofs.Ytegoilhkooneaaa
