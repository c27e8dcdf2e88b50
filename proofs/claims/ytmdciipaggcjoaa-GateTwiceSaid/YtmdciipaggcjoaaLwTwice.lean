/-
  The law GateTwice, walked.
-/
import Derived.Test.YtmdciipaggcjoaaGw
namespace Go.Proofs.Ytmdciipaggcjoaa
open Go.RowKit Go.Conc
set_option linter.unusedVariables false
set_option linter.unusedSimpArgs false

theorem tw1 (y : Int) : accE [] [] y = 0 ∧ accW [] [] y = [y] := by simp [accE, accW, has_mem]
theorem tw2 (y id : Int) (h : y ≠ id) : accE [y] [] id = 0 ∧ accW [y] [] id = [y, id] := by have := h.symm; simp [accE, accW, has_mem, this]
theorem tw3 (y id : Int) : accE [y, id] [] id = 2 ∧ accW [y, id] [] id = [y, id] := by simp [accE, accW, has_mem]
theorem tw4 (y id : Int) (h : y ≠ id) (cap : Nat) : arrE cap [y, id] [] id = 110 ∧ arrW cap [y, id] [] id = [y, id] ∧ arrI cap [y, id] [] id = [] := by
  have := h.symm
  simp [arrE, arrW, arrI, lookE, has_mem, idx, this]
theorem tw5 (y id : Int) : lookE [y, id] [] y = 0 ∧ canW [y, id] [] y = [id] := by simp [lookE, canW, has_mem, idx]
theorem tw6 (y id : Int) (h : y ≠ id) : lookE [id] [] y = 4 ∧ canW [id] [] y = [id] := by simp [lookE, canW, has_mem, idx, h]
theorem tw7 (y id : Int) (cap : Nat) (hc : 1 ≤ cap) : arrE cap [y, id] [] y = 0 ∧ arrW cap [y, id] [] y = [id] ∧ arrI cap [y, id] [] y = [y] := by
  have : 0 < cap := hc
  simp [arrE, arrW, arrI, lookE, has_mem, idx, this]
theorem tw8 (id : Int) (cap : Nat) (hc : 1 ≤ cap) : arrE cap [id] [] id = 0 ∧ arrW cap [id] [] id = [] ∧ arrI cap [id] [] id = [id] := by
  have : 0 < cap := hc
  simp [arrE, arrW, arrI, lookE, has_mem, idx, this]
theorem tw9 (id : Int) (cap : Nat) : arrE cap [] [] id = 4 ∧ arrW cap [] [] id = [] ∧ arrI cap [] [] id = [] := by simp [arrE, arrW, arrI, lookE, has_mem, idx]
theorem twl (x : Int) : leaX [x] = x ∧ leaE [x] = 0 ∧ [x].tail = [] := by simp [leaX, leaE]

set_option maxRecDepth 100000 in
set_option maxHeartbeats 4000000 in
theorem gateTwice_all (w : World) (x : Int) (hx : (Lit.int .i64 x).wf = true) (id : Int) (hid : (Lit.int .i64 id).wf = true) (ts : Int) (hts : (Lit.int .i64 ts).wf = true) :
    Calls Try.prog 8 #[.int .i64 x, .int .i64 id, .int .i64 ts] w fun e w' => e = .returned (.bool true) ∧ Fr w w' No := by
  obtain ⟨cap, h1, h16, hd⟩ := umod1 x 16 (by decide) (by decide)
  obtain ⟨hm, hm0, hm1⟩ := umod ts 20 (by decide) (by decide)
  have h16' : cap ≤ 16 := by omega
  generalize (IntKind.u64.wrap ts) % 20 = m at *
  have hidr : -9223372036854775808 ≤ id ∧ id ≤ 9223372036854775807 := by
    simp [Lit.wf, IntKind.min, IntKind.max, IntKind.bits, IntKind.signed] at hid
    exact hid
  clear hx hid hts
  go_enter Try.func8, Try.ntmps8
  go_wp2_with fail
  refine (awake_any _).mono ?_
  rintro e w1 ⟨rfl, hf1⟩
  have HF := Lib.hid hf1
  clear hf1
  go_wp2_with fail
  rw [hd]
  clear hd
  refine (new_g w cap _ HF.out h1 h16').mono ?_
  rintro e w2 ⟨rfl, hG⟩
  generalize w1.heap.size + 1 = p at *
  have HG := Lib.hid hG
  clear hG HF
  by_cases hmin : id = -9223372036854775808
  · go_wp2_with fail
    go_ret
    exact ⟨rfl, HG.out.fr⟩
  · have hb : (id == -9223372036854775808) = false := by simpa using hmin
    obtain ⟨y, hy⟩ : ∃ y, id - 1 = y := ⟨_, rfl⟩
    have hw1 : wrap64 (id - 1) = y := by rw [← hy]; unfold wrap64; omega
    have hne : y ≠ id := by omega
    have HNE := Lib.hid hne
    have HY := Lib.hid hy
    clear hmin hidr hne hy
    go_wp2_with fail
    go_loopg [9] 20 (fun g v9 wr => ∃ k : Nat, k + g = 20 ∧ (k : Int) ≤ m ∧ v9 = .int .i64 k ∧ Sg w wr p cap [] [])
    case atStart => exact ⟨0, by omega, by omega, rfl, HG.out⟩
    case round =>
      clear HG
      obtain ⟨k, hk, hkm, rfl, hG⟩ := hrel
      have HG := Lib.hid hG
      clear hG
      by_cases hlt : (k : Int) < m
      · have HLT := Lib.hid hlt
        have HGK := Lib.hid hk
        have hk20 : (k : Int) < 20 := by omega
        clear hk hkm
        go_wp2_with fail
        refine (accept_g w p cap [] [] y 0 [y] _ HG.out (tw1 y).1 (tw1 y).2).mono ?_
        rintro e w3 ⟨rfl, hG⟩
        have HG3 := Lib.hid hG
        clear hG HG
        go_wp2_with fail
        refine (accept_g w p cap [y] [] id 0 [y, id] _ HG3.out (tw2 y id HNE.out).1 (tw2 y id HNE.out).2).mono ?_
        rintro e w4 ⟨rfl, hG⟩
        have HG4 := Lib.hid hG
        clear hG HG3
        go_wp2_with fail
        refine (accept_g w p cap [y, id] [] id 2 [y, id] _ HG4.out (tw3 y id).1 (tw3 y id).2).mono ?_
        rintro e w5 ⟨rfl, hG⟩
        have HG5 := Lib.hid hG
        clear hG HG4
        go_wp2_with fail
        refine (arrive_g w p cap [y, id] [] id 110 [y, id] [] _ HG5.out (tw4 y id HNE.out cap).1 (tw4 y id HNE.out cap).2.1 (tw4 y id HNE.out cap).2.2).mono ?_
        rintro e w6 ⟨rfl, hG⟩
        have HG6 := Lib.hid hG
        clear hG HG5
        have hpar : (k : Int).tmod 2 = 0 ∨ (k : Int).tmod 2 = 1 := by rw [Int.tmod_eq_emod_of_nonneg (by omega)]; omega
        rcases hpar with hp | hp
        · go_wp2_with fail
          refine (cancel_g w p cap [y, id] [] y 0 [id] _ HG6.out (tw5 y id).1 (tw5 y id).2).mono ?_
          rintro e w7 ⟨rfl, hG⟩
          have HG7 := Lib.hid hG
          clear hG HG6
          go_wp2_with fail
          refine (cancel_g w p cap [id] [] y 4 [id] _ HG7.out (tw6 y id HNE.out).1 (tw6 y id HNE.out).2).mono ?_
          rintro e w8 ⟨rfl, hG⟩
          have HG8 := Lib.hid hG
          clear hG HG7
          go_wp2_with fail
          refine (arrive_g w p cap [id] [] id 0 [] [id] _ HG8.out (tw8 id cap h1).1 (tw8 id cap h1).2.1 (tw8 id cap h1).2.2).mono ?_
          rintro e w9 ⟨rfl, hG⟩
          have HG9 := Lib.hid hG
          clear hG HG8
          go_wp2_with fail
          refine (leave_g w p cap [] [id] id 0 [] _ HG9.out (twl id).1 (twl id).2.1 (twl id).2.2).mono ?_
          rintro e w10 ⟨rfl, hG⟩
          have HG10 := Lib.hid hG
          clear hG HG9
          go_wp2_with fail
          refine (arrive_g w p cap [] [] id 4 [] [] _ HG10.out (tw9 id cap).1 (tw9 id cap).2.1 (tw9 id cap).2.2).mono ?_
          rintro e w11 ⟨rfl, hG⟩
          have HG11 := Lib.hid hG
          clear hG HG10 hp
          go_wp2_with fail
          go_roundg (gk - 1)
          case measure => have := HGK.out; omega
          case rel => exact ⟨k + 1, by have := HGK.out; omega, by have := HLT.out; omega, by go_num, HG11.out⟩
        · go_wp2_with fail
          refine (arrive_g w p cap [y, id] [] y 0 [id] [y] _ HG6.out (tw7 y id cap h1).1 (tw7 y id cap h1).2.1 (tw7 y id cap h1).2.2).mono ?_
          rintro e w7 ⟨rfl, hG⟩
          have HG7 := Lib.hid hG
          clear hG HG6
          go_wp2_with fail
          refine (leave_g w p cap [id] [y] y 0 [] _ HG7.out (twl y).1 (twl y).2.1 (twl y).2.2).mono ?_
          rintro e w8 ⟨rfl, hG⟩
          have HG8 := Lib.hid hG
          clear hG HG7
          go_wp2_with fail
          refine (arrive_g w p cap [id] [] id 0 [] [id] _ HG8.out (tw8 id cap h1).1 (tw8 id cap h1).2.1 (tw8 id cap h1).2.2).mono ?_
          rintro e w9 ⟨rfl, hG⟩
          have HG9 := Lib.hid hG
          clear hG HG8
          go_wp2_with fail
          refine (leave_g w p cap [] [id] id 0 [] _ HG9.out (twl id).1 (twl id).2.1 (twl id).2.2).mono ?_
          rintro e w10 ⟨rfl, hG⟩
          have HG10 := Lib.hid hG
          clear hG HG9
          go_wp2_with fail
          refine (arrive_g w p cap [] [] id 4 [] [] _ HG10.out (tw9 id cap).1 (tw9 id cap).2.1 (tw9 id cap).2.2).mono ?_
          rintro e w11 ⟨rfl, hG⟩
          have HG11 := Lib.hid hG
          clear hG HG10 hp
          go_wp2_with fail
          go_roundg (gk - 1)
          case measure => have := HGK.out; omega
          case rel => exact ⟨k + 1, by have := HGK.out; omega, by have := HLT.out; omega, by go_num, HG11.out⟩
      · go_wp2_with fail
        obtain ⟨S, hS⟩ := HG.out
        refine (waiting_any p S cap [] [] _ hS.g).mono ?_
        rintro e w3 ⟨v3, rfl, hN3⟩
        obtain ⟨a3, c3, hv3⟩ := slv_form hN3.1
        simp only [List.length_nil] at hv3
        subst hv3
        have hS3 := hS.keep0 hN3.2.1
        have HS3 := Lib.hid hS3
        clear hS hS3 hN3
        go_wp2_with fail
        refine (inside_any p S cap [] [] _ HS3.out.g).mono ?_
        rintro e w4 ⟨v4, rfl, hN4⟩
        obtain ⟨a4, c4, hv4⟩ := slv_form hN4.1
        simp only [List.length_nil] at hv4
        subst hv4
        have hS4 := HS3.out.keep0 hN4.2.1
        have HS4 := Lib.hid hS4
        clear hS4 hN4
        go_wp2_with fail
        go_ret
        exact ⟨rfl, HS4.out.fr⟩
end Go.Proofs.Ytmdciipaggcjoaa
