import Derived.Test.YtoilalohhicipaaSh2
namespace Go.Proofs.Ytoilalohhicipaa
open Go.RowKit
set_option linter.unusedVariables false
set_option linter.unusedSimpArgs false

theorem tick_is (w : World) (g : Nat) (s : St) (K W : Int) (T : St) (h0 : 0 ≤ s.ticks) (h1 : s.ticks ≤ 1000000) (hs : ShAt w g s) (hK : tickK s = K) (hW : tickW s = W) (hT : tickS s = T) :
    Calls Try.prog 12 #[.pointer (some ⟨g, 0, none⟩)] w fun e w' => e = .returned (.agg #[.int .i64 K, .int .i64 W]) ∧ ShAt w' g T ∧ Fr w w' (One g) := by
  subst hK; subst hW; subst hT; exact tick_any w g s h0 h1 hs
theorem assign_is (w : World) (g : Nat) (s : St) (t f o E : Int) (T : St) (hs : ShAt w g s) (hE : assignE s t f o = E) (hT : assignS s t f o = T) :
    Calls Try.prog 10 #[.pointer (some ⟨g, 0, none⟩), .agg #[.int .i64 t, .int .i64 f, .int .i64 o]] w fun e w' => e = .returned (.int .i64 E) ∧ ShAt w' g T ∧ Fr w w' (One g) := by
  subst hE; subst hT; exact assign_any w g s t f o hs
theorem moved_is (w : World) (g : Nat) (s : St) (p E : Int) (T : St) (hs : ShAt w g s) (hE : movedE s p = E) (hT : movedS s p = T) :
    Calls Try.prog 13 #[.pointer (some ⟨g, 0, none⟩), .int .i64 p] w fun e w' => e = .returned (.int .i64 E) ∧ ShAt w' g T ∧ Fr w w' (One g) := by
  subst hE; subst hT; exact moved_any w g s p hs
theorem picked_is (w : World) (g : Nat) (s : St) (t E : Int) (T : St) (hs : ShAt w g s) (hE : handE s 2 t = E) (hT : handS s 2 3 t = T) :
    Calls Try.prog 14 #[.pointer (some ⟨g, 0, none⟩), .int .i64 t] w fun e w' => e = .returned (.int .i64 E) ∧ ShAt w' g T ∧ Fr w w' (One g) := by
  subst hE; subst hT; exact picked_any w g s t hs
theorem dropped_is (w : World) (g : Nat) (s : St) (t E : Int) (T : St) (h0 : 0 ≤ s.done) (h1 : s.done ≤ 1000000) (hs : ShAt w g s) (hE : handE s 4 t = E) (hT : dropS s t = T) :
    Calls Try.prog 15 #[.pointer (some ⟨g, 0, none⟩), .int .i64 t] w fun e w' => e = .returned (.int .i64 E) ∧ ShAt w' g T ∧ Fr w w' (One g) := by
  subst hE; subst hT; exact dropped_any w g s t h0 h1 hs
theorem reset_is (w : World) (g : Nat) (s : St) (E : Int) (T : St) (h0 : 0 ≤ s.was) (h5 : s.was ≤ 5) (hs : ShAt w g s) (hE : resetE s = E) (hT : resetS s = T) :
    Calls Try.prog 19 #[.pointer (some ⟨g, 0, none⟩)] w fun e w' => e = .returned (.int .i64 E) ∧ ShAt w' g T ∧ Fr w w' (One g) := by
  subst hE; subst hT; exact reset_any w g s h0 h5 hs
theorem state_is (w : World) (g : Nat) (s : St) (x : Int) (hs : ShAt w g s) (hx : s.state = x) : Calls Try.prog 11 #[.pointer (some ⟨g, 0, none⟩)] w fun e w' => e = .returned (.int .i64 x) ∧ w = w' := by
  subst hx; exact state_any w g s hs
theorem load_is (w : World) (g : Nat) (s : St) (x : Int) (hs : ShAt w g s) (hx : loadS s = x) : Calls Try.prog 17 #[.pointer (some ⟨g, 0, none⟩)] w fun e w' => e = .returned (.int .i64 x) ∧ w = w' := by
  subst hx; exact load_any w g s hs
theorem done_is (w : World) (g : Nat) (s : St) (x : Int) (hs : ShAt w g s) (hx : s.done = x) : Calls Try.prog 18 #[.pointer (some ⟨g, 0, none⟩)] w fun e w' => e = .returned (.int .i64 x) ∧ w = w' := by
  subst hx; exact done_any w g s hs
theorem place_is (w : World) (g : Nat) (s : St) (x : Int) (hs : ShAt w g s) (hx : s.place = x) : Calls Try.prog 16 #[.pointer (some ⟨g, 0, none⟩)] w fun e w' => e = .returned (.int .i64 x) ∧ w = w' := by
  subst hx; exact place_any w g s hs

set_option maxRecDepth 100000 in
set_option maxHeartbeats 2000000 in
theorem awake_any (w : World) : Calls Try.prog 8 #[] w fun e w' => e = .returned (.bool true) ∧ Fr w w' No := by
  go_enter Try.func8, Try.ntmps8
  go_wp2_with fail
  refine (new_ok w 5 0 3 (by decide)).mono ?_
  rintro e w1 ⟨rfl, hs1, hf1⟩
  go_wp2_with fail
  refine (assign_is w1 w.heap.size _ 7 2 4 0 ⟨5, 3, 0, 1, 0, 0, 7, 2, 4, 0⟩ hs1 (by decide) rfl).mono ?_
  rintro e w2 ⟨rfl, hs2, hf2⟩
  go_wp2_with fail
  refine (tick_is w2 w.heap.size _ 1 2 ⟨5, 3, 0, 1, 0, 1, 7, 2, 4, 0⟩ (by decide) (by decide) hs2 (by decide) (by decide) rfl).mono ?_
  rintro e w3 ⟨rfl, hs3, hf3⟩
  have hlt := hs3.lt
  have hs4 := hs3.keep0 (Fr.alloc w3 (.cells #[.int .i64 1, .int .i64 2] 37) No)
  go_wp2_with fail
  refine (moved_is _ w.heap.size _ 2 0 ⟨5, 3, 2, 2, 0, 0, 7, 2, 4, 0⟩ hs4 (by decide) rfl).mono ?_
  rintro e w5 ⟨rfl, hs5, hf5⟩
  go_wp2_with fail
  refine (state_is _ w.heap.size _ 2 hs5 rfl).mono ?_
  rintro e w' ⟨rfl, rfl⟩
  go_wp2_with fail
  refine (picked_is _ w.heap.size _ 7 0 ⟨5, 3, 2, 3, 0, 0, 7, 2, 4, 0⟩ hs5 (by decide) rfl).mono ?_
  rintro e w6 ⟨rfl, hs6, hf6⟩
  go_wp2_with fail
  refine (load_is _ w.heap.size _ 7 hs6 (by decide)).mono ?_
  rintro e w' ⟨rfl, rfl⟩
  go_wp2_with fail
  refine (moved_is _ w.heap.size _ 4 0 ⟨5, 3, 4, 4, 0, 0, 7, 2, 4, 0⟩ hs6 (by decide) rfl).mono ?_
  rintro e w7 ⟨rfl, hs7, hf7⟩
  go_wp2_with fail
  refine (dropped_is _ w.heap.size _ 7 0 ⟨5, 3, 4, 0, 0, 0, 7, 2, 4, 1⟩ (by decide) (by decide) hs7 (by decide) rfl).mono ?_
  rintro e w8 ⟨rfl, hs8, hf8⟩
  go_wp2_with fail
  refine (done_is _ w.heap.size _ 1 hs8 rfl).mono ?_
  rintro e w' ⟨rfl, rfl⟩
  go_wp2
  go_ret
  exact ⟨rfl, hf1.in1 ((((((hf2.rr hf3).to_alloc _).rr hf5).rr hf6).rr hf7).rr hf8) (Nat.le_refl _)⟩

end Go.Proofs.Ytoilalohhicipaa
