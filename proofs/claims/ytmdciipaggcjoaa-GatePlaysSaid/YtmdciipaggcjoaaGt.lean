/-
  Package gate: a gate in memory; its methods' contracts.
-/
import Derived.Test.YtmdciipaggcjoaaSl
import Derived.Test.YtmdciipaggcjoaaCm
import Derived.Lib.SliceRun
namespace Go.Proofs.Ytmdciipaggcjoaa
open Go.RowKit Go.Conc
set_option linter.unusedVariables false
set_option linter.unusedSimpArgs false

/-- The channel's block: what lies in it. -/
def ChAt (w : World) (c : Nat) (cap : Nat) (I : List Int) : Prop := ∃ s r, w.heap[c]? = some (.chan cap (I.map (Value.int .i64)).toArray false s r false)
/-- A gate's parts. -/
structure GP (w : World) (p c : Nat) (vw vo : Value) (cap : Nat) (W I : List Int) : Prop where
  blk : w.heap[p]? = some (.cells #[vw, .chan (some c), vo] 53 (0, 0))
  sw : SlI w vw W
  so : SlI w vo I
  ch : ChAt w c cap I
  dis : ∀ k, vw.ownBlock = some k → vo.ownBlock ≠ some k
  cap1 : 1 ≤ cap
  cap16 : cap ≤ 16
  ic : I.length ≤ cap
  le : W.length + I.length ≤ 64
def own (p c : Nat) (vw vo : Value) : Nat → Prop := fun k => k = p ∨ k = c ∨ vw.ownBlock = some k ∨ vo.ownBlock = some k
/-- A gate at p: S: its blocks. -/
def GAt (w : World) (p : Nat) (S : Nat → Prop) (cap : Nat) (W I : List Int) : Prop :=
  ∃ c vw vo, GP w p c vw vo cap W I ∧ (∀ k, own p c vw vo k → S k) ∧ ∀ k, S k → k < w.heap.size

theorem ch_lt {w : World} {c cap : Nat} {I : List Int} (h : ChAt w c cap I) : c < w.heap.size := by
  obtain ⟨s, r, h⟩ := h; exact blk_lt h
theorem ch_ne {w : World} {c cap : Nat} {I : List Int} {g : Nat} {cs : Array Value} {t : TypeId} {fr : Nat × Nat} (h : ChAt w c cap I) (hb : w.heap[g]? = some (.cells cs t fr)) : c ≠ g := by
  rintro rfl
  obtain ⟨s, r, h⟩ := h
  rw [hb] at h; cases h
theorem ch_own {w : World} {c cap : Nat} {I : List Int} (h : ChAt w c cap I) {v : Value} {zs : List Int} (hs : SlI w v zs) : v.ownBlock ≠ some c := by
  obtain ⟨hl, ⟨rfl, _⟩ | ⟨g, off, cap', cur, rfl, hg, _⟩⟩ := hs
  · simp [Value.ownBlock]
  · simp only [Value.ownBlock, ne_eq, Option.some.injEq]
    exact fun e => ch_ne h hg e.symm
theorem GP.lt {w : World} {p c : Nat} {vw vo : Value} {cap : Nat} {W I : List Int} (h : GP w p c vw vo cap W I) : ∀ k, own p c vw vo k → k < w.heap.size := by
  rintro k (rfl | rfl | e | e)
  · exact blk_lt h.blk
  · exact ch_lt h.ch
  · exact Sl.lt h.sw k e
  · exact Sl.lt h.so k e
theorem GP.at_ {w : World} {p c : Nat} {vw vo : Value} {cap : Nat} {W I : List Int} (h : GP w p c vw vo cap W I) : GAt w p (own p c vw vo) cap W I := ⟨c, vw, vo, h, fun _ h => h, h.lt⟩
theorem ChAt.keep {w w' : World} {S : Nat → Prop} {c cap : Nat} {I : List Int} (h : ChAt w c cap I) (hf : Fr w w' S) (hS : ¬ S c) : ChAt w' c cap I := by
  obtain ⟨s, r, h⟩ := h; exact ⟨s, r, hf.blk h hS⟩
theorem GP.keep {w w' : World} {T : Nat → Prop} {p c : Nat} {vw vo : Value} {cap : Nat} {W I : List Int} (h : GP w p c vw vo cap W I) (hf : Fr w w' T) (hT : ∀ k, own p c vw vo k → ¬ T k) : GP w' p c vw vo cap W I :=
  ⟨hf.blk h.blk (hT _ (.inl rfl)), h.sw.keep hf (fun g e => hT g (.inr (.inr (.inl e)))), h.so.keep hf (fun g e => hT g (.inr (.inr (.inr e)))), h.ch.keep hf (hT _ (.inr (.inl rfl))), h.dis, h.cap1, h.cap16, h.ic, h.le⟩
theorem GAt.keep {w w' : World} {S T : Nat → Prop} {p : Nat} {cap : Nat} {W I : List Int} (h : GAt w p S cap W I) (hf : Fr w w' T) (hT : ∀ k, S k → ¬ T k) : GAt w' p S cap W I := by
  obtain ⟨c, vw, vo, h1, h2, h3⟩ := h
  exact ⟨c, vw, vo, h1.keep hf (fun k hk => hT k (h2 k hk)), h2, fun k hk => Nat.lt_of_lt_of_le (h3 k hk) hf.size⟩
theorem GAt.keep0 {w w' : World} {S : Nat → Prop} {p : Nat} {cap : Nat} {W I : List Int} (h : GAt w p S cap W I) (hf : Fr w w' No) : GAt w' p S cap W I := h.keep hf (fun _ _ h => h)
theorem Fr.setChan (w : World) (c cap : Nat) (buf : Array Value) (cl : Bool) (s r : Nat) (tm : Bool) : Fr w (w.setChan c cap buf cl s r tm) (One c) :=
  ⟨rfl, rfl, rfl, by simp [World.setChan], fun k hk hn => by
    simp only [World.setChan]
    rw [Array.getElem?_setIfInBounds_ne (fun e => hn e.symm)]⟩

/-- What a method has made of a gate. -/
def GTo (w w' : World) (p : Nat) (S : Nat → Prop) (cap : Nat) (W I : List Int) : Prop :=
  ∃ S', GAt w' p S' cap W I ∧ Fr w w' S ∧ ∀ k, S' k → S k ∨ w.heap.size ≤ k
theorem GAt.to_same {w w' : World} {p : Nat} {S : Nat → Prop} {cap : Nat} {W I : List Int} (h : GAt w p S cap W I) (hf : Fr w w' No) : GTo w w' p S cap W I := ⟨S, h.keep0 hf, hf.no S, fun k h => .inl h⟩

/-! ### New -/
theorem bytes3 : ∃ i, Try.prog.info? 3 = some i ∧ i.bytes = 8 := by
  have h : (Try.prog.info? 3).map (·.bytes) = some 8 := by kernel_rfl
  obtain ⟨i, hi, hb⟩ := Option.map_eq_some_iff.1 h
  exact ⟨i, hi, hb⟩
theorem make_chan (n : Nat) (hn : n ≤ 16) (w : World) : (Instr.makeChan 51 (.int .i64 n)).run Try.prog w = .ok (.chan (some w.heap.size)) (w.alloc (.chan n #[] false 0 0 false)) := by
  obtain ⟨i, hi, hb⟩ := bytes3
  exact run_makeChan (P := Try.prog) (w := w) Try.underlying51 hi .i64 n (by omega) (by rw [hb]; omega)

set_option maxHeartbeats 400000 in
theorem new_bad (n : Int) (w : World) (hd : n < 1 ∨ 16 < n) :
    Calls Try.prog 10 #[.int .i64 n] w fun e w' => e = .returned (.tuple #[.pointer none, .int .i64 1]) ∧ w = w' := by
  by_cases h : n < 1
  · go_enter Try.func10, Try.ntmps10
    go_wp2
    go_ret2
    exact ⟨rfl, rfl⟩
  · have h' : 16 < n := by omega
    go_enter Try.func10, Try.ntmps10
    go_wp2
    go_ret2
    exact ⟨rfl, rfl⟩

/-- A gate that the call has made. -/
def GNew (w w' : World) (p : Nat) (cap : Nat) (W I : List Int) : Prop := ∃ S, GAt w' p S cap W I ∧ Fr w w' No ∧ ∀ k, S k → w.heap.size ≤ k
set_option maxHeartbeats 400000 in
theorem new_ok (n : Nat) (w : World) (h1 : 1 ≤ n) (h16 : n ≤ 16) :
    Calls Try.prog 10 #[.int .i64 n] w fun e w' => e = .returned (.tuple #[.pointer (some ⟨w.heap.size + 1, 0, none⟩), .int .i64 0]) ∧ GNew w w' (w.heap.size + 1) n [] [] := by
  have a1 : ¬ (n : Int) < 1 := by omega
  have a2 : ¬ (16 : Int) < (n : Int) := by omega
  have hmk := make_chan n h16
  go_enter Try.func10, Try.ntmps10
  go_wp2
  go_ret2
  have hb := two_blk w (.chan n #[] false 0 0 false) (.cells #[.slice none 0 0, .chan (some w.heap.size), .slice none 0 0] 53)
  refine ⟨rfl, _, GP.at_ (c := w.heap.size) (vw := .slice none 0 0) (vo := .slice none 0 0) ⟨hb.2.1, Sl.nil _ _ _, Sl.nil _ _ _, ⟨0, 0, hb.1⟩, by simp [Value.ownBlock], h1, h16, by simp, by simp⟩, hb.2.2.1, ?_⟩
  rintro k (rfl | rfl | e | e)
  · omega
  · omega
  · simp [Value.ownBlock] at e
  · simp [Value.ownBlock] at e

/-! ### Waiting, Inside, Credits -/
theorem GP.c0 {w : World} {p c : Nat} {vw vo : Value} {cap : Nat} {W I : List Int} (h : GP w p c vw vo cap W I) : w.cell? ⟨p, 0, none⟩ = some vw := blk_cell h.blk 0
theorem GP.c1 {w : World} {p c : Nat} {vw vo : Value} {cap : Nat} {W I : List Int} (h : GP w p c vw vo cap W I) : w.cell? ⟨p, 1, none⟩ = some (.chan (some c)) := blk_cell h.blk 1
theorem GP.c2 {w : World} {p c : Nat} {vw vo : Value} {cap : Nat} {W I : List Int} (h : GP w p c vw vo cap W I) : w.cell? ⟨p, 2, none⟩ = some vo := blk_cell h.blk 2
theorem GP.frz {w : World} {p c : Nat} {vw vo : Value} {cap : Nat} {W I : List Int} (h : GP w p c vw vo cap W I) (j : Nat) : w.frozen? ⟨p, j, none⟩ = false := blk_frozen h.blk j

set_option maxHeartbeats 400000 in
theorem waiting_any (p : Nat) (S : Nat → Prop) (cap : Nat) (W I : List Int) (w : World) (hG : GAt w p S cap W I) :
    Calls Try.prog 12 #[.pointer (some ⟨p, 0, none⟩)] w fun e w' => ∃ v, e = .returned v ∧ NewI w w' v W := by
  obtain ⟨c, vw, vo, hP, _, _⟩ := hG
  have h0 := hP.c0
  have HP := Lib.hid hP
  clear hP
  go_enter Try.func12, Try.ntmps12
  go_wp2_with fail
  refine (clone_any _ W _ (SlI.rd HP.out.sw (by have := HP.out.le; omega))).mono ?_
  rintro e w' ⟨v, rfl, hN⟩
  go_wp2
  go_ret
  exact ⟨v, rfl, hN⟩
set_option maxHeartbeats 400000 in
theorem inside_any (p : Nat) (S : Nat → Prop) (cap : Nat) (W I : List Int) (w : World) (hG : GAt w p S cap W I) :
    Calls Try.prog 16 #[.pointer (some ⟨p, 0, none⟩)] w fun e w' => ∃ v, e = .returned v ∧ NewI w w' v I := by
  obtain ⟨c, vw, vo, hP, _, _⟩ := hG
  have h2 := hP.c2
  have HP := Lib.hid hP
  clear hP
  go_enter Try.func16, Try.ntmps16
  go_wp2_with fail
  refine (clone_any _ I _ (SlI.rd HP.out.so (by have := HP.out.le; omega))).mono ?_
  rintro e w' ⟨v, rfl, hN⟩
  go_wp2
  go_ret
  exact ⟨v, rfl, hN⟩
theorem chan_len {w : World} {c cap : Nat} {I : List Int} (h : ChAt w c cap I) (n : Nat) : (Builtin.len_ #[51] 3 #[.chan (some c)]).run Try.prog (w.drewN n) = .ok (.int .i64 I.length) (w.drewN n) := by
  obtain ⟨s, r, h⟩ := h.keep (Fr.drewN w n No) id
  rw [run_len_chan 51 3 Try.underlying51 h]
  simp [goInt]
theorem chan_cap {w : World} {c cap : Nat} {I : List Int} (h : ChAt w c cap I) (n : Nat) : (Builtin.cap_ #[51] 3 #[.chan (some c)]).run Try.prog (w.drewN n) = .ok (.int .i64 cap) (w.drewN n) := by
  obtain ⟨s, r, h⟩ := h.keep (Fr.drewN w n No) id
  rw [run_cap_chan 51 3 Try.underlying51 h]
  simp [goInt]
set_option maxHeartbeats 400000 in
theorem credits_any (p : Nat) (S : Nat → Prop) (cap : Nat) (W I : List Int) (w : World) (hG : GAt w p S cap W I) :
    Calls Try.prog 18 #[.pointer (some ⟨p, 0, none⟩)] w fun e w' => e = .returned (.int .i64 ((cap : Int) - I.length)) ∧ ∃ n, w.drewN n = w' := by
  obtain ⟨c, vw, vo, hP, _, _⟩ := hG
  have h1 := hP.c1
  have hl := chan_len hP.ch
  have hc := chan_cap hP.ch
  have hx := hP.ic
  have hy := hP.cap16
  clear hP
  go_enter Try.func18, Try.ntmps18
  go_wp2_with fail
  go_quiet (fail)
  go_wp2
  go_ret
  exact ⟨rfl, nq, rfl⟩

end Go.Proofs.Ytmdciipaggcjoaa
