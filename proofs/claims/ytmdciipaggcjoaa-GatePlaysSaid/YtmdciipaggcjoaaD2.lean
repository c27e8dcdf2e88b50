/-
  Two gates and two slices of a law's own, apart from one another.
-/
import Derived.Test.YtmdciipaggcjoaaT3
namespace Go.Proofs.Ytmdciipaggcjoaa
open Go.RowKit Go.Conc
set_option linter.unusedVariables false
set_option linter.unusedSimpArgs false

structure D2 (a w : World) (pa : Nat) (Sa : Nat → Prop) (pb : Nat) (Sb : Nat → Prop) (cap : Nat) (Wa Ia Wb Ib : List Int) (v1 : Value) (l1 : List Int) (v2 : Value) (l2 : List Int) : Prop where
  sa : St a w pa Sa cap Wa Ia
  sb : St a w pb Sb cap Wb Ib
  n1 : NewI a w v1 l1
  n2 : NewI a w v2 l2
  ab : ∀ g, Sa g → ¬ Sb g
  a1 : ∀ g, Bl v1 g → ¬ Sa g
  a2 : ∀ g, Bl v2 g → ¬ Sa g
  b1 : ∀ g, Bl v1 g → ¬ Sb g
  b2 : ∀ g, Bl v2 g → ¬ Sb g
  d12 : ∀ g, Bl v1 g → ¬ Bl v2 g
section
variable {a w w' : World} {pa : Nat} {Sa : Nat → Prop} {pb : Nat} {Sb : Nat → Prop} {cap : Nat} {Wa Ia Wb Ib : List Int} {v1 : Value} {l1 : List Int} {v2 : Value} {l2 : List Int}
theorem D2.same (h : D2 a w pa Sa pb Sb cap Wa Ia Wb Ib v1 l1 v2 l2) (hf : Fr w w' No) : D2 a w' pa Sa pb Sb cap Wa Ia Wb Ib v1 l1 v2 l2 :=
  ⟨h.sa.keep0 hf, h.sb.keep0 hf, h.n1.keep hf (fun _ _ h => h) (fun _ h => h.elim), h.n2.keep hf (fun _ _ h => h) (fun _ h => h.elim), h.ab, h.a1, h.a2, h.b1, h.b2, h.d12⟩
theorem D2.gateA {W' I' : List Int} (h : D2 a w pa Sa pb Sb cap Wa Ia Wb Ib v1 l1 v2 l2) (hT : GTo w w' pa Sa cap W' I') : ∃ S', D2 a w' pa S' pb Sb cap W' I' Wb Ib v1 l1 v2 l2 := by
  obtain ⟨S', hn⟩ := h.sa.nx hT
  exact ⟨S', hn.st, h.sb.other hn.fr (dis_sym h.ab) h.sa.ge, h.n1.keep hn.fr h.a1 h.sa.ge, h.n2.keep hn.fr h.a2 h.sa.ge, dis_sym (dis_new h.sb.lt (dis_sym h.ab) hn.sub), dis_new (Sl.lt h.n1.1) h.a1 hn.sub, dis_new (Sl.lt h.n2.1) h.a2 hn.sub, h.b1, h.b2, h.d12⟩
theorem D2.gateB {W' I' : List Int} (h : D2 a w pa Sa pb Sb cap Wa Ia Wb Ib v1 l1 v2 l2) (hT : GTo w w' pb Sb cap W' I') : ∃ S', D2 a w' pa Sa pb S' cap Wa Ia W' I' v1 l1 v2 l2 := by
  obtain ⟨S', hn⟩ := h.sb.nx hT
  exact ⟨S', h.sa.other hn.fr h.ab h.sb.ge, hn.st, h.n1.keep hn.fr h.b1 h.sb.ge, h.n2.keep hn.fr h.b2 h.sb.ge, dis_new h.sa.lt h.ab hn.sub, h.a1, h.a2, dis_new (Sl.lt h.n1.1) h.b1 hn.sub, dis_new (Sl.lt h.n2.1) h.b2 hn.sub, h.d12⟩
theorem D2.ap1 {v' : Value} {l' : List Int} (h : D2 a w pa Sa pb Sb cap Wa Ia Wb Ib v1 l1 v2 l2) (hp : Ap w w' v1 v' l') : D2 a w' pa Sa pb Sb cap Wa Ia Wb Ib v' l' v2 l2 :=
  ⟨h.sa.other hp.fr (dis_sym h.a1) h.n1.2.2, h.sb.other hp.fr (dis_sym h.b1) h.n1.2.2, h.n1.ap hp, h.n2.keep hp.fr (dis_sym h.d12) h.n1.2.2, h.ab,
    dis_sym (dis_new h.sa.lt (dis_sym h.a1) hp.sub), h.a2, dis_sym (dis_new h.sb.lt (dis_sym h.b1) hp.sub), h.b2, dis_sym (dis_new (Sl.lt h.n2.1) (dis_sym h.d12) hp.sub)⟩
theorem D2.ap2 {v' : Value} {l' : List Int} (h : D2 a w pa Sa pb Sb cap Wa Ia Wb Ib v1 l1 v2 l2) (hp : Ap w w' v2 v' l') : D2 a w' pa Sa pb Sb cap Wa Ia Wb Ib v1 l1 v' l' :=
  ⟨h.sa.other hp.fr (dis_sym h.a2) h.n2.2.2, h.sb.other hp.fr (dis_sym h.b2) h.n2.2.2, h.n1.keep hp.fr h.d12 h.n2.2.2, h.n2.ap hp, h.ab,
    h.a1, dis_sym (dis_new h.sa.lt (dis_sym h.a2) hp.sub), h.b1, dis_sym (dis_new h.sb.lt (dis_sym h.b2) hp.sub), dis_new (Sl.lt h.n1.1) h.d12 hp.sub⟩
end
/-- Two gates, one behind the other. -/
theorem D2.of_two {a w w' : World} {pa pb cap : Nat} (h : Sg a w pa cap [] []) (hN : GNew w w' pb cap [] []) : ∃ Sa Sb, D2 a w' pa Sa pb Sb cap [] [] [] [] (.slice none 0 0) [] (.slice none 0 0) [] := by
  obtain ⟨Sa, ha⟩ := h
  obtain ⟨Sb, h1, h2, h3⟩ := hN
  have hn : NewI a w' (.slice none 0 0) [] := ⟨Sl.nil _ _ _, ha.fr.nn h2, by simp [Value.ownBlock]⟩
  have hb : ∀ g, ¬ Bl (.slice none 0 0) g := by intro g hg; simp [Bl, Value.ownBlock] at hg
  exact ⟨Sa, Sb, ha.keep0 h2, ⟨ha.fr.nn h2, h1, fun k hk => Nat.le_trans ha.fr.size (h3 k hk)⟩, hn, hn, fun g h h' => by have := ha.lt g h; have := h3 g h'; omega,
    fun g hg => (hb g hg).elim, fun g hg => (hb g hg).elim, fun g hg => (hb g hg).elim, fun g hg => (hb g hg).elim, fun g hg => (hb g hg).elim⟩
def Ic (a w : World) (pa pb cap : Nat) (Wa Ia Wb Ib : List Int) (v1 : Value) (l1 : List Int) (v2 : Value) (l2 : List Int) : Prop := ∃ Sa Sb, D2 a w pa Sa pb Sb cap Wa Ia Wb Ib v1 l1 v2 l2
section
variable {a w w' : World} {pa pb cap : Nat} {Wa Ia Wb Ib : List Int} {v1 : Value} {l1 : List Int} {v2 : Value} {l2 : List Int}
theorem Ic.same (h : Ic a w pa pb cap Wa Ia Wb Ib v1 l1 v2 l2) (hf : Fr w w' No) : Ic a w' pa pb cap Wa Ia Wb Ib v1 l1 v2 l2 := by obtain ⟨S, T, h⟩ := h; exact ⟨S, T, h.same hf⟩
theorem Ic.fr (h : Ic a w pa pb cap Wa Ia Wb Ib v1 l1 v2 l2) : Fr a w No := by obtain ⟨S, T, h⟩ := h; exact h.sa.fr
theorem Ic.n1 (h : Ic a w pa pb cap Wa Ia Wb Ib v1 l1 v2 l2) : NewI a w v1 l1 := by obtain ⟨S, T, h⟩ := h; exact h.n1
theorem Ic.n2 (h : Ic a w pa pb cap Wa Ia Wb Ib v1 l1 v2 l2) : NewI a w v2 l2 := by obtain ⟨S, T, h⟩ := h; exact h.n2
theorem Ic.leA (h : Ic a w pa pb cap Wa Ia Wb Ib v1 l1 v2 l2) : Wa.length + Ia.length ≤ 64 ∧ Ia.length ≤ cap := by
  obtain ⟨S, T, h⟩ := h
  obtain ⟨c, vw, vo, hP, _⟩ := h.sa.g
  exact ⟨hP.le, hP.ic⟩
theorem Ic.ap1 {v' : Value} {l' : List Int} (h : Ic a w pa pb cap Wa Ia Wb Ib v1 l1 v2 l2) (hp : Ap w w' v1 v' l') : Ic a w' pa pb cap Wa Ia Wb Ib v' l' v2 l2 := by obtain ⟨S, T, h⟩ := h; exact ⟨S, T, h.ap1 hp⟩
theorem Ic.ap2 {v' : Value} {l' : List Int} (h : Ic a w pa pb cap Wa Ia Wb Ib v1 l1 v2 l2) (hp : Ap w w' v2 v' l') : Ic a w' pa pb cap Wa Ia Wb Ib v1 l1 v' l' := by obtain ⟨S, T, h⟩ := h; exact ⟨S, T, h.ap2 hp⟩
theorem accept_A (id E : Int) (W' : List Int) (h : Ic a w pa pb cap Wa Ia Wb Ib v1 l1 v2 l2) (hE : accE Wa Ia id = E) (hW : accW Wa Ia id = W') :
    Calls Try.prog 11 #[.pointer (some ⟨pa, 0, none⟩), .int .i64 id] w fun e w' => e = .returned (.int .i64 E) ∧ Ic a w' pa pb cap W' Ia Wb Ib v1 l1 v2 l2 := by
  subst hE; subst hW
  obtain ⟨S, T, h⟩ := h
  exact (accept_any pa S cap Wa Ia id w h.sa.g).mono fun e w' ⟨he, hT⟩ => ⟨he, by obtain ⟨S', h'⟩ := h.gateA hT; exact ⟨S', T, h'⟩⟩
theorem accept_B (id E : Int) (W' : List Int) (h : Ic a w pa pb cap Wa Ia Wb Ib v1 l1 v2 l2) (hE : accE Wb Ib id = E) (hW : accW Wb Ib id = W') :
    Calls Try.prog 11 #[.pointer (some ⟨pb, 0, none⟩), .int .i64 id] w fun e w' => e = .returned (.int .i64 E) ∧ Ic a w' pa pb cap Wa Ia W' Ib v1 l1 v2 l2 := by
  subst hE; subst hW
  obtain ⟨S, T, h⟩ := h
  exact (accept_any pb T cap Wb Ib id w h.sb.g).mono fun e w' ⟨he, hT⟩ => ⟨he, by obtain ⟨S', h'⟩ := h.gateB hT; exact ⟨S, S', h'⟩⟩
theorem cancel_A (id E : Int) (W' : List Int) (h : Ic a w pa pb cap Wa Ia Wb Ib v1 l1 v2 l2) (hE : lookE Wa Ia id = E) (hW : canW Wa Ia id = W') :
    Calls Try.prog 17 #[.pointer (some ⟨pa, 0, none⟩), .int .i64 id] w fun e w' => e = .returned (.int .i64 E) ∧ Ic a w' pa pb cap W' Ia Wb Ib v1 l1 v2 l2 := by
  subst hE; subst hW
  obtain ⟨S, T, h⟩ := h
  exact (cancel_any pa S cap Wa Ia id w h.sa.g).mono fun e w' ⟨he, hT⟩ => ⟨he, by obtain ⟨S', h'⟩ := h.gateA hT; exact ⟨S', T, h'⟩⟩
theorem arrive_A (id : Int) (h : Ic a w pa pb cap Wa Ia Wb Ib v1 l1 v2 l2) :
    Calls Try.prog 13 #[.pointer (some ⟨pa, 0, none⟩), .int .i64 id] w fun e w' => e = .returned (.int .i64 (arrE cap Wa Ia id)) ∧ Ic a w' pa pb cap (arrW cap Wa Ia id) (arrI cap Wa Ia id) Wb Ib v1 l1 v2 l2 := by
  obtain ⟨S, T, h⟩ := h
  exact (arrive_any pa S cap Wa Ia id w h.sa.g).mono fun e w' ⟨he, hT⟩ => ⟨he, by obtain ⟨S', h'⟩ := h.gateA hT; exact ⟨S', T, h'⟩⟩
theorem arrive_B (id : Int) (h : Ic a w pa pb cap Wa Ia Wb Ib v1 l1 v2 l2) :
    Calls Try.prog 13 #[.pointer (some ⟨pb, 0, none⟩), .int .i64 id] w fun e w' => e = .returned (.int .i64 (arrE cap Wb Ib id)) ∧ Ic a w' pa pb cap Wa Ia (arrW cap Wb Ib id) (arrI cap Wb Ib id) v1 l1 v2 l2 := by
  obtain ⟨S, T, h⟩ := h
  exact (arrive_any pb T cap Wb Ib id w h.sb.g).mono fun e w' ⟨he, hT⟩ => ⟨he, by obtain ⟨S', h'⟩ := h.gateB hT; exact ⟨S, S', h'⟩⟩
theorem credits_A (h : Ic a w pa pb cap Wa Ia Wb Ib v1 l1 v2 l2) :
    Calls Try.prog 18 #[.pointer (some ⟨pa, 0, none⟩)] w fun e w' => e = .returned (.int .i64 ((cap : Int) - Ia.length)) ∧ Ic a w' pa pb cap Wa Ia Wb Ib v1 l1 v2 l2 := by
  obtain ⟨S, T, h⟩ := h
  exact (credits_any pa S cap Wa Ia w h.sa.g).mono fun e w' ⟨he, n, hn⟩ => ⟨he, S, T, hn ▸ h.same (Fr.drewN _ _ _)⟩
theorem credits_B (h : Ic a w pa pb cap Wa Ia Wb Ib v1 l1 v2 l2) :
    Calls Try.prog 18 #[.pointer (some ⟨pb, 0, none⟩)] w fun e w' => e = .returned (.int .i64 ((cap : Int) - Ib.length)) ∧ Ic a w' pa pb cap Wa Ia Wb Ib v1 l1 v2 l2 := by
  obtain ⟨S, T, h⟩ := h
  exact (credits_any pb T cap Wb Ib w h.sb.g).mono fun e w' ⟨he, n, hn⟩ => ⟨he, S, T, hn ▸ h.same (Fr.drewN _ _ _)⟩
theorem waiting_A (h : Ic a w pa pb cap Wa Ia Wb Ib v1 l1 v2 l2) : Calls Try.prog 12 #[.pointer (some ⟨pa, 0, none⟩)] w fun e w' => ∃ v, e = .returned v ∧ NewI w w' v Wa := by
  obtain ⟨S, T, h⟩ := h; exact waiting_any pa S cap Wa Ia w h.sa.g
theorem waiting_B (h : Ic a w pa pb cap Wa Ia Wb Ib v1 l1 v2 l2) : Calls Try.prog 12 #[.pointer (some ⟨pb, 0, none⟩)] w fun e w' => ∃ v, e = .returned v ∧ NewI w w' v Wb := by
  obtain ⟨S, T, h⟩ := h; exact waiting_any pb T cap Wb Ib w h.sb.g
theorem inside_A (h : Ic a w pa pb cap Wa Ia Wb Ib v1 l1 v2 l2) : Calls Try.prog 16 #[.pointer (some ⟨pa, 0, none⟩)] w fun e w' => ∃ v, e = .returned v ∧ NewI w w' v Ia := by
  obtain ⟨S, T, h⟩ := h; exact inside_any pa S cap Wa Ia w h.sa.g
theorem inside_B (h : Ic a w pa pb cap Wa Ia Wb Ib v1 l1 v2 l2) : Calls Try.prog 16 #[.pointer (some ⟨pb, 0, none⟩)] w fun e w' => ∃ v, e = .returned v ∧ NewI w w' v Ib := by
  obtain ⟨S, T, h⟩ := h; exact inside_any pb T cap Wb Ib w h.sb.g
end

/-! ### The document's At, the law's has -/
set_option maxHeartbeats 400000 in
theorem at_any (v : Value) (zs : List Int) (t : Int) (w : World) (hv : RdI w v zs) :
    Calls Try.prog 28 #[v, .int .i64 t] w fun e w' => e = .returned (.int .i64 (idx t zs)) ∧ w = w' := by
  have hl := hv.2
  obtain ⟨a, c, rfl, _⟩ := hv.open_
  have HV := Lib.hid hv
  clear hv
  go_enter Try.func28, Try.ntmps28
  go_wp2
  go_loop [5, 8] (fun _ i => ∃ k : Nat, k ≤ zs.length ∧ i = .int .i64 k ∧ ∀ j, j < k → zs.getD j 0 ≠ t) (fun _ i => zs.length - (intOf i).toNat)
  case atStart => exact ⟨0, Nat.zero_le _, rfl, by omega⟩
  case round =>
    obtain ⟨k, hk, rfl, hn⟩ := hrel
    have HN := Lib.hid hn
    clear hn
    by_cases hlt : k < zs.length
    · obtain ⟨b, off, rfl, h1⟩ := HV.out.get k hlt
      obtain ⟨z, hz⟩ : ∃ z, zs.getD k 0 = z := ⟨_, rfl⟩
      rw [hz] at h1
      have HZ := Lib.hid hz
      clear hz
      by_cases hq : z = t
      · have e : idx t zs = k := idx_hit t zs k hlt HN.out (by rw [HZ.out]; exact hq)
        have HE := Lib.hid e
        clear e
        have hb : (z == t) = true := by simpa using hq
        clear hq
        go_wp2_with fail
        go_ret
        exact ⟨by rw [HE.out]; rfl, rfl⟩
      · have hb : (z == t) = false := by simpa using hq
        have HQ := Lib.hid hq
        clear hq
        go_wp2_with fail
        go_round
        case rel =>
          refine ⟨k + 1, by omega, by go_num, fun j hj => ?_⟩
          rcases Nat.lt_or_ge j k with h | h
          · exact HN.out j h
          · obtain rfl : j = k := by omega
            rw [HZ.out]; exact HQ.out
        case measure => simp [intOf]; omega
    · have e : idx t zs = -1 := idx_miss t zs (fun j hj => HN.out j (by omega))
      have HE := Lib.hid e
      clear e
      go_wp2_with fail
      go_ret
      exact ⟨by rw [HE.out]; rfl, rfl⟩
set_option maxHeartbeats 400000 in
theorem has_any (v : Value) (zs : List Int) (t : Int) (w : World) (hv : RdI w v zs) :
    Calls Try.prog 23 #[v, .int .i64 t] w fun e w' => e = .returned (.bool (has t zs)) ∧ w = w' := by
  go_enter Try.func23, Try.ntmps23
  go_wp2_with fail
  refine (at_any _ zs _ _ hv).mono ?_
  rintro e w' ⟨rfl, rfl⟩
  go_wp2_with fail
  go_ret
  exact ⟨by simp [has], rfl⟩
end Go.Proofs.Ytmdciipaggcjoaa
