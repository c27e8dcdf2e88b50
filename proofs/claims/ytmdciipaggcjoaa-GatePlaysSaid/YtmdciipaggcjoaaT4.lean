/-
  A gate, three slices and a script's entry.
-/
import Derived.Test.YtmdciipaggcjoaaT3
namespace Go.Proofs.Ytmdciipaggcjoaa
open Go.RowKit Go.Conc
set_option linter.unusedVariables false
set_option linter.unusedSimpArgs false

/-- .. and an entry in block bo. -/
def Is4 (a w : World) (p : Nat) (cap : Nat) (W I : List Int) (v1 : Value) (l1 : List Int) (v2 : Value) (l2 : List Int) (v3 : Value) (l3 : List Int) (bo : Nat) (o : Obj) : Prop :=
  ∃ S, T3 a w p S cap W I v1 l1 v2 l2 v3 l3 ∧ w.heap[bo]? = some o ∧ ¬ S bo
section
variable {a w w' : World} {p : Nat} {cap : Nat} {W I : List Int} {v1 : Value} {l1 : List Int} {v2 : Value} {l2 : List Int} {v3 : Value} {l3 : List Int} {bo : Nat} {o : Obj}
theorem Is3.entry (h : Is3 a w p cap W I v1 l1 v2 l2 v3 l3) (o : Obj) : Is4 a (w.alloc o) p cap W I v1 l1 v2 l2 v3 l3 w.heap.size o := by
  obtain ⟨S, h⟩ := h
  exact ⟨S, h.same (Fr.alloc _ _ _), blk_new w o, fun e => by have := h.st.lt _ e; omega⟩
theorem Is4.is3 (h : Is4 a w p cap W I v1 l1 v2 l2 v3 l3 bo o) : Is3 a w p cap W I v1 l1 v2 l2 v3 l3 := by
  obtain ⟨S, h, _⟩ := h; exact ⟨S, h⟩
theorem Is4.blk (h : Is4 a w p cap W I v1 l1 v2 l2 v3 l3 bo o) : w.heap[bo]? = some o := by
  obtain ⟨S, _, h, _⟩ := h; exact h
theorem Is4.same (h : Is4 a w p cap W I v1 l1 v2 l2 v3 l3 bo o) (hf : Fr w w' No) : Is4 a w' p cap W I v1 l1 v2 l2 v3 l3 bo o := by
  obtain ⟨S, h1, h2, h3⟩ := h; exact ⟨S, h1.same hf, hf.blk h2 id, h3⟩
theorem Is4.gate {S : Nat → Prop} {W' I' : List Int} (h1 : T3 a w p S cap W I v1 l1 v2 l2 v3 l3) (h2 : w.heap[bo]? = some o) (h3 : ¬ S bo) (hT : GTo w w' p S cap W' I') : Is4 a w' p cap W' I' v1 l1 v2 l2 v3 l3 bo o := by
  obtain ⟨S', hn⟩ := h1.st.nx hT
  have hX : ∀ g, g = bo → g < w.heap.size := fun g e => by rw [e]; exact blk_lt h2
  refine ⟨S', ⟨hn.st, h1.n1.keep hn.fr h1.s1 h1.st.ge, h1.n2.keep hn.fr h1.s2 h1.st.ge, h1.n3.keep hn.fr h1.s3 h1.st.ge, dis_new (Sl.lt h1.n1.1) h1.s1 hn.sub, dis_new (Sl.lt h1.n2.1) h1.s2 hn.sub, dis_new (Sl.lt h1.n3.1) h1.s3 hn.sub, h1.d12, h1.d13, h1.d23⟩,
    hn.fr.blk h2 h3, dis_new (X := fun g => g = bo) hX (fun g e => by rw [e]; exact h3) hn.sub bo rfl⟩
theorem accept_4 (id : Int) (E : Int) (W' : List Int) (h : Is4 a w p cap W I v1 l1 v2 l2 v3 l3 bo o) (hE : accE W I id = E) (hW : accW W I id = W') :
    Calls Try.prog 11 #[.pointer (some ⟨p, 0, none⟩), .int .i64 id] w fun e w' => e = .returned (.int .i64 E) ∧ Is4 a w' p cap W' I v1 l1 v2 l2 v3 l3 bo o := by
  subst hE; subst hW
  obtain ⟨S, h1, h2, h3⟩ := h
  exact (accept_any p S cap W I id w h1.st.g).mono fun e w' ⟨he, hT⟩ => ⟨he, Is4.gate h1 h2 h3 hT⟩
theorem cancel_4 (id : Int) (E : Int) (W' : List Int) (h : Is4 a w p cap W I v1 l1 v2 l2 v3 l3 bo o) (hE : lookE W I id = E) (hW : canW W I id = W') :
    Calls Try.prog 17 #[.pointer (some ⟨p, 0, none⟩), .int .i64 id] w fun e w' => e = .returned (.int .i64 E) ∧ Is4 a w' p cap W' I v1 l1 v2 l2 v3 l3 bo o := by
  subst hE; subst hW
  obtain ⟨S, h1, h2, h3⟩ := h
  exact (cancel_any p S cap W I id w h1.st.g).mono fun e w' ⟨he, hT⟩ => ⟨he, Is4.gate h1 h2 h3 hT⟩
theorem arrive_4 (id : Int) (E : Int) (W' I' : List Int) (h : Is4 a w p cap W I v1 l1 v2 l2 v3 l3 bo o) (hE : arrE cap W I id = E) (hW : arrW cap W I id = W') (hI : arrI cap W I id = I') :
    Calls Try.prog 13 #[.pointer (some ⟨p, 0, none⟩), .int .i64 id] w fun e w' => e = .returned (.int .i64 E) ∧ Is4 a w' p cap W' I' v1 l1 v2 l2 v3 l3 bo o := by
  subst hE; subst hW; subst hI
  obtain ⟨S, h1, h2, h3⟩ := h
  exact (arrive_any p S cap W I id w h1.st.g).mono fun e w' ⟨he, hT⟩ => ⟨he, Is4.gate h1 h2 h3 hT⟩
end

/-- A cell of a slice of structs that can be read. -/
theorem Rd.get {w : World} {a : Option Addr} {n c : Nat} {fl : List Int} {m : Nat} (h : Rd w (.slice a n c) n (fl.map (Value.int .i64)) m) (k : Nat) (hk : k < n) :
    ∃ b off, a = some ⟨b, off, none⟩ ∧ ∀ j, j < m → w.cell? ⟨b, off + k * m + j, none⟩ = some (.int .i64 (fl.getD (k * m + j) 0)) := by
  obtain ⟨hl, a', c', hv, _, hs⟩ := h
  cases hv
  obtain ⟨b, off, rfl, hc⟩ := hs (by omega)
  refine ⟨b, off, rfl, fun j hj => ?_⟩
  have hlt : k * m + j < fl.length := by
    have : k * m + m ≤ n * m := by rw [← Nat.succ_mul]; exact Nat.mul_le_mul_right _ hk
    simp at hl; omega
  rw [Nat.add_assoc]
  exact hc _ _ (by simp [List.getElem?_eq_getElem hlt, List.getD])

/-! ### append at a step of a region that draws -/
theorem step_app {P : Program} {w : World} {ops : Array Oper} {o : Oper} {a : Act} {K : Act → World → Prop} {Q : Exit → Act → World → Prop} {E : Prop} (hgd : o.guard = none) (s x : Operand) (t : TypeId)
    (ho : o.op = .call { callee := .builtin .append, args := #[s, x], argTypes := #[t, t] })
    (e : TypeId) (i : TypeInfo) (z : Value) (k bytes : Nat) (ht : P.underlying t = some (.slice e)) (hi : P.info? e = some i) (hz : i.zero = some z)
    (hsize : i.size = k) (hby : i.bytes = bytes) (hzs : z.cells.size = k) (hk : 0 < k)
    (v : Value) (n : Nat) (xs : List Value) (hev : a.eval s = v) (hs : Sl w e k v n xs) (xv : Value) (m : Nat) (news : List Value) (hex : a.eval x = xv) (hx : Rd w xv m news k) (h1 : ∀ u ∈ news, u.oneCell' = true)
    (h63 : n + m ≤ maxLen) (hbytes : (n + m) * bytes ≤ 140737488355328)
    (h : ∀ v' w', Sl w' e k v' (n + m) (xs ++ news) → Fr w w' (fun g => v.ownBlock = some g) → (v'.ownBlock = v.ownBlock ∨ v'.ownBlock = some w.heap.size) → K (a.put o.dst v') w') :
    if Region.wanted o (yielded ops a.tmps) = true then Oper.wp P o a w K Q else E := by
  have hw : Region.wanted o (yielded ops a.tmps) = true := by simp [Region.wanted, hgd]
  rw [if_pos hw]
  obtain ⟨v', w', hr, h2, h3, h4, h5⟩ := run_app (P := P) w t o.type e i z k bytes ht hi hz hsize hby hzs hk v n xs hs xv m news hx h1 h63 hbytes
  unfold Oper.wp execOp
  simp only [ho, resolve, invoke, builtin, Sem.run_bind, Sem.run_pure, Result.andThen_ok, List.map_toArray, List.map_cons, List.map_nil, hev, hex, hr]
  exact h v' w' h2 h3 h4
theorem step_appS {w : World} {ops : Array Oper} {o : Oper} {a : Act} {K : Act → World → Prop} {Q : Exit → Act → World → Prop} {E : Prop} (hgd : o.guard = none) (s x : Operand)
    (ho : o.op = .call { callee := .builtin .append, args := #[s, x], argTypes := #[22, 22] })
    (v : Value) (ts : List Int) (hev : a.eval s = v) (hs : SlI w v ts) (xv : Value) (ys : List Int) (hex : a.eval x = xv) (hx : RdI w xv ys)
    (hl : ts.length + ys.length ≤ 17592186044416)
    (h : ∀ v' w', SlI w' v' (ts ++ ys) → Fr w w' (fun g => v.ownBlock = some g) → (v'.ownBlock = v.ownBlock ∨ v'.ownBlock = some w.heap.size) → K (a.put o.dst v') w') :
    if Region.wanted o (yielded ops a.tmps) = true then Oper.wp Try.prog o a w K Q else E := by
  obtain ⟨i0, hi, hz0, hz1, hz2⟩ := info_parts info3
  refine step_app hgd s x 22 ho 3 i0 (.int .i64 0) 1 8 Try.underlying22 hi hz0 hz1 hz2 rfl (by decide) v ts.length _ hev hs xv ys.length (ys.map (Value.int .i64)) hex hx.1 (by intro u hu; obtain ⟨x, _, rfl⟩ := List.mem_map.1 hu; rfl) (by unfold maxLen; omega) (by omega) ?_
  intro v' w' h1 h2 h3
  refine h v' w' ?_ h2 h3
  unfold SlI
  rw [List.length_append, List.map_append]
  exact h1

/-- Two parts of a slice. -/
theorem part_facts {w : World} {g off n c : Nat} {A : List Int} (h : SlI w (.slice (some ⟨g, off, none⟩) n c) A) (hl : A.length ≤ 1000) (k : Nat) (hk : k < n) :
    A.length = n ∧ n ≤ c ∧ RdI w (.slice (some ⟨g, off, none⟩) k c) (A.take k) ∧ RdI w (.slice (some ⟨g, off + (k + 1), none⟩) (n - (k + 1)) (c - (k + 1))) (A.drop (k + 1)) ∧ RdI w (.slice (some ⟨g, off, none⟩) 0 0) [] := by
  have hn : A.length = n := by
    obtain ⟨hl, ⟨hv, h0⟩ | ⟨g', off', cap', cur, hv, _⟩⟩ := h
    · cases hv
    · cases hv; rfl
  have hcap := SlI.cap h
  have hrd := SlI.rd h (by omega)
  refine ⟨hn, by omega, SlI.rdn h k c (by omega) (by omega) (.inr (by simp)), ?_, ⟨⟨rfl, _, _, rfl, (fun h => nomatch h), fun h => by simp at h⟩, by simp⟩⟩
  refine ⟨⟨by simp, some ⟨g, off + (k + 1), none⟩, c - (k + 1), by simp [hn], (fun h => nomatch h), fun _ => ⟨g, off + (k + 1), rfl, fun j u hu => ?_⟩⟩, by simp; omega⟩
  obtain ⟨⟨_, a', c', hv, _, hs⟩, _⟩ := hrd
  cases hv
  obtain ⟨b, o, hb, hc⟩ := hs (by omega)
  cases hb
  rw [List.map_drop, List.getElem?_drop] at hu
  rw [Nat.add_assoc]
  exact hc _ u hu
end Go.Proofs.Ytmdciipaggcjoaa
