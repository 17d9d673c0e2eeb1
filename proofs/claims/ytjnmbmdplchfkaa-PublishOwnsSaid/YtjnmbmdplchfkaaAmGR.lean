/- The owned machine, part GR: code that changes numbers in blocks that nobody owns (S), seen from a world ahead of it. -/
import Derived.Test.YtjnmbmdplchfkaaAmKN
import Derived.Test.YtjnmbmdplchfkaaAmFR
set_option linter.all false
namespace Go.Proofs.Ytjnmbmdplchfkaa.Am
open Go
set_option linter.unusedVariables false
variable [Lo]
/-- Blocks outside S are as they were; in S numbers may have turned. -/
structure ChgN (N : Nat) (S : Nat → Prop) (w w' : World) : Prop where
  os : w'.os = w.os
  tape : w'.tape = w.tape
  output : w'.output = w.output
  size : w.heap.size ≤ w'.heap.size
  keep : ∀ b, b < N → ¬ S b → w'.heap[b]? = w.heap[b]?
  sim : ∀ (b : Nat) (cs : Array Value) (ty : TypeId) (fz : Nat × Nat), S b → w.heap[b]? = some (.cells cs ty fz) → ∃ cs' : Array Value, w'.heap[b]? = some (.cells cs' ty fz) ∧ cs'.size = cs.size ∧
    ∀ (i : Nat) (x : Value), cs[i]? = some x → ∃ x', cs'[i]? = some x' ∧ (x' = x ∨ ∃ k m m', x = .int k m ∧ x' = .int k m')
/-- The same, of all that is there. -/
abbrev Chg (S : Nat → Prop) (w w' : World) : Prop := ChgN w.heap.size S w w'
theorem ChgN.refl (N : Nat) (S : Nat → Prop) (w : World) : ChgN N S w w := ⟨rfl, rfl, rfl, Nat.le_refl _, fun _ _ _ => rfl, fun b cs ty fz _ h => ⟨cs, h, rfl, fun i x hx => ⟨x, hx, .inl rfl⟩⟩⟩
theorem Chg.refl (S : Nat → Prop) (w : World) : Chg S w w := ⟨rfl, rfl, rfl, Nat.le_refl _, fun _ _ _ => rfl, fun b cs ty fz _ h => ⟨cs, h, rfl, fun i x hx => ⟨x, hx, .inl rfl⟩⟩⟩
theorem ChgN.trans {N : Nat} {S : Nat → Prop} {a b c : World} (hN : N ≤ a.heap.size) (h : ChgN N S a b) (k : Chg S b c) : ChgN N S a c :=
  ⟨k.os.trans h.os, k.tape.trans h.tape, k.output.trans h.output, Nat.le_trans h.size k.size, fun i hi hn => (k.keep i (Nat.lt_of_lt_of_le hi (Nat.le_trans hN h.size)) hn).trans (h.keep i hi hn), fun i cs ty fz hS hi => by
    obtain ⟨c1, h1, h2, h3⟩ := h.sim i cs ty fz hS hi
    obtain ⟨c2, k1, k2, k3⟩ := k.sim i c1 ty fz hS h1
    refine ⟨c2, k1, k2.trans h2, fun j x hx => ?_⟩
    obtain ⟨y, hy, ha⟩ := h3 j x hx
    obtain ⟨z, hz, hb⟩ := k3 j y hy
    refine ⟨z, hz, ?_⟩
    rcases ha with rfl | ⟨k', m, m', rfl, rfl⟩
    · exact hb
    · rcases hb with rfl | ⟨k2, n, n', e, rfl⟩
      · exact .inr ⟨k', m, m', rfl, rfl⟩
      · injection e with e1 e2
        subst e1
        exact .inr ⟨k', m, n', rfl, rfl⟩⟩
/-- S lies below the world w0, in cells. -/
def InW (S : Nat → Prop) (w0 : World) : Prop := ∀ b, S b → ∃ (cs : Array Value) (ty : TypeId) (fz : Nat × Nat), w0.heap[b]? = some (.cells cs ty fz)
theorem InW.chg {N : Nat} {S : Nat → Prop} {w w' : World} (h : InW S w) (k : ChgN N S w w') : InW S w' := fun b hb => by
  obtain ⟨cs, ty, fz, h1⟩ := h b hb
  obtain ⟨cs', h2, _⟩ := k.sim b cs ty fz hb h1
  exact ⟨cs', ty, fz, h2⟩
/-- What holds along the way: what is owned is new, and S is not among what is never written. -/
structure GI (N : Nat) (S : Nat → Prop) (w0 w : World) (g : Gh) (H : AH) : Prop where
  chg : ChgN N S w0 w
  le : N ≤ w0.heap.size
  own : ∀ id B b E, H.get id = some B → g.φ id = some (b, E) → N ≤ b ∧ ¬ S b
  imm : ∀ b, S b → ¬ g.I b
theorem InW.lt {S : Nat → Prop} {w0 : World} (h : InW S w0) {b : Nat} (hb : S b) : b < w0.heap.size := by
  obtain ⟨cs, ty, fz, h1⟩ := h b hb
  exact heap_lt h1
theorem GI.adv {N : Nat} {S : Nat → Prop} {p : Nat} {w0 w w' : World} {g g' : Gh} {H H' : AH} (hS : InW S w0) (h : GI N S w0 w g H) (hA : AdvP p w g H w' g' H') : GI N S w0 w' g' H' := by
  have same : ∀ b, b < w.heap.size → (b < N ∨ S b) → w'.heap[b]? = w.heap[b]? := fun b hb hs => hA.ext.block b hb fun id B E hi he => by
    have := h.own id B b E hi he
    rcases hs with hs | hs
    · omega
    · exact this.2 hs
  refine ⟨⟨hA.ext.os.trans h.chg.os, hA.ext.tape.trans h.chg.tape, hA.ext.output.trans h.chg.output, Nat.le_trans h.chg.size hA.ext.size, fun b hb hn => (same b (Nat.lt_of_lt_of_le hb (Nat.le_trans h.le h.chg.size)) (.inl hb)).trans (h.chg.keep b hb hn), fun b cs ty fz hs hb => ?_⟩, h.le, fun id B b E hi he => ?_, fun b hs hI => ?_⟩
  · obtain ⟨cs', h1, h2⟩ := h.chg.sim b cs ty fz hs hb
    exact ⟨cs', (same b (heap_lt h1) (.inr hs)).trans h1, h2⟩
  · rcases Nat.lt_or_ge b w.heap.size with hlt | hge
    · obtain ⟨i, A, F, h1, h2⟩ := hA.own id B b E hi he hlt
      exact h.own i A b F h1 h2
    · have hge0 : w0.heap.size ≤ b := Nat.le_trans h.chg.size hge
      exact ⟨Nat.le_trans h.le hge0, fun hs => by have := hS.lt hs; omega⟩
  · have hlt := hS.lt hs
    rcases hA.imm b hI (Nat.lt_of_lt_of_le hlt h.chg.size) with h1 | ⟨i, A, F, h1, h2⟩
    · exact h.imm b hs h1
    · exact (h.own i A b F h1 h2).2 hs
theorem Chg.mono {S : Nat → Prop} {w w' : World} {g : Gh} {H : AH} (k : Chg S w w') (hH : HRel w g H) (hI : ∀ b, S b → ¬ g.I b) : Mono w g w' g :=
  ⟨fun _ _ h => h, fun b hb => ⟨hb, k.keep b (hH.lt b hb) fun hs => hI b hs hb⟩, fun b cs ty fz hb => by
    by_cases hs : S b
    · obtain ⟨cs', h1, h2, _⟩ := k.sim b cs ty fz hs hb
      exact ⟨cs', h1, h2⟩
    · exact ⟨cs, (k.keep b (heap_lt hb) hs).trans hb, rfl⟩⟩
theorem Chg.hrel {N : Nat} {S : Nat → Prop} {w0 w w' : World} {g : Gh} {H : AH} (hS : InW S w0) (k : Chg S w w') (hG : GI N S w0 w g H) (hH : HRel w g H) : HRel w' g H :=
  ⟨fun id B hB => (hH.rel id B hB).keep (k.mono hH hG.imm) rfl fun b E hφ => k.keep b ((hH.rel id B hB).lt hφ) fun hs => (hG.own id B b E hB hφ).2 hs, hH.apart, hH.imm, fun b hb => Nat.lt_of_lt_of_le (hH.lt b hb) k.size, hH.gl.mono (k.mono hH hG.imm).I k.size⟩
theorem Chg.gi {N : Nat} {S : Nat → Prop} {w0 w w' : World} {g : Gh} {H : AH} (k : Chg S w w') (hG : GI N S w0 w g H) : GI N S w0 w' g H := ⟨hG.chg.trans hG.le k, hG.le, hG.own, hG.imm⟩
theorem Chg.defOk {N : Nat} {S : Nat → Prop} {w0 w w' : World} {g : Gh} {H : AH} {B : Nat} {ds : List Deferred} (hS : InW S w0) (k : Chg S w w') (hG : GI N S w0 w g H) (h : DefOk B w g ds) : DefOk B w' g ds := by
  obtain ⟨Ds, h1, h2, h3⟩ := h
  refine ⟨Ds, h1, h2, fun D hD => ?_⟩
  obtain ⟨k1, k2, k3⟩ := h3 D hD
  refine ⟨k1, (k.keep D (Array.getElem?_eq_some_iff.1 k2).1 fun hs => ?_).trans k2, k3⟩
  obtain ⟨cs, ty, fz, e⟩ := (hS.chg hG.chg) D hs
  rw [e] at k2
  injection k2 with k2
  cases k2
def GRuns (P : Program) (n : Nat) (N : Nat) (S : Nat → Prop) (w0 : World) (c : Code) (s : AS) (R : Exit → AS → Prop) : Prop :=
  ∀ (r : Option Nat) (B : Nat) w g a (Q : Exit → Act → World → Prop), (hasRF c = true → r = none) → GI N S w0 w g s.H → SRel w g n s a → B ≤ w.heap.size → DefOk B w g a.defers →
    (∀ e s' a' w' g', R e s' → GI N S w0 w' g' s'.H → SRel w' g' n s' a' → B ≤ w'.heap.size → DefOk B w' g' a'.defers → Q e a' w') → c.wpIn (FR r) 0 P Q a w
section
variable {P : Program} {T : TT} {n N : Nat} {S : Nat → Prop} {w0 : World} {c x y : Code} {s s1 : AS} {R : Exit → AS → Prop}
theorem GRuns.of_D (hS : InW S w0) (h : DRuns P 0 n c s R) : GRuns P n N S w0 c s R := fun r B w g a Q hr hG hs hB hD hQ =>
  h r B w g a Q hr hs hB hD fun e s' a' w' g' hR hA' hS' hD' => hQ e s' a' w' g' hR (hG.adv hS hA') hS' (Nat.le_trans hB hA'.ext.size) hD'
theorem GRuns.of_VS (hS : InW S w0) (h : VS P 0 n c s R) : GRuns P n N S w0 c s R := .of_D hS (.of_VS h)
theorem GRuns.pre (hS : InW S w0) (hw : SW 0 n s s1) (h : GRuns P n N S w0 c s1 R) : GRuns P n N S w0 c s R := fun r B w g a Q hr hG hs hB hD hQ => by
  obtain ⟨g1, h1, h2⟩ := hw w g a hs
  exact h r B w g1 a Q hr (hG.adv hS h1) h2 hB (hD.adv h1 hs.H) hQ
theorem GRuns.mono {R' : Exit → AS → Prop} (h : GRuns P n N S w0 c s R) (k : ∀ e s1, R e s1 → R' e s1) : GRuns P n N S w0 c s R' := fun r B w g a Q hr hG hs hB hD hQ =>
  h r B w g a Q hr hG hs hB hD fun e s' a' w' g' hR => hQ e s' a' w' g' (k e s' hR)
theorem GRuns.seq (h : GRuns P n N S w0 x s fun e s1 => match e with
    | .normal => GRuns P n N S w0 y s1 R
    | e => R e s1) : GRuns P n N S w0 (.seq x y) s R := fun r B w g a Q hr hG hs hB hD hQ =>
  wpIn_seq (h r B w g a _ (hasRF_l hr) hG hs hB hD fun e s1 a' w' g' hR hG' hS' hB' hD' => by
    cases e with
    | normal => exact hR r B w' g' a' Q (hasRF_r hr) hG' hS' hB' hD' hQ
    | _ => exact hQ _ s1 a' w' g' hR hG' hS' hB' hD')
theorem GRuns.block {id : Nat} (h : GRuns P n N S w0 c s fun e s1 => match e with
    | .exit id' => if id' = id then R .normal s1 else R (.exit id') s1
    | .normal => R .normal s1
    | .ret => R .ret s1
    | _ => False) : GRuns P n N S w0 (.block id c) s R := fun r B w g a Q hr hG hs hB hD hQ =>
  wpIn_block (h r B w g a _ hr hG hs hB hD fun e s1 a' w' g' hR hG' hS' hB' hD' => by
    cases e with
    | normal => exact hQ .normal s1 a' w' g' hR hG' hS' hB' hD'
    | ret => exact hQ .ret s1 a' w' g' hR hG' hS' hB' hD'
    | exit id' =>
      by_cases hid : id' = id
      · subst hid
        simp only [if_true] at hR
        simpa [Exit.inBlock] using hQ .normal s1 a' w' g' hR hG' hS' hB' hD'
      · simp only [if_neg hid] at hR
        simpa [Exit.inBlock, hid] using hQ (.exit id') s1 a' w' g' hR hG' hS' hB' hD'
    | _ => exact hR.elim)
theorem GRuns.loop {ι : Type} (S1 : ι → AS) (m : ι → Nat) (I : ι → Prop) (h : ∀ i, I i → GRuns P n N S w0 c (S1 i) fun e s1 => (e = .normal ∧ ∃ j, I j ∧ m j < m i ∧ SW 0 n s1 (S1 j)) ∨ (e ≠ .normal ∧ R e s1)) (hS : InW S w0) (i : ι) (hi : I i) :
    GRuns P n N S w0 (.loop c) (S1 i) R := by
  have key : ∀ k i, m i < k → I i → ∀ (r : Option Nat) (B : Nat) w g a (Q : Exit → Act → World → Prop), (hasRF c = true → r = none) → GI N S w0 w g (S1 i).H → SRel w g n (S1 i) a → B ≤ w.heap.size → DefOk B w g a.defers →
      (∀ e s' a' w' g', R e s' → GI N S w0 w' g' s'.H → SRel w' g' n s' a' → B ≤ w'.heap.size → DefOk B w' g' a'.defers → Q e a' w') → Code.roundsIn (FR r) 0 P c Q k a w := by
    intro k
    induction k with
    | zero => intro i hi; omega
    | succ k ih =>
      intro i hm hI r B w g a Q hr hG hs hB hD hQ
      rw [roundsIn_succ]
      refine h i hI r B w g a _ hr hG hs hB hD fun e s1 a' w' g' hR hG' hS' hB' hD' => ?_
      rcases hR with ⟨rfl, j, hj, hlt, hw⟩ | ⟨he, hR⟩
      · obtain ⟨g1, h1, h2⟩ := hw w' g' a' hS'
        exact ih j (by omega) hj r B w' g1 a' Q hr (hG'.adv hS h1) h2 hB' (hD'.adv h1 hS'.H) hQ
      · have := hQ e s1 a' w' g' hR hG' hS' hB' hD'
        cases e <;> first | exact absurd rfl he | exact this
  exact fun r B w g a Q hr hG hs hB hD hQ => wpIn_loop_rounds _ (key (m i + 1) i (by omega) hi r B w g a Q hr hG hs hB hD hQ)
theorem GRuns.joinN (hS : InW S w0) {ι : Type} (St : ι → AS) (I : ι → Prop) (h : GRuns P n N S w0 x s fun e s1 => e = .normal ∧ ∃ i, I i ∧ SW 0 n s1 (St i)) (k : ∀ i, I i → GRuns P n N S w0 y (St i) R) : GRuns P n N S w0 (.seq x y) s R :=
  GRuns.seq (h.mono fun e s1 hh => by
    obtain ⟨rfl, i, hi, hw⟩ := hh
    exact GRuns.pre hS hw (k i hi))
theorem GRuns.blockX {id : Nat} (h : GRuns P n N S w0 c s fun e s1 => e = .exit id ∧ R .normal s1) : GRuns P n N S w0 (.block id c) s R :=
  GRuns.block (h.mono fun e s1 hh => by
    obtain ⟨rfl, hR⟩ := hh
    simpa using hR)
theorem GRuns.blockN {id : Nat} (h : GRuns P n N S w0 c s fun e s1 => e = .normal ∧ R .normal s1) : GRuns P n N S w0 (.block id c) s R :=
  GRuns.block (h.mono fun e s1 hh => by
    obtain ⟨rfl, hR⟩ := hh
    exact hR)
/-- A list of operations, in their order. -/
def GOps (P : Program) (n : Nat) (N : Nat) (S : Nat → Prop) (w0 : World) (ops : Array Oper) (l : List Oper) (fr : Fr) (H : AH) (nx : Nat) (R : Exit → AS → Prop) : Prop :=
  ∀ (r : Option Nat) (B : Nat) w g a (Q : Exit → Act → World → Prop), GI N S w0 w g H → SRel w g n ⟨fr, H, nx⟩ a → B ≤ w.heap.size → DefOk B w g a.defers →
    (∀ e s' a' w' g', R e s' → GI N S w0 w' g' s'.H → SRel w' g' n s' a' → B ≤ w'.heap.size → DefOk B w' g' a'.defers → Q e a' w') → wpListIn (FR r) 0 P ops Q l a w
theorem GRuns.of_list {id : Nat} {ops : Array Oper} (h : GOps P n N S w0 ops ops.toList s.fr s.H s.nx R) : GRuns P n N S w0 (.region id ops false) s R := fun r B w g a Q _ hG hs hB hD hQ =>
  wpIn_region_list (h r B w g a Q hG hs hB hD hQ)
theorem GOps.nil {ops : Array Oper} {fr : Fr} {H : AH} {nx : Nat} (h : R .normal ⟨fr, H, nx⟩) : GOps P n N S w0 ops [] fr H nx R := fun r B w g a Q hG hs hB hD hQ => hQ .normal _ a w g h hG hs hB hD
/-- The first i operations by the machine. -/
theorem GOps.pre (hT : T.Ok P) (hS : InW S w0) {ops : Array Oper} {l : List Oper} (i : Nat) {fr : Fr} {H : AH} {nx : Nat} (hp : 0 ≤ nx) (hB : (H.all fun x => decide (x.1 < nx)) = true)
    (h : vOps P T n ops (fun _ fr H nx => GOps P n N S w0 ops (l.drop i) fr H nx R) (l.take i) [] fr H nx) : GOps P n N S w0 ops l fr H nx R := fun r B w g a Q hG hs hBw hD hQ => by
  obtain ⟨rs, tr2, fr2, hL, hF2, _, hHB, hK⟩ := vOps_sound hT (l.take i) [] fr H nx h (HB.of_all hB) fr (FLe.refl _)
  rw [show l = l.take i ++ l.drop i from (List.take_append_drop i l).symm]
  refine lin_pre r (l.drop i) (l.take i) rs fr H nx a w g hL hs.fr hs.H hs.nx fun a1 w1 g1 hA1 hF1 hN1 hφ1 hd1 => ?_
  have hA : AdvP 0 w g H w1 g1 (endH rs H) := AdvP.of_adv hA1 fun j hj => by omega
  exact hK r B w1 g1 a1 Q (hG.adv hS hA) ⟨hF1.fle hF2, hA1.rel, hN1⟩ (Nat.le_trans hBw hA.ext.size) (hd1 ▸ hD.adv hA hs.H) hQ
/-- An operation by its meaning. -/
theorem GOps.raw (hS : InW S w0) {ops : Array Oper} {oa : Oper} {l : List Oper} {fr : Fr} {H : AH} {nx : Nat} {ι : Type} (I : ι → Prop) (val : ι → AV) (hw : wantedQ ops fr oa = some true) (hco : oa.op.operands.toList.all constOk = true)
    (hsem : ∀ w g ρ, GI N S w0 w g H → (∀ y ∈ oa.op.operands.toList, Cv w g (envF fr y) (ρ y)) → HRel w g H → OpOK P oa ρ w fun v w' => Chg S w w' ∧ ∃ i, I i ∧ Cv w' g (val i) v)
    (hk : ∀ i, I i → GOps P n N S w0 ops l (setDst n fr oa.dst (val i)) H nx R) : GOps P n N S w0 ops (oa :: l) fr H nx R := fun r B w g a Q hG hs hB hD hQ => by
  unfold wpListIn
  rw [hs.fr.wanted hw]
  simp only [if_true]
  refine OpOK.wpIn r (hsem w g a.eval hG (fun y hy => hs.fr.env hs.H.gl (List.all_eq_true.1 hco y hy)) hs.H) fun v w2 hv => ?_
  obtain ⟨hc, i, hi, hv⟩ := hv
  have hm := hc.mono hs.H hG.imm
  have hd : (a.put oa.dst v).defers = a.defers := put_defers ..
  exact hk i hi r B w2 g (a.put oa.dst v) Q (hc.gi hG) ⟨(hs.fr.mono hm).put hv oa.dst, hc.hrel hS hG hs.H, hs.nx⟩ (Nat.le_trans hB hc.size) (by rw [hd]; exact hc.defOk hS hG hD) hQ
end
/-- S lies in cells that may be written. -/
def InZ (S : Nat → Prop) (w : World) : Prop := ∀ b, S b → ∃ (cs : Array Value) (ty : TypeId), w.heap[b]? = some (.cells cs ty (0, 0))
theorem InZ.inW {S : Nat → Prop} {w : World} (h : InZ S w) : InW S w := fun b hb => by
  obtain ⟨cs, ty, e⟩ := h b hb
  exact ⟨cs, ty, _, e⟩
theorem InZ.chg {N : Nat} {S : Nat → Prop} {w w' : World} (h : InZ S w) (k : ChgN N S w w') : InZ S w' := fun b hb => by
  obtain ⟨cs, ty, e⟩ := h b hb
  obtain ⟨cs', e', _⟩ := k.sim b cs ty _ hb e
  exact ⟨cs', ty, e'⟩
theorem cell_inv {w : World} {b i : Nat} {x : Value} (h : w.cell? ⟨b, i, none⟩ = some x) {cs : Array Value} {ty : TypeId} {fz : Nat × Nat} (e : w.heap[b]? = some (.cells cs ty fz)) : cs[i]? = some x := by
  simpa [World.cell?, e] using h
/-- A number in S, and what is there afterwards. -/
theorem ChgN.cell {N : Nat} {S : Nat → Prop} {w w' : World} (hz : InZ S w) (k : ChgN N S w w') {b i : Nat} {x : Value} (hb : S b) (h : w.cell? ⟨b, i, none⟩ = some x) : ∃ x', w'.cell? ⟨b, i, none⟩ = some x' ∧ (x' = x ∨ ∃ k m m', x = .int k m ∧ x' = .int k m') := by
  obtain ⟨cs, ty, e⟩ := hz b hb
  obtain ⟨cs', e', _, hs⟩ := k.sim b cs ty _ hb e
  obtain ⟨x', h1, h2⟩ := hs i x (cell_inv h e)
  exact ⟨x', cell_of e' h1, h2⟩
theorem storeInt_ok {P : Program} {T : TT} (hT : T.Ok P) {o : Oper} {t : TypeId} {a x : Operand} {ti : TI} (ho : o.op = .store t a x) (hti : T.get t = some ti) (hsz : ti.size = 1) {S : Nat → Prop} {w : World} (hz : InZ S w) {ρ : Operand → Value} {b i : Nat} {k : IntKind} {m m' : Int}
    (ha : ρ a = .pointer (some ⟨b, i, none⟩)) (hx : ρ x = .int k m') (hb : S b) (hc : w.cell? ⟨b, i, none⟩ = some (.int k m)) {post : Value → World → Prop} (hk : ∀ w', Chg S w w' → post undef w') : OpOK P o ρ w post := by
  obtain ⟨cs, ty, e⟩ := hz b hb
  have hci := cell_inv hc e
  have hlt : i < cs.size := (Array.getElem?_eq_some_iff.1 hci).1
  have hrun : (Instr.storeAt t (.pointer (some ⟨b, i, none⟩)) (.int k m')).run P w = .ok () (Am.put w b (.cells (setRange cs i [.int k m']) ty (0, 0))) := by
    unfold Instr.storeAt storeVar
    show (Sem.bind (Go.sizeOf t) _).run P w = _
    rw [run_bind (hT.sizeOf hti w)]
    rw [if_neg (by rw [hsz]; simp [Value.cells])]
    have := storeCells_run (P := P) (b := b) (o := i) [.int k m'] 0 w cs e (by simp; omega) (fun v hv => by rw [List.mem_singleton.1 hv]; exact ⟨(fun l h => by cases h), (fun l h => by cases h)⟩)
    simpa [Value.cells] using this
  unfold OpOK
  simp only [execOp, ho, ha, hx]
  rw [run_skip hrun]
  have hblt := heap_lt e
  refine hk _ ⟨rfl, rfl, rfl, by simp [Am.put], fun b' hb' hn => ?_, fun b' cs1 ty1 fz1 hs he => ?_⟩
  · rw [put_get, if_neg (by rintro ⟨rfl, _⟩; exact hn hb)]
  · rw [put_get]
    by_cases hbb : b = b'
    · subst hbb
      rw [e] at he
      injection he with he
      injection he with h1 h2 h3
      subst h1 h2 h3
      refine ⟨_, by rw [if_pos ⟨rfl, hblt⟩], setRange_size _ _ _, fun j y hy => ?_⟩
      rw [setRange_get _ _ _ _ (by simp; omega)]
      by_cases hj : i ≤ j ∧ j < i + 1
      · have : j = i := by omega
        subst this
        rw [hci] at hy
        injection hy with hy
        subst hy
        exact ⟨.int k m', by simp, .inr ⟨k, m, m', rfl, rfl⟩⟩
      · exact ⟨y, by rw [if_neg (by simpa using hj)]; exact hy, .inl rfl⟩
    · rw [if_neg (fun h => hbb h.1)]
      exact ⟨cs1, he, rfl, fun j y hy => ⟨y, hy, .inl rfl⟩⟩
theorem load_ok {P : Program} {o : Oper} {t : TypeId} {a : Operand} (ho : o.op = .load t a) {ρ : Operand → Value} {w : World} {y : Value} (hx : (Instr.loadAt t (ρ a)).run P w = .ok y w) {post : Value → World → Prop} (hk : post y w) : OpOK P o ρ w post := by
  unfold OpOK
  simp only [execOp, ho]
  rw [run_value hx]
  exact hk
theorem call_ok {P : Program} {o : Oper} {fv : Operand} {args : Array Operand} {tys : Array TypeId} {f : FuncId} (ho : o.op = .call { callee := .value fv, args := args, argTypes := tys }) (hP : callable P f = true) {ρ : Operand → Value} {w : World} {g : Gh} (hf : Cv w g (.clo f [] 0) (ρ fv))
    {post : Value → World → Prop} (h : Calls P f (args.map ρ) w fun e w' => ∃ x, e = .returned x ∧ post x w') : OpOK P o ρ w post := by
  generalize hq : ρ fv = y at hf
  cases hf with
  | clo hk hl hc =>
    rename_i fs xs
    have e1 : fs = #[] := Array.eq_empty_of_size_eq_zero hk
    have e2 : xs = #[] := Array.eq_empty_of_size_eq_zero (by simp at hl; omega)
    subst e1 e2
    have hrun : (execOp ρ o).run P w = .ok (.enter f (args.map ρ)) w := by
      simp only [execOp, ho, resolve, hq]
      show (Sem.bind (Deferred.ofValue (.func (.func f) #[] #[]) (args.map ρ)) _).run P w = _
      rw [run_bind (a := { target := .fn (.func f) #[], args := #[] ++ args.map ρ }) (w' := w) rfl]
      show (callFunc f (#[] ++ args.map ρ ++ #[])).run P w = _
      rw [callFunc_run hP]
      simp
    unfold OpOK
    rw [hrun]
    exact h
/-- A function of which only this is told: it returns, and changes numbers in S alone. -/
theorem GRuns.calls {P : Program} {T : TT} (hT : T.Ok P) {S : Nat → Prop} {f : FuncId} {fn : Func} {c : Code} {vs : List AV} {w : World} {g : Gh} {xs : Array Value} {R : Exit → AS → Prop} (hf : P.funcs[f]? = some fn) (hb : fn.body = some c) (hn : vs.length ≤ fn.ntmps)
    (hS : InW S w) (hI : ∀ b, S b → ¬ g.I b) (hl : vs.length = xs.size) (hxs : ∀ (i : Nat) (v : AV) (x : Value), vs[i]? = some v → xs[i]? = some x → Cv w g v x) (hH0 : HRel w g []) (hN : Fresh g 0)
    (h : GRuns P fn.ntmps w.heap.size S w c ⟨argFr vs 0, [], 0⟩ R) (hR : ∀ e s', R e s' → (e = .ret ∨ e = .normal) ∧ ∃ rv, resAll T s' fn.results.toList = some (true, rv)) :
    Calls P f xs w fun e w' => (∃ x, e = .returned x) ∧ Chg S w w' := by
  refine callsIn_wide.1 (callsIn_of_wp_marks (n := 0) hf hb trivial (h none w.heap.size w g _ _ (fun _ => rfl) ⟨Chg.refl S w, Nat.le_refl _, fun id B b E h => (by cases h), hI⟩ ⟨⟨by simp; omega, fun t => ?_⟩, hH0, hN⟩ (Nat.le_refl _) (DefOk.nil _ _ _) fun e s' a' w' g' hRe hG hSr _ hD => ?_))
  · rw [argFr_get]
    split
    · rename_i ht
      simp only [Nat.sub_zero]
      have ht' : t < vs.length := by omega
      rw [List.getD_eq_getElem?_getD, List.getElem?_eq_getElem ht', Array.getD_eq_getD_getElem?, Array.getElem?_append_left (by omega), Array.getElem?_eq_getElem (by omega)]
      exact hxs t _ _ (List.getElem?_eq_getElem ht') (Array.getElem?_eq_getElem (by omega))
    · exact .unk _
  · obtain ⟨he, rv, hr⟩ := hR e s' hRe
    obtain ⟨Ds, d1, d2, d3⟩ := hD
    obtain ⟨ht, hto⟩ := shut_turn (g := g') Ds w' d2 fun D hD => (d3 D hD).2
    have hS2 := ht.srel hSr
    obtain ⟨x, hx, hc⟩ := results_run (P := P) hT hS2 hr
    have hold : ∀ b, b < w.heap.size → (shut Ds w').heap[b]? = w'.heap[b]? := fun b hb => hto b fun hm => by have := (d3 b hm).1; omega
    have hch : Chg S w (shut Ds w') := ⟨ht.os.trans hG.chg.os, ht.tape.trans hG.chg.tape, ht.output.trans hG.chg.output, by rw [ht.size]; exact hG.chg.size, fun b hb hn => (hold b hb).trans (hG.chg.keep b hb hn), fun b cs ty fz hs hb => by
      obtain ⟨cs', h1, h2⟩ := hG.chg.sim b cs ty fz hs hb
      exact ⟨cs', (hold b (hS.lt hs)).trans h1, h2⟩⟩
    have fin : LeavesInM Fence.wide 0 P fn a'.tmps (fun e w' => (∃ x, e = .returned x) ∧ Chg S w w') a'.defers .returning w' := by
      rw [d1]
      exact leaves_marks Ds w' d2 (fun D hD => (d3 D hD).2.1) ⟨x, hx, ⟨x, rfl⟩, hch⟩
    rcases he with rfl | rfl
    · exact fin
    · exact fin
end Go.Proofs.Ytjnmbmdplchfkaa.Am
