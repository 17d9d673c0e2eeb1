/- The owned machine, part O: code, loops, functions. -/
import Derived.Test.YtjnmbmdplchfkaaAmN
import Derived.LoopN
import Derived.LoopNIn
import Derived.Scope
set_option linter.all false
namespace Go.Proofs.Ytjnmbmdplchfkaa.Am
variable [Lo]
set_option linter.unusedVariables false

structure AS where
  fr : Fr
  H : AH
  nx : Nat

structure SRel (w : World) (g : Gh) (n : Nat) (s : AS) (a : Act) : Prop where
  fr : FRel w g n s.fr a
  H : HRel w g s.H
  nx : Fresh g s.nx
/-- What a piece of code may do: the names below p stand for what they stood for. -/
structure AdvP (p : Nat) (w : World) (g : Gh) (H : AH) (w' : World) (g' : Gh) (H' : AH) : Prop where
  φ : ∀ id, id < p → g'.φ id = g.φ id
  I : ∀ b, g.I b → g'.I b ∧ w'.heap[b]? = w.heap[b]?
  sz : ∀ (b : Nat) (cs : Array Value) (ty : TypeId) (fz : Nat × Nat), w.heap[b]? = some (.cells cs ty fz) → ∃ cs' : Array Value, w'.heap[b]? = some (Obj.cells cs' ty fz) ∧ cs'.size = cs.size
  ext : Ext w g H w'
  own : ∀ id B b E, H'.get id = some B → g'.φ id = some (b, E) → b < w.heap.size → ∃ i A F, H.get i = some A ∧ g.φ i = some (b, F)
  imm : ∀ b, g'.I b → b < w.heap.size → g.I b ∨ ∃ i A F, H.get i = some A ∧ g.φ i = some (b, F)
theorem AdvP.refl (p : Nat) (w : World) (g : Gh) (H : AH) : AdvP p w g H w g H :=
  ⟨fun _ _ => rfl, fun _ h => ⟨h, rfl⟩, fun _ cs _ _ h => ⟨cs, h, rfl⟩, Ext.refl w g H, fun id B b E hi hb _ => ⟨id, B, E, hi, hb⟩, fun _ h _ => .inl h⟩
theorem AdvP.trans {p : Nat} {w w' w'' : World} {g g' g'' : Gh} {H H' H'' : AH} (h : AdvP p w g H w' g' H') (k : AdvP p w' g' H' w'' g'' H'') : AdvP p w g H w'' g'' H'' := by
  refine ⟨fun id hid => (k.φ id hid).trans (h.φ id hid), fun b e => ⟨(k.I b (h.I b e).1).1, (k.I b (h.I b e).1).2.trans (h.I b e).2⟩, fun b cs ty fz e => ?_,
    ⟨k.ext.os.trans h.ext.os, k.ext.tape.trans h.ext.tape, k.ext.output.trans h.ext.output, Nat.le_trans h.ext.size k.ext.size, fun b hb hn => ?_⟩, fun id B b E hi hb hlt => ?_, fun b hb hlt => ?_⟩
  · obtain ⟨c1, e1, s1⟩ := h.sz b cs ty fz e
    obtain ⟨c2, e2, s2⟩ := k.sz b c1 ty fz e1
    exact ⟨c2, e2, s2.trans s1⟩
  · refine (k.ext.block b (Nat.lt_of_lt_of_le hb h.ext.size) fun id B E hi he => ?_).trans (h.ext.block b hb hn)
    obtain ⟨i, A, F, h1, h2⟩ := h.own id B b E hi he hb
    exact hn i A F h1 h2
  · obtain ⟨i, A, F, h1, h2⟩ := k.own id B b E hi hb (Nat.lt_of_lt_of_le hlt h.ext.size)
    exact h.own i A b F h1 h2 hlt
  · rcases k.imm b hb (Nat.lt_of_lt_of_le hlt h.ext.size) with h1 | ⟨i, A, F, h1, h2⟩
    · exact h.imm b h1 hlt
    · exact .inr (h.own i A b F h1 h2 hlt)
theorem AdvP.of_adv {p : Nat} {w w' : World} {g g' : Gh} {H H' : AH} (h : Adv w g H w' g' H') (hφ : ∀ id, id < p → g'.φ id = g.φ id) : AdvP p w g H w' g' H' :=
  ⟨hφ, h.mono.I, h.mono.sz, h.ext, h.own, h.imm⟩

/-! ### Blocks that are neither cells nor maps -/
def inert : Obj → Bool
  | .cells .. | .map .. => false
  | _ => true
/-- Blocks turn that are neither cells nor maps, and of which nothing is said. -/
structure Turn (w : World) (g : Gh) (w' : World) : Prop where
  os : w'.os = w.os
  tape : w'.tape = w.tape
  output : w'.output = w.output
  size : w'.heap.size = w.heap.size
  block : ∀ b, w'.heap[b]? = w.heap[b]? ∨ (¬ g.I b ∧ ∃ o, w.heap[b]? = some o ∧ inert o = true)
theorem Turn.refl (w : World) (g : Gh) : Turn w g w := ⟨rfl, rfl, rfl, rfl, fun _ => .inl rfl⟩
theorem Turn.cells {w w' : World} {g : Gh} (h : Turn w g w') {b : Nat} {o : Obj} (hb : w.heap[b]? = some o) (ho : inert o = false) : w'.heap[b]? = some o := by
  rcases h.block b with k | ⟨_, o', ho', hi⟩
  · exact k.trans hb
  · rw [hb] at ho'; injection ho' with ho'; subst ho'; rw [ho] at hi; cases hi
theorem Turn.mono {w w' : World} {g : Gh} (h : Turn w g w') : Mono w g w' g :=
  ⟨fun _ _ h => h, fun b hb => ⟨hb, (h.block b).elim id fun k => absurd hb k.1⟩, fun b cs ty fz hb => ⟨cs, h.cells hb rfl, rfl⟩⟩
theorem owned_heap {w : World} {g : Gh} {id b E : Nat} {B : Blk} (h : B.Rel w g id) (hφ : g.φ id = some (b, E)) : ∃ o, w.heap[b]? = some o ∧ inert o = false := by
  cases B with
  | row E' ty es =>
    obtain ⟨_, h⟩ := h
    rcases h with ⟨h1, _⟩ | ⟨b', cs, h1, h2, _⟩
    · rw [hφ] at h1; cases h1
    · rw [hφ] at h1; injection h1 with h1; injection h1 with h1 _; subst h1
      exact ⟨_, h2, rfl⟩
  | map ck kv =>
    obtain ⟨b', en, h1, h2, _⟩ := h
    rw [hφ] at h1; injection h1 with h1; injection h1 with h1 _; subst h1
    exact ⟨_, h2, rfl⟩
theorem Turn.hrel {w w' : World} {g : Gh} {H : AH} (h : Turn w g w') (hH : HRel w g H) : HRel w' g H :=
  ⟨fun id B hB => (hH.rel id B hB).keep h.mono rfl fun b E hφ => by
    obtain ⟨o, ho, hi⟩ := owned_heap (hH.rel id B hB) hφ
    exact (h.cells ho hi).trans ho.symm, hH.apart, hH.imm, fun b hb => by rw [h.size]; exact hH.lt b hb, hH.gl.mono h.mono.I (Nat.le_of_eq h.size.symm)⟩
theorem Turn.srel {w w' : World} {g : Gh} {n : Nat} {s : AS} {a : Act} (h : Turn w g w') (hs : SRel w g n s a) : SRel w' g n s a := ⟨hs.fr.mono h.mono, h.hrel hs.H, hs.nx⟩
theorem Turn.advP {p : Nat} {w0 w w' : World} {g0 g : Gh} {H0 H : AH} (h : Turn w g w') (hA : AdvP p w0 g0 H0 w g H) (hB : ∀ b, b < w0.heap.size → w'.heap[b]? = w.heap[b]?) : AdvP p w0 g0 H0 w' g H :=
  ⟨hA.φ, fun b hb => ⟨(hA.I b hb).1, ((h.mono.I b (hA.I b hb).1).2).trans (hA.I b hb).2⟩, fun b cs ty fz hb => by
    obtain ⟨cs', h1, h2⟩ := hA.sz b cs ty fz hb
    exact ⟨cs', h.cells h1 rfl, h2⟩,
  ⟨h.os.trans hA.ext.os, h.tape.trans hA.ext.tape, h.output.trans hA.ext.output, by rw [h.size]; exact hA.ext.size, fun b hb hn => (hB b hb).trans (hA.ext.block b hb hn)⟩, hA.own, hA.imm⟩
/-- What is not owned, not said to be immutable, and inert, stays so. -/
theorem AdvP.inert {p : Nat} {w w' : World} {g g' : Gh} {H H' : AH} (hA : AdvP p w g H w' g' H') (hH : HRel w g H) {b : Nat} {o : Obj} (hb : w.heap[b]? = some o) (ho : inert o = true) : w'.heap[b]? = some o ∧ (¬ g.I b → ¬ g'.I b) := by
  have hlt : b < w.heap.size := (Array.getElem?_eq_some_iff.1 hb).1
  have hno : ∀ id B E, H.get id = some B → g.φ id ≠ some (b, E) := fun id B E hB hφ => by
    obtain ⟨o', h1, h2⟩ := owned_heap (hH.rel id B hB) hφ
    rw [hb] at h1; injection h1 with h1; subst h1; rw [ho] at h2; cases h2
  refine ⟨(hA.ext.block b hlt hno).trans hb, fun hI hI' => ?_⟩
  rcases hA.imm b hI' hlt with h | ⟨i, A, F, h1, h2⟩
  · exact hI h
  · exact hno i A F h1 h2
/-- The calls that an activation has deferred: those of the rounds of its loops, none. -/
abbrev mark (D : Nat) : Deferred := { target := .collected D, args := #[] }
def DefOk (B : Nat) (w : World) (g : Gh) (ds : List Deferred) : Prop := ∃ Ds : List Nat, ds = Ds.map mark ∧ Ds.Nodup ∧ ∀ D ∈ Ds, B ≤ D ∧ w.heap[D]? = some (.deferred (some [])) ∧ ¬ g.I D
theorem DefOk.nil (B : Nat) (w : World) (g : Gh) : DefOk B w g [] := ⟨[], rfl, List.nodup_nil, fun _ h => absurd h List.not_mem_nil⟩
theorem DefOk.adv {p B : Nat} {w w' : World} {g g' : Gh} {H H' : AH} {ds : List Deferred} (h : DefOk B w g ds) (hA : AdvP p w g H w' g' H') (hH : HRel w g H) : DefOk B w' g' ds := by
  obtain ⟨Ds, h1, h2, h3⟩ := h
  refine ⟨Ds, h1, h2, fun D hD => ?_⟩
  obtain ⟨k1, k2, k3⟩ := h3 D hD
  obtain ⟨k4, k5⟩ := hA.inert hH k2 rfl
  exact ⟨k1, k4, k5 k3⟩
/-- Whether the code ranges over a function. -/
def hasRF : Code → Bool
  | .rangeFunc .. => true
  | .seq x y | .cond _ x y => hasRF x || hasRF y
  | .block _ c | .loop c | .scope c => hasRF c
  | _ => false
theorem hasRF_l {x y : Bool} {r : Option Nat} (h : (x || y) = true → r = none) : x = true → r = none := fun k => h (by rw [k]; rfl)
theorem hasRF_r {x y : Bool} {r : Option Nat} (h : (x || y) = true → r = none) : y = true → r = none := fun k => h (by rw [k, Bool.or_true])

/-- The code c, from s, ends by e in s' (in a round of a loop, too, unless it ranges over a function itself). -/
def ARuns (P : Program) (p n : Nat) (c : Code) (s : AS) (e : Exit) (s' : AS) : Prop :=
  ∀ (r : Option Nat) (B : Nat) w g a (Q : Exit → Act → World → Prop), (hasRF c = true → r = none) → SRel w g n s a → B ≤ w.heap.size → DefOk B w g a.defers →
    (∀ a' w' g', AdvP p w g s.H w' g' s'.H → SRel w' g' n s' a' → DefOk B w' g' a'.defers → Q e a' w') → c.wpIn (FR r) 0 P Q a w
/-- What is known by s is known by s2. -/
def SW (p n : Nat) (s s2 : AS) : Prop := ∀ w g a, SRel w g n s a → ∃ g2, AdvP p w g s.H w g2 s2.H ∧ SRel w g2 n s2 a

section
variable {P : Program} {p n : Nat} {c x y : Code} {s s1 s2 s' : AS} {e : Exit}
theorem SW.refl : SW p n s s := fun w g a h => ⟨g, AdvP.refl p w g s.H, h⟩
theorem SW.trans (h : SW p n s s1) (k : SW p n s1 s2) : SW p n s s2 := fun w g a hs => by
  obtain ⟨g1, h1, h2⟩ := h w g a hs
  obtain ⟨g2, k1, k2⟩ := k w g1 a h2
  exact ⟨g2, h1.trans k1, k2⟩
theorem ARuns.pre (hw : SW p n s s1) (h : ARuns P p n c s1 e s') : ARuns P p n c s e s' := fun r B w g a Q hr hs hB hD hQ => by
  obtain ⟨g1, h1, h2⟩ := hw w g a hs
  exact h r B w g1 a Q hr h2 hB (hD.adv h1 hs.H) fun a' w' g' hA hS => hQ a' w' g' (h1.trans hA) hS
theorem ARuns.post (h : ARuns P p n c s e s1) (hw : SW p n s1 s') : ARuns P p n c s e s' := fun r B w g a Q hr hs hB hD hQ =>
  h r B w g a Q hr hs hB hD fun a' w' g' hA hS hD' => by
    obtain ⟨g1, h1, h2⟩ := hw w' g' a' hS
    exact hQ a' w' g1 (hA.trans h1) h2 (hD'.adv h1 hS.H)
theorem ARuns.seq (h : ARuns P p n x s .normal s1) (k : ARuns P p n y s1 e s') : ARuns P p n (.seq x y) s e s' := fun r B w g a Q hr hs hB hD hQ =>
  wpIn_seq (h r B w g a _ (hasRF_l hr) hs hB hD fun a' w' g' hA hS hD' => k r B w' g' a' Q (hasRF_r hr) hS (Nat.le_trans hB hA.ext.size) hD' fun a2 w2 g2 hA2 hS2 => hQ a2 w2 g2 (hA.trans hA2) hS2)
theorem ARuns.seq_out (he : e ≠ .normal) (h : ARuns P p n x s e s') : ARuns P p n (.seq x y) s e s' := fun r B w g a Q hr hs hB hD hQ =>
  wpIn_seq (h r B w g a _ (hasRF_l hr) hs hB hD fun a' w' g' hA hS hD' => by
    have := hQ a' w' g' hA hS hD'
    cases e <;> first | exact absurd rfl he | exact this)
theorem ARuns.skip : ARuns P p n .skip s .normal s := fun r B w g a Q _ hs _ hD hQ => wpIn_skip (hQ a w g (AdvP.refl _ _ _ _) hs hD)
theorem ARuns.ret : ARuns P p n .ret s .ret s := fun r B w g a Q _ hs _ hD hQ => wpIn_ret (hQ a w g (AdvP.refl _ _ _ _) hs hD)
theorem ARuns.exit {id : Nat} : ARuns P p n (.exit id) s (.exit id) s := fun r B w g a Q _ hs _ hD hQ => wpIn_exit (hQ a w g (AdvP.refl _ _ _ _) hs hD)
theorem ARuns.cond {o : Operand} {b : Bool} (hb : envF s.fr o = .sc (.bool b)) (ho : constOk o = true) (h : ARuns P p n (if b then x else y) s e s') : ARuns P p n (.cond o x y) s e s' := fun r B w g a Q hr hs hB hD hQ => by
  have h1 := hs.fr.env hs.H.gl ho
  rw [hb] at h1
  refine wpIn_cond h1.sc_inv (h r B w g a Q ?_ hs hB hD hQ)
  cases b
  · exact hasRF_r hr
  · exact hasRF_l hr
theorem ARuns.block_normal {id : Nat} (h : ARuns P p n c s .normal s') : ARuns P p n (.block id c) s .normal s' := fun r B w g a Q hr hs hB hD hQ =>
  wpIn_block (h r B w g a _ hr hs hB hD fun a' w' g' hA hS hD' => hQ a' w' g' hA hS hD')
theorem ARuns.block_ret {id : Nat} (h : ARuns P p n c s .ret s') : ARuns P p n (.block id c) s .ret s' := fun r B w g a Q hr hs hB hD hQ =>
  wpIn_block (h r B w g a _ hr hs hB hD fun a' w' g' hA hS hD' => hQ a' w' g' hA hS hD')
theorem ARuns.block_exit {id : Nat} (h : ARuns P p n c s (.exit id) s') : ARuns P p n (.block id c) s .normal s' := fun r B w g a Q hr hs hB hD hQ =>
  wpIn_block (h r B w g a _ hr hs hB hD fun a' w' g' hA hS hD' => by simpa [Exit.inBlock] using hQ a' w' g' hA hS hD')
theorem ARuns.block_exit_other {id id' : Nat} (hne : id' ≠ id) (h : ARuns P p n c s (.exit id') s') : ARuns P p n (.block id c) s (.exit id') s' := fun r B w g a Q hr hs hB hD hQ =>
  wpIn_block (h r B w g a _ hr hs hB hD fun a' w' g' hA hS hD' => by simpa [Exit.inBlock, hne] using hQ a' w' g' hA hS hD')

theorem stepR_scope {P : Program} {b : Frame} {a : Act} {k : List Item} {cs : List Frame} {w : World} {c : Code} : step P (lone (b.atR a (.code (.scope c) :: k)) cs w) = .next (lone (b.atR a (.code c :: .inScope c :: k)) cs w) :=
  step_lone_go (by simp [stepG, stepG.exec, Frame.atR])
theorem stepR_inScope {P : Program} {b : Frame} {a : Act} {k : List Item} {cs : List Frame} {w : World} {c : Code} : step P (lone (b.atR a (.inScope c :: k)) cs w) = .next (lone (b.atR a k) cs w) :=
  step_lone_go (by simp [stepG, stepG.exec, Frame.atR])
theorem wpIn_scope {F : Fence} {n : Nat} {P : Program} {Q : Exit → Act → World → Prop} {a : Act} {w : World} {c : Code} (h : c.wpIn F n P (Exit.noGoto Q) a w) : (Code.scope c).wpIn F n P Q a w := by
  intro b k cs hro hb hr
  have h0 : (lone (b.atR a (.code (.scope c) :: k)) cs w).fenced P F := fenced_calm hb hr rfl
  obtain ⟨e, a₁, w₁, hq, harr⟩ := h b (.inScope c :: k) cs hro hb hr
  cases e with
  | normal => exact ⟨.normal, a₁, w₁, hq, .head h0 stepR_scope (StepsIn.trans harr (.one (fenced_calm hb hr rfl) stepR_inScope))⟩
  | exit id =>
    have hx : exitTo id (.inScope c :: k) = exitTo id k := by simp [exitTo]
    exact ⟨.exit id, a₁, w₁, hq, fun k' hk => .head h0 stepR_scope (harr.1 k' (by rw [hx]; exact hk)),
      fun hr' hk => let ⟨k₁, h1, h2⟩ := harr.2 hr' (by rw [hx]; exact hk); ⟨k₁, h1, .head h0 stepR_scope h2⟩⟩
  | goto l => exact hq.elim
  | ret => exact ⟨_, a₁, w₁, hq, .of_steps (.one h0 stepR_scope) harr⟩
  | panic ch => exact ⟨_, a₁, w₁, hq, .of_steps (.one h0 stepR_scope) harr⟩
  | outgrown => exact ⟨_, a₁, w₁, hq, .of_steps (.one h0 stepR_scope) harr⟩
theorem ARuns.scope (he : ∀ l, e ≠ .goto l) (h : ARuns P p n c s e s') : ARuns P p n (.scope c) s e s' := fun r B w g a Q hr hs hB hD hQ =>
  wpIn_scope (h r B w g a _ hr hs hB hD fun a' w' g' hA hS hD' => by
    have := hQ a' w' g' hA hS hD'
    cases e <;> first | exact absurd rfl (he _) | exact this)
theorem ARuns.label {l : Nat} : ARuns P p n (.label l) s .normal s := fun r B w g a Q _ hs _ hD hQ => wpIn_label (hQ a w g (AdvP.refl _ _ _ _) hs hD)

/-- Rounds of a loop. -/
inductive AIter (P : Program) (p n : Nat) (c : Code) : AS → Exit → AS → Prop
  | out {s s' : AS} {e : Exit} : e ≠ .normal → ARuns P p n c s e s' → AIter P p n c s e s'
  | more {s s1 s' : AS} {e : Exit} : ARuns P p n c s .normal s1 → AIter P p n c s1 e s' → AIter P p n c s e s'
  | weak {s s1 s' : AS} {e : Exit} : SW p n s s1 → AIter P p n c s1 e s' → AIter P p n c s e s'
theorem AIter.rounds (h : AIter P p n c s e s') : ∃ k, ∀ (r : Option Nat) (B : Nat) w g a (Q : Exit → Act → World → Prop), (hasRF c = true → r = none) → SRel w g n s a → B ≤ w.heap.size → DefOk B w g a.defers →
    (∀ a' w' g', AdvP p w g s.H w' g' s'.H → SRel w' g' n s' a' → DefOk B w' g' a'.defers → Q e a' w') → Code.roundsIn (FR r) 0 P c Q k a w := by
  induction h with
  | @out s s' e he h =>
    refine ⟨1, fun r B w g a Q hr hs hB hD hQ => h r B w g a _ hr hs hB hD fun a' w' g' hA hS hD' => ?_⟩
    have := hQ a' w' g' hA hS hD'
    cases e <;> first | exact absurd rfl he | exact this
  | more h _ ih =>
    obtain ⟨k, hk⟩ := ih
    exact ⟨k + 1, fun r B w g a Q hr hs hB hD hQ => h r B w g a _ hr hs hB hD fun a' w' g' hA hS hD' => hk r B w' g' a' Q hr hS (Nat.le_trans hB hA.ext.size) hD' fun a2 w2 g2 hA2 hS2 => hQ a2 w2 g2 (hA.trans hA2) hS2⟩
  | weak hw _ ih =>
    obtain ⟨k, hk⟩ := ih
    refine ⟨k, fun r B w g a Q hr hs hB hD hQ => ?_⟩
    obtain ⟨g1, h1, h2⟩ := hw w g a hs
    exact hk r B w g1 a Q hr h2 hB (hD.adv h1 hs.H) fun a' w' g' hA hS => hQ a' w' g' (h1.trans hA) hS
theorem ARuns.loop (h : AIter P p n c s e s') : ARuns P p n (.loop c) s e s' := fun r B w g a Q hr hs hB hD hQ => by
  obtain ⟨k, hk⟩ := h.rounds
  exact wpIn_loop_rounds k (hk r B w g a Q hr hs hB hD hQ)

theorem ARuns.region {id : Nat} {ops : Array Oper} {rs : List Rec} (hp : p ≤ s.nx) (h : Lin P n ops ops.toList rs s.fr s.H s.nx) : ARuns P p n (.region id ops false) s .normal ⟨endF n ops.toList rs s.fr, endH rs s.H, endN rs s.nx⟩ := fun r B w g a Q _ hs hB hD hQ =>
  wpIn_region_list (lin_text r ops.toList rs s.fr s.H s.nx a w g h hs.fr hs.H hs.nx fun a' w' g' hA hF hN hφ hd =>
    have hA' : AdvP p w g s.H w' g' (endH rs s.H) := AdvP.of_adv hA fun id hid => hφ id (by omega)
    hQ a' w' g' hA' ⟨hF, hA.rel, hN⟩ (hd ▸ hD.adv hA' hs.H))
theorem ARuns.drawn {id : Nat} {ops : Array Oper} {rs : List Rec} (hm : P.follows .mixedOrders = true) (hp : p ≤ s.nx) (h : Lin P n ops ops.toList rs s.fr s.H s.nx) (hI : Indep ops rs) : ARuns P p n (.region id ops true) s .normal ⟨endF n ops.toList rs s.fr, endH rs s.H, endN rs s.nx⟩ := fun r B w g a Q _ hs hB hD hQ =>
  lin_drawn r hm h hI hs.fr hs.H hs.nx (fun a' w' g' hA hF hN hφ hd =>
    have hA' : AdvP p w g s.H w' g' (endH rs s.H) := AdvP.of_adv hA fun id hid => hφ id (by omega)
    hQ a' w' g' hA' ⟨hF, hA.rel, hN⟩ (hd ▸ hD.adv hA' hs.H)) rfl
end

/-- The same of anything that is called. -/
def AFunC (C : World → Array Value → (Ending → World → Prop) → Prop) (p : Nat) (vs : List AV) (H : AH) (v : AV) (H' : AH) : Prop :=
  ∀ w g (xs : Array Value), vs.length = xs.size → (∀ (i : Nat) (v : AV) (x : Value), vs[i]? = some v → xs[i]? = some x → Cv w g v x) → HRel w g H → Fresh g p →
    C w xs fun e w' => ∃ x g', e = .returned x ∧ AdvP p w g H w' g' H' ∧ Cv w' g' v x ∧ HRel w' g' H'
/-- Function f, at arguments vs over the owned blocks H with names below p, returns v and leaves the owned blocks H'. -/
def AFun (P : Program) (f : FuncId) (p : Nat) (vs : List AV) (H : AH) (v : AV) (H' : AH) : Prop :=
  ∀ w g (xs : Array Value), vs.length = xs.size → (∀ (i : Nat) (v : AV) (x : Value), vs[i]? = some v → xs[i]? = some x → Cv w g v x) → HRel w g H → Fresh g p →
    Calls P f xs w fun e w' => ∃ x g', e = .returned x ∧ AdvP p w g H w' g' H' ∧ Cv w' g' v x ∧ HRel w' g' H'

def argFr : List AV → Nat → Fr
  | [], _ => []
  | v :: vs, i => (i, v) :: argFr vs (i + 1)
theorem argFr_get : ∀ (vs : List AV) (i t : Nat), fget (argFr vs i) t = if i ≤ t ∧ t < i + vs.length then vs.getD (t - i) .unk else .unk
  | [], i, t => by simp [argFr, fget]
  | v :: vs, i, t => by
    simp only [argFr, fget, List.length_cons]
    by_cases h : t = i
    · subst h; rw [if_pos rfl, if_pos (by omega)]; simp
    · rw [if_neg h, argFr_get vs (i + 1) t]
      by_cases h2 : i + 1 ≤ t ∧ t < i + 1 + vs.length
      · rw [if_pos h2, if_pos (by omega), show t - i = (t - (i + 1)) + 1 by omega]; simp
      · rw [if_neg h2, if_neg (by omega)]

/-- The results of a function. -/
def resAt (T : TT) (s : AS) : ResultVar → Option Out
  | .tmp t => some { v := fget s.fr t }
  | .cell a t => stepLoad T s.H t (fget s.fr a)
def resAll (T : TT) (s : AS) : List ResultVar → Option (Bool × List AV)
  | [] => some (true, [])
  | r :: rs => match resAt T s r, resAll T s rs with
    | some o, some (b, vs) => some (o.ok && b, o.v :: vs)
    | _, _ => none
def tupled : List AV → AV
  | [v] => v
  | vs => .tup vs

def resRun (tmps : Array Value) : ResultVar → Sem Value
  | .tmp t => pure (tmps.getD t undef)
  | .cell c t => do loadVar t (← asAddr (tmps.getD c undef))
theorem results_eq (fn : Func) (tmps : Array Value) : results fn tmps = (do let vs ← fn.results.mapM (resRun tmps); pure (if h : vs.size = 1 then vs[0] else .tuple vs)) := by
  unfold results
  congr 1
theorem mapM_list_run {α β : Type} {P : Program} {f : α → Sem β} {w : World} : ∀ (l : List α) (ys : List β), l.length = ys.length → (∀ (i : Nat) (a : α) (y : β), l[i]? = some a → ys[i]? = some y → (f a).run P w = .ok y w) → (l.mapM f).run P w = .ok ys w
  | [], [], _, _ => by simp [Sem.run, pure]
  | a :: l, y :: ys, h, hf => by
    rw [List.mapM_cons]
    show (Sem.bind (f a) _).run P w = _
    rw [run_bind (hf 0 a y rfl rfl)]
    show (Sem.bind (l.mapM f) _).run P w = _
    rw [run_bind (mapM_list_run l ys (by simpa using h) fun i b z hb hz => hf (i + 1) b z (by simpa using hb) (by simpa using hz))]; rfl
  | [], _ :: _, h, _ => by simp at h
  | _ :: _, [], h, _ => by simp at h

section
variable {P : Program} {T : TT} (hT : T.Ok P)
include hT
theorem resAt_run {s : AS} {w : World} {g : Gh} {n : Nat} {a : Act} (hs : SRel w g n s a) {r : ResultVar} {o : Out} (h : resAt T s r = some o) (hok : o.ok = true) :
    ∃ x, (resRun a.tmps r).run P w = .ok x w ∧ Cv w g o.v x := by
  cases r with
  | tmp t =>
    simp only [resAt, Option.some.injEq] at h
    subst h
    exact ⟨_, rfl, hs.fr.at_ t⟩
  | cell c t =>
    simp only [resAt] at h
    obtain ⟨x, ad, had, hx, hc⟩ := load_at (P := P) hT h hok hs.H (hs.fr.at_ c)
    refine ⟨x, ?_, hc⟩
    simp only [resRun, had] at hx ⊢
    exact hx
theorem resAll_run {s : AS} {w : World} {g : Gh} {n : Nat} {a : Act} (hs : SRel w g n s a) : ∀ {l : List ResultVar} {vs : List AV}, resAll T s l = some (true, vs) →
    ∃ xs : List Value, l.length = xs.length ∧ vs.length = xs.length ∧ (∀ (i : Nat) (r : ResultVar) (x : Value), l[i]? = some r → xs[i]? = some x → (resRun a.tmps r).run P w = .ok x w) ∧
      ∀ (i : Nat) (v : AV) (x : Value), vs[i]? = some v → xs[i]? = some x → Cv w g v x
  | [], vs, h => by
    simp [resAll] at h; subst h
    exact ⟨[], rfl, rfl, fun i r x hi => by simp at hi, fun i v x hi => by simp at hi⟩
  | r :: l, vs, h => by
    simp only [resAll] at h
    split at h
    · rename_i o b vs' h1 h2
      simp only [Option.some.injEq, Prod.mk.injEq, Bool.and_eq_true] at h
      obtain ⟨⟨ho, rfl⟩, rfl⟩ := h
      obtain ⟨x, hx, hc⟩ := resAt_run (P := P) hT hs h1 ho
      obtain ⟨xs, a1, a2, a3, a4⟩ := resAll_run hs h2
      refine ⟨x :: xs, by simp [a1], by simp [a2], fun i r' y hi hy => ?_, fun i v y hi hy => ?_⟩
      · cases i with
        | zero => simp at hi hy; subst hi hy; exact hx
        | succ i => exact a3 i r' y (by simpa using hi) (by simpa using hy)
      · cases i with
        | zero => simp at hi hy; subst hi hy; exact hc
        | succ i => exact a4 i v y (by simpa using hi) (by simpa using hy)
    · cases h
theorem results_run {s : AS} {w : World} {g : Gh} {n : Nat} {a : Act} (hs : SRel w g n s a) {fn : Func} {vs : List AV} (h : resAll T s fn.results.toList = some (true, vs)) : ∃ x, (results fn a.tmps).run P w = .ok x w ∧ Cv w g (tupled vs) x := by
  obtain ⟨xs, a1, a2, a3, a4⟩ := resAll_run (P := P) hT hs h
  have hm := mapM_list_run (P := P) (w := w) fn.results.toList xs a1 a3
  have hm2 : (fn.results.mapM (resRun a.tmps)).run P w = .ok xs.toArray w := by
    rw [Array.mapM_eq_mapM_toList]
    show (Functor.map List.toArray _ : Sem _).run P w = _
    rw [map_eq_pure_bind]
    show (Sem.bind _ _).run P w = _
    rw [run_bind hm]; rfl
  refine ⟨if h : xs.toArray.size = 1 then xs.toArray[0] else .tuple xs.toArray, ?_, ?_⟩
  · rw [results_eq]
    show (Sem.bind _ _).run P w = _
    rw [run_bind hm2]; rfl
  · cases vs with
    | nil =>
      cases xs with
      | nil => exact .tup rfl (fun i c x hi => by simp at hi)
      | cons x xs => simp at a2
    | cons v vs =>
      cases xs with
      | nil => simp at a2
      | cons x xs =>
        cases vs with
        | nil =>
          cases xs with
          | nil => exact a4 0 v x rfl rfl
          | cons y ys => simp at a2
        | cons u us =>
          cases xs with
          | nil => simp at a2
          | cons y ys =>
            rw [dif_neg (by simp)]
            exact .tup (by simpa using a2) fun i c z hi hz => a4 i c z hi (by simpa using hz)

/-- The blocks of the rounds' deferred calls are shut. -/
def shut (Ds : List Nat) (w : World) : World := Ds.foldl (fun w D => w.putObj D (.deferred none)) w
omit hT in
theorem shut_turn {g : Gh} : ∀ (Ds : List Nat) (w : World), Ds.Nodup → (∀ D ∈ Ds, w.heap[D]? = some (.deferred (some [])) ∧ ¬ g.I D) → Turn w g (shut Ds w) ∧ ∀ b, b ∉ Ds → (shut Ds w).heap[b]? = w.heap[b]?
  | [], w, _, _ => ⟨Turn.refl w g, fun _ _ => rfl⟩
  | D :: Ds, w, hn, h => by
    obtain ⟨h1, h2⟩ := h D (List.mem_cons_self ..)
    obtain ⟨hn1, hn2⟩ := List.nodup_cons.1 hn
    have hoth : ∀ b, b ≠ D → (w.putObj D (.deferred none)).heap[b]? = w.heap[b]? := fun b hb => World.putObj_heap_other hb
    obtain ⟨ih, ih2⟩ := shut_turn Ds (w.putObj D (.deferred none)) hn2 fun D' hD' => by
      obtain ⟨k1, k2⟩ := h D' (List.mem_cons_of_mem _ hD')
      have hne : D' ≠ D := fun e => hn1 (e ▸ hD')
      exact ⟨(hoth D' hne).trans k1, k2⟩
    have hfin : ∀ b, b ∉ D :: Ds → (shut (D :: Ds) w).heap[b]? = w.heap[b]? := fun b hb => by
      have hb1 : b ≠ D := fun e => hb (e ▸ List.mem_cons_self ..)
      exact (ih2 b fun k => hb (List.mem_cons_of_mem _ k)).trans (hoth b hb1)
    refine ⟨⟨ih.os, ih.tape, ih.output, ih.size.trans World.putObj_size, fun b => ?_⟩, hfin⟩
    by_cases hb : b ∈ D :: Ds
    · obtain ⟨k1, k2⟩ := h b hb
      exact .inr ⟨k2, _, k1, rfl⟩
    · exact .inl (hfin b hb)
omit hT in
theorem leaves_marks {fn : Func} {tmps : Array Value} {R : Ending → World → Prop} : ∀ (Ds : List Nat) (w : World), Ds.Nodup → (∀ D ∈ Ds, w.heap[D]? = some (.deferred (some []))) →
    (∃ v, (results fn tmps).run P (shut Ds w) = .ok v (shut Ds w) ∧ R (.returned v) (shut Ds w)) → LeavesInM Fence.wide 0 P fn tmps R (Ds.map mark) .returning w
  | [], w, _, _, h => h
  | D :: Ds, w, hn, hD, h => by
    obtain ⟨hn1, hn2⟩ := List.nodup_cons.1 hn
    refine ⟨by simp, .inl ⟨D, _, rfl, run_takeDeferred (hD D (List.mem_cons_self ..)), leaves_marks Ds _ hn2 (fun D' hD' => ?_) h⟩⟩
    have hne : D' ≠ D := fun e => hn1 (by rw [← e]; exact hD')
    exact (World.putObj_heap_other hne).trans (hD D' (List.mem_cons_of_mem _ hD'))
/-- A function, by what its body does. -/
theorem AFun.of_body {f : FuncId} {fn : Func} {c : Code} {p : Nat} {vs : List AV} {H H' : AH} {v : AV} {e : Exit} {s' : AS} {rv : List AV} (hf : P.funcs[f]? = some fn) (hb : fn.body = some c) (hn : vs.length ≤ fn.ntmps)
    (he : e = .ret ∨ e = .normal) (h : ARuns P p fn.ntmps c ⟨argFr vs 0, H, p⟩ e s') (hr : resAll T s' fn.results.toList = some (true, rv)) (hv : tupled rv = v) (hH : s'.H = H') : AFun P f p vs H v H' := by
  intro w g xs hl hxs hH0 hN
  refine callsIn_wide.1 (callsIn_of_wp_marks (n := 0) hf hb trivial (h none w.heap.size w g _ _ (fun _ => rfl) ⟨⟨by simp; omega, fun t => ?_⟩, hH0, hN⟩ (Nat.le_refl _) (DefOk.nil _ _ _) fun a' w' g' hA hS hD => ?_))
  · rw [argFr_get]
    split
    · rename_i ht
      simp only [Nat.sub_zero]
      have ht' : t < vs.length := by omega
      rw [List.getD_eq_getElem?_getD, List.getElem?_eq_getElem ht', Array.getD_eq_getD_getElem?, Array.getElem?_append_left (by omega), Array.getElem?_eq_getElem (by omega)]
      exact hxs t _ _ (List.getElem?_eq_getElem ht') (Array.getElem?_eq_getElem (by omega))
    · exact .unk _
  · obtain ⟨Ds, d1, d2, d3⟩ := hD
    obtain ⟨ht, hto⟩ := shut_turn (g := g') Ds w' d2 fun D hD => (d3 D hD).2
    have hS2 := ht.srel hS
    have hA2 := ht.advP hA fun b hb => hto b fun hm => by have := (d3 b hm).1; omega
    obtain ⟨x, hx, hc⟩ := results_run (P := P) hT hS2 hr
    subst hv hH
    have fin : LeavesInM Fence.wide 0 P fn a'.tmps (fun e w' => ∃ x g', e = .returned x ∧ AdvP p w g H w' g' s'.H ∧ Cv w' g' (tupled rv) x ∧ HRel w' g' s'.H) a'.defers .returning w' := by
      rw [d1]
      exact leaves_marks Ds w' d2 (fun D hD => (d3 D hD).2.1) ⟨x, hx, x, g', rfl, hA2, hc, hS2.H⟩
    rcases he with rfl | rfl
    · exact fin
    · exact fin
end
end Go.Proofs.Ytjnmbmdplchfkaa.Am
