/- The owned machine, part OR: a region that draws its order, in which two operations are not apart: both orders are walked. -/
import Derived.Test.YtcfokhkdphodoaaAmFZ
set_option linter.all false
namespace Go.Proofs.Ytcfokhkdphodoaa.Am
set_option linter.unusedVariables false

/-- The operations ops' are the operations ops in another order, with one more edge: k behind j. -/
structure Sim (π : Nat → Nat) (ops ops' : Array Oper) (k j : Nat) : Prop where
  size : ops'.size = ops.size
  op : ∀ (i : Nat) (o : Oper), ops[i]? = some o → ∃ (af : Array Edge), ops'[π i]? = some { o with after := af, guard := o.guard.map fun g => (π g.1, g.2) } ∧
    (∀ e' ∈ af, Region.binds .any e' = true → (∃ e ∈ o.after, Region.binds .any e = true ∧ e'.on = π e.on) ∨ (i = k ∧ e'.on = π j)) ∧ ∀ e ∈ o.after, Region.binds .any e = true → ∃ e' ∈ af, Region.binds .any e' = true ∧ e'.on = π e.on
  lt : ∀ i, i < ops.size → π i < ops.size
  inj : ∀ i i', i < ops.size → i' < ops.size → π i = π i' → i = i'
  sur : ∀ i', i' < ops.size → ∃ i, i < ops.size ∧ π i = i'
  gd : ∀ (i : Nat) (o : Oper) (g : Nat × Bool), ops[i]? = some o → o.guard = some g → g.1 < ops.size
  ed : ∀ (i : Nat) (o : Oper) (e : Edge), ops[i]? = some o → e ∈ o.after → e.on < ops.size
  j : j < ops.size

section
variable {π : Nat → Nat} {ops ops' : Array Oper} {k j : Nat} {F : Fence} {n : Nat} {P : Program} {Q : Exit → Act → World → Prop}
theorem Sim.yld (h : Sim π ops ops' k j) (tmps : Array Value) {x : Nat} (hx : x < ops.size) : Go.yielded ops' tmps (π x) = Go.yielded ops tmps x := by
  obtain ⟨af, h1, _⟩ := h.op x ops[x] (Array.getElem?_eq_getElem hx)
  unfold Go.yielded
  rw [h1, Array.getElem?_eq_getElem hx]; rfl
theorem Sim.wanted (h : Sim π ops ops' k j) (tmps : Array Value) {i : Nat} {o : Oper} (ho : ops[i]? = some o) (af : Array Edge) : Region.wanted { o with after := af, guard := o.guard.map fun g => (π g.1, g.2) } (Go.yielded ops' tmps) = Region.wanted o (Go.yielded ops tmps) := by
  unfold Region.wanted
  cases hg : o.guard with
  | none => rfl
  | some g =>
    obtain ⟨x, b⟩ := g
    show (Go.yielded ops' tmps (π x) == some b) = (Go.yielded ops tmps x == some b)
    rw [h.yld tmps (h.gd i o (x, b) ho hg)]
theorem Sim.run (h : Sim π ops ops' k j) : ∀ (L : List Nat) (a : Act) (w : World), (∀ i ∈ L, i < ops.size) → wpOpsIn F n P ops' Q (L.map π) a w → wpOpsIn F n P ops Q L a w
  | [], a, w, _, hh => hh
  | i :: L, a, w, hL, hh => by
    have hi := hL i List.mem_cons_self
    have ih := fun a w => Sim.run h L a w fun x hx => hL x (List.mem_cons_of_mem _ hx)
    have ho : ops[i]? = some ops[i] := Array.getElem?_eq_getElem hi
    obtain ⟨af, h1, _⟩ := h.op i _ ho
    rw [List.map_cons] at hh
    unfold wpOpsIn at hh ⊢
    rw [h1] at hh
    rw [ho]
    simp only at hh ⊢
    rw [h.wanted a.tmps ho af] at hh
    cases hw : Region.wanted ops[i] (Go.yielded ops a.tmps) with
    | true =>
      rw [hw, if_pos rfl] at hh
      rw [if_pos rfl]
      exact Oper.wpIn_mono (o := ops[i]) ih hh
    | false =>
      rw [hw, if_neg Bool.false_ne_true] at hh
      rw [if_neg Bool.false_ne_true]
      exact ⟨hh.1, ih _ _ hh.2⟩
/-- The marks of both. -/
structure LRl (π : Nat → Nat) (N : Nat) (l l' : Array Bool) : Prop where
  s1 : l.size = N
  s2 : l'.size = N
  at_ : ∀ (i : Nat) (b : Bool), i < N → l'.getD (π i) b = l.getD i b
theorem LRl.init (π : Nat → Nat) (N : Nat) (h : ∀ i, i < N → π i < N) : LRl π N (Array.replicate N false) (Array.replicate N false) :=
  ⟨by simp, by simp, fun i b hi => by simp [h i hi, hi]⟩
theorem LRl.set (h : Sim π ops ops' k j) {l l' : Array Bool} (hl : LRl π ops.size l l') {i : Nat} (hi : i < ops.size) : LRl π ops.size (l.setIfInBounds i true) (l'.setIfInBounds (π i) true) := by
  refine ⟨by simp [hl.s1], by simp [hl.s2], fun x b hx => ?_⟩
  have h1 := hl.at_ x b hx
  have h2 := h.lt x hx
  have h3 := h.lt i hi
  have e1 : x < l.size := by rw [hl.s1]; exact hx
  have e2 : π x < l'.size := by rw [hl.s2]; exact h2
  by_cases c : i = x
  · subst c
    simp [e1, e2]
  · have c2 : π i ≠ π x := fun hh => c (h.inj i x hi hx hh)
    simp [e1, e2, c, c2] at h1 ⊢
    exact h1
theorem Sim.ready (h : Sim π ops ops' k j) {l l' : Array Bool} (hl : LRl π ops.size l l') {i : Nat} (hr : i ∈ Region.ready .any ops l) (hc : i ≠ k ∨ l.getD j false = true) : π i ∈ Region.ready .any ops' l' := by
  rw [mem_ready] at hr ⊢
  obtain ⟨h1, o, ho, h2⟩ := hr
  have hi : i < ops.size := (Array.getElem?_eq_some_iff.1 ho).1
  obtain ⟨af, h3, h4, _⟩ := h.op i o ho
  refine ⟨by rw [hl.at_ i true hi]; exact h1, _, h3, fun e' he' hb => ?_⟩
  rcases h4 e' he' hb with ⟨e, he, hbe, hon⟩ | ⟨hk, hon⟩
  · rw [hon, hl.at_ e.on false (h.ed i o e ho he)]; exact h2 e he hbe
  · rw [hon, hl.at_ j false h.j]
    exact hc.resolve_left fun hn => hn hk
theorem Sim.back (h : Sim π ops ops' k j) {l l' : Array Bool} (hl : LRl π ops.size l l') (hr : Region.ready .any ops l = []) : Region.ready .any ops' l' = [] := by
  refine List.eq_nil_iff_forall_not_mem.2 fun i' hi' => ?_
  rw [mem_ready] at hi'
  obtain ⟨h1, o', ho', h2⟩ := hi'
  have hlt : i' < ops.size := by have := (Array.getElem?_eq_some_iff.1 ho').1; rwa [h.size] at this
  obtain ⟨i, hi, rfl⟩ := h.sur i' hlt
  have ho : ops[i]? = some ops[i] := Array.getElem?_eq_getElem hi
  obtain ⟨af, h3, _, h5⟩ := h.op i _ ho
  rw [h3] at ho'
  injection ho' with ho'
  subst ho'
  have : i ∈ Region.ready .any ops l := by
    rw [mem_ready]
    refine ⟨by rw [← hl.at_ i true hi]; exact h1, _, ho, fun e he hb => ?_⟩
    obtain ⟨e', he', hb', hon⟩ := h5 e he hb
    rw [← hl.at_ e.on false (h.ed i _ e ho he), ← hon]
    exact h2 e' he' hb'
  rw [hr] at this
  cases this
end

/-- L is an order that may be drawn. -/
def Pos (ops : Array Oper) : Nat → Array Bool → List Nat → Prop
  | 0, _, L => L = []
  | fuel + 1, l, L => (Region.ready .any ops l = [] ∧ L = []) ∨ ∃ i L', i ∈ Region.ready .any ops l ∧ L = i :: L' ∧ Pos ops fuel (l.setIfInBounds i true) L'
theorem ready_lt {ops : Array Oper} {l : Array Bool} {i : Nat} (h : i ∈ Region.ready .any ops l) : i < ops.size := by
  rw [mem_ready] at h
  obtain ⟨_, o, ho, _⟩ := h
  exact (Array.getElem?_eq_some_iff.1 ho).1
theorem Pos.lt {ops : Array Oper} : ∀ (fuel : Nat) (l : Array Bool) (L : List Nat), Pos ops fuel l L → ∀ i ∈ L, i < ops.size
  | 0, _, L, h, i, hi => by rw [show L = [] from h] at hi; cases hi
  | fuel + 1, l, L, h, i, hi => by
    rcases h with ⟨_, rfl⟩ | ⟨x, L', h1, rfl, h2⟩
    · cases hi
    · rcases List.mem_cons.1 hi with rfl | hi
      · exact ready_lt h1
      · exact Pos.lt fuel _ _ h2 i hi
theorem Pos.go {ops : Array Oper} : ∀ (fuel t : Nat) (l : Array Bool), Pos ops fuel l (Region.linearise.go .any ops fuel t l [])
  | 0, t, l => by simp [Pos, Region.linearise.go]
  | fuel + 1, t, l => by
    simp only [Region.linearise.go]
    change Pos ops (fuel + 1) l (match (Region.ready .any ops l)[t % (Region.ready .any ops l).length]? with
      | some i => Region.linearise.go .any ops fuel (t / (Region.ready .any ops l).length) (l.setIfInBounds i true) [i]
      | none => [].reverse)
    cases hi : (Region.ready .any ops l)[t % (Region.ready .any ops l).length]? with
    | none =>
      refine .inl ⟨?_, rfl⟩
      cases hr : Region.ready .any ops l with
      | nil => rfl
      | cons x xs =>
        rw [hr] at hi
        have hlt : t % (x :: xs).length < (x :: xs).length := Nat.mod_lt _ (by simp)
        simp at hi
        simp at hlt
        omega
    | some i =>
      refine .inr ⟨i, _, List.mem_of_getElem? hi, ?_, Pos.go fuel (t / (Region.ready .any ops l).length) (l.setIfInBounds i true)⟩
      simp only []
      rw [linearise_go_acc, List.reverse_singleton, List.singleton_append]
theorem any_pos {F : Fence} {n : Nat} {P : Program} {ops : Array Oper} {Q : Exit → Act → World → Prop} : ∀ (fuel : Nat) (l : Array Bool) (L : List Nat) (a : Act) (w : World), wpAnyIn F n P .any ops Q fuel l a w → Pos ops fuel l L → wpOpsIn F n P ops Q L a w
  | 0, l, L, a, w, h, hp => by rw [show L = [] from hp]; exact h.2
  | fuel + 1, l, L, a, w, h, hp => by
    obtain ⟨h0, h1⟩ := h
    rcases hp with ⟨hr, rfl⟩ | ⟨i, L', hi, rfl, hp⟩
    · exact h0 hr
    · rw [wpOpsIn_cons]
      exact wpOpIn_mono (fun a w h => any_pos fuel _ _ a w h hp) (h1 i hi)
section
variable {π : Nat → Nat} {ops ops' : Array Oper} {k j : Nat}
theorem Pos.sim (h : Sim π ops ops' k j) : ∀ (fuel : Nat) (l l' : Array Bool) (L : List Nat), LRl π ops.size l l' → l.getD j false = true → Pos ops fuel l L → Pos ops' fuel l' (L.map π)
  | 0, l, l', L, _, _, hp => by rw [show L = [] from hp]; exact rfl
  | fuel + 1, l, l', L, hl, hj, hp => by
    rcases hp with ⟨hr, rfl⟩ | ⟨i, L', hi, rfl, hp⟩
    · exact .inl ⟨h.back hl hr, rfl⟩
    · have hlt := ready_lt hi
      refine .inr ⟨π i, L'.map π, h.ready hl hi (.inr hj), rfl, Pos.sim h fuel _ _ _ (hl.set h hlt) ?_ hp⟩
      have hjs : j < l.size := by rw [hl.s1]; exact h.j
      by_cases c : i = j
      · subst c; simp [hjs]
      · simp [hjs, c] at hj ⊢; exact hj
end
theorem Pos.two {π π' : Nat → Nat} {ops A B : Array Oper} {k j : Nat} (hA : Sim π ops A k j) (hB : Sim π' ops B j k) (hjk : j ≠ k) : ∀ (fuel : Nat) (l lA lB : Array Bool) (L : List Nat), LRl π ops.size l lA → LRl π' ops.size l lB → Pos ops fuel l L → Pos A fuel lA (L.map π) ∨ Pos B fuel lB (L.map π')
  | 0, l, lA, lB, L, _, _, hp => by rw [show L = [] from hp]; exact .inl rfl
  | fuel + 1, l, lA, lB, L, h1, h2, hp => by
    rcases hp with ⟨hr, rfl⟩ | ⟨i, L', hi, rfl, hp⟩
    · exact .inl (.inl ⟨hA.back h1 hr, rfl⟩)
    have hlt := ready_lt hi
    by_cases ck : i = k
    · refine .inr (.inr ⟨π' i, L'.map π', hB.ready h2 hi (.inl fun hh => hjk (hh.symm.trans ck)), rfl, Pos.sim hB fuel _ _ _ (h2.set hB hlt) ?_ hp⟩)
      have hjs : k < l.size := by rw [h2.s1]; exact hB.j
      subst ck; simp [hjs]
    · by_cases cj : i = j
      · refine .inl (.inr ⟨π i, L'.map π, hA.ready h1 hi (.inl ck), rfl, Pos.sim hA fuel _ _ _ (h1.set hA hlt) ?_ hp⟩)
        have hjs : j < l.size := by rw [h1.s1]; exact hA.j
        subst cj; simp [hjs]
      · rcases Pos.two hA hB hjk fuel _ _ _ L' (h1.set hA hlt) (h2.set hB hlt) hp with h | h
        · exact .inl (.inr ⟨π i, L'.map π, hA.ready h1 hi (.inl ck), rfl, h⟩)
        · exact .inr (.inr ⟨π' i, L'.map π', hB.ready h2 hi (.inl cj), rfl, h⟩)
theorem wpIn_two {F : Fence} {n : Nat} {P : Program} {π π' : Nat → Nat} {ops A B : Array Oper} {k j : Nat} {Q : Exit → Act → World → Prop} (hm : P.follows .mixedOrders = true) (hA : Sim π ops A k j) (hB : Sim π' ops B j k) (hjk : j ≠ k) {id : Nat} {a : Act} {w : World}
    (h1 : wpAnyIn F n P .any A Q A.size (Array.replicate A.size false) a { w with drawn := w.drawn + 1 }) (h2 : wpAnyIn F n P .any B Q B.size (Array.replicate B.size false) a { w with drawn := w.drawn + 1 }) : (Code.region id ops true).wpIn F n P Q a w :=
  wpIn_region_draw fun t => by
    simp only [Region.schedule, hm, Bool.true_or, if_true]
    have hp : Pos ops ops.size (Array.replicate ops.size false) (Region.linearise .any ops t) := Pos.go ops.size t _
    rw [hA.size] at h1
    rw [hB.size] at h2
    rcases Pos.two hA hB hjk ops.size _ _ _ _ (LRl.init π _ hA.lt) (LRl.init π' _ hB.lt) hp with h | h
    · exact hA.run _ _ _ (Pos.lt _ _ _ hp) (any_pos _ _ _ _ _ h1 h)
    · exact hB.run _ _ _ (Pos.lt _ _ _ hp) (any_pos _ _ _ _ _ h2 h)

/-! ### The two arrays -/
def renE (π : Nat → Nat) (e : Edge) : Edge := { e with on := π e.on }
def renO (π : Nat → Nat) (o : Oper) (more : List Edge) : Oper := { o with after := (o.after.toList.map (renE π) ++ more).toArray, guard := o.guard.map fun g => (π g.1, g.2) }
/-- The operations in the order σ (π says where each one went), k behind j. -/
def reord (π σ : List Nat) (k j : Nat) (ops : Array Oper) : Array Oper :=
  (σ.map fun i => renO (fun x => π.getD x 0) (ops.getD i default) (if i = k then [⟨π.getD j 0, .data⟩] else [])).toArray
def reordOk (π σ : List Nat) (k j : Nat) (ops : Array Oper) : Bool :=
  σ.length == ops.size && π.length == ops.size && decide (j < ops.size) && ((List.range ops.size).all fun i => decide (π.getD i 0 < ops.size) && σ.getD (π.getD i 0) 0 == i && decide (σ.getD i 0 < ops.size) && π.getD (σ.getD i 0) 0 == i) &&
    ops.toList.all fun o => (o.after.toList.all fun e => decide (e.on < ops.size)) && match o.guard with | none => true | some g => decide (g.1 < ops.size)
theorem reord_sim {π σ : List Nat} {k j : Nat} {ops : Array Oper} (h : reordOk π σ k j ops = true) : Sim (fun x => π.getD x 0) ops (reord π σ k j ops) k j := by
  simp only [reordOk, Bool.and_eq_true, beq_iff_eq, decide_eq_true_eq] at h
  obtain ⟨⟨⟨⟨h1, h2⟩, h3⟩, h4⟩, h5⟩ := h
  have h4' : ∀ i, i < ops.size → π.getD i 0 < ops.size ∧ σ.getD (π.getD i 0) 0 = i ∧ σ.getD i 0 < ops.size ∧ π.getD (σ.getD i 0) 0 = i := fun i hi => by
    have := List.all_eq_true.1 h4 i (List.mem_range.2 hi)
    simp only [Bool.and_eq_true, beq_iff_eq, decide_eq_true_eq] at this
    exact ⟨this.1.1.1, this.1.1.2, this.1.2, this.2⟩
  have h5' : ∀ (i : Nat) (o : Oper), ops[i]? = some o → (∀ e ∈ o.after, e.on < ops.size) ∧ ∀ g, o.guard = some g → g.1 < ops.size := fun i o ho => by
    have := List.all_eq_true.1 h5 o (by have := Array.mem_of_getElem? ho; simpa using this)
    rw [Bool.and_eq_true] at this
    refine ⟨fun e he => of_decide_eq_true (List.all_eq_true.1 this.1 e (by simpa using he)), fun g hg => ?_⟩
    have h6 := this.2
    rw [hg] at h6
    exact of_decide_eq_true h6
  refine ⟨by simp [reord, h1], fun i o ho => ?_, fun i hi => (h4' i hi).1, fun i i' hi hi' he => ?_, fun i' hi' => ⟨σ.getD i' 0, (h4' i' hi').2.2.1, (h4' i' hi').2.2.2⟩, fun i o g ho hg => (h5' i o ho).2 g hg, fun i o e ho he => (h5' i o ho).1 e he, h3⟩
  · have hi : i < ops.size := (Array.getElem?_eq_some_iff.1 ho).1
    obtain ⟨q1, q2, _, _⟩ := h4' i hi
    have hs : σ[π.getD i 0]? = some i := by
      have hl : π.getD i 0 < σ.length := by omega
      rw [List.getElem?_eq_getElem hl]
      rw [List.getD_eq_getElem?_getD, List.getElem?_eq_getElem hl] at q2
      simpa using q2
    have hg : ops.getD i default = o := by
      have hoi : ops[i] = o := by rw [Array.getElem?_eq_getElem hi] at ho; injection ho
      simp [hi, hoi]
    refine ⟨(o.after.toList.map (renE fun x => π.getD x 0) ++ (if i = k then ([⟨π.getD j 0, .data⟩] : List Edge) else [])).toArray, ?_, fun e' he' hb => ?_, fun e he hb => ?_⟩
    · simp only [reord, List.getElem?_toArray, List.getElem?_map, hs, Option.map_some, hg]
      rfl
    · simp only [List.mem_toArray, List.mem_append, List.mem_map] at he'
      rcases he' with ⟨e, he, rfl⟩ | he'
      · exact .inl ⟨e, by simpa using he, hb, rfl⟩
      · by_cases c : i = k
        · rw [if_pos c, List.mem_singleton] at he'
          subst he'
          exact .inr ⟨c, rfl⟩
        · rw [if_neg c] at he'; cases he'
    · exact ⟨renE _ e, by simp only [List.mem_toArray, List.mem_append, List.mem_map]; exact .inl ⟨e, by simpa using he, rfl⟩, hb, rfl⟩
  · have q1 := (h4' i hi).2.1
    have q2 := (h4' i' hi').2.1
    have he : π.getD i 0 = π.getD i' 0 := he
    rw [he] at q1
    exact q1.symm.trans q2

/-! ### In a walk -/
/-- In any order of ops, s becomes s'. -/
def AAny (P : Program) (p n : Nat) (ops : Array Oper) (s s' : AS) : Prop :=
  ∀ (r : Option Nat) (B : Nat) w g a (Q : Exit → Act → World → Prop), SRel w g n s a → B ≤ w.heap.size → DefOk B w g a.defers →
    (∀ a' w' g', AdvP p w g s.H w' g' s'.H → SRel w' g' n s' a' → DefOk B w' g' a'.defers → Q .normal a' w') → wpAnyIn (FR r) 0 P .any ops Q ops.size (Array.replicate ops.size false) a { w with drawn := w.drawn + 1 }
section
variable {P : Program} {T : TT} {p n : Nat} {ops : Array Oper} {s s1 s2 : AS}
theorem AAny.post (h : AAny P p n ops s s1) (hw : SW p n s1 s2) : AAny P p n ops s s2 := fun r B w g a Q hs hB hD hQ =>
  h r B w g a Q hs hB hD fun a' w' g' hA hS hD' => by
    obtain ⟨g1, h1, h2⟩ := hw w' g' a' hS
    exact hQ a' w' g1 (hA.trans h1) h2 (hD'.adv h1 hS.H)
theorem AAny.lin {rs : List Rec} (hp : p ≤ s.nx) (h : Lin P n ops ops.toList rs s.fr s.H s.nx) (hI : Indep ops rs) : AAny P p n ops s ⟨endF n ops.toList rs s.fr, endH rs s.H, endN rs s.nx⟩ := fun r B w g a Q hs hB hD hQ => by
  have hz : ∀ k, (Array.replicate ops.size false).getD k false = false := by intro k; simp [Array.getElem?_replicate]; split <;> rfl
  have hz' : (fun k => (Array.replicate ops.size false).getD k false) = fun _ => false := funext hz
  have md : Mono w g { w with drawn := w.drawn + 1 } g := ⟨fun _ _ h => h, fun _ h => ⟨h, rfl⟩, fun _ cs _ _ h => ⟨cs, h, rfl⟩⟩
  have hA : Adv w g s.H { w with drawn := w.drawn + 1 } g s.H := ⟨md, ⟨rfl, rfl, rfl, Nat.le_refl _, fun _ _ _ => rfl⟩, fun i B b E hi hb _ => ⟨i, B, E, hi, hb⟩, fun _ h _ => .inl h,
    ⟨fun i B hi => (hs.H.rel i B hi).keep md rfl fun _ _ _ => rfl, hs.H.apart, hs.H.imm, hs.H.lt⟩⟩
  refine lin_wpAny (w0 := w) (g0 := g) (ds0 := a.defers) r h hI (fun a' w' g' hA hF hN hφ hd => ?_) _ _ a _ g (by simp) (by rw [Array.toList_replicate, List.count_replicate_self]) (fun k o e hk => by rw [hz] at hk; cases hk) ?_ ?_ (fun i hi _ => hs.nx i hi) (fun _ _ => rfl) rfl
  · have hA' : AdvP p w g s.H w' g' (endH rs s.H) := AdvP.of_adv hA fun id hid => hφ id (by omega)
    exact hQ a' w' g' hA' ⟨hF, hA.rel, hN⟩ (hd ▸ hD.adv hA' hs.H)
  · rw [hz', curF_none]; exact hs.fr.mono md
  · rw [hz', curH_none]; exact hA
theorem AAny.of_V (hT : T.Ok P) (hm : P.follows .mixedOrders = true) {id : Nat} (hB : (s.H.all fun x => decide (x.1 < s.nx)) = true) (h : V P T p n (.region id ops true) s fun e s1 => e = .normal ∧ SW p n s1 s2) : AAny P p n ops s s2 := by
  obtain ⟨hp, h⟩ := h
  have hp := of_decide_eq_true hp
  obtain ⟨rs, tr2, fr2, h1, h2, h3, h4, ⟨h5, h6⟩⟩ := vOps_sound hT ops.toList [] s.fr s.H s.nx h (HB.of_all hB) s.fr (FLe.refl _)
  exact ((AAny.lin hp h1 (indep_of (by simpa using h5) h1.len h3)).post (SW.fle (s := ⟨endF n ops.toList rs s.fr, endH rs s.H, endN rs s.nx⟩) h2)).post h6.2
/-- A region two operations of which are not apart: walked with k behind j, and, in another order, with j behind k. -/
theorem ARuns.two (hm : P.follows .mixedOrders = true) {id : Nat} (k j : Nat) (π σ π' σ' : List Nat) (h1 : reordOk π σ k j ops = true) (h2 : reordOk π' σ' j k ops = true) (hjk : j ≠ k) (hA : AAny P p n (reord π σ k j ops) s s2) (hB : AAny P p n (reord π' σ' j k ops) s s2) : ARuns P p n (.region id ops true) s .normal s2 := fun r B w g a Q _ hs hB' hD hQ =>
  wpIn_two hm (reord_sim h1) (reord_sim h2) hjk (hA r B w g a Q hs hB' hD hQ) (hB r B w g a Q hs hB' hD hQ)
theorem VS.two {Q : Exit → AS → Prop} (hT : T.Ok P) (hm : P.follows .mixedOrders = true) {id : Nat} (k j : Nat) (π σ π' σ' : List Nat) (s2 : AS) (h1 : reordOk π σ k j ops = true) (h2 : reordOk π' σ' j k ops = true) (hjk : j ≠ k) (hB : (s.H.all fun x => decide (x.1 < s.nx)) = true)
    (v1 : V P T p n (.region id (reord π σ k j ops) true) s fun e s1 => e = .normal ∧ SW p n s1 s2) (v2 : V P T p n (.region id (reord π' σ' j k ops) true) s fun e s1 => e = .normal ∧ SW p n s1 s2) (h : Q .normal s2) : VS P p n (.region id ops true) s Q :=
  ⟨.normal, s2, ARuns.two hm k j π σ π' σ' h1 h2 hjk (AAny.of_V hT hm hB v1) (AAny.of_V hT hm hB v2), h⟩
end
end Go.Proofs.Ytcfokhkdphodoaa.Am
