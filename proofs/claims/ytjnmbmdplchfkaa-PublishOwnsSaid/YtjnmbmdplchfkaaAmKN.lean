/- The owned machine, part KN: blocks that are pinned (an iterator, the map that it goes through), code that keeps them or steps them. -/
import Derived.Test.YtjnmbmdplchfkaaAmNM
import Derived.Maps.RangeRun
import Derived.Laws.IdiomRangeMap
set_option linter.all false
namespace Go.Proofs.Ytjnmbmdplchfkaa.Am
variable [Lo]
open Go
open Go.ChangeMaps (setBlock)
set_option linter.unusedVariables false
/-- A block that nobody owns, of which nothing is said, and that holds this. -/
def Pin (w : World) (g : Gh) (H : AH) (x : Nat × Obj) : Prop := w.heap[x.1]? = some x.2 ∧ ¬ g.I x.1 ∧ ∀ id B E, H.get id = some B → g.φ id ≠ some (x.1, E)
theorem Pin.adv {p : Nat} {w w' : World} {g g' : Gh} {H H' : AH} {x : Nat × Obj} (h : Pin w g H x) (hA : AdvP p w g H w' g' H') : Pin w' g' H' x := by
  obtain ⟨h1, h2, h3⟩ := h
  have hlt := (Array.getElem?_eq_some_iff.1 h1).1
  refine ⟨(hA.ext.block x.1 hlt h3).trans h1, fun hI => ?_, fun id B E hi hφ => ?_⟩
  · rcases hA.imm x.1 hI hlt with h | ⟨i, A, F, k1, k2⟩
    · exact h2 h
    · exact h3 i A F k1 k2
  · obtain ⟨i, A, F, k1, k2⟩ := hA.own id B x.1 E hi hφ hlt
    exact h3 i A F k1 k2
/-- Code over pinned blocks, seen from a world w0 ahead of it: the pinned blocks that turn are new since w0. -/
def KRuns (P : Program) (p n : Nat) (w0 : World) (g0 : Gh) (H0 : AH) (c : Code) (s : AS) (pins : List (Nat × Obj)) (R : Exit → AS → List (Nat × Obj) → Prop) : Prop :=
  ∀ (r : Option Nat) (B : Nat) w g a (Q : Exit → Act → World → Prop), (hasRF c = true → r = none) → AdvP p w0 g0 H0 w g s.H → SRel w g n s a → (∀ x ∈ pins, Pin w g s.H x) → B ≤ w.heap.size → DefOk B w g a.defers →
    (∀ e s' pins' a' w' g', R e s' pins' → AdvP p w0 g0 H0 w' g' s'.H → SRel w' g' n s' a' → (∀ x ∈ pins', Pin w' g' s'.H x) → B ≤ w'.heap.size → DefOk B w' g' a'.defers → Q e a' w') → c.wpIn (FR r) 0 P Q a w
section
variable {P : Program} {T : TT} {p n : Nat} {w0 : World} {g0 : Gh} {H0 : AH} {c x y : Code} {s s1 : AS} {pins : List (Nat × Obj)} {R : Exit → AS → List (Nat × Obj) → Prop}
theorem KRuns.of_D {R0 : Exit → AS → Prop} (h : DRuns P p n c s R0) (k : ∀ e s1, R0 e s1 → R e s1 pins) : KRuns P p n w0 g0 H0 c s pins R := fun r B w g a Q hr hA hs hp hB hD hQ =>
  h r B w g a Q hr hs hB hD fun e s' a' w' g' hR hA' hS hD' => hQ e s' pins a' w' g' (k e s' hR) (hA.trans hA') hS (fun x hx => (hp x hx).adv hA') (Nat.le_trans hB hA'.ext.size) hD'
theorem KRuns.pre (hw : SW p n s s1) (h : KRuns P p n w0 g0 H0 c s1 pins R) : KRuns P p n w0 g0 H0 c s pins R := fun r B w g a Q hr hA hs hp hB hD hQ => by
  obtain ⟨g1, h1, h2⟩ := hw w g a hs
  exact h r B w g1 a Q hr (hA.trans h1) h2 (fun x hx => (hp x hx).adv h1) hB (hD.adv h1 hs.H) hQ
theorem KRuns.mono {R' : Exit → AS → List (Nat × Obj) → Prop} (h : KRuns P p n w0 g0 H0 c s pins R) (k : ∀ e s1 q, R e s1 q → R' e s1 q) : KRuns P p n w0 g0 H0 c s pins R' := fun r B w g a Q hr hA hs hp hB hD hQ =>
  h r B w g a Q hr hA hs hp hB hD fun e s' pins' a' w' g' hR => hQ e s' pins' a' w' g' (k e s' pins' hR)
theorem KRuns.seq (h : KRuns P p n w0 g0 H0 x s pins fun e s1 q => match e with
    | .normal => KRuns P p n w0 g0 H0 y s1 q R
    | e => R e s1 q) : KRuns P p n w0 g0 H0 (.seq x y) s pins R := fun r B w g a Q hr hA hs hp hB hD hQ =>
  wpIn_seq (h r B w g a _ (hasRF_l hr) hA hs hp hB hD fun e s1 q a' w' g' hR hA' hS hp' hB' hD' => by
    cases e with
    | normal => exact hR r B w' g' a' Q (hasRF_r hr) hA' hS hp' hB' hD' hQ
    | _ => exact hQ _ s1 q a' w' g' hR hA' hS hp' hB' hD')
theorem KRuns.block {id : Nat} (h : KRuns P p n w0 g0 H0 c s pins fun e s1 q => match e with
    | .exit id' => if id' = id then R .normal s1 q else R (.exit id') s1 q
    | .normal => R .normal s1 q
    | .ret => R .ret s1 q
    | _ => False) : KRuns P p n w0 g0 H0 (.block id c) s pins R := fun r B w g a Q hr hA hs hp hB hD hQ =>
  wpIn_block (h r B w g a _ hr hA hs hp hB hD fun e s1 q a' w' g' hR hA' hS hp' hB' hD' => by
    cases e with
    | normal => exact hQ .normal s1 q a' w' g' hR hA' hS hp' hB' hD'
    | ret => exact hQ .ret s1 q a' w' g' hR hA' hS hp' hB' hD'
    | exit id' =>
      by_cases hid : id' = id
      · subst hid
        simp only [if_true] at hR
        simpa [Exit.inBlock] using hQ .normal s1 q a' w' g' hR hA' hS hp' hB' hD'
      · simp only [if_neg hid] at hR
        simpa [Exit.inBlock, hid] using hQ (.exit id') s1 q a' w' g' hR hA' hS hp' hB' hD'
    | _ => exact hR.elim)
theorem KRuns.loop {ι : Type} (S : ι → AS) (q : ι → List (Nat × Obj)) (m : ι → Nat) (I : ι → Prop) (h : ∀ i, I i → KRuns P p n w0 g0 H0 c (S i) (q i) fun e s1 q1 => (e = .normal ∧ ∃ j, I j ∧ m j < m i ∧ q1 = q j ∧ SW p n s1 (S j)) ∨ (e ≠ .normal ∧ R e s1 q1)) (i : ι) (hi : I i) :
    KRuns P p n w0 g0 H0 (.loop c) (S i) (q i) R := by
  have key : ∀ k i, m i < k → I i → ∀ (r : Option Nat) (B : Nat) w g a (Q : Exit → Act → World → Prop), (hasRF c = true → r = none) → AdvP p w0 g0 H0 w g (S i).H → SRel w g n (S i) a → (∀ x ∈ q i, Pin w g (S i).H x) → B ≤ w.heap.size → DefOk B w g a.defers →
      (∀ e s' pins' a' w' g', R e s' pins' → AdvP p w0 g0 H0 w' g' s'.H → SRel w' g' n s' a' → (∀ x ∈ pins', Pin w' g' s'.H x) → B ≤ w'.heap.size → DefOk B w' g' a'.defers → Q e a' w') → Code.roundsIn (FR r) 0 P c Q k a w := by
    intro k
    induction k with
    | zero => intro i hi; omega
    | succ k ih =>
      intro i hm hI r B w g a Q hr hA hs hp hB hD hQ
      rw [roundsIn_succ]
      refine h i hI r B w g a _ hr hA hs hp hB hD fun e s1 q1 a' w' g' hR hA' hS hp' hB' hD' => ?_
      rcases hR with ⟨rfl, j, hj, hlt, rfl, hw⟩ | ⟨he, hR⟩
      · obtain ⟨g1, h1, h2⟩ := hw w' g' a' hS
        exact ih j (by omega) hj r B w' g1 a' Q hr (hA'.trans h1) h2 (fun x hx => (hp' x hx).adv h1) hB' (hD'.adv h1 hS.H) hQ
      · have := hQ e s1 q1 a' w' g' hR hA' hS hp' hB' hD'
        cases e <;> first | exact absurd rfl he | exact this
  exact fun r B w g a Q hr hA hs hp hB hD hQ => wpIn_loop_rounds _ (key (m i + 1) i (by omega) hi r B w g a Q hr hA hs hp hB hD hQ)
end
theorem setBlock_turn {w w1 : World} {g : Gh} {r : Nat} {o o' : Obj} (hw : w1 = w ∨ w1 = w.drew) (hr : w.heap[r]? = some o) (ho : inert o = true) (hI : ¬ g.I r) : Turn w g (setBlock w1 r o') := by
  have e : w1.heap = w.heap ∧ w1.os = w.os ∧ w1.tape = w.tape ∧ w1.output = w.output := by
    rcases hw with rfl | rfl <;> exact ⟨rfl, rfl, rfl, rfl⟩
  obtain ⟨e1, e2, e3, e4⟩ := e
  refine ⟨e2, e3, e4, by simp [setBlock, e1], fun b => ?_⟩
  by_cases hb : b = r
  · subst hb; exact .inr ⟨hI, o, hr, ho⟩
  · refine .inl ?_
    show (w1.heap.setIfInBounds r o')[b]? = _
    rw [Array.getElem?_setIfInBounds_ne (fun h => hb h.symm), e1]
/-- What follows a step of an iterator: nothing is left, or an entry that is left comes out. -/
def NextX (P : Program) (T : TT) (n : Nat) (ops : Array Oper) (oa : Oper) (l3 : List Oper) (rb : Nat) (ents : Array MapEntry) (seen : Array Nat) (kf : Value → AV) (R0 : AS → Prop) (R1 : MapEntry → AS → Prop) (fr : Fr) (H : AH) (nx : Nat) : Prop :=
  ∃ (it : Operand), oa.op = .next it false ∧ wantedQ ops fr oa = some true ∧ oa.op.operands.toList.all constOk = true ∧ envF fr it = .sc (.pointer (some ⟨rb, 0, none⟩)) ∧
    ((leftOf ents seen).size = 0 → vOps P T n ops (fun _ fr H nx => R0 ⟨fr, H, nx⟩) l3 [] (setDst n fr oa.dst (.tup [.sc (.bool false)])) H nx) ∧
    (∀ e ∈ (leftOf ents seen).toList, vOps P T n ops (fun _ fr H nx => R1 e ⟨fr, H, nx⟩) l3 [] (setDst n fr oa.dst (.tup [.sc (.bool true), kf e.key, .unk])) H nx)
theorem KRuns.next {P : Program} {T : TT} {p n : Nat} {w0 : World} {g0 : Gh} {H0 : AH} {s : AS} {R0 : AS → Prop} {R1 : MapEntry → AS → Prop} (hT : T.Ok P) {id : Nat} {ops : Array Oper} (i : Nat) {oa : Oper} (hi : ops.toList[i]? = some oa) (hp : p ≤ s.nx) (hB : (s.H.all fun x => decide (x.1 < s.nx)) = true)
    {rb mb ck c0 : Nat} {seen : Array Nat} {ents : Array MapEntry} {kf : Value → AV} (hold : ∀ x ∈ ents.toList, x.born < ck) (hck : ck ≤ c0) (hne : rb ≠ mb) (hnew : w0.heap.size ≤ rb) (hkf : ∀ e ∈ ents.toList, ∀ w g, Cv w g (kf e.key) e.key)
    (h : vOps P T n ops (fun _ fr H nx => NextX P T n ops oa (ops.toList.drop (i + 1)) rb ents seen kf R0 R1 fr H nx) (ops.toList.take i) [] s.fr s.H s.nx) :
    KRuns P p n w0 g0 H0 (.region id ops false) s [(rb, .mapIter (some mb) ck seen c0), (mb, .map ents ck)] fun e s' q => e = .normal ∧ (((leftOf ents seen).size = 0 ∧ R0 s' ∧ q = [(rb, .mapIter (some mb) ck seen c0), (mb, .map ents ck)]) ∨
      ∃ en ∈ (leftOf ents seen).toList, R1 en s' ∧ q = [(rb, .mapIter (some mb) ck (seen.push en.born) ck), (mb, .map ents ck)]) := fun r B w g a Q _ hA hs hpn hBw hD hQ => by
  have hsp : ops.toList = ops.toList.take i ++ oa :: ops.toList.drop (i + 1) := by
    obtain ⟨hlt, e⟩ := List.getElem?_eq_some_iff.1 hi
    rw [← e, ← List.drop_eq_getElem_cons hlt, List.take_append_drop]
  obtain ⟨rs, tr2, fr2, hL, hF2, _, hHB, hK⟩ := vOps_sound hT _ [] s.fr s.H s.nx h (HB.of_all hB) s.fr (FLe.refl _)
  refine wpIn_region_list ?_
  rw [hsp]
  refine lin_pre r (oa :: ops.toList.drop (i + 1)) _ rs s.fr s.H s.nx a w g hL hs.fr hs.H hs.nx fun a1 w1 g1 hA1 hF1 hN1 hφ1 hd1 => ?_
  obtain ⟨it, ho, hw, hco, hit, hk0, hk1⟩ := hK
  have hF1' := hF1.fle hF2
  have hP1 : AdvP p w g s.H w1 g1 (endH rs s.H) := AdvP.of_adv hA1 fun id hid => hφ1 id (by omega)
  generalize endH rs s.H = H1 at *
  have hle : s.nx ≤ endN rs s.nx := endN_le rs s.nx
  generalize endN rs s.nx = nx1 at *
  have q1 := (hpn _ (List.mem_cons_self ..)).adv hP1
  have q2 := (hpn _ (List.mem_cons_of_mem _ (List.mem_cons_self ..))).adv hP1
  have hA01 := hA.trans hP1
  have hD1 := hD.adv hP1 hs.H
  have hBw1 : B ≤ w1.heap.size := Nat.le_trans hBw hP1.ext.size
  have hev : a1.eval it = .pointer (some ⟨rb, 0, none⟩) := by
    have := hF1'.env hA1.rel.gl (x := it) (List.all_eq_true.1 hco it (by simp [ho, Op.operands]))
    rw [hit] at this
    exact this.sc_inv
  unfold wpListIn
  rw [hF1'.wanted hw]
  simp only [if_true]
  have finish : ∀ (w2 : World) (v : Value) (vA : AV) (q : List (Nat × Obj)) (RX : AS → Prop), Turn w1 g1 w2 → (∀ b, b < w0.heap.size → w2.heap[b]? = w1.heap[b]?) → (∀ b, B ≤ b → b ≠ rb → w2.heap[b]? = w1.heap[b]?) → Cv w2 g1 vA v → (∀ x ∈ q, Pin w2 g1 H1 x) →
      vOps P T n ops (fun _ fr H nx => RX ⟨fr, H, nx⟩) (ops.toList.drop (i + 1)) [] (setDst n fr2 oa.dst vA) H1 nx1 →
      (∀ s', RX s' → (fun (e : Exit) (s' : AS) (q : List (Nat × Obj)) => e = .normal ∧ (((leftOf ents seen).size = 0 ∧ R0 s' ∧ q = [(rb, .mapIter (some mb) ck seen c0), (mb, .map ents ck)]) ∨ ∃ en ∈ (leftOf ents seen).toList, R1 en s' ∧ q = [(rb, .mapIter (some mb) ck (seen.push en.born) ck), (mb, .map ents ck)])) .normal s' q) →
      DefOk B w2 g1 a1.defers → wpListIn (FR r) 0 P ops Q (ops.toList.drop (i + 1)) (a1.put oa.dst v) w2 := by
    intro w2 v vA q RX ht hb0 _ hv hq hvo hRX hD2
    obtain ⟨rs3, _, fr3, hL3, hF3, _, _, hR⟩ := vOps_sound hT _ [] _ _ _ hvo hHB _ (FLe.refl _)
    refine lin_text r _ rs3 _ _ _ _ w2 g1 hL3 ((hF1'.mono ht.mono).put hv oa.dst) (ht.hrel hA1.rel) hN1 fun a3 w3 g3 hA3 hF3' hN3 hφ3 hd3 => ?_
    have hP3 : AdvP p w2 g1 H1 w3 g3 (endH rs3 H1) := AdvP.of_adv hA3 fun id hid => hφ3 id (by omega)
    exact hQ .normal _ q a3 w3 g3 (hRX _ hR) ((ht.advP hA01 hb0).trans hP3) ⟨hF3'.fle hF3, hA3.rel, hN3⟩ (fun x hx => (hq x hx).adv hP3) (Nat.le_trans (by rw [ht.size]; exact hBw1) hP3.ext.size) ((hd3.trans (put_defers ..)) ▸ hD2.adv hP3 (ht.hrel hA1.rel))
  rcases run_next_at (P := P) w1 oa.type rb mb ck c0 seen ents ck q1.1 q2.1 hold hck with ⟨h0, hrun⟩ | ⟨e, he, w2, hal, hrun⟩
  · have hop : OpOK P oa a1.eval w1 fun v w' => v = .tuple #[.bool false] ∧ w' = w1 := by
      unfold OpOK
      have : (execOp a1.eval oa).run P w1 = .ok (.value (.tuple #[.bool false])) w1 := by
        simp only [execOp, ho, hev]
        exact run_value hrun
      rw [this]
      exact ⟨rfl, rfl⟩
    refine OpOK.wpIn r hop fun v w' ⟨hv, hw'⟩ => ?_
    subst hv hw'
    exact finish w' _ (.tup [.sc (.bool false)]) [(rb, .mapIter (some mb) ck seen c0), (mb, .map ents ck)] R0 (Turn.refl _ _) (fun _ _ => rfl) (fun _ _ _ => rfl)
      (.tup (by simp) fun j c x hj hx => by
        cases j with
        | zero => simp at hj hx; subst hj hx; exact .sc _ rfl
        | succ j => simp at hj)
      (fun x hx => by
        rcases List.mem_cons.1 hx with rfl | hx
        · exact q1
        · rw [List.mem_singleton.1 hx]; exact q2) (hk0 h0) (fun s' hs' => ⟨rfl, .inl ⟨h0, hs', rfl⟩⟩) (by rw [hd1]; exact hD1)
  · have hop : OpOK P oa a1.eval w1 fun v w' => v = .tuple #[.bool true, e.key, e.val] ∧ w' = setBlock w2 rb (.mapIter (some mb) ck (seen.push e.born) ck) := by
      unfold OpOK
      have : (execOp a1.eval oa).run P w1 = .ok (.value (.tuple #[.bool true, e.key, e.val])) (setBlock w2 rb (.mapIter (some mb) ck (seen.push e.born) ck)) := by
        simp only [execOp, ho, hev]
        exact run_value hrun
      rw [this]
      exact ⟨rfl, rfl⟩
    refine OpOK.wpIn r hop fun v w' ⟨hv, hw'⟩ => ?_
    subst hv hw'
    have ht := setBlock_turn (o' := .mapIter (some mb) ck (seen.push e.born) ck) hal q1.1 rfl q1.2.1
    have e2 : w2.heap = w1.heap := by rcases hal with rfl | rfl <;> rfl
    have hoth : ∀ b, b ≠ rb → (setBlock w2 rb (.mapIter (some mb) ck (seen.push e.born) ck)).heap[b]? = w1.heap[b]? := fun b hb => by
      show (w2.heap.setIfInBounds rb _)[b]? = _
      rw [Array.getElem?_setIfInBounds_ne (fun h => hb h.symm), e2]
    have hlt : rb < w2.heap.size := by rw [e2]; exact (Array.getElem?_eq_some_iff.1 q1.1).1
    have hat : (setBlock w2 rb (.mapIter (some mb) ck (seen.push e.born) ck)).heap[rb]? = some (.mapIter (some mb) ck (seen.push e.born) ck) := by
      show (w2.heap.setIfInBounds rb _)[rb]? = _
      rw [Array.getElem?_setIfInBounds_self_of_lt hlt]
    have hem : e ∈ ents.toList := by
      unfold leftOf at he
      simp at he ⊢
      exact he.1
    refine finish _ _ (.tup [.sc (.bool true), kf e.key, .unk]) [(rb, .mapIter (some mb) ck (seen.push e.born) ck), (mb, .map ents ck)] (R1 e) ht (fun b hb => hoth b (by omega)) (fun b _ hb => hoth b hb)
      (.tup (by simp) fun j c x hj hx => by
        match j with
        | 0 => simp at hj hx; subst hj hx; exact .sc _ rfl
        | 1 => simp at hj hx; subst hj hx; exact hkf e hem _ _
        | 2 => simp at hj hx; subst hj hx; exact .unk _
        | j + 3 => simp at hj)
      (fun x hx => by
        rcases List.mem_cons.1 hx with rfl | hx
        · exact ⟨hat, q1.2.1, q1.2.2⟩
        · rw [List.mem_singleton.1 hx]; exact ⟨(hoth mb (fun h => hne h.symm)).trans q2.1, q2.2.1, q2.2.2⟩) (hk1 e he) (fun s' hs' => ⟨rfl, .inr ⟨e, he, hs', rfl⟩⟩) ?_
    rw [hd1]
    obtain ⟨Ds, d1, d2, d3⟩ := hD1
    refine ⟨Ds, d1, d2, fun D hD => ?_⟩
    obtain ⟨k1, k2, k3⟩ := d3 D hD
    refine ⟨k1, (hoth D ?_).trans k2, k3⟩
    rintro rfl
    rw [q1.1] at k2; cases k2

/-! ### A loop over a map is entered -/
theorem adv_alloc {w : World} {g : Gh} {H : AH} (o : Obj) (hH : HRel w g H) : Adv w g H (w.alloc o) g H := by
  have hold : ∀ b, b < w.heap.size → (w.alloc o).heap[b]? = w.heap[b]? := fun b hb => by
    simp only [World.alloc, Array.getElem?_push]
    rw [if_neg (by omega)]
  have m : Mono w g (w.alloc o) g := ⟨fun _ _ h => h, fun b h => ⟨h, hold b (hH.lt b h)⟩, fun b cs ty fz h => ⟨cs, (hold b (heap_lt h)).trans h, rfl⟩⟩
  refine ⟨m, ⟨rfl, rfl, rfl, by show w.heap.size ≤ (w.heap.push o).size; rw [Array.size_push]; omega, fun b hb _ => hold b hb⟩, fun id B b E hi hb _ => ⟨id, B, E, hi, hb⟩, fun _ h _ => .inl h, ?_⟩
  exact ⟨fun id A hA => (hH.rel id A hA).keep m rfl fun b E hφ => hold b ((hH.rel id A hA).lt hφ), hH.apart, hH.imm, fun b hb => by have := hH.lt b hb; show b < (w.heap.push o).size; rw [Array.size_push]; omega, hH.gl.mono m.I (by show w.heap.size ≤ (w.heap.push o).size; rw [Array.size_push]; omega)⟩
/-- The entries of a block that stands for kv. -/
structure EntsOk (kv : List (Value × AV)) (ck : Nat) (ents : Array MapEntry) : Prop where
  len : kv.length = ents.size
  key : ∀ (i : Nat) (k : Value) (v : AV) (e : MapEntry), kv[i]? = some (k, v) → ents[i]? = some e → e.key = k
  val : ∀ (i : Nat) (k x : Value) (e : MapEntry), kv[i]? = some (k, .sc x) → ents[i]? = some e → e.val = x
  inc : ∀ (i j : Nat) (e f : MapEntry), i < j → ents[i]? = some e → ents[j]? = some f → e.born < f.born
  old : ∀ (i : Nat) (e : MapEntry), ents[i]? = some e → e.born < ck
def RangeX (P : Program) (T : TT) (n : Nat) (ops : Array Oper) (oa : Oper) (l3 : List Oper) (mid ck : Nat) (kv : List (Value × AV)) (K : Nat → Fr → AH → Nat → Prop) (fr : Fr) (H : AH) (nx : Nat) : Prop :=
  ∃ (xt kt et : TypeId) (x : Operand), oa.op = .range xt x ∧ P.underlying xt = some (.map kt et) ∧ wantedQ ops fr oa = some true ∧ oa.op.operands.toList.all constOk = true ∧ envF fr x = .mp mid ∧ H.get mid = some (.map ck kv) ∧
    ∀ r : Nat, vOps P T n ops (fun _ fr H nx => K r fr H nx) l3 [] (setDst n fr oa.dst (.sc (.pointer (some ⟨r, 0, none⟩)))) H nx
theorem DRuns.range {P : Program} {T : TT} {p n : Nat} {s : AS} {y : Code} {R : Exit → AS → Prop} (hT : T.Ok P) {id : Nat} {ops : Array Oper} (i : Nat) {oa : Oper} (hi : ops.toList[i]? = some oa) (hp : p ≤ s.nx) (hB : (s.H.all fun x => decide (x.1 < s.nx)) = true)
    {mid ck : Nat} {kv : List (Value × AV)} (hmid : mid < p) (hval : ∀ x ∈ kv, ∃ v, x.2 = .sc v)
    (h : vOps P T n ops (fun _ fr H nx => RangeX P T n ops oa (ops.toList.drop (i + 1)) mid ck kv (fun rb fr H nx => H.get mid = some (.map ck kv) ∧ ∀ mb ents w0 g0 H0, EntsOk kv ck ents → w0.heap.size ≤ rb → rb ≠ mb →
      KRuns P p n w0 g0 H0 y ⟨fr, H.del mid, nx⟩ [(rb, .mapIter (some mb) ck #[] ck), (mb, .map ents ck)] fun e s' q => (mb, Obj.map ents ck) ∈ q ∧ R e ⟨s'.fr, (mid, .map ck kv) :: s'.H, s'.nx⟩) fr H nx) (ops.toList.take i) [] s.fr s.H s.nx) :
    DRuns P p n (.seq (.region id ops false) y) s R := fun r B w g a Q hr hs hBw hD hQ => by
  refine wpIn_seq ?_
  have hsp : ops.toList = ops.toList.take i ++ oa :: ops.toList.drop (i + 1) := by
    obtain ⟨hlt, e⟩ := List.getElem?_eq_some_iff.1 hi
    rw [← e, ← List.drop_eq_getElem_cons hlt, List.take_append_drop]
  obtain ⟨rs, tr2, fr2, hL, hF2, _, hHB, hK⟩ := vOps_sound hT _ [] s.fr s.H s.nx h (HB.of_all hB) s.fr (FLe.refl _)
  refine wpIn_region_list ?_
  rw [hsp]
  refine lin_pre r (oa :: ops.toList.drop (i + 1)) _ rs s.fr s.H s.nx a w g hL hs.fr hs.H hs.nx fun a1 w1 g1 hA1 hF1 hN1 hφ1 hd1 => ?_
  obtain ⟨xt, kt, et, x, ho, hut, hw, hco, hx, hmap, hk⟩ := hK
  have hF1' := hF1.fle hF2
  have hP1 : AdvP p w g s.H w1 g1 (endH rs s.H) := AdvP.of_adv hA1 fun id hid => hφ1 id (by omega)
  generalize endH rs s.H = H1 at *
  have hle : s.nx ≤ endN rs s.nx := endN_le rs s.nx
  generalize endN rs s.nx = nx1 at *
  have hev := hF1'.env hA1.rel.gl (x := x) (List.all_eq_true.1 hco x (by simp [ho, Op.operands]))
  rw [hx] at hev
  obtain ⟨mb, ents1, hmφ, hmb1, _, _, _, _, _⟩ := hA1.rel.rel mid _ hmap
  have hmx : a1.eval x = .map (some mb) := by
    generalize hq : a1.eval x = q at hev
    cases hev with
    | mp h => rw [hmφ] at h; injection h with h; injection h with h _; rw [h]
  have hmlt : mb < w1.heap.size := (Array.getElem?_eq_some_iff.1 hmb1).1
  unfold wpListIn
  rw [hF1'.wanted hw]
  simp only [if_true]
  have hop : OpOK P oa a1.eval w1 fun v w' => v = .pointer (some ⟨w1.heap.size, 0, none⟩) ∧ w' = w1.alloc (.mapIter (some mb) ck #[] ck) := by
    unfold OpOK
    have : (execOp a1.eval oa).run P w1 = .ok (.value (.pointer (some ⟨w1.heap.size, 0, none⟩))) (w1.alloc (.mapIter (some mb) ck #[] ck)) := by
      simp only [execOp, ho, hmx]
      exact run_value (run_range_map w1 xt kt et mb ents1 ck hut hmb1)
    rw [this]
    exact ⟨rfl, rfl⟩
  refine OpOK.wpIn r hop fun v w' ⟨hv, hw'⟩ => ?_
  subst hv hw'
  have hA2 := adv_alloc (.mapIter (some mb) ck #[] ck) hA1.rel
  have hP2 : AdvP p w1 g1 H1 (w1.alloc (.mapIter (some mb) ck #[] ck)) g1 H1 := AdvP.of_adv hA2 fun _ _ => rfl
  have hq : Pin (w1.alloc (.mapIter (some mb) ck #[] ck)) g1 H1 (w1.heap.size, .mapIter (some mb) ck #[] ck) := by
    refine ⟨by show (w1.heap.push _)[w1.heap.size]? = _; exact Array.getElem?_push_size, fun hI => absurd (hA1.rel.lt _ hI) (by simp), fun id B E hi hφ => ?_⟩
    exact absurd ((hA1.rel.rel id B hi).lt hφ) (by simp)
  obtain ⟨rs3, _, fr3, hL3, hF3, _, _, hR⟩ := vOps_sound hT _ [] _ _ _ (hk w1.heap.size) hHB _ (FLe.refl _)
  refine lin_text r _ rs3 _ _ _ _ _ g1 hL3 ((hF1'.mono hA2.mono).put (.sc _ rfl) oa.dst) hA2.rel hN1 fun a3 w3 g3 hA3 hF3' hN3 hφ3 hd3 => ?_
  have hP3 : AdvP p _ g1 H1 w3 g3 (endH rs3 H1) := AdvP.of_adv hA3 fun id hid => hφ3 id (by omega)
  obtain ⟨hmap3, hR⟩ := hR
  generalize endH rs3 H1 = H3 at *
  have hP := (hP1.trans hP2).trans hP3
  obtain ⟨mb3, ents, hm3, hmb3, e1, e2, e3, e4, e5⟩ := hA3.rel.rel mid _ hmap3
  have hmm : mb3 = mb := by
    have := (hP3.φ mid hmid).symm.trans hm3
    rw [hmφ] at this; injection this with this; injection this with this _; exact this.symm
  subst hmm
  have hPd : AdvP p w g s.H w3 g3 (H3.del mid) := ⟨hP.φ, hP.I, hP.sz, hP.ext, fun id B b E hi hφ hlt => hP.own id B b E (del_sub id B hi) hφ hlt, hP.imm⟩
  have q1 : Pin w3 g3 (H3.del mid) (w1.heap.size, .mapIter (some mb3) ck #[] ck) := by
    obtain ⟨k1, k2, k3⟩ := hq.adv hP3
    exact ⟨k1, k2, fun id B E hi => k3 id B E (del_sub id B hi)⟩
  have q2 : Pin w3 g3 (H3.del mid) (mb3, .map ents ck) := by
    refine ⟨hmb3, hA3.rel.imm mid mb3 0 _ hmap3 hm3, fun id B E hi hφ => ?_⟩
    have := hA3.rel.apart id mid mb3 E 0 B _ (del_sub id B hi) hmap3 hφ hm3
    subst this
    rw [AH.get_del] at hi
    simp at hi
  have hent : EntsOk kv ck ents := by
    refine ⟨e1, fun i k v e hi he => (e2 i k v e hi he).1, fun i k x e hi he => ((e2 i k _ e hi he).2).sc_inv, e3, e4⟩
  refine hR mb3 ents w g s.H hent hP1.ext.size (by omega) r B w3 g3 a3 Q (hasRF_r hr) hPd ⟨hF3'.fle hF3, hA3.rel.del mid, hN3⟩ (fun x hx => ?_) (Nat.le_trans hBw hP.ext.size) ?_ fun e s' q a' w' g' hR' hA' hS hpin hB' hD' => ?_
  · rcases List.mem_cons.1 hx with rfl | hx
    · exact q1
    · rw [List.mem_singleton.1 hx]; exact q2
  · rw [hd3, put_defers, hd1]
    exact ((hD.adv hP1 hs.H).adv hP2 hA1.rel).adv hP3 hA2.rel
  · obtain ⟨hmem, hR'⟩ := hR'
    obtain ⟨p1, p2, p3⟩ := hpin _ hmem
    have hφm : g'.φ mid = some (mb3, 0) := (hA'.φ mid hmid).trans ((hP.φ mid hmid).symm.trans hm3)
    have hsub : ∀ j B, AH.get ((mid, Blk.map ck kv) :: s'.H) j = some B → (j = mid ∧ B = .map ck kv) ∨ (j ≠ mid ∧ s'.H.get j = some B) := fun j B hj => by
      simp only [AH.get] at hj
      split at hj
      · injection hj with hj; exact .inl ⟨by assumption, hj.symm⟩
      · exact .inr ⟨by assumption, hj⟩
    refine hQ e _ a' w' g' hR' ⟨hA'.φ, hA'.I, hA'.sz, hA'.ext, fun id B b E hi hφ hlt => ?_, hA'.imm⟩ ⟨hS.fr, ⟨fun id B hi => ?_, fun i j b E E' A B hi hj h1 h2 => ?_, fun i b E B hi h1 => ?_, hS.H.lt, hS.H.gl⟩, hS.nx⟩ hD'
    · rcases hsub id B hi with ⟨rfl, rfl⟩ | ⟨_, hi⟩
      · rw [hφm] at hφ; injection hφ with hφ; injection hφ with h1 h2; subst h1 h2
        exact hP.own _ _ _ _ hmap3 hm3 hlt
      · exact hA'.own id B b E hi hφ hlt
    · rcases hsub id B hi with ⟨rfl, rfl⟩ | ⟨_, hi⟩
      · refine ⟨mb3, ents, hφm, p1, e1, fun i k v e hi he => ⟨(e2 i k v e hi he).1, ?_⟩, e3, e4, e5⟩
        obtain ⟨y, hy⟩ := hval (k, v) (List.mem_of_getElem? hi)
        simp only at hy
        subst hy
        have h5 := (e2 i k _ e hi he).2
        generalize e.val = ev at h5
        cases h5 with
        | sc _ h6 => exact .sc _ h6
      · exact hS.H.rel id B hi
    · rcases hsub i A hi with ⟨r1, r2⟩ | ⟨n1, hi1⟩ <;> rcases hsub j B hj with ⟨r3, r4⟩ | ⟨n2, hj1⟩
      · rw [r1, r3]
      · rw [r1, hφm] at h1; injection h1 with h1; injection h1 with h1 _; subst h1
        exact absurd h2 (p3 j B E' hj1)
      · rw [r3, hφm] at h2; injection h2 with h2; injection h2 with h2 _; subst h2
        exact absurd h1 (p3 i A E hi1)
      · exact hS.H.apart i j b E E' A B hi1 hj1 h1 h2
    · rcases hsub i B hi with ⟨rfl, rfl⟩ | ⟨_, hi⟩
      · rw [hφm] at h1; injection h1 with h1; injection h1 with h1 _; subst h1
        exact p2
      · exact hS.H.imm i b E B hi h1
end Go.Proofs.Ytjnmbmdplchfkaa.Am
