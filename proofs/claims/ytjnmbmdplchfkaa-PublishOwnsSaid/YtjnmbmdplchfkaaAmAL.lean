/- The owned machine, part AL: append onto a row that is kept: in place under its name, or in a new block beside it. -/
import Derived.Test.YtjnmbmdplchfkaaAmFZ
set_option linter.all false
namespace Go.Proofs.Ytjnmbmdplchfkaa.Am
variable [Lo]
open Go
set_option linter.unusedVariables false
section
variable {P : Program} {T : TT} (hT : T.Ok P) {o : Oper} {env : Operand → AV} {H : AH} {r : Out}
include hT
end

/-- The first operations of a list by their records, the rest left. -/
theorem lin_pre {P : Program} {n : Nat} {ops : Array Oper} {Q : Exit → Act → World → Prop} (r : Option Nat) (rest : List Oper) : ∀ (l : List Oper) (rs : List Rec) (fr : Fr) (H : AH) (nx : Nat) (a : Act) (w : World) (g : Gh),
    Lin P n ops l rs fr H nx → FRel w g n fr a → HRel w g H → Fresh g nx →
    (∀ a' w' g', Adv w g H w' g' (endH rs H) → FRel w' g' n (endF n l rs fr) a' → Fresh g' (endN rs nx) → (∀ id, id < nx → g'.φ id = g.φ id) → a'.defers = a.defers → wpListIn (FR r) 0 P ops Q rest a' w') → wpListIn (FR r) 0 P ops Q (l ++ rest) a w
  | [], [], fr, H, nx, a, w, g, _, hF, hH, hN, hQ => hQ a w g (Adv.refl hH) hF hN (fun _ _ => rfl) rfl
  | o :: l, c :: rs, fr, H, nx, a, w, g, ⟨h1, h2, h3⟩, hF, hH, hN, hQ => by
    rw [List.cons_append]
    unfold wpListIn
    rw [hF.wanted h1]
    cases hs : c.skip with
    | true =>
      simp only [Bool.not_true, Bool.false_eq_true, if_false]
      have e1 : c.val = .sc undef := by simp [Rec.val, hs]
      have e2 : c.del = [] := by simp [Rec.del, hs]
      have h3' := h3
      rw [e1, e2] at h3'
      refine ⟨fun _ _ => trivial, lin_pre r rest l rs _ _ _ _ w g h3' (hF.put (.sc _ rfl) o.dst) hH hN fun a' w' g' hA hF' hN' hφ' hd => hQ a' w' g' ?_ ?_ ?_ ?_ (hd.trans (put_defers ..))⟩
      · simpa [endH, e2, AH.upd] using hA
      · simpa [endF, e1] using hF'
      · simpa [endN, e2, nextId] using hN'
      · exact hφ'
    | false =>
      simp only [Bool.not_false, if_true]
      obtain ⟨h4, h5, h6⟩ := h2 hs
      have e1 : c.val = c.r.v := by simp [Rec.val, hs]
      have e2 : c.del = c.r.δ := by simp [Rec.del, hs]
      rw [e1, e2] at h3
      refine OpOK.wpIn r (h4 H (fun _ _ => rfl) (fun _ _ h => h) w g a.eval (fun x hx => hF.env hH.gl (List.all_eq_true.1 h5 x hx)) hH fun p hp hn => hN _ (h6 p hp hn)) fun x w1 hp => ?_
      obtain ⟨g1, hA, hc, hφ⟩ := hp
      refine lin_pre r rest l rs _ _ _ _ w1 g1 h3 ((hF.mono hA.mono).put hc o.dst) hA.rel (Post.fresh hN hφ) fun a' w' g' hA' hF' hN' hφ' hd => hQ a' w' g' ?_ ?_ ?_ ?_ (hd.trans (put_defers ..))
      · simpa [endH, e2] using hA.trans hA'
      · simpa [endF, e1] using hF'
      · simpa [endN, e2] using hN'
      · intro id hid
        rw [hφ' id (Nat.lt_of_lt_of_le hid (nextId_le _ _))]
        refine hφ id ?_
        by_cases hm : id ∈ c.r.δ.map Prod.fst
        · refine .inr fun hn => ?_
          obtain ⟨p, hp, rfl⟩ := List.mem_map.1 hm
          have := h6 p hp hn
          omega
        · exact .inl hm
  | [], _ :: _, _, _, _, _, _, _, h, _, _, _, _ => h.elim
  | _ :: _, [], _, _, _, _, _, _, h, _, _, _, _ => h.elim

/-! ### Code that ends in one of several states -/
def DRuns (P : Program) (p n : Nat) (c : Code) (s : AS) (R : Exit → AS → Prop) : Prop :=
  ∀ (r : Option Nat) (B : Nat) w g a (Q : Exit → Act → World → Prop), (hasRF c = true → r = none) → SRel w g n s a → B ≤ w.heap.size → DefOk B w g a.defers →
    (∀ e s' a' w' g', R e s' → AdvP p w g s.H w' g' s'.H → SRel w' g' n s' a' → DefOk B w' g' a'.defers → Q e a' w') → c.wpIn (FR r) 0 P Q a w
section
variable {P : Program} {T : TT} {p n : Nat} {c x y : Code} {s s1 s' : AS} {e : Exit} {R R' : Exit → AS → Prop}
theorem DRuns.of (h : ARuns P p n c s e s') (hR : R e s') : DRuns P p n c s R := fun r B w g a Q hr hs hB hD hQ =>
  h r B w g a Q hr hs hB hD fun a' w' g' hA hS hD' => hQ e s' a' w' g' hR hA hS hD'
theorem DRuns.of_VS (h : VS P p n c s R) : DRuns P p n c s R := by
  obtain ⟨e, s', h1, h2⟩ := h
  exact .of h1 h2
theorem DRuns.mono (h : DRuns P p n c s R) (k : ∀ e s1, R e s1 → R' e s1) : DRuns P p n c s R' := fun r B w g a Q hr hs hB hD hQ =>
  h r B w g a Q hr hs hB hD fun e s' a' w' g' hR hA hS hD' => hQ e s' a' w' g' (k e s' hR) hA hS hD'
theorem DRuns.pre (hw : SW p n s s1) (h : DRuns P p n c s1 R) : DRuns P p n c s R := fun r B w g a Q hr hs hB hD hQ => by
  obtain ⟨g1, h1, h2⟩ := hw w g a hs
  exact h r B w g1 a Q hr h2 hB (hD.adv h1 hs.H) fun e s' a' w' g' hR hA hS => hQ e s' a' w' g' hR (h1.trans hA) hS
theorem DRuns.seq (h : DRuns P p n x s fun e s1 => match e with
    | .normal => DRuns P p n y s1 R
    | e => R e s1) : DRuns P p n (.seq x y) s R := fun r B w g a Q hr hs hB hD hQ =>
  wpIn_seq (h r B w g a _ (hasRF_l hr) hs hB hD fun e s1 a' w' g' hR hA hS hD' => by
    cases e with
    | normal => exact hR r B w' g' a' Q (hasRF_r hr) hS (Nat.le_trans hB hA.ext.size) hD' fun e s2 a2 w2 g2 hR2 hA2 hS2 => hQ e s2 a2 w2 g2 hR2 (hA.trans hA2) hS2
    | _ => exact hQ _ s1 a' w' g' hR hA hS hD')
theorem DRuns.block {id : Nat} (h : DRuns P p n c s fun e s1 => e = .exit id ∧ R .normal s1) : DRuns P p n (.block id c) s R := fun r B w g a Q hr hs hB hD hQ =>
  wpIn_block (h r B w g a _ hr hs hB hD fun e s1 a' w' g' ⟨he, hR⟩ hA hS hD' => by
    subst he
    simpa [Exit.inBlock] using hQ .normal s1 a' w' g' hR hA hS hD')
theorem DRuns.blockN {id : Nat} (h : DRuns P p n c s fun e s1 => e = .normal ∧ R .normal s1) : DRuns P p n (.block id c) s R := fun r B w g a Q hr hs hB hD hQ =>
  wpIn_block (h r B w g a _ hr hs hB hD fun e s1 a' w' g' ⟨he, hR⟩ hA hS hD' => by
    subst he
    exact hQ .normal s1 a' w' g' hR hA hS hD')
theorem DRuns.loop {ι : Type} (S : ι → AS) (m : ι → Nat) (I : ι → Prop) (h : ∀ i, I i → DRuns P p n c (S i) fun e s1 => (e = .normal ∧ ∃ j, I j ∧ m j < m i ∧ SW p n s1 (S j)) ∨ (e ≠ .normal ∧ R e s1)) (i : ι) (hi : I i) : DRuns P p n (.loop c) (S i) R := by
  have key : ∀ k i, m i < k → I i → ∀ (r : Option Nat) (B : Nat) w g a (Q : Exit → Act → World → Prop), (hasRF c = true → r = none) → SRel w g n (S i) a → B ≤ w.heap.size → DefOk B w g a.defers →
      (∀ e s' a' w' g', R e s' → AdvP p w g (S i).H w' g' s'.H → SRel w' g' n s' a' → DefOk B w' g' a'.defers → Q e a' w') → Code.roundsIn (FR r) 0 P c Q k a w := by
    intro k
    induction k with
    | zero => intro i hi; omega
    | succ k ih =>
      intro i hm hI r B w g a Q hr hs hB hD hQ
      rw [roundsIn_succ]
      refine h i hI r B w g a _ hr hs hB hD fun e s1 a' w' g' hR hA hS hD' => ?_
      rcases hR with ⟨rfl, j, hj, hlt, hw⟩ | ⟨he, hR⟩
      · obtain ⟨g1, h1, h2⟩ := hw w' g' a' hS
        exact ih j (by omega) hj r B w' g1 a' Q hr h2 (Nat.le_trans hB hA.ext.size) (hD'.adv h1 hS.H) fun e s2 a2 w2 g2 hR2 hA2 hS2 hD2 => hQ e s2 a2 w2 g2 hR2 ((hA.trans h1).trans hA2) hS2 hD2
      · have := hQ e s1 a' w' g' hR hA hS hD'
        cases e <;> first | exact absurd rfl he | exact this
  exact fun r B w g a Q hr hs hB hD hQ => wpIn_loop_rounds _ (key (m i + 1) i (by omega) hi r B w g a Q hr hs hB hD hQ)
theorem ARuns.of_D (h : DRuns P p n c s R) (hR : ∀ e1 s1, R e1 s1 → e1 = e ∧ SW p n s1 s') : ARuns P p n c s e s' := fun r B w g a Q hr hs hB hD hQ =>
  h r B w g a Q hr hs hB hD fun e1 s1 a' w' g' hR1 hA hS hD' => by
    obtain ⟨rfl, hw⟩ := hR e1 s1 hR1
    obtain ⟨g1, h1, h2⟩ := hw w' g' a' hS
    exact hQ a' w' g1 (hA.trans h1) h2 (hD'.adv h1 hS.H)
theorem FRel.fle {w : World} {g : Gh} {fr fr2 : Fr} {a : Act} (h : FRel w g n fr a) (hle : FLe fr fr2) : FRel w g n fr2 a := ⟨h.size, fun t => (hle t).cle w g _ (h.at_ t)⟩
end
end Go.Proofs.Ytjnmbmdplchfkaa.Am
