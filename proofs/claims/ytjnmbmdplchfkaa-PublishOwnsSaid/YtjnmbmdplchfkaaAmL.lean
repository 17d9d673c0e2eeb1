/- The owned machine, part L: a region, in the order of its text and in every order. -/
import Derived.Test.YtjnmbmdplchfkaaAmK
set_option linter.all false
namespace Go.Proofs.Ytjnmbmdplchfkaa.Am
variable [Lo]
set_option linter.unusedVariables false

def constOk : Operand → Bool
  | .const v => flat v
  | _ => true
def bviewV : Value → Option Bool
  | .bool b => some b
  | _ => none
def bviewA : AV → Option (Option Bool)
  | .sc (.bool b) => some (some b)
  | .unk | .when .. => none
  | _ => some none
/-- What the test that guards an operation says; none: it isn't known. -/
def yields (ops : Array Oper) (fr : Fr) (j : Nat) : Option (Option Bool) :=
  match (ops[j]?).bind (·.dst) with
  | none => some none
  | some d => bviewA (fget fr d)
def wantedQ (ops : Array Oper) (fr : Fr) (o : Oper) : Option Bool :=
  match o.guard with
  | none => some true
  | some (j, want) => (yields ops fr j).map fun y => y == some want
def setDst (n : Nat) (fr : Fr) : Option Tmp → AV → Fr
  | some d, v => if d < n then (d, v) :: fr else fr
  | none, _ => fr

structure FRel (w : World) (g : Gh) (n : Nat) (fr : Fr) (a : Act) : Prop where
  size : a.tmps.size = n
  at_ : ∀ t : Nat, Cv w g (fget fr t) (a.tmps.getD t undef)
theorem flat_cells {v : Value} (h : flat v = true) : v.cells = #[v] := by cases v <;> first | rfl | simp [flat] at h
theorem FRel.env {w : World} {g : Gh} {n : Nat} {fr : Fr} {a : Act} (h : FRel w g n fr a) (hgl : Glob w g) {x : Operand} (hx : constOk x = true) : Cv w g (envF fr x) (a.eval x) := by
  cases x with
  | tmp t => exact h.at_ t
  | const v => exact .sc v (flat_cells hx)
  | global k => exact globAV_cv hgl k
  | func f => exact .clo (fs := #[]) (xs := #[]) rfl rfl (fun i c x hi => by simp at hi)
theorem FRel.mono {w w' : World} {g g' : Gh} {n : Nat} {fr : Fr} {a : Act} (m : Mono w g w' g') (h : FRel w g n fr a) : FRel w' g' n fr a :=
  ⟨h.size, fun t => (h.at_ t).mono m⟩
theorem setDst_get (n : Nat) (fr : Fr) (d : Option Tmp) (v : AV) (t : Nat) : fget (setDst n fr d v) t = if d = some t ∧ t < n then v else fget fr t := by
  cases d with
  | none => simp [setDst]
  | some d =>
    simp only [setDst]
    by_cases h : d = t
    · subst h
      by_cases hl : d < n
      · rw [if_pos hl, if_pos ⟨rfl, hl⟩]; simp [fget]
      · rw [if_neg hl, if_neg (fun h => hl h.2)]
    · rw [if_neg (show ¬ (some d = some t ∧ t < n) from fun h' => h (by injection h'.1))]
      split
      · simp only [fget]; rw [if_neg (Ne.symm h)]
      · rfl
theorem FRel.put {w : World} {g : Gh} {n : Nat} {fr : Fr} {a : Act} (h : FRel w g n fr a) {v : AV} {x : Value} (hv : Cv w g v x) (d : Option Tmp) : FRel w g n (setDst n fr d v) (a.put d x) := by
  cases d with
  | none => exact h
  | some d =>
    refine ⟨by simp [Act.put, h.size], fun t => ?_⟩
    rw [setDst_get]
    simp only [Act.put, Array.getD_eq_getD_getElem?]
    rw [Array.getElem?_setIfInBounds]
    by_cases hd : d = t
    · subst hd
      by_cases hl : d < n
      · rw [if_pos ⟨rfl, hl⟩, if_pos rfl, if_pos (by rw [h.size]; exact hl)]; exact hv
      · rw [if_neg (fun h => hl h.2), if_pos rfl, if_neg (by rw [h.size]; exact hl)]
        have := h.at_ d
        rw [Array.getD_eq_getD_getElem?, Array.getElem?_eq_none (by rw [h.size]; exact Nat.le_of_not_lt hl)] at this
        exact this
    · rw [if_neg (fun h' => hd (by injection h'.1)), if_neg hd]
      have := h.at_ t
      rwa [Array.getD_eq_getD_getElem?] at this
theorem Cv.bview {w : World} {g : Gh} {v : AV} {x : Value} {r : Option Bool} (h : Cv w g v x) (hy : bviewA v = some r) : bviewV x = r := by
  cases h with
  | unk => cases hy
  | when => cases hy
  | sc _ _ => cases x <;> (injection hy)
  | fr hx _ =>
    obtain ⟨_, _, _, rfl⟩ := hx
    injection hy
  | old hx _ =>
    obtain ⟨_, _, _, rfl⟩ := hx
    injection hy
  | _ => injection hy
theorem FRel.yields {w : World} {g : Gh} {n : Nat} {fr : Fr} {a : Act} (h : FRel w g n fr a) {ops : Array Oper} {j : Nat} {r : Option Bool} (hy : Am.yields ops fr j = some r) : yielded ops a.tmps j = r := by
  unfold Am.yields at hy
  unfold yielded
  cases hd : (ops[j]?).bind (·.dst) with
  | none => rw [hd] at hy; injection hy
  | some d =>
    rw [hd] at hy
    have hc := (h.at_ d).bview hy
    rw [Array.getD_eq_getD_getElem?] at hc
    simp only [Option.bind_some]
    cases hx : a.tmps[d]? with
    | none => rw [hx] at hc; rw [← hc]; rfl
    | some x => rw [hx] at hc; rw [← hc]; cases x <;> rfl
theorem FRel.wanted {w : World} {g : Gh} {n : Nat} {fr : Fr} {a : Act} (h : FRel w g n fr a) {ops : Array Oper} {o : Oper} {b : Bool} (hb : wantedQ ops fr o = some b) : Region.wanted o (yielded ops a.tmps) = b := by
  unfold wantedQ at hb
  unfold Region.wanted
  cases hg : o.guard with
  | none => rw [hg] at hb; injection hb
  | some p =>
    obtain ⟨j, want⟩ := p
    rw [hg] at hb
    obtain ⟨y, hy, rfl⟩ := Option.map_eq_some_iff.1 hb
    show (yielded ops a.tmps j == some want) = _
    rw [h.yields hy]

/-- What became of an operation: it was passed over, or it gave this. -/
structure Rec where
  skip : Bool
  r : Out
def Rec.val (c : Rec) : AV := if c.skip then .sc undef else c.r.v
def Rec.del (c : Rec) : List (Nat × Option Blk) := if c.skip then [] else c.r.δ
def Rec.rd (c : Rec) : List Nat := if c.skip then [] else c.r.D
def nextId (nx : Nat) (δ : List (Nat × Option Blk)) : Nat := δ.foldl (fun n p => max n (p.1 + 1)) nx
theorem nextId_le (δ : List (Nat × Option Blk)) : ∀ nx, nx ≤ nextId nx δ := by
  induction δ with
  | nil => intro nx; exact Nat.le_refl _
  | cons p δ ih => intro nx; exact Nat.le_trans (Nat.le_max_left _ _) (ih _)
theorem nextId_gt (δ : List (Nat × Option Blk)) : ∀ nx, ∀ p ∈ δ, p.1 < nextId nx δ := by
  induction δ with
  | nil => intro nx p h; cases h
  | cons q δ ih =>
    intro nx p h
    rcases List.mem_cons.1 h with rfl | h
    · exact Nat.lt_of_lt_of_le (Nat.lt_of_lt_of_le (Nat.lt_succ_self _) (Nat.le_max_right _ _)) (nextId_le δ _)
    · exact ih _ p h

/-- The operations of l, one behind the other, give these. -/
def Lin (P : Program) (n : Nat) (ops : Array Oper) : List Oper → List Rec → Fr → AH → Nat → Prop
  | [], [], _, _, _ => True
  | o :: l, c :: rs, fr, H, nx => wantedQ ops fr o = some (!c.skip) ∧
      (c.skip = false → OpSemD P o (envF fr) H c.r ∧ o.op.operands.toList.all constOk = true ∧ ∀ p ∈ c.r.δ, H.get p.1 = none → nx ≤ p.1) ∧
      Lin P n ops l rs (setDst n fr o.dst c.val) (H.upd c.del) (nextId nx c.del)
  | _, _, _, _, _ => False
def endF (n : Nat) : List Oper → List Rec → Fr → Fr
  | o :: l, c :: rs, fr => endF n l rs (setDst n fr o.dst c.val)
  | _, _, fr => fr
def endH : List Rec → AH → AH
  | c :: rs, H => endH rs (H.upd c.del)
  | [], H => H
def endN : List Rec → Nat → Nat
  | c :: rs, nx => endN rs (nextId nx c.del)
  | [], nx => nx
def Fresh (g : Gh) (nx : Nat) : Prop := ∀ id, nx ≤ id → g.φ id = none

theorem Post.fresh {H : AH} {g g' : Gh} {δ : List (Nat × Option Blk)} {nx : Nat} (hf : Fresh g nx) (h : ∀ id, (id ∉ δ.map Prod.fst ∨ H.get id ≠ none) → g'.φ id = g.φ id) : Fresh g' (nextId nx δ) := by
  intro id hid
  rw [h id (.inl ?_)]
  · exact hf id (Nat.le_trans (nextId_le δ nx) hid)
  · intro hm
    obtain ⟨p, hp, rfl⟩ := List.mem_map.1 hm
    have := nextId_gt δ nx p hp
    omega

theorem put_defers (a : Act) (d : Option Tmp) (x : Value) : (a.put d x).defers = a.defers := by cases d <;> rfl
theorem lin_text {P : Program} {n : Nat} {ops : Array Oper} {Q : Exit → Act → World → Prop} (r : Option Nat) : ∀ (l : List Oper) (rs : List Rec) (fr : Fr) (H : AH) (nx : Nat) (a : Act) (w : World) (g : Gh),
    Lin P n ops l rs fr H nx → FRel w g n fr a → HRel w g H → Fresh g nx →
    (∀ a' w' g', Adv w g H w' g' (endH rs H) → FRel w' g' n (endF n l rs fr) a' → Fresh g' (endN rs nx) → (∀ id, id < nx → g'.φ id = g.φ id) → a'.defers = a.defers → Q .normal a' w') → wpListIn (FR r) 0 P ops Q l a w
  | [], [], fr, H, nx, a, w, g, _, hF, hH, hN, hQ => hQ a w g (Adv.refl hH) hF hN (fun _ _ => rfl) rfl
  | o :: l, c :: rs, fr, H, nx, a, w, g, ⟨h1, h2, h3⟩, hF, hH, hN, hQ => by
    unfold wpListIn
    rw [hF.wanted h1]
    cases hs : c.skip with
    | true =>
      simp only [Bool.not_true, Bool.false_eq_true, if_false]
      have e1 : c.val = .sc undef := by simp [Rec.val, hs]
      have e2 : c.del = [] := by simp [Rec.del, hs]
      have h3' := h3
      rw [e1, e2] at h3'
      refine ⟨fun _ _ => trivial, lin_text r l rs _ _ _ _ w g h3' (hF.put (.sc _ rfl) o.dst) hH hN fun a' w' g' hA hF' hN' hφ' hd => hQ a' w' g' ?_ ?_ ?_ ?_ (hd.trans (put_defers ..))⟩
      · simpa [endH, e2, AH.upd] using hA
      · simpa [endF, e1] using hF'
      · simpa [endN, e2, nextId] using hN'
      · exact hφ'
    | false =>
      simp only [Bool.not_false, if_true]
      obtain ⟨h4, h5, h6⟩ := h2 hs
      have e1 : c.val = c.r.v := by simp [Rec.val, hs]
      have e2 : c.del = c.r.δ := by simp [Rec.del, hs]
      rw [e1, e2] at h3
      refine OpOK.wpIn r (h4 H (fun _ _ => rfl) (fun _ _ h => h) w g a.eval (fun x hx => hF.env hH.gl (List.all_eq_true.1 h5 x hx)) hH fun p hp hn => hN _ (h6 p hp hn)) fun x w1 hp => ?_
      obtain ⟨g1, hA, hc, hφ⟩ := hp
      refine lin_text r l rs _ _ _ _ w1 g1 h3 ((hF.mono hA.mono).put hc o.dst) hA.rel (Post.fresh hN hφ) fun a' w' g' hA' hF' hN' hφ' hd => hQ a' w' g' ?_ ?_ ?_ ?_ (hd.trans (put_defers ..))
      · simpa [endH, e2] using hA.trans hA'
      · simpa [endF, e1] using hF'
      · simpa [endN, e2] using hN'
      · intro id hid
        rw [hφ' id (Nat.lt_of_lt_of_le hid (nextId_le _ _))]
        refine hφ id ?_
        by_cases hm : id ∈ c.r.δ.map Prod.fst
        · refine .inr fun hn => ?_
          obtain ⟨p, hp, rfl⟩ := List.mem_map.1 hm
          have := h6 p hp hn
          omega
        · exact .inl hm
  | [], _ :: _, _, _, _, _, _, _, h, _, _, _, _ => h.elim
  | _ :: _, [], _, _, _, _, _, _, h, _, _, _, _ => h.elim
end Go.Proofs.Ytjnmbmdplchfkaa.Am
