/- The owned machine, part FZ: rows frozen in the middle of a walk. -/
import Derived.Test.YtjnmbmdplchfkaaAmVC
set_option linter.all false
namespace Go.Proofs.Ytjnmbmdplchfkaa.Am
variable [Lo]
set_option linter.unusedVariables false
def frFrz (H : AH) (F : Nat → Bool) : Fr → Fr
  | [] => []
  | (t, v) :: l => (t, v.frz H F) :: frFrz H F l
def frFrzOk (H : AH) (F : Nat → Bool) : Fr → Bool
  | [] => true
  | (_, v) :: l => v.frzOk H F && frFrzOk H F l
theorem fget_frz (H : AH) (F : Nat → Bool) (t : Nat) : ∀ fr : Fr, frFrzOk H F fr = true → fget (frFrz H F fr) t = (fget fr t).frz H F ∧ (fget fr t).frzOk H F = true
  | [], _ => ⟨rfl, rfl⟩
  | (i, v) :: l, h => by
    rw [frFrzOk, Bool.and_eq_true] at h
    simp only [frFrz, fget]
    split
    · exact ⟨rfl, h.1⟩
    · exact fget_frz H F t l h.2
theorem SW.frz {p n : Nat} {s : AS} (F : List Nat) (hrows : rowsOk s.H F = true) (hok : AH.frzOk s.H s.H F.contains = true) (hfr : frFrzOk s.H F.contains s.fr = true) : SW p n s ⟨frFrz s.H F.contains s.fr, AH.frz s.H s.H F.contains, s.nx⟩ := fun w g a hs => by
  refine ⟨g.frz F.contains, ⟨fun _ _ => rfl, fun b hb => ⟨.inl hb, rfl⟩, fun _ cs _ _ h => ⟨cs, h, rfl⟩, Ext.refl w g s.H, fun id B b E hi hb hlt => ?_, fun b hb hlt => ?_⟩, ⟨?_, HRel.frz hs.H hrows hok, ?_⟩⟩
  · obtain ⟨_, B0, b1, _⟩ := AH.frz_get hi hok
    exact ⟨id, B0, E, b1, hb⟩
  · rcases hb with hb | ⟨id, E, hid, hφ⟩
    · exact .inl hb
    · have := List.all_eq_true.1 hrows id (by simpa using hid)
      cases hg : s.H.get id with
      | none => rw [hg] at this; cases this
      | some B1 => exact .inr ⟨id, B1, E, hg, hφ⟩
  · refine ⟨hs.fr.size, fun t => ?_⟩
    obtain ⟨e1, e2⟩ := fget_frz s.H F.contains t s.fr hfr
    rw [e1]
    exact frz_cv hs.H (rowsOk.rows hrows) (hs.fr.at_ t) e2
  · exact hs.nx
/-- A box that holds one cell, told with less. -/
theorem SW.box {p n id : Nat} {s : AS} {ty : TypeId} {x y : AV} (h : s.H.get id = some (.row 1 ty [x])) (hx : x.cells = [x]) (hy : y.cells = [y]) (hle : CLe x y) : SW p n s ⟨s.fr, s.H.set id (.row 1 ty [y]), s.nx⟩ := fun w g a hs => by
  have hg : ∀ j B, (s.H.set id (.row 1 ty [y])).get j = some B → (j = id ∧ B = .row 1 ty [y]) ∨ (j ≠ id ∧ s.H.get j = some B) := fun j B hj => by
    rw [AH.get_set] at hj
    split at hj
    · rename_i e; injection hj with hj; exact .inl ⟨e, hj.symm⟩
    · rename_i e; exact .inr ⟨e, hj⟩
  have hex : ∀ j B, (s.H.set id (.row 1 ty [y])).get j = some B → ∃ B', s.H.get j = some B' := fun j B hj => by
    rcases hg j B hj with ⟨rfl, _⟩ | ⟨_, h⟩
    · exact ⟨_, by assumption⟩
    · exact ⟨_, h⟩
  refine ⟨g, ⟨fun _ _ => rfl, fun _ h => ⟨h, rfl⟩, fun _ cs _ _ h => ⟨cs, h, rfl⟩, Ext.refl w g s.H, fun j B b E hi hb _ => ?_, fun _ h _ => .inl h⟩, ⟨hs.fr, ⟨fun j B hj => ?_, fun i j b E E' A B hi hj h1 h2 => ?_, fun i b E B hi h1 => ?_, hs.H.lt, hs.H.gl⟩, hs.nx⟩⟩
  · obtain ⟨B', hB⟩ := hex j B hi
    exact ⟨j, B', E, hB, hb⟩
  · rcases hg j B hj with ⟨rfl, rfl⟩ | ⟨_, h⟩
    · obtain ⟨h0, hr⟩ := hs.H.rel _ _ h
      refine ⟨fun e he => by rw [List.mem_singleton.1 he, hy]; rfl, ?_⟩
      rcases hr with ⟨_, h2⟩ | ⟨b, cs, h1, h2, h3, h4⟩
      · cases h2
      · refine .inr ⟨b, cs, h1, h2, h3, fun i k e c hi hk => ?_⟩
        cases i with
        | zero =>
          simp only [List.getElem?_cons_zero, Option.some.injEq] at hi
          subst hi
          rw [hy] at hk
          cases k with
          | zero =>
            simp only [List.getElem?_cons_zero, Option.some.injEq] at hk
            subst hk
            obtain ⟨z, hz, hc⟩ := h4 0 0 x x rfl (by rw [hx]; rfl)
            exact ⟨z, hz, hle _ _ _ hc⟩
          | succ k => simp at hk
        | succ i => simp at hi
    · exact hs.H.rel _ _ h
  · obtain ⟨_, hA⟩ := hex i A hi
    obtain ⟨_, hB⟩ := hex j B hj
    exact hs.H.apart _ _ _ _ _ _ _ hA hB h1 h2
  · obtain ⟨_, hB⟩ := hex i B hi
    exact hs.H.imm _ _ _ _ hB h1
/-- One row that a function gives, first of several results, never written again. -/
theorem AFun.frzT {P : Program} {f : FuncId} {p : Nat} {vs : List AV} {fl : Fl} {id E len : Nat} {ty : TypeId} {es us : List AV} (h : AFun P f p vs [] (.tup (.slm fl id E 0 len :: us)) [(id, .row E ty es)]) (hp : AV.namesL (fun _ => false) es = true) (hl : len = es.length) (hu : AV.plainL us = true) : AFun P f p vs [] (.tup (.ro fl E es :: us)) [] := by
  have hg : AH.get [(id, Blk.row E ty es)] id = some (.row E ty es) := by simp [AH.get]
  have e := frz_slm (F := [id]) (fl := fl) hg (by simp) hl
  have e2 := frz_none (H := [(id, Blk.row E ty es)]) (F := List.contains [id]) (v := .tup us) (.inl (by rw [AV.plain]; exact hu))
  rw [AV.frz, AV.frzOk, AV.tup.injEq] at e2
  refine (AFun.frz [id] h ?_ ?_ ?_).cast ?_ ?_
  · simp only [rowsOk, List.all_cons, List.all_nil, hg, hp]; rfl
  · simp [AH.frzOk]
  · rw [AV.frzOk, AV.frzOkL, e.2, e2.2]; rfl
  · rw [AV.frz, AV.frzL, e.1, e2.1]
  · simp [AH.frz]
/-- A slice without elements that may be nil: both ways. -/
theorem AFun.rocase {P : Program} {f : FuncId} {p : Nat} {vs1 vs2 : List AV} {H H' : AH} {v : AV} {E : Nat} (h0 : AFun P f p (vs1 ++ .sc (.slice none 0 0) :: vs2) H v H') (h1 : AFun P f p (vs1 ++ .ro ⟨false, true⟩ E [] :: vs2) H v H') : AFun P f p (vs1 ++ .ro {} E [] :: vs2) H v H' := by
  intro w g xs hl hx hH hN
  have hlt : vs1.length < xs.size := by rw [← hl]; simp
  have hat := hx vs1.length (.ro {} E []) xs[vs1.length] (by simp) (Array.getElem?_eq_getElem hlt)
  have re : ∀ u : AV, Cv w g u xs[vs1.length] → ∀ (i : Nat) (v : AV) (x : Value), (vs1 ++ u :: vs2)[i]? = some v → xs[i]? = some x → Cv w g v x := by
    intro u hu i v x hi hxi
    by_cases he : i = vs1.length
    · subst he
      simp at hi; subst hi
      rw [Array.getElem?_eq_getElem hlt] at hxi
      injection hxi with hxi; subst hxi
      exact hu
    · refine hx i v x ?_ hxi
      rw [List.getElem?_append] at hi ⊢
      split at hi
      · rename_i h; rw [if_pos h]; exact hi
      · rename_i h
        rw [if_neg h]
        obtain ⟨k, hk⟩ : ∃ k, i - vs1.length = k + 1 := ⟨i - vs1.length - 1, by omega⟩
        rw [hk] at hi ⊢
        simpa using hi
  generalize hX : xs[vs1.length] = X at hat re
  cases hat with
  | @roz _ _ _ cap a hf hz hn =>
    cases a with
    | none =>
      have hc := hz rfl
      subst hc
      exact h0 w g xs (by simpa using hl) (re _ (.sc _ rfl)) hH hN
    | some a => exact h1 w g xs (by simpa using hl) (re _ (.roz (fun h => by cases h) hz fun _ => rfl)) hH hN
  | ro X h1' h2 h3 h4 h5 h6 => exact h1 w g xs (by simpa using hl) (re _ (.roz (fun h => by cases h) (fun h => by cases h) fun _ => rfl)) hH hN
/-- A row of one struct, its cells told with less. -/
theorem haveV.agg {ρ : Nat → Nat} {Hc : AH} {nx i E : Nat} {ty : TypeId} {cs cs' : List AV} {H : AH} (h : Hc.get (ρ i) = some (.row E ty [.agg cs])) (hle : VLe2L cs (AV.renL ρ cs')) (k : haveV ρ Hc nx H) : haveV ρ Hc nx ((i, .row E ty [.agg cs']) :: H) :=
  ⟨.inl ⟨_, h, .inr ⟨E, ty, cs, AV.renL ρ cs', rfl, rfl, hle⟩⟩, k⟩
end Go.Proofs.Ytjnmbmdplchfkaa.Am
