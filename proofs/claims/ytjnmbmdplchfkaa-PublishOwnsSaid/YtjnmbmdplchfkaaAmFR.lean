/- The owned machine, part FR: what a function made itself, told as fresh: all of it lies in blocks that were made since. -/
import Derived.Test.YtjnmbmdplchfkaaAmFZ
set_option linter.all false
namespace Go.Proofs.Ytjnmbmdplchfkaa.Am
open Go
set_option linter.unusedVariables false
variable [Lo]
/-- The ghost of what is fresh. -/
def Gh.fresh (w : World) (g : Gh) : Gh := ⟨fun _ => none, newI w g.I⟩
/-- What is known of a cell says this of what is fresh. -/
def FrLe (c c' : AV) : Prop := ∀ w (g : Gh) x, Cv w g c x → Cv w (g.fresh w) c' x
theorem FrLe.plain {c : AV} (h : c.plain = true) : FrLe c c := fun w g x hc => hc.plain h
theorem FrLe.fr (fl : Fl) (E : Nat) (es : List AV) : FrLe (.fr (.ro fl E es)) (.ro fl E es) := fun w g x hc => by
  cases hc with
  | fr _ h => exact h
theorem cell_of {w : World} {b i : Nat} {cs : Array Value} {ty : TypeId} {fz : Nat × Nat} {x : Value} (h : w.heap[b]? = some (.cells cs ty fz)) (hx : cs[i]? = some x) : w.cell? ⟨b, i, none⟩ = some x := by
  simp [World.cell?, h, hx]
theorem AFun.frG {P : Program} {f : FuncId} {vs : List AV} {v v' : AV} {id E : Nat} {ty : TypeId} {es es' : List AV} (h : AFun P f 0 vs [] v [(id, .row E ty es)])
    (hl : es.length = es'.length) (hes : ∀ (i : Nat) (e e' : AV), es[i]? = some e → es'[i]? = some e' → e.cells.length = e'.cells.length ∧ ∀ (j : Nat) (c c' : AV), e.cells[j]? = some c → e'.cells[j]? = some c' → FrLe c c')
    (k : ∀ w (g g1 : Gh) x, (∀ b, g.I b → g1.I b) → (∀ id q, g.φ id = some q → g1.φ id = some q) → (∀ fl y, Cv w g (.slm fl id E 0 es.length) y → Cv w g1 (.fr (.ro fl E es')) y) → Cv w g v x → Cv w g1 v' x) : AFun P f 0 vs [] v' [] := fun w g xs hlen hx hH hN =>
  (h w g xs hlen hx hH hN).mono fun e w' ⟨x, g', he, hA, hc, hH'⟩ => by
    have hget : AH.get [(id, .row E ty es)] id = some (.row E ty es) := by simp [AH.get]
    obtain ⟨hE, hr⟩ := hH'.rel id _ hget
    rcases hr with ⟨hnone, hnil⟩ | ⟨b, cs, hφ, hb, hsz, hrow⟩
    · subst hnil
      have he' : es' = [] := List.eq_nil_of_length_eq_zero hl.symm
      subst he'
      refine ⟨x, g', he, ⟨fun _ h => by omega, hA.I, hA.sz, hA.ext, (fun id B b E h => by cases h), fun b hI hlt => hA.imm b hI hlt⟩, k w' g' g' x (fun _ h => h) (fun _ _ h => h) (fun fl y hy => ?_) hc, ⟨fun id B h => (by cases h), fun i j b E E' A B h => (by cases h), fun i b E B h => (by cases h), hH'.lt, hH'.gl⟩⟩
      cases hy with
      | slz hnn => exact .fr ⟨_, _, _, rfl⟩ (.roz (fun _ => rfl) (fun _ => rfl) hnn)
      | slm h1 _ _ _ _ => rw [hnone] at h1; cases h1
    · have hblt : b < w'.heap.size := heap_lt hb
      have hbw : w.heap.size ≤ b := by
        rcases Nat.lt_or_ge b w.heap.size with hlt | hge
        · obtain ⟨i, A, F, h1, _⟩ := hA.own id _ b E hget hφ hlt
          cases h1
        · exact hge
      have hlo : Lo.lo ≤ b := Nat.le_trans hH.gl.2 hbw
      have up : ∀ c, g'.I c → (g'.I c ∨ c = b) := fun c h => .inl h
      refine ⟨x, ⟨g'.φ, fun c => g'.I c ∨ c = b⟩, he, ⟨fun _ h => by omega, fun c hc => ⟨.inl (hA.I c hc).1, (hA.I c hc).2⟩, hA.sz, hA.ext, (fun id B b E h => by cases h), fun c hI hlt => ?_⟩, k w' g' _ x up (fun _ _ h => h) (fun fl y hy => ?_) hc,
        ⟨fun id B h => (by cases h), fun i j b E E' A B h => (by cases h), fun i b E B h => (by cases h), fun c hI => ?_, hH'.gl.mono fun c h => ⟨.inl h, rfl⟩⟩⟩
      · rcases hI with hI | rfl
        · exact hA.imm c hI hlt
        · omega
      · generalize hn : es.length = n at hy
        cases hy with
        | slz hnn =>
          have he' : es' = [] := List.eq_nil_of_length_eq_zero (hl.symm.trans hn)
          subst he'
          exact .fr ⟨_, _, _, rfl⟩ (.roz (fun _ => rfl) (fun _ => rfl) hnn)
        | slm h1 hfull hlc hb2 hsz2 =>
          subst hn
          rw [hφ] at h1
          injection h1 with h1
          injection h1 with h1 _
          subst h1
          rw [hb] at hb2
          injection hb2 with hb2
          injection hb2 with hb2 _ _
          subst hb2
          refine .fr ⟨_, _, _, rfl⟩ ?_
          rw [hl] at hlc hfull ⊢
          refine .ro (fun i j => (cs[i * E + j]?).getD undef) ⟨.inr rfl, hlo, cs, ty, hb⟩ hlc hfull (fun e' he' => ?_) (fun i j e' c' hi hj => ?_) (fun i j e' c' hi hj => ?_)
          · obtain ⟨i, hi⟩ := List.mem_iff_getElem?.1 he'
            have hlt : i < es.length := by rw [hl]; exact (List.getElem?_eq_some_iff.1 hi).1
            rw [← (hes i _ e' (List.getElem?_eq_getElem hlt) hi).1]
            exact hE _ (List.getElem_mem hlt)
          · have hlt : i < es.length := by rw [hl]; exact (List.getElem?_eq_some_iff.1 hi).1
            obtain ⟨hcl, _⟩ := hes i _ e' (List.getElem?_eq_getElem hlt) hi
            have hjl : j < es[i].cells.length := by rw [hcl]; exact (List.getElem?_eq_some_iff.1 hj).1
            obtain ⟨y, hy, _⟩ := hrow i j es[i] _ (List.getElem?_eq_getElem hlt) (List.getElem?_eq_getElem hjl)
            rw [hy, Nat.zero_mul, Nat.zero_add]
            exact cell_of hb hy
          · have hlt : i < es.length := by rw [hl]; exact (List.getElem?_eq_some_iff.1 hi).1
            obtain ⟨hcl, hle⟩ := hes i _ e' (List.getElem?_eq_getElem hlt) hi
            have hjl : j < es[i].cells.length := by rw [hcl]; exact (List.getElem?_eq_some_iff.1 hj).1
            obtain ⟨y, hy, hcy⟩ := hrow i j es[i] _ (List.getElem?_eq_getElem hlt) (List.getElem?_eq_getElem hjl)
            have := hle j _ c' (List.getElem?_eq_getElem hjl) hj w' g' y hcy
            rw [hy]
            exact Cv.new_mono (I := g'.I) (fun c h => .inl h) this
      · rcases hI with hI | rfl
        · exact hH'.lt c hI
        · exact hblt
end Go.Proofs.Ytjnmbmdplchfkaa.Am
