/- The owned machine, part LO: what is known without a word of fresh and old is known under any bound; what was there is told as old. -/
import Derived.Test.YtjnmbmdplchfkaaAmGR
import Derived.Test.YtjnmbmdplchfkaaAmVC
set_option linter.all false
namespace Go.Proofs.Ytjnmbmdplchfkaa.Am
open Go
set_option linter.unusedVariables false
mutual
/-- No word of fresh and old. -/
def AV.bare : AV → Bool
  | .when _ v => v.bare
  | .rp e _ => e.bare
  | .ro _ _ es => AV.bareL es
  | .agg cs | .tup cs | .clo _ cs _ | .yl _ _ _ cs => AV.bareL cs
  | .fr _ => false
  | .unk | .sc _ | .ptr .. | .slm .. | .mp _ => true
def AV.bareL : List AV → Bool
  | [] => true
  | v :: l => v.bare && AV.bareL l
end
theorem bareL_all : ∀ l : List AV, AV.bareL l = l.all AV.bare
  | [] => rfl
  | v :: l => by simp [AV.bareL, bareL_all l]
theorem bare_cells {v : AV} (h : v.bare = true) : ∀ c ∈ v.cells, c.bare = true := by
  cases v with
  | agg cs => simpa [AV.bare, AV.cells, bareL_all] using h
  | unk => intro c hc; simp [AV.cells] at hc
  | when => intro c hc; simp [AV.cells] at hc
  | _ => intro c hc; simp only [AV.cells, List.mem_singleton] at hc; subst hc; exact h
theorem Cv.lo {L1 L2 : Lo} {w : World} {g : Gh} {v : AV} {x : Value} (h : @Cv L1 w g v x) : v.bare = true → @Cv L2 w g v x := by
  induction h with
  | unk v => intro _; exact .unk v
  | when _ ih => intro hs; simp only [AV.bare] at hs; exact .when fun hb => ih hb hs
  | sc v h => intro _; exact .sc v h
  | ptr h => intro _; exact .ptr h
  | rp X h1 h2 h3 ih => intro hs; simp only [AV.bare] at hs; exact .rp X h1 h2 fun j c hj => ih j c hj (bare_cells hs c (List.mem_of_getElem? hj))
  | slz h => intro _; exact .slz h
  | slm h1 h0 h2 h3 h4 => intro _; exact .slm h1 h0 h2 h3 h4
  | roz h1 h2 h3 => intro _; exact .roz h1 h2 h3
  | ro X h1 h2 h3 h4 h5 h6 ih =>
    intro hs
    simp only [AV.bare, bareL_all] at hs
    exact .ro X h1 h2 h3 h4 h5 fun i j e c hi hj => ih i j e c hi hj (bare_cells (List.all_eq_true.1 hs e (List.mem_of_getElem? hi)) c (List.mem_of_getElem? hj))
  | agg h _ ih => intro hs; simp only [AV.bare, bareL_all] at hs; exact .agg h fun i c y hi hy => ih i c y hi hy (List.all_eq_true.1 hs c (List.mem_of_getElem? hi))
  | tup h _ ih => intro hs; simp only [AV.bare, bareL_all] at hs; exact .tup h fun i c y hi hy => ih i c y hi hy (List.all_eq_true.1 hs c (List.mem_of_getElem? hi))
  | clo hk h _ ih => intro hs; simp only [AV.bare, bareL_all] at hs; exact .clo hk h fun i c y hi hy => ih i c y hi hy (List.all_eq_true.1 hs c (List.mem_of_getElem? hi))
  | mp h => intro _; exact .mp h
  | yl h1 h2 h3 _ ih => intro hs; simp only [AV.bare, bareL_all] at hs; exact .yl h1 h2 h3 fun i k c hi hc => ih i k c hi hc (List.all_eq_true.1 hs c (List.mem_of_getElem? hc))
  | fr _ _ _ => intro hs; cases hs
  | old _ _ _ => intro hs; cases hs
/-- A function's contract without a word of fresh and old holds under any bound. -/
theorem AFun.lo {L0 L : Lo} (h0 : L0.lo = 0) {P : Program} {f : FuncId} {p : Nat} {vs : List AV} {v : AV} (h : @AFun L0 P f p vs [] v []) (hvs : AV.bareL vs = true) (hv : v.bare = true) : @AFun L P f p vs [] v [] := fun w g xs hl hx hH hN => by
  have hH0 : @HRel L0 w g [] := @HRel.mk L0 w g [] (fun id B h => (by cases h)) (fun i j b E E' A B h => (by cases h)) (fun i b E B h => (by cases h)) (@HRel.lt L w g [] hH) ⟨(@HRel.gl L w g [] hH).1, by rw [h0]; exact Nat.zero_le _⟩
  refine (h w g xs hl (fun i u x hu hxi => Cv.lo (hx i u x hu hxi) ?_) hH0 hN).mono fun e w' ⟨x, g', he, hA, hc, hH'⟩ => ?_
  · rw [bareL_all] at hvs
    exact List.all_eq_true.1 hvs u (List.mem_of_getElem? hu)
  · refine ⟨x, g', he, hA, hc.lo hv, ?_⟩
    exact @HRel.mk L w' g' [] (fun id B h => (by cases h)) (fun i j b E E' A B h => (by cases h)) (fun i b E B h => (by cases h)) (@HRel.lt L0 w' g' [] hH') ⟨(@HRel.gl L0 w' g' [] hH').1, Nat.le_trans (@HRel.gl L w g [] hH).2 hA.ext.size⟩
/-- A cell that was there, told as old. -/
def OldLe (c c' : AV) : Prop := (c' = c ∧ c.bare = true) ∨ ∃ fl E es, c = .ro fl E es ∧ c' = AV.old (.ro fl E es) ∧ AV.bareL es = true
theorem Cv.toOld {L0 L : Lo} {w : World} {g : Gh} {c c' : AV} {x : Value} (h : @Cv L0 w g c x) (hle : OldLe c c') (hI : ∀ b, g.I b → b < L.lo) : @Cv L w g c' x := by
  rcases hle with ⟨rfl, hb⟩ | ⟨fl, E, es, rfl, rfl, hb⟩
  · exact h.lo hb
  · have h1 : @Cv L w g (.ro fl E es) x := h.lo hb
    have h2 : @Cv L w ⟨fun _ => none, oldI g.I⟩ (.ro fl E es) x := by
      cases h1 with
      | roz a b c => exact .roz a b c
      | ro X a b c d e f =>
        refine .ro X ⟨a, hI _ a⟩ b c d e fun i j e' c' hi hj => ?_
        exact (f i j e' c' hi hj).I_mono (g := g.base) (g' := Gh.base ⟨fun _ => none, oldI g.I⟩) (fun b hb => ⟨hb, hI b hb⟩) (fun _ _ h => by cases h)
    have hx : ∃ a n k, x = .slice a n k := by
      cases h1 with
      | roz => exact ⟨_, _, _, rfl⟩
      | ro => exact ⟨_, _, _, rfl⟩
    exact .old hx h2
/-- Rows the cells of which are told as old. -/
inductive OldH : AH → AH → Prop
  | nil : OldH [] []
  | cons {i E : Nat} {ty : TypeId} {es es' : List AV} {H H' : AH} (hl : es.length = es'.length) (h : ∀ (k : Nat) (e e' : AV), es[k]? = some e → es'[k]? = some e' → e.cells.length = e'.cells.length ∧ ∀ (j : Nat) (c c' : AV), e.cells[j]? = some c → e'.cells[j]? = some c' → OldLe c c') (r : OldH H H') : OldH ((i, .row E ty es) :: H) ((i, .row E ty es') :: H')
theorem OldH.get {H H' : AH} (h : OldH H H') : ∀ id B', H'.get id = some B' → ∃ E ty es es', B' = .row E ty es' ∧ H.get id = some (.row E ty es) ∧ es.length = es'.length ∧ ∀ (k : Nat) (e e' : AV), es[k]? = some e → es'[k]? = some e' → e.cells.length = e'.cells.length ∧ ∀ (j : Nat) (c c' : AV), e.cells[j]? = some c → e'.cells[j]? = some c' → OldLe c c' := by
  induction h with
  | nil => intro id B' h; cases h
  | cons hl h r ih =>
    intro id B' hB
    simp only [AH.get] at hB ⊢
    split at hB
    · rename_i hif
      injection hB with hB; subst hB; rw [if_pos hif]; exact ⟨_, _, _, _, rfl, rfl, hl, h⟩
    · rename_i hif
      rw [if_neg hif]; exact ih id B' hB
theorem SRel.toOld {L0 L : Lo} {w : World} {g : Gh} {n nx : Nat} {fr fr' : Fr} {H H' : AH} {a : Act} (h : @SRel L0 w g n ⟨fr, H, nx⟩ a) (hfr : ∀ t, fget fr' t = .unk ∨ OldLe (fget fr t) (fget fr' t)) (hH : OldH H H') (hlo : L.lo = w.heap.size) : @SRel L w g n ⟨fr', H', nx⟩ a := by
  have hI : ∀ b, g.I b → b < L.lo := fun b hb => by rw [hlo]; exact @HRel.lt L0 w g H (@SRel.H L0 w g n _ a h) b hb
  have h0 := @SRel.H L0 w g n _ a h
  have f0 := @SRel.fr L0 w g n _ a h
  refine @SRel.mk L w g n _ a ⟨@FRel.size L0 w g n fr a f0, fun t => ?_⟩ (@HRel.mk L w g H' (fun id B' hB => ?_) (fun i j b E E' A B hi hj k1 k2 => ?_) (fun i b E B hi k1 => ?_) (@HRel.lt L0 w g H h0) ⟨(@HRel.gl L0 w g H h0).1, by rw [hlo]; exact Nat.le_refl _⟩) (@SRel.nx L0 w g n ⟨fr, H, nx⟩ a h)
  · rcases hfr t with e | hle
    · rw [e]; exact .unk _
    · exact (@FRel.at_ L0 w g n fr a f0 t).toOld hle hI
  · obtain ⟨E, ty, es, es', rfl, hg, hl, hc⟩ := hH.get id B' hB
    obtain ⟨hE, hr⟩ := @HRel.rel L0 w g H h0 id _ hg
    refine ⟨fun e' he' => ?_, ?_⟩
    · obtain ⟨k, hk⟩ := List.mem_iff_getElem?.1 he'
      have hlt : k < es.length := by rw [hl]; exact (List.getElem?_eq_some_iff.1 hk).1
      rw [← (hc k _ e' (List.getElem?_eq_getElem hlt) hk).1]
      exact hE _ (List.getElem_mem hlt)
    · rcases hr with ⟨h1, h2⟩ | ⟨b, cs, h1, h2, h3, h4⟩
      · refine .inl ⟨h1, List.eq_nil_of_length_eq_zero (by rw [← hl, h2]; rfl)⟩
      · refine .inr ⟨b, cs, h1, h2, by rw [← hl]; exact h3, fun i j e' c' hi hj => ?_⟩
        have hlt : i < es.length := by rw [hl]; exact (List.getElem?_eq_some_iff.1 hi).1
        obtain ⟨hcl, hle⟩ := hc i _ e' (List.getElem?_eq_getElem hlt) hi
        have hjl : j < es[i].cells.length := by rw [hcl]; exact (List.getElem?_eq_some_iff.1 hj).1
        obtain ⟨x, hx, hcv⟩ := h4 i j es[i] _ (List.getElem?_eq_getElem hlt) (List.getElem?_eq_getElem hjl)
        exact ⟨x, hx, hcv.toOld (hle j _ c' (List.getElem?_eq_getElem hjl) hj) hI⟩
  · obtain ⟨_, _, _, _, _, h1, _⟩ := hH.get i A hi
    obtain ⟨_, _, _, _, _, h2, _⟩ := hH.get j B hj
    exact @HRel.apart L0 w g H h0 i j b E E' _ _ h1 h2 k1 k2
  · obtain ⟨_, _, _, _, _, h1, _⟩ := hH.get i B hi
    exact @HRel.imm L0 w g H h0 i b E _ h1 k1
section
variable [Lo]
theorem CLe.old (fl : Fl) (E : Nat) (es : List AV) : CLe (.old (.ro fl E es)) (.ro fl E es) := fun w g x h => by
  cases h with
  | old hx h => exact Cv.I_mono (g := ⟨fun _ => none, oldI g.I⟩) (g' := g) (fun b hb => hb.1) (fun _ _ h => by cases h) h
  | fr hx h =>
    obtain ⟨_, _, _, rfl⟩ := hx
    cases h
/-- What is known of a cell behind a change: names and numbers as they were, what is old as such, the rest by its value. -/
inductive ToLe : AV → AV → Value → Prop
  | plain {c : AV} {x : Value} (h : c.plain = true) : ToLe c c x
  | slm {fl : Fl} {id E off len : Nat} {x : Value} : ToLe (.slm fl id E off len) (.slm fl id E off len) x
  | ptr {id E i o : Nat} {x : Value} : ToLe (.ptr id E i o) (.ptr id E i o) x
  | old {fl : Fl} {E : Nat} {es : List AV} {x : Value} : ToLe (.old (.ro fl E es)) (.ro fl E es) x
  | ex {v : AV} {x : Value} : ToLe (.fr v) (.sc x) x
  | unk {c : AV} {x : Value} : ToLe c .unk x
def Gh.olds (g : Gh) : Gh := ⟨g.φ, oldI g.I⟩
theorem ToLe.cv {c c' : AV} {x : Value} {w : World} {g : Gh} (t : ToLe c c' x) (h : Cv w g c x) : Cv w g.olds c' x := by
  cases t with
  | plain hp => exact h.plain hp
  | slm =>
    cases h with
    | slz h => exact .slz h
    | slm h1 h2 h3 h4 h5 => exact .slm h1 h2 h3 h4 h5
  | ptr =>
    cases h with
    | ptr h1 => exact .ptr h1
  | old =>
    cases h with
    | old hx h => exact Cv.I_mono (g := ⟨fun _ => none, oldI g.I⟩) (g' := g.olds) (fun b hb => hb) (fun _ _ h => by cases h) h
    | fr hx h =>
      obtain ⟨_, _, _, rfl⟩ := hx
      cases h
  | ex =>
    cases h with
    | fr hx h => obtain ⟨_, _, _, rfl⟩ := hx; exact .sc _ rfl
    | old hx h => obtain ⟨_, _, _, rfl⟩ := hx; exact .sc _ rfl
  | unk => exact .unk _
theorem Blk.Rel.toX {w : World} {g : Gh} {id E : Nat} {ty : TypeId} {es es' : List AV} (h : Blk.Rel w g id (.row E ty es)) (hl : es.length = es'.length) (hE : ∀ e', e' ∈ es' → e'.cells.length = E)
    (k : ∀ (i j : Nat) (e e' c' : AV), es[i]? = some e → es'[i]? = some e' → e'.cells[j]? = some c' → ∃ c, e.cells[j]? = some c ∧ ∀ b (cs : Array Value) (x : Value), g.φ id = some (b, E) → w.heap[b]? = some (.cells cs ty (0, 0)) → cs[i * E + j]? = some x → Cv w g c x → ToLe c c' x) : Blk.Rel w g.olds id (.row E ty es') := by
  obtain ⟨h0, hr⟩ := h
  refine ⟨hE, ?_⟩
  rcases hr with ⟨h1, h2⟩ | ⟨b, cs, h1, h2, h3, h4⟩
  · exact .inl ⟨h1, List.eq_nil_of_length_eq_zero (by rw [← hl, h2]; rfl)⟩
  · refine .inr ⟨b, cs, h1, h2, by rw [← hl]; exact h3, fun i j e' c' hi hj => ?_⟩
    have hlt : i < es.length := by rw [hl]; exact (List.getElem?_eq_some_iff.1 hi).1
    obtain ⟨c, hc, ht⟩ := k i j _ e' c' (List.getElem?_eq_getElem hlt) hi hj
    obtain ⟨x, hx, hcv⟩ := h4 i j _ c (List.getElem?_eq_getElem hlt) hc
    exact ⟨x, hx, (ht b cs x h1 h2 hx hcv).cv hcv⟩
/-- Code ahead of other code. -/
theorem wp_pre {P : Program} {n : Nat} {x y : Code} {s s1 : AS} {r : Option Nat} {B : Nat} {w : World} {g : Gh} {a : Act} {Q : Exit → Act → World → Prop} (hx : VS P 0 n x s fun e t => e = .normal ∧ SW 0 n t s1) (hr : hasRF (.seq x y) = true → r = none) (hs : SRel w g n s a) (hB : B ≤ w.heap.size) (hD : DefOk B w g a.defers)
    (k : ∀ a' w' g', AdvP 0 w g s.H w' g' s1.H → SRel w' g' n s1 a' → B ≤ w'.heap.size → DefOk B w' g' a'.defers → y.wpIn (FR r) 0 P Q a' w') : (Code.seq x y).wpIn (FR r) 0 P Q a w := by
  obtain ⟨e, s', hA, he, hw⟩ := hx
  subst he
  refine wpIn_seq (hA r B w g a _ (hasRF_l hr) hs hB hD fun a' w' g' hAd hS hD' => ?_)
  obtain ⟨g2, h1, h2⟩ := hw w' g' a' hS
  exact k a' w' g2 (hAd.trans h1) h2 (Nat.le_trans hB (hAd.trans h1).ext.size) (hD'.adv h1 hS.H)
end
/-- A law walked in phases, with bounds of their own: it returns true, and nothing that was there changes. -/
theorem calls_of_wp {L0 : Lo} {P : Program} {T : TT} (hT : T.Ok P) {f : FuncId} {fn : Func} {c : Code} {vs : List AV} {w : World} {g : Gh} {xs : Array Value} (hf : P.funcs[f]? = some fn) (hb : fn.body = some c) (hn : vs.length ≤ fn.ntmps)
    (hl : vs.length = xs.size) (hxs : ∀ (i : Nat) (v : AV) (x : Value), vs[i]? = some v → xs[i]? = some x → @Cv L0 w g v x) (hH0 : @HRel L0 w g []) (hN : Fresh g 0)
    (h : ∀ (Q : Exit → Act → World → Prop), (∀ (L : Lo) e s' a' w' g', (e = .ret ∨ e = .normal) → @SRel L w' g' fn.ntmps s' a' → resAll T s' fn.results.toList = some (true, [.sc (.bool true)]) → @DefOk w.heap.size w' g' a'.defers → Go.RowKit.Below w.heap.size w w' → Q e a' w') →
      ∀ a0, @SRel L0 w g fn.ntmps ⟨argFr vs 0, [], 0⟩ a0 → a0.defers = [] → c.wpIn (FR none) 0 P Q a0 w) :
    Calls P f xs w fun e w' => e = .returned (.bool true) ∧ Go.RowKit.Below w.heap.size w w' := by
  refine callsIn_wide.1 (callsIn_of_wp_marks (n := 0) hf hb trivial (h _ (fun L e s' a' w' g' he hSr hr hD hBel => ?_) _ ⟨⟨by simp; omega, fun t => ?_⟩, hH0, hN⟩ rfl))
  · obtain ⟨Ds, d1, d2, d3⟩ := hD
    obtain ⟨ht, hto⟩ := shut_turn (g := g') Ds w' d2 fun D hD => (d3 D hD).2
    have hS2 := ht.srel hSr
    obtain ⟨x, hx, hc⟩ := results_run (P := P) hT hS2 hr
    have hx1 : x = .bool true := hc.sc_inv
    have hold : ∀ b, b < w.heap.size → (shut Ds w').heap[b]? = w'.heap[b]? := fun b hb => hto b fun hm => by have := (d3 b hm).1; omega
    have hch : Go.RowKit.Below w.heap.size w (shut Ds w') := ⟨ht.os.trans hBel.os, ht.tape.trans hBel.tape, ht.output.trans hBel.output, by rw [ht.size]; exact hBel.size, fun b hb => (hold b hb).trans (hBel.block b hb)⟩
    have fin : LeavesInM Fence.wide 0 P fn a'.tmps (fun e w' => e = .returned (.bool true) ∧ Go.RowKit.Below w.heap.size w w') a'.defers .returning w' := by
      rw [d1]
      exact leaves_marks Ds w' d2 (fun D hD => (d3 D hD).2.1) ⟨x, hx, by rw [hx1], hch⟩
    rcases he with rfl | rfl
    · exact fin
    · exact fin
  · rw [argFr_get]
    split
    · rename_i ht
      simp only [Nat.sub_zero]
      have ht' : t < vs.length := by omega
      rw [List.getD_eq_getElem?_getD, List.getElem?_eq_getElem ht', Array.getD_eq_getD_getElem?, Array.getElem?_append_left (by omega), Array.getElem?_eq_getElem (by omega)]
      exact hxs t _ _ (List.getElem?_eq_getElem ht') (Array.getElem?_eq_getElem (by omega))
    · exact .unk _
end Go.Proofs.Ytjnmbmdplchfkaa.Am
