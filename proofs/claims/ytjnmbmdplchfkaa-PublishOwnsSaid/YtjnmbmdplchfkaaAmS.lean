/- The owned machine, part S: a function's contract, used where other blocks are owned beside it, under other names. -/
import Derived.Test.YtjnmbmdplchfkaaAmQ
set_option linter.all false
namespace Go.Proofs.Ytjnmbmdplchfkaa.Am
variable [Lo]
set_option linter.unusedVariables false

mutual
def AV.ren (ρ : Nat → Nat) : AV → AV
  | .when b v => .when b (v.ren ρ)
  | .ptr id E idx off => .ptr (ρ id) E idx off
  | .slm full id E off len => .slm full (ρ id) E off len
  | .agg cs => .agg (AV.renL ρ cs)
  | .tup cs => .tup (AV.renL ρ cs)
  | .clo f cs k => .clo f (AV.renL ρ cs) k
  | .mp id => .mp (ρ id)
  | .yl l r ks cs => .yl l r ks (AV.renL ρ cs)
  | .unk => .unk
  | .sc v => .sc v
  | .rp e off => .rp e off
  | .ro full E es => .ro full E es
  | .fr v => .fr v
def AV.renL (ρ : Nat → Nat) : List AV → List AV
  | [] => []
  | v :: vs => v.ren ρ :: AV.renL ρ vs
end
mutual
/-- Every name in the value is one of these. -/
def AV.names (ok : Nat → Bool) : AV → Bool
  | .when b v => v.names ok
  | .ptr id _ _ _ | .slm _ id _ _ _ | .mp id => ok id
  | .agg cs | .tup cs | .clo _ cs _ | .yl _ _ _ cs => AV.namesL ok cs
  | .unk | .sc _ | .rp .. | .ro .. | .fr _ => true
def AV.namesL (ok : Nat → Bool) : List AV → Bool
  | [] => true
  | v :: vs => v.names ok && AV.namesL ok vs
end
theorem renL_map (ρ : Nat → Nat) : ∀ l : List AV, AV.renL ρ l = l.map (AV.ren ρ)
  | [] => rfl
  | v :: l => by simp [AV.renL, renL_map ρ l]
theorem namesL_all (ok : Nat → Bool) : ∀ l : List AV, AV.namesL ok l = l.all (AV.names ok)
  | [] => rfl
  | v :: l => by simp [AV.namesL, namesL_all ok l]
theorem ren_cells (ρ : Nat → Nat) (v : AV) : (v.ren ρ).cells = v.cells.map (AV.ren ρ) := by
  cases v <;> simp [AV.ren, AV.cells, renL_map]

theorem Cv.I_mono {w : World} {g g' : Gh} {v : AV} {x : Value} (hI : ∀ b, g.I b → g'.I b) (hφ : ∀ id q, g.φ id = some q → g'.φ id = some q) (h : Cv w g v x) : Cv w g' v x :=
  h.mono ⟨hφ, fun b h => ⟨hI b h, rfl⟩, fun _ cs _ _ h => ⟨cs, h, rfl⟩⟩
theorem Cv.ren {w : World} {g g' : Gh} {ρ : Nat → Nat} {v : AV} {x : Value} (hI : ∀ b, g.I b → g'.I b) (hφ : ∀ id q, g.φ id = some q → g'.φ (ρ id) = some q) (h : Cv w g v x) : Cv w g' (v.ren ρ) x := by
  have base : ∀ {c : AV} {y : Value}, Cv w g.base c y → Cv w g'.base c y := fun h => h.I_mono (g := g.base) (g' := g'.base) hI (fun _ _ h => by cases h)
  induction h with
  | unk v => exact .unk v
  | when _ ih => exact .when fun hb => ih hb hI hφ base
  | sc v h => exact .sc v h
  | ptr h => exact .ptr (hφ _ _ h)
  | rp X h1 h2 h3 _ => exact .rp X (hI _ h1) h2 fun j c hj => base (h3 j c hj)
  | slz h => exact .slz h
  | slm h1 h0 h2 h3 h4 => exact .slm (hφ _ _ h1) h0 h2 h3 h4
  | roz h1 h2 h3 => exact .roz h1 h2 h3
  | ro X h1 h2 h3 h4 h5 h6 _ => exact .ro X (hI _ h1) h2 h3 h4 h5 fun i j e c hi hj => base (h6 i j e c hi hj)
  | agg h _ ih =>
    simp only [AV.ren, renL_map]
    refine .agg (by simpa using h) fun i c x hi hx => ?_
    rw [List.getElem?_map] at hi
    obtain ⟨d, hd, rfl⟩ := Option.map_eq_some_iff.1 hi
    exact ih i d x hd hx hI hφ base
  | tup h _ ih =>
    simp only [AV.ren, renL_map]
    refine .tup (by simpa using h) fun i c x hi hx => ?_
    rw [List.getElem?_map] at hi
    obtain ⟨d, hd, rfl⟩ := Option.map_eq_some_iff.1 hi
    exact ih i d x hd hx hI hφ base
  | clo hk h _ ih =>
    simp only [AV.ren, renL_map]
    refine .clo hk (by simpa using h) fun i c x hi hx => ?_
    rw [List.getElem?_map] at hi
    obtain ⟨d, hd, rfl⟩ := Option.map_eq_some_iff.1 hi
    exact ih i d x hd hx hI hφ base
  | mp h => exact .mp (hφ _ _ h)
  | fr hx h _ => exact .fr hx (h.new_mono hI)
  | old hx h _ => exact .old hx (h.old_mono hI)
  | yl h1 h2 h3 _ ih =>
    simp only [AV.ren, renL_map]
    refine .yl (hI _ h1) h2 (by simpa using h3) fun i k c hi hc => ?_
    rw [List.getElem?_map] at hc
    obtain ⟨d, hd, rfl⟩ := Option.map_eq_some_iff.1 hc
    exact ih i k d hi hd hI hφ base

theorem Cv.unren {w : World} {g : Gh} {ρ : Nat → Nat} {u : AV} {x : Value} (h : Cv w g u x) : ∀ {g' : Gh} {ok : Nat → Bool} {v : AV}, (∀ b, g.I b → g'.I b) → (∀ id q, ok id = true → g.φ (ρ id) = some q → g'.φ id = some q) → v.names ok = true → v.ren ρ = u → Cv w g' v x := by
  have base : ∀ {g g' : Gh} {c : AV} {y : Value}, (∀ b, g.I b → g'.I b) → Cv w g.base c y → Cv w g'.base c y := fun {g g'} {c y} hI h => h.I_mono (g := g.base) (g' := g'.base) hI (fun _ _ h => by cases h)
  have list : ∀ {g g' : Gh} {ok : Nat → Bool} {cs l : List AV} {xs : Array Value}, AV.namesL ok l = true → AV.renL ρ l = cs → cs.length = xs.size → (∀ (i : Nat) (c : AV) (x : Value), cs[i]? = some c → xs[i]? = some x → ∀ {v : AV}, v.names ok = true → v.ren ρ = c → Cv w g' v x) →
      l.length = xs.size ∧ ∀ (i : Nat) (c : AV) (x : Value), l[i]? = some c → xs[i]? = some x → Cv w g' c x := by
    intro g g' ok cs l xs hn hr hl ih
    rw [renL_map] at hr
    subst hr
    refine ⟨by simpa using hl, fun i c x hi hx => ih i _ x (by rw [List.getElem?_map, hi]; rfl) hx ?_ rfl⟩
    rw [namesL_all] at hn
    exact List.all_eq_true.1 hn c (List.mem_of_getElem? hi)
  induction h with
  | unk x => intro g' ok v hI hφ hn hv; cases v <;> simp [AV.ren] at hv; exact .unk _
  | when _ ih =>
    intro g' ok v hI hφ hn hv
    cases v <;> simp [AV.ren] at hv
    obtain ⟨rfl, hv⟩ := hv
    exact .when fun hb => ih hb hI hφ hn hv
  | sc x hx => intro g' ok v hI hφ hn hv; cases v <;> simp [AV.ren] at hv; subst hv; exact .sc _ hx
  | ptr h =>
    intro g' ok v hI hφ hn hv
    cases v <;> simp [AV.ren] at hv
    obtain ⟨rfl, rfl, rfl, rfl⟩ := hv
    exact .ptr (hφ _ _ hn h)
  | rp X h1 h2 h3 _ =>
    intro g' ok v hI hφ hn hv
    cases v <;> simp [AV.ren] at hv
    obtain ⟨rfl, rfl⟩ := hv
    exact .rp X (hI _ h1) h2 fun j c hj => base hI (h3 j c hj)
  | slz h =>
    intro g' ok v hI hφ hn hv
    cases v <;> simp [AV.ren] at hv
    obtain ⟨rfl, rfl, rfl, rfl, rfl⟩ := hv
    exact .slz h
  | slm h1 h0 h2 h3 h4 =>
    intro g' ok v hI hφ hn hv
    cases v <;> simp [AV.ren] at hv
    obtain ⟨rfl, rfl, rfl, rfl, rfl⟩ := hv
    exact .slm (hφ _ _ hn h1) h0 h2 h3 h4
  | roz h1 h2 h3 =>
    intro g' ok v hI hφ hn hv
    cases v <;> simp [AV.ren] at hv
    obtain ⟨rfl, rfl, rfl⟩ := hv
    exact .roz h1 h2 h3
  | ro X h1 h2 h3 h4 h5 h6 _ =>
    intro g' ok v hI hφ hn hv
    cases v <;> simp [AV.ren] at hv
    obtain ⟨rfl, rfl, rfl⟩ := hv
    exact .ro X (hI _ h1) h2 h3 h4 h5 fun i j e c hi hj => base hI (h6 i j e c hi hj)
  | @agg g cs xs h hc ih =>
    intro g' ok v hI hφ hn hv
    cases v <;> simp [AV.ren] at hv
    obtain ⟨h1, h2⟩ := list (g := g) (g' := g') hn hv h fun i c x hi hx {u} hu hr => ih i c x hi hx hI hφ hu hr
    exact .agg h1 h2
  | @tup g cs xs h hc ih =>
    intro g' ok v hI hφ hn hv
    cases v <;> simp [AV.ren] at hv
    obtain ⟨h1, h2⟩ := list (g := g) (g' := g') hn hv h fun i c x hi hx {u} hu hr => ih i c x hi hx hI hφ hu hr
    exact .tup h1 h2
  | @clo g f k cs fs xs hk h hc ih =>
    intro g' ok v hI hφ hn hv
    cases v <;> simp [AV.ren] at hv
    obtain ⟨rfl, hv, rfl⟩ := hv
    obtain ⟨h1, h2⟩ := list (g := g) (g' := g') hn hv h fun i c x hi hx {u} hu hr => ih i c x hi hx hI hφ hu hr
    exact .clo hk h1 h2
  | mp h =>
    intro g' ok v hI hφ hn hv
    cases v <;> simp [AV.ren] at hv
    subst hv
    exact .mp (hφ _ _ hn h)
  | @yl g l r ks cs h1 h2 h3 hc ih =>
    intro g' ok v hI hφ hn hv
    cases v with
    | yl l' r' ks' cs' =>
      simp only [AV.ren, AV.yl.injEq] at hv
      obtain ⟨rfl, rfl, rfl, hv⟩ := hv
      rw [renL_map] at hv
      subst hv
      refine .yl (hI _ h1) h2 (by simpa using h3) fun i k c hi hc' => ih i k _ hi (by rw [List.getElem?_map, hc']; rfl) hI hφ ?_ rfl
      simp only [AV.names, namesL_all] at hn
      exact List.all_eq_true.1 hn c (List.mem_of_getElem? hc')
    | _ => simp [AV.ren] at hv
  | fr hx h _ =>
    intro g' ok v hI hφ hn hv
    cases v with
    | fr v' =>
      simp only [AV.ren, AV.fr.injEq] at hv
      subst hv
      exact .fr hx (h.new_mono hI)
    | _ => simp [AV.ren] at hv
  | old hx h _ =>
    intro g' ok v hI hφ hn hv
    cases v with
    | fr v' =>
      simp only [AV.ren, AV.fr.injEq] at hv
      subst hv
      exact .old hx (h.old_mono hI)
    | _ => simp [AV.ren] at hv

def Blk.ren (ρ : Nat → Nat) : Blk → Blk
  | .row E ty es => .row E ty (AV.renL ρ es)
  | .map ck kv => .map ck (kv.map fun x => (x.1, x.2.ren ρ))
def Blk.names (ok : Nat → Bool) : Blk → Bool
  | .row _ _ es => AV.namesL ok es
  | .map _ kv => kv.all fun x => x.2.names ok
theorem names_cells {ok : Nat → Bool} {v : AV} (h : v.names ok = true) : ∀ c ∈ v.cells, c.names ok = true := by
  intro c hc
  cases v <;> simp [AV.cells] at hc
  case agg cs => simp only [AV.names, namesL_all] at h; exact List.all_eq_true.1 h c hc
  all_goals (subst hc; exact h)
theorem Blk.Rel.ren {w : World} {g g' : Gh} {ρ : Nat → Nat} {id : Nat} {B : Blk} (hI : ∀ b, g.I b → g'.I b) (hφ : ∀ id q, g.φ id = some q → g'.φ (ρ id) = some q) (hid : g.φ id = none → g'.φ (ρ id) = none) (h : B.Rel w g id) : (B.ren ρ).Rel w g' (ρ id) := by
  cases B with
  | row E ty es =>
    obtain ⟨h0, h⟩ := h
    have len : ∀ e, e ∈ AV.renL ρ es → e.cells.length = E := by
      intro e he
      rw [renL_map] at he
      obtain ⟨u, hu, rfl⟩ := List.mem_map.1 he
      rw [ren_cells, List.length_map]; exact h0 u hu
    refine ⟨len, ?_⟩
    rcases h with ⟨h1, rfl⟩ | ⟨b, cs, h1, h2, h3, h4⟩
    · exact .inl ⟨hid h1, rfl⟩
    · refine .inr ⟨b, cs, hφ _ _ h1, h2, by rw [renL_map]; simpa using h3, fun i j e c hi hj => ?_⟩
      rw [renL_map, List.getElem?_map] at hi
      obtain ⟨u, hu, rfl⟩ := Option.map_eq_some_iff.1 hi
      rw [ren_cells, List.getElem?_map] at hj
      obtain ⟨d, hd, rfl⟩ := Option.map_eq_some_iff.1 hj
      obtain ⟨x, hx, hc⟩ := h4 i j u d hu hd
      exact ⟨x, hx, hc.ren hI hφ⟩
  | map ck kv =>
    obtain ⟨b, en, h1, h2, h3, h4, h5, h6, h7⟩ := h
    refine ⟨b, en, hφ _ _ h1, h2, by simpa using h3, fun i k v e hi he => ?_, h5, h6, by simpa [Function.comp_def] using h7⟩
    rw [List.getElem?_map] at hi
    obtain ⟨u, hu, he2⟩ := Option.map_eq_some_iff.1 hi
    injection he2 with a c
    subst a c
    obtain ⟨hk, hv⟩ := h4 i u.1 u.2 e hu he
    exact ⟨hk, hv.ren hI hφ⟩
theorem Blk.Rel.unren {w : World} {g g' : Gh} {ρ : Nat → Nat} {ok : Nat → Bool} {id : Nat} {B : Blk} (hI : ∀ b, g.I b → g'.I b) (hφ : ∀ id q, ok id = true → g.φ (ρ id) = some q → g'.φ id = some q) (hok : ok id = true) (hid : g.φ (ρ id) = none → g'.φ id = none) (hn : B.names ok = true) (h : (B.ren ρ).Rel w g (ρ id)) : B.Rel w g' id := by
  cases B with
  | row E ty es =>
    obtain ⟨h0, h⟩ := h
    rw [renL_map] at h0 h
    simp only [Blk.names, namesL_all] at hn
    have len : ∀ e, e ∈ es → e.cells.length = E := by
      intro e he
      have := h0 (e.ren ρ) (List.mem_map_of_mem he)
      rwa [ren_cells, List.length_map] at this
    refine ⟨len, ?_⟩
    rcases h with ⟨h1, h2⟩ | ⟨b, cs, h1, h2, h3, h4⟩
    · exact .inl ⟨hid h1, by simpa using h2⟩
    · refine .inr ⟨b, cs, hφ _ _ hok h1, h2, by simpa using h3, fun i j e c hi hj => ?_⟩
      obtain ⟨x, hx, hc⟩ := h4 i j (e.ren ρ) (c.ren ρ) (by rw [List.getElem?_map, hi]; rfl) (by rw [ren_cells, List.getElem?_map, hj]; rfl)
      refine ⟨x, hx, hc.unren hI hφ ?_ rfl⟩
      exact names_cells (List.all_eq_true.1 hn e (List.mem_of_getElem? hi)) c (List.mem_of_getElem? hj)
  | map ck kv =>
    obtain ⟨b, en, h1, h2, h3, h4, h5, h6, h7⟩ := h
    simp only [Blk.names] at hn
    refine ⟨b, en, hφ _ _ hok h1, h2, by simpa using h3, fun i k v e hi he => ?_, h5, h6, by simpa [Function.comp_def] using h7⟩
    obtain ⟨hk, hv⟩ := h4 i k (v.ren ρ) e (by rw [List.getElem?_map, hi]; rfl) he
    exact ⟨hk, hv.unren hI hφ (List.all_eq_true.1 hn _ (List.mem_of_getElem? hi)) rfl⟩
end Go.Proofs.Ytjnmbmdplchfkaa.Am
