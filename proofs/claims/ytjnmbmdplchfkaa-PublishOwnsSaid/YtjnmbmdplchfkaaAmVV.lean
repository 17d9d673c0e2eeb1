/- The owned machine, part VV: calls, in the forms that a walk wants. -/
import Derived.Test.YtjnmbmdplchfkaaAmU
set_option linter.all false
namespace Go.Proofs.Ytjnmbmdplchfkaa.Am
variable [Lo]
set_option linter.unusedVariables false

theorem ren_none {ρ : Nat → Nat} : ∀ (v : AV), v.names (fun _ => false) = true → v.ren ρ = v := fun v =>
  AV.rec (motive_1 := fun v => v.names (fun _ => false) = true → v.ren ρ = v) (motive_2 := fun l => AV.namesL (fun _ => false) l = true → AV.renL ρ l = l)
    (fun _ => rfl) (fun b v h hn => by simp only [AV.names] at hn; simp [AV.ren, h hn]) (fun v _ => rfl) (fun id E i o hn => by simp [AV.names] at hn) (fun _ _ _ _ => rfl) (fun f id E o l hn => by simp [AV.names] at hn) (fun _ _ _ _ _ => rfl)
    (fun cs h hn => by simp only [AV.names] at hn; simp [AV.ren, h hn]) (fun cs h hn => by simp only [AV.names] at hn; simp [AV.ren, h hn]) (fun f cs k h hn => by simp only [AV.names] at hn; simp [AV.ren, h hn]) (fun id hn => by simp [AV.names] at hn)
    (fun _ _ _ cs h hn => by simp only [AV.names] at hn; simp [AV.ren, h hn]) (fun _ _ _ => rfl) (fun _ => rfl) (fun v l h1 h2 hn => by simp only [AV.namesL, Bool.and_eq_true] at hn; simp [AV.renL, h1 hn.1, h2 hn.2]) v
theorem renL_none {ρ : Nat → Nat} {l : List AV} (h : AV.namesL (fun _ => false) l = true) : AV.renL ρ l = l := by
  rw [renL_map]
  rw [namesL_all] at h
  exact (List.map_congr_left fun a ha => ren_none a (List.all_eq_true.1 h a ha)).trans (List.map_id' l)
theorem names_mono {ok ok' : Nat → Bool} (hm : ∀ i, ok i = true → ok' i = true) : ∀ (v : AV), v.names ok = true → v.names ok' = true := fun v =>
  AV.rec (motive_1 := fun v => v.names ok = true → v.names ok' = true) (motive_2 := fun l => AV.namesL ok l = true → AV.namesL ok' l = true)
    (fun _ => rfl) (fun b v h hn => by simp only [AV.names] at hn ⊢; exact h hn) (fun v _ => rfl) (fun id E i o hn => by simp only [AV.names] at hn ⊢; exact hm _ hn) (fun _ _ _ _ => rfl) (fun f id E o l hn => by simp only [AV.names] at hn ⊢; exact hm _ hn) (fun _ _ _ _ _ => rfl)
    (fun cs h hn => by simp only [AV.names] at hn ⊢; exact h hn) (fun cs h hn => by simp only [AV.names] at hn ⊢; exact h hn) (fun f cs k h hn => by simp only [AV.names] at hn ⊢; exact h hn) (fun id hn => by simp only [AV.names] at hn ⊢; exact hm _ hn)
    (fun _ _ _ cs h hn => by simp only [AV.names] at hn ⊢; exact h hn) (fun _ _ _ => rfl) (fun _ => rfl) (fun v l h1 h2 hn => by simp only [AV.namesL, Bool.and_eq_true] at hn ⊢; exact ⟨h1 hn.1, h2 hn.2⟩) v
theorem namesL_none {ok : Nat → Bool} {l : List AV} (h : AV.namesL (fun _ => false) l = true) : AV.namesL ok l = true := by
  rw [namesL_all] at h ⊢
  exact List.all_eq_true.2 fun a ha => names_mono (fun _ h => by cases h) a (List.all_eq_true.1 h a ha)

/-- A call that turns nothing of what was owned, and makes nothing. -/
theorem ACalls.read {P : Program} {f : FuncId} {p : Nat} {vs ws : List AV} {H Hc : AH} {v : AV} (ρ : Nat → Nat) (hf : AFun P f p vs H v H) (ok : CallOk p ρ vs H v H Hc ws) : ACalls P f ws Hc { v := v.ren ρ, D := (H.map Prod.fst).map ρ } := by
  have base := ACalls.of_fun ρ hf ok
  intro H' hD _ w g xs hl hxs hH _
  have hδ : ∀ q ∈ (atCall ρ H v H).δ, ∃ x ∈ H, q = (ρ x.1, some (x.2.ren ρ)) := by
    intro q hq
    rcases List.mem_append.1 hq with h | h
    · obtain ⟨x, hx, rfl⟩ := List.mem_map.1 h
      exact ⟨x, hx, rfl⟩
    · obtain ⟨i, hi, _⟩ := List.mem_map.1 h
      have := (List.mem_filter.1 hi).2
      have h2 := (List.mem_filter.1 hi).1
      simp only [List.contains_eq_mem, decide_eq_true h2, Bool.not_true, Bool.false_eq_true] at this
  have have' : ∀ x ∈ H, H'.get (ρ x.1) = some (x.2.ren ρ) := fun x hx => (hD (ρ x.1) (List.mem_map_of_mem (List.mem_map_of_mem hx))).trans (ok.have_ x hx)
  have some' : ∀ q ∈ (atCall ρ H v H).δ, H'.get q.1 = q.2 := fun q hq => by
    obtain ⟨x, hx, rfl⟩ := hδ q hq
    exact have' x hx
  refine (base H' hD (fun q hq hn => ?_) w g xs hl hxs hH (fun q hq hn => ?_)).mono fun e w' ⟨x, he, g', hA, hc, hφ⟩ => ⟨x, he, g', ?_, hc, fun id _ => ?_⟩
  · obtain ⟨x, hx, rfl⟩ := hδ q hq
    rw [ok.have_ x hx] at hn; cases hn
  · obtain ⟨x, hx, rfl⟩ := hδ q hq
    rw [have' x hx] at hn; cases hn
  · refine hA.congr (fun _ => rfl) fun id => ?_
    show H'.get id = _
    symm
    -- turning blocks to what they are
    have : ∀ (δ : List (Nat × Option Blk)) (K : AH), (∀ q ∈ δ, H'.get q.1 = q.2) → (∀ id, K.get id = H'.get id) → ∀ id, (K.upd δ).get id = H'.get id := by
      intro δ
      induction δ with
      | nil => intro K _ hK id; exact hK id
      | cons q δ ih =>
        intro K hq hK id
        obtain ⟨i, o⟩ := q
        have h0 := hq (i, o) (by simp)
        cases o with
        | some b =>
          refine ih (K.set i b) (fun q hm => hq q (by simp [hm])) (fun j => ?_) id
          rw [AH.get_set]; split
          · rename_i e; subst e; exact h0.symm
          · exact hK j
        | none =>
          refine ih (K.del i) (fun q hm => hq q (by simp [hm])) (fun j => ?_) id
          rw [AH.get_del]; split
          · rename_i e; subst e; exact h0.symm
          · exact hK j
    exact this _ H' some' (fun _ => rfl) id
  · refine hφ id ?_
    by_cases hm : id ∈ (atCall ρ H v H).δ.map Prod.fst
    · obtain ⟨q, hq, rfl⟩ := List.mem_map.1 hm
      obtain ⟨x, hx, rfl⟩ := hδ q hq
      exact .inr (by rw [have' x hx]; exact fun h => by cases h)
    · exact .inl hm
theorem CallN.read {P : Program} {f : FuncId} {p : Nat} {vs ws : List AV} {H Hc : AH} {v : AV} {K : Out → Prop} (ρ : Nat → Nat) (hf : AFun P f p vs H v H) (ok : CallOk p ρ vs H v H Hc ws) (k : K { v := v.ren ρ, D := (H.map Prod.fst).map ρ }) : CallN P f ws Hc K := ⟨_, ACalls.read ρ hf ok, k⟩

/-- The blocks of a contract are there. -/
def haveAll (ρ : Nat → Nat) (Hc : AH) : AH → Prop
  | [] => True
  | (i, b) :: H => Hc.get (ρ i) = some (b.ren ρ) ∧ haveAll ρ Hc H
theorem haveAll.mem {ρ : Nat → Nat} {Hc : AH} : ∀ {H : AH}, haveAll ρ Hc H → ∀ x ∈ H, Hc.get (ρ x.1) = some (x.2.ren ρ)
  | _ :: _, ⟨h1, h2⟩, x, hx => by
    rcases List.mem_cons.1 hx with rfl | hx
    · exact h1
    · exact haveAll.mem h2 x hx
def namesAll (ok : Nat → Bool) : AH → Bool
  | [] => true
  | (i, b) :: H => b.names ok && namesAll ok H
theorem namesAll.mem {ok : Nat → Bool} : ∀ {H : AH}, namesAll ok H = true → ∀ x ∈ H, x.2.names ok = true
  | _ :: _, h, x, hx => by
    simp only [namesAll, Bool.and_eq_true] at h
    rcases List.mem_cons.1 hx with rfl | hx
    · exact h.1
    · exact namesAll.mem h.2 x hx
/-- What of a call is reckoned on names alone. -/
def keysOk (p : Nat) (ρ : Nat → Nat) (ks ks' kc : List Nat) : Bool :=
  decide (((ks' ++ ks.filter fun i => !ks'.contains i).map ρ).Nodup) && ks.all (fun i => decide (i < p)) && decide ks.Nodup && decide ks'.Nodup && ks'.all (fun i => decide (p ≤ i) || ks.contains i) &&
    ks'.all (fun i => decide (i < p) || !kc.contains (ρ i)) && (List.range p).all fun i => ks'.all fun j => decide (j < p) || ρ i != ρ j
theorem get_none {H : AH} {id : Nat} (h : (H.map Prod.fst).contains id = false) : H.get id = none := by
  cases hg : H.get id with
  | none => rfl
  | some B =>
    have := get_mem hg
    have h2 : id ∈ H.map Prod.fst := List.mem_map_of_mem (f := Prod.fst) this
    simp [List.contains_eq_mem, h2] at h
theorem CallOk.mk' {p : Nat} {ρ : Nat → Nat} {vs : List AV} {H : AH} {v : AV} {H' Hc : AH} {ws : List AV} (hk : keysOk p ρ (H.map Prod.fst) (H'.map Prod.fst) (Hc.map Prod.fst) = true) (args : ws = AV.renL ρ vs) (argn : AV.namesL (fun i => decide (i < p)) vs = true)
    (hn : namesAll (fun i => decide (i < p)) H = true) (resn : v.names (fun i => decide (i < p) || (H'.map Prod.fst).contains i) = true) (blkn : namesAll (fun i => decide (i < p) || (H'.map Prod.fst).contains i) H' = true) (hh : haveAll ρ Hc H) : CallOk p ρ vs H v H' Hc ws := by
  simp only [keysOk, Bool.and_eq_true, decide_eq_true_eq] at hk
  obtain ⟨⟨⟨⟨⟨⟨k1, k2⟩, k3⟩, k4⟩, k5⟩, k6⟩, k7⟩ := hk
  refine ⟨args, argn, k1, fun x hx => ⟨by simpa using List.all_eq_true.1 k2 x.1 (List.mem_map_of_mem hx), namesAll.mem hn x hx⟩, k3, k4, fun x hx hp => ?_, resn, namesAll.mem blkn, hh.mem, fun x hx hp => ?_, fun i hi x hx hp => ?_⟩
  · have := List.all_eq_true.1 k5 x.1 (List.mem_map_of_mem hx)
    simp only [Bool.or_eq_true, decide_eq_true_eq, List.contains_iff_mem] at this
    exact this.resolve_left (by omega)
  · have := List.all_eq_true.1 k6 x.1 (List.mem_map_of_mem hx)
    simp only [Bool.or_eq_true, decide_eq_true_eq, Bool.not_eq_true'] at this
    exact get_none (this.resolve_left (by omega))
  · have := List.all_eq_true.1 (List.all_eq_true.1 k7 i (List.mem_range.2 hi)) x.1 (List.mem_map_of_mem hx)
    simp only [Bool.or_eq_true, decide_eq_true_eq, bne_iff_ne] at this
    exact this.resolve_left (by omega)

theorem andT {a b : Bool} (h : a = true) (k : b = true) : (a && b) = true := by rw [h, k]; rfl
theorem nor_self (b : Bool) : (!b || b) = true := by cases b <;> rfl
theorem or_nself (b : Bool) : (b || !b) = true := by cases b <;> rfl
theorem or_t (b : Bool) : (b || true) = true := by cases b <;> rfl
end Go.Proofs.Ytjnmbmdplchfkaa.Am
