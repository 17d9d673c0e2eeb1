/- The owned machine, part M: a region that draws its order: one run in the order of its text serves every order. -/
import Derived.Test.YtjnmbmdplchfkaaAmL
set_option linter.all false
namespace Go.Proofs.Ytjnmbmdplchfkaa.Am
variable [Lo]
set_option linter.unusedVariables false

theorem upd_get_out {δ : List (Nat × Option Blk)} : ∀ {H : AH} {id : Nat}, id ∉ δ.map Prod.fst → (H.upd δ).get id = H.get id := by
  induction δ with
  | nil => intro H id _; rfl
  | cons p δ ih =>
    intro H id h
    obtain ⟨i, v⟩ := p
    simp only [List.map_cons, List.mem_cons, not_or] at h
    cases v with
    | some b => simp only [AH.upd]; rw [ih h.2, AH.get_set, if_neg h.1]
    | none => simp only [AH.upd]; rw [ih h.2, AH.get_del, if_neg h.1]
theorem upd_get_in {δ : List (Nat × Option Blk)} : ∀ {H H' : AH} {id : Nat}, id ∈ δ.map Prod.fst → (H.upd δ).get id = (H'.upd δ).get id := by
  induction δ with
  | nil => intro H H' id h; cases h
  | cons p δ ih =>
    intro H H' id h
    obtain ⟨i, v⟩ := p
    by_cases hd : id ∈ δ.map Prod.fst
    · cases v <;> (simp only [AH.upd]; exact ih hd)
    · have hi : id = i := by
        rcases List.mem_cons.1 h with h | h
        · exact h
        · exact absurd h hd
      cases v with
      | some b => simp only [AH.upd]; rw [upd_get_out hd, upd_get_out hd, AH.get_set, AH.get_set, if_pos hi, if_pos hi]
      | none => simp only [AH.upd]; rw [upd_get_out hd, upd_get_out hd, AH.get_del, AH.get_del, if_pos hi, if_pos hi]
theorem upd_get_congr {δ : List (Nat × Option Blk)} {H H' : AH} {id : Nat} (h : H.get id = H'.get id) : (H.upd δ).get id = (H'.upd δ).get id := by
  by_cases hd : id ∈ δ.map Prod.fst
  · exact upd_get_in hd
  · rw [upd_get_out hd, upd_get_out hd, h]
theorem HRel.congr {w : World} {g : Gh} {H H' : AH} (h : HRel w g H) (e : ∀ id, H'.get id = H.get id) : HRel w g H' :=
  ⟨fun id B hB => h.rel id B (by rw [← e]; exact hB), fun i j b E E' A B hi hj => h.apart i j b E E' A B (by rw [← e]; exact hi) (by rw [← e]; exact hj), fun i b E B hi => h.imm i b E B (by rw [← e]; exact hi), h.lt, h.gl⟩
theorem Adv.congr {w w' : World} {g g' : Gh} {H H1 H' H1' : AH} (h : Adv w g H w' g' H') (e1 : ∀ id, H1.get id = H.get id) (e2 : ∀ id, H1'.get id = H'.get id) : Adv w g H1 w' g' H1' :=
  ⟨h.mono, ⟨h.ext.os, h.ext.tape, h.ext.output, h.ext.size, fun b hb hn => h.ext.block b hb fun id B E hi => hn id B E (by rw [e1]; exact hi)⟩, fun id B b E hi hb hlt => by
    obtain ⟨i, A, F, h1, h2⟩ := h.own id B b E (by rw [← e2]; exact hi) hb hlt
    exact ⟨i, A, F, by rw [e1]; exact h1, h2⟩, fun b hb hlt => by
    rcases h.imm b hb hlt with h1 | ⟨i, A, F, h1, h2⟩
    · exact .inl h1
    · exact .inr ⟨i, A, F, by rw [e1]; exact h1, h2⟩, h.rel.congr e2⟩

def curF (S : Nat → Bool) (n : Nat) : List Oper → List Rec → Nat → Fr → Fr
  | o :: l, c :: rs, k, fr => curF S n l rs (k + 1) (if S k then setDst n fr o.dst c.val else fr)
  | _, _, _, fr => fr
def curH (S : Nat → Bool) : List Rec → Nat → AH → AH
  | c :: rs, k, H => curH S rs (k + 1) (if S k then H.upd c.del else H)
  | [], _, H => H

theorem curF_congr {S S' : Nat → Bool} {t n : Nat} : ∀ (l : List Oper) (rs : List Rec) (k : Nat) (fr fr' : Fr), (∀ i o, l[i]? = some o → o.dst = some t → S (k + i) = S' (k + i)) → fget fr t = fget fr' t →
    fget (curF S n l rs k fr) t = fget (curF S' n l rs k fr') t
  | [], _, k, fr, fr', _, h => by simpa [curF] using h
  | _ :: _, [], k, fr, fr', _, h => by simpa [curF] using h
  | o :: l, c :: rs, k, fr, fr', hS, h => by
    simp only [curF]
    refine curF_congr l rs (k + 1) _ _ (fun i o' ho hd => by have := hS (i + 1) o' (by simpa using ho) hd; rwa [show k + (i + 1) = k + 1 + i by omega] at this) ?_
    have h0 := hS 0 o (by simp)
    simp only [Nat.add_zero] at h0
    by_cases hd : o.dst = some t
    · rw [h0 hd]
      split
      · rw [setDst_get, setDst_get, h]
      · exact h
    · split <;> split <;> (try rw [setDst_get, if_neg (fun h => hd h.1)]) <;> (try rw [setDst_get, if_neg (fun h => hd h.1)]) <;> exact h
theorem curF_none {n : Nat} : ∀ (l : List Oper) (rs : List Rec) (k : Nat) (fr : Fr), curF (fun _ => false) n l rs k fr = fr
  | [], _, _, _ => rfl
  | _ :: _, [], _, _ => rfl
  | o :: l, c :: rs, k, fr => by simp only [curF, Bool.false_eq_true, if_false]; exact curF_none l rs _ _
theorem curF_add {S : Nat → Bool} {t j n : Nat} {oj : Oper} {cj : Rec} (hj : S j = false) : ∀ (l : List Oper) (rs : List Rec) (k : Nat) (fr : Fr), k ≤ j → l[j - k]? = some oj → rs[j - k]? = some cj →
    (oj.dst = some t → ∀ i o, l[i]? = some o → j < k + i → o.dst = some t → S (k + i) = false) →
    fget (curF (fun i => S i || i == j) n l rs k fr) t = fget (setDst n (curF S n l rs k fr) oj.dst cj.val) t
  | [], _, k, fr, _, h, _, _ => by simp at h
  | _ :: _, [], k, fr, _, _, h, _ => by simp at h
  | o :: l, c :: rs, k, fr, hk, ho, hc, hS => by
    simp only [curF]
    by_cases hkj : k = j
    · subst hkj
      simp at ho hc
      subst ho hc
      simp only [hj, beq_self_eq_true, Bool.or_true, if_true, Bool.false_eq_true, if_false]
      have tail : ∀ X : Fr, fget (curF (fun i => S i || i == k) n l rs (k + 1) X) t = fget (curF S n l rs (k + 1) X) t := fun X => curF_congr l rs _ _ _ (fun i o' _ _ => by
        have : (k + 1 + i == k) = false := by simp; omega
        simp [this]) rfl
      rw [tail]
      by_cases hd : o.dst = some t
      · have e0 : ∀ X : Fr, fget (curF S n l rs (k + 1) X) t = fget X t := fun X => by
          rw [curF_congr (S' := fun _ => false) l rs (k + 1) X X (fun i o' ho' hd' => by
            have := hS hd (i + 1) o' (by simpa using ho') (by omega) hd'
            rwa [show k + (i + 1) = k + 1 + i by omega] at this) rfl, curF_none]
        rw [e0, setDst_get, setDst_get, e0]
      · rw [setDst_get, if_neg (fun h => hd h.1)]
        refine curF_congr l rs _ _ _ (fun _ _ _ _ => rfl) ?_
        rw [setDst_get, if_neg (fun h => hd h.1)]
    · have hlt : k < j := by omega
      have e : (S k || k == j) = S k := by
        have : (k == j) = false := by simpa using hkj
        simp [this]
      simp only [e]
      have e2 : j - k = (j - (k + 1)) + 1 := by omega
      rw [e2] at ho hc
      exact curF_add hj l rs (k + 1) _ (by omega) (by simpa using ho) (by simpa using hc) (fun hd i o' ho' hi hd' => by
        have := hS hd (i + 1) o' (by simpa using ho') (by omega) hd'
        rwa [show k + (i + 1) = k + 1 + i by omega] at this)

theorem curH_congr {S S' : Nat → Bool} {id : Nat} : ∀ (rs : List Rec) (k : Nat) (H H' : AH), (∀ i c, rs[i]? = some c → id ∈ c.del.map Prod.fst → S (k + i) = S' (k + i)) → H.get id = H'.get id → (curH S rs k H).get id = (curH S' rs k H').get id
  | [], k, H, H', _, h => by simpa [curH] using h
  | c :: rs, k, H, H', hS, h => by
    simp only [curH]
    refine curH_congr rs (k + 1) _ _ (fun i c' hc hd => by have := hS (i + 1) c' (by simpa using hc) hd; rwa [show k + (i + 1) = k + 1 + i by omega] at this) ?_
    have h0 := hS 0 c (by simp)
    simp only [Nat.add_zero] at h0
    by_cases hd : id ∈ c.del.map Prod.fst
    · rw [h0 hd]
      split
      · exact upd_get_congr h
      · exact h
    · split <;> split <;> (try rw [upd_get_out hd]) <;> (try rw [upd_get_out hd]) <;> exact h
theorem curH_none : ∀ (rs : List Rec) (k : Nat) (H : AH), curH (fun _ => false) rs k H = H
  | [], _, _ => rfl
  | c :: rs, k, H => by simp only [curH, Bool.false_eq_true, if_false]; exact curH_none rs _ _
theorem curH_add {S : Nat → Bool} {id j : Nat} {cj : Rec} (hj : S j = false) : ∀ (rs : List Rec) (k : Nat) (H : AH), k ≤ j → rs[j - k]? = some cj →
    (id ∈ cj.del.map Prod.fst → ∀ i c, rs[i]? = some c → j < k + i → id ∈ c.del.map Prod.fst → S (k + i) = false) →
    (curH (fun i => S i || i == j) rs k H).get id = ((curH S rs k H).upd cj.del).get id
  | [], k, H, _, h, _ => by simp at h
  | c :: rs, k, H, hk, hc, hS => by
    simp only [curH]
    by_cases hkj : k = j
    · subst hkj
      simp at hc
      subst hc
      simp only [hj, beq_self_eq_true, Bool.or_true, if_true, Bool.false_eq_true, if_false]
      have tail : ∀ X : AH, (curH (fun i => S i || i == k) rs (k + 1) X).get id = (curH S rs (k + 1) X).get id := fun X => curH_congr rs _ _ _ (fun i o' _ _ => by
        have : (k + 1 + i == k) = false := by simp; omega
        simp [this]) rfl
      rw [tail]
      by_cases hd : id ∈ c.del.map Prod.fst
      · have e0 : ∀ X : AH, (curH S rs (k + 1) X).get id = X.get id := fun X => by
          rw [curH_congr (S' := fun _ => false) rs (k + 1) X X (fun i c' hc' hd' => by
            have := hS hd (i + 1) c' (by simpa using hc') (by omega) hd'
            rwa [show k + (i + 1) = k + 1 + i by omega] at this) rfl, curH_none]
        rw [e0]
        exact upd_get_in hd
      · rw [upd_get_out hd]
        exact curH_congr rs _ _ _ (fun _ _ _ _ => rfl) (upd_get_out hd)
    · have hlt : k < j := by omega
      have e : (S k || k == j) = S k := by
        have : (k == j) = false := by simpa using hkj
        simp [this]
      simp only [e]
      have e2 : j - k = (j - (k + 1)) + 1 := by omega
      rw [e2] at hc
      exact curH_add hj rs (k + 1) _ (by omega) (by simpa using hc) (fun hd i c' hc' hi hd' => by
        have := hS hd (i + 1) c' (by simpa using hc') (by omega) hd'
        rwa [show k + (i + 1) = k + 1 + i by omega] at this)
end Go.Proofs.Ytjnmbmdplchfkaa.Am
