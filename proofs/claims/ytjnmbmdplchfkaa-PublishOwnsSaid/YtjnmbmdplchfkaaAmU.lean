/- The owned machine, part U: the contract of a function at a call. -/
import Derived.Test.YtjnmbmdplchfkaaAmS
import Derived.IntWalk
set_option linter.all false
namespace Go.Proofs.Ytjnmbmdplchfkaa.Am
variable [Lo]
set_option linter.unusedVariables false

theorem upd_get_mem {δ : List (Nat × Option Blk)} : ∀ {H : AH} {id : Nat} {o : Option Blk}, (δ.map Prod.fst).Nodup → (id, o) ∈ δ → (H.upd δ).get id = o := by
  induction δ with
  | nil => intro H id o _ h; cases h
  | cons q δ ih =>
    intro H id o hnd h
    obtain ⟨i, v⟩ := q
    simp only [List.map_cons, List.nodup_cons] at hnd
    rcases List.mem_cons.1 h with h1 | h1
    · injection h1 with a b; subst a b
      cases o with
      | some b => simp only [AH.upd]; rw [upd_get_out hnd.1, AH.get_set, if_pos rfl]
      | none => simp only [AH.upd]; rw [upd_get_out hnd.1, AH.get_del, if_pos rfl]
    · cases v <;> (simp only [AH.upd]; exact ih hnd.2 h1)
theorem get_mem {H : AH} {id : Nat} {B : Blk} (h : H.get id = some B) : (id, B) ∈ H := by
  induction H with
  | nil => cases h
  | cons q H ih =>
    obtain ⟨i, b⟩ := q
    simp only [AH.get] at h
    split at h
    · rename_i e; injection h with h; subst e h; simp
    · exact List.mem_cons_of_mem _ (ih h)
theorem mem_get {H : AH} {id : Nat} {B : Blk} (hnd : (H.map Prod.fst).Nodup) (h : (id, B) ∈ H) : H.get id = some B := by
  induction H with
  | nil => cases h
  | cons q H ih =>
    obtain ⟨i, b⟩ := q
    simp only [List.map_cons, List.nodup_cons] at hnd
    simp only [AH.get]
    rcases List.mem_cons.1 h with h1 | h1
    · injection h1 with a b; subst a b; rw [if_pos rfl]
    · rw [if_neg ?_]
      · exact ih hnd.2 h1
      · rintro rfl; exact hnd.1 (List.mem_map_of_mem (f := Prod.fst) h1)

/-- What a function's contract comes to at a call, under other names. -/
def atCall (ρ : Nat → Nat) (H : AH) (v : AV) (H' : AH) : Out :=
  { v := v.ren ρ, D := (H.map Prod.fst).map ρ,
    δ := H'.map (fun x => (ρ x.1, some (x.2.ren ρ))) ++ ((H.map Prod.fst).filter fun i => !(H'.map Prod.fst).contains i).map fun i => (ρ i, none) }

/-- The names of the two heaps of a contract. -/
def dom (H H' : AH) : List Nat := H'.map Prod.fst ++ (H.map Prod.fst).filter fun i => !(H'.map Prod.fst).contains i

structure CallOk (p : Nat) (ρ : Nat → Nat) (vs : List AV) (H : AH) (v : AV) (H' : AH) (Hc : AH) (ws : List AV) : Prop where
  args : ws = AV.renL ρ vs
  argn : AV.namesL (fun i => decide (i < p)) vs = true
  inj : ((dom H H').map ρ).Nodup
  lt : ∀ x ∈ H, x.1 < p ∧ x.2.names (fun i => decide (i < p)) = true
  nd : (H.map Prod.fst).Nodup
  nd' : (H'.map Prod.fst).Nodup
  old : ∀ x ∈ H', x.1 < p → x.1 ∈ H.map Prod.fst
  resn : v.names (fun i => decide (i < p) || (H'.map Prod.fst).contains i) = true
  blkn : ∀ x ∈ H', x.2.names (fun i => decide (i < p) || (H'.map Prod.fst).contains i) = true
  have_ : ∀ x ∈ H, Hc.get (ρ x.1) = some (x.2.ren ρ)
  new : ∀ x ∈ H', p ≤ x.1 → Hc.get (ρ x.1) = none
  apart : ∀ i, i < p → ∀ x ∈ H', p ≤ x.1 → ρ i ≠ ρ x.1

theorem nodup_inj {α : Type} [DecidableEq α] {f : Nat → α} {l : List Nat} (h : (l.map f).Nodup) {i j : Nat} (hi : i ∈ l) (hj : j ∈ l) (e : f i = f j) : i = j := by
  induction l with
  | nil => cases hi
  | cons a l ih =>
    simp only [List.map_cons, List.nodup_cons] at h
    rcases List.mem_cons.1 hi with h1 | h1 <;> rcases List.mem_cons.1 hj with h2 | h2
    · rw [h1, h2]
    · subst h1; exact absurd (e ▸ List.mem_map_of_mem h2) h.1
    · subst h2; exact absurd (e ▸ List.mem_map_of_mem h1) h.1
    · exact ih h.2 h1 h2

theorem ACallsC.of_fun {C : World → Array Value → (Ending → World → Prop) → Prop} (hmono : ∀ {w xs} {R R' : Ending → World → Prop}, C w xs R → (∀ e w, R e w → R' e w) → C w xs R') {p : Nat} {vs ws : List AV} {H H' Hc : AH} {v : AV} (ρ : Nat → Nat) (hf : AFunC C p vs H v H') (ok : CallOk p ρ vs H v H' Hc ws) : ACallsC C ws Hc (atCall ρ H v H') := by
  intro Hc' hD hfresh w g xs hl hxs hH hφ
  have hdomH : ∀ x ∈ H, x.1 ∈ dom H H' := by
    intro x hx
    unfold dom
    by_cases h : x.1 ∈ H'.map Prod.fst
    · exact List.mem_append.2 (.inl h)
    · exact List.mem_append.2 (.inr (List.mem_filter.2 ⟨List.mem_map_of_mem hx, by simpa using h⟩))
  have hdomH' : ∀ x ∈ H', x.1 ∈ dom H H' := fun x hx => List.mem_append.2 (.inl (List.mem_map_of_mem hx))
  have inj : ∀ {i j : Nat}, i ∈ dom H H' → j ∈ dom H H' → ρ i = ρ j → i = j := fun hi hj e => nodup_inj ok.inj hi hj e
  have getc : ∀ x ∈ H, Hc'.get (ρ x.1) = some (x.2.ren ρ) := fun x hx => (hD (ρ x.1) (List.mem_map_of_mem (List.mem_map_of_mem hx))).trans (ok.have_ x hx)
  have newc : ∀ x ∈ H', p ≤ x.1 → Hc'.get (ρ x.1) = none := fun x hx hp => hfresh (ρ x.1, some (x.2.ren ρ)) (List.mem_append.2 (.inl (List.mem_map.2 ⟨x, hx, rfl⟩))) (ok.new x hx hp)
  have newφ : ∀ x ∈ H', p ≤ x.1 → g.φ (ρ x.1) = none := fun x hx hp => hφ (ρ x.1, some (x.2.ren ρ)) (List.mem_append.2 (.inl (List.mem_map.2 ⟨x, hx, rfl⟩))) (newc x hx hp)
  -- the callee's ghost
  let gb : Gh := ⟨fun i => if i < p then g.φ (ρ i) else none, g.I⟩
  have gbφ : ∀ i, i < p → gb.φ i = g.φ (ρ i) := fun i hi => if_pos hi
  have un : ∀ id q, decide (id < p) = true → g.φ (ρ id) = some q → gb.φ id = some q := fun id q hid h => by rw [gbφ id (of_decide_eq_true hid)]; exact h
  have hHb : HRel w gb H := by
    refine ⟨fun i B hB => ?_, fun i j b E E' A B hi hj h1 h2 => ?_, fun i b E B hi h1 => ?_, hH.lt, hH.gl⟩
    · have hm := get_mem hB
      obtain ⟨h1, h2⟩ := ok.lt _ hm
      exact Blk.Rel.unren (ρ := ρ) (ok := fun i => decide (i < p)) (g := g) (g' := gb) (fun _ h => h) un (by simpa using h1) (fun h => by rw [gbφ i h1]; exact h) h2 (hH.rel (ρ i) _ (getc _ hm))
    · have mi := get_mem hi
      have mj := get_mem hj
      rw [gbφ i (ok.lt _ mi).1] at h1
      rw [gbφ j (ok.lt _ mj).1] at h2
      exact inj (hdomH _ mi) (hdomH _ mj) (hH.apart _ _ _ _ _ _ _ (getc _ mi) (getc _ mj) h1 h2)
    · have mi := get_mem hi
      rw [gbφ i (ok.lt _ mi).1] at h1
      exact hH.imm _ _ _ _ (getc _ mi) h1
  have hlen : vs.length = xs.size := by rw [← hl, ok.args, renL_map, List.length_map]
  refine hmono (hf w gb xs hlen (fun i u x hu hx => ?_) hHb (fun id hid => if_neg (by omega))) fun e w' ⟨x, gb', he, hA, hcv, hH'⟩ => ⟨x, he, ?_⟩
  · refine (hxs i (u.ren ρ) x (by rw [ok.args, renL_map, List.getElem?_map, hu]; rfl) hx).unren (ρ := ρ) (ok := fun i => decide (i < p)) (g' := gb) (fun _ h => h) un ?_ rfl
    have := ok.argn
    rw [namesL_all] at this
    exact List.all_eq_true.1 this u (List.mem_of_getElem? hu)
  -- the caller's ghost behind the call
  have hpick : ∀ id : Nat, (∃ x ∈ H', p ≤ x.1 ∧ ρ x.1 = id) ∨ ¬ ∃ x ∈ H', p ≤ x.1 ∧ ρ x.1 = id := fun id => Classical.em _
  let g' : Gh := ⟨fun id => open Classical in if h : ∃ x ∈ H', p ≤ x.1 ∧ ρ x.1 = id then gb'.φ h.choose.1 else g.φ id, gb'.I⟩
  have g'new : ∀ x ∈ H', p ≤ x.1 → g'.φ (ρ x.1) = gb'.φ x.1 := by
    intro x hx hp
    have hex : ∃ y ∈ H', p ≤ y.1 ∧ ρ y.1 = ρ x.1 := ⟨x, hx, hp, rfl⟩
    show (open Classical in if h : ∃ y ∈ H', p ≤ y.1 ∧ ρ y.1 = ρ x.1 then gb'.φ h.choose.1 else g.φ (ρ x.1)) = _
    rw [dif_pos hex]
    have hc := hex.choose_spec
    rw [inj (hdomH' _ hc.1) (hdomH' _ hx) hc.2.2]
  have g'old : ∀ id, (¬ ∃ x ∈ H', p ≤ x.1 ∧ ρ x.1 = id) → g'.φ id = g.φ id := by
    intro id h
    show (open Classical in if h : ∃ y ∈ H', p ≤ y.1 ∧ ρ y.1 = id then gb'.φ h.choose.1 else g.φ id) = _
    rw [dif_neg h]
  have g'p : ∀ i, i < p → g'.φ (ρ i) = gb'.φ i := by
    intro i hi
    rw [g'old (ρ i) (by rintro ⟨x, hx, hp, e⟩; exact ok.apart i hi x hx hp e.symm), hA.φ i hi, gbφ i hi]
  have hok : ∀ i, (decide (i < p) || (H'.map Prod.fst).contains i) = true → g'.φ (ρ i) = gb'.φ i := by
    intro i hi
    by_cases h : i < p
    · exact g'p i h
    · have hm : i ∈ H'.map Prod.fst := by simpa [h] using hi
      obtain ⟨x, hx, rfl⟩ := List.mem_map.1 hm
      exact g'new x hx (by omega)
  -- the names of the callee, read by the caller
  let gk : Gh := ⟨fun i => if (decide (i < p) || (H'.map Prod.fst).contains i) = true then gb'.φ i else none, gb'.I⟩
  have gkφ : ∀ id q, gk.φ id = some q → g'.φ (ρ id) = some q := by
    intro id q h
    by_cases hi : (decide (id < p) || (H'.map Prod.fst).contains id) = true
    · rw [hok id hi]; rwa [show gk.φ id = gb'.φ id from if_pos hi] at h
    · rw [show gk.φ id = none from if_neg hi] at h; cases h
  have ren_id : ∀ v : AV, v.ren id = v := by
    have : ∀ (v : AV), v.ren id = v := fun v => AV.rec (motive_1 := fun v => v.ren id = v) (motive_2 := fun l => AV.renL id l = l) rfl (fun b v h => by simp [AV.ren, h]) (fun v => rfl) (fun _ _ _ _ => rfl) (fun _ _ _ => rfl) (fun _ _ _ _ _ => rfl) (fun _ _ _ _ => rfl)
      (fun cs h => by simp [AV.ren, h]) (fun cs h => by simp [AV.ren, h]) (fun f cs k h => by simp [AV.ren, h]) (fun _ => rfl) (fun _ _ _ cs h => by simp [AV.ren, h]) (fun _ _ => rfl) rfl (fun v l h1 h2 => by simp [AV.renL, h1, h2]) v
    exact this
  have ren_idL : ∀ l : List AV, AV.renL id l = l := fun l => by rw [renL_map, List.map_congr_left (fun a _ => ren_id a), List.map_id']
  have blk_id : ∀ B : Blk, B.ren id = B := by
    intro B
    cases B with
    | row E ty es => simp only [Blk.ren, ren_idL]
    | map ck kv => simp [Blk.ren, ren_id]
  have toK : ∀ {c : AV} {y : Value}, Cv w' gb' c y → c.names (fun i => decide (i < p) || (H'.map Prod.fst).contains i) = true → Cv w' gk c y := fun {c y} h hn =>
    h.unren (ρ := id) (ok := fun i => decide (i < p) || (H'.map Prod.fst).contains i) (g' := gk) (fun _ h => h) (fun i q hi h => by rw [show gk.φ i = gb'.φ i from if_pos hi]; exact h) hn (ren_id c)
  have hrel' : ∀ y ∈ H', (y.2.ren ρ).Rel w' g' (ρ y.1) := by
    intro y hy
    have hB := hH'.rel y.1 y.2 (mem_get ok.nd' hy)
    have hin : (decide (y.1 < p) || (H'.map Prod.fst).contains y.1) = true := by
      have : y.1 ∈ H'.map Prod.fst := List.mem_map_of_mem hy
      rw [Bool.or_eq_true]; exact .inr (by simpa using ⟨y.2, hy⟩)
    have hk : y.2.Rel w' gk y.1 := by
      refine Blk.Rel.unren (ρ := id) (ok := fun i => decide (i < p) || (H'.map Prod.fst).contains i) (g' := gk) (g := gb') (fun _ h => h) (fun i q hi h => by rw [show gk.φ i = gb'.φ i from if_pos hi]; exact h) hin (fun h => by rw [show gk.φ y.1 = gb'.φ y.1 from if_pos hin]; exact h) (ok.blkn y hy) ?_
      rw [blk_id]; exact hB
    exact Blk.Rel.ren (g := gk) (g' := g') (fun _ h => h) gkφ (fun h => by rw [hok y.1 hin]; rwa [show gk.φ y.1 = gb'.φ y.1 from if_pos hin] at h) hk
  -- what is behind the call
  have hnd : (((atCall ρ H v H').δ).map Prod.fst).Nodup := by
    have : ((atCall ρ H v H').δ).map Prod.fst = (dom H H').map ρ := by simp [atCall, dom, Function.comp_def]
    rw [this]; exact ok.inj
  have get' : ∀ y ∈ H', (Hc'.upd (atCall ρ H v H').δ).get (ρ y.1) = some (y.2.ren ρ) := fun y hy => upd_get_mem hnd (List.mem_append.2 (.inl (List.mem_map.2 ⟨y, hy, rfl⟩)))
  have getk : ∀ i ∈ H.map Prod.fst, i ∉ H'.map Prod.fst → (Hc'.upd (atCall ρ H v H').δ).get (ρ i) = none := fun i hi hn =>
    upd_get_mem hnd (List.mem_append.2 (.inr (List.mem_map.2 ⟨i, List.mem_filter.2 ⟨hi, by simpa using hn⟩, rfl⟩)))
  have getout : ∀ id, (∀ i ∈ dom H H', ρ i ≠ id) → (Hc'.upd (atCall ρ H v H').δ).get id = Hc'.get id := fun id h => by
    refine upd_get_out fun hm => ?_
    have : ((atCall ρ H v H').δ).map Prod.fst = (dom H H').map ρ := by simp [atCall, dom, Function.comp_def]
    rw [this] at hm
    obtain ⟨i, hi, e⟩ := List.mem_map.1 hm
    exact h i hi e
  -- a name behind the call: one of the callee's, or untouched
  have split : ∀ id B, (Hc'.upd (atCall ρ H v H').δ).get id = some B → (∃ y ∈ H', id = ρ y.1 ∧ B = y.2.ren ρ) ∨ ((∀ i ∈ dom H H', ρ i ≠ id) ∧ Hc'.get id = some B) := by
    intro id B h
    by_cases hd : ∃ i ∈ dom H H', ρ i = id
    · obtain ⟨i, hi, rfl⟩ := hd
      by_cases hm : i ∈ H'.map Prod.fst
      · obtain ⟨y, hy, rfl⟩ := List.mem_map.1 hm
        rw [get' y hy] at h
        injection h with h
        exact .inl ⟨y, hy, rfl, h.symm⟩
      · rcases List.mem_append.1 hi with h1 | h1
        · exact absurd h1 hm
        · rw [getk i (List.mem_filter.1 h1).1 hm] at h; cases h
    · have hd' : ∀ i ∈ dom H H', ρ i ≠ id := fun i hi e => hd ⟨i, hi, e⟩
      exact .inr ⟨hd', by rw [← getout id hd']; exact h⟩
  have untouched : ∀ id B b E, (∀ i ∈ dom H H', ρ i ≠ id) → Hc'.get id = some B → g.φ id = some (b, E) → w'.heap[b]? = w.heap[b]? := by
    intro id B b E hd hB hb
    refine hA.ext.block b ((hH.rel id B hB).lt hb) fun i A F hi hb' => ?_
    have mi := get_mem hi
    rw [gbφ i (ok.lt _ mi).1] at hb'
    exact hd i (hdomH _ mi) (hH.apart _ _ _ _ _ _ _ (getc _ mi) hB hb' hb)
  have monoφ : ∀ id q, g.φ id = some q → g'.φ id = some q := by
    intro id q h
    rw [g'old id ?_]
    · exact h
    · rintro ⟨x, hx, hp, rfl⟩
      rw [newφ x hx hp] at h
      cases h
  have mono : Mono w g w' g' := ⟨monoφ, hA.I, hA.sz⟩
  have owned : ∀ b, (∃ i A F, H.get i = some A ∧ gb.φ i = some (b, F)) → ∃ i A F, Hc'.get i = some A ∧ g.φ i = some (b, F) := by
    rintro b ⟨i, A, F, h1, h2⟩
    have mi := get_mem h1
    rw [gbφ i (ok.lt _ mi).1] at h2
    exact ⟨_, _, _, getc _ mi, h2⟩
  have oldname : ∀ id, (∀ i ∈ dom H H', ρ i ≠ id) → g'.φ id = g.φ id := fun id hd => g'old id (by rintro ⟨x, hx, _, e⟩; exact hd _ (hdomH' x hx) e)
  refine ⟨g', ⟨mono, ⟨hA.ext.os, hA.ext.tape, hA.ext.output, hA.ext.size, fun b hb hn => ?_⟩, fun id B b E hB hb hlt => ?_, fun b hb hlt => ?_, ⟨fun id B hB => ?_, fun i j b E E' A B hi hj h1 h2 => ?_, fun i b E B hi h1 hI => ?_, fun b hb => hH'.lt b hb, hH.gl.mono hA.I hA.ext.size⟩⟩, ?_, fun id hid => ?_⟩
  · refine hA.ext.block b hb fun i A F hi hb' => ?_
    obtain ⟨j, A', F', h1, h2⟩ := owned b ⟨i, A, F, hi, hb'⟩
    exact hn j A' F' h1 h2
  · rcases split id B hB with ⟨y, hy, rfl, rfl⟩ | ⟨hd, hB'⟩
    · have : gb'.φ y.1 = some (b, E) := by
        rw [← hb]; symm; refine hok y.1 ?_
        have : y.1 ∈ H'.map Prod.fst := List.mem_map_of_mem hy
        rw [Bool.or_eq_true]; exact .inr (by simpa using ⟨y.2, hy⟩)
      exact owned b (hA.own y.1 y.2 b E (mem_get ok.nd' hy) this hlt)
    · rw [oldname id hd] at hb
      exact ⟨id, B, E, hB', hb⟩
  · rcases hA.imm b hb hlt with h | h
    · exact .inl h
    · exact .inr (owned b h)
  · rcases split id B hB with ⟨y, hy, rfl, rfl⟩ | ⟨hd, hB'⟩
    · exact hrel' y hy
    · exact (hH.rel id B hB').keep mono (oldname id hd) fun b E hb => untouched id B b E hd hB' hb
  · have inK : ∀ y ∈ H', (decide (y.1 < p) || (H'.map Prod.fst).contains y.1) = true := fun y hy => by
      have : y.1 ∈ H'.map Prod.fst := List.mem_map_of_mem hy
      rw [Bool.or_eq_true]; exact .inr (by simpa using ⟨y.2, hy⟩)
    have cross : ∀ (y : Nat × Blk) (id : Nat) (C : Blk) (b E E' : Nat), y ∈ H' → (∀ i ∈ dom H H', ρ i ≠ id) → Hc'.get id = some C → gb'.φ y.1 = some (b, E) → g.φ id = some (b, E') → False := by
      intro y id C b E E' hy hd hC hy1 hid
      obtain ⟨i, A', F', h3, h4⟩ := owned b (hA.own y.1 y.2 b E (mem_get ok.nd' hy) hy1 ((hH.rel id C hC).lt hid))
      have := hH.apart _ _ _ _ _ _ _ h3 hC h4 hid
      subst this
      obtain ⟨k, A2, F2, h5, h6⟩ := hA.own y.1 y.2 b E (mem_get ok.nd' hy) hy1 ((hH.rel i C hC).lt hid)
      have mk := get_mem h5
      rw [gbφ k (ok.lt _ mk).1] at h6
      exact hd k (hdomH _ mk) (hH.apart _ _ _ _ _ _ _ (getc _ mk) hC h6 hid)
    rcases split i A hi with ⟨y, hy, rfl, rfl⟩ | ⟨hd, hB'⟩ <;> rcases split j B hj with ⟨z, hz, rfl, rfl⟩ | ⟨hd2, hB2⟩
    · rw [hok y.1 (inK y hy)] at h1
      rw [hok z.1 (inK z hz)] at h2
      rw [hH'.apart _ _ _ _ _ _ _ (mem_get ok.nd' hy) (mem_get ok.nd' hz) h1 h2]
    · rw [hok y.1 (inK y hy)] at h1
      rw [oldname j hd2] at h2
      exact (cross y j B b E E' hy hd2 hB2 h1 h2).elim
    · rw [hok z.1 (inK z hz)] at h2
      rw [oldname i hd] at h1
      exact (cross z i A b E' E hz hd hB' h2 h1).elim
    · rw [oldname i hd] at h1
      rw [oldname j hd2] at h2
      exact hH.apart _ _ _ _ _ _ _ hB' hB2 h1 h2
  · rcases split i B hi with ⟨y, hy, rfl, rfl⟩ | ⟨hd, hB'⟩
    · have : gb'.φ y.1 = some (b, E) := by
        rw [← h1]; symm; refine hok y.1 ?_
        have : y.1 ∈ H'.map Prod.fst := List.mem_map_of_mem hy
        rw [Bool.or_eq_true]; exact .inr (by simpa using ⟨y.2, hy⟩)
      exact hH'.imm _ _ _ _ (mem_get ok.nd' hy) this hI
    · rw [oldname i hd] at h1
      have hlt := (hH.rel i B hB').lt h1
      rcases hA.imm b hI hlt with h | ⟨k, A2, F2, h5, h6⟩
      · exact hH.imm _ _ _ _ hB' h1 h
      · have mk := get_mem h5
        rw [gbφ k (ok.lt _ mk).1] at h6
        exact hd k (hdomH _ mk) (hH.apart _ _ _ _ _ _ _ (getc _ mk) hB' h6 h1)
  · exact Cv.ren (g := gk) (g' := g') (fun _ h => h) gkφ (toK hcv ok.resn)
  · refine g'old id ?_
    rintro ⟨x, hx, hp, rfl⟩
    rcases hid with h | h
    · exact h (List.mem_map.2 ⟨(ρ x.1, some (x.2.ren ρ)), List.mem_append.2 (.inl (List.mem_map.2 ⟨x, hx, rfl⟩)), rfl⟩)
    · exact h (newc x hx hp)

theorem ACalls.of_fun {P : Program} {f : FuncId} {p : Nat} {vs ws : List AV} {H H' Hc : AH} {v : AV} (ρ : Nat → Nat) (hf : AFun P f p vs H v H') (ok : CallOk p ρ vs H v H' Hc ws) : ACalls P f ws Hc (atCall ρ H v H') :=
  ACallsC.of_fun (C := CF P f) (fun h k => Calls.mono h k) ρ hf ok
/-- A function that owns nothing and hands nothing back that is owned. -/
theorem ACalls.pure {P : Program} {f : FuncId} {vs : List AV} {H : AH} {v : AV} (hf : AFun P f 0 vs [] v []) (ha : AV.namesL (fun _ => false) vs = true) (hv : v.names (fun _ => false) = true) : ACalls P f vs H { v := v } := by
  have ren_id : ∀ v : AV, v.ren id = v := fun v => AV.rec (motive_1 := fun v => v.ren id = v) (motive_2 := fun l => AV.renL id l = l) rfl (fun b v h => by simp [AV.ren, h]) (fun v => rfl) (fun _ _ _ _ => rfl) (fun _ _ _ => rfl) (fun _ _ _ _ _ => rfl) (fun _ _ _ _ => rfl)
      (fun cs h => by simp [AV.ren, h]) (fun cs h => by simp [AV.ren, h]) (fun f cs k h => by simp [AV.ren, h]) (fun _ => rfl) (fun _ _ _ cs h => by simp [AV.ren, h]) (fun _ _ => rfl) rfl (fun v l h1 h2 => by simp [AV.renL, h1, h2]) v
  have := ACalls.of_fun (Hc := H) (ws := vs) id hf ⟨by rw [renL_map, List.map_congr_left (fun a _ => ren_id a), List.map_id'], by simpa using ha, by simp [dom], fun x hx => (by cases hx), by simp, by simp, fun x hx => (by cases hx), by simpa using hv, fun x hx => (by cases hx), fun x hx => (by cases hx), fun x hx => (by cases hx), fun i _ x hx => (by cases hx)⟩
  simpa [atCall, ren_id] using this

/-! ### Words for a walk -/
theorem wrap_id {x : Int} (h1 : -9223372036854775808 ≤ x) (h2 : x ≤ 9223372036854775807) : IntKind.i64.wrap x = x := IntWalk.i64_in _ (by omega)
theorem LetI.wrap {o : Option BinOp} {x : Int} {K : Int → Prop} (h1 : -9223372036854775808 ≤ x) (h2 : x ≤ 9223372036854775807) (k : K x) : LetI o (IntKind.i64.wrap x) K := ⟨x, (wrap_id h1 h2).symm, k⟩
theorem CallN.pure {P : Program} {f : FuncId} {vs : List AV} {H : AH} {v : AV} {K : Out → Prop} (hf : AFun P f 0 vs [] v []) (ha : AV.namesL (fun _ => false) vs = true) (hv : v.names (fun _ => false) = true) (k : K { v := v }) : CallN P f vs H K := ⟨_, ACalls.pure hf ha hv, k⟩
theorem CallN.own {P : Program} {f : FuncId} {p : Nat} {vs ws : List AV} {H H' Hc : AH} {v : AV} {K : Out → Prop} (ρ : Nat → Nat) (hf : AFun P f p vs H v H') (ok : CallOk p ρ vs H v H' Hc ws) (k : K (atCall ρ H v H')) : CallN P f ws Hc K := ⟨_, ACalls.of_fun ρ hf ok, k⟩
end Go.Proofs.Ytjnmbmdplchfkaa.Am
