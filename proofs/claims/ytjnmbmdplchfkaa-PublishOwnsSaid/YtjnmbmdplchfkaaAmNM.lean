/- The owned machine, part NM: functions that give one of several results, chosen by the world. -/
import Derived.Test.YtjnmbmdplchfkaaAmAL
set_option linter.all false
namespace Go.Proofs.Ytjnmbmdplchfkaa.Am
variable [Lo]
open Go
set_option linter.unusedVariables false
/-- Function f gives one of the results R (what it returns, and the owned blocks it leaves). -/
def DFun (P : Program) (f : FuncId) (p : Nat) (vs : List AV) (H : AH) (R : AV → AH → Prop) : Prop :=
  ∀ w g (xs : Array Value), vs.length = xs.size → (∀ (i : Nat) (v : AV) (x : Value), vs[i]? = some v → xs[i]? = some x → Cv w g v x) → HRel w g H → Fresh g p →
    Calls P f xs w fun e w' => ∃ x g' v H', R v H' ∧ e = .returned x ∧ AdvP p w g H w' g' H' ∧ Cv w' g' v x ∧ HRel w' g' H'
theorem DFun.calls {P : Program} {f : FuncId} {p : Nat} {vs ws : List AV} {H H0 Hc : AH} {v0 : AV} {R : AV → AH → Prop} (ρ : Nat → Nat) (hf : DFun P f p vs H R) (ok0 : CallOk p ρ vs H v0 H0 Hc ws) (okA : ∀ v H', R v H' → CallOk p ρ vs H v H' Hc ws) :
    ∀ w g (xs : Array Value), ws.length = xs.size → (∀ (i : Nat) (v : AV) (x : Value), ws[i]? = some v → xs[i]? = some x → Cv w g v x) → HRel w g Hc → (∀ v H', R v H' → ∀ q ∈ (atCall ρ H v H').δ, Hc.get q.1 = none → g.φ q.1 = none) →
      Calls P f xs w fun e w' => ∃ x, e = .returned x ∧ ∃ v H', R v H' ∧ Post w g Hc (atCall ρ H v H').v (atCall ρ H v H').δ x w' := by
  intro w g xs hl hxs hH hφ
  have hdomH : ∀ x ∈ H, x.1 ∈ dom H H0 := by
    intro x hx
    unfold dom
    by_cases h : x.1 ∈ H0.map Prod.fst
    · exact List.mem_append.2 (.inl h)
    · exact List.mem_append.2 (.inr (List.mem_filter.2 ⟨List.mem_map_of_mem hx, by simpa using h⟩))
  have hdomH0 : ∀ x ∈ H0, x.1 ∈ dom H H0 := fun x hx => List.mem_append.2 (.inl (List.mem_map_of_mem hx))
  have inj : ∀ {i j : Nat}, i ∈ dom H H0 → j ∈ dom H H0 → ρ i = ρ j → i = j := fun hi hj e => nodup_inj ok0.inj hi hj e
  have getc : ∀ x ∈ H, Hc.get (ρ x.1) = some (x.2.ren ρ) := fun x hx => ok0.have_ x hx
  -- the callee's ghost
  let gb : Gh := ⟨fun i => if i < p then g.φ (ρ i) else none, g.I⟩
  have gbφ : ∀ i, i < p → gb.φ i = g.φ (ρ i) := fun i hi => if_pos hi
  have un : ∀ id q, decide (id < p) = true → g.φ (ρ id) = some q → gb.φ id = some q := fun id q hid h => by rw [gbφ id (of_decide_eq_true hid)]; exact h
  have hHb : HRel w gb H := by
    refine ⟨fun i B hB => ?_, fun i j b E E' A B hi hj h1 h2 => ?_, fun i b E B hi h1 => ?_, hH.lt, hH.gl⟩
    · have hm := get_mem hB
      obtain ⟨h1, h2⟩ := ok0.lt _ hm
      exact Blk.Rel.unren (ρ := ρ) (ok := fun i => decide (i < p)) (g := g) (g' := gb) (fun _ h => h) un (by simpa using h1) (fun h => by rw [gbφ i h1]; exact h) h2 (hH.rel (ρ i) _ (getc _ hm))
    · have mi := get_mem hi
      have mj := get_mem hj
      rw [gbφ i (ok0.lt _ mi).1] at h1
      rw [gbφ j (ok0.lt _ mj).1] at h2
      exact inj (hdomH _ mi) (hdomH _ mj) (hH.apart _ _ _ _ _ _ _ (getc _ mi) (getc _ mj) h1 h2)
    · have mi := get_mem hi
      rw [gbφ i (ok0.lt _ mi).1] at h1
      exact hH.imm _ _ _ _ (getc _ mi) h1
  have hlen : vs.length = xs.size := by rw [← hl, ok0.args, renL_map, List.length_map]
  refine Calls.mono (hf w gb xs hlen (fun i u x hu hx => ?_) hHb (fun id hid => if_neg (by omega))) fun e w' ⟨x, gb', v, H', hR, he, hA, hcv, hH'⟩ => ⟨x, he, v, H', hR, ?_⟩
  · refine (hxs i (u.ren ρ) x (by rw [ok0.args, renL_map, List.getElem?_map, hu]; rfl) hx).unren (ρ := ρ) (ok := fun i => decide (i < p)) (g' := gb) (fun _ h => h) un ?_ rfl
    have := ok0.argn
    rw [namesL_all] at this
    exact List.all_eq_true.1 this u (List.mem_of_getElem? hu)
  have ok := okA v H' hR
  have hdomH : ∀ x ∈ H, x.1 ∈ dom H H' := by
    intro x hx
    unfold dom
    by_cases h : x.1 ∈ H'.map Prod.fst
    · exact List.mem_append.2 (.inl h)
    · exact List.mem_append.2 (.inr (List.mem_filter.2 ⟨List.mem_map_of_mem hx, by simpa using h⟩))
  have hdomH' : ∀ x ∈ H', x.1 ∈ dom H H' := fun x hx => List.mem_append.2 (.inl (List.mem_map_of_mem hx))
  have inj : ∀ {i j : Nat}, i ∈ dom H H' → j ∈ dom H H' → ρ i = ρ j → i = j := fun hi hj e => nodup_inj ok.inj hi hj e
  have getc : ∀ x ∈ H, Hc.get (ρ x.1) = some (x.2.ren ρ) := fun x hx => ok.have_ x hx
  have newc : ∀ x ∈ H', p ≤ x.1 → Hc.get (ρ x.1) = none := fun x hx hp => ok.new x hx hp
  have newφ : ∀ x ∈ H', p ≤ x.1 → g.φ (ρ x.1) = none := fun x hx hp => hφ v H' hR (ρ x.1, some (x.2.ren ρ)) (List.mem_append.2 (.inl (List.mem_map.2 ⟨x, hx, rfl⟩))) (newc x hx hp)
  -- the caller's ghost behind the call
  have hpick : ∀ id : Nat, (∃ x ∈ H', p ≤ x.1 ∧ ρ x.1 = id) ∨ ¬ ∃ x ∈ H', p ≤ x.1 ∧ ρ x.1 = id := fun id => Classical.em _
  let g' : Gh := ⟨fun id => open Classical in if h : ∃ x ∈ H', p ≤ x.1 ∧ ρ x.1 = id then gb'.φ h.choose.1 else g.φ id, gb'.I⟩
  have g'new : ∀ x ∈ H', p ≤ x.1 → g'.φ (ρ x.1) = gb'.φ x.1 := by
    intro x hx hp
    have hex : ∃ y ∈ H', p ≤ y.1 ∧ ρ y.1 = ρ x.1 := ⟨x, hx, hp, rfl⟩
    show (open Classical in if h : ∃ y ∈ H', p ≤ y.1 ∧ ρ y.1 = ρ x.1 then gb'.φ h.choose.1 else g.φ (ρ x.1)) = _
    rw [dif_pos hex]
    have hc := hex.choose_spec
    rw [inj (hdomH' _ hc.1) (hdomH' _ hx) hc.2.2]
  have g'old : ∀ id, (¬ ∃ x ∈ H', p ≤ x.1 ∧ ρ x.1 = id) → g'.φ id = g.φ id := by
    intro id h
    show (open Classical in if h : ∃ y ∈ H', p ≤ y.1 ∧ ρ y.1 = id then gb'.φ h.choose.1 else g.φ id) = _
    rw [dif_neg h]
  have g'p : ∀ i, i < p → g'.φ (ρ i) = gb'.φ i := by
    intro i hi
    rw [g'old (ρ i) (by rintro ⟨x, hx, hp, e⟩; exact ok.apart i hi x hx hp e.symm), hA.φ i hi, gbφ i hi]
  have hok : ∀ i, (decide (i < p) || (H'.map Prod.fst).contains i) = true → g'.φ (ρ i) = gb'.φ i := by
    intro i hi
    by_cases h : i < p
    · exact g'p i h
    · have hm : i ∈ H'.map Prod.fst := by simpa [h] using hi
      obtain ⟨x, hx, rfl⟩ := List.mem_map.1 hm
      exact g'new x hx (by omega)
  -- the names of the callee, read by the caller
  let gk : Gh := ⟨fun i => if (decide (i < p) || (H'.map Prod.fst).contains i) = true then gb'.φ i else none, gb'.I⟩
  have gkφ : ∀ id q, gk.φ id = some q → g'.φ (ρ id) = some q := by
    intro id q h
    by_cases hi : (decide (id < p) || (H'.map Prod.fst).contains id) = true
    · rw [hok id hi]; rwa [show gk.φ id = gb'.φ id from if_pos hi] at h
    · rw [show gk.φ id = none from if_neg hi] at h; cases h
  have ren_id : ∀ v : AV, v.ren id = v := by
    have : ∀ (v : AV), v.ren id = v := fun v => AV.rec (motive_1 := fun v => v.ren id = v) (motive_2 := fun l => AV.renL id l = l) rfl (fun b v h => by simp [AV.ren, h]) (fun v => rfl) (fun _ _ _ _ => rfl) (fun _ _ _ => rfl) (fun _ _ _ _ _ => rfl) (fun _ _ _ _ => rfl)
      (fun cs h => by simp [AV.ren, h]) (fun cs h => by simp [AV.ren, h]) (fun f cs k h => by simp [AV.ren, h]) (fun _ => rfl) (fun _ _ _ cs h => by simp [AV.ren, h]) (fun _ _ => rfl) rfl (fun v l h1 h2 => by simp [AV.renL, h1, h2]) v
    exact this
  have ren_idL : ∀ l : List AV, AV.renL id l = l := fun l => by rw [renL_map, List.map_congr_left (fun a _ => ren_id a), List.map_id']
  have blk_id : ∀ B : Blk, B.ren id = B := by
    intro B
    cases B with
    | row E ty es => simp only [Blk.ren, ren_idL]
    | map ck kv => simp [Blk.ren, ren_id]
  have toK : ∀ {c : AV} {y : Value}, Cv w' gb' c y → c.names (fun i => decide (i < p) || (H'.map Prod.fst).contains i) = true → Cv w' gk c y := fun {c y} h hn =>
    h.unren (ρ := id) (ok := fun i => decide (i < p) || (H'.map Prod.fst).contains i) (g' := gk) (fun _ h => h) (fun i q hi h => by rw [show gk.φ i = gb'.φ i from if_pos hi]; exact h) hn (ren_id c)
  have hrel' : ∀ y ∈ H', (y.2.ren ρ).Rel w' g' (ρ y.1) := by
    intro y hy
    have hB := hH'.rel y.1 y.2 (mem_get ok.nd' hy)
    have hin : (decide (y.1 < p) || (H'.map Prod.fst).contains y.1) = true := by
      have : y.1 ∈ H'.map Prod.fst := List.mem_map_of_mem hy
      rw [Bool.or_eq_true]; exact .inr (by simpa using ⟨y.2, hy⟩)
    have hk : y.2.Rel w' gk y.1 := by
      refine Blk.Rel.unren (ρ := id) (ok := fun i => decide (i < p) || (H'.map Prod.fst).contains i) (g' := gk) (g := gb') (fun _ h => h) (fun i q hi h => by rw [show gk.φ i = gb'.φ i from if_pos hi]; exact h) hin (fun h => by rw [show gk.φ y.1 = gb'.φ y.1 from if_pos hin]; exact h) (ok.blkn y hy) ?_
      rw [blk_id]; exact hB
    exact Blk.Rel.ren (g := gk) (g' := g') (fun _ h => h) gkφ (fun h => by rw [hok y.1 hin]; rwa [show gk.φ y.1 = gb'.φ y.1 from if_pos hin] at h) hk
  -- what is behind the call
  have hnd : (((atCall ρ H v H').δ).map Prod.fst).Nodup := by
    have : ((atCall ρ H v H').δ).map Prod.fst = (dom H H').map ρ := by simp [atCall, dom, Function.comp_def]
    rw [this]; exact ok.inj
  have get' : ∀ y ∈ H', (Hc.upd (atCall ρ H v H').δ).get (ρ y.1) = some (y.2.ren ρ) := fun y hy => upd_get_mem hnd (List.mem_append.2 (.inl (List.mem_map.2 ⟨y, hy, rfl⟩)))
  have getk : ∀ i ∈ H.map Prod.fst, i ∉ H'.map Prod.fst → (Hc.upd (atCall ρ H v H').δ).get (ρ i) = none := fun i hi hn =>
    upd_get_mem hnd (List.mem_append.2 (.inr (List.mem_map.2 ⟨i, List.mem_filter.2 ⟨hi, by simpa using hn⟩, rfl⟩)))
  have getout : ∀ id, (∀ i ∈ dom H H', ρ i ≠ id) → (Hc.upd (atCall ρ H v H').δ).get id = Hc.get id := fun id h => by
    refine upd_get_out fun hm => ?_
    have : ((atCall ρ H v H').δ).map Prod.fst = (dom H H').map ρ := by simp [atCall, dom, Function.comp_def]
    rw [this] at hm
    obtain ⟨i, hi, e⟩ := List.mem_map.1 hm
    exact h i hi e
  -- a name behind the call: one of the callee's, or untouched
  have split : ∀ id B, (Hc.upd (atCall ρ H v H').δ).get id = some B → (∃ y ∈ H', id = ρ y.1 ∧ B = y.2.ren ρ) ∨ ((∀ i ∈ dom H H', ρ i ≠ id) ∧ Hc.get id = some B) := by
    intro id B h
    by_cases hd : ∃ i ∈ dom H H', ρ i = id
    · obtain ⟨i, hi, rfl⟩ := hd
      by_cases hm : i ∈ H'.map Prod.fst
      · obtain ⟨y, hy, rfl⟩ := List.mem_map.1 hm
        rw [get' y hy] at h
        injection h with h
        exact .inl ⟨y, hy, rfl, h.symm⟩
      · rcases List.mem_append.1 hi with h1 | h1
        · exact absurd h1 hm
        · rw [getk i (List.mem_filter.1 h1).1 hm] at h; cases h
    · have hd' : ∀ i ∈ dom H H', ρ i ≠ id := fun i hi e => hd ⟨i, hi, e⟩
      exact .inr ⟨hd', by rw [← getout id hd']; exact h⟩
  have untouched : ∀ id B b E, (∀ i ∈ dom H H', ρ i ≠ id) → Hc.get id = some B → g.φ id = some (b, E) → w'.heap[b]? = w.heap[b]? := by
    intro id B b E hd hB hb
    refine hA.ext.block b ((hH.rel id B hB).lt hb) fun i A F hi hb' => ?_
    have mi := get_mem hi
    rw [gbφ i (ok.lt _ mi).1] at hb'
    exact hd i (hdomH _ mi) (hH.apart _ _ _ _ _ _ _ (getc _ mi) hB hb' hb)
  have monoφ : ∀ id q, g.φ id = some q → g'.φ id = some q := by
    intro id q h
    rw [g'old id ?_]
    · exact h
    · rintro ⟨x, hx, hp, rfl⟩
      rw [newφ x hx hp] at h
      cases h
  have mono : Mono w g w' g' := ⟨monoφ, hA.I, hA.sz⟩
  have owned : ∀ b, (∃ i A F, H.get i = some A ∧ gb.φ i = some (b, F)) → ∃ i A F, Hc.get i = some A ∧ g.φ i = some (b, F) := by
    rintro b ⟨i, A, F, h1, h2⟩
    have mi := get_mem h1
    rw [gbφ i (ok.lt _ mi).1] at h2
    exact ⟨_, _, _, getc _ mi, h2⟩
  have oldname : ∀ id, (∀ i ∈ dom H H', ρ i ≠ id) → g'.φ id = g.φ id := fun id hd => g'old id (by rintro ⟨x, hx, _, e⟩; exact hd _ (hdomH' x hx) e)
  refine ⟨g', ⟨mono, ⟨hA.ext.os, hA.ext.tape, hA.ext.output, hA.ext.size, fun b hb hn => ?_⟩, fun id B b E hB hb hlt => ?_, fun b hb hlt => ?_, ⟨fun id B hB => ?_, fun i j b E E' A B hi hj h1 h2 => ?_, fun i b E B hi h1 hI => ?_, fun b hb => hH'.lt b hb, hH.gl.mono hA.I hA.ext.size⟩⟩, ?_, fun id hid => ?_⟩
  · refine hA.ext.block b hb fun i A F hi hb' => ?_
    obtain ⟨j, A', F', h1, h2⟩ := owned b ⟨i, A, F, hi, hb'⟩
    exact hn j A' F' h1 h2
  · rcases split id B hB with ⟨y, hy, rfl, rfl⟩ | ⟨hd, hB'⟩
    · have : gb'.φ y.1 = some (b, E) := by
        rw [← hb]; symm; refine hok y.1 ?_
        have : y.1 ∈ H'.map Prod.fst := List.mem_map_of_mem hy
        rw [Bool.or_eq_true]; exact .inr (by simpa using ⟨y.2, hy⟩)
      exact owned b (hA.own y.1 y.2 b E (mem_get ok.nd' hy) this hlt)
    · rw [oldname id hd] at hb
      exact ⟨id, B, E, hB', hb⟩
  · rcases hA.imm b hb hlt with h | h
    · exact .inl h
    · exact .inr (owned b h)
  · rcases split id B hB with ⟨y, hy, rfl, rfl⟩ | ⟨hd, hB'⟩
    · exact hrel' y hy
    · exact (hH.rel id B hB').keep mono (oldname id hd) fun b E hb => untouched id B b E hd hB' hb
  · have inK : ∀ y ∈ H', (decide (y.1 < p) || (H'.map Prod.fst).contains y.1) = true := fun y hy => by
      have : y.1 ∈ H'.map Prod.fst := List.mem_map_of_mem hy
      rw [Bool.or_eq_true]; exact .inr (by simpa using ⟨y.2, hy⟩)
    have cross : ∀ (y : Nat × Blk) (id : Nat) (C : Blk) (b E E' : Nat), y ∈ H' → (∀ i ∈ dom H H', ρ i ≠ id) → Hc.get id = some C → gb'.φ y.1 = some (b, E) → g.φ id = some (b, E') → False := by
      intro y id C b E E' hy hd hC hy1 hid
      obtain ⟨i, A', F', h3, h4⟩ := owned b (hA.own y.1 y.2 b E (mem_get ok.nd' hy) hy1 ((hH.rel id C hC).lt hid))
      have := hH.apart _ _ _ _ _ _ _ h3 hC h4 hid
      subst this
      obtain ⟨k, A2, F2, h5, h6⟩ := hA.own y.1 y.2 b E (mem_get ok.nd' hy) hy1 ((hH.rel i C hC).lt hid)
      have mk := get_mem h5
      rw [gbφ k (ok.lt _ mk).1] at h6
      exact hd k (hdomH _ mk) (hH.apart _ _ _ _ _ _ _ (getc _ mk) hC h6 hid)
    rcases split i A hi with ⟨y, hy, rfl, rfl⟩ | ⟨hd, hB'⟩ <;> rcases split j B hj with ⟨z, hz, rfl, rfl⟩ | ⟨hd2, hB2⟩
    · rw [hok y.1 (inK y hy)] at h1
      rw [hok z.1 (inK z hz)] at h2
      rw [hH'.apart _ _ _ _ _ _ _ (mem_get ok.nd' hy) (mem_get ok.nd' hz) h1 h2]
    · rw [hok y.1 (inK y hy)] at h1
      rw [oldname j hd2] at h2
      exact (cross y j B b E E' hy hd2 hB2 h1 h2).elim
    · rw [hok z.1 (inK z hz)] at h2
      rw [oldname i hd] at h1
      exact (cross z i A b E' E hz hd hB' h2 h1).elim
    · rw [oldname i hd] at h1
      rw [oldname j hd2] at h2
      exact hH.apart _ _ _ _ _ _ _ hB' hB2 h1 h2
  · rcases split i B hi with ⟨y, hy, rfl, rfl⟩ | ⟨hd, hB'⟩
    · have : gb'.φ y.1 = some (b, E) := by
        rw [← h1]; symm; refine hok y.1 ?_
        have : y.1 ∈ H'.map Prod.fst := List.mem_map_of_mem hy
        rw [Bool.or_eq_true]; exact .inr (by simpa using ⟨y.2, hy⟩)
      exact hH'.imm _ _ _ _ (mem_get ok.nd' hy) this hI
    · rw [oldname i hd] at h1
      have hlt := (hH.rel i B hB').lt h1
      rcases hA.imm b hI hlt with h | ⟨k, A2, F2, h5, h6⟩
      · exact hH.imm _ _ _ _ hB' h1 h
      · have mk := get_mem h5
        rw [gbφ k (ok.lt _ mk).1] at h6
        exact hd k (hdomH _ mk) (hH.apart _ _ _ _ _ _ _ (getc _ mk) hB' h6 h1)
  · exact Cv.ren (g := gk) (g' := g') (fun _ h => h) gkφ (toK hcv ok.resn)
  · refine g'old id ?_
    rintro ⟨x, hx, hp, rfl⟩
    rcases hid with h | h
    · exact h (List.mem_map.2 ⟨(ρ x.1, some (x.2.ren ρ)), List.mem_append.2 (.inl (List.mem_map.2 ⟨x, hx, rfl⟩)), rfl⟩)
    · exact h (newc x hx hp)


/-! ### A region with one operation that gives one of several results -/
section
variable {P : Program} {T : TT} {p n : Nat} {s : AS} {R : Exit → AS → Prop}
inductive OpX (P : Program) (T : TT) (n : Nat) (ops : Array Oper) (oa : Oper) (l3 : List Oper) (R : Exit → AS → Prop) (fr : Fr) (H : AH) (nx : Nat) : Prop
  | mk (h : ∃ (ι : Type) (I : ι → Prop) (val : ι → AV) (del : ι → List (Nat × Option Blk)),
    wantedQ ops fr oa = some true ∧ oa.op.operands.toList.all constOk = true ∧
    (∀ w g ρ, (∀ y ∈ oa.op.operands.toList, Cv w g (envF fr y) (ρ y)) → HRel w g H → Fresh g nx → OpOK P oa ρ w fun v w' => ∃ i, I i ∧ Post w g H (val i) (del i) v w') ∧
    ∀ i, I i → (∀ q ∈ del i, H.get q.1 = none → nx ≤ q.1) ∧ vOps P T n ops (fun _ fr H nx => R .normal ⟨fr, H, nx⟩) l3 [] (setDst n fr oa.dst (val i)) (H.upd (del i)) (nextId nx (del i)))
/-- A call of a function that gives one of several results, in a walk. -/
theorem OpX.call {ops : Array Oper} {oa : Oper} {l3 : List Oper} {fr : Fr} {Hc : AH} {nx : Nat} {fv : Operand} {args : Array Operand} {tys : Array TypeId} {f : FuncId} {caps : List AV} {k : Nat} (hw : wantedQ ops fr oa = some true) (hco : oa.op.operands.toList.all constOk = true)
    (ho : oa.op = .call { callee := .value fv, args := args, argTypes := tys }) (hf : envF fr fv = .clo f caps k) (hP : callable P f = true) {q : Nat} {vs : List AV} {H H0 : AH} {v0 : AV} {J : AV → AH → Prop} (ρ : Nat → Nat) (hd : DFun P f q vs H J)
    (ok0 : CallOk q ρ vs H v0 H0 Hc (caps.take k ++ args.toList.map (envF fr) ++ caps.drop k)) (okA : ∀ v H', J v H' → CallOk q ρ vs H v H' Hc (caps.take k ++ args.toList.map (envF fr) ++ caps.drop k))
    (hk : ∀ v H', J v H' → newOk Hc nx (atCall ρ H v H').δ = true ∧ vOps P T n ops (fun _ fr H nx => R .normal ⟨fr, H, nx⟩) l3 [] (setDst n fr oa.dst (atCall ρ H v H').v) (Hc.upd (atCall ρ H v H').δ) (nextId nx (atCall ρ H v H').δ)) : OpX P T n ops oa l3 R fr Hc nx := by
  have hnew : ∀ v H', J v H' → ∀ q ∈ (atCall ρ H v H').δ, Hc.get q.1 = none → nx ≤ q.1 := fun v H' hJ q hq hn => by
    have := List.all_eq_true.1 (hk v H' hJ).1 q hq
    rw [hn] at this
    simpa using this
  refine ⟨⟨AV × AH, fun x => J x.1 x.2, fun x => (atCall ρ H x.1 x.2).v, fun x => (atCall ρ H x.1 x.2).δ, hw, hco, fun w g ρ' hρ hH hN => ?_, fun x hx => ⟨hnew x.1 x.2 hx, (hk x.1 x.2 hx).2⟩⟩⟩
  have hc := DFun.calls ρ hd ok0 okA w g
  have hC : ∀ xs : Array Value, (caps.take k ++ args.toList.map (envF fr) ++ caps.drop k).length = xs.size → (∀ (i : Nat) (v : AV) (x : Value), (caps.take k ++ args.toList.map (envF fr) ++ caps.drop k)[i]? = some v → xs[i]? = some x → Cv w g v x) →
      Calls P f xs w fun e w' => ∃ x, e = .returned x ∧ ∃ y : AV × AH, J y.1 y.2 ∧ Post w g Hc (atCall ρ H y.1 y.2).v (atCall ρ H y.1 y.2).δ x w' := fun xs hl hx =>
    (hc xs hl hx hH fun v H' hJ q hq hn => hN _ (hnew v H' hJ q hq hn)).mono fun e w' ⟨x, he, v, H', hJ, hP⟩ => ⟨x, he, (v, H'), hJ, hP⟩
  have h1 := hρ fv (by simp [ho, Op.operands, Call.operands])
  rw [hf] at h1
  generalize hq : ρ' fv = y at h1
  cases h1 with
  | clo hk2 hl hcv =>
    rename_i fs xs
    have hrun : (execOp ρ' oa).run P w = .ok (.enter f (fs ++ args.map ρ' ++ xs)) w := by
      simp only [execOp, ho, resolve, hq]
      show (Sem.bind (Deferred.ofValue (.func (.func f) fs xs) (args.map ρ')) _).run P w = _
      rw [run_bind (a := { target := .fn (.func f) xs, args := fs ++ args.map ρ' }) (w' := w) rfl]
      show (callFunc f (fs ++ args.map ρ' ++ xs)).run P w = _
      rw [callFunc_run hP]
    unfold OpOK
    rw [hrun]
    simp only [Array.size_append] at hl
    refine hC _ (by simp; omega) (fun i v x hi hx => ?_)
    rw [List.append_assoc, List.getElem?_append] at hi
    rw [Array.append_assoc, Array.getElem?_append] at hx
    have hlt : (caps.take k).length = fs.size := by simp; omega
    rw [hlt] at hi
    split at hi
    · rename_i h1
      rw [if_pos h1] at hx
      rw [List.getElem?_take] at hi
      split at hi
      · refine hcv i v x hi ?_
        rw [Array.getElem?_append, if_pos h1]; exact hx
      · cases hi
    · rename_i h1
      rw [if_neg h1] at hx
      rw [List.getElem?_append] at hi
      rw [Array.getElem?_append] at hx
      simp only [List.length_map, Array.length_toList, Array.size_map] at hi hx
      split at hi
      · rename_i h2
        rw [if_pos h2] at hx
        simp only [List.getElem?_map, Array.getElem?_toList, Array.getElem?_map] at hi hx
        obtain ⟨u, hu, rfl⟩ := Option.map_eq_some_iff.1 hi
        rw [hu] at hx; injection hx with hx; subst hx
        refine hρ u ?_
        simp only [ho, Op.operands, Call.operands, Array.toList_append, List.mem_append]
        exact .inr (by simpa using Array.mem_of_getElem? hu)
      · rename_i h2
        rw [if_neg h2] at hx
        rw [List.getElem?_drop] at hi
        refine hcv _ v x hi ?_
        rw [Array.getElem?_append, if_neg (by omega)]
        rw [← hx]; congr 1; omega
end

/-! ### A function that gives one of several results, walked -/
theorem DFun.of_D {P : Program} {T : TT} (hT : T.Ok P) {f : FuncId} {fn : Func} {c : Code} {p : Nat} {vs : List AV} {H : AH} {J : AV → AH → Prop} (hf : P.funcs[f]? = some fn) (hb : fn.body = some c) (hn : vs.length ≤ fn.ntmps)
    (h : DRuns P p fn.ntmps c ⟨argFr vs 0, H, p⟩ fun e s1 => ∃ v H', J v H' ∧ FinS T fn p v H' e s1) : DFun P f p vs H J := by
  intro w g xs hl hxs hH0 hN
  refine callsIn_wide.1 (callsIn_of_wp_marks (n := 0) hf hb trivial (h none w.heap.size w g _ _ (fun _ => rfl) ⟨⟨by simp; omega, fun t => ?_⟩, hH0, hN⟩ (Nat.le_refl _) (DefOk.nil _ _ _) fun e s1 a' w' g0 hR hA0 hS0 hD0 => ?_))
  · rw [argFr_get]
    split
    · rename_i ht
      simp only [Nat.sub_zero]
      have ht' : t < vs.length := by omega
      rw [List.getD_eq_getElem?_getD, List.getElem?_eq_getElem ht', Array.getD_eq_getD_getElem?, Array.getElem?_append_left (by omega), Array.getElem?_eq_getElem (by omega)]
      exact hxs t _ _ (List.getElem?_eq_getElem ht') (Array.getElem?_eq_getElem (by omega))
    · exact .unk _
  · obtain ⟨v, H', hJ, s', hw, he, ⟨rv, hr, hv⟩, hH⟩ := hR
    obtain ⟨g', k1, hS⟩ := hw w' g0 a' hS0
    have hA := hA0.trans k1
    have hD := hD0.adv k1 hS0.H
    have hs := hH.get
    obtain ⟨Ds, d1, d2, d3⟩ := hD
    obtain ⟨ht, hto⟩ := shut_turn (g := g') Ds w' d2 fun D hD => (d3 D hD).2
    have hS2 := ht.srel hS
    have hA2 := ht.advP hA fun b hb => hto b fun hm => by have := (d3 b hm).1; omega
    obtain ⟨x, hx, hc⟩ := results_run (P := P) hT hS2 hr
    have fin : LeavesInM Fence.wide 0 P fn a'.tmps (fun e w' => ∃ x g' v H', J v H' ∧ e = .returned x ∧ AdvP p w g H w' g' H' ∧ Cv w' g' v x ∧ HRel w' g' H') a'.defers .returning w' := by
      rw [d1]
      refine leaves_marks Ds w' d2 (fun D hD => (d3 D hD).2.1) ⟨x, hx, x, g', v, H', hJ, rfl, ⟨hA2.φ, hA2.I, hA2.sz, hA2.ext, fun id B b E hi hb hlt => hA2.own id B b E (hs id B hi) hb hlt, hA2.imm⟩, hv ▸ hc, ?_⟩
      have hH' := hS2.H
      exact ⟨fun id B hi => hH'.rel id B (hs id B hi), fun i j b E E' A B hi hj => hH'.apart i j b E E' A B (hs i A hi) (hs j B hj), fun i b E B hi => hH'.imm i b E B (hs i B hi), hH'.lt, hH'.gl⟩
    rcases he with rfl | rfl
    · exact fin
    · exact fin
/-- A loop over a function that gives one of several results. -/
theorem DRuns.rangeFunc {P : Program} {p n : Nat} {g0 : Operand} {ps : Array Tmp} {assign body : Code} {s : AS} {f : FuncId} {caps : List AV} {k : Nat} {J : Out → Prop} (ks : List Nat) (hp : p ≤ s.nx) (hg : envF s.fr g0 = .clo f caps k) (hco : constOk g0 = true) (hcal : callable P f = true)
    (it : ∀ l rc, rc.params = ps → rc.tmps.size = n → rc.assign = assign → rc.body = body → rc.state = .ready → rc.pending = none → ∀ w g (xs : Array Value), (caps.take k ++ [AV.yl l rc ks (ks.map (fget s.fr))] ++ caps.drop k).length = xs.size →
      (∀ (i : Nat) (v : AV) (x : Value), (caps.take k ++ [AV.yl l rc ks (ks.map (fget s.fr))] ++ caps.drop k)[i]? = some v → xs[i]? = some x → Cv w g v x) → HRel w g s.H → Fresh g s.nx → Calls P f xs w fun e w' => ∃ x, e = .returned x ∧ ∃ r, J r ∧ Post w g s.H r.v r.δ x w')
    (hJ : ∀ r, J r → newOk s.H s.nx r.δ = true ∧ solidH (s.H.upd r.δ) = true) : DRuns P p n (.rangeFunc g0 ps assign body) s fun e s' => ∃ r, J r ∧ e = .normal ∧ s' = ⟨s.fr, s.H.upd r.δ, nextId s.nx r.δ⟩ := by
  intro ro B w g a Q hr hs hB hD hQ
  have hro : ro = none := hr rfl
  subst hro
  refine wpIn_rangeFunc fun fn _ => ?_
  obtain ⟨rec, hrec⟩ : ∃ rec : Loop, rec = { state := .ready, pending := none, fn, tmps := a.tmps, params := ps, assign, body, defers := w.heap.size } := ⟨_, rfl⟩
  have hc0 := hs.fr.env hs.H.gl hco
  rw [hg] at hc0
  generalize hq : a.eval g0 = y at hc0
  have hold : ∀ b, b < w.heap.size → ((w.alloc (.deferred (some []))).alloc (.loop rec)).heap[b]? = w.heap[b]? := fun b hb => by
    simp only [World.alloc, Array.getElem?_push, Array.size_push]
    rw [if_neg (by omega), if_neg (by omega)]
  have hl1 : ((w.alloc (.deferred (some []))).alloc (.loop rec)).heap[w.heap.size + 1]? = some (.loop rec) := by
    have := World.alloc_heap_new (w.alloc (.deferred (some []))) (.loop rec); rwa [World.size_alloc] at this
  have hD1 : ((w.alloc (.deferred (some []))).alloc (.loop rec)).heap[w.heap.size]? = some (.deferred (some [])) := by
    simp only [World.alloc, Array.getElem?_push, Array.size_push]
    rw [if_neg (by omega)]; simp
  have hsz1 : ((w.alloc (.deferred (some []))).alloc (.loop rec)).heap.size = w.heap.size + 2 := by simp
  have hent := run_enterLoop_outer (P := P) (w := w) fn a.tmps ps assign body
  rw [← hrec] at hent
  have hos1 : ((w.alloc (.deferred (some []))).alloc (.loop rec)).os = w.os ∧ ((w.alloc (.deferred (some []))).alloc (.loop rec)).tape = w.tape ∧ ((w.alloc (.deferred (some []))).alloc (.loop rec)).output = w.output := ⟨rfl, rfl, rfl⟩
  generalize (w.alloc (.deferred (some []))).alloc (.loop rec) = w1 at hold hl1 hD1 hsz1 hent hos1
  obtain ⟨g1, hg1⟩ : ∃ g1 : Gh, g1 = ⟨g.φ, fun b => g.I b ∨ b = w.heap.size + 1⟩ := ⟨_, rfl⟩
  have hIlt := hs.H.lt
  have m1 : Mono w g w1 g1 := by
    rw [hg1]
    exact ⟨fun _ _ h => h, fun b h => ⟨.inl h, hold b (hIlt b h)⟩, fun b cs ty fz h => ⟨cs, (hold b (heap_lt h)).trans h, rfl⟩⟩
  have hH1 : HRel w1 g1 s.H := by
    refine ⟨fun id A hA => (hs.H.rel id A hA).keep m1 (by rw [hg1]) fun b E hφ => hold b ((hs.H.rel id A hA).lt hφ), by rw [hg1]; exact hs.H.apart, fun i b E A hi hφ hI => ?_, fun b hb => ?_, hs.H.gl.mono m1.I⟩
    · rw [hg1] at hφ hI
      rcases hI with h | h
      · exact hs.H.imm i b E A hi hφ h
      · have := (hs.H.rel i A hi).lt hφ; omega
    · rw [hg1] at hb
      rcases hb with h | h
      · have := hIlt b h; omega
      · omega
  have hyl : Cv w1 g1 (.yl (w.heap.size + 1) rec ks (ks.map (fget s.fr))) (.func (.yield (w.heap.size + 1)) #[] #[]) := by
    refine .yl (by rw [hg1]; exact .inr rfl) hl1 (by simp) fun i k c hi hc => ?_
    rw [List.getElem?_map, hi] at hc
    injection hc with hc
    subst hc
    rw [hrec]
    exact (hs.fr.at_ k).mono m1
  cases hc0 with
  | clo hk hlen hcv =>
    rename_i fs xs
    simp only [Array.size_append] at hlen
    have hcall := it (w.heap.size + 1) rec (by rw [hrec]) (by rw [hrec]; exact hs.fr.size) (by rw [hrec]) (by rw [hrec]) (by rw [hrec]) (by rw [hrec])
    refine ⟨w.heap.size + 1, [mark w.heap.size], w1, { target := .fn (.func f) xs, args := fs ++ #[.func (.yield (w.heap.size + 1)) #[] #[]] }, w1, f, fs ++ #[.func (.yield (w.heap.size + 1)) #[] #[]] ++ xs, w1, hent, ?_, fun _ _ => trivial, ?_, fun h => absurd h (by decide), ?_⟩
    · simp only [resolve, hq]
      have hm : Array.map a.eval #[Operand.const (.func (.yield (w.heap.size + 1)) #[] #[])] = #[.func (.yield (w.heap.size + 1)) #[] #[]] := by simp [Act.eval]
      rw [hm]
      show (Sem.bind (Deferred.ofValue (.func (.func f) fs xs) _) _).run P w1 = _
      rw [run_bind (a := { target := .fn (.func f) xs, args := fs ++ #[.func (.yield (w.heap.size + 1)) #[] #[]] }) (w' := w1) rfl]; rfl
    · show (callFunc f (fs ++ #[.func (.yield (w.heap.size + 1)) #[] #[]] ++ xs)).run P w1 = _
      rw [callFunc_run hcal]
    · refine callsIn_wide.2 (Calls.mono (hcall w1 g1 _ (by simp; omega) (fun i v x hi hx => ?_) hH1 (by rw [hg1]; exact hs.nx)) fun e w3 ⟨x, he, r, hJr, g3, hA, hc3, hφ⟩ => ?_)
      · rw [List.append_assoc, List.getElem?_append] at hi
        rw [Array.append_assoc, Array.getElem?_append] at hx
        have hlt : (caps.take k).length = fs.size := by simp; omega
        rw [hlt] at hi
        split at hi
        · rename_i h1
          rw [if_pos h1] at hx
          rw [List.getElem?_take] at hi
          split at hi
          · refine (hcv i v x hi ?_).mono m1
            rw [Array.getElem?_append, if_pos h1]; exact hx
          · cases hi
        · rename_i h1
          rw [if_neg h1] at hx
          rw [List.getElem?_append] at hi
          rw [Array.getElem?_append] at hx
          simp only [List.length_singleton, List.size_toArray] at hi hx
          split at hi
          · rename_i h2
            rw [if_pos h2] at hx
            have h0 : i - fs.size = 0 := by omega
            rw [h0] at hi hx
            simp at hi hx
            subst hi hx
            exact hyl
          · rename_i h2
            rw [if_neg h2] at hx
            rw [List.getElem?_drop] at hi
            refine (hcv _ v x hi ?_).mono m1
            rw [Array.getElem?_append, if_neg (by omega)]
            rw [← hx]; congr 1; omega
      · subst he
        obtain ⟨hnew, hsol⟩ := hJ r hJr
        have hI1 : g1.I (w.heap.size + 1) := by rw [hg1]; exact .inr rfl
        have hl3 := (hA.mono.I _ hI1).2.trans hl1
        have hrun := run_endLoop (P := P) hl3 (by rw [hrec]; simp)
        generalize ({ rec with state := .exhausted } : Loop) = rx at hrun
        rw [show rec.pending = none by rw [hrec]] at hrun
        refine ⟨none, _, hrun, ?_⟩
        have hg4 : ¬ (g3.less (w.heap.size + 1)).I (w.heap.size + 1) := fun h => h.2 rfl
        have hH3s := hA.rel.strip hl3 rfl hsol
        have ht := putObj_turn (o := .loop rx) hl3 rfl hg4
        have hg1φ : g1.φ = g.φ := by rw [hg1]
        have hφp : ∀ id, id < p → g3.φ id = g.φ id := fun id hid => by
          rw [← hg1φ]
          refine hφ id ?_
          by_cases hm : id ∈ r.δ.map Prod.fst
          · refine .inr fun hn => ?_
            obtain ⟨q, hq, rfl⟩ := List.mem_map.1 hm
            have := List.all_eq_true.1 hnew q hq
            rw [hn] at this
            have : s.nx ≤ q.1 := by simpa using this
            omega
          · exact .inl hm
        have hAI : ∀ b, g.I b → (g3.less (w.heap.size + 1)).I b ∧ w3.heap[b]? = w.heap[b]? := fun b hb => by
          have hlt := hIlt b hb
          have h1 := hA.mono.I b (by rw [hg1]; exact .inl hb)
          exact ⟨⟨h1.1, by omega⟩, h1.2.trans (hold b hlt)⟩
        have hAsz : ∀ (b : Nat) (cs : Array Value) (ty : TypeId) (fz : Nat × Nat), w.heap[b]? = some (.cells cs ty fz) → ∃ cs' : Array Value, w3.heap[b]? = some (Obj.cells cs' ty fz) ∧ cs'.size = cs.size := fun b cs ty fz hb => hA.mono.sz b cs ty fz ((hold b (heap_lt hb)).trans hb)
        have hA3 : AdvP p w g s.H w3 (g3.less (w.heap.size + 1)) (s.H.upd r.δ) := by
          refine ⟨hφp, hAI, hAsz, ⟨hA.ext.os.trans hos1.1, hA.ext.tape.trans hos1.2.1, hA.ext.output.trans hos1.2.2, by have := hA.ext.size; omega, fun b hb hn => ?_⟩, fun id A b E hi hφb hlt => ?_, fun b hb hlt => ?_⟩
          · refine (hA.ext.block b (by omega) fun id A E hi => ?_).trans (hold b hb)
            rw [hg1φ]; exact hn id A E hi
          · obtain ⟨i, A', F, h1, h2⟩ := hA.own id A b E hi hφb (by omega)
            exact ⟨i, A', F, h1, by rw [← hg1φ]; exact h2⟩
          · rcases hA.imm b hb.1 (by omega) with h | ⟨i, A', F, h1, h2⟩
            · rw [hg1] at h
              exact h.imp _root_.id fun e => absurd e (by omega)
            · exact .inr ⟨i, A', F, h1, by rw [← hg1φ]; exact h2⟩
        have hoth : ∀ b, b ≠ w.heap.size + 1 → (w3.putObj (w.heap.size + 1) (.loop rx)).heap[b]? = w3.heap[b]? := fun b hb => World.putObj_heap_other hb
        have hA4 := ht.advP hA3 fun b hb => hoth b (by omega)
        have m4 : Mono w g (w3.putObj (w.heap.size + 1) (.loop rx)) (g3.less (w.heap.size + 1)) :=
          ⟨fun id q h => hA.mono.φ id q (by rw [hg1φ]; exact h), hA4.I, hA4.sz⟩
        have hfr4 := hs.fr.mono m4
        have hD3 := ((AdvP.of_adv (p := 0) hA (fun id h => absurd h (Nat.not_lt_zero _))).inert hH1 hD1 rfl)
        have hnI : ¬ g1.I w.heap.size := by
          rw [hg1]
          rintro (h | h)
          · exact absurd (hIlt _ h) (Nat.lt_irrefl _)
          · omega
        refine hQ .normal _ _ _ _ ⟨r, hJr, rfl, rfl⟩ hA4 ⟨⟨hfr4.size, hfr4.at_⟩, ht.hrel hH3s, ?_⟩ ((hD.adv hA4 hs.H).push hB ((hoth _ (by omega)).trans hD3.1) (fun h => hD3.2 hnI h.1) fun hm => ?_)
        · refine Post.fresh (H := s.H) (g := g1) ?_ hφ
          intro id hid
          rw [hg1φ]; exact hs.nx id hid
        · obtain ⟨Ds, d1, d2, d3⟩ := hD
          rw [d1] at hm
          obtain ⟨D, hDm, hDe⟩ := List.mem_map.1 hm
          have hDe : D = w.heap.size := by simpa using hDe
          have := (Array.getElem?_eq_some_iff.1 (d3 D hDm).2.1).1
          omega
end Go.Proofs.Ytjnmbmdplchfkaa.Am
