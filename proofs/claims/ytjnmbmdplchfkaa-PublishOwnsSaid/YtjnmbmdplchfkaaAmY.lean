/- The owned machine, part Y: append does what its step says. -/
import Derived.Test.YtjnmbmdplchfkaaAmX
set_option linter.all false
namespace Go.Proofs.Ytjnmbmdplchfkaa.Am
variable [Lo]
set_option linter.unusedVariables false

theorem HRel.del {w : World} {g : Gh} {H : AH} (h : HRel w g H) (id : Nat) : HRel w g (H.del id) := by
  have sub : ∀ {j : Nat} {B : Blk}, (H.del id).get j = some B → H.get j = some B := by
    intro j B hj
    rw [AH.get_del] at hj
    split at hj
    · cases hj
    · exact hj
  exact ⟨fun j B hj => h.rel j B (sub hj), fun i j b E E' A B hi hj => h.apart i j b E E' A B (sub hi) (sub hj), fun i b E B hi => h.imm i b E B (sub hi), h.lt, h.gl⟩
theorem HRel.virt {w : World} {g : Gh} {H : AH} (h : HRel w g H) {nx E : Nat} {ty : TypeId} (hφ : g.φ nx = none) : HRel w g (H.set nx (.row E ty [])) := by
  have sub : ∀ {j : Nat} {B : Blk} {q : Nat × Nat}, (H.set nx (.row E ty [])).get j = some B → g.φ j = some q → H.get j = some B := by
    intro j B q hj hq
    rw [AH.get_set] at hj
    split at hj
    · rename_i e; subst e; rw [hφ] at hq; cases hq
    · exact hj
  refine ⟨fun j B hj => ?_, fun i j b E E' A B hi hj h1 h2 => h.apart i j b E E' A B (sub hi h1) (sub hj h2) h1 h2, fun i b E B hi h1 => h.imm i b E B (sub hi h1) h1, h.lt, h.gl⟩
  rw [AH.get_set] at hj
  split at hj
  · rename_i e; subst e; injection hj with hj; subst hj
    exact ⟨(fun e he => by cases he), .inl ⟨hφ, rfl⟩⟩
  · exact h.rel j B hj
theorem mono_drawn (w : World) (g : Gh) (k : Nat) : Mono w g { w with drawn := k } g := ⟨fun _ _ h => h, fun _ h => ⟨h, rfl⟩, fun _ cs _ _ h => ⟨cs, h, rfl⟩⟩
theorem HRel.drawn {w : World} {g : Gh} {H : AH} (h : HRel w g H) (k : Nat) : HRel { w with drawn := k } g H :=
  ⟨fun i B hi => (h.rel i B hi).keep (mono_drawn w g k) rfl fun _ _ _ => rfl, h.apart, h.imm, h.lt, h.gl.mono (mono_drawn w g k).I⟩
theorem Adv.from_drawn {w w' : World} {g g' : Gh} {H H' : AH} {k : Nat} (h : Adv { w with drawn := k } g H w' g' H') : Adv w g H w' g' H' :=
  ⟨⟨h.mono.φ, h.mono.I, h.mono.sz⟩, ⟨h.ext.os, h.ext.tape, h.ext.output, h.ext.size, h.ext.block⟩, h.own, h.imm, h.rel⟩
theorem Adv.weaken {w w' : World} {g g' : Gh} {H H1 H' : AH} (hs : ∀ id B, H1.get id = some B → H.get id = some B) (h : Adv w g H1 w' g' H') : Adv w g H w' g' H' :=
  ⟨h.mono, ⟨h.ext.os, h.ext.tape, h.ext.output, h.ext.size, fun b hb hn => h.ext.block b hb fun id B E hi => hn id B E (hs id B hi)⟩, fun id B b E hi hb hlt => by
    obtain ⟨i, A, F, h1, h2⟩ := h.own id B b E hi hb hlt
    exact ⟨i, A, F, hs i A h1, h2⟩, fun b hb hlt => by
    rcases h.imm b hb hlt with h1 | ⟨i, A, F, h1, h2⟩
    · exact .inl h1
    · exact .inr ⟨i, A, F, hs i A h1, h2⟩, h.rel⟩
theorem del_sub {H : AH} {id : Nat} : ∀ j B, (H.del id).get j = some B → H.get j = some B := by
  intro j B hj
  rw [AH.get_del] at hj
  split at hj
  · cases hj
  · exact hj
theorem adv_new {w : World} {g : Gh} {H : AH} (hH : HRel w g H) {id E : Nat} {B : Blk} {o : Obj} (hn : H.get id = none) (hφ : g.φ id = none) (hB : B.Rel (w.alloc o) (g.new id w.heap.size E) id) : Adv w g H (w.alloc o) (g.new id w.heap.size E) (H.set id B) :=
  ⟨Mono.new o hφ hH.lt, Ext.alloc o, fun k B b E' hk hb hlt => by
    simp only [AH.get_set] at hk
    simp only [Gh.new] at hb
    split at hk
    · rename_i e; rw [if_pos e] at hb; injection hb with hb; injection hb with hb _; omega
    · rename_i e; rw [if_neg e] at hb; exact ⟨k, B, E', hk, hb⟩, fun _ h _ => .inl h, hH.new hn hφ hB⟩
theorem row_two {w : World} {g : Gh} {E : Nat} {l1 l2 : List AV} {c1 c2 c3 : Array Value} (h1 : RowOf w g E l1 c1 0) (s1 : c1.size = l1.length * E) (h2 : RowOf w g E l2 c2 0) (s2 : c2.size = l2.length * E) (e1 : ∀ e ∈ l1, e.cells.length = E) (e2 : ∀ e ∈ l2, e.cells.length = E) : RowOf w g E (l1 ++ l2) (c1 ++ c2 ++ c3) 0 := by
  intro i j e c hi hj
  rw [List.getElem?_append] at hi
  have hjl := (List.getElem?_eq_some_iff.1 hj).1
  rw [Array.append_assoc]
  split at hi
  · rename_i hlt
    obtain ⟨x, hx, hc⟩ := h1 i j e c hi hj
    exact ⟨x, by rw [Array.getElem?_append_left (by have := (Array.getElem?_eq_some_iff.1 hx).1; exact this)]; exact hx, hc⟩
  · rename_i hlt
    obtain ⟨x, hx, hc⟩ := h2 (i - l1.length) j e c hi hj
    refine ⟨x, ?_, hc⟩
    have h3 : l1.length * E ≤ i * E := Nat.mul_le_mul_right _ (by omega)
    have h4 : (i - l1.length) * E = i * E - l1.length * E := Nat.sub_mul _ _ _
    rw [Array.getElem?_append_right (by rw [s1]; omega), Array.getElem?_append_left (by have := (Array.getElem?_eq_some_iff.1 hx).1; omega), s1]
    rw [← hx]
    congr 1
    omega
/-- A row in a new block, out of cells. -/
theorem row_in {w w' : World} {g g' : Gh} {id b E : Nat} {ty : TypeId} {l : List AV} {cs : Array Value} (m : Mono w g w' g') (hφ : g'.φ id = some (b, E)) (hb : w'.heap[b]? = some (.cells cs ty (0, 0))) (he : ∀ e ∈ l, e.cells.length = E) (hs : l.length * E ≤ cs.size) (hr : RowOf w g E l cs 0) : (Blk.row E ty l).Rel w' g' id :=
  ⟨he, .inr ⟨b, cs, hφ, hb, hs, fun i j e c hi hj => by
    obtain ⟨x, hx, hc⟩ := hr i j e c hi hj
    exact ⟨x, by simpa using hx, hc.mono m⟩⟩⟩
theorem RowOf.mono {w w' : World} {g g' : Gh} {E o : Nat} {l : List AV} {cs : Array Value} (m : Mono w g w' g') (h : RowOf w g E l cs o) : RowOf w' g' E l cs o := fun i j e c hi hj => by
  obtain ⟨x, hx, hc⟩ := h i j e c hi hj
  exact ⟨x, hx, hc.mono m⟩
theorem srcOf_congr {H H' : AH} {E : Nat} {v : AV} {b : Bool} {es : List AV} {D : List Nat} (h : srcOf H E v = some (b, es, D)) (hD : ∀ id ∈ D, H'.get id = H.get id) : srcOf H' E v = some (b, es, D) := by
  unfold srcOf at h ⊢
  split at h
  · exact h
  · exact h
  · rename_i full id E' off len
    split at h
    · rename_i hB
      have : D = [id] := by simp only [Option.some.injEq, Prod.mk.injEq] at h; exact h.2.2.symm
      subst this
      rw [hD id (by simp), hB]; exact h
    · cases h
  · cases h

section
variable {P : Program} {T : TT} (hT : T.Ok P) {o : Oper} {env : Operand → AV} {H : AH} {r : Out}
include hT

omit hT in
/-- A slice that is made anew out of two lists of elements. -/
theorem append_fresh {w : World} {g : Gh} {H0 : AH} (hH : HRel w g H0) {nx : Nat} (hn : H0.get nx = none) (hφ : g.φ nx = none) {e : TypeId} {ti : TI} {l1 l2 : List AV} {c1 c2 c3 : Array Value} {newCap : Nat} (nn : Bool) (h1 : RowOf { w with drawn := w.drawn + 1 } g ti.size l1 c1 0) (s1 : c1.size = l1.length * ti.size) (h2 : RowOf { w with drawn := w.drawn + 1 } g ti.size l2 c2 0) (s2 : c2.size = l2.length * ti.size)
    (e1 : ∀ x ∈ l1, x.cells.length = ti.size) (e2 : ∀ x ∈ l2, x.cells.length = ti.size) (s3 : c3.size = (newCap - (l1.length + l2.length)) * ti.size) (hc : l1.length + l2.length ≤ newCap) :
    ∃ g', Adv w g H0 (World.alloc { w with drawn := w.drawn + 1 } (.cells (c1 ++ c2 ++ c3) e)) g' (H0.set nx (.row ti.size e (l1 ++ l2))) ∧
      Cv (World.alloc { w with drawn := w.drawn + 1 } (.cells (c1 ++ c2 ++ c3) e)) g' (.slm ⟨false, nn⟩ nx ti.size 0 (l1.length + l2.length)) (.slice (some ⟨w.heap.size, 0, none⟩) (l1.length + l2.length) newCap) ∧ ∀ id, id ≠ nx → g'.φ id = g.φ id := by
  have hH1 := hH.drawn (w.drawn + 1)
  have m := Mono.new (E := ti.size) (.cells (c1 ++ c2 ++ c3) e) hφ hH1.lt
  have hsz : (c1 ++ c2 ++ c3).size = newCap * ti.size := by
    simp only [Array.size_append, s1, s2, s3]
    rw [← Nat.add_mul, ← Nat.add_mul]; congr 1; omega
  have hrow : (Blk.row ti.size e (l1 ++ l2)).Rel (World.alloc { w with drawn := w.drawn + 1 } (.cells (c1 ++ c2 ++ c3) e)) (g.new nx w.heap.size ti.size) nx := by
    refine row_in m (gnew_at g nx w.heap.size ti.size) (alloc_get _ _) (fun x hx => ?_) (by rw [hsz, List.length_append]; exact Nat.mul_le_mul_right _ hc) (row_two h1 s1 h2 s2 e1 e2)
    rcases List.mem_append.1 hx with h | h
    · exact e1 x h
    · exact e2 x h
  refine ⟨g.new nx w.heap.size ti.size, (adv_new hH1 hn hφ hrow).from_drawn, ?_, fun id hid => by simp [Gh.new, hid]⟩
  have := Cv.slm (w := World.alloc { w with drawn := w.drawn + 1 } (.cells (c1 ++ c2 ++ c3) e)) (g := g.new nx w.heap.size ti.size) (fl := ⟨false, nn⟩) (id := nx) (off := 0) (len := l1.length + l2.length) (b := w.heap.size) (E := ti.size) (cap := newCap)
    (gnew_at g nx w.heap.size ti.size) (fun h => by cases h) hc (alloc_get _ _) (by rw [hsz]; simp)
  simpa using this

theorem append_sem {nx : Nat} {t xt : TypeId} {s x : Operand} (ho : o.op = .call { callee := .builtin .append, args := #[s, x], argTypes := #[t, xt] }) (h : stepAppend T H nx t xt (env s) (env x) = some r) (hok : r.ok = true) (hn : H.get nx = none) : OpSemD P o env H r := by
  unfold stepAppend at h
  split at h
  case h_2 => cases h
  rename_i e ti e' he hxk
  obtain ⟨ht, hti⟩ := elemOf_spec hT he
  obtain ⟨xi, hx1, hx2⟩ := Option.map_eq_some_iff.1 hxk
  have hxt := hT.slice hx1 hx2
  split at h
  case h_2 => cases h
  rename_i ok1 ns D1 hsrc
  have run : ∀ {w w' : World} {ρ : Operand → Value} {v : Value}, (Builtin.append_ #[t, xt] o.type #[ρ s, ρ x]).run P w = .ok v w' → (execOp ρ o).run P w = .ok (.value v) w' := by
    intro w w' ρ v hv
    have e : (#[s, x] : Array Operand).map ρ = #[ρ s, ρ x] := by simp
    simp only [execOp, ho, resolve, e]
    exact run_value hv
  have zsz : ∀ k, (Builtin.zeroCells ti.zero.cells k).size = k * ti.zero.cells.size := by intro k; simp [Builtin.zeroCells]
  split at h
  · -- onto nil
    rename_i hs
    injection h with h; subst h
    simp only [Bool.and_eq_true] at hok
    obtain ⟨⟨⟨rfl, hroom⟩, hz⟩, hst⟩ := hok
    intro H' hD hfresh w g ρ hρ hH hφ
    have hn' := hfresh _ (List.mem_singleton.2 rfl) hn
    have hg := hφ _ (List.mem_singleton.2 rfl) hn'
    have c1 := hρ s (by simp [ho, Op.operands, Call.operands])
    have c2 := hρ x (by simp [ho, Op.operands, Call.operands])
    rw [hs] at c1
    have hsrc' := srcOf_congr hsrc hD
    have hzs : ti.zero.cells.size = ti.size := by simp only [zeroOk, Bool.and_eq_true, beq_iff_eq] at hz; exact hz.1
    by_cases hns : ns.length = 0
    · obtain ⟨a, c, hy, _, _, cells, hcells, hcs, _⟩ := src_read (P := P) hsrc' hH c2
      have hv : (Builtin.append_ #[t, xt] o.type #[ρ s, ρ x]).run P w = .ok (.slice none 0 0) w := by
        rw [c1.sc_inv, hy, append_head hT ht hxt hti rfl rfl, if_pos (by omega)]
        rw [hy] at hcells
        show (Sem.bind (Builtin.firstCells _ _ _) _).run P w = _
        rw [run_bind hcells]
        rw [hns]; rfl
      unfold OpOK
      rw [run hv]
      have hnil : ns = [] := List.length_eq_zero_iff.1 hns
      subst hnil
      refine ⟨g, ⟨Mono.refl w g, Ext.refl w g H', fun id B b E hi hb _ => ?_, fun _ h _ => .inl h, hH.virt hg⟩, ?_, fun _ _ => rfl⟩
      · simp only [AH.upd, AH.get_set] at hi
        split at hi
        · rename_i e1; subst e1; rw [hg] at hb; cases hb
        · exact ⟨id, B, E, hi, hb⟩
      · exact .slz (fun h => by simp at h)
    · obtain ⟨a, c, hy, _, hE, cells, hcells, hcs, hrow⟩ := src_read (P := P) hsrc' (hH.drawn (w.drawn + 1)) (c2.mono (mono_drawn w g (w.drawn + 1)))
      rw [hy] at hcells
      obtain ⟨newCap, hcap, hv⟩ := append_new (P := P) hT ht hxt hti (tys := #[t, xt]) (w := w) (ty := o.type) rfl rfl (base := none) (sLen := 0) (sCap := 0) (old := #[]) rfl hcells (by omega) (by simpa using hroom)
      unfold OpOK
      rw [run (by rw [c1.sc_inv, hy]; exact hv)]
      have := append_fresh hH hn' hg (e := e) (ti := ti) (l1 := []) (l2 := ns) (c1 := #[]) (c2 := cells) (c3 := Builtin.zeroCells ti.zero.cells (newCap - (0 + ns.length))) (newCap := newCap) (decide (0 < ns.length)) (fun i j e c hi => by simp at hi) (by simp) hrow hcs (fun x hx => by cases hx) hE (by rw [zsz, hzs]; simp) (by simpa using hcap)
      obtain ⟨g', hA, hc, hφ'⟩ := this
      simp only [List.nil_append, List.length_nil, Nat.zero_add] at hA hc
      refine ⟨g', ?_, ?_, fun id hid => hφ' id ?_⟩
      · simpa [AH.upd] using hA
      · simpa using hc
      · rintro rfl
        rcases hid with h | h
        · simp at h
        · exact h hn'
  · -- onto a row that is owned
    rename_i full id E off len hs
    split at h
    case h_2 => cases h
    rename_i E2 ty es hB
    injection h with h; subst h
    simp only [Bool.and_eq_true, beq_iff_eq, decide_eq_true_eq] at hok
    obtain ⟨⟨⟨⟨⟨⟨⟨⟨rfl, hroom⟩, hz⟩, hst⟩, rfl⟩, rfl⟩, rfl⟩, rfl⟩, hle⟩ := hok
    intro H' hD hfresh w g ρ hρ hH hφ
    have hne : nx ≠ id := by rintro rfl; rw [hB] at hn; cases hn
    have hn' := hfresh (nx, _) (List.mem_cons_of_mem _ (List.mem_singleton.2 rfl)) hn
    have hg := hφ (nx, _) (List.mem_cons_of_mem _ (List.mem_singleton.2 rfl)) hn'
    have hB' : H'.get id = some (.row ti.size ty es) := (hD id (by simp)).trans hB
    have c1 := hρ s (by simp [ho, Op.operands, Call.operands])
    have c2 := hρ x (by simp [ho, Op.operands, Call.operands])
    have hsrc' := srcOf_congr hsrc (fun i hi => hD i (by simp [hi]))
    have hzs : ti.zero.cells.size = ti.size := by simp only [zeroOk, Bool.and_eq_true, beq_iff_eq] at hz; exact hz.1
    have hssrc : srcOf H' ti.size (.slm full id ti.size 0 len) = some (true, es.take len, [id]) := by simp [srcOf, hB', hle]
    have hlen : (es.take len).length = len := by simp; omega
    have hnd : (H'.del id).get nx = none := by rw [AH.get_del, if_neg hne]; exact hn'
    have hupd : H'.upd [(id, none), (nx, some (.row ti.size ty (es.take len ++ ns)))] = (H'.del id).set nx (.row ti.size ty (es.take len ++ ns)) := rfl
    have fresh : ∀ {sCap : Nat} {base : Option Addr}, ρ s = .slice base len sCap → ¬ len + ns.length ≤ sCap → OpOK P o ρ w (Post w g H' (.slm ⟨false, full.nn || decide (0 < ns.length)⟩ nx ti.size 0 (len + ns.length)) [(id, none), (nx, some (.row ti.size ty (es.take len ++ ns)))]) := by
      intro sCap base hsv hcap
      obtain ⟨a, c, hy, _, hE, cells, hcells, hcs, hrow⟩ := src_read (P := P) hsrc' (hH.drawn (w.drawn + 1)) (c2.mono (mono_drawn w g (w.drawn + 1)))
      rw [hy] at hcells
      have c1' := c1.mono (mono_drawn w g (w.drawn + 1))
      rw [hs] at c1'
      obtain ⟨a', c', hy', _, hE', cells', hcells', hcs', hrow'⟩ := src_read (P := P) hssrc (hH.drawn (w.drawn + 1)) c1'
      rw [hsv] at hy' hcells'
      rw [hlen] at hcells' hy'
      obtain ⟨newCap, hcap', hv⟩ := append_new (P := P) hT ht hxt hti (tys := #[t, xt]) (w := w) (ty := o.type) rfl rfl (base := base) (sLen := len) (sCap := sCap) (old := cells') hcells' hcells hcap hroom
      unfold OpOK
      rw [run (by rw [hsv, hy]; exact hv)]
      have := append_fresh (hH.del id) hnd hg (e := ty) (ti := ti) (l1 := es.take len) (l2 := ns) (c1 := cells') (c2 := cells) (c3 := Builtin.zeroCells ti.zero.cells (newCap - (len + ns.length))) (newCap := newCap) (full.nn || decide (0 < ns.length)) hrow' hcs' hrow hcs hE' hE (by rw [zsz, hzs, hlen]) (by rw [hlen]; exact hcap')
      obtain ⟨g', hA, hc, hφ'⟩ := this
      rw [hlen] at hc
      refine ⟨g', ?_, hc, fun i hid => hφ' i ?_⟩
      · rw [hupd]; exact hA.weaken del_sub
      · rintro rfl
        rcases hid with h | h
        · simp at h
        · exact h hn'
    have c1' := c1
    rw [hs] at c1'
    generalize hq : ρ s = q at c1'
    cases c1' with
    | slz hnn =>
      rename_i a
      by_cases hns : ns.length = 0
      · obtain ⟨a2, c, hy, _, _, cells, hcells, hcs, _⟩ := src_read (P := P) hsrc' hH c2
        have hnil : ns = [] := List.length_eq_zero_iff.1 hns
        subst hnil
        have hv : (Builtin.append_ #[t, xt] o.type #[ρ s, ρ x]).run P w = .ok (.slice a 0 0) w := by
          rw [hq, hy, append_head hT ht hxt hti rfl rfl, if_pos (by simp)]
          rw [hy] at hcells
          show (Sem.bind (Builtin.firstCells _ _ _) _).run P w = _
          rw [run_bind hcells]
          have : cells = #[] := Array.eq_empty_of_size_eq_zero (by simpa using hcs)
          subst this
          cases a <;> rfl
        unfold OpOK
        rw [run hv]
        refine ⟨g, ⟨Mono.refl w g, Ext.refl w g H', fun i B b E hi hb _ => ?_, fun _ h _ => .inl h, ?_⟩, ?_, fun _ _ => rfl⟩
        · rw [hupd, AH.get_set] at hi
          split at hi
          · rename_i e1; subst e1; rw [hg] at hb; cases hb
          · exact ⟨i, B, E, del_sub i B hi, hb⟩
        · rw [hupd]; simpa using (hH.del id).virt hg
        · exact .slz (fun h => hnn (by simpa using h))
      · exact fresh hq (by omega)
    | slm hφi hfull hlc hb hsz =>
      rename_i b cap cs ty' fz
      by_cases hcap : len + ns.length ≤ cap
      · -- there is room
        obtain ⟨a2, c, hy, _, hE, cells, hcells, hcs, hrow⟩ := src_read (P := P) hsrc' hH c2
        obtain ⟨_, h7, cs2, h8, h9, h10⟩ := (hH.rel id _ hB').row hφi
        rw [hb] at h8; injection h8 with h8; injection h8 with a1 a2 a3; subst a1 a2 a3
        have hroomc : len * ti.size + cells.size ≤ cs.size := by
          rw [hcs, ← Nat.add_mul]
          refine Nat.le_trans (Nat.mul_le_mul_right _ hcap) ?_
          simpa using hsz
        have hflat : ∀ v ∈ cells.toList, (∀ l, v ≠ .agg l) ∧ ∀ l, v ≠ .tuple l := by
          intro v hv
          obtain ⟨k, hk, rfl⟩ := List.getElem_of_mem hv
          have hk' : k < ns.length * ti.size := by rw [← hcs]; simpa using hk
          have hE0 : 0 < ti.size := by
            rcases Nat.eq_zero_or_pos ti.size with h | h
            · rw [h, Nat.mul_zero] at hk'; omega
            · exact h
          have k1 : k / ti.size < ns.length := (Nat.div_lt_iff_lt_mul hE0).2 hk'
          have k2 := hE ns[k / ti.size] (List.getElem_mem k1)
          have k3 : k % ti.size < ns[k / ti.size].cells.length := by rw [k2]; exact Nat.mod_lt _ hE0
          obtain ⟨z, hz1, hz2⟩ := hrow (k / ti.size) (k % ti.size) _ _ (List.getElem?_eq_getElem k1) (List.getElem?_eq_getElem k3)
          have k4 : k / ti.size * ti.size + k % ti.size = k := by rw [Nat.mul_comm]; exact Nat.div_add_mod k ti.size
          rw [Nat.zero_add, k4] at hz1
          have k5 : cells.toList[k] = z := by
            rw [← Array.getElem?_toList, List.getElem?_eq_getElem hk] at hz1; injection hz1
          rw [k5]
          have := List.all_eq_true.1 hst _ (List.getElem_mem k1)
          exact storable_flat hz2 (List.all_eq_true.1 this _ (List.getElem_mem k3))
        have hv : (Builtin.append_ #[t, xt] o.type #[ρ s, ρ x]).run P w = .ok (.slice (some ⟨b, 0 * ti.size, none⟩) (len + ns.length) cap) (put w b (.cells (setRange cs (len * ti.size) cells.toList) ty' (0, 0))) := by
          rw [hq, hy, append_head hT ht hxt hti rfl rfl, if_pos hcap]
          rw [hy] at hcells
          show (Sem.bind (Builtin.firstCells _ _ _) _).run P w = _
          rw [run_bind hcells]
          have := storeCells_run (P := P) (b := b) (o := len * ti.size) (ty := ty') cells.toList 0 w cs hb (by simpa using hroomc) hflat
          show (Sem.bind (storeCells _ _) _).run P w = _
          rw [show ((⟨b, 0 * ti.size, none⟩ : Addr).add (len * ti.size)) = ⟨b, len * ti.size, none⟩ by rw [addr_add]; simp]
          rw [run_bind this]; rfl
        unfold OpOK
        rw [run hv]
        have hsz2 : (setRange cs (len * ti.size) cells.toList).size = cs.size := setRange_size _ _ _
        have m0 := Mono.put (g := g) hb hsz2 (hH.imm _ _ _ _ hB' hφi)
        let g' : Gh := g.new nx b ti.size
        have m : Mono w g (put w b (.cells (setRange cs (len * ti.size) cells.toList) ty' (0, 0))) g' :=
          ⟨fun k q hk => by simp only [g', Gh.new]; rw [if_neg (by rintro rfl; rw [hg] at hk; cases hk)]; exact hk, m0.I, m0.sz⟩
        have keep : ∀ {k : Nat} {B : Blk} {c F : Nat}, (H'.del id).get k = some B → g.φ k = some (c, F) → c ≠ b := by
          rintro k B c F hk hc rfl
          rw [AH.get_del] at hk
          split at hk
          · cases hk
          · rename_i hne2; exact hne2 (hH.apart _ _ _ _ _ _ _ hk hB' hc hφi)
        have g'k : ∀ {k : Nat}, k ≠ nx → g'.φ k = g.φ k := fun hk => by simp [g', Gh.new, hk]
        have g'nx : g'.φ nx = some (b, ti.size) := gnew_at _ _ _ _
        have getk : ∀ {k : Nat} {B : Blk}, ((H'.del id).set nx (.row ti.size ty' (es.take len ++ ns))).get k = some B → (k = nx ∧ B = .row ti.size ty' (es.take len ++ ns)) ∨ (k ≠ nx ∧ (H'.del id).get k = some B) := by
          intro k B hk
          rw [AH.get_set] at hk
          split at hk
          · rename_i e1; injection hk with hk; exact .inl ⟨e1, hk.symm⟩
          · rename_i e1; exact .inr ⟨e1, hk⟩
        have hrowB : (Blk.row ti.size ty' (es.take len ++ ns)).Rel (put w b (.cells (setRange cs (len * ti.size) cells.toList) ty' (0, 0))) g' nx := by
          refine ⟨fun e he => ?_, .inr ⟨b, _, g'nx, by rw [put_get, if_pos ⟨rfl, heap_lt hb⟩], ?_, fun i j e c hi hj => ?_⟩⟩
          · rcases List.mem_append.1 he with h | h
            · exact h7 e (List.mem_of_mem_take h)
            · exact hE e h
          · rw [hsz2, List.length_append, hlen]
            refine Nat.le_trans (Nat.mul_le_mul_right _ hcap) ?_
            simpa using hsz
          · rw [setRange_get _ _ _ _ (by simpa using hroomc)]
            simp only [Array.length_toList]
            rw [List.getElem?_append] at hi
            have hjl := (List.getElem?_eq_some_iff.1 hj).1
            split at hi
            · rename_i hlt
              rw [hlen] at hlt
              rw [List.getElem?_take, if_pos hlt] at hi
              obtain ⟨z, hz1, hz2⟩ := h10 i j e c hi hj
              rw [h7 e (List.mem_of_getElem? hi)] at hjl
              have : (i + 1) * ti.size ≤ len * ti.size := Nat.mul_le_mul_right _ hlt
              rw [Nat.succ_mul] at this
              rw [if_neg (by omega)]
              exact ⟨z, hz1, hz2.mono m⟩
            · rename_i hlt
              rw [hlen] at hlt hi
              obtain ⟨z, hz1, hz2⟩ := hrow (i - len) j e c hi hj
              have h3 : len * ti.size ≤ i * ti.size := Nat.mul_le_mul_right _ (by omega)
              have h4 : (i - len) * ti.size = i * ti.size - len * ti.size := Nat.sub_mul _ _ _
              have h5 := (Array.getElem?_eq_some_iff.1 hz1).1
              rw [if_pos (by omega)]
              refine ⟨z, ?_, hz2.mono m⟩
              rw [Array.getElem?_toList, ← hz1]
              congr 1
              omega
        refine ⟨g', ⟨m, Ext.put hB' hφi, fun k B c F hk hc hlt => ?_, fun _ h _ => .inl h, ?_⟩, ?_, fun k hid => g'k ?_⟩
        · rw [hupd] at hk
          rcases getk hk with ⟨rfl, _⟩ | ⟨hk1, hk2⟩
          · rw [g'nx] at hc; injection hc with hc; injection hc with hc _; subst hc
            exact ⟨id, _, _, hB', hφi⟩
          · rw [g'k hk1] at hc
            exact ⟨k, B, F, del_sub k B hk2, hc⟩
        · rw [hupd]
          refine ⟨fun k B hk => ?_, fun i j c F F' A B hi hj h1 h2 => ?_, fun i c F B hi h1 => ?_, fun c hc => by simp [Am.put]; exact hH.lt c hc, hH.gl.mono m.I (by simp [Am.put])⟩
          · rcases getk hk with ⟨rfl, rfl⟩ | ⟨hk1, hk2⟩
            · exact hrowB
            · refine (hH.rel k B (del_sub k B hk2)).keep m (g'k hk1) fun c F hc => ?_
              rw [put_get, if_neg (by rintro ⟨rfl, _⟩; exact keep hk2 hc rfl)]
          · rcases getk hi with ⟨rfl, _⟩ | ⟨hi1, hi2⟩ <;> rcases getk hj with ⟨rfl, _⟩ | ⟨hj1, hj2⟩
            · rfl
            · rw [g'nx] at h1; injection h1 with h1; injection h1 with h1 _; subst h1
              rw [g'k hj1] at h2
              exact absurd rfl (keep hj2 h2)
            · rw [g'nx] at h2; injection h2 with h2; injection h2 with h2 _; subst h2
              rw [g'k hi1] at h1
              exact absurd rfl (keep hi2 h1)
            · rw [g'k hi1] at h1; rw [g'k hj1] at h2
              exact hH.apart _ _ _ _ _ _ _ (del_sub i A hi2) (del_sub j B hj2) h1 h2
          · rcases getk hi with ⟨rfl, _⟩ | ⟨hi1, hi2⟩
            · rw [g'nx] at h1; injection h1 with h1; injection h1 with h1 _; subst h1
              exact hH.imm _ _ _ _ hB' hφi
            · rw [g'k hi1] at h1
              exact hH.imm _ _ _ _ (del_sub i B hi2) h1
        · have := Cv.slm (w := put w b (.cells (setRange cs (len * ti.size) cells.toList) ty' (0, 0))) (g := g') (fl := ⟨false, full.nn || decide (0 < ns.length)⟩) (id := nx) (off := 0) (len := len + ns.length) (b := b) (E := ti.size) (cap := cap) g'nx (fun h => by cases h) hcap
            (by rw [put_get, if_pos ⟨rfl, heap_lt hb⟩]) (by rw [hsz2]; exact hsz)
          exact this
        · rintro rfl
          rcases hid with h | h
          · simp at h
          · exact h hn'
      · exact fresh hq hcap
  · -- onto a row that is never written
    rename_i fl E es hs
    injection h with h; subst h
    simp only [Bool.and_eq_true, beq_iff_eq, decide_eq_true_eq] at hok
    obtain ⟨⟨⟨⟨⟨rfl, hroom⟩, hz⟩, rfl⟩, hfull⟩, hns⟩ := hok
    intro H' hD hfresh w g ρ hρ hH hφ
    have hn' := hfresh _ (List.mem_singleton.2 rfl) hn
    have hg := hφ _ (List.mem_singleton.2 rfl) hn'
    have c1 := hρ s (by simp [ho, Op.operands, Call.operands])
    have c2 := hρ x (by simp [ho, Op.operands, Call.operands])
    have hsrc' := srcOf_congr hsrc hD
    have hzs : ti.zero.cells.size = ti.size := by simp only [zeroOk, Bool.and_eq_true, beq_iff_eq] at hz; exact hz.1
    obtain ⟨a, c, hy, _, hE, cells, hcells, hcs, hrow⟩ := src_read (P := P) hsrc' (hH.drawn (w.drawn + 1)) (c2.mono (mono_drawn w g (w.drawn + 1)))
    rw [hy] at hcells
    have hssrc : srcOf H' ti.size (.ro fl ti.size es) = some (true, es, []) := by simp [srcOf]
    have c1' := c1.mono (mono_drawn w g (w.drawn + 1))
    rw [hs] at c1' c1
    obtain ⟨a', c', hy', _, hE', cells', hcells', hcs', hrow'⟩ := src_read (P := P) hssrc (hH.drawn (w.drawn + 1)) c1'
    have hc' : c' = es.length := by
      rw [hy'] at c1
      generalize hes : es = es0 at c1
      cases c1 with
      | roz h1 _ _ => exact h1 hfull
      | ro X h1 h2 h3 _ _ _ => exact h3 hfull
    rw [hy'] at hcells'
    obtain ⟨newCap, hcap', hv⟩ := append_new (P := P) hT ht hxt hti (tys := #[t, xt]) (w := w) (ty := o.type) rfl rfl (base := a') (sLen := es.length) (sCap := c') (old := cells') hcells' hcells (by omega) hroom
    unfold OpOK
    rw [run (by rw [hy', hy]; exact hv)]
    have := append_fresh hH hn' hg (e := e) (ti := ti) (l1 := es) (l2 := ns) (c1 := cells') (c2 := cells) (c3 := Builtin.zeroCells ti.zero.cells (newCap - (es.length + ns.length))) (newCap := newCap) true hrow' hcs' hrow hcs hE' hE (by rw [zsz, hzs]) hcap'
    obtain ⟨g', hA, hc, hφ'⟩ := this
    refine ⟨g', hA, hc, fun i hid => hφ' i ?_⟩
    rintro rfl
    rcases hid with h | h
    · simp at h
    · exact h hn'
  · cases h
end
end Go.Proofs.Ytjnmbmdplchfkaa.Am
