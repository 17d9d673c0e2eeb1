/- The owned machine, part G: loads, stores, new variables. -/
import Derived.Test.YtjnmbmdplchfkaaAmF
set_option linter.all false
namespace Go.Proofs.Ytjnmbmdplchfkaa.Am
variable [Lo]
set_option linter.unusedVariables false

theorem loadCells_run {P : Program} {w : World} {a : Addr} (X : Nat → Value) : ∀ (n i : Nat) (acc : Array Value), (∀ j, j < n → w.cell? (a.add (i + j)) = some (X (i + j))) →
    ∃ ys, (loadCellsFrom a i n acc).run P w = .ok ys w ∧ ys.size = acc.size + n ∧ (∀ j, j < acc.size → ys[j]? = acc[j]?) ∧ ∀ j, j < n → ys[acc.size + j]? = some (X (i + j))
  | 0, i, acc, _ => ⟨acc, rfl, rfl, fun _ _ => rfl, fun j hj => absurd hj (by omega)⟩
  | n + 1, i, acc, h => by
    obtain ⟨ys, h1, h2, h3, h4⟩ := loadCells_run X n (i + 1) (acc.push (X i)) (fun j hj => by have := h (j + 1) (by omega); rwa [show i + (j + 1) = i + 1 + j by omega] at this)
    refine ⟨ys, ?_, by simp at h2; omega, fun j hj => ?_, fun j hj => ?_⟩
    · unfold loadCellsFrom
      have h0 := h 0 (by omega)
      simp only [Nat.add_zero] at h0
      show (Sem.bind (load (a.add i)) _).run P w = _
      rw [run_bind (a := X i) (w' := w) (by simp [load, Sem.run, h0])]
      exact h1
    · rw [h3 j (by simp; omega), Array.getElem?_push, if_neg (by omega)]
    · cases j with
      | zero => rw [Nat.add_zero, h3 acc.size (by simp)]; simp
      | succ j =>
        have := h4 j (by omega)
        simp only [Array.size_push] at this
        rw [show acc.size + (j + 1) = acc.size + 1 + j by omega, this, show i + 1 + j = i + (j + 1) by omega]

theorem kind_true (e : AV) : e.kind true = .agg e.cells := by cases e <;> simp [AV.kind, AV.cells]
theorem kind_false {e : AV} (h : e.cells.length = 1) : e.kind false = e.cells.getD 0 (.sc undef) := by cases e <;> simp [AV.kind, AV.cells] at h ⊢
theorem part_spec {agg : Bool} {size off E : Nat} {e : AV} (hE : e.cells.length = E) (h : agg = true ∨ size = 1) : Am.part agg size off E e = if agg then .agg ((e.cells.drop off).take size) else e.cells.getD off (.sc undef) := by
  unfold Am.part
  split
  · rename_i h1
    obtain ⟨rfl, rfl⟩ := h1
    cases agg with
    | true => rw [kind_true]; simp [← hE]
    | false => rw [kind_false (by rw [hE]; simpa using h)]; rfl
  · rfl

theorem load_run {P : Program} {T : TT} (hT : T.Ok P) {t : TypeId} {ti : TI} (h : T.get t = some ti) (hs : ti.k.isAgg = true ∨ ti.size = 1) {w : World} {g : Gh} {e : AV} {b o : Nat} (X : Nat → Value)
    (hc : ∀ (j : Nat) (c : AV), e.cells[j]? = some c → w.cell? ⟨b, o + j, none⟩ = some (X j)) (hv : ∀ (j : Nat) (c : AV), e.cells[j]? = some c → Cv w g c (X j)) {off : Nat} (ho : off + ti.size ≤ e.cells.length) :
    ∃ y, (Instr.loadAt t (.pointer (some ⟨b, o + off, none⟩))).run P w = .ok y w ∧ Cv w g (Am.part ti.k.isAgg ti.size off e.cells.length e) y := by
  rw [part_spec rfl hs]
  have e1 := hT.isAgg h w
  unfold Instr.loadAt loadVar
  by_cases ha : ti.k.isAgg = true
  · rw [ha] at e1
    obtain ⟨ys, h1, h2, _, h4⟩ := loadCells_run (P := P) (w := w) (a := ⟨b, o + off, none⟩) (fun j => X (off + j)) ti.size 0 #[] (fun j hj => by
      rw [addr_add, Nat.zero_add, Nat.add_assoc]
      exact hc (off + j) _ (List.getElem?_eq_getElem (by omega)))
    refine ⟨.agg ys, ?_, ?_⟩
    · show (Sem.bind (Go.isAgg t) _).run P w = _
      rw [run_bind e1]
      simp only [if_true]
      show (Sem.bind (Go.sizeOf t) _).run P w = _
      rw [run_bind (hT.sizeOf h w)]
      show (Sem.bind (loadCellsFrom _ 0 _ #[]) _).run P w = _
      rw [run_bind h1]; rfl
    · rw [if_pos ha]
      refine .agg (by simp at h2 ⊢; omega) fun i c x hi hx => ?_
      rw [List.getElem?_take] at hi
      split at hi
      · rename_i hlt
        rw [List.getElem?_drop] at hi
        have h5 := h4 i hlt
        simp only [List.size_toArray, List.length_nil, Nat.zero_add, hx, Option.some.injEq] at h5
        subst h5
        exact hv _ _ hi
      · cases hi
  · have ha' : ti.k.isAgg = false := by simpa using ha
    rw [ha'] at e1
    have h1 : ti.size = 1 := hs.resolve_left ha
    refine ⟨X off, ?_, ?_⟩
    · show (Sem.bind (Go.isAgg t) _).run P w = _
      rw [run_bind e1]
      simp only [Bool.false_eq_true, if_false]
      have := hc off _ (List.getElem?_eq_getElem (show off < e.cells.length by omega))
      simp [load, Sem.run, this]
    · rw [if_neg ha]
      rw [List.getD_eq_getElem?_getD, List.getElem?_eq_getElem (show off < e.cells.length by omega)]
      exact hv off _ (List.getElem?_eq_getElem (by omega))

/-- Block b is turned to o. -/
def put (w : World) (b : Nat) (o : Obj) : World := { w with heap := w.heap.setIfInBounds b o }
def setRange (cs : Array Value) (o : Nat) : List Value → Array Value
  | [] => cs
  | v :: vs => setRange (cs.setIfInBounds o v) (o + 1) vs
theorem setRange_size (vs : List Value) : ∀ (cs : Array Value) (o : Nat), (setRange cs o vs).size = cs.size := by
  induction vs with
  | nil => intro cs o; rfl
  | cons v vs ih => intro cs o; simp [setRange, ih]
theorem setRange_get (vs : List Value) : ∀ (cs : Array Value) (o k : Nat), o + vs.length ≤ cs.size → (setRange cs o vs)[k]? = if o ≤ k ∧ k < o + vs.length then vs[k - o]? else cs[k]? := by
  induction vs with
  | nil => intro cs o k _; simp [setRange]; omega
  | cons v vs ih =>
    intro cs o k h
    simp only [List.length_cons] at h
    simp only [setRange]
    rw [ih _ _ _ (by simp; omega), Array.getElem?_setIfInBounds]
    simp only [List.length_cons]
    by_cases h1 : o + 1 ≤ k ∧ k < o + 1 + vs.length
    · rw [if_pos h1, if_pos (by omega), show k - o = (k - (o + 1)) + 1 by omega, List.getElem?_cons_succ]
    · rw [if_neg h1]
      by_cases h2 : o = k
      · subst h2
        rw [if_pos rfl, if_pos (by omega), if_pos (by omega)]; simp
      · rw [if_neg h2, if_neg (by omega)]
theorem put_get (w : World) (b : Nat) (o : Obj) (k : Nat) : (put w b o).heap[k]? = if b = k ∧ b < w.heap.size then some o else w.heap[k]? := by
  unfold put
  simp only [Array.getElem?_setIfInBounds]
  split
  · rename_i h; subst h; split
    · rename_i h; rw [if_pos ⟨rfl, h⟩]
    · rename_i h; rw [if_neg (by simp [h])]; rw [Array.getElem?_eq_none (by omega)]
  · rename_i h; rw [if_neg (by simp [h])]
theorem heap_lt {w : World} {b : Nat} {o : Obj} (h : w.heap[b]? = some o) : b < w.heap.size := by
  rcases Nat.lt_or_ge b w.heap.size with hl | hl
  · exact hl
  · rw [Array.getElem?_eq_none hl] at h; cases h
theorem put_self {w : World} {b : Nat} {o : Obj} (h : w.heap[b]? = some o) : put w b o = w := by
  unfold put
  congr 1
  apply Array.ext_getElem?
  intro i
  rw [Array.getElem?_setIfInBounds]
  split
  · rename_i hi; subst hi; rw [if_pos (heap_lt h), h]
  · rfl
theorem setCell_put {w : World} {b o : Nat} {cs : Array Value} {ty : TypeId} (h : w.heap[b]? = some (.cells cs ty (0, 0))) (v : Value) : w.setCell ⟨b, o, none⟩ v = put w b (.cells (cs.setIfInBounds o v) ty (0, 0)) := by
  unfold World.setCell put
  congr 1
  apply Array.ext_getElem?
  intro i
  rw [Array.getElem?_modify, Array.getElem?_setIfInBounds]
  split
  · rename_i hi; subst hi
    rw [if_pos (heap_lt h), h]; rfl
  · rfl
theorem put_put (w : World) (b : Nat) (o o' : Obj) : put (put w b o) b o' = put w b o' := by
  unfold put; simp
theorem storeCells_run {P : Program} {b o : Nat} {ty : TypeId} : ∀ (vs : List Value) (i : Nat) (w : World) (cs : Array Value), w.heap[b]? = some (.cells cs ty (0, 0)) → o + i + vs.length ≤ cs.size → (∀ v ∈ vs, (∀ l, v ≠ .agg l) ∧ ∀ l, v ≠ .tuple l) →
    (storeCells ⟨b, o, none⟩ vs i).run P w = .ok () (put w b (.cells (setRange cs (o + i) vs) ty (0, 0)))
  | [], i, w, cs, h, _, _ => by simp [storeCells, Sem.run, pure, setRange, put_self h]
  | v :: vs, i, w, cs, h, hl, hv => by
    simp only [List.length_cons] at hl
    unfold storeCells
    have hcell : w.cell? ⟨b, o + i, none⟩ = cs[o + i]? := by simp [World.cell?, h]
    have hfz : w.frozen? ⟨b, o + i, none⟩ = false := by simp [World.frozen?, h]
    have hst : (store (({ block := b, off := o } : Addr).add i) v).run P w = .ok () (put w b (.cells (cs.setIfInBounds (o + i) v) ty (0, 0))) := by
      have h0 := hv v (by simp)
      rw [addr_add, ← setCell_put h]
      unfold store
      cases v <;> first | exact absurd rfl (h0.1 _) | exact absurd rfl (h0.2 _) | (simp only [Sem.run]; rw [hcell, Array.getElem?_eq_getElem (by omega)]; simp [hfz])
    show (Sem.bind (store (({ block := b, off := o } : Addr).add i) v) _).run P w = _
    rw [run_bind hst]
    have h2 : (put w b (.cells (cs.setIfInBounds (o + i) v) ty (0, 0))).heap[b]? = some (.cells (cs.setIfInBounds (o + i) v) ty (0, 0)) := by rw [put_get, if_pos ⟨rfl, heap_lt h⟩]
    rw [storeCells_run vs (i + 1) _ _ h2 (by simp; omega) (fun u hu => hv u (by simp [hu])), put_put]
    rfl
end Go.Proofs.Ytjnmbmdplchfkaa.Am
