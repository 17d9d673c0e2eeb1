/- The owned machine, part J: new variables, function values, aggregates written out, slices of a literal. -/
import Derived.Test.YtjnmbmdplchfkaaAmH
set_option linter.all false
namespace Go.Proofs.Ytjnmbmdplchfkaa.Am
variable [Lo]
set_option linter.unusedVariables false

theorem ofVal_rel {w : World} {g : Gh} {z : Value} {n : Nat} (h : z.cells.size = n) (hf : z.cells.toList.all flat = true) : (ofVal z).cells.length = n ∧ ∀ (j : Nat) (c : AV), (ofVal z).cells[j]? = some c → ∃ x, z.cells[j]? = some x ∧ Cv w g c x := by
  have one : ∀ v : Value, flat v = true → v.cells = #[v] := by intro v hv; cases v <;> first | rfl | simp [flat] at hv
  cases z with
  | agg cs =>
    refine ⟨by simpa [ofVal, AV.cells, Value.cells] using h, fun j c hj => ?_⟩
    simp only [ofVal, AV.cells, List.getElem?_map] at hj
    obtain ⟨x, hx, rfl⟩ := Option.map_eq_some_iff.1 hj
    have hm : x ∈ cs.toList := List.mem_of_getElem? hx
    exact ⟨x, by simpa [Value.cells] using hx, .sc x (one x (List.all_eq_true.1 hf x hm))⟩
  | _ =>
    refine ⟨by simpa [ofVal, AV.cells, Value.cells] using h, fun j c hj => ?_⟩
    cases j with
    | zero => simp [ofVal, AV.cells] at hj; subst hj; exact ⟨_, rfl, .sc _ rfl⟩
    | succ j => simp [ofVal, AV.cells] at hj
theorem TT.Ok.zero {P : Program} {T : TT} (hT : T.Ok P) {t : TypeId} {x : TI} (h : T.get t = some x) (w : World) : (zeroValue t).run P w = .ok x.zero w := by
  obtain ⟨⟨i, h1, _, _, h2⟩, _⟩ := hT.get h
  simp [zeroValue, typeInfo, program, Sem.run, Sem.bind, bind, pure, h1, h2]
theorem newRow_run {P : Program} (e : TypeId) (cs : Array Value) (w : World) : (newRow e cs).run P w = .ok ⟨w.heap.size, 0, none⟩ (w.alloc (.cells cs e)) := by
  rfl
theorem alloc_get (w : World) (o : Obj) : (w.alloc o).heap[w.heap.size]? = some o := by
  show (w.heap.push o)[w.heap.size]? = _
  simp

theorem gnew_at (g : Gh) (id b E : Nat) : (g.new id b E).φ id = some (b, E) := by simp [Gh.new]
/-- A row of one element in a new block. -/
theorem row1 {w : World} {id E : Nat} {e : AV} {ty : TypeId} {cs : Array Value} {w' : World} {g' : Gh} (hφ : g'.φ id = some (w.heap.size, E)) (hb : w'.heap[w.heap.size]? = some (.cells cs ty (0, 0))) (hl : e.cells.length = E) (hs : cs.size = E)
    (hc : ∀ (j : Nat) (c : AV), e.cells[j]? = some c → ∃ x, cs[j]? = some x ∧ Cv w' g' c x) : (Blk.row E ty [e]).Rel w' g' id :=
  ⟨fun e' he' => by simp at he'; subst he'; exact hl, .inr ⟨_, cs, hφ, hb, by simp; omega, fun i j e' c hi hj => by
    cases i with
    | zero => simp at hi; subst hi; simpa using hc j c hj
    | succ i => simp at hi⟩⟩

section
variable {P : Program} {T : TT} (hT : T.Ok P) {o : Oper} {env : Operand → AV} {H : AH} {r : Out}

include hT in
theorem alloc_sem {next : Nat} {e : TypeId} (ho : o.op = .alloc e) (h : stepAlloc T next e = some r) (hok : r.ok = true) (hn : H.get next = none) : OpSemD P o env H r := by
  unfold stepAlloc at h
  split at h
  case h_2 => cases h
  rename_i ti hti
  injection h with h; subst h
  simp only [zeroOk, Bool.and_eq_true, beq_iff_eq] at hok
  intro H' hD hfresh w g ρ h hH hφ
  have hn' := hfresh _ (List.mem_singleton.2 rfl) hn
  have hg := hφ _ (List.mem_singleton.2 rfl) hn'
  have hrun : (Instr.alloc e true (.tuple #[])).run P w = .ok (.pointer (some ⟨w.heap.size, 0, none⟩)) (w.alloc (.cells ti.zero.cells e)) := by
    unfold Instr.alloc
    show (Sem.bind (zeroValue e) _).run P w = _
    rw [run_bind (hT.zero hti w)]
    show (Sem.bind (newRow e ti.zero.cells) _).run P w = _
    rw [run_bind (newRow_run e _ w)]; rfl
  unfold OpOK
  simp only [execOp, ho]
  rw [run_value hrun]
  obtain ⟨h1, h2⟩ := ofVal_rel (w := w.alloc (.cells ti.zero.cells e)) (g := g.new next w.heap.size ti.size) hok.1 hok.2
  refine Post.new hH hn' hg (row1 (w := w) (by simp [Gh.new]) (alloc_get _ _) h1 hok.1 h2) ?_
  have := Cv.ptr (w := w.alloc (.cells ti.zero.cells e)) (g := g.new next w.heap.size ti.size) (id := next) (idx := 0) (off := 0) (b := w.heap.size) (E := ti.size) (by simp [Gh.new])
  simpa using this

theorem box_sem {next : Nat} {e : TypeId} {x : Operand} (ho : o.op = .box e x) (h : stepBox T next e (env x) = some r) (hok : r.ok = true) (hn : H.get next = none) : OpSemD P o env H r := by
  unfold stepBox at h
  split at h
  case h_2 => cases h
  rename_i ti hti
  injection h with h; subst h
  simp only [Bool.and_eq_true, beq_iff_eq] at hok
  obtain ⟨hok, hkn⟩ := hok
  intro H' hD hfresh w g ρ h hH hφ
  have hn' := hfresh _ (List.mem_singleton.2 rfl) hn
  have hg := hφ _ (List.mem_singleton.2 rfl) hn'
  have hx := h x (by simp [ho, Op.operands])
  generalize hρ : ρ x = u at hx
  have hrun : (Instr.box e u).run P w = .ok (.pointer (some ⟨w.heap.size, 0, none⟩)) (w.alloc (.cells u.cells e)) := by
    unfold Instr.box
    show (Sem.bind (newRow e u.cells) _).run P w = _
    rw [run_bind (newRow_run e _ w)]; rfl
  unfold OpOK
  simp only [execOp, ho, hρ]
  rw [run_value hrun]
  have m := Mono.new (E := ti.size) (.cells u.cells e) hg hH.lt
  obtain ⟨hl, hc⟩ := (hx.mono m).cells hkn
  refine Post.new hH hn' hg (row1 (cs := u.cells) (e := env x) (E := ti.size) (gnew_at g next w.heap.size ti.size) (alloc_get _ _) hok (by rw [← hl]; exact hok) fun j c hj => ?_) ?_
  · have hlt := (List.getElem?_eq_some_iff.1 hj).1
    have hlt' : j < u.cells.size := by omega
    exact ⟨u.cells[j], by simp [hlt'], hc j c _ hj (by simp [hlt'])⟩
  · have := Cv.ptr (w := w.alloc (.cells u.cells e)) (g := g.new next w.heap.size ti.size) (id := next) (idx := 0) (off := 0) (b := w.heap.size) (E := ti.size) (by simp [Gh.new])
    simpa using this

theorem nilCheck_sem {x : Operand} (ho : o.op = .nilCheck x) (h : nilOk (env x) = true) : OpSemD P o env H { v := env x } :=
  OpSemD.pure' rfl fun w g ρ hρ => by
    have h1 := hρ x (by simp [ho, Op.operands])
    refine ⟨ρ x, ?_, h1⟩
    cases he : env x <;> rw [he] at h h1 <;> simp [nilOk] at h <;> (generalize hq : ρ x = y at h1; cases h1; simp [execOp, ho, hq, Sem.run, pure])

theorem makeFunc_sem {f : FuncId} {first caps : Array Operand} (ho : o.op = .makeFunc (.func f) first caps) : OpSemD P o env H { v := .clo f ((first ++ caps).toList.map env) first.size } :=
  OpSemD.pure' rfl fun w g ρ hρ => by
    refine ⟨.func (.func f) (first.map ρ) (caps.map ρ), by simp [execOp, ho, Instr.makeFunc, Sem.run, Sem.bind, bind, pure], .clo (by simp) (by simp) fun i c x hi hx => ?_⟩
    rw [← Array.map_append] at hx
    simp only [List.getElem?_map] at hi
    simp only [Array.getElem?_map] at hx
    obtain ⟨u, hu, rfl⟩ := Option.map_eq_some_iff.1 hi
    rw [Array.getElem?_toList] at hu
    rw [hu] at hx
    injection hx with hx; subst hx
    refine hρ u ?_
    have := Array.mem_of_getElem? hu
    simp only [ho, Op.operands, Array.toList_append, List.mem_append]
    simpa using this
end
end Go.Proofs.Ytjnmbmdplchfkaa.Am
