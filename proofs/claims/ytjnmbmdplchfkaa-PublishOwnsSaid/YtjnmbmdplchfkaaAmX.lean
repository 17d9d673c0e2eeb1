/- The owned machine, part X: append and copy. -/
import Derived.Test.YtjnmbmdplchfkaaAmW
set_option linter.all false
namespace Go.Proofs.Ytjnmbmdplchfkaa.Am
variable [Lo]
set_option linter.unusedVariables false

/-- The elements that a slice shows, whether they are sure, and the names that are read. -/
def srcOf (H : AH) (E : Nat) : AV → Option (Bool × List AV × List Nat)
  | .sc (.slice none 0 0) => some (true, [], [])
  | .ro _ E' es => some (E' == E, es, [])
  | .slm _ id E' off len => match H.get id with
    | some (.row E2 _ es) => some (E' == E && E2 == E && decide (off + len ≤ es.length), (es.drop off).take len, [id])
    | _ => none
  | _ => none
def room (need bytes : Nat) : Bool := decide ((2 * need + 192) * bytes ≤ 2 ^ 48) && bytes != 0
def storables (l : List AV) : Bool := l.all fun e => e.cells.all storable
def stepAppend (T : TT) (H : AH) (nx : Nat) (t xt : TypeId) (s x : AV) : Option Out :=
  match elemOf T t, (T.get xt).map TI.k with
  | some (e, ti), some (.slice _) => match srcOf H ti.size x with
    | some (ok1, ns, D1) => match s with
      | .sc (.slice none 0 0) => some { ok := ok1 && room ns.length ti.bytes && zeroOk ti && storables ns, v := .slm ⟨false, decide (0 < ns.length)⟩ nx ti.size 0 ns.length, δ := [(nx, some (.row ti.size e ns))], D := D1 }
      | .slm full id E off len => match H.get id with
        | some (.row E2 ty es) => some { ok := ok1 && room (len + ns.length) ti.bytes && zeroOk ti && storables ns && off == 0 && E == ti.size && E2 == E && ty == e && decide (len ≤ es.length), v := .slm ⟨false, full.nn || decide (0 < ns.length)⟩ nx E 0 (len + ns.length), δ := [(id, none), (nx, some (.row E e (es.take len ++ ns)))], D := id :: D1 }
        | _ => none
      | .ro fl E es => some { ok := ok1 && room (es.length + ns.length) ti.bytes && zeroOk ti && E == ti.size && fl.full && decide (0 < ns.length), v := .slm ⟨false, true⟩ nx ti.size 0 (es.length + ns.length), δ := [(nx, some (.row ti.size e (es ++ ns)))], D := D1 }
      | _ => none
    | none => none
  | _, _ => none

/-- The cells of a row of elements. -/
def RowOf (w : World) (g : Gh) (E : Nat) (es : List AV) (cs : Array Value) (o : Nat) : Prop := ∀ (i j : Nat) (e c : AV), es[i]? = some e → e.cells[j]? = some c → ∃ x, cs[o + i * E + j]? = some x ∧ Cv w g c x
theorem src_read {P : Program} {H : AH} {E : Nat} {v : AV} {es : List AV} {D : List Nat} (h : srcOf H E v = some (true, es, D)) {w : World} {g : Gh} (hH : HRel w g H) {y : Value} (hy : Cv w g v y) :
    ∃ a c, y = .slice a es.length c ∧ es.length ≤ c ∧ (∀ e ∈ es, e.cells.length = E) ∧ ∃ cells : Array Value, (Builtin.firstCells E es.length y).run P w = .ok cells w ∧ cells.size = es.length * E ∧ RowOf w g E es cells 0 := by
  have loadrow : ∀ (a : Addr) (c : Nat) (X : Nat → Value), (∀ k, k < es.length * E → w.cell? (a.add k) = some (X k)) → ∃ cells : Array Value, (Builtin.firstCells E es.length (.slice (some a) es.length c)).run P w = .ok cells w ∧ cells.size = es.length * E ∧ ∀ k, k < es.length * E → cells[k]? = some (X k) := by
    intro a c X hX
    obtain ⟨ys, h1, h2, _, h4⟩ := loadCells_run (P := P) (w := w) (a := a) X (es.length * E) 0 #[] (fun j hj => by rw [Nat.zero_add]; exact hX j hj)
    exact ⟨ys, h1, by simpa using h2, fun k hk => by have := h4 k hk; simpa using this⟩
  have idx : ∀ {i j : Nat} {e c : AV}, (∀ e ∈ es, e.cells.length = E) → es[i]? = some e → e.cells[j]? = some c → i * E + j < es.length * E := by
    intro i j e c hE hi hj
    have h1 := (List.getElem?_eq_some_iff.1 hi).1
    have h2 := (List.getElem?_eq_some_iff.1 hj).1
    rw [hE e (List.mem_of_getElem? hi)] at h2
    have : (i + 1) * E ≤ es.length * E := Nat.mul_le_mul_right _ h1
    rw [Nat.succ_mul] at this; omega
  -- element and place of a cell
  have place : (∀ e ∈ es, e.cells.length = E) → ∀ k, k < es.length * E → ∃ i j e c, k = i * E + j ∧ es[i]? = some e ∧ e.cells[j]? = some c := by
    intro hE k hk
    have hE0 : 0 < E := by
      rcases Nat.eq_zero_or_pos E with h | h
      · rw [h, Nat.mul_zero] at hk; omega
      · exact h
    have h1 : k / E < es.length := (Nat.div_lt_iff_lt_mul hE0).2 hk
    have h2 := hE es[k / E] (List.getElem_mem h1)
    have h3 : k % E < es[k / E].cells.length := by rw [h2]; exact Nat.mod_lt _ hE0
    exact ⟨k / E, k % E, es[k / E], es[k / E].cells[k % E], by rw [Nat.mul_comm]; exact (Nat.div_add_mod k E).symm, List.getElem?_eq_getElem h1, List.getElem?_eq_getElem h3⟩
  unfold srcOf at h
  split at h
  · simp only [Option.some.injEq, Prod.mk.injEq, true_and] at h
    obtain ⟨rfl, rfl⟩ := h
    rw [hy.sc_inv]
    exact ⟨none, 0, rfl, Nat.le_refl _, (fun e he => by cases he), #[], rfl, by simp, fun i j e c hi => by simp at hi⟩
  · rename_i full E' es'
    simp only [Option.some.injEq, Prod.mk.injEq, beq_iff_eq] at h
    obtain ⟨rfl, rfl, rfl⟩ := h
    cases hy with
    | roz h1 h2 h3 =>
      rename_i cap a
      refine ⟨a, cap, rfl, Nat.zero_le _, (fun e he => by cases he), ?_⟩
      cases a with
      | none => exact ⟨#[], rfl, by simp, fun i j e c hi => by simp at hi⟩
      | some a =>
        obtain ⟨cells, h3, h4, _⟩ := loadrow a cap (fun _ => undef) (fun k hk => by simp at hk)
        exact ⟨cells, h3, h4, fun i j e c hi => by simp at hi⟩
    | ro X hI hcap hfull hE hc hv =>
      rename_i b o cap
      refine ⟨_, cap, rfl, hcap, hE, ?_⟩
      have hX : ∀ k, k < es'.length * E' → ∃ x, w.cell? ((⟨b, o, none⟩ : Addr).add k) = some x := fun k hk => by
        obtain ⟨i, j, e, c, rfl, hi, hj⟩ := place hE k hk
        rw [addr_add, ← Nat.add_assoc]
        exact ⟨_, hc i j e c hi hj⟩
      obtain ⟨cells, h3, h4, h5⟩ := loadrow ⟨b, o, none⟩ cap (fun k => (w.cell? ((⟨b, o, none⟩ : Addr).add k)).getD undef) (fun k hk => by obtain ⟨x, hx⟩ := hX k hk; rw [hx]; rfl)
      refine ⟨cells, h3, h4, fun i j e c hi hj => ⟨X i j, ?_, (hv i j e c hi hj).of_base⟩⟩
      have := h5 (i * E' + j) (idx hE hi hj)
      rw [Nat.zero_add, this, addr_add, ← Nat.add_assoc, hc i j e c hi hj]; rfl
  · rename_i full id E' off len
    split at h
    · rename_i E2 ty row hB
      simp only [Option.some.injEq, Prod.mk.injEq, Bool.and_eq_true, beq_iff_eq, decide_eq_true_eq] at h
      obtain ⟨⟨⟨rfl, rfl⟩, hle⟩, rfl, rfl⟩ := h
      have hlen : ((row.drop off).take len).length = len := by simp; omega
      have hrel := hH.rel id _ hB
      have hE : ∀ e ∈ (row.drop off).take len, e.cells.length = E2 := fun e he => hrel.1 e (List.mem_of_mem_drop (List.mem_of_mem_take he))
      cases hy with
      | slz knn =>
        rename_i a
        refine ⟨a, 0, by rw [hlen], by rw [hlen]; exact Nat.le_refl _, hE, ?_⟩
        cases a with
        | none => rw [hlen]; exact ⟨#[], rfl, by simp, fun i j e c hi => by simp at hi⟩
        | some a =>
          obtain ⟨cells, h3, h4, _⟩ := loadrow a 0 (fun _ => undef) (fun k hk => by rw [hlen] at hk; simp at hk)
          rw [hlen] at h3 ⊢
          exact ⟨cells, h3, by rw [hlen] at h4; exact h4, fun i j e c hi => by simp at hi⟩
      | slm hφ hfull hlc hb hsz =>
        rename_i b cap cs ty' fz
        obtain ⟨_, _, cs2, h8, h9, h10⟩ := hrel.row hφ
        rw [hb] at h8; injection h8 with h8; injection h8 with a1 a2 a3; subst a1 a2 a3
        refine ⟨_, cap, by rw [hlen], by rw [hlen]; exact hlc, hE, ?_⟩
        have get : ∀ {i : Nat} {e : AV}, ((row.drop off).take len)[i]? = some e → row[off + i]? = some e := by
          intro i e hi
          rw [List.getElem?_take] at hi
          split at hi
          · rwa [List.getElem?_drop] at hi
          · cases hi
        have hX : ∀ k, k < ((row.drop off).take len).length * E2 → ∃ x, w.cell? ((⟨b, off * E2, none⟩ : Addr).add k) = some x ∧ cs[off * E2 + k]? = some x := fun k hk => by
          obtain ⟨i, j, e, c, rfl, hi, hj⟩ := place hE k hk
          obtain ⟨x, hx, _⟩ := h10 (off + i) j e c (get hi) hj
          rw [Nat.add_mul, Nat.add_assoc] at hx
          refine ⟨x, ?_, hx⟩
          rw [addr_add]
          simp [World.cell?, hb, hx]
        obtain ⟨cells, h3, h4, h5⟩ := loadrow ⟨b, off * E2, none⟩ cap (fun k => (w.cell? ((⟨b, off * E2, none⟩ : Addr).add k)).getD undef) (fun k hk => by obtain ⟨x, hx, _⟩ := hX k hk; rw [hx]; rfl)
        refine ⟨cells, by rw [hlen] at h3 ⊢; exact h3, h4, fun i j e c hi hj => ?_⟩
        obtain ⟨x, hx, hc⟩ := h10 (off + i) j e c (get hi) hj
        rw [Nat.add_mul, Nat.add_assoc] at hx
        have hk := idx hE hi hj
        refine ⟨x, ?_, hc⟩
        rw [Nat.zero_add, h5 _ hk, addr_add]
        simp [World.cell?, hb, hx]
    · cases h
  · cases h

theorem growBy_le (n : Nat) : ∀ (r c : Nat), Builtin.growBy n r c ≤ max c (n + (n + 768) / 4)
  | 0, c => by simp [Builtin.growBy]; omega
  | r + 1, c => by
    unfold Builtin.growBy
    split
    · omega
    · have := growBy_le n r (c + (c + 768) / 4)
      omega
theorem nextcap_le {need cap : Nat} (h : cap < need) : Builtin.nextslicecap need cap ≤ 2 * need + 192 := by
  unfold Builtin.nextslicecap
  split
  · omega
  · split
    · omega
    · have := growBy_le need 4 cap
      omega

section
variable {P : Program} {T : TT} (hT : T.Ok P) {o : Oper} {env : Operand → AV} {H : AH} {r : Out}
include hT

theorem append_head {t xt e e' : TypeId} {ti : TI} (ht : P.underlying t = some (.slice e)) (hx : P.underlying xt = some (.slice e')) (he : T.get e = some ti) {tys : Array TypeId} (h0 : tys[0]? = some t) (h1 : tys[1]? = some xt) {base : Option Addr} {sLen sCap : Nat} {a : Option Addr} {n c : Nat} (ty : TypeId) (w : World) :
    (Builtin.append_ tys ty #[.slice base sLen sCap, .slice a n c]).run P w =
      ((if sLen + n ≤ sCap then do
          let new ← Builtin.firstCells ti.size n (.slice a n c)
          if let some ad := base then storeCells (ad.add (sLen * ti.size)) new.toList
          pure (.slice base (sLen + n) sCap)
        else do
          if ((sLen + n : Nat) : Int) > IntKind.i64.max ∧ (false = true ∨ (← typeInfo e).bytes = 0) then runtimePanic (.error "growslice: len out of range")
          if Builtin.nextslicecap (sLen + n) sCap * (← typeInfo e).bytes > 2 ^ 48 then (do
            if !(← Builtin.mayShare ti.size sLen n base (.slice a n c)) then mark .noRoom
            unsupported (.resourceLimit "append: a slice or a string whose bytes no memory bears"))
          let newCap ← choose (.appendCap (sLen + n) sCap e)
          askRoom (newCap * (← typeInfo e).bytes)
          let old ← Builtin.firstCells ti.size sLen (.slice base sLen sCap)
          let new ← Builtin.firstCells ti.size n (.slice a n c)
          let rest := Builtin.zeroCells (← zeroValue e).cells (newCap - (sLen + n))
          pure (.slice (some (← newRow e (old ++ new ++ rest))) (sLen + n) newCap)) : Sem Value).run P w := by
  unfold Builtin.append_
  simp only [h0, h1, List.getElem?_toArray, List.getElem?_cons_zero, List.getElem?_cons_succ]
  show (Sem.bind (underlying t) _).run P w = _
  rw [run_bind (underlying_run ht w)]
  show (Sem.bind (Go.sizeOf e) _).run P w = _
  rw [run_bind (hT.sizeOf he w)]
  show (Sem.bind (underlying xt) _).run P w = _
  rw [run_bind (underlying_run hx w)]
  rfl
theorem typeInfo_run {e : TypeId} {ti : TI} (he : T.get e = some ti) (w : World) : ∃ i : TypeInfo, (typeInfo e).run P w = .ok i w ∧ i.bytes = ti.bytes := by
  obtain ⟨⟨i, h1, _, h3, _⟩, _⟩ := hT.get he
  exact ⟨i, by simp [typeInfo, program, Sem.run, Sem.bind, bind, pure, h1], h3⟩
theorem append_new {t xt e e' : TypeId} {ti : TI} (ht : P.underlying t = some (.slice e)) (hx : P.underlying xt = some (.slice e')) (he : T.get e = some ti) {tys : Array TypeId} (h0 : tys[0]? = some t) (h1 : tys[1]? = some xt) {base : Option Addr} {sLen sCap : Nat} {a : Option Addr} {n c : Nat} {ty : TypeId} {w : World}
    {old new : Array Value} (hold : (Builtin.firstCells ti.size sLen (.slice base sLen sCap)).run P { w with drawn := w.drawn + 1 } = .ok old { w with drawn := w.drawn + 1 }) (hnew : (Builtin.firstCells ti.size n (.slice a n c)).run P { w with drawn := w.drawn + 1 } = .ok new { w with drawn := w.drawn + 1 })
    (hcap : ¬ sLen + n ≤ sCap) (hroom : room (sLen + n) ti.bytes = true) :
    ∃ newCap, sLen + n ≤ newCap ∧ (Builtin.append_ tys ty #[.slice base sLen sCap, .slice a n c]).run P w =
      .ok (.slice (some ⟨w.heap.size, 0, none⟩) (sLen + n) newCap) (World.alloc { w with drawn := w.drawn + 1 } (.cells (old ++ new ++ Builtin.zeroCells ti.zero.cells (newCap - (sLen + n))) e)) := by
  simp only [room, Bool.and_eq_true, decide_eq_true_eq, bne_iff_ne, ne_eq] at hroom
  obtain ⟨hr1, hr2⟩ := hroom
  have hnx := nextcap_le (need := sLen + n) (cap := sCap) (by omega)
  refine ⟨(Question.appendCap (sLen + n) sCap e).cut (w.tape w.drawn (.appendCap (sLen + n) sCap e)), ?_, ?_⟩
  rotate_left
  · rw [append_head hT ht hx he h0 h1, if_neg hcap]
    obtain ⟨i, hi, hib⟩ := typeInfo_run (P := P) hT he w
    show (Sem.bind (typeInfo e) _).run P w = _
    rw [run_bind hi]
    rw [if_neg (by rw [hib]; simp [hr2])]
    show (Sem.bind (typeInfo e) _).run P w = _
    rw [run_bind hi]
    rw [if_neg (by rw [hib]; exact Nat.not_lt.2 (Nat.le_trans (Nat.mul_le_mul_right _ hnx) hr1))]
    show (Sem.bind (choose (.appendCap (sLen + n) sCap e)) _).run P w = _
    rw [run_bind (show (choose (.appendCap (sLen + n) sCap e)).run P w = .ok _ { w with drawn := w.drawn + 1 } from rfl)]
    obtain ⟨i2, hi2, hib2⟩ := typeInfo_run (P := P) hT he { w with drawn := w.drawn + 1 }
    show (Sem.bind (typeInfo e) _).run P _ = _
    rw [run_bind hi2]
    show (Sem.bind (askRoom _) _).run P _ = _
    rw [run_bind (a := ()) (w' := { w with drawn := w.drawn + 1 }) (by unfold askRoom; split <;> rfl)]
    show (Sem.bind (Builtin.firstCells _ _ _) _).run P _ = _
    rw [run_bind hold]
    show (Sem.bind (Builtin.firstCells _ _ _) _).run P _ = _
    rw [run_bind hnew]
    show (Sem.bind (zeroValue e) _).run P _ = _
    rw [run_bind (hT.zero he _)]
    show (Sem.bind (newRow e _) _).run P _ = _
    rw [run_bind (newRow_run e _ _)]
    rfl
  · simp only [Question.cut]; omega
end
end Go.Proofs.Ytjnmbmdplchfkaa.Am
