/- The owned machine, part CP: copy. -/
import Derived.Test.YtjnmbmdplchfkaaAmMP
set_option linter.all false
namespace Go.Proofs.Ytjnmbmdplchfkaa.Am
variable [Lo]
set_option linter.unusedVariables false

def stepCopy (T : TT) (H : AH) (t : TypeId) (s x : AV) : Option Out :=
  match elemOf T t with
  | some (_, ti) => match srcOf H ti.size x with
    | some (ok1, ns, D1) => match s with
      | .slm _ id E off len => match H.get id with
        | some (.row E2 ty es) => some { ok := ok1 && storables ns && E == ti.size && E2 == E && decide (off + len ≤ es.length), v := .sc (.int .i64 (min ns.length len : Nat)), δ := [(id, some (.row E2 ty (splice es off (ns.take (min ns.length len)))))], D := id :: D1 }
        | _ => none
      | _ => none
    | none => none
  | none => none

/-- The first n elements of a slice. -/
def AV.cut (n : Nat) : AV → AV
  | .ro fl E es => .ro {} E (es.take n)
  | .slm fl id E off len => .slm {} id E off (min n len)
  | v => v
theorem srcOf_cut {H : AH} {E : Nat} {v : AV} {es : List AV} {D : List Nat} (h : srcOf H E v = some (true, es, D)) (n : Nat) : srcOf H E (v.cut n) = some (true, es.take n, D) := by
  unfold srcOf at h
  split at h
  · simp only [Option.some.injEq, Prod.mk.injEq, true_and] at h
    obtain ⟨rfl, rfl⟩ := h
    simp [AV.cut, srcOf]
  · simp only [Option.some.injEq, Prod.mk.injEq, beq_iff_eq] at h
    obtain ⟨rfl, rfl, rfl⟩ := h
    simp [AV.cut, srcOf]
  · rename_i fl id E' off len
    split at h
    · rename_i E2 ty row hB
      simp only [Option.some.injEq, Prod.mk.injEq, Bool.and_eq_true, beq_iff_eq, decide_eq_true_eq] at h
      obtain ⟨⟨⟨rfl, rfl⟩, hle⟩, rfl, rfl⟩ := h
      simp only [AV.cut, srcOf, hB, beq_self_eq_true, Bool.true_and, List.take_take, Option.some.injEq, Prod.mk.injEq, decide_eq_true_eq, and_self, and_true]
      omega
    · cases h
  · cases h
theorem cv_cut {w : World} {g : Gh} {v : AV} {a : Option Addr} {l c : Nat} (n : Nat) (hv : (∃ fl E es, v = .ro fl E es) ∨ ∃ fl id E off len, v = .slm fl id E off len) (h : Cv w g v (.slice a l c)) : Cv w g (v.cut n) (.slice a (min n l) c) := by
  rcases hv with ⟨fl, E, es, rfl⟩ | ⟨fl, id, E, off, len, rfl⟩
  · cases h with
    | roz h1 h2 h3 => simpa [AV.cut] using Cv.roz (fl := {}) (fun h => by cases h) h2 (fun h => by cases h)
    | ro X h1 h2 h3 h4 h5 h6 =>
      rename_i b o
      simp only [AV.cut]
      have hl : (es.take n).length = min n es.length := by simp
      have key : Cv w g (.ro {} E (es.take n)) (.slice (some ⟨b, o, none⟩) (es.take n).length c) :=
        .ro X h1 (by rw [hl]; omega) (fun h => by cases h) (fun e he => h4 e (List.mem_of_mem_take he)) (fun i j e d hi hj => h5 i j e d (by rw [List.getElem?_take] at hi; split at hi; exact hi; cases hi) hj) (fun i j e d hi hj => h6 i j e d (by rw [List.getElem?_take] at hi; split at hi; exact hi; cases hi) hj)
      rw [hl] at key
      exact key
  · cases h with
    | slz h1 => simpa [AV.cut] using Cv.slz (fl := {}) (fun h => by cases h)
    | slm h1 h0 h2 h3 h4 => exact .slm h1 (fun h => by cases h) (by omega) h3 h4

section
variable {P : Program} {T : TT} (hT : T.Ok P) {o : Oper} {env : Operand → AV} {H : AH} {r : Out}
include hT
theorem copy_head {t xt e : TypeId} {ti : TI} (ht : P.underlying t = some (.slice e)) (he : T.get e = some ti) {base : Option Addr} {dLen dCap : Nat} {a : Option Addr} {n c : Nat} (ty : TypeId) (w : World) {cells : Array Value}
    (hc : (Builtin.firstCells ti.size (min n dLen) (.slice a n c)).run P w = .ok cells w) :
    (Builtin.copy_ #[t, xt] ty #[.slice base dLen dCap, .slice a n c]).run P w =
      ((do
        if let some ad := base then storeCells ad cells.toList
        pure (goInt (min n dLen : Nat))) : Sem Value).run P w := by
  unfold Builtin.copy_
  simp only [List.getElem?_toArray, List.getElem?_cons_zero, List.getElem?_cons_succ]
  show (Sem.bind (underlying t) _).run P w = _
  rw [run_bind (underlying_run ht w)]
  show (Sem.bind (Builtin.lenOf _) _).run P w = _
  rw [run_bind (show (Builtin.lenOf (.slice a n c)).run P w = .ok n w from rfl)]
  show (Sem.bind (Go.sizeOf e) _).run P w = _
  rw [run_bind (hT.sizeOf he w)]
  show (Sem.bind (Builtin.firstCells _ _ _) _).run P w = _
  rw [run_bind hc]
  cases base <;> rfl

theorem copy_sem {t xt : TypeId} {s x : Operand} (ho : o.op = .call { callee := .builtin .copy, args := #[s, x], argTypes := #[t, xt] }) (h : stepCopy T H t (env s) (env x) = some r) (hok : r.ok = true) : OpSemD P o env H r := by
  unfold stepCopy at h
  split at h
  case h_2 => cases h
  rename_i e ti he
  obtain ⟨ht, hti⟩ := elemOf_spec hT he
  split at h
  case h_2 => cases h
  rename_i ok1 ns D1 hsrc
  split at h
  case h_2 => cases h
  rename_i fl id E off len hs
  split at h
  case h_2 => cases h
  rename_i E2 ty es hB
  injection h with h; subst h
  simp only [Bool.and_eq_true, beq_iff_eq, decide_eq_true_eq] at hok
  obtain ⟨⟨⟨⟨rfl, hst⟩, rfl⟩, rfl⟩, hle⟩ := hok
  have run : ∀ {w w' : World} {ρ : Operand → Value} {v : Value}, (Builtin.copy_ #[t, xt] o.type #[ρ s, ρ x]).run P w = .ok v w' → (execOp ρ o).run P w = .ok (.value v) w' := by
    intro w w' ρ v hv
    have e : (#[s, x] : Array Operand).map ρ = #[ρ s, ρ x] := by simp
    simp only [execOp, ho, resolve, e]
    exact run_value hv
  intro H' hD hfresh w g ρ hρ hH hφ
  have hB' : H'.get id = some (.row ti.size ty es) := (hD id (by simp)).trans hB
  have c1 := hρ s (by simp [ho, Op.operands, Call.operands])
  have c2 := hρ x (by simp [ho, Op.operands, Call.operands])
  have hsrc' := srcOf_congr hsrc (fun i hi => hD i (by simp [hi]))
  obtain ⟨a, c, hy, hyc, hE, _⟩ := src_read (P := P) hsrc' hH c2
  -- the elements that are copied
  have hread : ∃ cells : Array Value, (Builtin.firstCells ti.size (min ns.length len) (ρ x)).run P w = .ok cells w ∧ cells.size = (min ns.length len) * ti.size ∧ RowOf w g ti.size (ns.take (min ns.length len)) cells 0 := by
    have hshape : env x = .sc (.slice none 0 0) ∨ ((∃ fl E es, env x = .ro fl E es) ∨ ∃ fl id E off len, env x = .slm fl id E off len) := by
      unfold srcOf at hsrc
      split at hsrc
      · exact .inl (by assumption)
      · exact .inr (.inl ⟨_, _, _, by assumption⟩)
      · exact .inr (.inr ⟨_, _, _, _, _, by assumption⟩)
      · cases hsrc
    rcases hshape with h0 | h0
    · rw [h0] at hsrc' c2
      simp only [srcOf, Option.some.injEq, Prod.mk.injEq, true_and] at hsrc'
      obtain ⟨rfl, _⟩ := hsrc'
      rw [c2.sc_inv]
      exact ⟨#[], rfl, by simp, fun i j e c hi => by simp at hi⟩
    · rw [hy] at c2 ⊢
      have c3 := cv_cut (min ns.length len) h0 c2
      obtain ⟨a3, c4, hy3, _, _, cells, h1, h2, h3⟩ := src_read (P := P) (srcOf_cut hsrc' (min ns.length len)) hH c3
      have hl : (ns.take (min ns.length len)).length = min ns.length len := by simp
      rw [hl] at h1 h2
      refine ⟨cells, ?_, h2, h3⟩
      injection hy3 with e1 e2 e3
      subst e1
      cases a <;> exact h1
  obtain ⟨cells, hcells, hcs, hrow⟩ := hread
  rw [hy] at hcells
  have hspl : ∀ k, k = (ns.take (min ns.length len)).length → k = min ns.length len := by intro k hk; rw [hk]; simp
  rw [hs] at c1
  generalize hq : ρ s = q at c1
  cases c1 with
  | slz hnn =>
    rename_i a0
    have hmin : min ns.length 0 = 0 := by omega
    have hv : (Builtin.copy_ #[t, xt] o.type #[ρ s, ρ x]).run P w = .ok (goInt (min ns.length 0 : Nat)) w := by
      rw [hq, hy, copy_head hT ht hti o.type w hcells]
      have : cells = #[] := Array.eq_empty_of_size_eq_zero (by rw [hcs, hmin, Nat.zero_mul])
      subst this
      cases a0 <;> rfl
    unfold OpOK
    rw [run hv]
    have hsame : splice es off (ns.take (min ns.length 0)) = es := by rw [hmin]; simp [splice]
    refine ⟨g, ?_, .sc _ rfl, fun _ _ => rfl⟩
    have hget : ∀ i, (H'.upd [(id, some (.row ti.size ty (splice es off (ns.take (min ns.length 0)))))]).get i = H'.get i := by
      intro i
      simp only [AH.upd, AH.get_set, hsame]
      split
      · rename_i e1; subst e1; exact hB'.symm
      · rfl
    exact ⟨Mono.refl w g, Ext.refl w g H', fun i B b E hi hb _ => ⟨i, B, E, by rw [← hget]; exact hi, hb⟩, fun _ h _ => .inl h,
      ⟨fun i B hi => hH.rel i B (by rw [← hget]; exact hi), fun i j b E E' A B hi hj => hH.apart i j b E E' A B (by rw [← hget]; exact hi) (by rw [← hget]; exact hj), fun i b E B hi => hH.imm i b E B (by rw [← hget]; exact hi), hH.lt, hH.gl⟩⟩
  | slm hφi hfull hlc hb hsz =>
    rename_i b cap cs ty' fz
    obtain ⟨_, h7, cs2, h8, h9, h10⟩ := (hH.rel id _ hB').row hφi
    rw [hb] at h8; injection h8 with h8; injection h8 with a1 a2 a3; subst a1 a2 a3
    have hroomc : off * ti.size + cells.size ≤ cs.size := by
      rw [hcs, ← Nat.add_mul]
      refine Nat.le_trans (Nat.mul_le_mul_right _ ?_) hsz
      omega
    have hE' : ∀ e ∈ ns.take (min ns.length len), e.cells.length = ti.size := fun e he => hE e (List.mem_of_mem_take he)
    have hflat : ∀ v ∈ cells.toList, (∀ l, v ≠ .agg l) ∧ ∀ l, v ≠ .tuple l := by
      intro v hv
      obtain ⟨k, hk, rfl⟩ := List.getElem_of_mem hv
      have hk' : k < (ns.take (min ns.length len)).length * ti.size := by
        have hl : (ns.take (min ns.length len)).length = min ns.length len := by simp
        rw [hl, ← hcs]; simpa using hk
      have hE0 : 0 < ti.size := by
        rcases Nat.eq_zero_or_pos ti.size with h | h
        · rw [h, Nat.mul_zero] at hk'; omega
        · exact h
      have k1 : k / ti.size < (ns.take (min ns.length len)).length := (Nat.div_lt_iff_lt_mul hE0).2 hk'
      have k2 := hE' (ns.take (min ns.length len))[k / ti.size] (List.getElem_mem k1)
      have k3 : k % ti.size < (ns.take (min ns.length len))[k / ti.size].cells.length := by rw [k2]; exact Nat.mod_lt _ hE0
      obtain ⟨z, hz1, hz2⟩ := hrow (k / ti.size) (k % ti.size) _ _ (List.getElem?_eq_getElem k1) (List.getElem?_eq_getElem k3)
      have k4 : k / ti.size * ti.size + k % ti.size = k := by rw [Nat.mul_comm]; exact Nat.div_add_mod k ti.size
      rw [Nat.zero_add, k4] at hz1
      have k5 : cells.toList[k] = z := by
        rw [← Array.getElem?_toList, List.getElem?_eq_getElem hk] at hz1; injection hz1
      rw [k5]
      have := List.all_eq_true.1 hst _ (List.mem_of_mem_take (List.getElem_mem k1))
      exact storable_flat hz2 (List.all_eq_true.1 this _ (List.getElem_mem k3))
    have hv : (Builtin.copy_ #[t, xt] o.type #[ρ s, ρ x]).run P w = .ok (goInt (min ns.length len : Nat)) (put w b (.cells (setRange cs (off * ti.size) cells.toList) ty' (0, 0))) := by
      rw [hq, hy, copy_head hT ht hti o.type w hcells]
      have := storeCells_run (P := P) (b := b) (o := off * ti.size) (ty := ty') cells.toList 0 w cs hb (by simpa using hroomc) hflat
      show (Sem.bind (storeCells _ _) _).run P w = _
      rw [run_bind this]; rfl
    unfold OpOK
    rw [run hv]
    have hsz2 : (setRange cs (off * ti.size) cells.toList).size = cs.size := setRange_size _ _ _
    have m := Mono.put (g := g) hb hsz2 (hH.imm _ _ _ _ hB' hφi)
    have hl : (ns.take (min ns.length len)).length = min ns.length len := by simp
    have hsl : (splice es off (ns.take (min ns.length len))).length = es.length := splice_length (by rw [hl]; omega)
    have hrowB : (Blk.row ti.size ty' (splice es off (ns.take (min ns.length len)))).Rel (put w b (.cells (setRange cs (off * ti.size) cells.toList) ty' (0, 0))) g id := by
     refine ⟨fun e he => ?_, .inr ⟨b, _, hφi, by rw [put_get, if_pos ⟨rfl, heap_lt hb⟩], by rw [hsz2, hsl]; exact h9, fun i j e c hi hj => ?_⟩⟩
     · unfold splice at he
       rcases List.mem_append.1 he with h | h
       · exact h7 e (List.mem_of_mem_take h)
       · rcases List.mem_append.1 h with h | h
         · exact hE' e h
         · exact h7 e (List.mem_of_mem_drop h)
     · rw [splice_get (by rw [hl]; omega)] at hi
       rw [setRange_get _ _ _ _ (by simpa using hroomc)]
       simp only [Array.length_toList]
       have hjl := (List.getElem?_eq_some_iff.1 hj).1
       split at hi
       · rename_i hin
         rw [hl] at hin
         obtain ⟨z, hz1, hz2⟩ := hrow (i - off) j e c hi hj
         have h3 : off * ti.size ≤ i * ti.size := Nat.mul_le_mul_right _ hin.1
         have h4 : (i - off) * ti.size = i * ti.size - off * ti.size := Nat.sub_mul _ _ _
         have h5 := (Array.getElem?_eq_some_iff.1 hz1).1
         rw [if_pos (by omega)]
         refine ⟨z, ?_, hz2.mono m⟩
         rw [Array.getElem?_toList, ← hz1]
         congr 1
         omega
       · rename_i hout
         rw [hl] at hout
         obtain ⟨z, hz1, hz2⟩ := h10 i j e c hi hj
         rw [h7 e (List.mem_of_getElem? hi)] at hjl
         rw [if_neg ?_]
         · exact ⟨z, hz1, hz2.mono m⟩
         · rw [hcs]
           intro ⟨q1, q2⟩
           rcases Nat.lt_or_ge i off with h | h
           · have : (i + 1) * ti.size ≤ off * ti.size := Nat.mul_le_mul_right _ h
             rw [Nat.succ_mul] at this; omega
           · have h3 : (off + min ns.length len) * ti.size ≤ i * ti.size := Nat.mul_le_mul_right _ (by omega)
             rw [Nat.add_mul] at h3; omega
    exact Post.put hH hB' hφi m hrowB (.sc _ rfl)
end
end Go.Proofs.Ytjnmbmdplchfkaa.Am
