/- The owned machine, part EQ: == and != on structs. -/
import Derived.Test.YtjnmbmdplchfkaaAmZ
import Derived.Laws.StructEq
import Derived.ChangeKeysEq
set_option linter.all false
namespace Go.Proofs.Ytjnmbmdplchfkaa.Am
variable [Lo]
set_option linter.unusedVariables false

def partV (ti : TI) (cs : List AV) (off : Nat) : AV := if ti.k.isAgg then .agg ((cs.drop off).take ti.size) else cs.getD off (.sc undef)
def eqF (T : TT) (eq : TypeId → AV → AV → Option Bool) (xs ys : List AV) : List (Nat × TypeId) → Option Bool
  | [] => some true
  | (off, t) :: fs => match T.get t with
    | none => none
    | some ti => if off + ti.size ≤ xs.length ∧ off + ti.size ≤ ys.length ∧ (ti.k.isAgg || ti.size == 1) = true then
        match eq t (partV ti xs off) (partV ti ys off), eqF T eq xs ys fs with
        | some a, some b => some (a && b)
        | _, _ => none
      else none
def eqS (k : TK) : Value → Value → Option Bool
  | .bool p, .bool q => match k with | .bool => some (p == q) | _ => none
  | .int j p, .int j' q => match k with | .int _ => if j = j' then some (p == q) else none | _ => none
  | .string p, .string q => match k with | .str => some (p.toList == q.toList) | _ => none
  | _, _ => none
def eqA (T : TT) : Nat → TypeId → AV → AV → Option Bool
  | 0, _, _, _ => none
  | d + 1, t, x, y => match T.get t with
    | none => none
    | some ti => match x, y with
      | .sc a, .sc b => eqS ti.k a b
      | .agg xs, .agg ys => match ti.k with
        | .struct fs => if ti.eqs = true then eqF T (eqA T d) xs ys fs else none
        | .arr n e => match T.get e with
          | some te => eqF T (eqA T d) xs ys ((List.range n).map fun i => (i * te.size, e))
          | none => none
        | _ => none
      | _, _ => none

section
variable {P : Program} {T : TT} (hT : T.Ok P)
include hT
theorem eqA_run : ∀ (d : Nat) (t : TypeId) (x y : AV) (r : Bool), eqA T d t x y = some r → ∀ (m : Nat) (w w0 : World) (g : Gh) (a b : Value), Cv w g x a → Cv w g y b → (Op.equalIn (m + d) t a b).run P w0 = .ok r w0
  | 0, t, x, y, r, h, m, w, w0, g, a, b, _, _ => by simp [eqA] at h
  | d + 1, t, x, y, r, h, m, w, w0, g, a, b, hx, hy => by
    simp only [eqA] at h
    split at h
    · cases h
    rename_i ti hti
    split at h
    · rename_i p q
      rw [hx.sc_inv, hy.sc_inv]
      show (Op.equalIn ((m + d) + 1) t p q).run P w0 = _
      unfold eqS at h
      split at h
      · split at h
        · rename_i hk; injection h with h; subst h
          exact run_equalIn_bool' w0 _ t _ _ (hT.bool hti hk)
        · cases h
      · split at h
        · rename_i k hk
          split at h
          · rename_i hj; subst hj; injection h with h; subst h
            exact run_equalIn_int w0 _ t _ k _ _ (hT.int hti hk)
          · cases h
        · cases h
      · split at h
        · rename_i hk; injection h with h; subst h
          exact run_equalIn_string w0 _ t _ _ (hT.str hti hk)
        · cases h
      · cases h
    · rename_i xs ys
      split at h
      · rename_i fs hk
        split at h
        · rename_i heq
          obtain ⟨fds, hu, hmap⟩ := hT.struct hti hk
          obtain ⟨_, _, h3, _⟩ := hT.at_ hti
          obtain ⟨hp, _, hnb⟩ := h3 heq
          cases hx with
          | agg hlx hcx =>
            cases hy with
            | agg hly hcy =>
              rename_i us vs
              have hfo : P.fieldsOf t = fds := by simp [Program.fieldsOf, hu]
              show (Op.equalIn ((m + d) + 1) t (.agg us) (.agg vs)).run P w0 = _
              rw [run_equalIn_struct w0 _ t us vs (by rw [hfo]; exact hu) hp, hfo]
              have hnb' : ∀ f ∈ fds.toList, f.name ≠ "_" := by
                intro f hf
                simp only [noBlank, hu] at hnb
                simpa using List.all_eq_true.1 hnb f hf
              have key : ∀ (l : List Field) (r : Bool), (∀ f ∈ l, f.name ≠ "_") → eqF T (eqA T d) xs ys (l.map fun f => (f.offset, f.type)) = some r → (Op.eqFields (m + d) us vs l).run P w0 = .ok r w0 := by
                intro l
                induction l with
                | nil => intro r _ h; simp only [List.map_nil, eqF, Option.some.injEq] at h; subst h; rfl
                | cons f l ih =>
                  intro r hn h
                  simp only [List.map_cons, eqF] at h
                  split at h
                  · cases h
                  rename_i tf htf
                  split at h
                  · rename_i hsz
                    split at h
                    · rename_i p q hpq hq
                      injection h with h; subst h
                      obtain ⟨s1, s2, s3⟩ := hsz
                      obtain ⟨a1, ra, ca⟩ := part_run hT htf (by simpa using s3) hlx hcx s1 w0
                      obtain ⟨b1, rb, cb⟩ := part_run hT htf (by simpa using s3) hly hcy s2 w0
                      have heqr := eqA_run d f.type _ _ p hpq m w w0 g a1 b1 ca cb
                      simp only [Op.eqFields]
                      rw [if_pos (hn f (by simp))]
                      show (Sem.bind (Go.part _ _ _) _).run P w0 = _
                      rw [run_bind ra]
                      show (Sem.bind (Go.part _ _ _) _).run P w0 = _
                      rw [run_bind rb]
                      show (Sem.bind (Op.equalIn _ _ _ _) _).run P w0 = _
                      rw [run_bind heqr]
                      cases p with
                      | false => rfl
                      | true =>
                        simp only [Bool.not_true, Bool.false_eq_true, if_false, Bool.true_and]
                        exact ih q (fun f hf => hn f (by simp [hf])) hq
                    · cases h
                  · cases h
              rw [← hmap] at h
              exact key fds.toList r hnb' h
        · cases h
      · rename_i n e hk
        split at h
        · rename_i te hte
          have hu := hT.arr hti hk
          obtain ⟨⟨inf, hinf, _⟩, _⟩ := hT.get hte
          have hc : P.cellsOf e = te.size := by
            obtain ⟨⟨i, h1, h2, _⟩, _⟩ := hT.get hte
            simp [Program.cellsOf, h1, h2]
          cases hx with
          | agg hlx hcx =>
            cases hy with
            | agg hly hcy =>
              rename_i us vs
              show (Op.equalIn ((m + d) + 1) t (.agg us) (.agg vs)).run P w0 = _
              rw [run_equalIn_array w0 (m + d) us vs hu hinf, hc]
              have key : ∀ (l : List Nat) (r : Bool), eqF T (eqA T d) xs ys (l.map fun i => (i * te.size, e)) = some r → (Op.eqItems (m + d) e te.size us vs l).run P w0 = .ok r w0 := by
                intro l
                induction l with
                | nil => intro r h; simp only [List.map_nil, eqF, Option.some.injEq] at h; subst h; rfl
                | cons i l ih =>
                  intro r h
                  simp only [List.map_cons, eqF, hte] at h
                  split at h
                  · rename_i hsz
                    split at h
                    · rename_i p q hpq hq
                      injection h with h; subst h
                      obtain ⟨s1, s2, s3⟩ := hsz
                      obtain ⟨a1, ra, ca⟩ := part_run hT hte (by simpa using s3) hlx hcx s1 w0
                      obtain ⟨b1, rb, cb⟩ := part_run hT hte (by simpa using s3) hly hcy s2 w0
                      have heqr := eqA_run d e _ _ p hpq m w w0 g a1 b1 ca cb
                      simp only [Op.eqItems]
                      show (Sem.bind (Go.part _ _ _) _).run P w0 = _
                      rw [run_bind ra]
                      show (Sem.bind (Go.part _ _ _) _).run P w0 = _
                      rw [run_bind rb]
                      show (Sem.bind (Op.equalIn _ _ _ _) _).run P w0 = _
                      rw [run_bind heqr]
                      cases p with
                      | false => rfl
                      | true =>
                        simp only [Bool.not_true, Bool.false_eq_true, if_false, Bool.true_and]
                        exact ih q hq
                    · cases h
                  · cases h
              exact key _ r h
        · cases h
      · cases h
    · cases h

def stepEq (T : TT) (op : BinOp) (t : TypeId) (x y : AV) : Option Out :=
  match x, y with
  | .agg xs, .agg ys => match (T.get t).map TI.eqs with
    | some true => match op, eqA T 50 t (.agg xs) (.agg ys) with
      | .eql, some b => some { v := .sc (.bool b) }
      | .neq, some b => some { v := .sc (.bool !b) }
      | _, _ => none
    | _ => none
  | _, _ => none
theorem eq_sem {o : Oper} {env : Operand → AV} {H : AH} {r : Out} {op : BinOp} {t t' : TypeId} {x y : Operand} (ho : o.op = .binOp op t x y t') (h : stepEq T op t (env x) (env y) = some r) : OpSemD P o env H r := by
  unfold stepEq at h
  split at h
  case h_2 => cases h
  rename_i xs ys hx hy
  split at h
  case h_2 => cases h
  rename_i he
  obtain ⟨ti, hti, heq⟩ := Option.map_eq_some_iff.1 he
  obtain ⟨_, _, h3, _⟩ := hT.at_ hti
  obtain ⟨_, hgd, _⟩ := h3 heq
  have run : ∀ {b : Bool} {w : World} {g : Gh} {ρ : Operand → Value}, eqA T 50 t (.agg xs) (.agg ys) = some b → (∀ z ∈ o.op.operands.toList, Cv w g (env z) (ρ z)) → ∃ us vs, ρ x = .agg us ∧ ρ y = .agg vs ∧ (Op.equal t (.agg us) (.agg vs)).run P w = .ok b w := by
    intro b w g ρ hb hρ
    have c1 := hρ x (by simp [ho, Op.operands])
    have c2 := hρ y (by simp [ho, Op.operands])
    rw [hx] at c1; rw [hy] at c2
    have := eqA_run hT 50 t _ _ b hb 9950 w w g _ _ c1 c2
    generalize ρ x = a at c1 this
    generalize ρ y = b at c2 this
    cases c1; cases c2
    exact ⟨_, _, rfl, rfl, this⟩
  split at h
  · rename_i b hb
    injection h with h; subst h
    refine OpSemD.pure' rfl fun w g ρ hρ => ?_
    obtain ⟨us, vs, e1, e2, hr⟩ := run hb hρ
    refine ⟨.bool b, ?_, .sc _ rfl⟩
    simp only [execOp, ho, e1, e2]
    refine run_value ?_
    show (Sem.bind (eqGuard .eql t x y (.agg us) (.agg vs)) _).run P w = _
    rw [run_bind (run_eqGuard_agg w .eql t x y us vs hgd)]
    show (Sem.bind (Op.equal t (.agg us) (.agg vs)) _).run P w = _
    rw [run_bind hr]; rfl
  · rename_i b hb
    injection h with h; subst h
    refine OpSemD.pure' rfl fun w g ρ hρ => ?_
    obtain ⟨us, vs, e1, e2, hr⟩ := run hb hρ
    refine ⟨.bool !b, ?_, .sc _ rfl⟩
    simp only [execOp, ho, e1, e2]
    refine run_value ?_
    show (Sem.bind (eqGuard .neq t x y (.agg us) (.agg vs)) _).run P w = _
    rw [run_bind (run_eqGuard_agg w .neq t x y us vs hgd)]
    show (Sem.bind (Op.equal t (.agg us) (.agg vs)) _).run P w = _
    rw [run_bind hr]; rfl
  · cases h
end
end Go.Proofs.Ytjnmbmdplchfkaa.Am
