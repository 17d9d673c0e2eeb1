/- The owned machine, part E: the operations that write nothing do what their steps say. -/
import Derived.Test.YtjnmbmdplchfkaaAmD
set_option linter.all false
namespace Go.Proofs.Ytjnmbmdplchfkaa.Am
variable [Lo]
set_option linter.unusedVariables false

theorem OpSemD.read {P : Program} {o : Oper} {env : Operand → AV} {H : AH} {r : Out} (hδ : r.δ = [])
    (h : ∀ H' w g ρ, (∀ x ∈ o.op.operands.toList, Cv w g (env x) (ρ x)) → HRel w g H' → (∀ id ∈ r.D, H'.get id = H.get id) → ∃ x, (execOp ρ o).run P w = .ok (.value x) w ∧ Cv w g r.v x) : OpSemD P o env H r :=
  fun H' hD _ w g ρ ho hH _ => by
    obtain ⟨x, hx, hc⟩ := h H' w g ρ ho hH hD
    simp only [OpOK, hx, hδ]
    exact Post.pure hH hc
theorem OpSemD.pure' {P : Program} {o : Oper} {env : Operand → AV} {H : AH} {r : Out} (hδ : r.δ = [])
    (h : ∀ w g ρ, (∀ x ∈ o.op.operands.toList, Cv w g (env x) (ρ x)) → ∃ x, (execOp ρ o).run P w = .ok (.value x) w ∧ Cv w g r.v x) : OpSemD P o env H r :=
  OpSemD.read hδ fun _ w g ρ ho _ _ => h w g ρ ho
/-- The value of an operation out of the run of its instruction. -/
theorem run_value {P : Program} {s : Sem Value} {w w' : World} {x : Value} (h : s.run P w = .ok x w') : (do pure (.value (← s)) : Sem Next).run P w = .ok (.value x) w' := by
  show (Sem.bind s _).run P w = _
  rw [run_bind h]; rfl
theorem run_skip {P : Program} {s : Sem Unit} {w w' : World} (h : s.run P w = .ok () w') : (do s; pure .skip : Sem Next).run P w = .ok .skip w' := by
  show (Sem.bind s _).run P w = _
  rw [run_bind h]; rfl

theorem intOp_flat {op : BinOp} {k : IntKind} {a b : Int} {c : Bool} {v : Value} (h : intOp op k a b = some (c, v)) : v.cells = #[v] := by
  cases op <;> simp [intOp] at h <;> (obtain ⟨_, rfl⟩ := h; rfl)
theorem shiftOp_flat {op : BinOp} {k : IntKind} {a b : Int} {c : Bool} {v : Value} (h : shiftOp op k a b = some (c, v)) : v.cells = #[v] := by
  cases op <;> simp [shiftOp] at h <;> (obtain ⟨_, rfl⟩ := h; rfl)
theorem strOp_flat {op : BinOp} {a b : ByteArray} {c : Bool} {v : Value} (h : strOp op a b = some (c, v)) : v.cells = #[v] := by
  cases op <;> simp [strOp] at h <;> (obtain ⟨_, rfl⟩ := h; rfl)
theorem scalarOp_flat {T : TT} {op : BinOp} {t : TypeId} {a b : Value} {c : Bool} {v : Value} (h : scalarOp T op t a b = some (c, v)) : v.cells = #[v] := by
  unfold scalarOp at h
  split at h
  · split at h
    · exact shiftOp_flat h
    · exact shiftOp_flat h
    · split at h
      · exact intOp_flat h
      · cases h
  · exact strOp_flat h
  all_goals first
    | (split at h <;> first | (simp only [Option.some.injEq, Prod.mk.injEq] at h; obtain ⟨_, rfl⟩ := h; rfl) | cases h)
    | cases h

section
variable {P : Program} {T : TT} (hT : T.Ok P) {o : Oper} {env : Operand → AV} {H : AH} {r : Out}

theorem move_sem {x : Operand} (ho : o.op = .move x ∨ o.op = .assign x) : OpSemD P o env H { v := env x } :=
  OpSemD.pure' rfl fun w g ρ h => by
    rcases ho with ho | ho
    · exact ⟨ρ x, by simp [execOp, ho, Sem.run, pure], h x (by simp [ho, Op.operands])⟩
    · exact ⟨ρ x, by simp [execOp, ho, Sem.run, pure], h x (by simp [ho, Op.operands])⟩

omit hT in
theorem strip_spec {w : World} {g : Gh} {v : AV} {x : Value} (h : Cv w g v x) (hb : (strip v).1 = true) : Cv w g (strip v).2 x := by
  cases h with
  | when h => exact h hb
  | old hx h => exact .old hx h
  | _ => simp only [strip]; first | exact .unk _ | constructor <;> assumption
theorem pick_sem {c a b : Operand} (ho : o.op = .pick c a b) (h : stepPick (env c) (env a) (env b) = some r) (hok : r.ok = true) : OpSemD P o env H r := by
  unfold stepPick at h
  split at h
  case h_2 => cases h
  rename_i c' hc
  have run : ∀ {w : World} {g : Gh} {ρ : Operand → Value}, (∀ x ∈ o.op.operands.toList, Cv w g (env x) (ρ x)) → (execOp ρ o).run P w = .ok (.value (if c' then ρ a else ρ b)) w := by
    intro w g ρ h
    have h1 := h c (by simp [ho, Op.operands])
    rw [hc] at h1
    simp [execOp, ho, h1.sc_inv, asBool, Sem.run, Sem.bind, bind, pure]
  split at h
  · rename_i ca x cb y ha hb
    injection h with h; subst h
    refine OpSemD.pure' rfl fun w g ρ h => ⟨_, run h, ?_⟩
    have h2 := strip_spec (h a (by simp [ho, Op.operands]))
    have h3 := strip_spec (h b (by simp [ho, Op.operands]))
    rw [ha] at h2; rw [hb] at h3
    cases c' with
    | true => rw [(h2 (by simpa using hok)).sc_inv]; exact .sc _ rfl
    | false => rw [(h3 (by simpa using hok)).sc_inv]; exact .sc _ rfl
  · split at h
    · injection h with h; subst h
      exact OpSemD.pure' rfl fun w g ρ h => ⟨_, run h, h a (by simp [ho, Op.operands])⟩
    · injection h with h; subst h
      exact OpSemD.pure' rfl fun w g ρ h => ⟨_, run h, h b (by simp [ho, Op.operands])⟩

theorem un_sem {op : UnOp} {t : TypeId} {x : Operand} (ho : o.op = .unOp op t x) (h : stepUn op (env x) = some r) : OpSemD P o env H r := by
  unfold stepUn at h
  split at h
  · rename_i b hx
    split at h <;> cases h
    refine OpSemD.pure' rfl fun w g ρ h => ⟨.bool !b, ?_, .sc _ rfl⟩
    have h1 := h x (by simp [ho, Op.operands])
    rw [hx] at h1
    simp [execOp, ho, h1.sc_inv, Op.unary, Sem.run, Sem.bind, bind, pure]
  · rename_i k n hx
    split at h <;> cases h
    refine OpSemD.pure' rfl fun w g ρ h => ⟨.int k (k.wrap (0 - n)), ?_, .sc _ rfl⟩
    have h1 := h x (by simp [ho, Op.operands])
    rw [hx] at h1
    simp [execOp, ho, h1.sc_inv, Op.unary, Op.intArith, Sem.run, Sem.bind, bind, pure]
  · cases h

include hT in
theorem conv_sem {s d : TypeId} {x : Operand} (ho : o.op = .convert s d x) (hs : (T.get s).isSome = true) (h : stepConv T d (env x) = some r) : OpSemD P o env H r := by
  obtain ⟨si, hsi⟩ := Option.isSome_iff_exists.1 hs
  obtain ⟨ds, hds, _⟩ := hT.under hsi
  unfold stepConv at h
  split at h
  · rename_i k' n hx
    split at h <;> cases h
    rename_i k hk
    obtain ⟨ti, h1, h2⟩ := Option.map_eq_some_iff.1 hk
    have hd := hT.int h1 h2
    refine OpSemD.pure' rfl fun w g ρ h => ⟨.int k (k.wrap n), ?_, .sc _ rfl⟩
    have h1 := h x (by simp [ho, Op.operands])
    rw [hx] at h1
    simp only [execOp, ho, h1.sc_inv]
    refine run_value ?_
    simp [convert, underlying, program, Sem.run, Sem.bind, bind, pure, hds, hd, Conv.intToInt]
  · rename_i s' hx
    split at h <;> cases h
    rename_i hk
    obtain ⟨ti, h1, h2⟩ := Option.map_eq_some_iff.1 hk
    have hd := hT.str h1 h2
    refine OpSemD.pure' rfl fun w g ρ h => ⟨.string s', ?_, .sc _ rfl⟩
    have h1 := h x (by simp [ho, Op.operands])
    rw [hx] at h1
    simp only [execOp, ho, h1.sc_inv]
    refine run_value ?_
    simp [convert, underlying, program, Sem.run, Sem.bind, bind, pure, hds, hd]
  · cases h

theorem extract_sem {x : Operand} {i : Nat} (ho : o.op = .extract x i) (h : stepExtract (env x) i = some r) (hok : r.ok = true) : OpSemD P o env H r := by
  cases hx : env x with
  | tup vs =>
    simp only [stepExtract, hx, Option.some.injEq] at h
    subst h
    have hok : i < vs.length := by simpa using hok
    refine OpSemD.pure' rfl fun w g ρ h => ?_
    have h1 := h x (by simp [ho, Op.operands])
    rw [hx] at h1
    generalize hρ : ρ x = y at h1
    cases h1 with
    | tup hl hc =>
      rename_i xs
      have hi : i < xs.size := by omega
      refine ⟨xs[i], ?_, hc i _ _ (by rw [List.getD_eq_getElem?_getD, List.getElem?_eq_getElem hok]; rfl) (by simp [hi])⟩
      simp [execOp, ho, hρ, Instr.extract, Sem.run, Sem.bind, bind, pure, hi]
  | _ => simp [stepExtract, hx] at h

include hT in
theorem bin_sem {op : BinOp} {t t' : TypeId} {x y : Operand} (ho : o.op = .binOp op t x y t') (h : stepBin T op t (env x) (env y) = some r) (hok : r.ok = true) : OpSemD P o env H r := by
  unfold stepBin at h
  split at h
  · rename_i a b hx hy
    obtain ⟨⟨k, v⟩, h1, rfl⟩ := Option.map_eq_some_iff.1 h
    simp at hok
    subst hok
    have flatv := scalarOp_flat h1
    refine OpSemD.pure' rfl fun w g ρ h => ⟨v, ?_, .sc _ flatv⟩
    have e1 := h x (by simp [ho, Op.operands])
    have e2 := h y (by simp [ho, Op.operands])
    rw [hx] at e1; rw [hy] at e2
    simp only [execOp, ho, e1.sc_inv, e2.sc_inv]
    exact run_value (scalarOp_run hT h1 w)
  case h_6 =>
    rename_i fl id E off len hx hy
    split at h <;> cases h
    all_goals
      rename_i hk
      obtain ⟨ti, h1, h2⟩ := Option.map_eq_some_iff.1 hk
      have hp := hT.slice h1 h2
      refine OpSemD.pure' rfl fun w g ρ h => ⟨_, ?_, .sc _ rfl⟩
      have e1 := h x (by simp [ho, Op.operands])
      have e2 := h y (by simp [ho, Op.operands])
      rw [hx] at e1; rw [hy] at e2
      have hsome : ∃ ad n c, ρ x = .slice (some ad) n c := by
        generalize ρ x = u at e1
        cases e1 with
        | slz hnn =>
          rename_i a
          have : a.isSome = true := hnn (by simpa using hok)
          obtain ⟨ad, rfl⟩ := Option.isSome_iff_exists.1 this
          exact ⟨ad, _, _, rfl⟩
        | slm => exact ⟨_, _, _, rfl⟩
      obtain ⟨ad, n, c, hs⟩ := hsome
      simp only [execOp, ho, hs, e2.sc_inv]
      refine run_value ?_
      show (Sem.bind (Op.equal t (.slice (some ad) n c) (.slice none 0 0)) _).run P w = _
      rw [run_bind (equal_slice1 hp ad n c 0 0 w)]; rfl
  case h_7 =>
    rename_i fl E es hx hy
    split at h <;> cases h
    all_goals
      rename_i hk
      obtain ⟨ti, h1, h2⟩ := Option.map_eq_some_iff.1 hk
      have hp := hT.slice h1 h2
      refine OpSemD.pure' rfl fun w g ρ h => ⟨_, ?_, .sc _ rfl⟩
      have e1 := h x (by simp [ho, Op.operands])
      have e2 := h y (by simp [ho, Op.operands])
      rw [hx] at e1; rw [hy] at e2
      have hsome : ∃ ad n c, ρ x = .slice (some ad) n c := by
        generalize ρ x = u at e1
        cases e1 with
        | roz k1 k2 hnn =>
          rename_i cap a
          have : a.isSome = true := hnn (by simpa using hok)
          obtain ⟨ad, rfl⟩ := Option.isSome_iff_exists.1 this
          exact ⟨ad, _, _, rfl⟩
        | ro => exact ⟨_, _, _, rfl⟩
      obtain ⟨ad, n, c, hs⟩ := hsome
      simp only [execOp, ho, hs, e2.sc_inv]
      refine run_value ?_
      show (Sem.bind (Op.equal t (.slice (some ad) n c) (.slice none 0 0)) _).run P w = _
      rw [run_bind (equal_slice1 hp ad n c 0 0 w)]; rfl
  all_goals first | (cases h; done) | skip
  all_goals
    rename_i hx hy
    split at h <;> cases h
    all_goals
      rename_i hk
      obtain ⟨ti, h1, h2⟩ := Option.map_eq_some_iff.1 hk
      have hp := hT.ptr h1 h2
      refine OpSemD.pure' rfl fun w g ρ h => ⟨_, ?_, .sc _ rfl⟩
      have e1 := h x (by simp [ho, Op.operands])
      have e2 := h y (by simp [ho, Op.operands])
      rw [hx] at e1; rw [hy] at e2
      generalize hρ1 : ρ x = u at e1
      generalize hρ2 : ρ y = u' at e2
      cases e1 <;> cases e2 <;>
      · simp only [execOp, ho, hρ1, hρ2]
        refine run_value ?_
        first
          | (show (Sem.bind (Op.equal t (.pointer (some _)) (.pointer none)) _).run P w = _; rw [run_bind (equal_ptr1 hp _ w)]; rfl)
          | (show (Sem.bind (Op.equal t (.pointer none) (.pointer (some _))) _).run P w = _; rw [run_bind (equal_ptr2 hp _ w)]; rfl)
end
end Go.Proofs.Ytjnmbmdplchfkaa.Am
