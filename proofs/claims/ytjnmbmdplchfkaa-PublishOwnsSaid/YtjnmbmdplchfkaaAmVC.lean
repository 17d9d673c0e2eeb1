/- The owned machine, part VC: code walked piece by piece, each piece from a state that is written anew. -/
import Derived.Test.YtjnmbmdplchfkaaAmRF
set_option linter.all false
namespace Go.Proofs.Ytjnmbmdplchfkaa.Am
variable [Lo]
set_option linter.unusedVariables false

/-- From s, the code ends as Q says. -/
inductive VS (P : Program) (p n : Nat) (c : Code) (s : AS) (Q : Exit → AS → Prop) : Prop
  | mk (e : Exit) (s' : AS) (h : ARuns P p n c s e s') (k : Q e s')
section
variable {P : Program} {T : TT} {p n : Nat} {c x y : Code} {s s1 : AS} {Q : Exit → AS → Prop}
theorem VS.of_V (hT : T.Ok P) (hm : P.follows .mixedOrders = true) (hB : (s.H.all fun x => decide (x.1 < s.nx)) = true) (h : V P T p n c s Q) : VS P p n c s Q := by
  obtain ⟨e, s', h1, _, h2⟩ := V_sound hT hm c s _ h (HB.of_all hB)
  exact ⟨e, s', h1, h2⟩
theorem VS.seq (h : VS P p n x s fun e s1 => match e with
    | .normal => VS P p n y s1 Q
    | e => Q e s1) : VS P p n (.seq x y) s Q := by
  obtain ⟨e, s1, h1, h2⟩ := h
  split at h2
  · obtain ⟨e', s2, h3, h4⟩ := h2
    exact ⟨e', s2, h1.seq h3, h4⟩
  · rename_i hne
    exact ⟨e, s1, ARuns.seq_out (fun h => hne h) h1, h2⟩
/-- The first piece walked, the rest left. -/
theorem VS.cut (hT : T.Ok P) (hm : P.follows .mixedOrders = true) (hB : (s.H.all fun x => decide (x.1 < s.nx)) = true) (h : V P T p n x s fun e s1 => match e with
    | .normal => VS P p n y s1 Q
    | e => Q e s1) : VS P p n (.seq x y) s Q := (VS.of_V hT hm hB h).seq
/-- The same of a piece that always ends normally: it is walked by itself. -/
theorem VS.joinN {ι : Type} (S : ι → AS) (I : ι → Prop) (h : VS P p n x s fun e s1 => e = .normal ∧ ∃ i, I i ∧ SW p n s1 (S i)) (k : ∀ i, I i → VS P p n y (S i) Q) : VS P p n (.seq x y) s Q := by
  obtain ⟨e, s1, h1, rfl, i, hi, hw⟩ := h
  obtain ⟨e', s2, h3, h4⟩ := k i hi
  exact ⟨e', s2, h1.seq (h3.pre hw), h4⟩
theorem VS.endN {ι : Type} (S : ι → AS) (I : ι → Prop) (h : VS P p n c s fun e s1 => e = .normal ∧ ∃ i, I i ∧ SW p n s1 (S i)) (k : ∀ i s1, I i → SW p n s1 (S i) → Q .normal s1) : VS P p n c s Q := by
  obtain ⟨e, s1, h1, rfl, i, hi, hw⟩ := h
  exact ⟨.normal, s1, h1, k i s1 hi hw⟩
theorem VS.mono {Q' : Exit → AS → Prop} (h : VS P p n c s Q') (k : ∀ e s1, Q' e s1 → Q e s1) : VS P p n c s Q := by
  obtain ⟨e, s1, h1, h2⟩ := h
  exact ⟨e, s1, h1, k e s1 h2⟩
theorem VS.weak (hw : SW p n s s1) (h : VS P p n c s1 Q) : VS P p n c s Q := by
  obtain ⟨e, s', h1, h2⟩ := h
  exact ⟨e, s', h1.pre hw, h2⟩
theorem VS.condT {o : Operand} (hb : envF s.fr o = .sc (.bool true)) (ho : constOk o = true) (h : VS P p n x s Q) : VS P p n (.cond o x y) s Q := by
  obtain ⟨e, s', h1, h2⟩ := h
  exact ⟨e, s', ARuns.cond hb ho h1, h2⟩
theorem VS.condF {o : Operand} (hb : envF s.fr o = .sc (.bool false)) (ho : constOk o = true) (h : VS P p n y s Q) : VS P p n (.cond o x y) s Q := by
  obtain ⟨e, s', h1, h2⟩ := h
  exact ⟨e, s', ARuns.cond hb ho h1, h2⟩
theorem VS.skip (h : Q .normal s) : VS P p n .skip s Q := ⟨.normal, s, ARuns.skip, h⟩
theorem VS.ret (h : Q .ret s) : VS P p n .ret s Q := ⟨.ret, s, ARuns.ret, h⟩
theorem VS.exit {id : Nat} (h : Q (.exit id) s) : VS P p n (.exit id) s Q := ⟨.exit id, s, ARuns.exit, h⟩
theorem VS.block {id : Nat} (h : VS P p n c s fun e s1 => match e with
    | .exit id' => if id' = id then Q .normal s1 else Q (.exit id') s1
    | .normal => Q .normal s1
    | .ret => Q .ret s1
    | _ => False) : VS P p n (.block id c) s Q := by
  obtain ⟨e, s1, h1, h2⟩ := h
  split at h2
  · split at h2
    · rename_i he; subst he; exact ⟨_, s1, ARuns.block_exit h1, h2⟩
    · rename_i he; exact ⟨_, s1, ARuns.block_exit_other he h1, h2⟩
  · exact ⟨_, s1, ARuns.block_normal h1, h2⟩
  · exact ⟨_, s1, ARuns.block_ret h1, h2⟩
  · exact h2.elim
theorem VS.loop (h : LoopN P p n c s Q) : VS P p n (.loop c) s Q := by
  obtain ⟨e, s', h1, _, h3⟩ := h
  exact ⟨e, s', ARuns.loop h1, h3⟩
theorem AFun.of_VS (hT : T.Ok P) {f : FuncId} {fn : Func} {vs : List AV} {H H' : AH} {v : AV} (hf : P.funcs[f]? = some fn) (hb : fn.body = some c) (hn : vs.length ≤ fn.ntmps)
    (h : VS P p fn.ntmps c ⟨argFr vs 0, H, p⟩ (FinS T fn p v H')) : AFun P f p vs H v H' := by
  obtain ⟨e, s', h1, s2, hw, he, ⟨rv, hr, hv⟩, hH⟩ := h
  exact (AFun.of_body hT hf hb hn he (h1.post hw) hr hv rfl).forget hH.get
theorem AFun.of_VSE (hT : T.Ok P) {f : FuncId} {fn : Func} {vs : List AV} {H : AH} {α : Type} {I : α → Prop} {v : α → AV} {H' : α → AH} (hf : P.funcs[f]? = some fn) (hb : fn.body = some c) (hn : vs.length ≤ fn.ntmps)
    (h : VS P p fn.ntmps c ⟨argFr vs 0, H, p⟩ (fun e s => ∃ x, I x ∧ FinS T fn p (v x) (H' x) e s)) : ∃ x, I x ∧ AFun P f p vs H (v x) (H' x) := by
  obtain ⟨e, s', h1, x, hI, s2, hw, he, ⟨rv, hr, hv⟩, hH⟩ := h
  exact ⟨x, hI, (AFun.of_body hT hf hb hn he (h1.post hw) hr hv rfl).forget hH.get⟩
end
end Go.Proofs.Ytjnmbmdplchfkaa.Am
