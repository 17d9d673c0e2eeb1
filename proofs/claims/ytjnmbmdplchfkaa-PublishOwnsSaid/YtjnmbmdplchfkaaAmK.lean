/- The owned machine, part K: calls; the step of an operation; a region in the order of its text. -/
import Derived.Test.YtjnmbmdplchfkaaAmCB
set_option linter.all false
namespace Go.Proofs.Ytjnmbmdplchfkaa.Am
variable [Lo]
set_option linter.unusedVariables false

def callable (P : Program) (f : FuncId) : Bool := match P.funcs[f]? with
  | some fn => fn.name != "runtime.NumGoroutine" && fn.body.isSome
  | none => false
theorem callFunc_run {P : Program} {f : FuncId} (h : callable P f = true) (args : Array Value) (w : World) : (callFunc f args).run P w = .ok (.enter f args) w := by
  unfold callable at h
  split at h
  · rename_i fn hf
    simp at h
    obtain ⟨h1, h2⟩ := h
    obtain ⟨c, hc⟩ := Option.isSome_iff_exists.1 h2
    simp [callFunc, program, Sem.run, Sem.bind, bind, pure, hf, h1, hc]
  · cases h

/-- Something that is called, at arguments that stand as vs says, over owned blocks that are as those of H where r.D says: it gives r.v and turns the blocks by r.δ. -/
def ACallsC (C : World → Array Value → (Ending → World → Prop) → Prop) (vs : List AV) (H : AH) (r : Out) : Prop :=
  ∀ H', (∀ id ∈ r.D, H'.get id = H.get id) → (∀ p ∈ r.δ, H.get p.1 = none → H'.get p.1 = none) → ∀ w g (xs : Array Value), vs.length = xs.size → (∀ (i : Nat) (v : AV) (x : Value), vs[i]? = some v → xs[i]? = some x → Cv w g v x) → HRel w g H' →
    (∀ p ∈ r.δ, H'.get p.1 = none → g.φ p.1 = none) → C w xs fun e w' => ∃ x, e = .returned x ∧ Post w g H' r.v r.δ x w'
/-- A function is called. -/
abbrev CF (P : Program) (f : FuncId) (w : World) (xs : Array Value) (R : Ending → World → Prop) : Prop := Calls P f xs w R
/-- A round of a loop over a function is asked for: the first argument is the function that was handed over. -/
abbrev CY (P : Program) (l : Nat) (rc : Loop) (w : World) (xs : Array Value) (R : Ending → World → Prop) : Prop :=
  RoundIn Fence.wide 0 P l rc.fn ((rc.params.zip (xs.extract 1 xs.size)).foldl (fun t (p, v) => t.setIfInBounds p v) rc.tmps) rc.assign rc.body w R
/-- The function f, at arguments that stand as vs says, over owned blocks that are as those of H where r.D says: it gives r.v and turns the blocks by r.δ. -/
def ACalls (P : Program) (f : FuncId) (vs : List AV) (H : AH) (r : Out) : Prop := ACallsC (CF P f) vs H r

theorem call_sem {P : Program} {o : Oper} {env : Operand → AV} {H : AH} {r : Out} {fv : Operand} {args : Array Operand} {tys : Array TypeId} {f : FuncId} {caps : List AV} {k : Nat} (ho : o.op = .call { callee := .value fv, args := args, argTypes := tys })
    (hf : env fv = .clo f caps k) (hP : callable P f = true) (h : ACalls P f (caps.take k ++ args.toList.map env ++ caps.drop k) H r) : OpSemD P o env H r := by
  intro H' hD hfresh w g ρ hρ hH hφ
  have h1 := hρ fv (by simp [ho, Op.operands, Call.operands])
  rw [hf] at h1
  generalize hq : ρ fv = y at h1
  cases h1 with
  | clo hk hl hc =>
    rename_i fs xs
    have hrun : (execOp ρ o).run P w = .ok (.enter f (fs ++ args.map ρ ++ xs)) w := by
      simp only [execOp, ho, resolve, hq]
      show (Sem.bind (Deferred.ofValue (.func (.func f) fs xs) (args.map ρ)) _).run P w = _
      rw [run_bind (a := { target := .fn (.func f) xs, args := fs ++ args.map ρ }) (w' := w) rfl]
      show (callFunc f (fs ++ args.map ρ ++ xs)).run P w = _
      rw [callFunc_run hP]
    unfold OpOK
    rw [hrun]
    simp only [Array.size_append] at hl
    refine h H' hD hfresh w g _ (by simp; omega) (fun i v x hi hx => ?_) hH hφ
    rw [List.append_assoc, List.getElem?_append] at hi
    rw [Array.append_assoc, Array.getElem?_append] at hx
    have hlt : (caps.take k).length = fs.size := by simp; omega
    rw [hlt] at hi
    split at hi
    · rename_i h1
      rw [if_pos h1] at hx
      rw [List.getElem?_take] at hi
      split at hi
      · refine hc i v x hi ?_
        rw [Array.getElem?_append, if_pos h1]; exact hx
      · cases hi
    · rename_i h1
      rw [if_neg h1] at hx
      rw [List.getElem?_append] at hi
      rw [Array.getElem?_append] at hx
      simp only [List.length_map, Array.length_toList, Array.size_map] at hi hx
      split at hi
      · rename_i h2
        rw [if_pos h2] at hx
        simp only [List.getElem?_map, Array.getElem?_toList, Array.getElem?_map] at hi hx
        obtain ⟨u, hu, rfl⟩ := Option.map_eq_some_iff.1 hi
        rw [hu] at hx; injection hx with hx; subst hx
        refine hρ u ?_
        simp only [ho, Op.operands, Call.operands, Array.toList_append, List.mem_append]
        exact .inr (by simpa using Array.mem_of_getElem? hu)
      · rename_i h2
        rw [if_neg h2] at hx
        rw [List.getElem?_drop] at hi
        refine hc _ v x hi ?_
        rw [Array.getElem?_append, if_neg (by omega)]
        rw [← hx]; congr 1; omega

theorem yield_sem {P : Program} {o : Oper} {env : Operand → AV} {H : AH} {r : Out} {fv : Operand} {args : Array Operand} {tys : Array TypeId} {l : Nat} {rc : Loop} {ks : List Nat} {cs : List AV} (ho : o.op = .call { callee := .value fv, args := args, argTypes := tys })
    (hf : env fv = .yl l rc ks cs) (hl : args.size = rc.params.size) (h : ACallsC (CY P l rc) (.yl l rc ks cs :: args.toList.map env) H r) : OpSemD P o env H r := by
  intro H' hD hfresh w g ρ hρ hH hφ
  have h1 := hρ fv (by simp [ho, Op.operands, Call.operands])
  rw [hf] at h1
  have h0 := h1
  generalize hq : ρ fv = y at h1 h0
  cases h1 with
  | yl hI hlp hk hc =>
    have hrun : (execOp ρ o).run P w = .ok (.round l rc.fn ((rc.params.zip (args.map ρ)).foldl (fun t (p, v) => t.setIfInBounds p v) rc.tmps) rc.assign rc.body) w := by
      simp only [execOp, ho, resolve, hq]
      show (Sem.bind (Deferred.ofValue (.func (.yield l) #[] #[]) (args.map ρ)) _).run P w = _
      rw [run_bind (a := { target := .fn (.yield l) #[], args := #[] ++ args.map ρ }) (w' := w) rfl]
      show (Instr.yield l (#[] ++ args.map ρ ++ #[])).run P w = _
      rw [run_yield hlp (by simpa using hl)]
      simp
    unfold OpOK
    rw [hrun]
    have := h H' hD hfresh w g (#[Value.func (.yield l) #[] #[]] ++ args.map ρ) (by simp; omega) (fun i v x hi hx => ?_) hH hφ
    · have he : (#[Value.func (.yield l) #[] #[]] ++ args.map ρ).extract 1 (#[Value.func (.yield l) #[] #[]] ++ args.map ρ).size = args.map ρ := by
        apply Array.ext'
        simp only [Array.toList_extract, Array.toList_append, Array.toList_map, List.extract_eq_take_drop]
        simp
        exact List.take_of_length_le (by simp)
      rw [CY, he] at this
      exact this
    · rw [Array.getElem?_append] at hx
      cases i with
      | zero => simp at hi hx; subst hi hx; exact h0
      | succ i =>
        simp only [List.size_toArray, List.length_singleton] at hx
        rw [if_neg (by omega)] at hx
        simp only [List.getElem?_cons_succ, List.getElem?_map, Array.getElem?_toList, Nat.add_sub_cancel, Array.getElem?_map] at hi hx
        obtain ⟨u, hu, rfl⟩ := Option.map_eq_some_iff.1 hi
        rw [hu] at hx; injection hx with hx; subst hx
        refine hρ u ?_
        simp only [ho, Op.operands, Call.operands, Array.toList_append, List.mem_append]
        exact .inr (by simpa using Array.mem_of_getElem? hu)

/-- A frame: what is known of the slots, the latest first. -/
abbrev Fr := List (Nat × AV)
def fget : Fr → Nat → AV
  | [], _ => .unk
  | (i, v) :: fr, t => if t = i then v else fget fr t
/-- A listed variable: a pointer to what is never written. -/
def globAV (g : Nat) : AV := match globTab.find? (fun x => x.1 == g) with
  | some x => .rp (.agg (x.2.map .sc)) 0
  | none => .sc (.pointer (some ⟨g, 0, none⟩))
theorem globAV_cv {w : World} {gh : Gh} (h : Glob w gh) (g : Nat) : Cv w gh (globAV g) (.pointer (some ⟨g, 0, none⟩)) := by
  unfold globAV
  split
  · rename_i x hx
    have h1 := List.find?_some hx
    have h2 := List.mem_of_find?_eq_some hx
    obtain ⟨h3, cs, ty, fz, h4, h5, _⟩ := h.1 x h2
    have e : x.1 = g := by simpa using h1
    rw [e] at h3 h4
    have key : ∀ (j : Nat) (c : AV), (AV.agg (x.2.map AV.sc)).cells[j]? = some c → ∃ v, x.2[j]? = some v ∧ c = .sc v := fun j c hc => by
      simp only [AV.cells, List.getElem?_map] at hc
      cases hv : x.2[j]? with
      | none => rw [hv] at hc; cases hc
      | some v => rw [hv] at hc; injection hc with hc; exact ⟨v, rfl, hc.symm⟩
    have := Cv.rp (w := w) (g := gh) (e := .agg (x.2.map .sc)) (off := 0) (b := g) (o := 0) (fun j => x.2.getD j undef) h3 (fun j c hc => ?_) (fun j c hc => ?_)
    · exact this
    · obtain ⟨v, hv, rfl⟩ := key j c hc
      rw [List.getD_eq_getElem?_getD, hv]
      have := (h5 j v hv).1
      simp [World.cell?, h4, this]
    · obtain ⟨v, hv, rfl⟩ := key j c hc
      rw [List.getD_eq_getElem?_getD, hv]
      exact .sc v (h5 j v hv).2
  · exact .sc _ rfl
/-- What an operand stands for in a frame. -/
def envF (fr : Fr) : Operand → AV
  | .tmp t => fget fr t
  | .const v => .sc v
  | .global g => globAV g
  | .func f => .clo f []
def stepBuiltin (T : TT) (H : AH) (nx : Nat) (env : Operand → AV) (b : Builtin) (args : List Operand) (tys : List TypeId) : Option Out :=
  match b with
  | .len => match args, tys with
    | a :: _, t :: _ => stepLen T H t (env a)
    | _, _ => none
  | .append => match args, tys with
    | [s, x], [t, xt] => stepAppend T H nx t xt (env s) (env x)
    | _, _ => none
  | .copy => match args, tys with
    | [s, x], [t, _] => stepCopy T H t (env s) (env x)
    | _, _ => none
  | .max => stepMM true (args.map env)
  | .min => stepMM false (args.map env)
  | _ => none
def astep (T : TT) (env : Operand → AV) (H : AH) (nx : Nat) (o : Oper) : Option Out :=
  match o.op with
  | .move x | .assign x => some { v := env x }
  | .pick c a b => stepPick (env c) (env a) (env b)
  | .alloc e => stepAlloc T nx e
  | .box e x => stepBox T nx e (env x)
  | .load t a => stepLoad T H t (env a)
  | .store t a x => stepStore T H t (env a) (env x)
  | .nilCheck x => if nilOk (env x) then some { v := env x } else none
  | .binOp op t x y _ => match stepEq T op t (env x) (env y) with
    | some r => some r
    | none => stepBin T op t (env x) (env y)
  | .unOp op _ x => stepUn op (env x)
  | .convert s d x => match stepBytes T s d (env x) with
    | some r => some r
    | none => if (T.get s).isSome then stepConv T d (env x) else none
  | .makeFunc (.func f) first caps => some { v := .clo f ((first ++ caps).toList.map env) first.size }
  | .fieldAddr s x f => stepFieldAddr T s f (env x)
  | .field s x f => stepField T s f (env x)
  | .indexAddr t x i => stepIndexAddr T t (env x) (env i)
  | .index t x i => stepIndex T t (env x) (env i)
  | .extract x i => stepExtract (env x) i
  | .slice t x lo hi mx => stepSlice T t (env x) (lo.map env) (hi.map env) (mx.map env)
  | .build t parts => stepBuild T t (partsOf env parts)
  | .buildSlice t len parts => stepBuildSlice T nx t len (partsOf env parts)
  | .call { callee := .builtin b, args := args, argTypes := tys } => stepBuiltin T H nx env b args.toList tys.toList
  | .makeMap t r => stepMakeMap T nx t (r.map env)
  | .entryStore _ m s x => stepEntryStore H (env m) (env s) (env x)
  | .makeSlice t l c => stepMakeSlice T nx t (env l) (env c)
  | _ => none
theorem astep_sem {P : Program} {T : TT} (hT : T.Ok P) {env : Operand → AV} {H : AH} {nx : Nat} {o : Oper} {r : Out} (h : astep T env H nx o = some r) (hok : r.ok = true) (hn : H.get nx = none) : OpSemD P o env H r := by
  unfold astep at h
  split at h
  · rename_i ho; injection h with h; subst h; exact move_sem (.inl ho)
  · rename_i ho; injection h with h; subst h; exact move_sem (.inr ho)
  · rename_i ho; exact pick_sem ho h hok
  · rename_i ho; exact alloc_sem hT ho h hok hn
  · rename_i ho; exact box_sem ho h hok hn
  · rename_i ho; exact load_sem hT ho h hok
  · rename_i ho; exact store_sem hT ho h hok
  · rename_i ho; split at h <;> cases h; exact nilCheck_sem ho (by assumption)
  · rename_i ho; split at h
    · rename_i r' hr; injection h with h; subst h; exact eq_sem hT ho hr
    · exact bin_sem hT ho h hok
  · rename_i ho; exact un_sem ho h
  · rename_i ho; split at h
    · rename_i hb; injection h with h; subst h; exact bytes_sem hT ho hb
    · split at h
      · exact conv_sem hT ho (by assumption) h
      · cases h
  · rename_i ho; cases h; exact makeFunc_sem ho
  · rename_i ho; exact fieldAddr_sem hT ho h hok
  · rename_i ho; exact field_sem hT ho h hok
  · rename_i ho; exact indexAddr_sem hT ho h hok
  · rename_i ho; exact index_sem hT ho h hok
  · rename_i ho; exact extract_sem ho h hok
  · rename_i ho; exact slice_sem hT ho h hok
  · rename_i ho; exact build_sem hT ho h hok
  · rename_i ho; exact buildSlice_sem hT ho h hok hn
  · rename_i b args tys ho
    unfold stepBuiltin at h
    split at h
    · split at h
      · rename_i a _ t _ h1 h2
        exact len_sem hT ho (by rw [← Array.getElem?_toList, h1]; rfl) (by rw [← Array.getElem?_toList, h2]; rfl) h hok
      · cases h
    · split at h
      · rename_i s x t xt h1 h2
        have e1 : args = #[s, x] := by rw [← Array.toArray_toList (xs := args), h1]
        have e2 : tys = #[t, xt] := by rw [← Array.toArray_toList (xs := tys), h2]
        subst e1 e2
        exact append_sem hT ho h hok hn
      · cases h
    · split at h
      · rename_i s x t xt h1 h2
        have e1 : args = #[s, x] := by rw [← Array.toArray_toList (xs := args), h1]
        have e2 : tys = #[t, xt] := by rw [← Array.toArray_toList (xs := tys), h2]
        subst e1 e2
        exact copy_sem hT ho h hok
      · cases h
    · exact mm_sem true (by simpa using ho) h
    · exact mm_sem false (by simpa using ho) h
    · cases h
  · rename_i ho; exact makeMap_sem hT ho h hn
  · rename_i ho; exact entryStore_sem ho h hok
  · rename_i ho; exact makeSlice_sem hT ho h hok hn
  · cases h
end Go.Proofs.Ytjnmbmdplchfkaa.Am
