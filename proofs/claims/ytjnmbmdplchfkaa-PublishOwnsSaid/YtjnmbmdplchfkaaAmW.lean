/- The owned machine, part W: lengths, slices of slices and strings, the least and the greatest, aggregates written out. -/
import Derived.Test.YtjnmbmdplchfkaaAmJ
set_option linter.all false
namespace Go.Proofs.Ytjnmbmdplchfkaa.Am
variable [Lo]
set_option linter.unusedVariables false

def stepLen (T : TT) (H : AH) (t : TypeId) (x : AV) : Option Out :=
  match x, (T.get t).map TI.k with
  | .sc (.string s), some .str => some { v := .sc (.int .i64 s.size) }
  | .sc (.slice _ n _), some (.slice _) => some { v := .sc (.int .i64 n) }
  | .ro _ _ es, some (.slice _) => some { v := .sc (.int .i64 es.length) }
  | .slm _ _ _ _ len, some (.slice _) => some { v := .sc (.int .i64 len) }
  | .mp id, some (.map ..) => match H.get id with
    | some (.map _ kv) => some { v := .sc (.int .i64 kv.length), D := [id] }
    | _ => none
  | _, some (.arr n _) => some { v := .sc (.int .i64 n) }
  | _, _ => none
/-- A bound of a slice expression. -/
def bnd (d : Nat) : Option AV → Option Int
  | none => some d
  | some (.sc (.int _ i)) => some i
  | _ => none
def stepSlice (T : TT) (t : TypeId) (x : AV) (lo hi mx : Option AV) : Option Out :=
  match x with
  | .sc (.string s) => match mx, bnd 0 lo, bnd s.size hi, (T.get t).map TI.k with
    | none, some l, some h, some .str => some { ok := decide (0 ≤ l ∧ l ≤ h ∧ h ≤ (s.size : Int)), v := .sc (.string (s.extract l.toNat h.toNat)) }
    | _, _, _, _ => none
  | .slm full id E off len => match bnd 0 lo, bnd len hi, elemOf T t with
    | some l, some h, some (_, ti) => match mx with
      | none => some { ok := decide (0 ≤ l ∧ l ≤ h ∧ h ≤ (len : Int)) && ti.size == E, v := .slm ⟨false, full.nn⟩ id E (off + l.toNat) (h.toNat - l.toNat) }
      | some m => match hi.isSome, bnd 0 (some m) with
        | true, some m => some { ok := decide (0 ≤ l ∧ l ≤ h ∧ h ≤ (len : Int) ∧ m = h) && ti.size == E, v := .slm ⟨true, full.nn⟩ id E (off + l.toNat) (h.toNat - l.toNat) }
        | _, _ => none
    | _, _, _ => none
  | .ro full E es => match bnd 0 lo, bnd es.length hi, elemOf T t with
    | some l, some h, some (_, ti) => match mx with
      | none => some { ok := decide (0 ≤ l ∧ l ≤ h ∧ h ≤ (es.length : Int)) && ti.size == E, v := .ro ⟨false, full.nn⟩ E ((es.drop l.toNat).take (h.toNat - l.toNat)) }
      | some m => match hi.isSome, bnd 0 (some m) with
        | true, some m => some { ok := decide (0 ≤ l ∧ l ≤ h ∧ h ≤ (es.length : Int) ∧ m = h) && ti.size == E, v := .ro ⟨true, full.nn⟩ E ((es.drop l.toNat).take (h.toNat - l.toNat)) }
        | _, _ => none
    | _, _, _ => none
  | .sc (.slice none 0 0) => match bnd 0 lo, bnd 0 hi, bnd 0 mx, (T.get t).map TI.k with
    | some l, some h, some m, some (.slice e) => if mx.isSome && !hi.isSome then none else some { ok := decide (l = 0 ∧ h = 0 ∧ m = 0) && (T.get e).isSome, v := .sc (.slice none 0 0) }
    | _, _, _, _ => none
  | _ => none

theorem bound_run {P : Program} (w : World) {k : IntKind} {i : Int} {y : Nat} (code : BoundsCode) (h0 : 0 ≤ i) (h1 : i ≤ (y : Int)) : (Instr.sliceBound (.int k i) y code).run P w = .ok i.toNat w := by
  unfold Instr.sliceBound
  show (Sem.bind (asIntOf (.int k i)) _).run P w = _
  rw [run_bind (show (asIntOf (.int k i)).run P w = .ok (k, i) w from rfl)]
  simp only [if_pos (And.intro h0 h1)]; rfl

/-- An optional bound in a world. -/
def bndV : Option Value → Nat → Option Int
  | none, d => some d
  | some (.int _ i), _ => some i
  | _, _ => none
theorem bounds_run {P : Program} (w : World) {isS : Bool} {len cap : Nat} {lo hi mx : Option Value} {l h : Int} {m : Nat} (hl : bndV lo 0 = some l) (hh : bndV hi len = some h) (hmx : match mx with | none => m = cap | some v => ∃ k i, v = .int k i ∧ 0 ≤ i ∧ i ≤ (cap : Int) ∧ m = i.toNat ∧ hi.isSome = true)
    (h0 : 0 ≤ l) (h1 : l ≤ h) (h2 : h ≤ (m : Int)) : (Instr.sliceBounds isS len cap lo hi mx).run P w = .ok (l.toNat, h.toNat, m) w := by
  unfold Instr.sliceBounds
  cases mx with
  | none =>
    subst hmx
    cases hi with
    | none =>
      simp only [bndV, Option.some.injEq] at hh
      subst hh
      cases lo with
      | none => simp only [bndV, Option.some.injEq] at hl; subst hl; simp [Sem.run, pure, bind, Sem.bind]
      | some v =>
        cases v <;> simp only [bndV, Option.some.injEq, reduceCtorEq] at hl
        subst hl
        show (Sem.bind (Instr.sliceBound _ _ _) _).run P w = _
        rw [run_bind (bound_run w _ h0 h1)]
        simp [Sem.run, pure]
    | some u =>
      cases u <;> simp only [bndV, Option.some.injEq, reduceCtorEq] at hh
      subst hh
      show (Sem.bind (Instr.sliceBound _ _ _) _).run P w = _
      rw [run_bind (bound_run w _ (by omega) h2)]
      cases lo with
      | none => simp only [bndV, Option.some.injEq] at hl; subst hl; simp [Sem.run, pure, bind, Sem.bind]
      | some v =>
        cases v <;> simp only [bndV, Option.some.injEq, reduceCtorEq] at hl
        subst hl
        show (Sem.bind (Instr.sliceBound _ _ _) _).run P w = _
        rw [run_bind (bound_run w _ h0 (by omega))]
        simp [Sem.run, pure]
  | some v =>
    obtain ⟨k, i, rfl, hi0, hi1, rfl, his⟩ := hmx
    cases hi with
    | none => cases his
    | some u =>
      cases u <;> simp only [bndV, Option.some.injEq, reduceCtorEq] at hh
      subst hh
      show (Sem.bind (Instr.sliceBound _ _ _) _).run P w = _
      rw [run_bind (bound_run w _ hi0 hi1)]
      show (Sem.bind (Instr.sliceBound _ _ _) _).run P w = _
      rw [run_bind (bound_run w _ (by omega) h2)]
      cases lo with
      | none => simp only [bndV, Option.some.injEq] at hl; subst hl; simp [Sem.run, pure, bind, Sem.bind]
      | some v =>
        cases v <;> simp only [bndV, Option.some.injEq, reduceCtorEq] at hl
        subst hl
        show (Sem.bind (Instr.sliceBound _ _ _) _).run P w = _
        rw [run_bind (bound_run w _ h0 (by omega))]
        simp [Sem.run, pure]
theorem bnd_rel {w : World} {g : Gh} {d : Nat} {a : Option Operand} {env : Operand → AV} {ρ : Operand → Value} {i : Int} (hr : ∀ x ∈ a.toList, Cv w g (env x) (ρ x)) (h : bnd d (a.map env) = some i) : bndV (a.map ρ) d = some i := by
  cases a with
  | none => exact h
  | some x =>
    have h1 := hr x (by simp)
    simp only [Option.map_some] at h ⊢
    unfold bnd at h
    split at h
    · rename_i h2; cases h2
    · rename_i k j h2
      injection h2 with h2
      rw [h2] at h1
      rw [h1.sc_inv]; exact h
    · cases h

section
variable {P : Program} {T : TT} (hT : T.Ok P) {o : Oper} {env : Operand → AV} {H : AH} {r : Out}
include hT

theorem len_sem {args : Array Operand} {tys : Array TypeId} {a : Operand} {t : TypeId} (ho : o.op = .call { callee := .builtin .len, args := args, argTypes := tys }) (ha : args[0]? = some a) (ht : tys[0]? = some t) (h : stepLen T H t (env a) = some r) (hok : r.ok = true) : OpSemD P o env H r := by
  have hδ : r.δ = [] := by
    unfold stepLen at h
    split at h <;> first | (injection h with h; subst h; rfl) | (split at h <;> first | (injection h with h; subst h; rfl) | cases h) | cases h
  refine OpSemD.read hδ fun H' w g ρ hρ hH hD => ?_
  have hm : a ∈ o.op.operands.toList := by
    simp only [ho, Op.operands, Call.operands, Array.toList_append, List.mem_append]
    exact .inr (by simpa using Array.mem_of_getElem? ha)
  have hc := hρ a hm
  have run : ∀ {x : Value}, (Builtin.len_ tys o.type (args.map ρ)).run P w = .ok x w → (execOp ρ o).run P w = .ok (.value x) w := by
    intro x hx
    simp only [execOp, ho, resolve]
    exact run_value hx
  have args0 : (args.map ρ)[0]? = some (ρ a) := by rw [Array.getElem?_map, ha]; rfl
  have lenrun : ∀ {x : Value} {d : TypeDesc}, P.underlying t = some d → ((match d, ρ a with
      | .string, .string s => pure (goInt s.size)
      | .array n _, _ => pure (goInt n)
      | .pointer arr, _ => do
        let .array n _ ← underlying arr | stuck "len: pointer to array expected"
        pure (goInt n)
      | .slice _, .slice _ n _ => pure (goInt n)
      | .map _ _, .map none | .chan _ _, .chan none => pure (goInt 0)
      | .map _ _, .map (some r) => do
        let .map entries _ ← getObj r | stuck "len: map expected"
        pure (goInt entries.size)
      | .chan _ _, .chan (some r) => do
        let .chan _ buf _ _ _ timer ← getObj r | stuck "len: channel expected"
        pure (goInt (if timer then 0 else buf.size))
      | _, _ => stuck "len: string, array, pointer to array, slice, map or channel expected") : Sem Value).run P w = .ok x w → (Builtin.len_ tys o.type (args.map ρ)).run P w = .ok x w := by
    intro x d hd hx
    unfold Builtin.len_
    simp only [ht, args0]
    show (Sem.bind (underlying t) _).run P w = _
    rw [run_bind (underlying_run hd w)]
    exact hx
  cases hk : T.get t with
  | none => simp [stepLen, hk] at h
  | some ti =>
    simp only [stepLen, hk, Option.map_some] at h
    split at h
    · rename_i s hx hkk
      injection h with h; subst h
      rw [hx] at hc
      injection hkk with hkk
      refine ⟨.int .i64 s.size, run (lenrun (hT.str hk hkk) ?_), .sc _ rfl⟩
      rw [hc.sc_inv]; rfl
    · rename_i a0 n c e hx hkk
      injection h with h; subst h
      rw [hx] at hc
      injection hkk with hkk
      refine ⟨.int .i64 n, run (lenrun (hT.slice hk hkk) ?_), .sc _ rfl⟩
      rw [hc.sc_inv]; rfl
    · rename_i full E es e hx hkk
      injection h with h; subst h
      rw [hx] at hc
      injection hkk with hkk
      refine ⟨.int .i64 es.length, run (lenrun (hT.slice hk hkk) ?_), .sc _ rfl⟩
      generalize ρ a = y at hc
      cases hc <;> rfl
    · rename_i full id E off len e hx hkk
      injection h with h; subst h
      rw [hx] at hc
      injection hkk with hkk
      refine ⟨.int .i64 len, run (lenrun (hT.slice hk hkk) ?_), .sc _ rfl⟩
      generalize ρ a = y at hc
      cases hc <;> rfl
    · rename_i id k' e hx hkk
      split at h
      · rename_i ck kv hB
        injection h with h; subst h
        rw [hx] at hc
        injection hkk with hkk
        refine ⟨.int .i64 kv.length, run (lenrun (hT.map hk hkk) ?_), .sc _ rfl⟩
        generalize ρ a = y at hc
        cases hc with
        | mp hφ =>
          obtain ⟨b, en, h1, h2, h3, _⟩ := hH.rel id _ ((hD id (by simp)).trans hB)
          rw [hφ] at h1; injection h1 with h1; injection h1 with h1 _; subst h1
          simp only [getObj, Sem.run, h2, bind, Sem.bind, pure, h3, goInt]
      · cases h
    · rename_i n e hkk
      injection h with h; subst h
      have hkk' : ti.k = .arr n e := by injection hkk
      exact ⟨.int .i64 n, run (lenrun (hT.arr hk hkk') rfl), .sc _ rfl⟩
    · cases h

theorem slice_run {t e : TypeId} {ti : TI} (ht : P.underlying t = some (.slice e)) (he : T.get e = some ti) {w : World} {a : Option Addr} {len cap : Nat} {lo hi mx : Option Value} {l h m : Nat} (hb : (Instr.sliceBounds true len cap lo hi mx).run P w = .ok (l, h, m) w) :
    (Instr.sliceAt t (.slice a len cap) lo hi mx).run P w = .ok (.slice (if m = l then a else a.map (·.add (l * ti.size))) (h - l) (m - l)) w := by
  unfold Instr.sliceAt
  show (Sem.bind (underlying t) _).run P w = _
  rw [run_bind (underlying_run ht w)]
  show (Instr.slice t (.slice a len cap) lo hi mx).run P w = _
  unfold Instr.slice
  show (Sem.bind (underlying t) _).run P w = _
  rw [run_bind (underlying_run ht w)]
  show (Sem.bind (Instr.sliceBounds true len cap lo hi mx) _).run P w = _
  rw [run_bind hb]
  show (Sem.bind (Go.sizeOf e) _).run P w = _
  rw [run_bind (hT.sizeOf he w)]; rfl

theorem slice_sem {t : TypeId} {x : Operand} {lo hi mx : Option Operand} (ho : o.op = .slice t x lo hi mx) (h : stepSlice T t (env x) (lo.map env) (hi.map env) (mx.map env) = some r) (hok : r.ok = true) : OpSemD P o env H r := by
  have ops : ∀ {w : World} {g : Gh} {ρ : Operand → Value}, (∀ y ∈ o.op.operands.toList, Cv w g (env y) (ρ y)) → Cv w g (env x) (ρ x) ∧ (∀ y ∈ lo.toList, Cv w g (env y) (ρ y)) ∧ (∀ y ∈ hi.toList, Cv w g (env y) (ρ y)) ∧ ∀ y ∈ mx.toList, Cv w g (env y) (ρ y) := by
    intro w g ρ hρ
    refine ⟨hρ x ?_, fun y hy => hρ y ?_, fun y hy => hρ y ?_, fun y hy => hρ y ?_⟩ <;> simp [ho, Op.operands] <;> simp at hy <;> simp [hy]
  -- the greatest bound, read in the world
  have mxr : ∀ {w : World} {g : Gh} {ρ : Operand → Value} {m : Int} {cap : Nat}, (∀ y ∈ mx.toList, Cv w g (env y) (ρ y)) → mx.isSome = true → bnd 0 (mx.map env) = some m → 0 ≤ m → m ≤ (cap : Int) → hi.isSome = true →
      match mx.map ρ with | none => m.toNat = cap | some v => ∃ k i, v = .int k i ∧ 0 ≤ i ∧ i ≤ (cap : Int) ∧ m.toNat = i.toNat ∧ (hi.map ρ).isSome = true := by
    intro w g ρ m cap hr hs hm h0 h1 hh
    cases hmx : mx with
    | none => rw [hmx] at hs; cases hs
    | some y =>
      rw [hmx] at hr hm
      have := bnd_rel (d := 0) (a := some y) hr hm
      simp only [Option.map_some, bndV] at this ⊢
      split at this
      · rename_i h3; cases h3
      · rename_i k i h3
        injection this with this; subst this
        injection h3 with h3
        exact ⟨k, i, h3, h0, h1, rfl, by simpa using hh⟩
      · cases this
  unfold stepSlice at h
  split at h
  · -- a string
    rename_i s hx
    split at h
    · rename_i l hh hmx hl hhi hk
      injection h with h; subst h
      obtain ⟨si, h1, h2⟩ := Option.map_eq_some_iff.1 hk
      have hus := hT.str h1 h2
      simp at hok
      obtain ⟨k0, k1, k2⟩ := hok
      have hmx' : mx = none := by simpa using hmx
      subst hmx'
      refine OpSemD.pure' rfl fun w g ρ hρ => ?_
      obtain ⟨c1, c2, c3, _⟩ := ops hρ
      rw [hx] at c1
      refine ⟨.string (s.extract l.toNat hh.toNat), ?_, .sc _ rfl⟩
      simp only [execOp, ho, c1.sc_inv]
      refine run_value ?_
      unfold Instr.sliceAt
      show (Sem.bind (underlying t) _).run P w = _
      rw [run_bind (underlying_run hus w)]
      show (Instr.slice t (.string s) _ _ none).run P w = _
      unfold Instr.slice
      show (Sem.bind (underlying t) _).run P w = _
      rw [run_bind (underlying_run hus w)]
      show (Sem.bind (Instr.sliceBounds false s.size s.size _ _ none) _).run P w = _
      rw [run_bind (bounds_run w (m := s.size) (bnd_rel c2 hl) (bnd_rel c3 hhi) rfl k0 k1 k2)]; rfl
    · cases h
  · -- a row that is owned
    rename_i full id E off len hx
    split at h
    case h_2 => cases h
    rename_i l hh e ti hl hhi he
    obtain ⟨h2, h3⟩ := elemOf_spec hT he
    have fin : ∀ {w : World} {g : Gh} {ρ : Operand → Value} {full' : Bool}, (∀ y ∈ o.op.operands.toList, Cv w g (env y) (ρ y)) → 0 ≤ l → l ≤ hh → hh ≤ (len : Int) → ti.size = E →
        (∀ cap : Nat, len ≤ cap → ∃ m : Nat, hh ≤ (m : Int) ∧ m ≤ cap ∧ (full' = true → m = hh.toNat) ∧ (match mx.map ρ with | none => m = cap | some v => ∃ k i, v = .int k i ∧ 0 ≤ i ∧ i ≤ (cap : Int) ∧ m = i.toNat ∧ (hi.map ρ).isSome = true)) →
        ∃ y, (execOp ρ o).run P w = .ok (.value y) w ∧ Cv w g (.slm ⟨full', full.nn⟩ id E (off + l.toNat) (hh.toNat - l.toNat)) y := by
      intro w g ρ full' hρ k0 k1 k2 hE hm
      obtain ⟨c1, c2, c3, c4⟩ := ops hρ
      rw [hx] at c1
      generalize hq : ρ x = q at c1
      cases c1 with
      | slz hnn =>
        rename_i a
        obtain ⟨m, m1, m2, m3, m4⟩ := hm 0 (Nat.le_refl _)
        have := slice_run hT h2 h3 (a := a) (bounds_run (isS := true) w (m := m) (bnd_rel c2 hl) (bnd_rel c3 hhi) m4 k0 k1 m1)
        refine ⟨_, by simp only [execOp, ho, hq]; exact run_value this, ?_⟩
        have e1 : l.toNat = 0 := by omega
        have e2 : hh.toNat = 0 := by omega
        have e3 : m = 0 := by omega
        rw [e1, e2, e3]
        exact .slz (fun h => by simpa using hnn h)
      | slm hφ hfull hlc hb hsz =>
        rename_i b cap cs ty fz
        obtain ⟨m, m1, m2, m3, m4⟩ := hm cap hlc
        have := slice_run hT h2 h3 (a := some ⟨b, off * E, none⟩) (bounds_run (isS := true) w (m := m) (bnd_rel c2 hl) (bnd_rel c3 hhi) m4 k0 k1 m1)
        refine ⟨_, by simp only [execOp, ho, hq]; exact run_value this, ?_⟩
        by_cases hml : m = l.toNat
        · rw [if_pos hml]
          have e1 : hh.toNat - l.toNat = 0 := by omega
          have e2 : m - l.toNat = 0 := by omega
          rw [e1, e2]; exact .slz (fun _ => rfl)
        · rw [if_neg hml, Option.map_some, addr_add, hE, ← Nat.add_mul]
          refine .slm hφ (fun hf => by rw [m3 hf]) (by omega) hb ?_
          refine Nat.le_trans (Nat.mul_le_mul_right E ?_) hsz
          omega
    split at h
    · rename_i hmx
      injection h with h; subst h
      simp at hok
      obtain ⟨⟨k0, k1, k2⟩, k3⟩ := hok
      have hmx' : mx = none := by simpa using hmx
      refine OpSemD.pure' rfl fun w g ρ hρ => fin hρ k0 k1 k2 k3 fun cap hc => ⟨cap, by omega, Nat.le_refl _, (fun h => by cases h), by rw [hmx']; rfl⟩
    · rename_i m hmx
      split at h
      · rename_i m' his hm'
        injection h with h; subst h
        simp at hok
        obtain ⟨⟨k0, k1, k2, k4⟩, k3⟩ := hok
        refine OpSemD.pure' rfl fun w g ρ hρ => fin hρ k0 k1 k2 k3 fun cap hc => ⟨m'.toNat, by omega, by omega, (fun _ => by rw [k4]), ?_⟩
        obtain ⟨_, _, _, c4⟩ := ops hρ
        exact mxr c4 (by cases mx <;> simp at hmx ⊢) (by rw [hmx]; exact hm') (by omega) (by omega) (by simpa using his)
      · cases h
  · -- a slice that is never written
    rename_i full E es hx
    split at h
    case h_2 => cases h
    rename_i l hh e ti hl hhi he
    obtain ⟨h2, h3⟩ := elemOf_spec hT he
    have fin : ∀ {w : World} {g : Gh} {ρ : Operand → Value} {full' : Bool}, (∀ y ∈ o.op.operands.toList, Cv w g (env y) (ρ y)) → 0 ≤ l → l ≤ hh → hh ≤ (es.length : Int) → ti.size = E →
        (∀ cap : Nat, es.length ≤ cap → ∃ m : Nat, hh ≤ (m : Int) ∧ m ≤ cap ∧ (full' = true → m = hh.toNat) ∧ (match mx.map ρ with | none => m = cap | some v => ∃ k i, v = .int k i ∧ 0 ≤ i ∧ i ≤ (cap : Int) ∧ m = i.toNat ∧ (hi.map ρ).isSome = true)) →
        ∃ y, (execOp ρ o).run P w = .ok (.value y) w ∧ Cv w g (.ro ⟨full', full.nn⟩ E ((es.drop l.toNat).take (hh.toNat - l.toNat))) y := by
      intro w g ρ full' hρ k0 k1 k2 hE hm
      obtain ⟨c1, c2, c3, c4⟩ := ops hρ
      rw [hx] at c1
      generalize hq : ρ x = q at c1
      cases c1 with
      | roz hf ha hnn =>
        rename_i cap a
        obtain ⟨m, m1, m2, m3, m4⟩ := hm cap (Nat.zero_le _)
        simp at k2
        have := slice_run hT h2 h3 (a := a) (bounds_run (isS := true) (len := 0) w (m := m) (bnd_rel c2 hl) (bnd_rel c3 hhi) m4 k0 k1 m1)
        refine ⟨_, by simp only [execOp, ho, hq]; exact run_value this, ?_⟩
        have e1 : l.toNat = 0 := by omega
        have e2 : hh.toNat = 0 := by omega
        rw [e1, e2]
        simp only [Nat.sub_zero, List.take_zero]
        refine .roz (fun hf => by rw [m3 hf, e2]) (fun hn => ?_) (fun hf => ?_)
        · split at hn
          · assumption
          · have : a = none := by cases a <;> simp at hn ⊢
            have := ha this; omega
        · have := hnn hf
          split <;> simp [this]
      | ro X hI hcap hfull hE2 hc hv =>
        rename_i b q0 cap
        obtain ⟨m, m1, m2, m3, m4⟩ := hm cap hcap
        have := slice_run hT h2 h3 (a := some ⟨b, q0, none⟩) (bounds_run (isS := true) w (m := m) (bnd_rel c2 hl) (bnd_rel c3 hhi) m4 k0 k1 m1)
        refine ⟨_, by simp only [execOp, ho, hq]; exact run_value this, ?_⟩
        by_cases hlh : hh.toNat - l.toNat = 0
        · rw [hlh]
          simp only [List.take_zero]
          refine .roz (fun hf => by have := m3 hf; omega) (fun hn => ?_) (fun hf => ?_)
          · split at hn
            · cases hn
            · simp at hn
          · split <;> rfl
        · have hlen : ((es.drop l.toNat).take (hh.toNat - l.toNat)).length = hh.toNat - l.toNat := by simp; omega
          rw [if_neg (by omega), Option.map_some, addr_add, hE]
          have key : ∀ (i : Nat) (e : AV), ((es.drop l.toNat).take (hh.toNat - l.toNat))[i]? = some e → es[l.toNat + i]? = some e := by
            intro i e hi
            rw [List.getElem?_take] at hi
            split at hi
            · rwa [List.getElem?_drop] at hi
            · cases hi
          have := Cv.ro (w := w) (g := g) (fl := ⟨full', full.nn⟩) (E := E) (es := (es.drop l.toNat).take (hh.toNat - l.toNat)) (b := b) (o := q0 + l.toNat * E) (cap := m - l.toNat) (fun i j => X (l.toNat + i) j) hI (by rw [hlen]; omega) (fun hf => by rw [hlen, m3 hf])
            (fun e he => hE2 e (List.mem_of_mem_drop (List.mem_of_mem_take he))) (fun i j e c hi hj => by
              have := hc (l.toNat + i) j e c (key i e hi) hj
              rwa [Nat.add_mul, ← Nat.add_assoc] at this) (fun i j e c hi hj => hv (l.toNat + i) j e c (key i e hi) hj)
          rw [hlen] at this
          exact this
    split at h
    · rename_i hmx
      injection h with h; subst h
      simp at hok
      obtain ⟨⟨k0, k1, k2⟩, k3⟩ := hok
      have hmx' : mx = none := by simpa using hmx
      refine OpSemD.pure' rfl fun w g ρ hρ => fin hρ k0 k1 k2 k3 fun cap hc => ⟨cap, by omega, Nat.le_refl _, (fun h => by cases h), by rw [hmx']; rfl⟩
    · rename_i m hmx
      split at h
      · rename_i m' his hm'
        injection h with h; subst h
        simp at hok
        obtain ⟨⟨k0, k1, k2, k4⟩, k3⟩ := hok
        refine OpSemD.pure' rfl fun w g ρ hρ => fin hρ k0 k1 k2 k3 fun cap hc => ⟨m'.toNat, by omega, by omega, (fun _ => by rw [k4]), ?_⟩
        obtain ⟨_, _, _, c4⟩ := ops hρ
        exact mxr c4 (by cases mx <;> simp at hmx ⊢) (by rw [hmx]; exact hm') (by omega) (by omega) (by simpa using his)
      · cases h
  · -- nil
    rename_i hx
    split at h
    case h_2 => cases h
    rename_i l hh m e hl hhi hm hk
    split at h
    · cases h
    · rename_i hms
      injection h with h; subst h
      simp at hok
      obtain ⟨⟨k0, k1, k2⟩, k3⟩ := hok
      obtain ⟨ti, hti⟩ := Option.isSome_iff_exists.1 k3
      obtain ⟨si, h1, h2⟩ := Option.map_eq_some_iff.1 hk
      subst k0 k1 k2
      refine OpSemD.pure' rfl fun w g ρ hρ => ?_
      obtain ⟨c1, c2, c3, c4⟩ := ops hρ
      rw [hx] at c1
      have hb : (Instr.sliceBounds true 0 0 (lo.map ρ) (hi.map ρ) (mx.map ρ)).run P w = .ok (0, 0, 0) w := by
        refine bounds_run (l := 0) (h := 0) w (bnd_rel c2 hl) (bnd_rel c3 hhi) ?_ (Int.le_refl _) (Int.le_refl _) (by simp)
        cases hmx : mx with
        | none => rfl
        | some y =>
          have := mxr (cap := 0) c4 (by rw [hmx]; rfl) hm (Int.le_refl _) (by simp) (by rw [hmx] at hms; cases hi <;> simp at hms ⊢)
          rw [hmx] at this; simpa using this
      have := slice_run hT (hT.slice h1 h2) hti (a := none) hb
      exact ⟨.slice none 0 0, by simp only [execOp, ho, c1.sc_inv]; exact run_value this, .sc _ rfl⟩
  · cases h
end
end Go.Proofs.Ytjnmbmdplchfkaa.Am
