/- The owned machine, part F: addresses, fields, elements, loads. -/
import Derived.Test.YtjnmbmdplchfkaaAmE
set_option linter.all false
namespace Go.Proofs.Ytjnmbmdplchfkaa.Am
variable [Lo]
set_option linter.unusedVariables false

theorem underlying_run {P : Program} {t : TypeId} {d : TypeDesc} (h : P.underlying t = some d) (w : World) : (underlying t).run P w = .ok d w := by
  simp [underlying, program, Sem.run, Sem.bind, bind, pure, h]
theorem addr_add (b o n : Nat) : (⟨b, o, none⟩ : Addr).add n = ⟨b, o + n, none⟩ := by
  unfold Addr.add; split
  · rename_i h; subst h; rfl
  · rfl
theorem fieldOf_spec {P : Program} {T : TT} (hT : T.Ok P) {s : TypeId} {f off : Nat} {ti : TI} (h : fieldOf T s f = some (off, ti)) :
    ∃ (fs : Array Field) (fd : Field), P.underlying s = some (.struct fs) ∧ fs[f]? = some fd ∧ fd.offset = off ∧ T.get fd.type = some ti := by
  unfold fieldOf at h
  split at h
  · rename_i l hk
    obtain ⟨si, h1, h2⟩ := Option.map_eq_some_iff.1 hk
    obtain ⟨fs, h3, h4⟩ := hT.struct h1 h2
    split at h
    · rename_i o t hf
      obtain ⟨ti', h5, h6⟩ := Option.map_eq_some_iff.1 h
      injection h6 with a b; subst a b
      rw [← h4, List.getElem?_map] at hf
      obtain ⟨fd, h7, h8⟩ := Option.map_eq_some_iff.1 hf
      injection h8 with a b
      exact ⟨fs, fd, h3, by simpa using h7, a, by rw [b]; exact h5⟩
    · cases h
  · cases h
theorem elemOf_spec {P : Program} {T : TT} (hT : T.Ok P) {t e : TypeId} {ti : TI} (h : elemOf T t = some (e, ti)) : P.underlying t = some (.slice e) ∧ T.get e = some ti := by
  unfold elemOf at h
  split at h
  · rename_i l hk
    obtain ⟨si, h1, h2⟩ := Option.map_eq_some_iff.1 hk
    obtain ⟨ti', h5, h6⟩ := Option.map_eq_some_iff.1 h
    injection h6 with a b; subst a b
    exact ⟨hT.slice h1 h2, h5⟩
  · cases h
theorem arrOf_spec {P : Program} {T : TT} (hT : T.Ok P) {t : TypeId} {n : Nat} {ti : TI} (h : arrOf T t = some (n, ti)) : ∃ e, P.underlying t = some (.array n e) ∧ T.get e = some ti := by
  unfold arrOf at h
  split at h
  · rename_i n' e hk
    obtain ⟨si, h1, h2⟩ := Option.map_eq_some_iff.1 hk
    obtain ⟨ti', h5, h6⟩ := Option.map_eq_some_iff.1 h
    injection h6 with a b; subst a b
    exact ⟨e, hT.arr h1 h2, h5⟩
  · cases h
/-- A part of an aggregate. -/
theorem part_run {P : Program} {T : TT} (hT : T.Ok P) {t : TypeId} {ti : TI} (h : T.get t = some ti) (hs : ti.k.isAgg = true ∨ ti.size = 1) {w : World} {g : Gh} {cs : List AV} {xs : Array Value} (hl : cs.length = xs.size)
    (hc : ∀ (i : Nat) (c : AV) (x : Value), cs[i]? = some c → xs[i]? = some x → Cv w g c x) {off : Nat} (ho : off + ti.size ≤ cs.length) (w0 : World) :
    ∃ y, (Go.part t xs off).run P w0 = .ok y w0 ∧ Cv w g (if ti.k.isAgg then .agg ((cs.drop off).take ti.size) else cs.getD off (.sc undef)) y := by
  have e1 := hT.isAgg h w0
  unfold Go.part
  by_cases ha : ti.k.isAgg = true
  · rw [ha] at e1
    refine ⟨.agg (xs.extract off (off + ti.size)), ?_, ?_⟩
    · show (Sem.bind (Go.isAgg t) _).run P w0 = _
      rw [run_bind e1]
      simp only [if_true]
      show (Sem.bind (Go.sizeOf t) _).run P w0 = _
      rw [run_bind (hT.sizeOf h w0)]; rfl
    · rw [if_pos ha]
      refine .agg (by simp; omega) fun i c x hi hx => ?_
      rw [List.getElem?_take] at hi
      split at hi
      · rw [List.getElem?_drop] at hi
        rw [Array.getElem?_extract] at hx
        split at hx
        · exact hc _ _ _ hi hx
        · cases hx
      · cases hi
  · have ha' : ti.k.isAgg = false := by simpa using ha
    rw [ha'] at e1
    have h1 : ti.size = 1 := hs.resolve_left ha
    have hlt : off < xs.size := by omega
    refine ⟨xs[off], ?_, ?_⟩
    · show (Sem.bind (Go.isAgg t) _).run P w0 = _
      rw [run_bind e1]
      simp [hlt, Sem.run, pure]
    · rw [if_neg ha]
      exact hc off _ _ (by rw [List.getD_eq_getElem?_getD, List.getElem?_eq_getElem (by omega)]; rfl) (by simp [hlt])

section
variable {P : Program} {T : TT} (hT : T.Ok P) {o : Oper} {env : Operand → AV} {H : AH} {r : Out}
include hT

theorem fieldAddr_sem {s : TypeId} {x : Operand} {f : Nat} (ho : o.op = .fieldAddr s x f) (h : stepFieldAddr T s f (env x) = some r) (hok : r.ok = true) : OpSemD P o env H r := by
  unfold stepFieldAddr at h
  split at h
  case h_2 => cases h
  rename_i off ti hf
  obtain ⟨fs, fd, h1, h2, h3, h4⟩ := fieldOf_spec hT hf
  have run : ∀ (w : World) (b o' : Nat), ti.size ≠ 0 → (Instr.fieldAt s (.pointer (some ⟨b, o', none⟩)) f).run P w = .ok (.pointer (some ⟨b, o' + off, none⟩)) w := by
    intro w b o' hz
    unfold Instr.fieldAt
    show (Sem.bind (underlying s) _).run P w = _
    rw [run_bind (underlying_run h1 w)]
    simp only [h2]
    show (Sem.bind (Sem.bind (Go.sizeOf fd.type) _) _).run P w = _
    have e : (fieldPlace ⟨b, o', none⟩ fd).run P w = .ok ⟨b, o' + off, none⟩ w := by
      unfold fieldPlace
      show (Sem.bind (Go.sizeOf fd.type) _).run P w = _
      rw [run_bind (hT.sizeOf h4 w)]
      simp only [if_neg hz]
      rw [h3, addr_add]; rfl
    exact (run_bind (f := fun a => (Sem.pure (Value.pointer (some a)))) e)
  cases hx : env x with
  | ptr id E idx o' =>
    simp only [hx, Option.some.injEq] at h
    subst h
    have hz : ti.size ≠ 0 := by simpa using hok
    refine OpSemD.pure' rfl fun w g ρ h => ?_
    have h5 := h x (by simp [ho, Op.operands])
    rw [hx] at h5
    generalize hρ : ρ x = y at h5
    cases h5 with
    | ptr hφ =>
      rename_i b
      refine ⟨_, ?_, .ptr hφ⟩
      simp only [execOp, ho, hρ]
      rw [run_value (run w b _ hz), Nat.add_assoc]
  | rp e o' =>
    simp only [hx, Option.some.injEq] at h
    subst h
    have hz : ti.size ≠ 0 := by simpa using hok
    refine OpSemD.pure' rfl fun w g ρ h => ?_
    have h5 := h x (by simp [ho, Op.operands])
    rw [hx] at h5
    generalize hρ : ρ x = y at h5
    cases h5 with
    | rp X hI hc hv =>
      rename_i b q
      refine ⟨.pointer (some ⟨b, q + (o' + off), none⟩), ?_, .rp X hI hc hv⟩
      simp only [execOp, ho, hρ]
      rw [run_value (run w b _ hz), Nat.add_assoc]
  | sc v =>
    cases v with
    | pointer p =>
      rcases p with _ | ⟨b, o', pt⟩
      · simp [hx] at h
      · cases pt with
        | some _ => simp [hx] at h
        | none =>
          simp only [hx, Option.some.injEq] at h
          subst h
          have hz : ti.size ≠ 0 := by simpa using hok
          refine OpSemD.pure' rfl fun w g ρ h => ?_
          have h5 := h x (by simp [ho, Op.operands])
          rw [hx] at h5
          refine ⟨_, ?_, .sc _ rfl⟩
          simp only [execOp, ho, h5.sc_inv]
          rw [run_value (run w b _ hz)]
    | _ => simp [hx] at h
  | _ => simp [hx] at h

theorem field_sem {s : TypeId} {x : Operand} {f : Nat} (ho : o.op = .field s x f) (h : stepField T s f (env x) = some r) (hok : r.ok = true) : OpSemD P o env H r := by
  unfold stepField at h
  split at h
  case h_2 => cases h
  rename_i off ti cs hf hx
  injection h with h; subst h
  obtain ⟨fs, fd, h1, h2, h3, h4⟩ := fieldOf_spec hT hf
  simp at hok
  refine OpSemD.pure' rfl fun w g ρ h => ?_
  have h5 := h x (by simp [ho, Op.operands])
  rw [hx] at h5
  generalize hρ : ρ x = y at h5
  cases h5 with
  | agg hl hc =>
    rename_i xs
    obtain ⟨y, hy, hcv⟩ := part_run hT h4 (by simpa using hok.2) hl hc hok.1 w
    refine ⟨y, ?_, hcv⟩
    simp only [execOp, ho, hρ]
    refine run_value ?_
    unfold Instr.field
    show (Sem.bind (underlying s) _).run P w = _
    rw [run_bind (underlying_run h1 w)]
    simp only [h2]
    show (Sem.bind (asAgg (.agg xs)) _).run P w = _
    rw [run_bind (show (asAgg (.agg xs)).run P w = .ok xs w from rfl), h3]
    exact hy

theorem indexAddr_sem {t : TypeId} {x i : Operand} (ho : o.op = .indexAddr t x i) (h : stepIndexAddr T t (env x) (env i) = some r) (hok : r.ok = true) : OpSemD P o env H r := by
  unfold stepIndexAddr at h
  split at h
  case h_2 => cases h
  rename_i k n hi
  have slice_run : ∀ (w : World) (e : TypeId) (ti : TI) (b o' len cap : Nat), P.underlying t = some (.slice e) → T.get e = some ti → 0 ≤ n → n < (len : Int) →
      (Instr.indexAt t (.slice (some ⟨b, o', none⟩) len cap) (.int k n)).run P w = .ok (.pointer (some ⟨b, o' + n.toNat * ti.size, none⟩)) w := by
    intro w e ti b o' len cap h1 h2 h3 h4
    unfold Instr.indexAt
    show (Sem.bind (asIntOf (.int k n)) _).run P w = _
    rw [run_bind (show (asIntOf (.int k n)).run P w = .ok (k, n) w from rfl)]
    simp only []
    show (Sem.bind (underlying t) _).run P w = _
    rw [run_bind (underlying_run h1 w)]
    show (Sem.bind (underlying t) _).run P w = _
    rw [run_bind (underlying_run h1 w)]
    simp only [if_pos (And.intro h3 h4)]
    show (Sem.bind (Go.sizeOf e) _).run P w = _
    rw [run_bind (hT.sizeOf h2 w), addr_add]; rfl
  have arr_run : ∀ (w : World) (e : TypeId) (ti : TI) (m b o' : Nat), P.underlying t = some (.array m e) → T.get e = some ti → 0 ≤ n → n < (m : Int) →
      (Instr.indexAt t (.pointer (some ⟨b, o', none⟩)) (.int k n)).run P w = .ok (.pointer (some ⟨b, o' + n.toNat * ti.size, none⟩)) w := by
    intro w e ti m b o' h1 h2 h3 h4
    unfold Instr.indexAt
    show (Sem.bind (asIntOf (.int k n)) _).run P w = _
    rw [run_bind (show (asIntOf (.int k n)).run P w = .ok (k, n) w from rfl)]
    simp only []
    show (Sem.bind (underlying t) _).run P w = _
    rw [run_bind (underlying_run h1 w)]
    show (Sem.bind (underlying t) _).run P w = _
    rw [run_bind (underlying_run h1 w)]
    simp only [if_pos (And.intro h3 h4)]
    show (Sem.bind (Go.sizeOf e) _).run P w = _
    rw [run_bind (hT.sizeOf h2 w), addr_add]; rfl
  cases hx : env x with
  | slm full id E off len =>
    simp only [hx] at h
    obtain ⟨⟨e, ti⟩, h1, rfl⟩ := Option.map_eq_some_iff.1 h
    obtain ⟨h2, h3⟩ := elemOf_spec hT h1
    simp at hok
    obtain ⟨⟨h4, h5⟩, h6⟩ := hok
    refine OpSemD.pure' rfl fun w g ρ h => ?_
    have h7 := h x (by simp [ho, Op.operands])
    have h8 := h i (by simp [ho, Op.operands])
    rw [hx] at h7; rw [hi] at h8
    generalize hρ : ρ x = y at h7
    cases h7 with
    | slz => omega
    | slm hφ _ hlc hb hsz =>
      refine ⟨_, ?_, .ptr hφ⟩
      simp only [execOp, ho, hρ, h8.sc_inv]
      rw [run_value (slice_run w e ti _ _ _ _ h2 h3 h4 h5), h6, Nat.add_mul]
      rfl
  | ro full E es =>
    simp only [hx] at h
    obtain ⟨⟨e, ti⟩, h1, rfl⟩ := Option.map_eq_some_iff.1 h
    obtain ⟨h2, h3⟩ := elemOf_spec hT h1
    simp at hok
    obtain ⟨⟨h4, h5⟩, h6⟩ := hok
    refine OpSemD.pure' rfl fun w g ρ h => ?_
    have h7 := h x (by simp [ho, Op.operands])
    have h8 := h i (by simp [ho, Op.operands])
    rw [hx] at h7; rw [hi] at h8
    generalize hρ : ρ x = y at h7
    cases h7 with
    | roz => simp at h5; omega
    | ro X hI hcap hfull hE hc hv =>
      rename_i b q cap
      have hlt : n.toNat < es.length := by omega
      refine ⟨.pointer (some ⟨b, q + n.toNat * E + 0, none⟩), ?_, .rp (fun j => X n.toNat j) hI (fun j c hj => ?_) (fun j c hj => ?_)⟩
      · simp only [execOp, ho, hρ, h8.sc_inv]
        rw [run_value (slice_run w e ti _ _ _ _ h2 h3 h4 h5), h6]
        rfl
      · rw [List.getD_eq_getElem?_getD, List.getElem?_eq_getElem hlt] at hj
        exact hc n.toNat j _ c (List.getElem?_eq_getElem hlt) hj
      · rw [List.getD_eq_getElem?_getD, List.getElem?_eq_getElem hlt] at hj
        exact hv n.toNat j _ c (List.getElem?_eq_getElem hlt) hj
  | ptr id E idx off =>
    simp only [hx] at h
    obtain ⟨⟨m, ti⟩, h1, rfl⟩ := Option.map_eq_some_iff.1 h
    obtain ⟨e, h2, h3⟩ := arrOf_spec hT h1
    simp at hok
    refine OpSemD.pure' rfl fun w g ρ h => ?_
    have h7 := h x (by simp [ho, Op.operands])
    have h8 := h i (by simp [ho, Op.operands])
    rw [hx] at h7; rw [hi] at h8
    generalize hρ : ρ x = y at h7
    cases h7 with
    | ptr hφ =>
      refine ⟨_, ?_, .ptr hφ⟩
      simp only [execOp, ho, hρ, h8.sc_inv]
      rw [run_value (arr_run w e ti _ _ _ h2 h3 hok.1 hok.2), Nat.add_assoc]
  | rp e' off =>
    simp only [hx] at h
    obtain ⟨⟨m, ti⟩, h1, rfl⟩ := Option.map_eq_some_iff.1 h
    obtain ⟨e, h2, h3⟩ := arrOf_spec hT h1
    simp at hok
    refine OpSemD.pure' rfl fun w g ρ h => ?_
    have h7 := h x (by simp [ho, Op.operands])
    have h8 := h i (by simp [ho, Op.operands])
    rw [hx] at h7; rw [hi] at h8
    generalize hρ : ρ x = y at h7
    cases h7 with
    | rp X hI hc hv =>
      rename_i b q
      refine ⟨.pointer (some ⟨b, q + (off + n.toNat * ti.size), none⟩), ?_, .rp X hI hc hv⟩
      simp only [execOp, ho, hρ, h8.sc_inv]
      rw [run_value (arr_run w e ti _ _ _ h2 h3 hok.1 hok.2), Nat.add_assoc]
  | sc v =>
    cases v with
    | slice p len cap =>
      rcases p with _ | ⟨b, o', pt⟩
      · simp [hx] at h
      · cases pt with
        | some _ => simp [hx] at h
        | none =>
          simp only [hx] at h
          obtain ⟨⟨e, ti⟩, h1, rfl⟩ := Option.map_eq_some_iff.1 h
          obtain ⟨h2, h3⟩ := elemOf_spec hT h1
          simp at hok
          refine OpSemD.pure' rfl fun w g ρ h => ?_
          have h7 := h x (by simp [ho, Op.operands])
          have h8 := h i (by simp [ho, Op.operands])
          rw [hx] at h7; rw [hi] at h8
          refine ⟨_, ?_, .sc _ rfl⟩
          simp only [execOp, ho, h7.sc_inv, h8.sc_inv]
          rw [run_value (slice_run w e ti _ _ _ _ h2 h3 hok.1 hok.2)]
    | _ => simp [hx] at h
  | _ => simp [hx] at h

theorem index_sem {t : TypeId} {x i : Operand} (ho : o.op = .index t x i) (h : stepIndex T t (env x) (env i) = some r) (hok : r.ok = true) : OpSemD P o env H r := by
  unfold stepIndex at h
  split at h
  case h_2 => cases h
  rename_i k n hi
  cases hx : env x with
  | agg cs =>
    simp only [hx] at h
    obtain ⟨⟨m, ti⟩, h1, rfl⟩ := Option.map_eq_some_iff.1 h
    obtain ⟨e, h2, h3⟩ := arrOf_spec hT h1
    simp at hok
    obtain ⟨⟨⟨h4, h5⟩, h6⟩, h7⟩ := hok
    refine OpSemD.pure' rfl fun w g ρ h => ?_
    have h8 := h x (by simp [ho, Op.operands])
    have h9 := h i (by simp [ho, Op.operands])
    rw [hx] at h8; rw [hi] at h9
    generalize hρ : ρ x = y at h8
    cases h8 with
    | agg hl hc =>
      rename_i xs
      obtain ⟨y, hy, hcv⟩ := part_run hT h3 h7 hl hc h6 w
      refine ⟨y, ?_, hcv⟩
      simp only [execOp, ho, hρ, h9.sc_inv]
      refine run_value ?_
      unfold Instr.index
      show (Sem.bind (asIntOf (.int k n)) _).run P w = _
      rw [run_bind (show (asIntOf (.int k n)).run P w = .ok (k, n) w from rfl)]
      simp only []
      show (Sem.bind (underlying t) _).run P w = _
      rw [run_bind (underlying_run h2 w)]
      simp only [if_pos (And.intro h4 h5)]
      show (Sem.bind (Go.sizeOf e) _).run P w = _
      rw [run_bind (hT.sizeOf h3 w)]
      exact hy
  | sc v =>
    cases v with
    | string s =>
      simp only [hx] at h
      split at h
      case h_2 => cases h
      rename_i hk
      obtain ⟨si, h1, h2⟩ := Option.map_eq_some_iff.1 hk
      injection h with h; subst h
      simp at hok
      refine OpSemD.pure' rfl fun w g ρ h => ?_
      have h8 := h x (by simp [ho, Op.operands])
      have h9 := h i (by simp [ho, Op.operands])
      rw [hx] at h8; rw [hi] at h9
      have hlt : n.toNat < s.size := by omega
      refine ⟨_, ?_, .sc _ rfl⟩
      simp only [execOp, ho, h8.sc_inv, h9.sc_inv]
      refine run_value ?_
      unfold Instr.index
      show (Sem.bind (asIntOf (.int k n)) _).run P w = _
      rw [run_bind (show (asIntOf (.int k n)).run P w = .ok (k, n) w from rfl)]
      simp only []
      show (Sem.bind (underlying t) _).run P w = _
      rw [run_bind (underlying_run (hT.str h1 h2) w)]
      simp only [if_pos hok.1]
      rw [getElem?_pos s n.toNat hlt]
      have : s.data.toList.getD n.toNat 0 = s[n.toNat] := by
        rw [List.getD_eq_getElem?_getD, List.getElem?_eq_getElem (by simpa using hlt)]; rfl
      rw [this]; rfl
    | _ => simp [hx] at h
  | _ => simp [hx] at h
end
end Go.Proofs.Ytjnmbmdplchfkaa.Am
