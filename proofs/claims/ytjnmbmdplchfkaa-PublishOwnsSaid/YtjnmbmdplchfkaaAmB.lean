/- The owned machine, part B: the table of types, what an operation is asked to do, and the operations that touch no memory. -/
import Derived.Test.YtjnmbmdplchfkaaAmA
import Derived.Maps.Keyed
import Derived.RangeFuncRecord
import Derived.OrdersIn
import Derived.TacticsIn
import Derived.LoopNIn
set_option linter.all false
namespace Go.Proofs.Ytjnmbmdplchfkaa.Am
variable [Lo]
set_option linter.unusedVariables false

inductive TK where
  | int (k : IntKind) | bool | str | ptr (e : TypeId) | slice (e : TypeId) | arr (n : Nat) (e : TypeId) | struct (fs : List (Nat × TypeId)) | map (k e : TypeId) | fn | tup | iface | other
  deriving DecidableEq, Inhabited
structure TI where
  size : Nat
  bytes : Nat
  zero : Value
  k : TK
  eqs : Bool := false
  keyed : Bool := false
  deriving Inhabited
abbrev TT := List (TypeId × TI)
def TT.get : TT → TypeId → Option TI
  | [], _ => none
  | (i, x) :: T, t => if t = i then some x else TT.get T t
def tkOf : TypeDesc → TK
  | .bool => .bool | .int k => .int k | .string => .str | .pointer e => .ptr e | .slice e => .slice e | .array n e => .arr n e
  | .struct fs => .struct (fs.toList.map fun f => (f.offset, f.type)) | .map k e => .map k e | .func .. => .fn | .tuple _ => .tup | .interface _ => .iface | _ => .other
def noBlank (P : Program) (t : TypeId) : Bool := match P.underlying t with | some (.struct fs) => fs.toList.all (·.name != "_") | _ => true
/-- The table tells what the program's types are. -/
def TI.Ok (P : Program) (t : TypeId) (x : TI) : Prop :=
  (P.info? t).map (fun i => (i.size, i.bytes, i.zero)) = some (x.size, x.bytes, some x.zero) ∧ (P.underlying t).map tkOf = some x.k ∧ (x.eqs = true → P.stoodInHeld t = false ∧ P.eqGuardType P.depth t = false ∧ noBlank P t = true) ∧ (x.keyed = true → Go.Maps.Keyed P t)
def TT.Ok (P : Program) : TT → Prop
  | [] => True
  | (t, x) :: T => TI.Ok P t x ∧ TT.Ok P T
theorem TT.Ok.at_ {P : Program} : ∀ {T : TT}, T.Ok P → ∀ {t x}, T.get t = some x → TI.Ok P t x
  | [], _, t, x, h => by simp [TT.get] at h
  | (i, y) :: T, ⟨h1, h2⟩, t, x, h => by
    simp only [TT.get] at h
    split at h
    · rename_i e; subst e
      injection h with h; subst h
      exact h1
    · exact TT.Ok.at_ h2 h
theorem TT.Ok.get {P : Program} {T : TT} (hT : T.Ok P) {t x} (h : T.get t = some x) : (∃ i, P.info? t = some i ∧ i.size = x.size ∧ i.bytes = x.bytes ∧ i.zero = some x.zero) ∧ (P.underlying t).map tkOf = some x.k := by
  obtain ⟨h1, h2, _⟩ := hT.at_ h
  obtain ⟨inf, e1, e2⟩ := Option.map_eq_some_iff.1 h1
  injection e2 with a b; injection b with b c
  exact ⟨⟨inf, e1, a, b, c⟩, h2⟩

section
variable {P : Program} {T : TT} (hT : T.Ok P)
include hT
theorem TT.Ok.under {t : TypeId} {x : TI} (h : T.get t = some x) : ∃ d, P.underlying t = some d ∧ tkOf d = x.k := Option.map_eq_some_iff.1 (hT.get h).2
theorem TT.Ok.slice {t e : TypeId} {x : TI} (h : T.get t = some x) (hk : x.k = .slice e) : P.underlying t = some (.slice e) := by
  obtain ⟨d, h1, h2⟩ := hT.under h
  rw [hk] at h2; cases d <;> simp [tkOf] at h2; subst h2; exact h1
theorem TT.Ok.arr {t e : TypeId} {n : Nat} {x : TI} (h : T.get t = some x) (hk : x.k = .arr n e) : P.underlying t = some (.array n e) := by
  obtain ⟨d, h1, h2⟩ := hT.under h
  rw [hk] at h2; cases d <;> simp [tkOf] at h2; obtain ⟨rfl, rfl⟩ := h2; exact h1
theorem TT.Ok.int {t : TypeId} {k : IntKind} {x : TI} (h : T.get t = some x) (hk : x.k = .int k) : P.underlying t = some (.int k) := by
  obtain ⟨d, h1, h2⟩ := hT.under h
  rw [hk] at h2; cases d <;> simp [tkOf] at h2; subst h2; exact h1
theorem TT.Ok.bool {t : TypeId} {x : TI} (h : T.get t = some x) (hk : x.k = .bool) : P.underlying t = some .bool := by
  obtain ⟨d, h1, h2⟩ := hT.under h
  rw [hk] at h2; cases d <;> simp [tkOf] at h2; exact h1
theorem TT.Ok.str {t : TypeId} {x : TI} (h : T.get t = some x) (hk : x.k = .str) : P.underlying t = some .string := by
  obtain ⟨d, h1, h2⟩ := hT.under h
  rw [hk] at h2; cases d <;> simp [tkOf] at h2; exact h1
theorem TT.Ok.ptr {t e : TypeId} {x : TI} (h : T.get t = some x) (hk : x.k = .ptr e) : P.underlying t = some (.pointer e) := by
  obtain ⟨d, h1, h2⟩ := hT.under h
  rw [hk] at h2; cases d <;> simp [tkOf] at h2; subst h2; exact h1
theorem TT.Ok.map {t k e : TypeId} {x : TI} (h : T.get t = some x) (hk : x.k = .map k e) : P.underlying t = some (.map k e) := by
  obtain ⟨d, h1, h2⟩ := hT.under h
  rw [hk] at h2; cases d <;> simp [tkOf] at h2; obtain ⟨rfl, rfl⟩ := h2; exact h1
theorem TT.Ok.struct {t : TypeId} {x : TI} {l : List (Nat × TypeId)} (h : T.get t = some x) (hk : x.k = .struct l) : ∃ fs, P.underlying t = some (.struct fs) ∧ fs.toList.map (fun f => (f.offset, f.type)) = l := by
  obtain ⟨d, h1, h2⟩ := hT.under h
  rw [hk] at h2; cases d <;> simp [tkOf] at h2; exact ⟨_, h1, h2⟩
theorem TT.Ok.fn {t : TypeId} {x : TI} (h : T.get t = some x) (hk : x.k = .fn) : ∃ a b c, P.underlying t = some (.func a b c) := by
  obtain ⟨d, h1, h2⟩ := hT.under h
  rw [hk] at h2; cases d <;> simp [tkOf] at h2; exact ⟨_, _, _, h1⟩
end

def TK.isAgg : TK → Bool
  | .struct _ | .arr .. => true
  | _ => false
theorem TT.Ok.isAgg {P : Program} {T : TT} (hT : T.Ok P) {t : TypeId} {x : TI} (h : T.get t = some x) (w : World) : (Go.isAgg t).run P w = .ok x.k.isAgg w := by
  obtain ⟨d, h1, h2⟩ := hT.under h
  rw [← h2]
  cases d <;> simp [Go.isAgg, underlying, program, Sem.run, Sem.bind, bind, pure, h1, tkOf, TK.isAgg]
theorem TT.Ok.sizeOf {P : Program} {T : TT} (hT : T.Ok P) {t : TypeId} {x : TI} (h : T.get t = some x) (w : World) : (Go.sizeOf t).run P w = .ok x.size w := by
  obtain ⟨⟨i, h1, h2, _⟩, _⟩ := hT.get h
  simp [Go.sizeOf, typeInfo, program, Sem.run, Sem.bind, bind, pure, h1, h2]

/-- What an operation gives. -/
structure Out where
  ok : Bool := true
  v : AV
  δ : List (Nat × Option Blk) := []
  D : List Nat := []
def AH.upd : AH → List (Nat × Option Blk) → AH
  | H, [] => H
  | H, (i, some b) :: δ => AH.upd (H.set i b) δ
  | H, (i, none) :: δ => AH.upd (H.del i) δ

/-- Behind a step: the value, and the owned blocks as they are then. -/
def Post (w : World) (g : Gh) (H : AH) (v : AV) (δ : List (Nat × Option Blk)) (x : Value) (w' : World) : Prop :=
  ∃ g', Adv w g H w' g' (H.upd δ) ∧ Cv w' g' v x ∧ ∀ id, (id ∉ δ.map Prod.fst ∨ H.get id ≠ none) → g'.φ id = g.φ id

/-- The frames of which is spoken: outermost ones, and those of the rounds of a loop. -/
abbrev FR (r : Option Nat) : Fence := { Fence.wide with round := r }
def OpOK (P : Program) (o : Oper) (ρ : Operand → Value) (w : World) (post : Value → World → Prop) : Prop :=
  match (execOp ρ o).run P w with
  | .ok (.value x) w' => post x w'
  | .ok .skip w' => post undef w'
  | .ok (.enter f xs) w' => Calls P f xs w' fun e w'' => ∃ x, e = .returned x ∧ post x w''
  | .ok (.round l f tmps assign body) w' => RoundIn Fence.wide 0 P l f tmps assign body w' fun e w'' => ∃ x, e = .returned x ∧ post x w''
  | _ => False

theorem OpOK.wpIn {P : Program} {o : Oper} {a : Act} {w : World} {post : Value → World → Prop} {K : Act → World → Prop} {Q : Exit → Act → World → Prop} (r : Option Nat)
    (h : OpOK P o a.eval w post) (hk : ∀ x w', post x w' → K (a.put o.dst x) w') : o.wpIn (FR r) 0 P a w K Q := by
  unfold OpOK at h
  refine ⟨fun _ _ => trivial, ?_⟩
  have hnd : ∀ c, o.op ≠ .defer c := by
    intro c hc
    cases hr : (resolve a.eval c o.type).run P w with
    | ok d w' =>
      have hx : (execOp a.eval o).run P w = .ok (.defer d) w' := by
        simp only [execOp, hc, Sem.run_bind, hr]; rfl
      rw [hx] at h; exact h
    | halt q w' =>
      have hx : (execOp a.eval o).run P w = .halt q w' := by
        simp only [execOp, hc, Sem.run_bind, hr]; rfl
      rw [hx] at h; exact h
  rw [Oper.semAt_eq _ _ _ hnd]
  generalize (execOp a.eval o).run P w = q at *
  cases q with
  | ok n w' =>
    cases n <;> simp only [Oper.uponIn] at h ⊢ <;> first | exact h.elim | exact hk _ _ h | skip
    · refine ⟨fun k => absurd k (by decide), callsIn_wide.2 (h.mono fun e w'' ⟨x, he, hp⟩ => ?_)⟩
      subst he; exact hk _ _ hp
    · refine ⟨fun k => absurd k (by decide), RoundIn.mono h fun e w'' ⟨x, he, hp⟩ => ?_⟩
      subst he; exact hk _ _ hp
  | halt x w' => exact h.elim

/-- The operation o, at operands that stand as env says, over owned blocks H: it gives v and turns the blocks by δ. -/
def OpSem (P : Program) (o : Oper) (env : Operand → AV) (H : AH) (v : AV) (δ : List (Nat × Option Blk)) : Prop :=
  ∀ w g ρ, (∀ x ∈ o.op.operands.toList, Cv w g (env x) (ρ x)) → HRel w g H → (∀ p ∈ δ, H.get p.1 = none → g.φ p.1 = none) → OpOK P o ρ w (Post w g H v δ)
/-- The same over all owned blocks that are as those of H where D says. -/
def OpSemD (P : Program) (o : Oper) (env : Operand → AV) (H : AH) (x : Out) : Prop :=
  ∀ H', (∀ id ∈ x.D, H'.get id = H.get id) → (∀ p ∈ x.δ, H.get p.1 = none → H'.get p.1 = none) → OpSem P o env H' x.v x.δ

theorem Post.pure {w : World} {g : Gh} {H : AH} {v : AV} {x : Value} (hH : HRel w g H) (h : Cv w g v x) : Post w g H v [] x w :=
  ⟨g, Adv.refl hH, h, fun _ _ => rfl⟩

/-- An operation that only reckons. -/
theorem OpSemD.pure {P : Program} {o : Oper} {env : Operand → AV} {H : AH} {v : AV}
    (h : ∀ w g ρ, (∀ x ∈ o.op.operands.toList, Cv w g (env x) (ρ x)) → ∃ x, (execOp ρ o).run P w = .ok (.value x) w ∧ Cv w g v x) : OpSemD P o env H { v := v } :=
  fun H' _ _ w g ρ ho hH _ => by
    obtain ⟨x, hx, hc⟩ := h w g ρ ho
    simp only [OpOK, hx]
    exact Post.pure hH hc

theorem Cv.sc_inv {w : World} {g : Gh} {v x : Value} (h : Cv w g (.sc v) x) : x = v := by cases h; rfl
def known : AV → Bool
  | .unk | .when .. => false
  | _ => true
theorem Cv.cells {w : World} {g : Gh} {v : AV} {x : Value} (hk : known v = true) (h : Cv w g v x) : v.cells.length = x.cells.size ∧ ∀ (i : Nat) (c : AV) (y : Value), v.cells[i]? = some c → x.cells[i]? = some y → Cv w g c y := by
  have one : ∀ {u : AV} {y : Value}, Cv w g u y → u.cells = [u] → y.cells = #[y] → u.cells.length = y.cells.size ∧ ∀ (i : Nat) (c : AV) (z : Value), u.cells[i]? = some c → y.cells[i]? = some z → Cv w g c z := by
    intro u y hu h1 h2
    rw [h1, h2]
    refine ⟨rfl, fun i c z hi hz => ?_⟩
    cases i with
    | zero => simp at hi hz; subst hi hz; exact hu
    | succ i => simp at hi
  have h0 := h
  cases h with
  | unk => cases hk
  | when => cases hk
  | agg h1 h2 => exact ⟨h1, h2⟩
  | sc v h => exact one h0 rfl h
  | fr h _ => exact one h0 rfl (by obtain ⟨_, _, _, rfl⟩ := h; rfl)
  | old h _ => exact one h0 rfl (by obtain ⟨_, _, _, rfl⟩ := h; rfl)
  | _ => exact one h0 rfl rfl
end Go.Proofs.Ytjnmbmdplchfkaa.Am
