/- The owned machine, part C: what the operations that touch no memory give. -/
import Derived.Test.YtjnmbmdplchfkaaAmB
set_option linter.all false
namespace Go.Proofs.Ytjnmbmdplchfkaa.Am
variable [Lo]
set_option linter.unusedVariables false

/-- The value of an integer operation, and whether it may be carried out. -/
def intOp (op : BinOp) (k : IntKind) (a b : Int) : Option (Bool × Value) :=
  match op with
  | .add => some (true, .int k (k.wrap (a + b)))
  | .sub => some (true, .int k (k.wrap (a - b)))
  | .mul => some (true, .int k (k.wrap (a * b)))
  | .quo => some (b != 0, .int k (k.wrap (a.tdiv b)))
  | .rem => some (b != 0, .int k (a.tmod b))
  | .and => some (true, .int k (k.wrap ((BitVec.ofInt k.bits a) &&& (BitVec.ofInt k.bits b)).toNat))
  | .or => some (true, .int k (k.wrap ((BitVec.ofInt k.bits a) ||| (BitVec.ofInt k.bits b)).toNat))
  | .xor => some (true, .int k (k.wrap ((BitVec.ofInt k.bits a) ^^^ (BitVec.ofInt k.bits b)).toNat))
  | .andNot => some (true, .int k (k.wrap ((BitVec.ofInt k.bits a) &&& ~~~(BitVec.ofInt k.bits b)).toNat))
  | .eql => some (true, .bool (a == b))
  | .neq => some (true, .bool (a != b))
  | .lss => some (true, .bool (decide (a < b)))
  | .leq => some (true, .bool (decide (a ≤ b)))
  | .gtr => some (true, .bool (decide (a > b)))
  | .geq => some (true, .bool (decide (a ≥ b)))
  | _ => none
def shiftOp (op : BinOp) (k : IntKind) (a b : Int) : Option (Bool × Value) :=
  match op with
  | .shl => some (decide (0 ≤ b), .int k (k.wrap (a * 2 ^ (min b.toNat k.bits))))
  | .shr => some (decide (0 ≤ b), .int k (a.fdiv (2 ^ (min b.toNat k.bits))))
  | _ => none
def strOp (op : BinOp) (x y : ByteArray) : Option (Bool × Value) :=
  match op with
  | .add => some (decide (((x.size + y.size : Nat) : Int) ≤ IntKind.i64.max), .string (x ++ y))
  | .eql => some (true, .bool (x.toList == y.toList))
  | .neq => some (true, .bool !(x.toList == y.toList))
  | .lss => some (true, .bool (Op.bytesLess x.toList y.toList))
  | .leq => some (true, .bool (Op.bytesLess x.toList y.toList || x.toList == y.toList))
  | .gtr => some (true, .bool !(Op.bytesLess x.toList y.toList || x.toList == y.toList))
  | .geq => some (true, .bool !(Op.bytesLess x.toList y.toList))
  | _ => none
def scalarOp (T : TT) (op : BinOp) (t : TypeId) : Value → Value → Option (Bool × Value)
  | .int k a, .int k' b => match op with
    | .shl | .shr => shiftOp op k a b
    | _ => if k = k' then intOp op k a b else none
  | .string a, .string b => strOp op a b
  | .bool a, .bool b => match op, (T.get t).map TI.k with
    | .eql, some .bool => some (true, .bool (a == b))
    | .neq, some .bool => some (true, .bool (a != b))
    | _, _ => none
  | .pointer none, .pointer none => match op, (T.get t).map TI.k with
    | .eql, some (.ptr _) => some (true, .bool true)
    | .neq, some (.ptr _) => some (true, .bool false)
    | _, _ => none
  | .slice none _ _, .slice none _ _ => match op, (T.get t).map TI.k with
    | .eql, some (.slice _) => some (true, .bool true)
    | .neq, some (.slice _) => some (true, .bool false)
    | _, _ => none
  | .nilFunc, .nilFunc => match op, (T.get t).map TI.k with
    | .eql, some .fn => some (true, .bool true)
    | .neq, some .fn => some (true, .bool false)
    | _, _ => none
  | _, _ => none

theorem equal_bool {P : Program} {t : TypeId} (h : P.underlying t = some .bool) (a b : Bool) (w : World) : (Op.equal t (.bool a) (.bool b)).run P w = .ok (a == b) w := by
  show (Op.equalIn (9999 + 1) t (.bool a) (.bool b)).run P w = _
  generalize 9999 = d
  simp [Op.equalIn, underlying, program, Sem.run, Sem.bind, bind, pure, h]
theorem equal_ptr {P : Program} {t e : TypeId} (h : P.underlying t = some (.pointer e)) (w : World) : (Op.equal t (.pointer none) (.pointer none)).run P w = .ok true w := by
  show (Op.equalIn (9999 + 1) t _ _).run P w = _
  generalize 9999 = d
  simp [Op.equalIn, underlying, program, Sem.run, Sem.bind, bind, pure, h]
theorem equal_ptr1 {P : Program} {t e : TypeId} (h : P.underlying t = some (.pointer e)) (a : Addr) (w : World) : (Op.equal t (.pointer (some a)) (.pointer none)).run P w = .ok false w := by
  show (Op.equalIn (9999 + 1) t _ _).run P w = _
  generalize 9999 = d
  simp [Op.equalIn, underlying, program, Sem.run, Sem.bind, bind, pure, h]
theorem equal_ptr2 {P : Program} {t e : TypeId} (h : P.underlying t = some (.pointer e)) (a : Addr) (w : World) : (Op.equal t (.pointer none) (.pointer (some a))).run P w = .ok false w := by
  show (Op.equalIn (9999 + 1) t _ _).run P w = _
  generalize 9999 = d
  simp [Op.equalIn, underlying, program, Sem.run, Sem.bind, bind, pure, h]
theorem equal_slice {P : Program} {t e : TypeId} (h : P.underlying t = some (.slice e)) (n m k l : Nat) (w : World) : (Op.equal t (.slice none n m) (.slice none k l)).run P w = .ok true w := by
  show (Op.equalIn (9999 + 1) t _ _).run P w = _
  generalize 9999 = d
  simp [Op.equalIn, underlying, program, Sem.run, Sem.bind, bind, pure, h]
theorem equal_slice1 {P : Program} {t e : TypeId} (h : P.underlying t = some (.slice e)) (a : Addr) (n m k l : Nat) (w : World) : (Op.equal t (.slice (some a) n m) (.slice none k l)).run P w = .ok false w := by
  show (Op.equalIn (9999 + 1) t _ _).run P w = _
  generalize 9999 = d
  simp [Op.equalIn, underlying, program, Sem.run, Sem.bind, bind, pure, h]
theorem equal_nilFunc {P : Program} {t : TypeId} {a b : Array TypeId} {c : Bool} (h : P.underlying t = some (.func a b c)) (w : World) : (Op.equal t .nilFunc .nilFunc).run P w = .ok true w := by
  show (Op.equalIn (9999 + 1) t _ _).run P w = _
  generalize 9999 = d
  simp [Op.equalIn, underlying, program, Sem.run, Sem.bind, bind, pure, h]
theorem run_bind {α β : Type} {P : Program} {s : Sem α} {f : α → Sem β} {w w' : World} {a : α} (h : s.run P w = .ok a w') : (s.bind f).run P w = (f a).run P w' := by
  induction s generalizing w with
  | pure a => simp [Sem.run] at h; obtain ⟨rfl, rfl⟩ := h; rfl
  | load m a k ih =>
    simp only [Sem.bind, Sem.run] at h ⊢
    split at h
    · exact ih _ h
    · split at h
      · exact ih _ h
      · cases h
  | store m a v k ih =>
    cases v <;> simp only [Sem.bind, Sem.run] at h ⊢
    all_goals first
      | cases h; done
      | (split at h
         · split at h
           · cases h
           · rename_i hf; simp only [hf]; exact ih h
         · split at h
           · exact ih h
           · cases h)
  | new o k ih => exact ih _ h
  | shape r k ih => exact ih _ h
  | freeze a n k ih => exact ih h
  | frozen a k ih => exact ih _ h
  | getObj r k ih =>
    simp only [Sem.bind, Sem.run] at h ⊢
    split at h
    · cases h
    · exact ih _ h
    · cases h
  | setObj r o k ih =>
    simp only [Sem.bind, Sem.run] at h ⊢
    split at h
    · cases h
    · exact ih h
    · cases h
  | choose q k ih =>
    simp only [Sem.bind, Sem.run] at h ⊢
    split at h
    · rename_i hq; simp only [hq]; exact ih _ h
    · rename_i hq; simp only [hq]; exact ih _ h
  | sys c k ih => exact ih _ h
  | program k ih => exact ih _ h
  | mark m k ih => exact ih h
  | halt x => simp [Sem.run] at h

theorem scalarOp_run {P : Program} {T : TT} (hT : T.Ok P) {op : BinOp} {t : TypeId} {x y : Operand} {a b v : Value} (h : scalarOp T op t a b = some (true, v)) (w : World) :
    ((do eqGuard op t x y a b; binOp op t a b : Sem Value)).run P w = .ok v w := by
  unfold scalarOp at h
  split at h
  · rename_i k a k' b
    split at h
    · simp [shiftOp] at h; obtain ⟨h1, rfl⟩ := h
      simp [eqGuard, binOp, Op.shift, Sem.run, Sem.bind, bind, pure]
      intro h2; omega
    · simp [shiftOp] at h; obtain ⟨h1, rfl⟩ := h
      simp [eqGuard, binOp, Op.shift, Sem.run, Sem.bind, bind, pure]
      intro h2; omega
    · rename_i hs hr
      split at h
      · rename_i hk; subst hk
        cases op <;> simp [intOp] at h <;> first
          | (subst h; simp [eqGuard, binOp, Op.intArith, Op.intBits, Op.intCmp, Sem.run, Sem.bind, bind, pure]; done)
          | (obtain ⟨h1, rfl⟩ := h; simp [eqGuard, binOp, Op.intDiv, Sem.run, Sem.bind, bind, pure, h1]; done)
      · cases h
  · rename_i a b
    cases op <;> simp [strOp] at h <;> first
      | (subst h; simp [eqGuard, binOp, Op.stringOp, Sem.run, Sem.bind, bind, pure]; done)
      | (obtain ⟨h1, rfl⟩ := h; simp [eqGuard, binOp, Op.stringOp, Sem.run, Sem.bind, bind, pure]; first | done | omega)
  · rename_i a b
    split at h <;> simp at h
    all_goals
      subst h
      rename_i hk
      obtain ⟨ti, h1, h2⟩ := Option.map_eq_some_iff.1 hk
      have h3 := equal_bool (hT.bool h1 h2) a b w
      simp only [eqGuard, binOp, Sem.run, Sem.bind, bind, pure, Bool.not_true, Bool.not_false]
      show (Sem.bind (Op.equal t (.bool a) (.bool b)) _).run P w = _
      rw [run_bind h3]; rfl
  · split at h <;> simp at h
    all_goals
      subst h
      rename_i hk
      obtain ⟨ti, h1, h2⟩ := Option.map_eq_some_iff.1 hk
      have h3 := equal_ptr (hT.ptr h1 h2) w
      show (Sem.bind (Op.equal t (.pointer none) (.pointer none)) _).run P w = _
      rw [run_bind h3]; rfl
  · split at h <;> simp at h
    all_goals
      subst h
      rename_i hk
      obtain ⟨ti, h1, h2⟩ := Option.map_eq_some_iff.1 hk
      show (Sem.bind (Op.equal t (.slice none _ _) (.slice none _ _)) _).run P w = _
      rw [run_bind (equal_slice (hT.slice h1 h2) _ _ _ _ w)]; rfl
  · split at h <;> simp at h
    all_goals
      subst h
      rename_i hk
      obtain ⟨ti, h1, h2⟩ := Option.map_eq_some_iff.1 hk
      obtain ⟨_, _, _, h3⟩ := hT.fn h1 h2
      have h3 := equal_nilFunc h3 w
      show (Sem.bind (Op.equal t .nilFunc .nilFunc) _).run P w = _
      rw [run_bind h3]; rfl
  · cases h
end Go.Proofs.Ytjnmbmdplchfkaa.Am
