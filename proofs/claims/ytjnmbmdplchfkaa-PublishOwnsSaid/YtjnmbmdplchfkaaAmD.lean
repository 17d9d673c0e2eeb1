/- The owned machine, part D: the step of an operation, as a function. -/
import Derived.Test.YtjnmbmdplchfkaaAmC
set_option linter.all false
namespace Go.Proofs.Ytjnmbmdplchfkaa.Am
variable [Lo]
set_option linter.unusedVariables false

def ofVal : Value → AV
  | .agg cs => .agg (cs.toList.map .sc)
  | v => .sc v
def flat (v : Value) : Bool := match v with | .agg _ => false | _ => true
def zeroOk (ti : TI) : Bool := ti.zero.cells.size == ti.size && ti.zero.cells.toList.all flat
def AV.kind (agg : Bool) : AV → AV
  | .agg cs => if agg then .agg cs else cs.getD 0 (.sc undef)
  | .unk => if agg then .agg [] else .unk
  | .when b v => if agg then .agg [] else .when b v
  | v => if agg then .agg [v] else v
/-- Of the cells of an element, size from off on, as a value of a type that is an aggregate or not. -/
def part (agg : Bool) (size off E : Nat) (e : AV) : AV :=
  if off = 0 ∧ size = E then e.kind agg else if agg then .agg ((e.cells.drop off).take size) else e.cells.getD off (.sc undef)
def splice (l : List AV) (off : Nat) (m : List AV) : List AV := l.take off ++ (m ++ l.drop (off + m.length))
/-- An element after a store of the cells of v at off. -/
def putPart (off E : Nat) (e v : AV) : AV := if off = 0 ∧ v.cells.length = E then v else .agg (splice e.cells off v.cells)
def stepUn (op : UnOp) : AV → Option Out
  | .sc (.bool b) => match op with | .not => some { v := .sc (.bool !b) } | _ => none
  | .sc (.int k n) => match op with | .neg => some { v := .sc (.int k (k.wrap (0 - n))) } | _ => none
  | _ => none
def stepConv (T : TT) (dst : TypeId) : AV → Option Out
  | .sc (.int _ n) => match (T.get dst).map TI.k with | some (.int k) => some { v := .sc (.int k (k.wrap n)) } | _ => none
  | .sc (.string s) => match (T.get dst).map TI.k with | some .str => some { v := .sc (.string s) } | _ => none
  | _ => none
/-- What a value is where it is wanted, and when it is so. -/
def strip : AV → Bool × AV
  | .when b v => (b, v)
  | v => (true, v)
def stepPick : AV → AV → AV → Option Out
  | .sc (.bool c), a, b => match strip a, strip b with
    | (ca, .sc (.bool x)), (cb, .sc (.bool y)) => some { ok := (!c || ca) && (c || cb), v := .sc (.bool (bif c then x else y)) }
    | _, _ => match c with
      | true => some { v := a }
      | false => some { v := b }
  | _, _, _ => none
def stepBin (T : TT) (op : BinOp) (t : TypeId) : AV → AV → Option Out
  | .sc a, .sc b => (scalarOp T op t a b).map fun r => { ok := r.1, v := .sc r.2 }
  | .ptr .., .sc (.pointer none) | .sc (.pointer none), .ptr .. | .rp .., .sc (.pointer none) | .sc (.pointer none), .rp .. => match op, (T.get t).map TI.k with
    | .eql, some (.ptr _) => some { v := .sc (.bool false) }
    | .neq, some (.ptr _) => some { v := .sc (.bool true) }
    | _, _ => none
  | .slm fl _ _ _ len, .sc (.slice none 0 0) => match op, (T.get t).map TI.k with
    | .eql, some (.slice _) => some { ok := fl.nn || decide (0 < len), v := .sc (.bool false) }
    | .neq, some (.slice _) => some { ok := fl.nn || decide (0 < len), v := .sc (.bool true) }
    | _, _ => none
  | .ro fl _ es, .sc (.slice none 0 0) => match op, (T.get t).map TI.k with
    | .eql, some (.slice _) => some { ok := fl.nn || decide (0 < es.length), v := .sc (.bool false) }
    | .neq, some (.slice _) => some { ok := fl.nn || decide (0 < es.length), v := .sc (.bool true) }
    | _, _ => none
  | _, _ => none
/-- The fields of a struct type, each with its place, its type and that type's entry. -/
def fieldOf (T : TT) (s : TypeId) (f : Nat) : Option (Nat × TI) :=
  match (T.get s).map TI.k with
  | some (.struct fs) => match fs[f]? with
    | some (off, t) => (T.get t).map fun ti => (off, ti)
    | none => none
  | _ => none
def stepFieldAddr (T : TT) (s : TypeId) (f : Nat) (x : AV) : Option Out :=
  match fieldOf T s f with
  | some (off, ti) => match x with
    | .ptr id E idx o => some { ok := ti.size != 0, v := .ptr id E idx (o + off) }
    | .rp e o => some { ok := ti.size != 0, v := .rp e (o + off) }
    | .sc (.pointer (some ⟨b, o, none⟩)) => some { ok := ti.size != 0, v := .sc (.pointer (some ⟨b, o + off, none⟩)) }
    | _ => none
  | none => none
def stepField (T : TT) (s : TypeId) (f : Nat) (x : AV) : Option Out :=
  match fieldOf T s f, x with
  | some (off, ti), .agg cs => some { ok := decide (off + ti.size ≤ cs.length) && (ti.k.isAgg || ti.size == 1), v := (if ti.k.isAgg then .agg ((cs.drop off).take ti.size) else cs.getD off (.sc undef)) }
  | _, _ => none
def elemOf (T : TT) (t : TypeId) : Option (TypeId × TI) :=
  match (T.get t).map TI.k with
  | some (.slice e) => (T.get e).map fun ti => (e, ti)
  | _ => none
def arrOf (T : TT) (t : TypeId) : Option (Nat × TI) :=
  match (T.get t).map TI.k with
  | some (.arr n e) => (T.get e).map fun ti => (n, ti)
  | _ => none
def stepIndexAddr (T : TT) (t : TypeId) (x : AV) (i : AV) : Option Out :=
  match i with
  | .sc (.int _ i) => match x with
    | .slm _ id E off len => (elemOf T t).map fun (e, ti) => { ok := decide (0 ≤ i ∧ i < (len : Int)) && ti.size == E, v := .ptr id E (off + i.toNat) 0 }
    | .ro _ E es => (elemOf T t).map fun (e, ti) => { ok := decide (0 ≤ i ∧ i < (es.length : Int)) && ti.size == E, v := .rp (es.getD i.toNat (.sc undef)) 0 }
    | .ptr id E idx off => (arrOf T t).map fun (n, ti) => { ok := decide (0 ≤ i ∧ i < (n : Int)), v := .ptr id E idx (off + i.toNat * ti.size) }
    | .rp e off => (arrOf T t).map fun (n, ti) => { ok := decide (0 ≤ i ∧ i < (n : Int)), v := .rp e (off + i.toNat * ti.size) }
    | .sc (.slice (some ⟨b, o, none⟩) len _) => (elemOf T t).map fun (e, ti) => { ok := decide (0 ≤ i ∧ i < (len : Int)), v := .sc (.pointer (some ⟨b, o + i.toNat * ti.size, none⟩)) }
    | _ => none
  | _ => none
def stepIndex (T : TT) (t : TypeId) (x : AV) (i : AV) : Option Out :=
  match i with
  | .sc (.int _ i) => match x with
    | .agg cs => (arrOf T t).map fun (n, ti) => { ok := decide (0 ≤ i ∧ i < (n : Int)) && decide (i.toNat * ti.size + ti.size ≤ cs.length) && (ti.k.isAgg || ti.size == 1), v := (if ti.k.isAgg then .agg ((cs.drop (i.toNat * ti.size)).take ti.size) else cs.getD (i.toNat * ti.size) (.sc undef)) }
    | .sc (.string s) => match (T.get t).map TI.k with
      | some .str => some { ok := decide (0 ≤ i ∧ i < (s.size : Int)), v := .sc (.int .u8 ((s.data.toList.getD i.toNat 0).toNat : Int)) }
      | _ => none
    | _ => none
  | _ => none
def stepExtract : AV → Nat → Option Out
  | .tup vs, i => some { ok := decide (i < vs.length), v := vs.getD i (.sc undef) }
  | _, _ => none
def stepLoad (T : TT) (H : AH) (t : TypeId) (a : AV) : Option Out :=
  match T.get t with
  | none => none
  | some ti => match a with
    | .ptr id E idx off => match H.get id with
      | some (.row E' ty es) => some { ok := decide (idx < es.length) && decide (off + ti.size ≤ E) && (E' == E) && (ti.k.isAgg || ti.size == 1), v := part ti.k.isAgg ti.size off E (es.getD idx (.sc undef)), D := [id] }
      | _ => none
    | .rp e off => some { ok := decide (off + ti.size ≤ e.cells.length) && (ti.k.isAgg || ti.size == 1), v := part ti.k.isAgg ti.size off e.cells.length e }
    | _ => none
/-- A value that one cell holds. -/
def storable : AV → Bool
  | .agg _ | .tup _ | .unk | .when .. => false
  | .sc (.agg _) | .sc (.tuple _) => false
  | _ => true
def stepStore (T : TT) (H : AH) (t : TypeId) (a x : AV) : Option Out :=
  match T.get t with
  | none => none
  | some ti => match a with
    | .ptr id E idx off => match H.get id with
      | some (.row E' ty es) => some { ok := decide (idx < es.length) && decide (off + ti.size ≤ E) && (E' == E) && (x.cells.length == ti.size) && x.cells.all storable && known x, v := .sc undef, δ := [(id, some (.row E ty (es.set idx (putPart off E (es.getD idx (.sc undef)) x))))], D := [id] }
      | _ => none
    | _ => none
def stepAlloc (T : TT) (next : Nat) (e : TypeId) : Option Out :=
  match T.get e with
  | some ti => some { ok := zeroOk ti, v := .ptr next ti.size 0 0, δ := [(next, some (.row ti.size e [ofVal ti.zero]))] }
  | none => none
def stepBox (T : TT) (next : Nat) (e : TypeId) (x : AV) : Option Out :=
  match T.get e with
  | some ti => some { ok := x.cells.length == ti.size && known x, v := .ptr next ti.size 0 0, δ := [(next, some (.row ti.size e [x]))] }
  | none => none
def nilOk : AV → Bool
  | .ptr .. | .rp .. | .clo .. => true
  | _ => false
end Go.Proofs.Ytjnmbmdplchfkaa.Am
