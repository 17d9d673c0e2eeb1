/- publish: parts of the proof, AmMG. -/
import Derived.Test.YtjnmbmdplchfkaaAmMF
set_option linter.all false
namespace Go.Proofs.Ytjnmbmdplchfkaa.Am
variable [Lo]
/-- A call that answers a bool is decided at once. -/
theorem CallN.dec {P : Program} {f : FuncId} {vs : List AV} {H : AH} {p : Prop} [Decidable p] {K : Out → Prop} (hf : AFun P f 0 vs [] (.sc (.bool (decide p))) []) (ha : AV.namesL (fun _ => false) vs = true) (h : p → K { v := .sc (.bool true) }) (k : ¬p → K { v := .sc (.bool false) }) : CallN P f vs H K := by
  refine CallN.pure hf ha rfl ?_
  by_cases hp : p
  · rw [decide_eq_true hp]; exact h hp
  · rw [decide_eq_false hp]; exact k hp
theorem CallN.dect {P : Program} {f : FuncId} {vs : List AV} {H : AH} {p : Prop} [Decidable p] {K : Out → Prop} (hf : AFun P f 0 vs [] (.sc (.bool (decide p))) []) (ha : AV.namesL (fun _ => false) vs = true) (hp : p) (h : K { v := .sc (.bool true) }) : CallN P f vs H K :=
  CallN.dec hf ha (fun _ => h) fun n => absurd hp n
theorem CallN.decf {P : Program} {f : FuncId} {vs : List AV} {H : AH} {p : Prop} [Decidable p] {K : Out → Prop} (hf : AFun P f 0 vs [] (.sc (.bool (decide p))) []) (ha : AV.namesL (fun _ => false) vs = true) (hp : ¬p) (h : K { v := .sc (.bool false) }) : CallN P f vs H K :=
  CallN.dec hf ha (fun n => absurd n hp) fun _ => h
/-- A call that answers a bool, both ways. -/
theorem CallN.bool {P : Program} {f : FuncId} {vs : List AV} {H : AH} {b : Bool} {K : Out → Prop} (hf : AFun P f 0 vs [] (.sc (.bool b)) []) (ha : AV.namesL (fun _ => false) vs = true) (h : b = true → K { v := .sc (.bool true) }) (k : b = false → K { v := .sc (.bool false) }) : CallN P f vs H K := by
  refine CallN.pure hf ha rfl ?_
  cases b with
  | true => exact h rfl
  | false => exact k rfl
/-- The value of a test on a bool of its own, both ways. -/
theorem LetB.any {o : Option BinOp} {b : Bool} {K : Bool → Prop} (h : b = true → K true) (k : b = false → K false) : LetB o b K := by
  cases b with
  | true => exact .tt rfl (h rfl)
  | false => exact .ff rfl (k rfl)
theorem haveV.row {ρ : Nat → Nat} {Hc : AH} {nx i E : Nat} {ty : TypeId} {es : List AV} {H : AH} (hn : AV.namesL (fun _ => false) es = true) (h : Hc.get (ρ i) = some (.row E ty es)) (k : haveV ρ Hc nx H) : haveV ρ Hc nx ((i, .row E ty es) :: H) :=
  haveV.one (by rw [Blk.ren, renL_none hn]; exact h) k
theorem namesAll.row {ok : Nat → Bool} {i E : Nat} {ty : TypeId} {es : List AV} {H : AH} (hn : AV.namesL (fun _ => false) es = true) (k : namesAll ok H = true) : namesAll ok ((i, .row E ty es) :: H) = true := by
  simp only [namesAll, Blk.names, namesL_none hn, k, Bool.and_self]
theorem haveAll.row {ρ : Nat → Nat} {Hc : AH} {i E : Nat} {ty : TypeId} {es : List AV} {H : AH} (hn : AV.namesL (fun _ => false) es = true) (h : Hc.get (ρ i) = some (.row E ty es)) (k : haveAll ρ Hc H) : haveAll ρ Hc ((i, .row E ty es) :: H) := by
  refine ⟨?_, k⟩
  rw [Blk.ren, renL_none hn]; exact h
end Go.Proofs.Ytjnmbmdplchfkaa.Am
