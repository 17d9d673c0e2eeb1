/-
  No cell of these rows narrows 'for every input' (looked for: loops, veiled, ifaces, maps, wideKeys, modest, calm, conditions, laid).
  DERIVED. THE GIVEN ROWS OF THIS SEAT. 6 by the template 'for every input the law returns true; each argument reads behind the call as it read before'; 0 by the template 'total and deterministic' (their statements: YtiefcppgbnfbfaaTotals.lean).
  GIVEN WITH THE SEED: the statements are not yours to turn. If you find one false, say at which input.
  Laid BY PROGRAM, IN A SANDBOX (cutbox-rows.mjs): the forced cells as the released guide's own fill.sh prints them over the translation 5e3766cc29b0a511… (all of the seat's roots in one cut). By AI agents, Wed Nov 11 2026. No macro, syntax, notation, axiom, sorry.
-/
import Derived.Test.YtiefcppgbnfbfaaChecked
import GoSem.Claim
import GoSem.ClaimJoined
import GoSem.ClaimMapViews
import Derived.JoinedTies
import Derived.KernelRfl
namespace Go.Proofs.Ytiefcppgbnfbfaa
/- THE CELL 'sum', in the pinned program and in every row, IS THE sha256 OF THE DUMP (.gsa) THAT YtiefcppgbnfbfaaProg.lean LOADS. Nothing in Lean hashes anything: it is a label: what it is worth is what the hold of that sum in a sandbox is worth. -/
noncomputable def Try.pinned : Pinned := { name := "ytiefcppgbnfbfaa", sum := "5e3766cc29b0a5115afb023fc4e35539fd6d8a073d3cac10fccfc8c393e304c2", checked := Try.checked }
namespace Rows
def none {H : Type} : Left H := { results := [], args := [] }

/-- 'quadriviumlaw12.EarnOf': WHATEVER THE INPUT: true; the input reads as it did. -/
def earnOfSpec : ChangeSpec := { name := "earnOf", fn := fun _ => fun
  | [d1, d2, d3] => { results := [.lit (.bool true)], args := [d1, d2, d3] }
  | _ => none }
def earnOfRow : OpenClaim := { program := "ytiefcppgbnfbfaa", sum := "5e3766cc29b0a5115afb023fc4e35539fd6d8a073d3cac10fccfc8c393e304c2", func := "quadrivium/quadriviumlaw12.EarnOf", spec := "earnOf", unfollowed := true, recurses := true, apart := false }
def EarnOfSaid : Prop := earnOfRow.holds Try.pinned (OpenSpec.ofChange earnOfSpec)

/-- ITS FALSE NEIGHBOUR: 'it returns false'. Refute it at one input. -/
def earnOfWrong : ChangeSpec := { name := "earnOf", fn := fun _ => fun
  | [d1, d2, d3] => { results := [.lit (.bool false)], args := [d1, d2, d3] }
  | _ => none }
def EarnOfWrongFalsely : Prop := earnOfRow.holds Try.pinned (OpenSpec.ofChange earnOfWrong)

/-- 'quadriviumlaw12.EarnFree': WHATEVER THE INPUT: true; the input reads as it did. -/
def earnFreeSpec : ChangeSpec := { name := "earnFree", fn := fun _ => fun
  | [d1, d2] => { results := [.lit (.bool true)], args := [d1, d2] }
  | _ => none }
def earnFreeRow : OpenClaim := { program := "ytiefcppgbnfbfaa", sum := "5e3766cc29b0a5115afb023fc4e35539fd6d8a073d3cac10fccfc8c393e304c2", func := "quadrivium/quadriviumlaw12.EarnFree", spec := "earnFree", unfollowed := true, recurses := true, apart := false }
def EarnFreeSaid : Prop := earnFreeRow.holds Try.pinned (OpenSpec.ofChange earnFreeSpec)

/-- ITS FALSE NEIGHBOUR: 'it returns false'. Refute it at one input. -/
def earnFreeWrong : ChangeSpec := { name := "earnFree", fn := fun _ => fun
  | [d1, d2] => { results := [.lit (.bool false)], args := [d1, d2] }
  | _ => none }
def EarnFreeWrongFalsely : Prop := earnFreeRow.holds Try.pinned (OpenSpec.ofChange earnFreeWrong)

/-- 'quadriviumlaw12.EarnOwn': WHATEVER THE INPUT: true; the input reads as it did. -/
def earnOwnSpec : ChangeSpec := { name := "earnOwn", fn := fun _ => fun
  | [d] => { results := [.lit (.bool true)], args := [d] }
  | _ => none }
def earnOwnRow : OpenClaim := { program := "ytiefcppgbnfbfaa", sum := "5e3766cc29b0a5115afb023fc4e35539fd6d8a073d3cac10fccfc8c393e304c2", func := "quadrivium/quadriviumlaw12.EarnOwn", spec := "earnOwn", unfollowed := true, recurses := true, apart := false }
def EarnOwnSaid : Prop := earnOwnRow.holds Try.pinned (OpenSpec.ofChange earnOwnSpec)

/-- ITS FALSE NEIGHBOUR: 'it returns false'. Refute it at one input. -/
def earnOwnWrong : ChangeSpec := { name := "earnOwn", fn := fun _ => fun
  | [d] => { results := [.lit (.bool false)], args := [d] }
  | _ => none }
def EarnOwnWrongFalsely : Prop := earnOwnRow.holds Try.pinned (OpenSpec.ofChange earnOwnWrong)

/-- 'quadriviumlaw12.EarnCorrects': WHATEVER THE INPUT: true; the input reads as it did. -/
def earnCorrectsSpec : ChangeSpec := { name := "earnCorrects", fn := fun _ => fun
  | [d1, d2, d3] => { results := [.lit (.bool true)], args := [d1, d2, d3] }
  | _ => none }
def earnCorrectsRow : OpenClaim := { program := "ytiefcppgbnfbfaa", sum := "5e3766cc29b0a5115afb023fc4e35539fd6d8a073d3cac10fccfc8c393e304c2", func := "quadrivium/quadriviumlaw12.EarnCorrects", spec := "earnCorrects", inPlace := ["internal/bytealg.abigen_runtime_cmpstring"], unfollowed := true, recurses := true, apart := false }
def EarnCorrectsSaid : Prop := earnCorrectsRow.holds Try.pinned (OpenSpec.ofChange earnCorrectsSpec)

/-- ITS FALSE NEIGHBOUR: 'it returns false'. Refute it at one input. -/
def earnCorrectsWrong : ChangeSpec := { name := "earnCorrects", fn := fun _ => fun
  | [d1, d2, d3] => { results := [.lit (.bool false)], args := [d1, d2, d3] }
  | _ => none }
def EarnCorrectsWrongFalsely : Prop := earnCorrectsRow.holds Try.pinned (OpenSpec.ofChange earnCorrectsWrong)

/-- 'quadriviumlaw12.EarnApart': WHATEVER THE INPUT: true; the input reads as it did. -/
def earnApartSpec : ChangeSpec := { name := "earnApart", fn := fun _ => fun
  | [d1, d2] => { results := [.lit (.bool true)], args := [d1, d2] }
  | _ => none }
def earnApartRow : OpenClaim := { program := "ytiefcppgbnfbfaa", sum := "5e3766cc29b0a5115afb023fc4e35539fd6d8a073d3cac10fccfc8c393e304c2", func := "quadrivium/quadriviumlaw12.EarnApart", spec := "earnApart", inPlace := ["internal/bytealg.abigen_runtime_cmpstring"], unfollowed := true, recurses := true, apart := false }
def EarnApartSaid : Prop := earnApartRow.holds Try.pinned (OpenSpec.ofChange earnApartSpec)

/-- ITS FALSE NEIGHBOUR: 'it returns false'. Refute it at one input. -/
def earnApartWrong : ChangeSpec := { name := "earnApart", fn := fun _ => fun
  | [d1, d2] => { results := [.lit (.bool false)], args := [d1, d2] }
  | _ => none }
def EarnApartWrongFalsely : Prop := earnApartRow.holds Try.pinned (OpenSpec.ofChange earnApartWrong)

/-- 'quadriviumlaw12.EarnOrder': WHATEVER THE INPUT: true; the input reads as it did. -/
def earnOrderSpec : ChangeSpec := { name := "earnOrder", fn := fun _ => fun
  | [d1, d2] => { results := [.lit (.bool true)], args := [d1, d2] }
  | _ => none }
def earnOrderRow : OpenClaim := { program := "ytiefcppgbnfbfaa", sum := "5e3766cc29b0a5115afb023fc4e35539fd6d8a073d3cac10fccfc8c393e304c2", func := "quadrivium/quadriviumlaw12.EarnOrder", spec := "earnOrder", inPlace := ["internal/bytealg.abigen_runtime_cmpstring"], unfollowed := true, recurses := true, apart := false }
def EarnOrderSaid : Prop := earnOrderRow.holds Try.pinned (OpenSpec.ofChange earnOrderSpec)

/-- ITS FALSE NEIGHBOUR: 'it returns false'. Refute it at one input. -/
def earnOrderWrong : ChangeSpec := { name := "earnOrder", fn := fun _ => fun
  | [d1, d2] => { results := [.lit (.bool false)], args := [d1, d2] }
  | _ => none }
def EarnOrderWrongFalsely : Prop := earnOrderRow.holds Try.pinned (OpenSpec.ofChange earnOrderWrong)

/- THE SECOND FORM. 'bulk': how many values and letters a reading holds, each counted each time it is reached (what is shared counts as often as it is met; a slice's spare places count too). A statement '..UptoSaid' is the law's where the arguments, and the package variables that the reading takes, are together of bulk at most 1048576: NARROWER than '..Said'. Prove '..Said' where nothing that the law and all that it calls make is longer than what came in: it says more and counts as full. Else prove '..UptoSaid'. A law counts once. -/
mutual
def uptoBulk {H : Type} : DataW H → Nat
  | .lit (.string bytes) => bytes.length + 1
  | .lit _ => 1
  | .nil => 1
  | .ptr d => uptoBulk d + 1
  | .slice elems spare => uptoBulkAll elems + uptoBulkAll spare + 1
  | .agg parts => uptoBulkAll parts + 1
  | .iface _ d => uptoBulk d + 1
  | .map entries => uptoBulkEntries entries + 1
  | .held _ => 1
def uptoBulkAll {H : Type} : List (DataW H) → Nat
  | [] => 0
  | d :: r => uptoBulk d + uptoBulkAll r
def uptoBulkEntries {H : Type} : List (Lit × DataW H) → Nat
  | [] => 0
  | x :: r => uptoBulkEntry x + uptoBulkEntries r
def uptoBulkEntry {H : Type} : Lit × DataW H → Nat
  | (.string bytes, d) => bytes.length + uptoBulk d + 1
  | (_, d) => uptoBulk d + 1
 end
def uptoSmall : (H : Type) → List (DataW H) → Bool := fun _ ds => decide (uptoBulkAll ds ≤ 1048576)
def OpenSpec.upto (s : _root_.Go.ChangeSpec) : _root_.Go.OpenSpec := { _root_.Go.OpenSpec.ofChange s with cond := some uptoSmall }

/-- 'quadriviumlaw12.EarnOf', WHERE WHAT IT READS IS OF BULK AT MOST 1048576: true; the input reads as it did. -/
def earnOfUptoRow : OpenClaim := { program := "ytiefcppgbnfbfaa", sum := "5e3766cc29b0a5115afb023fc4e35539fd6d8a073d3cac10fccfc8c393e304c2", func := "quadrivium/quadriviumlaw12.EarnOf", spec := "earnOf", unfollowed := true, recurses := true, apart := false, narrowed := true }
def EarnOfUptoSaid : Prop := earnOfUptoRow.holds Try.pinned (OpenSpec.upto earnOfSpec)

/-- 'quadriviumlaw12.EarnFree', WHERE WHAT IT READS IS OF BULK AT MOST 1048576: true; the input reads as it did. -/
def earnFreeUptoRow : OpenClaim := { program := "ytiefcppgbnfbfaa", sum := "5e3766cc29b0a5115afb023fc4e35539fd6d8a073d3cac10fccfc8c393e304c2", func := "quadrivium/quadriviumlaw12.EarnFree", spec := "earnFree", unfollowed := true, recurses := true, apart := false, narrowed := true }
def EarnFreeUptoSaid : Prop := earnFreeUptoRow.holds Try.pinned (OpenSpec.upto earnFreeSpec)

/-- 'quadriviumlaw12.EarnOwn', WHERE WHAT IT READS IS OF BULK AT MOST 1048576: true; the input reads as it did. -/
def earnOwnUptoRow : OpenClaim := { program := "ytiefcppgbnfbfaa", sum := "5e3766cc29b0a5115afb023fc4e35539fd6d8a073d3cac10fccfc8c393e304c2", func := "quadrivium/quadriviumlaw12.EarnOwn", spec := "earnOwn", unfollowed := true, recurses := true, apart := false, narrowed := true }
def EarnOwnUptoSaid : Prop := earnOwnUptoRow.holds Try.pinned (OpenSpec.upto earnOwnSpec)

/-- 'quadriviumlaw12.EarnCorrects', WHERE WHAT IT READS IS OF BULK AT MOST 1048576: true; the input reads as it did. -/
def earnCorrectsUptoRow : OpenClaim := { program := "ytiefcppgbnfbfaa", sum := "5e3766cc29b0a5115afb023fc4e35539fd6d8a073d3cac10fccfc8c393e304c2", func := "quadrivium/quadriviumlaw12.EarnCorrects", spec := "earnCorrects", inPlace := ["internal/bytealg.abigen_runtime_cmpstring"], unfollowed := true, recurses := true, apart := false, narrowed := true }
def EarnCorrectsUptoSaid : Prop := earnCorrectsUptoRow.holds Try.pinned (OpenSpec.upto earnCorrectsSpec)

/-- 'quadriviumlaw12.EarnApart', WHERE WHAT IT READS IS OF BULK AT MOST 1048576: true; the input reads as it did. -/
def earnApartUptoRow : OpenClaim := { program := "ytiefcppgbnfbfaa", sum := "5e3766cc29b0a5115afb023fc4e35539fd6d8a073d3cac10fccfc8c393e304c2", func := "quadrivium/quadriviumlaw12.EarnApart", spec := "earnApart", inPlace := ["internal/bytealg.abigen_runtime_cmpstring"], unfollowed := true, recurses := true, apart := false, narrowed := true }
def EarnApartUptoSaid : Prop := earnApartUptoRow.holds Try.pinned (OpenSpec.upto earnApartSpec)

/-- 'quadriviumlaw12.EarnOrder', WHERE WHAT IT READS IS OF BULK AT MOST 1048576: true; the input reads as it did. -/
def earnOrderUptoRow : OpenClaim := { program := "ytiefcppgbnfbfaa", sum := "5e3766cc29b0a5115afb023fc4e35539fd6d8a073d3cac10fccfc8c393e304c2", func := "quadrivium/quadriviumlaw12.EarnOrder", spec := "earnOrder", inPlace := ["internal/bytealg.abigen_runtime_cmpstring"], unfollowed := true, recurses := true, apart := false, narrowed := true }
def EarnOrderUptoSaid : Prop := earnOrderUptoRow.holds Try.pinned (OpenSpec.upto earnOrderSpec)

end Rows
end Go.Proofs.Ytiefcppgbnfbfaa
