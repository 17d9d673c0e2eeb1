/-
  No cell of these rows narrows 'for every input' (looked for: loops, veiled, ifaces, maps, wideKeys, modest, calm, conditions, laid).
  DERIVED. THE GIVEN ROWS OF THIS SEAT. 6 by the template 'for every input the law returns true; each argument reads behind the call as it read before'; 0 by the template 'total and deterministic' (their statements: YtaphjgkllhfofaaTotals.lean).
  GIVEN WITH THE SEED: the statements are not yours to turn. If you find one false, say at which input.
  Laid BY PROGRAM, IN A SANDBOX (cutbox-rows.mjs): the forced cells as the released guide's own fill.sh prints them over the translation eae99e2ff871cc97… (all of the seat's roots in one cut). By AI agents, Wed Nov 11 2026. No macro, syntax, notation, axiom, sorry.
-/
import Derived.Test.YtaphjgkllhfofaaChecked
import GoSem.Claim
import GoSem.ClaimJoined
import GoSem.ClaimMapViews
import Derived.JoinedTies
import Derived.KernelRfl
namespace Go.Proofs.Ytaphjgkllhfofaa
/- THE CELL 'sum', in the pinned program and in every row, IS THE sha256 OF THE DUMP (.gsa) THAT YtaphjgkllhfofaaProg.lean LOADS. Nothing in Lean hashes anything: it is a label: what it is worth is what the hold of that sum in a sandbox is worth. -/
noncomputable def Try.pinned : Pinned := { name := "ytaphjgkllhfofaa", sum := "eae99e2ff871cc9768172b2211ab34986b42c4288ceab6d928b696f930d64f75", checked := Try.checked }
namespace Rows
def none {H : Type} : Left H := { results := [], args := [] }

/-- 'quadriviumlaw05.ScaleChecks': WHATEVER THE INPUT: true; the input reads as it did. -/
def scaleChecksSpec : ChangeSpec := { name := "scaleChecks", fn := fun _ => fun
  | [d1, d2, d3] => { results := [.lit (.bool true)], args := [d1, d2, d3] }
  | _ => none }
def scaleChecksRow : OpenClaim := { program := "ytaphjgkllhfofaa", sum := "eae99e2ff871cc9768172b2211ab34986b42c4288ceab6d928b696f930d64f75", func := "quadrivium/quadriviumlaw05.ScaleChecks", spec := "scaleChecks", unfollowed := true, recurses := true, apart := false }
def ScaleChecksSaid : Prop := scaleChecksRow.holds Try.pinned (OpenSpec.ofChange scaleChecksSpec)

/-- ITS FALSE NEIGHBOUR: 'it returns false'. Refute it at one input. -/
def scaleChecksWrong : ChangeSpec := { name := "scaleChecks", fn := fun _ => fun
  | [d1, d2, d3] => { results := [.lit (.bool false)], args := [d1, d2, d3] }
  | _ => none }
def ScaleChecksWrongFalsely : Prop := scaleChecksRow.holds Try.pinned (OpenSpec.ofChange scaleChecksWrong)

/-- 'quadriviumlaw05.ScaleMeans': WHATEVER THE INPUT: true; the input reads as it did. -/
def scaleMeansSpec : ChangeSpec := { name := "scaleMeans", fn := fun _ => fun
  | [d1, d2, d3] => { results := [.lit (.bool true)], args := [d1, d2, d3] }
  | _ => none }
def scaleMeansRow : OpenClaim := { program := "ytaphjgkllhfofaa", sum := "eae99e2ff871cc9768172b2211ab34986b42c4288ceab6d928b696f930d64f75", func := "quadrivium/quadriviumlaw05.ScaleMeans", spec := "scaleMeans", unfollowed := true, recurses := true, apart := false }
def ScaleMeansSaid : Prop := scaleMeansRow.holds Try.pinned (OpenSpec.ofChange scaleMeansSpec)

/-- ITS FALSE NEIGHBOUR: 'it returns false'. Refute it at one input. -/
def scaleMeansWrong : ChangeSpec := { name := "scaleMeans", fn := fun _ => fun
  | [d1, d2, d3] => { results := [.lit (.bool false)], args := [d1, d2, d3] }
  | _ => none }
def ScaleMeansWrongFalsely : Prop := scaleMeansRow.holds Try.pinned (OpenSpec.ofChange scaleMeansWrong)

/-- 'quadriviumlaw05.ScaleOrder': WHATEVER THE INPUT: true; the input reads as it did. -/
def scaleOrderSpec : ChangeSpec := { name := "scaleOrder", fn := fun _ => fun
  | [d1, d2, d3] => { results := [.lit (.bool true)], args := [d1, d2, d3] }
  | _ => none }
def scaleOrderRow : OpenClaim := { program := "ytaphjgkllhfofaa", sum := "eae99e2ff871cc9768172b2211ab34986b42c4288ceab6d928b696f930d64f75", func := "quadrivium/quadriviumlaw05.ScaleOrder", spec := "scaleOrder", unfollowed := true, recurses := true, apart := false }
def ScaleOrderSaid : Prop := scaleOrderRow.holds Try.pinned (OpenSpec.ofChange scaleOrderSpec)

/-- ITS FALSE NEIGHBOUR: 'it returns false'. Refute it at one input. -/
def scaleOrderWrong : ChangeSpec := { name := "scaleOrder", fn := fun _ => fun
  | [d1, d2, d3] => { results := [.lit (.bool false)], args := [d1, d2, d3] }
  | _ => none }
def ScaleOrderWrongFalsely : Prop := scaleOrderRow.holds Try.pinned (OpenSpec.ofChange scaleOrderWrong)

/-- 'quadriviumlaw05.ScaleReaches': WHATEVER THE INPUT: true; the input reads as it did. -/
def scaleReachesSpec : ChangeSpec := { name := "scaleReaches", fn := fun _ => fun
  | [d1, d2] => { results := [.lit (.bool true)], args := [d1, d2] }
  | _ => none }
def scaleReachesRow : OpenClaim := { program := "ytaphjgkllhfofaa", sum := "eae99e2ff871cc9768172b2211ab34986b42c4288ceab6d928b696f930d64f75", func := "quadrivium/quadriviumlaw05.ScaleReaches", spec := "scaleReaches", unfollowed := true, recurses := true, apart := false }
def ScaleReachesSaid : Prop := scaleReachesRow.holds Try.pinned (OpenSpec.ofChange scaleReachesSpec)

/-- ITS FALSE NEIGHBOUR: 'it returns false'. Refute it at one input. -/
def scaleReachesWrong : ChangeSpec := { name := "scaleReaches", fn := fun _ => fun
  | [d1, d2] => { results := [.lit (.bool false)], args := [d1, d2] }
  | _ => none }
def ScaleReachesWrongFalsely : Prop := scaleReachesRow.holds Try.pinned (OpenSpec.ofChange scaleReachesWrong)

/-- 'quadriviumlaw05.ScaleOnce': WHATEVER THE INPUT: true; the input reads as it did. -/
def scaleOnceSpec : ChangeSpec := { name := "scaleOnce", fn := fun _ => fun
  | [d1, d2, d3] => { results := [.lit (.bool true)], args := [d1, d2, d3] }
  | _ => none }
def scaleOnceRow : OpenClaim := { program := "ytaphjgkllhfofaa", sum := "eae99e2ff871cc9768172b2211ab34986b42c4288ceab6d928b696f930d64f75", func := "quadrivium/quadriviumlaw05.ScaleOnce", spec := "scaleOnce", unfollowed := true, recurses := true, apart := false }
def ScaleOnceSaid : Prop := scaleOnceRow.holds Try.pinned (OpenSpec.ofChange scaleOnceSpec)

/-- ITS FALSE NEIGHBOUR: 'it returns false'. Refute it at one input. -/
def scaleOnceWrong : ChangeSpec := { name := "scaleOnce", fn := fun _ => fun
  | [d1, d2, d3] => { results := [.lit (.bool false)], args := [d1, d2, d3] }
  | _ => none }
def ScaleOnceWrongFalsely : Prop := scaleOnceRow.holds Try.pinned (OpenSpec.ofChange scaleOnceWrong)

/-- 'quadriviumlaw05.ScaleGrows': WHATEVER THE INPUT: true; the input reads as it did. -/
def scaleGrowsSpec : ChangeSpec := { name := "scaleGrows", fn := fun _ => fun
  | [d1, d2, d3] => { results := [.lit (.bool true)], args := [d1, d2, d3] }
  | _ => none }
def scaleGrowsRow : OpenClaim := { program := "ytaphjgkllhfofaa", sum := "eae99e2ff871cc9768172b2211ab34986b42c4288ceab6d928b696f930d64f75", func := "quadrivium/quadriviumlaw05.ScaleGrows", spec := "scaleGrows", unfollowed := true, recurses := true, apart := false }
def ScaleGrowsSaid : Prop := scaleGrowsRow.holds Try.pinned (OpenSpec.ofChange scaleGrowsSpec)

/-- ITS FALSE NEIGHBOUR: 'it returns false'. Refute it at one input. -/
def scaleGrowsWrong : ChangeSpec := { name := "scaleGrows", fn := fun _ => fun
  | [d1, d2, d3] => { results := [.lit (.bool false)], args := [d1, d2, d3] }
  | _ => none }
def ScaleGrowsWrongFalsely : Prop := scaleGrowsRow.holds Try.pinned (OpenSpec.ofChange scaleGrowsWrong)

/- THE SECOND FORM. 'bulk': how many values and letters a reading holds, each counted each time it is reached (what is shared counts as often as it is met; a slice's spare places count too). A statement '..UptoSaid' is the law's where the arguments, and the package variables that the reading takes, are together of bulk at most 1048576: NARROWER than '..Said'. Prove '..Said' where nothing that the law and all that it calls make is longer than what came in: it says more and counts as full. Else prove '..UptoSaid'. A law counts once. -/
mutual
def uptoBulk {H : Type} : DataW H → Nat
  | .lit (.string bytes) => bytes.length + 1
  | .lit _ => 1
  | .nil => 1
  | .ptr d => uptoBulk d + 1
  | .slice elems spare => uptoBulkAll elems + uptoBulkAll spare + 1
  | .agg parts => uptoBulkAll parts + 1
  | .iface _ d => uptoBulk d + 1
  | .map entries => uptoBulkEntries entries + 1
  | .held _ => 1
def uptoBulkAll {H : Type} : List (DataW H) → Nat
  | [] => 0
  | d :: r => uptoBulk d + uptoBulkAll r
def uptoBulkEntries {H : Type} : List (Lit × DataW H) → Nat
  | [] => 0
  | x :: r => uptoBulkEntry x + uptoBulkEntries r
def uptoBulkEntry {H : Type} : Lit × DataW H → Nat
  | (.string bytes, d) => bytes.length + uptoBulk d + 1
  | (_, d) => uptoBulk d + 1
 end
def uptoSmall : (H : Type) → List (DataW H) → Bool := fun _ ds => decide (uptoBulkAll ds ≤ 1048576)
def OpenSpec.upto (s : _root_.Go.ChangeSpec) : _root_.Go.OpenSpec := { _root_.Go.OpenSpec.ofChange s with cond := some uptoSmall }

/-- 'quadriviumlaw05.ScaleChecks', WHERE WHAT IT READS IS OF BULK AT MOST 1048576: true; the input reads as it did. -/
def scaleChecksUptoRow : OpenClaim := { program := "ytaphjgkllhfofaa", sum := "eae99e2ff871cc9768172b2211ab34986b42c4288ceab6d928b696f930d64f75", func := "quadrivium/quadriviumlaw05.ScaleChecks", spec := "scaleChecks", unfollowed := true, recurses := true, apart := false, narrowed := true }
def ScaleChecksUptoSaid : Prop := scaleChecksUptoRow.holds Try.pinned (OpenSpec.upto scaleChecksSpec)

/-- 'quadriviumlaw05.ScaleMeans', WHERE WHAT IT READS IS OF BULK AT MOST 1048576: true; the input reads as it did. -/
def scaleMeansUptoRow : OpenClaim := { program := "ytaphjgkllhfofaa", sum := "eae99e2ff871cc9768172b2211ab34986b42c4288ceab6d928b696f930d64f75", func := "quadrivium/quadriviumlaw05.ScaleMeans", spec := "scaleMeans", unfollowed := true, recurses := true, apart := false, narrowed := true }
def ScaleMeansUptoSaid : Prop := scaleMeansUptoRow.holds Try.pinned (OpenSpec.upto scaleMeansSpec)

/-- 'quadriviumlaw05.ScaleOrder', WHERE WHAT IT READS IS OF BULK AT MOST 1048576: true; the input reads as it did. -/
def scaleOrderUptoRow : OpenClaim := { program := "ytaphjgkllhfofaa", sum := "eae99e2ff871cc9768172b2211ab34986b42c4288ceab6d928b696f930d64f75", func := "quadrivium/quadriviumlaw05.ScaleOrder", spec := "scaleOrder", unfollowed := true, recurses := true, apart := false, narrowed := true }
def ScaleOrderUptoSaid : Prop := scaleOrderUptoRow.holds Try.pinned (OpenSpec.upto scaleOrderSpec)

/-- 'quadriviumlaw05.ScaleReaches', WHERE WHAT IT READS IS OF BULK AT MOST 1048576: true; the input reads as it did. -/
def scaleReachesUptoRow : OpenClaim := { program := "ytaphjgkllhfofaa", sum := "eae99e2ff871cc9768172b2211ab34986b42c4288ceab6d928b696f930d64f75", func := "quadrivium/quadriviumlaw05.ScaleReaches", spec := "scaleReaches", unfollowed := true, recurses := true, apart := false, narrowed := true }
def ScaleReachesUptoSaid : Prop := scaleReachesUptoRow.holds Try.pinned (OpenSpec.upto scaleReachesSpec)

/-- 'quadriviumlaw05.ScaleOnce', WHERE WHAT IT READS IS OF BULK AT MOST 1048576: true; the input reads as it did. -/
def scaleOnceUptoRow : OpenClaim := { program := "ytaphjgkllhfofaa", sum := "eae99e2ff871cc9768172b2211ab34986b42c4288ceab6d928b696f930d64f75", func := "quadrivium/quadriviumlaw05.ScaleOnce", spec := "scaleOnce", unfollowed := true, recurses := true, apart := false, narrowed := true }
def ScaleOnceUptoSaid : Prop := scaleOnceUptoRow.holds Try.pinned (OpenSpec.upto scaleOnceSpec)

/-- 'quadriviumlaw05.ScaleGrows', WHERE WHAT IT READS IS OF BULK AT MOST 1048576: true; the input reads as it did. -/
def scaleGrowsUptoRow : OpenClaim := { program := "ytaphjgkllhfofaa", sum := "eae99e2ff871cc9768172b2211ab34986b42c4288ceab6d928b696f930d64f75", func := "quadrivium/quadriviumlaw05.ScaleGrows", spec := "scaleGrows", unfollowed := true, recurses := true, apart := false, narrowed := true }
def ScaleGrowsUptoSaid : Prop := scaleGrowsUptoRow.holds Try.pinned (OpenSpec.upto scaleGrowsSpec)

end Rows
end Go.Proofs.Ytaphjgkllhfofaa
