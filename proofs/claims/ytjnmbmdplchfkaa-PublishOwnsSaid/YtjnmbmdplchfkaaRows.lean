/-
  No cell of these rows narrows 'for every input' (looked for: loops, veiled, ifaces, maps, wideKeys, modest, calm, conditions, laid).
  DERIVED. THE GIVEN ROWS OF THIS SEAT. 5 by the template 'for every input the law returns true; each argument reads behind the call as it read before'; 0 by the template 'total and deterministic' (their statements: YtjnmbmdplchfkaaTotals.lean).
  GIVEN WITH THE SEED: the statements are not yours to turn. If you find one false, say at which input.
  Laid BY PROGRAM, IN A SANDBOX (cutbox-rows.mjs): the forced cells as the released guide's own fill.sh prints them over the translation 59903df2c652e9c7… (all of the seat's roots in one cut). By AI agents, Wed Nov 11 2026. No macro, syntax, notation, axiom, sorry.
-/
import Derived.Test.YtjnmbmdplchfkaaChecked
import GoSem.Claim
import GoSem.ClaimJoined
import GoSem.ClaimMapViews
import Derived.JoinedTies
import Derived.KernelRfl
namespace Go.Proofs.Ytjnmbmdplchfkaa
/- THE CELL 'sum', in the pinned program and in every row, IS THE sha256 OF THE DUMP (.gsa) THAT YtjnmbmdplchfkaaProg.lean LOADS. Nothing in Lean hashes anything: it is a label: what it is worth is what the hold of that sum in a sandbox is worth. -/
noncomputable def Try.pinned : Pinned := { name := "ytjnmbmdplchfkaa", sum := "59903df2c652e9c74f809071c8827a822d34f46edf20a43ebfe81f06f3cf1d01", checked := Try.checked }
namespace Rows
def none {H : Type} : Left H := { results := [], args := [] }

/-- 'quadriviumlaw15.PublishLater': WHATEVER THE INPUT: true; the input reads as it did. -/
def publishLaterSpec : ChangeSpec := { name := "publishLater", fn := fun _ => fun
  | [d1, d2] => { results := [.lit (.bool true)], args := [d1, d2] }
  | _ => none }
def publishLaterRow : OpenClaim := { program := "ytjnmbmdplchfkaa", sum := "59903df2c652e9c74f809071c8827a822d34f46edf20a43ebfe81f06f3cf1d01", func := "quadrivium/quadriviumlaw15.PublishLater", spec := "publishLater", unfollowed := true, recurses := true, plainKeys := false, apart := false }
def PublishLaterSaid : Prop := publishLaterRow.holds Try.pinned (OpenSpec.ofChange publishLaterSpec)

/-- ITS FALSE NEIGHBOUR: 'it returns false'. Refute it at one input. -/
def publishLaterWrong : ChangeSpec := { name := "publishLater", fn := fun _ => fun
  | [d1, d2] => { results := [.lit (.bool false)], args := [d1, d2] }
  | _ => none }
def PublishLaterWrongFalsely : Prop := publishLaterRow.holds Try.pinned (OpenSpec.ofChange publishLaterWrong)

/-- 'quadriviumlaw15.PublishPrefix': WHATEVER THE INPUT: true; the input reads as it did. -/
def publishPrefixSpec : ChangeSpec := { name := "publishPrefix", fn := fun _ => fun
  | [d1, d2] => { results := [.lit (.bool true)], args := [d1, d2] }
  | _ => none }
def publishPrefixRow : OpenClaim := { program := "ytjnmbmdplchfkaa", sum := "59903df2c652e9c74f809071c8827a822d34f46edf20a43ebfe81f06f3cf1d01", func := "quadrivium/quadriviumlaw15.PublishPrefix", spec := "publishPrefix", unfollowed := true, recurses := true, plainKeys := false, apart := false }
def PublishPrefixSaid : Prop := publishPrefixRow.holds Try.pinned (OpenSpec.ofChange publishPrefixSpec)

/-- ITS FALSE NEIGHBOUR: 'it returns false'. Refute it at one input. -/
def publishPrefixWrong : ChangeSpec := { name := "publishPrefix", fn := fun _ => fun
  | [d1, d2] => { results := [.lit (.bool false)], args := [d1, d2] }
  | _ => none }
def PublishPrefixWrongFalsely : Prop := publishPrefixRow.holds Try.pinned (OpenSpec.ofChange publishPrefixWrong)

/-- 'quadriviumlaw15.PublishBooks': WHATEVER THE INPUT: true; the input reads as it did. -/
def publishBooksSpec : ChangeSpec := { name := "publishBooks", fn := fun _ => fun
  | [d1, d2, d3, d4] => { results := [.lit (.bool true)], args := [d1, d2, d3, d4] }
  | _ => none }
def publishBooksRow : OpenClaim := { program := "ytjnmbmdplchfkaa", sum := "59903df2c652e9c74f809071c8827a822d34f46edf20a43ebfe81f06f3cf1d01", func := "quadrivium/quadriviumlaw15.PublishBooks", spec := "publishBooks", unfollowed := true, recurses := true, plainKeys := false, apart := false }
def PublishBooksSaid : Prop := publishBooksRow.holds Try.pinned (OpenSpec.ofChange publishBooksSpec)

/-- ITS FALSE NEIGHBOUR: 'it returns false'. Refute it at one input. -/
def publishBooksWrong : ChangeSpec := { name := "publishBooks", fn := fun _ => fun
  | [d1, d2, d3, d4] => { results := [.lit (.bool false)], args := [d1, d2, d3, d4] }
  | _ => none }
def PublishBooksWrongFalsely : Prop := publishBooksRow.holds Try.pinned (OpenSpec.ofChange publishBooksWrong)

/-- 'quadriviumlaw15.PublishOne': WHATEVER THE INPUT: true; the input reads as it did. -/
def publishOneSpec : ChangeSpec := { name := "publishOne", fn := fun _ => fun
  | [d] => { results := [.lit (.bool true)], args := [d] }
  | _ => none }
def publishOneRow : OpenClaim := { program := "ytjnmbmdplchfkaa", sum := "59903df2c652e9c74f809071c8827a822d34f46edf20a43ebfe81f06f3cf1d01", func := "quadrivium/quadriviumlaw15.PublishOne", spec := "publishOne", unfollowed := true, recurses := true, plainKeys := false, apart := false }
def PublishOneSaid : Prop := publishOneRow.holds Try.pinned (OpenSpec.ofChange publishOneSpec)

/-- ITS FALSE NEIGHBOUR: 'it returns false'. Refute it at one input. -/
def publishOneWrong : ChangeSpec := { name := "publishOne", fn := fun _ => fun
  | [d] => { results := [.lit (.bool false)], args := [d] }
  | _ => none }
def PublishOneWrongFalsely : Prop := publishOneRow.holds Try.pinned (OpenSpec.ofChange publishOneWrong)

/-- 'quadriviumlaw15.PublishOwns': WHATEVER THE INPUT: true; the input reads as it did. -/
def publishOwnsSpec : ChangeSpec := { name := "publishOwns", fn := fun _ => fun
  | [d] => { results := [.lit (.bool true)], args := [d] }
  | _ => none }
def publishOwnsRow : OpenClaim := { program := "ytjnmbmdplchfkaa", sum := "59903df2c652e9c74f809071c8827a822d34f46edf20a43ebfe81f06f3cf1d01", func := "quadrivium/quadriviumlaw15.PublishOwns", spec := "publishOwns", unfollowed := true, recurses := true, plainKeys := false, apart := false }
def PublishOwnsSaid : Prop := publishOwnsRow.holds Try.pinned (OpenSpec.ofChange publishOwnsSpec)

/-- ITS FALSE NEIGHBOUR: 'it returns false'. Refute it at one input. -/
def publishOwnsWrong : ChangeSpec := { name := "publishOwns", fn := fun _ => fun
  | [d] => { results := [.lit (.bool false)], args := [d] }
  | _ => none }
def PublishOwnsWrongFalsely : Prop := publishOwnsRow.holds Try.pinned (OpenSpec.ofChange publishOwnsWrong)

/- THE SECOND FORM. 'bulk': how many values and letters a reading holds, each counted each time it is reached (what is shared counts as often as it is met; a slice's spare places count too). A statement '..UptoSaid' is the law's where the arguments, and the package variables that the reading takes, are together of bulk at most 1048576: NARROWER than '..Said'. Prove '..Said' where nothing that the law and all that it calls make is longer than what came in: it says more and counts as full. Else prove '..UptoSaid'. A law counts once. -/
mutual
def uptoBulk {H : Type} : DataW H → Nat
  | .lit (.string bytes) => bytes.length + 1
  | .lit _ => 1
  | .nil => 1
  | .ptr d => uptoBulk d + 1
  | .slice elems spare => uptoBulkAll elems + uptoBulkAll spare + 1
  | .agg parts => uptoBulkAll parts + 1
  | .iface _ d => uptoBulk d + 1
  | .map entries => uptoBulkEntries entries + 1
  | .held _ => 1
def uptoBulkAll {H : Type} : List (DataW H) → Nat
  | [] => 0
  | d :: r => uptoBulk d + uptoBulkAll r
def uptoBulkEntries {H : Type} : List (Lit × DataW H) → Nat
  | [] => 0
  | x :: r => uptoBulkEntry x + uptoBulkEntries r
def uptoBulkEntry {H : Type} : Lit × DataW H → Nat
  | (.string bytes, d) => bytes.length + uptoBulk d + 1
  | (_, d) => uptoBulk d + 1
 end
def uptoSmall : (H : Type) → List (DataW H) → Bool := fun _ ds => decide (uptoBulkAll ds ≤ 1048576)
def OpenSpec.upto (s : _root_.Go.ChangeSpec) : _root_.Go.OpenSpec := { _root_.Go.OpenSpec.ofChange s with cond := some uptoSmall }

/-- 'quadriviumlaw15.PublishLater', WHERE WHAT IT READS IS OF BULK AT MOST 1048576: true; the input reads as it did. -/
def publishLaterUptoRow : OpenClaim := { program := "ytjnmbmdplchfkaa", sum := "59903df2c652e9c74f809071c8827a822d34f46edf20a43ebfe81f06f3cf1d01", func := "quadrivium/quadriviumlaw15.PublishLater", spec := "publishLater", unfollowed := true, recurses := true, plainKeys := false, apart := false, narrowed := true }
def PublishLaterUptoSaid : Prop := publishLaterUptoRow.holds Try.pinned (OpenSpec.upto publishLaterSpec)

/-- 'quadriviumlaw15.PublishPrefix', WHERE WHAT IT READS IS OF BULK AT MOST 1048576: true; the input reads as it did. -/
def publishPrefixUptoRow : OpenClaim := { program := "ytjnmbmdplchfkaa", sum := "59903df2c652e9c74f809071c8827a822d34f46edf20a43ebfe81f06f3cf1d01", func := "quadrivium/quadriviumlaw15.PublishPrefix", spec := "publishPrefix", unfollowed := true, recurses := true, plainKeys := false, apart := false, narrowed := true }
def PublishPrefixUptoSaid : Prop := publishPrefixUptoRow.holds Try.pinned (OpenSpec.upto publishPrefixSpec)

/-- 'quadriviumlaw15.PublishBooks', WHERE WHAT IT READS IS OF BULK AT MOST 1048576: true; the input reads as it did. -/
def publishBooksUptoRow : OpenClaim := { program := "ytjnmbmdplchfkaa", sum := "59903df2c652e9c74f809071c8827a822d34f46edf20a43ebfe81f06f3cf1d01", func := "quadrivium/quadriviumlaw15.PublishBooks", spec := "publishBooks", unfollowed := true, recurses := true, plainKeys := false, apart := false, narrowed := true }
def PublishBooksUptoSaid : Prop := publishBooksUptoRow.holds Try.pinned (OpenSpec.upto publishBooksSpec)

/-- 'quadriviumlaw15.PublishOne', WHERE WHAT IT READS IS OF BULK AT MOST 1048576: true; the input reads as it did. -/
def publishOneUptoRow : OpenClaim := { program := "ytjnmbmdplchfkaa", sum := "59903df2c652e9c74f809071c8827a822d34f46edf20a43ebfe81f06f3cf1d01", func := "quadrivium/quadriviumlaw15.PublishOne", spec := "publishOne", unfollowed := true, recurses := true, plainKeys := false, apart := false, narrowed := true }
def PublishOneUptoSaid : Prop := publishOneUptoRow.holds Try.pinned (OpenSpec.upto publishOneSpec)

/-- 'quadriviumlaw15.PublishOwns', WHERE WHAT IT READS IS OF BULK AT MOST 1048576: true; the input reads as it did. -/
def publishOwnsUptoRow : OpenClaim := { program := "ytjnmbmdplchfkaa", sum := "59903df2c652e9c74f809071c8827a822d34f46edf20a43ebfe81f06f3cf1d01", func := "quadrivium/quadriviumlaw15.PublishOwns", spec := "publishOwns", unfollowed := true, recurses := true, plainKeys := false, apart := false, narrowed := true }
def PublishOwnsUptoSaid : Prop := publishOwnsUptoRow.holds Try.pinned (OpenSpec.upto publishOwnsSpec)

end Rows
end Go.Proofs.Ytjnmbmdplchfkaa
