/-
  No cell of these rows narrows 'for every input' (looked for: loops, veiled, ifaces, maps, wideKeys, modest, calm, conditions, laid).
  DERIVED. THE GIVEN ROWS OF THIS SEAT. 7 by the template 'for every input the law returns true; each argument reads behind the call as it read before'; 0 by the template 'total and deterministic' (their statements: YtcpnlcgpgljlbaaTotals.lean).
  GIVEN WITH THE SEED: the statements are not yours to turn. If you find one false, say at which input.
  Laid BY PROGRAM, IN A SANDBOX (cutbox-rows.mjs): the forced cells as the released guide's own fill.sh prints them over the translation a67263e6f48e65c0… (all of the seat's roots in one cut). By AI agents, Wed Nov 11 2026. No macro, syntax, notation, axiom, sorry.
-/
import Derived.Test.YtcpnlcgpgljlbaaChecked
import GoSem.Claim
import GoSem.ClaimJoined
import GoSem.ClaimMapViews
import Derived.JoinedTies
import Derived.KernelRfl
namespace Go.Proofs.Ytcpnlcgpgljlbaa
/- THE CELL 'sum', in the pinned program and in every row, IS THE sha256 OF THE DUMP (.gsa) THAT YtcpnlcgpgljlbaaProg.lean LOADS. Nothing in Lean hashes anything: it is a label: what it is worth is what the hold of that sum in a sandbox is worth. -/
noncomputable def Try.pinned : Pinned := { name := "ytcpnlcgpgljlbaa", sum := "a67263e6f48e65c047ef9ded94afe2c2d2108d347b6b7c4af1c406c18a7fb73d", checked := Try.checked }
namespace Rows
def none {H : Type} : Left H := { results := [], args := [] }

/-- 'quadriviumlaw03.DateDays': WHATEVER THE INPUT: true; the input reads as it did. -/
def dateDaysSpec : ChangeSpec := { name := "dateDays", fn := fun _ => fun
  | [d] => { results := [.lit (.bool true)], args := [d] }
  | _ => none }
def dateDaysRow : OpenClaim := { program := "ytcpnlcgpgljlbaa", sum := "a67263e6f48e65c047ef9ded94afe2c2d2108d347b6b7c4af1c406c18a7fb73d", func := "quadrivium/quadriviumlaw03.DateDays", spec := "dateDays", unfollowed := true, recurses := true, plainKeys := false, apart := false }
def DateDaysSaid : Prop := dateDaysRow.holds Try.pinned (OpenSpec.ofChange dateDaysSpec)

/-- ITS FALSE NEIGHBOUR: 'it returns false'. Refute it at one input. -/
def dateDaysWrong : ChangeSpec := { name := "dateDays", fn := fun _ => fun
  | [d] => { results := [.lit (.bool false)], args := [d] }
  | _ => none }
def DateDaysWrongFalsely : Prop := dateDaysRow.holds Try.pinned (OpenSpec.ofChange dateDaysWrong)

/-- 'quadriviumlaw03.DateTerms': WHATEVER THE INPUT: true; the input reads as it did. -/
def dateTermsSpec : ChangeSpec := { name := "dateTerms", fn := fun _ => fun
  | [d] => { results := [.lit (.bool true)], args := [d] }
  | _ => none }
def dateTermsRow : OpenClaim := { program := "ytcpnlcgpgljlbaa", sum := "a67263e6f48e65c047ef9ded94afe2c2d2108d347b6b7c4af1c406c18a7fb73d", func := "quadrivium/quadriviumlaw03.DateTerms", spec := "dateTerms", unfollowed := true, recurses := true, plainKeys := false, apart := false }
def DateTermsSaid : Prop := dateTermsRow.holds Try.pinned (OpenSpec.ofChange dateTermsSpec)

/-- ITS FALSE NEIGHBOUR: 'it returns false'. Refute it at one input. -/
def dateTermsWrong : ChangeSpec := { name := "dateTerms", fn := fun _ => fun
  | [d] => { results := [.lit (.bool false)], args := [d] }
  | _ => none }
def DateTermsWrongFalsely : Prop := dateTermsRow.holds Try.pinned (OpenSpec.ofChange dateTermsWrong)

/-- 'quadriviumlaw03.DateIntervals': WHATEVER THE INPUT: true; the input reads as it did. -/
def dateIntervalsSpec : ChangeSpec := { name := "dateIntervals", fn := fun _ => fun
  | [d] => { results := [.lit (.bool true)], args := [d] }
  | _ => none }
def dateIntervalsRow : OpenClaim := { program := "ytcpnlcgpgljlbaa", sum := "a67263e6f48e65c047ef9ded94afe2c2d2108d347b6b7c4af1c406c18a7fb73d", func := "quadrivium/quadriviumlaw03.DateIntervals", spec := "dateIntervals", unfollowed := true, recurses := true, plainKeys := false, apart := false }
def DateIntervalsSaid : Prop := dateIntervalsRow.holds Try.pinned (OpenSpec.ofChange dateIntervalsSpec)

/-- ITS FALSE NEIGHBOUR: 'it returns false'. Refute it at one input. -/
def dateIntervalsWrong : ChangeSpec := { name := "dateIntervals", fn := fun _ => fun
  | [d] => { results := [.lit (.bool false)], args := [d] }
  | _ => none }
def DateIntervalsWrongFalsely : Prop := dateIntervalsRow.holds Try.pinned (OpenSpec.ofChange dateIntervalsWrong)

/-- 'quadriviumlaw03.DateClocks': WHATEVER THE INPUT: true; the input reads as it did. -/
def dateClocksSpec : ChangeSpec := { name := "dateClocks", fn := fun _ => fun
  | [d1, d2] => { results := [.lit (.bool true)], args := [d1, d2] }
  | _ => none }
def dateClocksRow : OpenClaim := { program := "ytcpnlcgpgljlbaa", sum := "a67263e6f48e65c047ef9ded94afe2c2d2108d347b6b7c4af1c406c18a7fb73d", func := "quadrivium/quadriviumlaw03.DateClocks", spec := "dateClocks", unfollowed := true, recurses := true, plainKeys := false, apart := false }
def DateClocksSaid : Prop := dateClocksRow.holds Try.pinned (OpenSpec.ofChange dateClocksSpec)

/-- ITS FALSE NEIGHBOUR: 'it returns false'. Refute it at one input. -/
def dateClocksWrong : ChangeSpec := { name := "dateClocks", fn := fun _ => fun
  | [d1, d2] => { results := [.lit (.bool false)], args := [d1, d2] }
  | _ => none }
def DateClocksWrongFalsely : Prop := dateClocksRow.holds Try.pinned (OpenSpec.ofChange dateClocksWrong)

/-- 'quadriviumlaw03.DateRises': WHATEVER THE INPUT: true; the input reads as it did. -/
def dateRisesSpec : ChangeSpec := { name := "dateRises", fn := fun _ => fun
  | [d1, d2] => { results := [.lit (.bool true)], args := [d1, d2] }
  | _ => none }
def dateRisesRow : OpenClaim := { program := "ytcpnlcgpgljlbaa", sum := "a67263e6f48e65c047ef9ded94afe2c2d2108d347b6b7c4af1c406c18a7fb73d", func := "quadrivium/quadriviumlaw03.DateRises", spec := "dateRises", unfollowed := true, recurses := true, plainKeys := false, apart := false }
def DateRisesSaid : Prop := dateRisesRow.holds Try.pinned (OpenSpec.ofChange dateRisesSpec)

/-- ITS FALSE NEIGHBOUR: 'it returns false'. Refute it at one input. -/
def dateRisesWrong : ChangeSpec := { name := "dateRises", fn := fun _ => fun
  | [d1, d2] => { results := [.lit (.bool false)], args := [d1, d2] }
  | _ => none }
def DateRisesWrongFalsely : Prop := dateRisesRow.holds Try.pinned (OpenSpec.ofChange dateRisesWrong)

/-- 'quadriviumlaw03.DateServers': WHATEVER THE INPUT: true; the input reads as it did. -/
def dateServersSpec : ChangeSpec := { name := "dateServers", fn := fun _ => fun
  | [d] => { results := [.lit (.bool true)], args := [d] }
  | _ => none }
def dateServersRow : OpenClaim := { program := "ytcpnlcgpgljlbaa", sum := "a67263e6f48e65c047ef9ded94afe2c2d2108d347b6b7c4af1c406c18a7fb73d", func := "quadrivium/quadriviumlaw03.DateServers", spec := "dateServers", unfollowed := true, recurses := true, plainKeys := false, apart := false }
def DateServersSaid : Prop := dateServersRow.holds Try.pinned (OpenSpec.ofChange dateServersSpec)

/-- ITS FALSE NEIGHBOUR: 'it returns false'. Refute it at one input. -/
def dateServersWrong : ChangeSpec := { name := "dateServers", fn := fun _ => fun
  | [d] => { results := [.lit (.bool false)], args := [d] }
  | _ => none }
def DateServersWrongFalsely : Prop := dateServersRow.holds Try.pinned (OpenSpec.ofChange dateServersWrong)

/-- 'quadriviumlaw03.DateNothing': WHATEVER THE INPUT: true; the input reads as it did. -/
def dateNothingSpec : ChangeSpec := { name := "dateNothing", fn := fun _ => fun
  | [d1, d2] => { results := [.lit (.bool true)], args := [d1, d2] }
  | _ => none }
def dateNothingRow : OpenClaim := { program := "ytcpnlcgpgljlbaa", sum := "a67263e6f48e65c047ef9ded94afe2c2d2108d347b6b7c4af1c406c18a7fb73d", func := "quadrivium/quadriviumlaw03.DateNothing", spec := "dateNothing", unfollowed := true, recurses := true, plainKeys := false, apart := false }
def DateNothingSaid : Prop := dateNothingRow.holds Try.pinned (OpenSpec.ofChange dateNothingSpec)

/-- ITS FALSE NEIGHBOUR: 'it returns false'. Refute it at one input. -/
def dateNothingWrong : ChangeSpec := { name := "dateNothing", fn := fun _ => fun
  | [d1, d2] => { results := [.lit (.bool false)], args := [d1, d2] }
  | _ => none }
def DateNothingWrongFalsely : Prop := dateNothingRow.holds Try.pinned (OpenSpec.ofChange dateNothingWrong)

/- THE SECOND FORM. 'bulk': how many values and letters a reading holds, each counted each time it is reached (what is shared counts as often as it is met; a slice's spare places count too). A statement '..UptoSaid' is the law's where the arguments, and the package variables that the reading takes, are together of bulk at most 1048576: NARROWER than '..Said'. Prove '..Said' where nothing that the law and all that it calls make is longer than what came in: it says more and counts as full. Else prove '..UptoSaid'. A law counts once. -/
mutual
def uptoBulk {H : Type} : DataW H → Nat
  | .lit (.string bytes) => bytes.length + 1
  | .lit _ => 1
  | .nil => 1
  | .ptr d => uptoBulk d + 1
  | .slice elems spare => uptoBulkAll elems + uptoBulkAll spare + 1
  | .agg parts => uptoBulkAll parts + 1
  | .iface _ d => uptoBulk d + 1
  | .map entries => uptoBulkEntries entries + 1
  | .held _ => 1
def uptoBulkAll {H : Type} : List (DataW H) → Nat
  | [] => 0
  | d :: r => uptoBulk d + uptoBulkAll r
def uptoBulkEntries {H : Type} : List (Lit × DataW H) → Nat
  | [] => 0
  | x :: r => uptoBulkEntry x + uptoBulkEntries r
def uptoBulkEntry {H : Type} : Lit × DataW H → Nat
  | (.string bytes, d) => bytes.length + uptoBulk d + 1
  | (_, d) => uptoBulk d + 1
 end
def uptoSmall : (H : Type) → List (DataW H) → Bool := fun _ ds => decide (uptoBulkAll ds ≤ 1048576)
def OpenSpec.upto (s : _root_.Go.ChangeSpec) : _root_.Go.OpenSpec := { _root_.Go.OpenSpec.ofChange s with cond := some uptoSmall }

/-- 'quadriviumlaw03.DateDays', WHERE WHAT IT READS IS OF BULK AT MOST 1048576: true; the input reads as it did. -/
def dateDaysUptoRow : OpenClaim := { program := "ytcpnlcgpgljlbaa", sum := "a67263e6f48e65c047ef9ded94afe2c2d2108d347b6b7c4af1c406c18a7fb73d", func := "quadrivium/quadriviumlaw03.DateDays", spec := "dateDays", unfollowed := true, recurses := true, plainKeys := false, apart := false, narrowed := true }
def DateDaysUptoSaid : Prop := dateDaysUptoRow.holds Try.pinned (OpenSpec.upto dateDaysSpec)

/-- 'quadriviumlaw03.DateTerms', WHERE WHAT IT READS IS OF BULK AT MOST 1048576: true; the input reads as it did. -/
def dateTermsUptoRow : OpenClaim := { program := "ytcpnlcgpgljlbaa", sum := "a67263e6f48e65c047ef9ded94afe2c2d2108d347b6b7c4af1c406c18a7fb73d", func := "quadrivium/quadriviumlaw03.DateTerms", spec := "dateTerms", unfollowed := true, recurses := true, plainKeys := false, apart := false, narrowed := true }
def DateTermsUptoSaid : Prop := dateTermsUptoRow.holds Try.pinned (OpenSpec.upto dateTermsSpec)

/-- 'quadriviumlaw03.DateIntervals', WHERE WHAT IT READS IS OF BULK AT MOST 1048576: true; the input reads as it did. -/
def dateIntervalsUptoRow : OpenClaim := { program := "ytcpnlcgpgljlbaa", sum := "a67263e6f48e65c047ef9ded94afe2c2d2108d347b6b7c4af1c406c18a7fb73d", func := "quadrivium/quadriviumlaw03.DateIntervals", spec := "dateIntervals", unfollowed := true, recurses := true, plainKeys := false, apart := false, narrowed := true }
def DateIntervalsUptoSaid : Prop := dateIntervalsUptoRow.holds Try.pinned (OpenSpec.upto dateIntervalsSpec)

/-- 'quadriviumlaw03.DateClocks', WHERE WHAT IT READS IS OF BULK AT MOST 1048576: true; the input reads as it did. -/
def dateClocksUptoRow : OpenClaim := { program := "ytcpnlcgpgljlbaa", sum := "a67263e6f48e65c047ef9ded94afe2c2d2108d347b6b7c4af1c406c18a7fb73d", func := "quadrivium/quadriviumlaw03.DateClocks", spec := "dateClocks", unfollowed := true, recurses := true, plainKeys := false, apart := false, narrowed := true }
def DateClocksUptoSaid : Prop := dateClocksUptoRow.holds Try.pinned (OpenSpec.upto dateClocksSpec)

/-- 'quadriviumlaw03.DateRises', WHERE WHAT IT READS IS OF BULK AT MOST 1048576: true; the input reads as it did. -/
def dateRisesUptoRow : OpenClaim := { program := "ytcpnlcgpgljlbaa", sum := "a67263e6f48e65c047ef9ded94afe2c2d2108d347b6b7c4af1c406c18a7fb73d", func := "quadrivium/quadriviumlaw03.DateRises", spec := "dateRises", unfollowed := true, recurses := true, plainKeys := false, apart := false, narrowed := true }
def DateRisesUptoSaid : Prop := dateRisesUptoRow.holds Try.pinned (OpenSpec.upto dateRisesSpec)

/-- 'quadriviumlaw03.DateServers', WHERE WHAT IT READS IS OF BULK AT MOST 1048576: true; the input reads as it did. -/
def dateServersUptoRow : OpenClaim := { program := "ytcpnlcgpgljlbaa", sum := "a67263e6f48e65c047ef9ded94afe2c2d2108d347b6b7c4af1c406c18a7fb73d", func := "quadrivium/quadriviumlaw03.DateServers", spec := "dateServers", unfollowed := true, recurses := true, plainKeys := false, apart := false, narrowed := true }
def DateServersUptoSaid : Prop := dateServersUptoRow.holds Try.pinned (OpenSpec.upto dateServersSpec)

/-- 'quadriviumlaw03.DateNothing', WHERE WHAT IT READS IS OF BULK AT MOST 1048576: true; the input reads as it did. -/
def dateNothingUptoRow : OpenClaim := { program := "ytcpnlcgpgljlbaa", sum := "a67263e6f48e65c047ef9ded94afe2c2d2108d347b6b7c4af1c406c18a7fb73d", func := "quadrivium/quadriviumlaw03.DateNothing", spec := "dateNothing", unfollowed := true, recurses := true, plainKeys := false, apart := false, narrowed := true }
def DateNothingUptoSaid : Prop := dateNothingUptoRow.holds Try.pinned (OpenSpec.upto dateNothingSpec)

end Rows
end Go.Proofs.Ytcpnlcgpgljlbaa
