/-
  No cell of these rows narrows 'for every input' (looked for: loops, veiled, ifaces, maps, wideKeys, modest, calm, conditions, laid).
  DERIVED. THE GIVEN ROWS OF THIS SEAT. 6 by the template 'for every input the law returns true; each argument reads behind the call as it read before'; 0 by the template 'total and deterministic' (their statements: YtnegdmjmllmclaaTotals.lean).
  GIVEN WITH THE SEED: the statements are not yours to turn. If you find one false, say at which input.
  Laid BY PROGRAM, IN A SANDBOX (cutbox-rows.mjs): the forced cells as the released guide's own fill.sh prints them over the translation eb4bdae53ba1b5c7… (all of the seat's roots in one cut). By AI agents, Wed Nov 11 2026. No macro, syntax, notation, axiom, sorry.
-/
import Derived.Test.YtnegdmjmllmclaaChecked
import GoSem.Claim
import GoSem.ClaimJoined
import GoSem.ClaimMapViews
import Derived.JoinedTies
import Derived.KernelRfl
namespace Go.Proofs.Ytnegdmjmllmclaa
/- THE CELL 'sum', in the pinned program and in every row, IS THE sha256 OF THE DUMP (.gsa) THAT YtnegdmjmllmclaaProg.lean LOADS. Nothing in Lean hashes anything: it is a label: what it is worth is what the hold of that sum in a sandbox is worth. -/
noncomputable def Try.pinned : Pinned := { name := "ytnegdmjmllmclaa", sum := "eb4bdae53ba1b5c7f351892176d2eccf7b63a42f242e0b6da8078858abfe0010", checked := Try.checked }
namespace Rows
def none {H : Type} : Left H := { results := [], args := [] }

/-- 'quadriviumlaw19.StandStates': WHATEVER THE INPUT: true; the input reads as it did. -/
def standStatesSpec : ChangeSpec := { name := "standStates", fn := fun _ => fun
  | [d1, d2, d3] => { results := [.lit (.bool true)], args := [d1, d2, d3] }
  | _ => none }
def standStatesRow : OpenClaim := { program := "ytnegdmjmllmclaa", sum := "eb4bdae53ba1b5c7f351892176d2eccf7b63a42f242e0b6da8078858abfe0010", func := "quadrivium/quadriviumlaw19.StandStates", spec := "standStates", unfollowed := true, recurses := true, apart := false }
def StandStatesSaid : Prop := standStatesRow.holds Try.pinned (OpenSpec.ofChange standStatesSpec)

/-- ITS FALSE NEIGHBOUR: 'it returns false'. Refute it at one input. -/
def standStatesWrong : ChangeSpec := { name := "standStates", fn := fun _ => fun
  | [d1, d2, d3] => { results := [.lit (.bool false)], args := [d1, d2, d3] }
  | _ => none }
def StandStatesWrongFalsely : Prop := standStatesRow.holds Try.pinned (OpenSpec.ofChange standStatesWrong)

/-- 'quadriviumlaw19.StandBad': WHATEVER THE INPUT: true; the input reads as it did. -/
def standBadSpec : ChangeSpec := { name := "standBad", fn := fun _ => fun
  | [d] => { results := [.lit (.bool true)], args := [d] }
  | _ => none }
def standBadRow : OpenClaim := { program := "ytnegdmjmllmclaa", sum := "eb4bdae53ba1b5c7f351892176d2eccf7b63a42f242e0b6da8078858abfe0010", func := "quadrivium/quadriviumlaw19.StandBad", spec := "standBad", unfollowed := true, recurses := true, apart := false }
def StandBadSaid : Prop := standBadRow.holds Try.pinned (OpenSpec.ofChange standBadSpec)

/-- ITS FALSE NEIGHBOUR: 'it returns false'. Refute it at one input. -/
def standBadWrong : ChangeSpec := { name := "standBad", fn := fun _ => fun
  | [d] => { results := [.lit (.bool false)], args := [d] }
  | _ => none }
def StandBadWrongFalsely : Prop := standBadRow.holds Try.pinned (OpenSpec.ofChange standBadWrong)

/-- 'quadriviumlaw19.StandApart': WHATEVER THE INPUT: true; the input reads as it did. -/
def standApartSpec : ChangeSpec := { name := "standApart", fn := fun _ => fun
  | [d] => { results := [.lit (.bool true)], args := [d] }
  | _ => none }
def standApartRow : OpenClaim := { program := "ytnegdmjmllmclaa", sum := "eb4bdae53ba1b5c7f351892176d2eccf7b63a42f242e0b6da8078858abfe0010", func := "quadrivium/quadriviumlaw19.StandApart", spec := "standApart", unfollowed := true, recurses := true, apart := false }
def StandApartSaid : Prop := standApartRow.holds Try.pinned (OpenSpec.ofChange standApartSpec)

/-- ITS FALSE NEIGHBOUR: 'it returns false'. Refute it at one input. -/
def standApartWrong : ChangeSpec := { name := "standApart", fn := fun _ => fun
  | [d] => { results := [.lit (.bool false)], args := [d] }
  | _ => none }
def StandApartWrongFalsely : Prop := standApartRow.holds Try.pinned (OpenSpec.ofChange standApartWrong)

/-- 'quadriviumlaw19.StandMore': WHATEVER THE INPUT: true; the input reads as it did. -/
def standMoreSpec : ChangeSpec := { name := "standMore", fn := fun _ => fun
  | [d1, d2, d3] => { results := [.lit (.bool true)], args := [d1, d2, d3] }
  | _ => none }
def standMoreRow : OpenClaim := { program := "ytnegdmjmllmclaa", sum := "eb4bdae53ba1b5c7f351892176d2eccf7b63a42f242e0b6da8078858abfe0010", func := "quadrivium/quadriviumlaw19.StandMore", spec := "standMore", unfollowed := true, recurses := true, apart := false }
def StandMoreSaid : Prop := standMoreRow.holds Try.pinned (OpenSpec.ofChange standMoreSpec)

/-- ITS FALSE NEIGHBOUR: 'it returns false'. Refute it at one input. -/
def standMoreWrong : ChangeSpec := { name := "standMore", fn := fun _ => fun
  | [d1, d2, d3] => { results := [.lit (.bool false)], args := [d1, d2, d3] }
  | _ => none }
def StandMoreWrongFalsely : Prop := standMoreRow.holds Try.pinned (OpenSpec.ofChange standMoreWrong)

/-- 'quadriviumlaw19.StandGood': WHATEVER THE INPUT: true; the input reads as it did. -/
def standGoodSpec : ChangeSpec := { name := "standGood", fn := fun _ => fun
  | [d] => { results := [.lit (.bool true)], args := [d] }
  | _ => none }
def standGoodRow : OpenClaim := { program := "ytnegdmjmllmclaa", sum := "eb4bdae53ba1b5c7f351892176d2eccf7b63a42f242e0b6da8078858abfe0010", func := "quadrivium/quadriviumlaw19.StandGood", spec := "standGood", unfollowed := true, recurses := true, apart := false }
def StandGoodSaid : Prop := standGoodRow.holds Try.pinned (OpenSpec.ofChange standGoodSpec)

/-- ITS FALSE NEIGHBOUR: 'it returns false'. Refute it at one input. -/
def standGoodWrong : ChangeSpec := { name := "standGood", fn := fun _ => fun
  | [d] => { results := [.lit (.bool false)], args := [d] }
  | _ => none }
def StandGoodWrongFalsely : Prop := standGoodRow.holds Try.pinned (OpenSpec.ofChange standGoodWrong)

/-- 'quadriviumlaw19.StandMeans': WHATEVER THE INPUT: true; the input reads as it did. -/
def standMeansSpec : ChangeSpec := { name := "standMeans", fn := fun _ => fun
  | [d] => { results := [.lit (.bool true)], args := [d] }
  | _ => none }
def standMeansRow : OpenClaim := { program := "ytnegdmjmllmclaa", sum := "eb4bdae53ba1b5c7f351892176d2eccf7b63a42f242e0b6da8078858abfe0010", func := "quadrivium/quadriviumlaw19.StandMeans", spec := "standMeans", unfollowed := true, recurses := true, apart := false }
def StandMeansSaid : Prop := standMeansRow.holds Try.pinned (OpenSpec.ofChange standMeansSpec)

/-- ITS FALSE NEIGHBOUR: 'it returns false'. Refute it at one input. -/
def standMeansWrong : ChangeSpec := { name := "standMeans", fn := fun _ => fun
  | [d] => { results := [.lit (.bool false)], args := [d] }
  | _ => none }
def StandMeansWrongFalsely : Prop := standMeansRow.holds Try.pinned (OpenSpec.ofChange standMeansWrong)

/- THE SECOND FORM. 'bulk': how many values and letters a reading holds, each counted each time it is reached (what is shared counts as often as it is met; a slice's spare places count too). A statement '..UptoSaid' is the law's where the arguments, and the package variables that the reading takes, are together of bulk at most 1048576: NARROWER than '..Said'. Prove '..Said' where nothing that the law and all that it calls make is longer than what came in: it says more and counts as full. Else prove '..UptoSaid'. A law counts once. -/
mutual
def uptoBulk {H : Type} : DataW H → Nat
  | .lit (.string bytes) => bytes.length + 1
  | .lit _ => 1
  | .nil => 1
  | .ptr d => uptoBulk d + 1
  | .slice elems spare => uptoBulkAll elems + uptoBulkAll spare + 1
  | .agg parts => uptoBulkAll parts + 1
  | .iface _ d => uptoBulk d + 1
  | .map entries => uptoBulkEntries entries + 1
  | .held _ => 1
def uptoBulkAll {H : Type} : List (DataW H) → Nat
  | [] => 0
  | d :: r => uptoBulk d + uptoBulkAll r
def uptoBulkEntries {H : Type} : List (Lit × DataW H) → Nat
  | [] => 0
  | x :: r => uptoBulkEntry x + uptoBulkEntries r
def uptoBulkEntry {H : Type} : Lit × DataW H → Nat
  | (.string bytes, d) => bytes.length + uptoBulk d + 1
  | (_, d) => uptoBulk d + 1
 end
def uptoSmall : (H : Type) → List (DataW H) → Bool := fun _ ds => decide (uptoBulkAll ds ≤ 1048576)
def OpenSpec.upto (s : _root_.Go.ChangeSpec) : _root_.Go.OpenSpec := { _root_.Go.OpenSpec.ofChange s with cond := some uptoSmall }

/-- 'quadriviumlaw19.StandStates', WHERE WHAT IT READS IS OF BULK AT MOST 1048576: true; the input reads as it did. -/
def standStatesUptoRow : OpenClaim := { program := "ytnegdmjmllmclaa", sum := "eb4bdae53ba1b5c7f351892176d2eccf7b63a42f242e0b6da8078858abfe0010", func := "quadrivium/quadriviumlaw19.StandStates", spec := "standStates", unfollowed := true, recurses := true, apart := false, narrowed := true }
def StandStatesUptoSaid : Prop := standStatesUptoRow.holds Try.pinned (OpenSpec.upto standStatesSpec)

/-- 'quadriviumlaw19.StandBad', WHERE WHAT IT READS IS OF BULK AT MOST 1048576: true; the input reads as it did. -/
def standBadUptoRow : OpenClaim := { program := "ytnegdmjmllmclaa", sum := "eb4bdae53ba1b5c7f351892176d2eccf7b63a42f242e0b6da8078858abfe0010", func := "quadrivium/quadriviumlaw19.StandBad", spec := "standBad", unfollowed := true, recurses := true, apart := false, narrowed := true }
def StandBadUptoSaid : Prop := standBadUptoRow.holds Try.pinned (OpenSpec.upto standBadSpec)

/-- 'quadriviumlaw19.StandApart', WHERE WHAT IT READS IS OF BULK AT MOST 1048576: true; the input reads as it did. -/
def standApartUptoRow : OpenClaim := { program := "ytnegdmjmllmclaa", sum := "eb4bdae53ba1b5c7f351892176d2eccf7b63a42f242e0b6da8078858abfe0010", func := "quadrivium/quadriviumlaw19.StandApart", spec := "standApart", unfollowed := true, recurses := true, apart := false, narrowed := true }
def StandApartUptoSaid : Prop := standApartUptoRow.holds Try.pinned (OpenSpec.upto standApartSpec)

/-- 'quadriviumlaw19.StandMore', WHERE WHAT IT READS IS OF BULK AT MOST 1048576: true; the input reads as it did. -/
def standMoreUptoRow : OpenClaim := { program := "ytnegdmjmllmclaa", sum := "eb4bdae53ba1b5c7f351892176d2eccf7b63a42f242e0b6da8078858abfe0010", func := "quadrivium/quadriviumlaw19.StandMore", spec := "standMore", unfollowed := true, recurses := true, apart := false, narrowed := true }
def StandMoreUptoSaid : Prop := standMoreUptoRow.holds Try.pinned (OpenSpec.upto standMoreSpec)

/-- 'quadriviumlaw19.StandGood', WHERE WHAT IT READS IS OF BULK AT MOST 1048576: true; the input reads as it did. -/
def standGoodUptoRow : OpenClaim := { program := "ytnegdmjmllmclaa", sum := "eb4bdae53ba1b5c7f351892176d2eccf7b63a42f242e0b6da8078858abfe0010", func := "quadrivium/quadriviumlaw19.StandGood", spec := "standGood", unfollowed := true, recurses := true, apart := false, narrowed := true }
def StandGoodUptoSaid : Prop := standGoodUptoRow.holds Try.pinned (OpenSpec.upto standGoodSpec)

/-- 'quadriviumlaw19.StandMeans', WHERE WHAT IT READS IS OF BULK AT MOST 1048576: true; the input reads as it did. -/
def standMeansUptoRow : OpenClaim := { program := "ytnegdmjmllmclaa", sum := "eb4bdae53ba1b5c7f351892176d2eccf7b63a42f242e0b6da8078858abfe0010", func := "quadrivium/quadriviumlaw19.StandMeans", spec := "standMeans", unfollowed := true, recurses := true, apart := false, narrowed := true }
def StandMeansUptoSaid : Prop := standMeansUptoRow.holds Try.pinned (OpenSpec.upto standMeansSpec)

end Rows
end Go.Proofs.Ytnegdmjmllmclaa
