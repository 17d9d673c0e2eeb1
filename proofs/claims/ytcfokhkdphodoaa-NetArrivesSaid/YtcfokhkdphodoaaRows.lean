/-
  No cell of these rows narrows 'for every input' (looked for: loops, veiled, ifaces, maps, wideKeys, modest, calm, conditions, laid).
  DERIVED. THE GIVEN ROWS OF THIS SEAT. 6 by the template 'for every input the law returns true; each argument reads behind the call as it read before'; 0 by the template 'total and deterministic' (their statements: YtcfokhkdphodoaaTotals.lean).
  GIVEN WITH THE SEED: the statements are not yours to turn. If you find one false, say at which input.
  Laid BY PROGRAM, IN A SANDBOX (cutbox-rows.mjs): the forced cells as the released guide's own fill.sh prints them over the translation ea2ac72ee6134e30… (all of the seat's roots in one cut). By AI agents, Wed Nov 11 2026. No macro, syntax, notation, axiom, sorry.
-/
import Derived.Test.YtcfokhkdphodoaaChecked
import GoSem.Claim
import GoSem.ClaimJoined
import GoSem.ClaimMapViews
import Derived.JoinedTies
import Derived.KernelRfl
namespace Go.Proofs.Ytcfokhkdphodoaa
/- THE CELL 'sum', in the pinned program and in every row, IS THE sha256 OF THE DUMP (.gsa) THAT YtcfokhkdphodoaaProg.lean LOADS. Nothing in Lean hashes anything: it is a label: what it is worth is what the hold of that sum in a sandbox is worth. -/
noncomputable def Try.pinned : Pinned := { name := "ytcfokhkdphodoaa", sum := "ea2ac72ee6134e30bb24bde082d638f7767594e23c14debdb69f813b56f0ab03", checked := Try.checked }
namespace Rows
def none {H : Type} : Left H := { results := [], args := [] }

/-- 'quadriviumlaw30.NetArrives': WHATEVER THE INPUT: true; the input reads as it did. -/
def netArrivesSpec : ChangeSpec := { name := "netArrives", fn := fun _ => fun
  | [d] => { results := [.lit (.bool true)], args := [d] }
  | _ => none }
def netArrivesRow : OpenClaim := { program := "ytcfokhkdphodoaa", sum := "ea2ac72ee6134e30bb24bde082d638f7767594e23c14debdb69f813b56f0ab03", func := "quadrivium/quadriviumlaw30.NetArrives", spec := "netArrives", unfollowed := true, recurses := true, plainKeys := false, apart := false }
def NetArrivesSaid : Prop := netArrivesRow.holds Try.pinned (OpenSpec.ofChange netArrivesSpec)

/-- ITS FALSE NEIGHBOUR: 'it returns false'. Refute it at one input. -/
def netArrivesWrong : ChangeSpec := { name := "netArrives", fn := fun _ => fun
  | [d] => { results := [.lit (.bool false)], args := [d] }
  | _ => none }
def NetArrivesWrongFalsely : Prop := netArrivesRow.holds Try.pinned (OpenSpec.ofChange netArrivesWrong)

/-- 'quadriviumlaw30.NetCuts': WHATEVER THE INPUT: true; the input reads as it did. -/
def netCutsSpec : ChangeSpec := { name := "netCuts", fn := fun _ => fun
  | [d1, d2] => { results := [.lit (.bool true)], args := [d1, d2] }
  | _ => none }
def netCutsRow : OpenClaim := { program := "ytcfokhkdphodoaa", sum := "ea2ac72ee6134e30bb24bde082d638f7767594e23c14debdb69f813b56f0ab03", func := "quadrivium/quadriviumlaw30.NetCuts", spec := "netCuts", unfollowed := true, recurses := true, plainKeys := false, apart := false }
def NetCutsSaid : Prop := netCutsRow.holds Try.pinned (OpenSpec.ofChange netCutsSpec)

/-- ITS FALSE NEIGHBOUR: 'it returns false'. Refute it at one input. -/
def netCutsWrong : ChangeSpec := { name := "netCuts", fn := fun _ => fun
  | [d1, d2] => { results := [.lit (.bool false)], args := [d1, d2] }
  | _ => none }
def NetCutsWrongFalsely : Prop := netCutsRow.holds Try.pinned (OpenSpec.ofChange netCutsWrong)

/-- 'quadriviumlaw30.NetFull': WHATEVER THE INPUT: true; the input reads as it did. -/
def netFullSpec : ChangeSpec := { name := "netFull", fn := fun _ => fun
  | [d] => { results := [.lit (.bool true)], args := [d] }
  | _ => none }
def netFullRow : OpenClaim := { program := "ytcfokhkdphodoaa", sum := "ea2ac72ee6134e30bb24bde082d638f7767594e23c14debdb69f813b56f0ab03", func := "quadrivium/quadriviumlaw30.NetFull", spec := "netFull", unfollowed := true, recurses := true, plainKeys := false, apart := false }
def NetFullSaid : Prop := netFullRow.holds Try.pinned (OpenSpec.ofChange netFullSpec)

/-- ITS FALSE NEIGHBOUR: 'it returns false'. Refute it at one input. -/
def netFullWrong : ChangeSpec := { name := "netFull", fn := fun _ => fun
  | [d] => { results := [.lit (.bool false)], args := [d] }
  | _ => none }
def NetFullWrongFalsely : Prop := netFullRow.holds Try.pinned (OpenSpec.ofChange netFullWrong)

/-- 'quadriviumlaw30.NetPlays': WHATEVER THE INPUT: true; the input reads as it did. -/
def netPlaysSpec : ChangeSpec := { name := "netPlays", fn := fun _ => fun
  | [d1, d2] => { results := [.lit (.bool true)], args := [d1, d2] }
  | _ => none }
def netPlaysRow : OpenClaim := { program := "ytcfokhkdphodoaa", sum := "ea2ac72ee6134e30bb24bde082d638f7767594e23c14debdb69f813b56f0ab03", func := "quadrivium/quadriviumlaw30.NetPlays", spec := "netPlays", unfollowed := true, recurses := true, plainKeys := false, apart := false }
def NetPlaysSaid : Prop := netPlaysRow.holds Try.pinned (OpenSpec.ofChange netPlaysSpec)

/-- ITS FALSE NEIGHBOUR: 'it returns false'. Refute it at one input. -/
def netPlaysWrong : ChangeSpec := { name := "netPlays", fn := fun _ => fun
  | [d1, d2] => { results := [.lit (.bool false)], args := [d1, d2] }
  | _ => none }
def NetPlaysWrongFalsely : Prop := netPlaysRow.holds Try.pinned (OpenSpec.ofChange netPlaysWrong)

/-- 'quadriviumlaw30.NetAgain': WHATEVER THE INPUT: true; the input reads as it did. -/
def netAgainSpec : ChangeSpec := { name := "netAgain", fn := fun _ => fun
  | [d1, d2] => { results := [.lit (.bool true)], args := [d1, d2] }
  | _ => none }
def netAgainRow : OpenClaim := { program := "ytcfokhkdphodoaa", sum := "ea2ac72ee6134e30bb24bde082d638f7767594e23c14debdb69f813b56f0ab03", func := "quadrivium/quadriviumlaw30.NetAgain", spec := "netAgain", unfollowed := true, recurses := true, plainKeys := false, apart := false }
def NetAgainSaid : Prop := netAgainRow.holds Try.pinned (OpenSpec.ofChange netAgainSpec)

/-- ITS FALSE NEIGHBOUR: 'it returns false'. Refute it at one input. -/
def netAgainWrong : ChangeSpec := { name := "netAgain", fn := fun _ => fun
  | [d1, d2] => { results := [.lit (.bool false)], args := [d1, d2] }
  | _ => none }
def NetAgainWrongFalsely : Prop := netAgainRow.holds Try.pinned (OpenSpec.ofChange netAgainWrong)

/-- 'quadriviumlaw30.NetNothing': WHATEVER THE INPUT: true; the input reads as it did. -/
def netNothingSpec : ChangeSpec := { name := "netNothing", fn := fun _ => fun
  | [d1, d2] => { results := [.lit (.bool true)], args := [d1, d2] }
  | _ => none }
def netNothingRow : OpenClaim := { program := "ytcfokhkdphodoaa", sum := "ea2ac72ee6134e30bb24bde082d638f7767594e23c14debdb69f813b56f0ab03", func := "quadrivium/quadriviumlaw30.NetNothing", spec := "netNothing", unfollowed := true, recurses := true, plainKeys := false, apart := false }
def NetNothingSaid : Prop := netNothingRow.holds Try.pinned (OpenSpec.ofChange netNothingSpec)

/-- ITS FALSE NEIGHBOUR: 'it returns false'. Refute it at one input. -/
def netNothingWrong : ChangeSpec := { name := "netNothing", fn := fun _ => fun
  | [d1, d2] => { results := [.lit (.bool false)], args := [d1, d2] }
  | _ => none }
def NetNothingWrongFalsely : Prop := netNothingRow.holds Try.pinned (OpenSpec.ofChange netNothingWrong)

/- THE SECOND FORM. 'bulk': how many values and letters a reading holds, each counted each time it is reached (what is shared counts as often as it is met; a slice's spare places count too). A statement '..UptoSaid' is the law's where the arguments, and the package variables that the reading takes, are together of bulk at most 1048576: NARROWER than '..Said'. Prove '..Said' where nothing that the law and all that it calls make is longer than what came in: it says more and counts as full. Else prove '..UptoSaid'. A law counts once. -/
mutual
def uptoBulk {H : Type} : DataW H → Nat
  | .lit (.string bytes) => bytes.length + 1
  | .lit _ => 1
  | .nil => 1
  | .ptr d => uptoBulk d + 1
  | .slice elems spare => uptoBulkAll elems + uptoBulkAll spare + 1
  | .agg parts => uptoBulkAll parts + 1
  | .iface _ d => uptoBulk d + 1
  | .map entries => uptoBulkEntries entries + 1
  | .held _ => 1
def uptoBulkAll {H : Type} : List (DataW H) → Nat
  | [] => 0
  | d :: r => uptoBulk d + uptoBulkAll r
def uptoBulkEntries {H : Type} : List (Lit × DataW H) → Nat
  | [] => 0
  | x :: r => uptoBulkEntry x + uptoBulkEntries r
def uptoBulkEntry {H : Type} : Lit × DataW H → Nat
  | (.string bytes, d) => bytes.length + uptoBulk d + 1
  | (_, d) => uptoBulk d + 1
 end
def uptoSmall : (H : Type) → List (DataW H) → Bool := fun _ ds => decide (uptoBulkAll ds ≤ 1048576)
def OpenSpec.upto (s : _root_.Go.ChangeSpec) : _root_.Go.OpenSpec := { _root_.Go.OpenSpec.ofChange s with cond := some uptoSmall }

/-- 'quadriviumlaw30.NetArrives', WHERE WHAT IT READS IS OF BULK AT MOST 1048576: true; the input reads as it did. -/
def netArrivesUptoRow : OpenClaim := { program := "ytcfokhkdphodoaa", sum := "ea2ac72ee6134e30bb24bde082d638f7767594e23c14debdb69f813b56f0ab03", func := "quadrivium/quadriviumlaw30.NetArrives", spec := "netArrives", unfollowed := true, recurses := true, plainKeys := false, apart := false, narrowed := true }
def NetArrivesUptoSaid : Prop := netArrivesUptoRow.holds Try.pinned (OpenSpec.upto netArrivesSpec)

/-- 'quadriviumlaw30.NetCuts', WHERE WHAT IT READS IS OF BULK AT MOST 1048576: true; the input reads as it did. -/
def netCutsUptoRow : OpenClaim := { program := "ytcfokhkdphodoaa", sum := "ea2ac72ee6134e30bb24bde082d638f7767594e23c14debdb69f813b56f0ab03", func := "quadrivium/quadriviumlaw30.NetCuts", spec := "netCuts", unfollowed := true, recurses := true, plainKeys := false, apart := false, narrowed := true }
def NetCutsUptoSaid : Prop := netCutsUptoRow.holds Try.pinned (OpenSpec.upto netCutsSpec)

/-- 'quadriviumlaw30.NetFull', WHERE WHAT IT READS IS OF BULK AT MOST 1048576: true; the input reads as it did. -/
def netFullUptoRow : OpenClaim := { program := "ytcfokhkdphodoaa", sum := "ea2ac72ee6134e30bb24bde082d638f7767594e23c14debdb69f813b56f0ab03", func := "quadrivium/quadriviumlaw30.NetFull", spec := "netFull", unfollowed := true, recurses := true, plainKeys := false, apart := false, narrowed := true }
def NetFullUptoSaid : Prop := netFullUptoRow.holds Try.pinned (OpenSpec.upto netFullSpec)

/-- 'quadriviumlaw30.NetPlays', WHERE WHAT IT READS IS OF BULK AT MOST 1048576: true; the input reads as it did. -/
def netPlaysUptoRow : OpenClaim := { program := "ytcfokhkdphodoaa", sum := "ea2ac72ee6134e30bb24bde082d638f7767594e23c14debdb69f813b56f0ab03", func := "quadrivium/quadriviumlaw30.NetPlays", spec := "netPlays", unfollowed := true, recurses := true, plainKeys := false, apart := false, narrowed := true }
def NetPlaysUptoSaid : Prop := netPlaysUptoRow.holds Try.pinned (OpenSpec.upto netPlaysSpec)

/-- 'quadriviumlaw30.NetAgain', WHERE WHAT IT READS IS OF BULK AT MOST 1048576: true; the input reads as it did. -/
def netAgainUptoRow : OpenClaim := { program := "ytcfokhkdphodoaa", sum := "ea2ac72ee6134e30bb24bde082d638f7767594e23c14debdb69f813b56f0ab03", func := "quadrivium/quadriviumlaw30.NetAgain", spec := "netAgain", unfollowed := true, recurses := true, plainKeys := false, apart := false, narrowed := true }
def NetAgainUptoSaid : Prop := netAgainUptoRow.holds Try.pinned (OpenSpec.upto netAgainSpec)

/-- 'quadriviumlaw30.NetNothing', WHERE WHAT IT READS IS OF BULK AT MOST 1048576: true; the input reads as it did. -/
def netNothingUptoRow : OpenClaim := { program := "ytcfokhkdphodoaa", sum := "ea2ac72ee6134e30bb24bde082d638f7767594e23c14debdb69f813b56f0ab03", func := "quadrivium/quadriviumlaw30.NetNothing", spec := "netNothing", unfollowed := true, recurses := true, plainKeys := false, apart := false, narrowed := true }
def NetNothingUptoSaid : Prop := netNothingUptoRow.holds Try.pinned (OpenSpec.upto netNothingSpec)

end Rows
end Go.Proofs.Ytcfokhkdphodoaa
