/-
  No cell of these rows narrows 'for every input' (looked for: loops, veiled, ifaces, maps, wideKeys, modest, calm, conditions, laid).
  DERIVED. THE GIVEN ROWS OF THIS SEAT. 6 by the template 'for every input the law returns true; each argument reads behind the call as it read before'; 0 by the template 'total and deterministic' (their statements: YtjnohedknlibmaaTotals.lean).
  GIVEN WITH THE SEED: the statements are not yours to turn. If you find one false, say at which input.
  Laid BY PROGRAM, IN A SANDBOX (cutbox-rows.mjs): the forced cells as the released guide's own fill.sh prints them over the translation 8f61d83e5db2ac23… (all of the seat's roots in one cut). By AI agents, Wed Nov 11 2026. No macro, syntax, notation, axiom, sorry.
-/
import Derived.Test.YtjnohedknlibmaaChecked
import GoSem.Claim
import GoSem.ClaimJoined
import GoSem.ClaimMapViews
import Derived.JoinedTies
import Derived.KernelRfl
namespace Go.Proofs.Ytjnohedknlibmaa
/- THE CELL 'sum', in the pinned program and in every row, IS THE sha256 OF THE DUMP (.gsa) THAT YtjnohedknlibmaaProg.lean LOADS. Nothing in Lean hashes anything: it is a label: what it is worth is what the hold of that sum in a sandbox is worth. -/
noncomputable def Try.pinned : Pinned := { name := "ytjnohedknlibmaa", sum := "8f61d83e5db2ac234bd90f902c88f065408a58cf9f1ec952fa049eaf6c07d953", checked := Try.checked }
namespace Rows
def none {H : Type} : Left H := { results := [], args := [] }

/-- 'quadriviumlaw11.ForceOne': WHATEVER THE INPUT: true; the input reads as it did. -/
def forceOneSpec : ChangeSpec := { name := "forceOne", fn := fun _ => fun
  | [d1, d2, d3] => { results := [.lit (.bool true)], args := [d1, d2, d3] }
  | _ => none }
def forceOneRow : OpenClaim := { program := "ytjnohedknlibmaa", sum := "8f61d83e5db2ac234bd90f902c88f065408a58cf9f1ec952fa049eaf6c07d953", func := "quadrivium/quadriviumlaw11.ForceOne", spec := "forceOne", unfollowed := true, recurses := true, apart := false }
def ForceOneSaid : Prop := forceOneRow.holds Try.pinned (OpenSpec.ofChange forceOneSpec)

/-- ITS FALSE NEIGHBOUR: 'it returns false'. Refute it at one input. -/
def forceOneWrong : ChangeSpec := { name := "forceOne", fn := fun _ => fun
  | [d1, d2, d3] => { results := [.lit (.bool false)], args := [d1, d2, d3] }
  | _ => none }
def ForceOneWrongFalsely : Prop := forceOneRow.holds Try.pinned (OpenSpec.ofChange forceOneWrong)

/-- 'quadriviumlaw11.ForceLifts': WHATEVER THE INPUT: true; the input reads as it did. -/
def forceLiftsSpec : ChangeSpec := { name := "forceLifts", fn := fun _ => fun
  | [d1, d2, d3] => { results := [.lit (.bool true)], args := [d1, d2, d3] }
  | _ => none }
def forceLiftsRow : OpenClaim := { program := "ytjnohedknlibmaa", sum := "8f61d83e5db2ac234bd90f902c88f065408a58cf9f1ec952fa049eaf6c07d953", func := "quadrivium/quadriviumlaw11.ForceLifts", spec := "forceLifts", unfollowed := true, recurses := true, apart := false }
def ForceLiftsSaid : Prop := forceLiftsRow.holds Try.pinned (OpenSpec.ofChange forceLiftsSpec)

/-- ITS FALSE NEIGHBOUR: 'it returns false'. Refute it at one input. -/
def forceLiftsWrong : ChangeSpec := { name := "forceLifts", fn := fun _ => fun
  | [d1, d2, d3] => { results := [.lit (.bool false)], args := [d1, d2, d3] }
  | _ => none }
def ForceLiftsWrongFalsely : Prop := forceLiftsRow.holds Try.pinned (OpenSpec.ofChange forceLiftsWrong)

/-- 'quadriviumlaw11.ForceRefuses': WHATEVER THE INPUT: true; the input reads as it did. -/
def forceRefusesSpec : ChangeSpec := { name := "forceRefuses", fn := fun _ => fun
  | [d1, d2, d3] => { results := [.lit (.bool true)], args := [d1, d2, d3] }
  | _ => none }
def forceRefusesRow : OpenClaim := { program := "ytjnohedknlibmaa", sum := "8f61d83e5db2ac234bd90f902c88f065408a58cf9f1ec952fa049eaf6c07d953", func := "quadrivium/quadriviumlaw11.ForceRefuses", spec := "forceRefuses", unfollowed := true, recurses := true, apart := false }
def ForceRefusesSaid : Prop := forceRefusesRow.holds Try.pinned (OpenSpec.ofChange forceRefusesSpec)

/-- ITS FALSE NEIGHBOUR: 'it returns false'. Refute it at one input. -/
def forceRefusesWrong : ChangeSpec := { name := "forceRefuses", fn := fun _ => fun
  | [d1, d2, d3] => { results := [.lit (.bool false)], args := [d1, d2, d3] }
  | _ => none }
def ForceRefusesWrongFalsely : Prop := forceRefusesRow.holds Try.pinned (OpenSpec.ofChange forceRefusesWrong)

/-- 'quadriviumlaw11.ForceAwards': WHATEVER THE INPUT: true; the input reads as it did. -/
def forceAwardsSpec : ChangeSpec := { name := "forceAwards", fn := fun _ => fun
  | [d1, d2] => { results := [.lit (.bool true)], args := [d1, d2] }
  | _ => none }
def forceAwardsRow : OpenClaim := { program := "ytjnohedknlibmaa", sum := "8f61d83e5db2ac234bd90f902c88f065408a58cf9f1ec952fa049eaf6c07d953", func := "quadrivium/quadriviumlaw11.ForceAwards", spec := "forceAwards", unfollowed := true, recurses := true, apart := false }
def ForceAwardsSaid : Prop := forceAwardsRow.holds Try.pinned (OpenSpec.ofChange forceAwardsSpec)

/-- ITS FALSE NEIGHBOUR: 'it returns false'. Refute it at one input. -/
def forceAwardsWrong : ChangeSpec := { name := "forceAwards", fn := fun _ => fun
  | [d1, d2] => { results := [.lit (.bool false)], args := [d1, d2] }
  | _ => none }
def ForceAwardsWrongFalsely : Prop := forceAwardsRow.holds Try.pinned (OpenSpec.ofChange forceAwardsWrong)

/-- 'quadriviumlaw11.ForceSame': WHATEVER THE INPUT: true; the input reads as it did. -/
def forceSameSpec : ChangeSpec := { name := "forceSame", fn := fun _ => fun
  | [d1, d2, d3] => { results := [.lit (.bool true)], args := [d1, d2, d3] }
  | _ => none }
def forceSameRow : OpenClaim := { program := "ytjnohedknlibmaa", sum := "8f61d83e5db2ac234bd90f902c88f065408a58cf9f1ec952fa049eaf6c07d953", func := "quadrivium/quadriviumlaw11.ForceSame", spec := "forceSame", unfollowed := true, recurses := true, apart := false }
def ForceSameSaid : Prop := forceSameRow.holds Try.pinned (OpenSpec.ofChange forceSameSpec)

/-- ITS FALSE NEIGHBOUR: 'it returns false'. Refute it at one input. -/
def forceSameWrong : ChangeSpec := { name := "forceSame", fn := fun _ => fun
  | [d1, d2, d3] => { results := [.lit (.bool false)], args := [d1, d2, d3] }
  | _ => none }
def ForceSameWrongFalsely : Prop := forceSameRow.holds Try.pinned (OpenSpec.ofChange forceSameWrong)

/-- 'quadriviumlaw11.ForceKnown': WHATEVER THE INPUT: true; the input reads as it did. -/
def forceKnownSpec : ChangeSpec := { name := "forceKnown", fn := fun _ => fun
  | [d1, d2] => { results := [.lit (.bool true)], args := [d1, d2] }
  | _ => none }
def forceKnownRow : OpenClaim := { program := "ytjnohedknlibmaa", sum := "8f61d83e5db2ac234bd90f902c88f065408a58cf9f1ec952fa049eaf6c07d953", func := "quadrivium/quadriviumlaw11.ForceKnown", spec := "forceKnown", unfollowed := true, recurses := true, apart := false }
def ForceKnownSaid : Prop := forceKnownRow.holds Try.pinned (OpenSpec.ofChange forceKnownSpec)

/-- ITS FALSE NEIGHBOUR: 'it returns false'. Refute it at one input. -/
def forceKnownWrong : ChangeSpec := { name := "forceKnown", fn := fun _ => fun
  | [d1, d2] => { results := [.lit (.bool false)], args := [d1, d2] }
  | _ => none }
def ForceKnownWrongFalsely : Prop := forceKnownRow.holds Try.pinned (OpenSpec.ofChange forceKnownWrong)

/- THE SECOND FORM. 'bulk': how many values and letters a reading holds, each counted each time it is reached (what is shared counts as often as it is met; a slice's spare places count too). A statement '..UptoSaid' is the law's where the arguments, and the package variables that the reading takes, are together of bulk at most 1048576: NARROWER than '..Said'. Prove '..Said' where nothing that the law and all that it calls make is longer than what came in: it says more and counts as full. Else prove '..UptoSaid'. A law counts once. -/
mutual
def uptoBulk {H : Type} : DataW H → Nat
  | .lit (.string bytes) => bytes.length + 1
  | .lit _ => 1
  | .nil => 1
  | .ptr d => uptoBulk d + 1
  | .slice elems spare => uptoBulkAll elems + uptoBulkAll spare + 1
  | .agg parts => uptoBulkAll parts + 1
  | .iface _ d => uptoBulk d + 1
  | .map entries => uptoBulkEntries entries + 1
  | .held _ => 1
def uptoBulkAll {H : Type} : List (DataW H) → Nat
  | [] => 0
  | d :: r => uptoBulk d + uptoBulkAll r
def uptoBulkEntries {H : Type} : List (Lit × DataW H) → Nat
  | [] => 0
  | x :: r => uptoBulkEntry x + uptoBulkEntries r
def uptoBulkEntry {H : Type} : Lit × DataW H → Nat
  | (.string bytes, d) => bytes.length + uptoBulk d + 1
  | (_, d) => uptoBulk d + 1
 end
def uptoSmall : (H : Type) → List (DataW H) → Bool := fun _ ds => decide (uptoBulkAll ds ≤ 1048576)
def OpenSpec.upto (s : _root_.Go.ChangeSpec) : _root_.Go.OpenSpec := { _root_.Go.OpenSpec.ofChange s with cond := some uptoSmall }

/-- 'quadriviumlaw11.ForceOne', WHERE WHAT IT READS IS OF BULK AT MOST 1048576: true; the input reads as it did. -/
def forceOneUptoRow : OpenClaim := { program := "ytjnohedknlibmaa", sum := "8f61d83e5db2ac234bd90f902c88f065408a58cf9f1ec952fa049eaf6c07d953", func := "quadrivium/quadriviumlaw11.ForceOne", spec := "forceOne", unfollowed := true, recurses := true, apart := false, narrowed := true }
def ForceOneUptoSaid : Prop := forceOneUptoRow.holds Try.pinned (OpenSpec.upto forceOneSpec)

/-- 'quadriviumlaw11.ForceLifts', WHERE WHAT IT READS IS OF BULK AT MOST 1048576: true; the input reads as it did. -/
def forceLiftsUptoRow : OpenClaim := { program := "ytjnohedknlibmaa", sum := "8f61d83e5db2ac234bd90f902c88f065408a58cf9f1ec952fa049eaf6c07d953", func := "quadrivium/quadriviumlaw11.ForceLifts", spec := "forceLifts", unfollowed := true, recurses := true, apart := false, narrowed := true }
def ForceLiftsUptoSaid : Prop := forceLiftsUptoRow.holds Try.pinned (OpenSpec.upto forceLiftsSpec)

/-- 'quadriviumlaw11.ForceRefuses', WHERE WHAT IT READS IS OF BULK AT MOST 1048576: true; the input reads as it did. -/
def forceRefusesUptoRow : OpenClaim := { program := "ytjnohedknlibmaa", sum := "8f61d83e5db2ac234bd90f902c88f065408a58cf9f1ec952fa049eaf6c07d953", func := "quadrivium/quadriviumlaw11.ForceRefuses", spec := "forceRefuses", unfollowed := true, recurses := true, apart := false, narrowed := true }
def ForceRefusesUptoSaid : Prop := forceRefusesUptoRow.holds Try.pinned (OpenSpec.upto forceRefusesSpec)

/-- 'quadriviumlaw11.ForceAwards', WHERE WHAT IT READS IS OF BULK AT MOST 1048576: true; the input reads as it did. -/
def forceAwardsUptoRow : OpenClaim := { program := "ytjnohedknlibmaa", sum := "8f61d83e5db2ac234bd90f902c88f065408a58cf9f1ec952fa049eaf6c07d953", func := "quadrivium/quadriviumlaw11.ForceAwards", spec := "forceAwards", unfollowed := true, recurses := true, apart := false, narrowed := true }
def ForceAwardsUptoSaid : Prop := forceAwardsUptoRow.holds Try.pinned (OpenSpec.upto forceAwardsSpec)

/-- 'quadriviumlaw11.ForceSame', WHERE WHAT IT READS IS OF BULK AT MOST 1048576: true; the input reads as it did. -/
def forceSameUptoRow : OpenClaim := { program := "ytjnohedknlibmaa", sum := "8f61d83e5db2ac234bd90f902c88f065408a58cf9f1ec952fa049eaf6c07d953", func := "quadrivium/quadriviumlaw11.ForceSame", spec := "forceSame", unfollowed := true, recurses := true, apart := false, narrowed := true }
def ForceSameUptoSaid : Prop := forceSameUptoRow.holds Try.pinned (OpenSpec.upto forceSameSpec)

/-- 'quadriviumlaw11.ForceKnown', WHERE WHAT IT READS IS OF BULK AT MOST 1048576: true; the input reads as it did. -/
def forceKnownUptoRow : OpenClaim := { program := "ytjnohedknlibmaa", sum := "8f61d83e5db2ac234bd90f902c88f065408a58cf9f1ec952fa049eaf6c07d953", func := "quadrivium/quadriviumlaw11.ForceKnown", spec := "forceKnown", unfollowed := true, recurses := true, apart := false, narrowed := true }
def ForceKnownUptoSaid : Prop := forceKnownUptoRow.holds Try.pinned (OpenSpec.upto forceKnownSpec)

end Rows
end Go.Proofs.Ytjnohedknlibmaa
