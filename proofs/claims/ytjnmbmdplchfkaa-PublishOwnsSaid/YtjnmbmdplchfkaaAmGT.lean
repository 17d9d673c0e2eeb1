/- The owned machine, part GT: the package-level variables that the statements' rows list, with what they hold (none, unless the seat has a text of its own in place of this one). -/
import Derived.WalkKit
set_option linter.all false
namespace Go.Proofs.Ytjnmbmdplchfkaa.Am
/-- The number of a variable's block, and its cells. -/
def globTab : List (Nat × List Value) := []
end Go.Proofs.Ytjnmbmdplchfkaa.Am
