/- The owned machine, part MI: rows lent to a call that makes a row of its own. -/
import Derived.Test.YtjnmbmdplchfkaaAmMH
set_option linter.all false
namespace Go.Proofs.Ytjnmbmdplchfkaa.Am
variable [Lo]
set_option linter.unusedVariables false
end Go.Proofs.Ytjnmbmdplchfkaa.Am
