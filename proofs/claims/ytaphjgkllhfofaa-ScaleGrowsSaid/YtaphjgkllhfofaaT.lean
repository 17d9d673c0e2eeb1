/- Ytaphjgkllhfofaa: YtaphjgkllhfofaaT. -/
import Derived.Test.YtaphjgkllhfofaaR
import Derived.Test.YtaphjgkllhfofaaAmMH
namespace Go.Proofs.Ytaphjgkllhfofaa
open Go.Proofs.Ytaphjgkllhfofaa.Am
theorem sanity_f : AFun Try.prog 9 0 [] [] (.sc (.bool true)) [] := AFun.of_ev T_ok mixed 60 (by kernel_rfl)
end Go.Proofs.Ytaphjgkllhfofaa
