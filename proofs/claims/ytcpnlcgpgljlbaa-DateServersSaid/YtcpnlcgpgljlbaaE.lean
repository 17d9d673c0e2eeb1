/- Contracts of the law's own small functions: an op with small numbers; whether a stamp has given parts. -/
import Derived.Test.YtcpnlcgpgljlbaaC
namespace Go.Proofs.Ytcpnlcgpgljlbaa
open Go.RowKit
set_option linter.unusedVariables false

theorem is_any (d c s e x y z : Int) (w : World) :
    Calls Try.prog 34 #[.agg #[.int .i64 d, .int .i64 c, .int .i64 s], .int .i64 e, .int .i64 x, .int .i64 y, .int .i64 z] w fun r w' =>
      r = .returned (.bool (decide (e = 0 ∧ d = x ∧ c = y ∧ s = z))) ∧ Below w.heap.size w w' := by
  go_enter Try.func34, Try.ntmps34
  go_wp2
  all_goals (go_ret; exact ⟨ret_bool (by simp_all), by go_grown⟩)

theorem small_any (h : Bool) (n d c s : Int) (w : World) :
    Calls Try.prog 27 #[.agg #[.bool h, .int .i64 n, .int .i64 d, .int .i64 c, .int .i64 s]] w fun r w' =>
      r = .returned (.agg #[.bool h, .int .i64 (n.tmod 40), .int .i64 (d.tmod 40), .int .i64 (c.tmod 9), .int .i64 (s.tmod 9)]) ∧ Below w.heap.size w w' := by
  go_enter Try.func27, Try.ntmps27
  go_wp2
  go_returns
  exact ⟨rfl, by go_grown⟩
end Go.Proofs.Ytcpnlcgpgljlbaa
