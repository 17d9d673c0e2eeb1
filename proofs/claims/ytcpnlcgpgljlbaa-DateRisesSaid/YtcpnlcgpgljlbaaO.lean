/- What the cells of an op of the law are: a bool and four ints. -/
import Derived.Test.YtcpnlcgpgljlbaaL
namespace Go.Proofs.Ytcpnlcgpgljlbaa
open Go.ChangeShapes Go.WideShapes Go.ChangeAt Go.RowKit

theorem cells3 : Try.prog.cellsOf 3 = 1 := by kernel_rfl
theorem cells4 : Try.prog.cellsOf 4 = 1 := by kernel_rfl
theorem cells39 : Try.prog.cellsOf 39 = 3 := by kernel_rfl
theorem cells41 : Try.prog.cellsOf 41 = 5 := by kernel_rfl

theorem stamp_fit {w : World} {n : Nat} {cs : List Value} (h : FitT Try.prog w n 39 cs) :
    ∃ a b c : Int, cs = [.int .i64 a, .int .i64 b, .int .i64 c] ∧ (-9223372036854775808 ≤ a ∧ a ≤ 9223372036854775807) ∧ (-9223372036854775808 ≤ b ∧ b ≤ 9223372036854775807) ∧ (-9223372036854775808 ≤ c ∧ c ≤ 9223372036854775807) := by
  obtain ⟨hl, m, hf⟩ := fit_struct Try.underlying39 h
  rw [cells39] at hl
  have f0 : FitT Try.prog w m 3 ((cs.drop 0).take (Try.prog.cellsOf 3)) := hf 0 _ rfl
  have f1 : FitT Try.prog w m 3 ((cs.drop 1).take (Try.prog.cellsOf 3)) := hf 1 _ rfl
  have f2 : FitT Try.prog w m 3 ((cs.drop 2).take (Try.prog.cellsOf 3)) := hf 2 _ rfl
  rw [cells3] at f0 f1 f2
  obtain ⟨a, ea, wa⟩ := fit_int Try.underlying3 f0
  obtain ⟨b, eb, wb⟩ := fit_int Try.underlying3 f1
  obtain ⟨c, ec, wc⟩ := fit_int Try.underlying3 f2
  match cs, hl with
  | [x0, x1, x2], _ =>
    simp at ea eb ec
    subst ea eb ec
    exact ⟨a, b, c, rfl, bounds_i64 wa, bounds_i64 wb, bounds_i64 wc⟩

theorem op_fit {w : World} {n : Nat} {cs : List Value} (h : FitT Try.prog w n 41 cs) :
    ∃ (o : Bool) (d a b c : Int), cs = [.bool o, .int .i64 d, .int .i64 a, .int .i64 b, .int .i64 c] ∧ (-9223372036854775808 ≤ d ∧ d ≤ 9223372036854775807) ∧ (-9223372036854775808 ≤ a ∧ a ≤ 9223372036854775807) ∧ (-9223372036854775808 ≤ b ∧ b ≤ 9223372036854775807) ∧ (-9223372036854775808 ≤ c ∧ c ≤ 9223372036854775807) := by
  obtain ⟨hl, m, hf⟩ := fit_struct Try.underlying41 h
  rw [cells41] at hl
  have f0 : FitT Try.prog w m 4 ((cs.drop 0).take (Try.prog.cellsOf 4)) := hf 0 _ rfl
  have f1 : FitT Try.prog w m 3 ((cs.drop 1).take (Try.prog.cellsOf 3)) := hf 1 _ rfl
  have f2 : FitT Try.prog w m 39 ((cs.drop 2).take (Try.prog.cellsOf 39)) := hf 2 _ rfl
  rw [cells4] at f0
  rw [cells3] at f1
  rw [cells39] at f2
  obtain ⟨o, eo⟩ := fit_bool Try.underlying4 f0
  obtain ⟨d, ed, wd⟩ := fit_int Try.underlying3 f1
  obtain ⟨a, b, c, es, wa, wb, wc⟩ := stamp_fit f2
  match cs, hl with
  | [x0, x1, x2, x3, x4], _ =>
    simp at eo ed es
    obtain ⟨e2, e3, e4⟩ := es
    subst eo ed e2 e3 e4
    exact ⟨o, d, a, b, c, rfl, bounds_i64 wd, wa, wb, wc⟩
end Go.Proofs.Ytcpnlcgpgljlbaa
