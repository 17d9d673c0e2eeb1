/- What a slice of steps that came in holds. -/
import Derived.Test.YtcpnlcgpgljlbaaL
import Derived.Test.YtcpnlcgpgljlbaaV
namespace Go.Proofs.Ytcpnlcgpgljlbaa
open Go.ChangeShapes Go.WideShapes Go.ChangeAt Go.RowKit

theorem cells4s : Try.prog.cellsOf 4 = 1 := by kernel_rfl
theorem cells5 : Try.prog.cellsOf 5 = 1 := by kernel_rfl
theorem cells54 : Try.prog.cellsOf 54 = 3 := by kernel_rfl
theorem step_fit {w : World} {n : Nat} {cs : List Value} (h : FitT Try.prog w n 54 cs) :
    ∃ (o : Bool) (d : Int) (t : Bool), cs = [.bool o, .int .u8 d, .bool t] ∧ 0 ≤ d ∧ d ≤ 255 := by
  obtain ⟨hl, m, hf⟩ := fit_struct Try.underlying54 h
  rw [cells54] at hl
  have f0 : FitT Try.prog w m 4 ((cs.drop 0).take (Try.prog.cellsOf 4)) := hf 0 _ rfl
  have f1 : FitT Try.prog w m 5 ((cs.drop 1).take (Try.prog.cellsOf 5)) := hf 1 _ rfl
  have f2 : FitT Try.prog w m 4 ((cs.drop 2).take (Try.prog.cellsOf 4)) := hf 2 _ rfl
  rw [cells4s] at f0 f2
  rw [cells5] at f1
  obtain ⟨o, eo⟩ := fit_bool Try.underlying4 f0
  obtain ⟨d, ed, wd⟩ := fit_int Try.underlying5 f1
  obtain ⟨t, et⟩ := fit_bool Try.underlying4 f2
  match cs, hl with
  | [x0, x1, x2], _ =>
    simp at eo ed et
    subst eo ed et
    exact ⟨o, d, t, rfl, bounds_u8 wd⟩
theorem steps_fit {w : World} {n : Nat} {cs : List Value} (h : FitT Try.prog w n 50 cs) :
    ∃ A len cap o, cs = [.slice A len cap] ∧ len ≤ maxLen ∧ Stps w w.heap.size A len o := by
  obtain ⟨A, len, cap, m, rfl, h1, h2, h3, h4, h5⟩ := fit_slice Try.underlying50 h
  rw [cells54] at h4 h5
  have one : ∀ i, ∃ o : Bool × Int × Bool, i < len → (0 ≤ o.2.1 ∧ o.2.1 ≤ 255) ∧ ∀ a, A = some a → w.cell? ⟨a.block, a.off + i * 3, none⟩ = some (.bool o.1) ∧ w.cell? ⟨a.block, a.off + i * 3 + 1, none⟩ = some (.int .u8 o.2.1) ∧
      w.cell? ⟨a.block, a.off + i * 3 + 2, none⟩ = some (.bool o.2.2) := by
    intro i
    by_cases hi : i < len
    · obtain ⟨cs', hl, hf, hc⟩ := h5 i hi
      obtain ⟨o, d, t, rfl, w1, w2⟩ := step_fit hf
      refine ⟨(o, d, t), fun _ => ⟨⟨w1, w2⟩, fun ad ha => ?_⟩⟩
      have := hc ad ha
      exact ⟨this 0 (by omega), this 1 (by omega), this 2 (by omega)⟩
    · exact ⟨(false, 0, false), fun hh => absurd hh hi⟩
  obtain ⟨o, ho⟩ := Classical.axiomOfChoice one
  refine ⟨A, len, cap, o, rfl, Nat.le_trans h1 h2, fun i hi => ?_⟩
  obtain ⟨b, off, rfl, hb⟩ := h4 ⟨by omega, by omega⟩
  obtain ⟨q0, q1, q2⟩ := (ho i hi).2 _ rfl
  exact ⟨b, off, rfl, hb, q0, q1, q2, (ho i hi).1.1, (ho i hi).1.2⟩
end Go.Proofs.Ytcpnlcgpgljlbaa
