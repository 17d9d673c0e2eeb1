/- What a slice of ops that came in holds. -/
import Derived.Test.YtcpnlcgpgljlbaaO
import Derived.Test.YtcpnlcgpgljlbaaK
namespace Go.Proofs.Ytcpnlcgpgljlbaa
open Go.ChangeShapes Go.WideShapes Go.ChangeAt Go.RowKit

def OpIn (o : Bool × Int × Int × Int × Int) : Prop := I64 o.2.1 ∧ I64 o.2.2.1 ∧ I64 o.2.2.2.1 ∧ I64 o.2.2.2.2
theorem ops_fit {w : World} {n : Nat} {cs : List Value} (h : FitT Try.prog w n 32 cs) :
    ∃ A len cap o, cs = [.slice A len cap] ∧ len ≤ maxLen ∧ Ops w w.heap.size A len o ∧ ∀ i, i < len → OpIn (o i) := by
  obtain ⟨A, len, cap, m, rfl, h1, h2, h3, h4, h5⟩ := fit_slice Try.underlying32 h
  rw [cells41] at h4 h5
  have one : ∀ i, ∃ o : Bool × Int × Int × Int × Int, i < len → OpIn o ∧ ∀ a, A = some a → w.cell? ⟨a.block, a.off + i * 5, none⟩ = some (.bool o.1) ∧ w.cell? ⟨a.block, a.off + i * 5 + 1, none⟩ = some (.int .i64 o.2.1) ∧
      w.cell? ⟨a.block, a.off + i * 5 + 2, none⟩ = some (.int .i64 o.2.2.1) ∧ w.cell? ⟨a.block, a.off + i * 5 + 3, none⟩ = some (.int .i64 o.2.2.2.1) ∧ w.cell? ⟨a.block, a.off + i * 5 + 4, none⟩ = some (.int .i64 o.2.2.2.2) := by
    intro i
    by_cases hi : i < len
    · obtain ⟨cs', hl, hf, hc⟩ := h5 i hi
      obtain ⟨o, d, a, b, c, rfl, w1, w2, w3, w4⟩ := op_fit hf
      refine ⟨(o, d, a, b, c), fun _ => ⟨⟨w1, w2, w3, w4⟩, fun ad ha => ?_⟩⟩
      have := hc ad ha
      exact ⟨this 0 (by omega), this 1 (by omega), this 2 (by omega), this 3 (by omega), this 4 (by omega)⟩
    · exact ⟨(false, 0, 0, 0, 0), fun hh => absurd hh hi⟩
  obtain ⟨o, ho⟩ := Classical.axiomOfChoice one
  refine ⟨A, len, cap, o, rfl, Nat.le_trans h1 h2, fun i hi => ?_, fun i hi => (ho i hi).1⟩
  obtain ⟨b, off, rfl, hb⟩ := h4 ⟨by omega, by omega⟩
  exact ⟨b, off, rfl, hb, (ho i hi).2 _ rfl⟩
end Go.Proofs.Ytcpnlcgpgljlbaa
