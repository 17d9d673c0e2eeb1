/- Contracts of the clocks of date and of its reference: what each call returns, and what becomes of the clock. -/
import Derived.Test.YtcpnlcgpgljlbaaA
import Derived.Test.YtcpnlcgpgljlbaaW
import Derived.Deep.RegionHeld3
import Derived.BigQuiet
import Derived.BigRegion
import Derived.Deep.RegionWith
import Derived.Handy
import Derived.Deep.DeepCutAuto
namespace Go.Proofs.Ytcpnlcgpgljlbaa
open Go.RowKit

def lessB (d c s d' c' s' : Int) : Bool := decide (d < d' ∨ (d = d' ∧ (c < c' ∨ (c = c' ∧ s < s'))))

theorem less_ref (d c s d' c' s' : Int) (w : World) :
    Calls Try.prog 33 #[.agg #[.int .i64 d, .int .i64 c, .int .i64 s], .agg #[.int .i64 d', .int .i64 c', .int .i64 s']] w fun e w' =>
      e = .returned (.bool (lessB d c s d' c' s')) ∧ Below w.heap.size w w' := by
  go_enter Try.func33, Try.ntmps33
  go_wp2
  all_goals (go_ret; exact ⟨ret_bool (by first | (simp_all [lessB]; done) | (simp_all [lessB]; omega)), ((Below.refl _ _).alloc (Nat.le_refl _) _).alloc (by simp) _⟩)

theorem parts_any (d c s : Int) (w : World) :
    Calls Try.prog 38 #[.agg #[.int .i64 d, .int .i64 c, .int .i64 s]] w fun e w' =>
      e = .returned (.agg #[.int .i64 d, .int .i64 c, .int .i64 s]) ∧ (w.alloc (.cells #[.int .i64 d, .int .i64 c, .int .i64 s] 39)).alloc (.cells #[.int .i64 d, .int .i64 c, .int .i64 s] 65) = w' := by
  go_enter Try.func38, Try.ntmps38
  go_wp2
  go_returns
  exact ⟨rfl, rfl⟩


set_option maxHeartbeats 1000000 in
theorem less_any (d c s d' c' s' : Int) (w : World) :
    Calls Try.prog 32 #[.agg #[.int .i64 d, .int .i64 c, .int .i64 s], .agg #[.int .i64 d', .int .i64 c', .int .i64 s']] w fun e w' =>
      e = .returned (.bool (lessB d c s d' c' s')) ∧ Below w.heap.size w w' := by
  go_enter Try.func32, Try.ntmps32
  go_upto_region 1 with (fail)
  go_cut [5, 6] (fun p q wc => ∃ b b' : Nat, p = .pointer (some ⟨b, 0, none⟩) ∧ q = .pointer (some ⟨b', 0, none⟩) ∧ Blk wc b 65 #[.int .i64 d, .int .i64 c, .int .i64 s] ∧ Blk wc b' 65 #[.int .i64 d', .int .i64 c', .int .i64 s'] ∧ Below w.heap.size w wc)
  case first =>
    go_region_held3 (fun w' => w'.cell? ⟨w.heap.size, 0, none⟩ = some (.int .i64 d) ∧ w'.cell? ⟨w.heap.size, 1, none⟩ = some (.int .i64 c) ∧ w'.cell? ⟨w.heap.size, 2, none⟩ = some (.int .i64 s) ∧
      w'.cell? ⟨w.heap.size + 1, 0, none⟩ = some (.int .i64 d') ∧ w'.cell? ⟨w.heap.size + 1, 1, none⟩ = some (.int .i64 c') ∧ w'.cell? ⟨w.heap.size + 1, 2, none⟩ = some (.int .i64 s')) (simp [go_sem, World.cell?_alloc_past])
      (first | (go_at_call 38; refine (parts_any _ _ _ _).mono ?_; rintro e w' ⟨rfl, rfl⟩))
    all_goals (go_wp2_with fail; go_meet; refine ⟨_, _, rfl, rfl, ?_, ?_, by go_grown⟩ <;> (refine Blk.drew ?_; repeat (first | (refine Blk.new_at ?_; (simp; done)) | refine Blk.alloc ?_ _)))
  case rest =>
    obtain ⟨b, b', rfl, rfl, h1, h2, hb⟩ := hcut
    have a0 := h1.cell 0
    have a1 := h1.cell 1
    have a2 := h1.cell 2
    have b0 := h2.cell 0
    have b1 := h2.cell 1
    have b2 := h2.cell 2
    simp only [List.getElem?_toArray, List.getElem?_cons_zero, List.getElem?_cons_succ] at a0 a1 a2 b0 b1 b2
    have HB := Lib.hid (And.intro h1 (And.intro h2 hb))
    clear h1 h2 hb
    have fin : ∀ (x : Bool) (wx : World), x = lessB d c s d' c' s' → Below w.heap.size w wx → (Ending.returned (.bool x) = .returned (.bool (lessB d c s d' c' s')) ∧ Below w.heap.size w wx) := fun x wx h1 h2 => ⟨by rw [h1], h2⟩
    have FIN := Lib.hid fin
    clear fin
    by_cases q1 : d = d'
    · subst q1
      by_cases q2 : c = c'
      · subst q2
        go_wp2
        refine wp_loop_rounds 4 ?_
        rw [rounds_succ]
        go_wp2
        go_quiet (fail)
        go_wp2
        rw [rounds_succ]
        go_wp2
        go_quiet (fail)
        go_wp2
        rw [rounds_succ]
        go_wp2
        go_quiet (fail)
        go_wp2
        · go_quiet (fail)
          go_wp2
          go_ret
          exact FIN.out _ _ (by simp [lessB]) (by repeat (first | exact HB.out.2.2 | refine below_drewN ?_ _))
        · rw [rounds_succ]
          go_wp2
          go_ret
          exact FIN.out _ _ (by simp_all [lessB]) (by repeat (first | exact HB.out.2.2 | refine below_drewN ?_ _))
      · go_wp2
        refine wp_loop_rounds 2 ?_
        rw [rounds_succ]
        go_wp2
        go_quiet (fail)
        go_wp2
        rw [rounds_succ]
        go_wp2
        go_quiet (fail)
        go_wp2
        go_quiet (fail)
        go_wp2
        go_ret
        exact FIN.out _ _ (by simp [lessB, q2]) (by repeat (first | exact HB.out.2.2 | refine below_drewN ?_ _))
    · go_wp2
      refine wp_loop_rounds 1 ?_
      rw [rounds_succ]
      go_wp2
      go_quiet (fail)
      go_wp2
      go_quiet (fail)
      go_wp2
      go_ret
      exact FIN.out _ _ (by simp [lessB, q1]) (by repeat (first | exact HB.out.2.2 | refine below_drewN ?_ _))
end Go.Proofs.Ytcpnlcgpgljlbaa
