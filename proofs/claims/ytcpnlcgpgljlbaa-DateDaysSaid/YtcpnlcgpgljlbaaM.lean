/- The walks of the laws DateTerms, DateDays and DateIntervals: each returns true. -/
import Derived.Test.YtcpnlcgpgljlbaaS
namespace Go.Proofs.Ytcpnlcgpgljlbaa
open Go.RowKit
set_option linter.unusedVariables false

theorem wrap_of {n : Int} (h1 : -9223372036854775808 ≤ n) (h2 : n ≤ 9223372036854775807) : wrap64 n = n := IntWalk.wrap64_in n ⟨h1, h2⟩

theorem begin_in (n : Int) (w : World) (h : I64 (n * 100)) : Calls Try.prog 15 #[.int .i64 n] w fun e w' => e = .returned (.int .i64 (n * 100)) ∧ w = w' := by
  have := begin_any n w
  rwa [wrap_of h.1 h.2] at this
theorem last_in (n : Int) (w : World) (h : I64 (n * 100 + 99)) : Calls Try.prog 17 #[.int .i64 n] w fun e w' => e = .returned (.int .i64 (n * 100 + 99)) ∧ w = w' := by
  have := last_any n w
  rwa [wrap_of h.1 h.2] at this

theorem terms_walk (n : Int) (w : World) : Calls Try.prog 4 #[.int .i64 n] w fun e w' => e = .returned (.bool true) ∧ Below w.heap.size w w' := by
  obtain ⟨x0, a1, a2, _, _⟩ := tdm n 10000000 (by omega)
  clear x0
  generalize hd : n.tmod 10000000 = d at *
  go_enter Try.func4, Try.ntmps4
  go_wp2_with (first
    | (go_at_call 10; refine (sanity_any _).mono ?_; rintro e w' ⟨rfl, hb⟩)
    | (go_at_call 13; refine (term_any _ _ (by unfold I64; omega)).mono ?_; rintro e w' ⟨rfl, rfl⟩)
    | (go_at_call 19; refine (year_any _ _ (by unfold I64; omega)).mono ?_; rintro e w' ⟨rfl, rfl⟩)
    | (go_at_call 15; refine (begin_in _ _ (by unfold I64; omega)).mono ?_; rintro e w' ⟨rfl, rfl⟩)
    | (go_at_call 17; refine (last_in _ _ (by unfold I64; omega)).mono ?_; rintro e w' ⟨rfl, rfl⟩))
  go_ret
  exact ⟨ret_bool (by simp; omega), hb⟩

theorem tm_in (n k : Int) (hk : 0 < k) (hk2 : k ≤ 9223372036854775807) : I64 (n.tmod k) := by
  obtain ⟨_, a1, a2, _, _⟩ := tdm n k hk
  unfold I64; omega

set_option maxHeartbeats 2000000 in
theorem days_walk (a b c d : Int) (ha : I64 a) (hb : I64 b) (hc : I64 c) (hd : I64 d) (w : World) :
    Calls Try.prog 3 #[.agg #[.int .i64 a, .int .i64 b, .int .i64 c, .int .i64 d]] w fun e w' => e = .returned (.bool true) ∧ Below w.heap.size w w' := by
  go_enter Try.func3, Try.ntmps3
  go_wp2_with fail
  refine (sanity_any _).mono ?_
  rintro e w1 ⟨rfl, hb1⟩
  have B1 : Blk w1 w.heap.size 22 #[.int .i64 a, .int .i64 b, .int .i64 c, .int .i64 d] := (Blk.new _ _ _).below hb1 (by simp)
  have G1 : Below w.heap.size w w1 := ((Below.refl _ _).alloc (Nat.le_refl _) _).trans (hb1.mono (by simp))
  have hlt := B1.lt
  have hf := B1.frozen
  obtain ⟨c0, c1, c2, c3⟩ := B1.four
  clear hb1 B1
  have GG := Lib.hid G1
  clear G1
  go_wp2_with fail
  refine wp_loop_rounds 3 ?_
  rw [rounds_succ]
  go_wp2_with fail
  go_quiet (fail)
  go_wp2_with (first
    | (go_at_call 11; refine (right_any _ _).mono ?_; rintro e w' ⟨rfl, rfl⟩)
    | (go_at_call 12; refine (right_ref _ _).mono ?_; rintro e w' ⟨rfl, rfl⟩)
    | (go_at_call 13; refine (term_any _ _ ha).mono ?_; rintro e w' ⟨rfl, rfl⟩)
    | (go_at_call 14; refine (term_ref _ _ ha).mono ?_; rintro e w' ⟨rfl, rfl⟩)
    | (go_at_call 15; refine (begin_any _ _).mono ?_; rintro e w' ⟨rfl, rfl⟩)
    | (go_at_call 16; refine (begin_ref _ _).mono ?_; rintro e w' ⟨rfl, rfl⟩)
    | (go_at_call 17; refine (last_any _ _).mono ?_; rintro e w' ⟨rfl, rfl⟩)
    | (go_at_call 18; refine (last_ref _ _).mono ?_; rintro e w' ⟨rfl, rfl⟩)
    | (go_at_call 19; refine (year_any _ _ ha).mono ?_; rintro e w' ⟨rfl, rfl⟩)
    | (go_at_call 20; refine (year_ref _ _ ha).mono ?_; rintro e w' ⟨rfl, rfl⟩)
    | (go_at_call 21; refine (within_any _ _ _ _).mono ?_; rintro e w' ⟨rfl, rfl⟩)
    | (go_at_call 22; refine (within_ref _ _ _ _).mono ?_; rintro e w' ⟨rfl, rfl⟩)
    | (go_at_call 23; refine (meet_any _ _ _ _ _).mono ?_; rintro e w' ⟨rfl, rfl⟩)
    | (go_at_call 24; refine (meet_ref _ _ _ _ _).mono ?_; rintro e w' ⟨rfl, rfl⟩))
  refine wp_loop_rounds 5 ?_
  rw [rounds_succ]
  go_wp2_with fail
  rw [rounds_succ]
  go_wp2_with fail
  rw [rounds_succ]
  go_wp2_with fail
  rw [rounds_succ]
  go_wp2_with fail
  rw [rounds_succ]
  go_wp2_with fail
  rw [rounds_succ]
  go_wp2_with fail
  go_quiet (fail)
  go_wp2_with (first
    | (go_at_call 11; refine (right_any _ _).mono ?_; rintro e w' ⟨rfl, rfl⟩)
    | (go_at_call 12; refine (right_ref _ _).mono ?_; rintro e w' ⟨rfl, rfl⟩)
    | (go_at_call 13; refine (term_any _ _ (tm_in _ 300 (by omega) (by omega))).mono ?_; rintro e w' ⟨rfl, rfl⟩)
    | (go_at_call 14; refine (term_ref _ _ (tm_in _ 300 (by omega) (by omega))).mono ?_; rintro e w' ⟨rfl, rfl⟩)
    | (go_at_call 15; refine (begin_any _ _).mono ?_; rintro e w' ⟨rfl, rfl⟩)
    | (go_at_call 16; refine (begin_ref _ _).mono ?_; rintro e w' ⟨rfl, rfl⟩)
    | (go_at_call 17; refine (last_any _ _).mono ?_; rintro e w' ⟨rfl, rfl⟩)
    | (go_at_call 18; refine (last_ref _ _).mono ?_; rintro e w' ⟨rfl, rfl⟩)
    | (go_at_call 19; refine (year_any _ _ (tm_in _ 300 (by omega) (by omega))).mono ?_; rintro e w' ⟨rfl, rfl⟩)
    | (go_at_call 20; refine (year_ref _ _ (tm_in _ 300 (by omega) (by omega))).mono ?_; rintro e w' ⟨rfl, rfl⟩)
    | (go_at_call 21; refine (within_any _ _ _ _).mono ?_; rintro e w' ⟨rfl, rfl⟩)
    | (go_at_call 22; refine (within_ref _ _ _ _).mono ?_; rintro e w' ⟨rfl, rfl⟩)
    | (go_at_call 23; refine (meet_any _ _ _ _ _).mono ?_; rintro e w' ⟨rfl, rfl⟩)
    | (go_at_call 24; refine (meet_ref _ _ _ _ _).mono ?_; rintro e w' ⟨rfl, rfl⟩))
  refine wp_loop_rounds 5 ?_
  rw [rounds_succ]
  go_wp2_with fail
  rw [rounds_succ]
  go_wp2_with fail
  rw [rounds_succ]
  go_wp2_with fail
  rw [rounds_succ]
  go_wp2_with fail
  rw [rounds_succ]
  go_wp2_with fail
  rw [rounds_succ]
  go_wp2_with fail
  go_ret
  exact ⟨rfl, by have G := GG.out; repeat' (first | (with_reducible exact G) | (with_reducible refine below_drewN ?_ _) | (with_reducible refine Below.setCell ?_ ?_ _) | (with_reducible exact Nat.le_refl _))⟩
end Go.Proofs.Ytcpnlcgpgljlbaa
