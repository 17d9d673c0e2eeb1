/- The walk of the law DateIntervals: it returns true. -/
import Derived.Test.YtcpnlcgpgljlbaaS
namespace Go.Proofs.Ytcpnlcgpgljlbaa
open Go.RowKit
set_option linter.unusedVariables false

theorem tmb (n k : Int) (hk : 0 < k) : -k < n.tmod k ∧ n.tmod k < k := ⟨(tdm n k hk).2.1, (tdm n k hk).2.2.1⟩

/-- Among the first k days from -13 on there is one in both intervals. -/
def comm (b1 e1 b2 e2 : Int) : Nat → Bool
  | 0 => false
  | k + 1 => comm b1 e1 b2 e2 k || (withinB ((k : Int) - 13) b1 e1 && withinB ((k : Int) - 13) b2 e2)
theorem comm_iff (b1 e1 b2 e2 : Int) (n : Nat) : comm b1 e1 b2 e2 n = true ↔ ∃ k : Nat, k < n ∧ withinB ((k : Int) - 13) b1 e1 = true ∧ withinB ((k : Int) - 13) b2 e2 = true := by
  induction n with
  | zero => simp [comm]
  | succ n ih =>
    simp only [comm, Bool.or_eq_true, Bool.and_eq_true, ih]
    constructor
    · rintro (⟨k, h1, h2⟩ | h)
      · exact ⟨k, by omega, h2⟩
      · exact ⟨n, by omega, h⟩
    · rintro ⟨k, h1, h2⟩
      by_cases hk : k = n
      · subst hk; exact .inr h2
      · exact .inl ⟨k, by omega, h2⟩
theorem within_iff (d b e : Int) : withinB d b e = true ↔ b ≤ d ∧ (e = 0 ∨ d < e) := by simp [withinB]
theorem meet_comm (b1 e1 b2 e2 : Int) (h1 : -12 ≤ b1) (h2 : b1 ≤ 12) (h3 : -12 ≤ b2) (h4 : b2 ≤ 12) : meetB b1 e1 b2 e2 = comm b1 e1 b2 e2 27 := by
  rw [Bool.eq_iff_iff, comm_iff]
  simp only [meetB, Bool.and_eq_true, within_iff]
  constructor
  · intro h
    refine ⟨(max b1 b2 + 13).toNat, by omega, ?_⟩
    rw [show (((max b1 b2 + 13).toNat : Nat) : Int) - 13 = max b1 b2 from by omega]
    exact h
  · rintro ⟨k, hk, hh⟩
    omega
theorem meet_swap (b1 e1 b2 e2 : Int) : meetB b2 e2 b1 e1 = meetB b1 e1 b2 e2 := by
  unfold meetB
  rw [Int.max_comm b2 b1, Bool.and_comm]

set_option maxRecDepth 100000 in
set_option maxHeartbeats 2000000 in
theorem intervals_walk (a b c d : Int) (w : World) :
    Calls Try.prog 5 #[.agg #[.int .i8 a, .int .i8 b, .int .i8 c, .int .i8 d]] w fun e w' => e = .returned (.bool true) ∧ Below w.heap.size w w' := by
  obtain ⟨a1, a2⟩ := tmb a 12 (by omega)
  obtain ⟨a3, a4⟩ := tmb b 12 (by omega)
  obtain ⟨a5, a6⟩ := tmb c 12 (by omega)
  obtain ⟨a7, a8⟩ := tmb d 12 (by omega)
  go_enter Try.func5, Try.ntmps5
  go_wp2_with fail
  refine (sanity_any _).mono ?_
  rintro e w1 ⟨rfl, hb1⟩
  have B1 : Blk w1 w.heap.size 30 #[.int .i8 a, .int .i8 b, .int .i8 c, .int .i8 d] := (Blk.new _ _ _).below hb1 (by simp)
  have G1 : Below w.heap.size w w1 := ((Below.refl _ _).alloc (Nat.le_refl _) _).trans (hb1.mono (by simp))
  obtain ⟨c0, c1, c2, c3⟩ := B1.four
  clear hb1 B1
  go_wp2_with fail
  go_quiet (fail)
  go_wp2_with fail
  have GG := Lib.hid (below_drewN G1 nq)
  clear G1
  clear c0 c1 c2 c3
  generalize w1.drewN nq = w2 at *
  have hm : meetB (a.tmod 12) (b.tmod 12) (c.tmod 12) (d.tmod 12) = comm (a.tmod 12) (b.tmod 12) (c.tmod 12) (d.tmod 12) 27 := meet_comm _ _ _ _ (by omega) (by omega) (by omega) (by omega)
  generalize a.tmod 12 = b1 at *
  generalize b.tmod 12 = e1 at *
  generalize c.tmod 12 = b2 at *
  generalize d.tmod 12 = e2 at *
  have HM := Lib.hid hm
  clear hm
  by_cases he : e1 = 0
  · subst he
    go_loop [8, 9] (fun q i => ∃ k : Nat, k ≤ 27 ∧ i = .int .i64 ((k : Int) - 13) ∧ q = .bool (comm b1 0 b2 e2 k)) (fun _ i => (14 - intOf i).toNat)
    case atStart => exact ⟨0, by omega, by simp, rfl⟩
    case round =>
      obtain ⟨k, hk, rfl, rfl⟩ := hrel
      by_cases hlt : k < 27
      · have hs : comm b1 0 b2 e2 (k + 1) = (comm b1 0 b2 e2 k || (withinB ((k : Int) - 13) b1 0 && withinB ((k : Int) - 13) b2 e2)) := rfl
        have hw := within_iff ((k : Int) - 13) b1 0
        have HS := Lib.hid hs
        have HW := Lib.hid hw
        clear hs hw
        cases h1 : withinB ((k : Int) - 13) b1 0 <;> cases h2 : withinB ((k : Int) - 13) b2 e2 <;> cases h3 : comm b1 0 b2 e2 k
        all_goals
          have hs := HS.out
          rw [h1, h2, h3] at hs
          have hw := HW.out
          rw [h1] at hw
          simp at hs hw
          have H3 := Lib.hid hs
          clear hs
          go_wp2_with (go_at_call 21; refine (within_any _ _ _ _).mono ?_; rintro e w' ⟨rfl, rfl⟩)
          all_goals
            go_round
            case rel => exact ⟨k + 1, by omega, by go_num, by rw [H3.out]⟩
            case measure => simp [intOf]; omega
      · have hk' : k = 27 := by omega
        subst hk'
        have h1 := HM.out
        have h2 : meetB b2 e2 b1 0 = comm b1 0 b2 e2 27 := by rw [meet_swap]; exact h1
        go_wp2_with (go_at_call 23; refine (meet_any _ _ _ _ _).mono ?_; rintro e w' ⟨rfl, rfl⟩)
        all_goals
          go_ret
          exact ⟨ret_bool (by simp_all), GG.out⟩
  · have he1 : (e1 == 0) = false := by simp [he]
    have he2 : (e1 != 0) = true := by simp [he]
    have HE := Lib.hid he
    clear he
    go_loop [8, 9] (fun q i => ∃ k : Nat, k ≤ 27 ∧ i = .int .i64 ((k : Int) - 13) ∧ q = .bool (comm b1 e1 b2 e2 k)) (fun _ i => (14 - intOf i).toNat)
    case atStart => exact ⟨0, by omega, by simp, rfl⟩
    case round =>
      obtain ⟨k, hk, rfl, rfl⟩ := hrel
      by_cases hlt : k < 27
      · have hs : comm b1 e1 b2 e2 (k + 1) = (comm b1 e1 b2 e2 k || (withinB ((k : Int) - 13) b1 e1 && withinB ((k : Int) - 13) b2 e2)) := rfl
        have hw := within_iff ((k : Int) - 13) b1 e1
        have HS := Lib.hid hs
        have HW := Lib.hid hw
        clear hs hw
        cases h1 : withinB ((k : Int) - 13) b1 e1 <;> cases h2 : withinB ((k : Int) - 13) b2 e2 <;> cases h3 : comm b1 e1 b2 e2 k
        all_goals
          have hs := HS.out
          rw [h1, h2, h3] at hs
          have hw := HW.out
          rw [h1] at hw
          simp at hs
          simp [HE.out] at hw
          first | (obtain ⟨hw1, hw2⟩ := hw) | clear hw
          have H3 := Lib.hid hs
          clear hs
          go_wp2_with (go_at_call 21; refine (within_any _ _ _ _).mono ?_; rintro e w' ⟨rfl, rfl⟩)
          all_goals
            go_round
            case rel => exact ⟨k + 1, by omega, by go_num, by rw [H3.out]⟩
            case measure => simp [intOf]; omega
      · have hk' : k = 27 := by omega
        subst hk'
        have h1 := HM.out
        have h2 : meetB b2 e2 b1 e1 = comm b1 e1 b2 e2 27 := by rw [meet_swap]; exact h1
        go_wp2_with (go_at_call 23; refine (meet_any _ _ _ _ _).mono ?_; rintro e w' ⟨rfl, rfl⟩)
        all_goals
          go_ret
          exact ⟨ret_bool (by simp_all), GG.out⟩
end Go.Proofs.Ytcpnlcgpgljlbaa
