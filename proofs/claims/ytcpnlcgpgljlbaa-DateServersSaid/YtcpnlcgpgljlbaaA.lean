/- Contracts of the small functions of date and of its reference: what each call returns, and that it leaves the world alone. -/
import Derived.Test.YtcpnlcgpgljlbaaRows
import Derived.WalkKit
import Derived.WalkSpells
import Derived.WalkLawsBesides
import Derived.Lib.Hide
namespace Go.Proofs.Ytcpnlcgpgljlbaa
open Go.RowKit

theorem ret_int {k : IntKind} {a b : Int} (h : a = b) : Ending.returned (.int k a) = .returned (.int k b) := by rw [h]
theorem ret_bool {a b : Bool} (h : a = b) : Ending.returned (.bool a) = .returned (.bool b) := by rw [h]

/-- A number that an int holds. -/
def I64 (n : Int) : Prop := -9223372036854775808 ≤ n ∧ n ≤ 9223372036854775807

theorem tdm (n k : Int) (hk : 0 < k) : n = k * n.tdiv k + n.tmod k ∧ -k < n.tmod k ∧ n.tmod k < k ∧ (0 ≤ n → 0 ≤ n.tmod k) ∧ (n ≤ 0 → n.tmod k ≤ 0) := by
  refine ⟨(Int.mul_tdiv_add_tmod n k).symm, ?_, Int.tmod_lt_of_pos n hk, fun h => Int.tmod_nonneg k h, fun h => ?_⟩
  · by_cases h : 0 ≤ n
    · have := Int.tmod_nonneg k h; omega
    · have h1 : n.tmod k = -((-n).tmod k) := by rw [Int.neg_tmod]; simp
      have := Int.tmod_lt_of_pos (-n) hk; omega
  · have h1 : n.tmod k = -((-n).tmod k) := by rw [Int.neg_tmod]; simp
    have := Int.tmod_nonneg k (a := -n) (by omega); omega

theorem divide_any (n : Int) (w : World) (h1 : -9223372036854775708 ≤ n) (h2 : n ≤ 9223372036854775807) :
    Calls Try.prog 35 #[.int .i64 n, .int .i64 100] w fun e w' => e = .returned (.int .i64 (n / 100)) ∧ w = w' := by
  obtain ⟨e1, a1, a2, a3, a4⟩ := tdm n 100 (by omega)
  have H := Lib.hid e1
  clear e1
  go_enter Try.func35, Try.ntmps35
  go_wp2
  have e1 := H.out
  have e2 : n - n.tmod 100 % 100 = 100 * (n / 100) := by omega
  go_ret
  refine ⟨ret_int ?_, rfl⟩
  show (n - n.tmod 100 % 100).tdiv 100 = n / 100
  rw [e2]
  exact Int.mul_tdiv_cancel_left _ (by omega)

theorem term_any (n : Int) (w : World) (h : I64 n) :
    Calls Try.prog 13 #[.int .i64 n] w fun e w' => e = .returned (.int .i64 (n / 100)) ∧ w = w' := by
  obtain ⟨h1, h2⟩ := h
  by_cases hn : n < -4611686018427387904
  · go_enter Try.func13, Try.ntmps13
    go_wp2_with (go_at_call 35; refine (divide_any _ _ (by omega) (by omega)).mono ?_; rintro e w' ⟨rfl, rfl⟩)
    go_ret
    exact ⟨ret_int (by omega), rfl⟩
  · go_enter Try.func13, Try.ntmps13
    go_wp2_with (go_at_call 35; refine (divide_any _ _ (by omega) (by omega)).mono ?_; rintro e w' ⟨rfl, rfl⟩)
    go_ret
    exact ⟨ret_int (by omega), rfl⟩

theorem floor_100 (n : Int) (w : World) (h : I64 n) :
    Calls Try.prog 36 #[.int .i64 n, .int .i64 100] w fun e w' => e = .returned (.int .i64 (n / 100)) ∧ w = w' := by
  obtain ⟨h1, h2⟩ := h
  obtain ⟨e1, a1, a2, a3, a4⟩ := tdm n 100 (by omega)
  have b1 : -92233720368547758 ≤ n.tdiv 100 := by omega
  have b2 : n.tdiv 100 ≤ 92233720368547758 := by omega
  have H := Lib.hid e1
  clear e1
  go_enter Try.func36, Try.ntmps36
  go_wp2
  all_goals (have e1 := H.out; go_ret; exact ⟨ret_int (by omega), rfl⟩)
theorem floor_2 (n : Int) (w : World) (h : I64 n) :
    Calls Try.prog 36 #[.int .i64 n, .int .i64 2] w fun e w' => e = .returned (.int .i64 (n / 2)) ∧ w = w' := by
  obtain ⟨h1, h2⟩ := h
  obtain ⟨e1, a1, a2, a3, a4⟩ := tdm n 2 (by omega)
  have b1 : -4611686018427387904 ≤ n.tdiv 2 := by omega
  have b2 : n.tdiv 2 ≤ 4611686018427387904 := by omega
  have H := Lib.hid e1
  clear e1
  go_enter Try.func36, Try.ntmps36
  go_wp2
  all_goals (have e1 := H.out; go_ret; exact ⟨ret_int (by omega), rfl⟩)

def rightB (n : Int) : Bool := decide (0 ≤ n) && decide (n ≤ 100000)
theorem right_any (n : Int) (w : World) :
    Calls Try.prog 11 #[.int .i64 n] w fun e w' => e = .returned (.bool (rightB n)) ∧ w = w' := by
  go_enter Try.func11, Try.ntmps11
  go_wp2
  all_goals (go_ret; exact ⟨ret_bool (by simp [rightB]; omega), rfl⟩)
theorem right_ref (n : Int) (w : World) :
    Calls Try.prog 12 #[.int .i64 n] w fun e w' => e = .returned (.bool (rightB n)) ∧ w = w' := by
  go_enter Try.func12, Try.ntmps12
  go_wp2
  all_goals (go_ret; exact ⟨ret_bool (by simp [rightB]; omega), rfl⟩)

theorem term_ref (n : Int) (w : World) (h : I64 n) :
    Calls Try.prog 14 #[.int .i64 n] w fun e w' => e = .returned (.int .i64 (n / 100)) ∧ w = w' := by
  go_enter Try.func14, Try.ntmps14
  go_wp2_with (go_at_call 36; refine (floor_100 _ _ h).mono ?_; rintro e w' ⟨rfl, rfl⟩)
  go_ret
  exact ⟨rfl, rfl⟩
theorem wrapI (n : Int) : I64 (wrap64 n) := by unfold I64 wrap64; omega
theorem begin_any (n : Int) (w : World) :
    Calls Try.prog 15 #[.int .i64 n] w fun e w' => e = .returned (.int .i64 (wrap64 (n * 100))) ∧ w = w' := by
  go_enter Try.func15, Try.ntmps15
  go_wp2
  go_ret
  exact ⟨ret_int (by first | rfl | (congr 1; omega)), rfl⟩
theorem begin_ref (n : Int) (w : World) :
    Calls Try.prog 16 #[.int .i64 n] w fun e w' => e = .returned (.int .i64 (wrap64 (n * 100))) ∧ w = w' := by
  go_enter Try.func16, Try.ntmps16
  go_wp2
  go_ret
  exact ⟨ret_int (by first | rfl | (congr 1; omega)), rfl⟩
theorem last_any (n : Int) (w : World) :
    Calls Try.prog 17 #[.int .i64 n] w fun e w' => e = .returned (.int .i64 (wrap64 (n * 100 + 99))) ∧ w = w' := by
  go_enter Try.func17, Try.ntmps17
  go_wp2_with (go_at_call 15; refine (begin_any _ _).mono ?_; rintro e w' ⟨rfl, rfl⟩)
  go_ret
  exact ⟨ret_int (by unfold wrap64; omega), rfl⟩
theorem last_ref (n : Int) (w : World) :
    Calls Try.prog 18 #[.int .i64 n] w fun e w' => e = .returned (.int .i64 (wrap64 (n * 100 + 99))) ∧ w = w' := by
  go_enter Try.func18, Try.ntmps18
  go_wp2
  go_ret
  exact ⟨ret_int (by unfold wrap64; omega), rfl⟩
theorem year_any (n : Int) (w : World) (h : I64 n) :
    Calls Try.prog 19 #[.int .i64 n] w fun e w' => e = .returned (.int .i64 (n / 200)) ∧ w = w' := by
  go_enter Try.func19, Try.ntmps19
  go_wp2_with (go_at_call 13; refine (term_any _ _ h).mono ?_; rintro e w' ⟨rfl, rfl⟩)
  go_ret
  exact ⟨ret_int (by omega), rfl⟩
theorem year_ref (n : Int) (w : World) (h : I64 n) :
    Calls Try.prog 20 #[.int .i64 n] w fun e w' => e = .returned (.int .i64 (n / 200)) ∧ w = w' := by
  have h' : I64 (n / 100) := by unfold I64 at *; omega
  go_enter Try.func20, Try.ntmps20
  go_wp2_with (first | (go_at_call 14; refine (term_ref _ _ h).mono ?_; rintro e w' ⟨rfl, rfl⟩) | (go_at_call 36; refine (floor_2 _ _ h').mono ?_; rintro e w' ⟨rfl, rfl⟩))
  go_ret
  exact ⟨ret_int (by omega), rfl⟩
def withinB (d b e : Int) : Bool := decide (b ≤ d) && (decide (e = 0) || decide (d < e))
theorem within_any (d b e : Int) (w : World) :
    Calls Try.prog 21 #[.int .i64 d, .int .i64 b, .int .i64 e] w fun x w' => x = .returned (.bool (withinB d b e)) ∧ w = w' := by
  go_enter Try.func21, Try.ntmps21
  go_wp2
  all_goals (go_ret; exact ⟨ret_bool (by first | (simp_all [withinB]; done) | (simp_all [withinB]; omega)), rfl⟩)
theorem within_ref (d b e : Int) (w : World) :
    Calls Try.prog 22 #[.int .i64 d, .int .i64 b, .int .i64 e] w fun x w' => x = .returned (.bool (withinB d b e)) ∧ w = w' := by
  go_enter Try.func22, Try.ntmps22
  go_wp2
  all_goals (go_ret; exact ⟨ret_bool (by first | (simp_all [withinB]; done) | (simp_all [withinB]; omega)), rfl⟩)
def meetB (b1 e1 b2 e2 : Int) : Bool := withinB (max b1 b2) b1 e1 && withinB (max b1 b2) b2 e2
theorem meet_any (b1 e1 b2 e2 : Int) (w : World) :
    Calls Try.prog 23 #[.int .i64 b1, .int .i64 e1, .int .i64 b2, .int .i64 e2] w fun x w' => x = .returned (.bool (meetB b1 e1 b2 e2)) ∧ w = w' := by
  go_enter Try.func23, Try.ntmps23
  go_wp2_with (go_at_call 21; refine (within_any _ _ _ _).mono ?_; rintro e w' ⟨rfl, rfl⟩)
  all_goals (go_ret; refine ⟨ret_bool ?_, rfl⟩; unfold meetB; first | (rw [Int.max_eq_right (by omega)]; simp_all; done) | (rw [Int.max_eq_left (by omega)]; simp_all; done))
theorem meet_ref (b1 e1 b2 e2 : Int) (w : World) :
    Calls Try.prog 24 #[.int .i64 b1, .int .i64 e1, .int .i64 b2, .int .i64 e2] w fun x w' => x = .returned (.bool (meetB b1 e1 b2 e2)) ∧ w = w' := by
  go_enter Try.func24, Try.ntmps24
  go_wp2_with (go_at_call 22; refine (within_ref _ _ _ _).mono ?_; rintro e w' ⟨rfl, rfl⟩)
  all_goals (go_ret; refine ⟨ret_bool ?_, rfl⟩; unfold meetB; first | (rw [Int.max_eq_right (by omega)]; simp_all; done) | (rw [Int.max_eq_left (by omega)]; simp_all; done))
end Go.Proofs.Ytcpnlcgpgljlbaa
