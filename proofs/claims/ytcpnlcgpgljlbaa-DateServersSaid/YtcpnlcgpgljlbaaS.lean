/- The examples of the chapter hold: sanity returns true. -/
import Derived.Test.YtcpnlcgpgljlbaaD
import Derived.Test.YtcpnlcgpgljlbaaE
namespace Go.Proofs.Ytcpnlcgpgljlbaa
open Go.RowKit
set_option linter.unusedVariables false

theorem Blk.three {w : World} {b t : Nat} {x0 x1 x2 : Value} (h : Blk w b t #[x0, x1, x2]) : w.cell? ⟨b, 0, none⟩ = some x0 ∧ w.cell? ⟨b, 1, none⟩ = some x1 ∧ w.cell? ⟨b, 2, none⟩ = some x2 :=
  ⟨h.cell 0, h.cell 1, h.cell 2⟩
theorem Blk.ck_ne {w : World} {b g : Nat} {cs x : Array Value} (h : Blk w g 39 cs) (h' : Blk w b 57 x) : some g ≠ some b := by
  have := Blk.ne_ h h' (by decide)
  simpa using this

set_option maxHeartbeats 1000000 in
theorem sanity_any (w : World) : Calls Try.prog 10 #[] w fun e w' => e = .returned (.bool true) ∧ Below w.heap.size w w' := by
  have e1 : wrap64 300 = 300 := by unfold wrap64; omega
  have e2 : wrap64 399 = 399 := by unfold wrap64; omega
  have e8 : lessB 7 2 2 12 4 1 = true := by decide
  have e3 : withinB 5 5 9 = true := by decide
  have e4 : withinB 9 5 9 = false := by decide
  have e5 : withinB 9 5 0 = true := by decide
  have e6 : meetB 1 5 5 9 = false := by decide
  have e7 : meetB 1 6 5 0 = true := by decide
  go_enter Try.func10, Try.ntmps10
  go_wp2_with (first
    | (go_at_call 13; refine (term_any _ _ (by unfold I64; omega)).mono ?_; rintro e w' ⟨rfl, rfl⟩)
    | (go_at_call 15; refine (begin_any _ _).mono ?_; rintro e w' ⟨rfl, rfl⟩)
    | (go_at_call 17; refine (last_any _ _).mono ?_; rintro e w' ⟨rfl, rfl⟩)
    | (go_at_call 19; refine (year_any _ _ (by unfold I64; omega)).mono ?_; rintro e w' ⟨rfl, rfl⟩)
    | (go_at_call 21; refine (within_any _ _ _ _).mono ?_; rintro e w' ⟨rfl, rfl⟩)
    | (go_at_call 23; refine (meet_any _ _ _ _ _).mono ?_; rintro e w' ⟨rfl, rfl⟩))
  refine (new_yes 2 _ (by omega) (by omega)).mono ?_
  rintro e w' ⟨rfl, rfl⟩
  go_wp2_with fail
  -- the clock
  have B0 : Blk (w.alloc (.cells (ck 2 0 (-1) 0) 57)) w.heap.size 57 (ck 2 0 (-1) 0) := Blk.new _ _ _
  have G0 : Below w.heap.size w (w.alloc (.cells (ck 2 0 (-1) 0) 57)) := (Below.refl _ _).alloc (Nat.le_refl _) _
  generalize w.alloc (.cells (ck 2 0 (-1) 0) 57) = w1 at *
  generalize hb : w.heap.size = b at *
  have row : ∀ k, some b = some k → b ≤ k := fun k h => by injection h with h; omega
  have HB := Lib.hid hb
  have ROW := Lib.hid row
  clear hb row
  refine (now_new b 2 0 (-1) 0 7 w1 B0 (by omega) (by decide) (by omega)).mono ?_
  rintro e w2 ⟨rfl, B2, g2⟩
  have G2 := G0.grown g2 (Nat.le_of_lt B0.lt) ROW.out
  clear B0 G0 g2 w1
  go_wp2_with fail
  have B3 : Blk (w2.alloc (.cells #[.int .i64 7, .int .i64 0, .int .i64 2] 39)) b 57 (ck 2 7 0 2) := B2.alloc _
  have S3 := Blk.new w2 39 #[.int .i64 7, .int .i64 0, .int .i64 2]
  have G3 := G2.alloc (Nat.le_of_lt B2.lt) (.cells #[.int .i64 7, .int .i64 0, .int .i64 2] 39)
  generalize w2.alloc (.cells #[.int .i64 7, .int .i64 0, .int .i64 2] 39) = w3 at *
  generalize w2.heap.size = p3 at *
  clear B2 G2
  refine (now_late b 2 7 0 2 7 w3 B3 (by omega) (by decide) (by omega) (by omega) (by omega)).mono ?_
  rintro e w4 ⟨rfl, B4, g4⟩
  have G4 := G3.grown g4 (Nat.le_of_lt B3.lt) ROW.out
  have S4 := S3.grown g4 (S3.ck_ne B3)
  clear B3 G3 S3 g4 w3
  go_wp2_with fail
  have B5 := B4.alloc (.cells #[.int .i64 7, .int .i64 1, .int .i64 2] 39)
  have S5 := S4.alloc (.cells #[.int .i64 7, .int .i64 1, .int .i64 2] 39)
  have T5 := Blk.new w4 39 #[.int .i64 7, .int .i64 1, .int .i64 2]
  have G5 := G4.alloc (Nat.le_of_lt B4.lt) (.cells #[.int .i64 7, .int .i64 1, .int .i64 2] 39)
  generalize w4.alloc (.cells #[.int .i64 7, .int .i64 1, .int .i64 2] 39) = w5 at *
  generalize w4.heap.size = p5 at *
  clear B4 G4 S4
  refine (now_late b 2 7 (0 + 1) 2 3 w5 B5 (by omega) (by decide) (by omega) (by omega) (by omega)).mono ?_
  rintro e w6 ⟨rfl, B6, g6⟩
  have G6 := G5.grown g6 (Nat.le_of_lt B5.lt) ROW.out
  have S6 := S5.grown g6 (S5.ck_ne B5)
  have T6 := T5.grown g6 (T5.ck_ne B5)
  clear B5 G5 S5 T5 g6 w5
  go_upto_region 9 with (fail)
  have B7 := B6.alloc (.cells #[.int .i64 7, .int .i64 2, .int .i64 2] 39)
  have S7 := S6.alloc (.cells #[.int .i64 7, .int .i64 2, .int .i64 2] 39)
  have T7 := T6.alloc (.cells #[.int .i64 7, .int .i64 2, .int .i64 2] 39)
  have U7 := Blk.new w6 39 #[.int .i64 7, .int .i64 2, .int .i64 2]
  have G7 := G6.alloc (Nat.le_of_lt B6.lt) (.cells #[.int .i64 7, .int .i64 2, .int .i64 2] 39)
  generalize w6.alloc (.cells #[.int .i64 7, .int .i64 2, .int .i64 2] 39) = w7 at *
  generalize w6.heap.size = p7 at *
  clear B6 G6 S6 T6
  have s7 := S7.three
  have t7 := T7.three
  have u7 := U7.three
  go_wp2_with fail
  refine (is_any _ _ _ _ _ _ _ _).mono ?_
  rintro e w8 ⟨rfl, hb8⟩
  have t8 : _ ∧ _ ∧ _ := (T7.below hb8 T7.lt).three
  have u8 : _ ∧ _ ∧ _ := (U7.below hb8 U7.lt).three
  have z8 : w7.heap.size ≤ w8.heap.size := hb8.size
  have B8 := B7.below hb8 B7.lt
  have G8 := G7.trans (hb8.mono (Nat.le_of_lt B7.lt))
  have U8 := U7.below hb8 U7.lt
  go_wp2_with fail
  refine (is_any _ _ _ _ _ _ _ _).mono ?_
  rintro e w9 ⟨rfl, hb9⟩
  have u9 : _ ∧ _ ∧ _ := (U8.below hb9 U8.lt).three
  have B9 := B8.below hb9 B8.lt
  have G9 := G8.trans (hb9.mono (Nat.le_of_lt B8.lt))
  go_wp2_with fail
  refine (is_any _ _ _ _ _ _ _ _).mono ?_
  rintro e w10 ⟨rfl, hb10⟩
  have B10 := B9.below hb10 B9.lt
  have G10 := G9.trans (hb10.mono (Nat.le_of_lt B9.lt))
  clear hb8 hb9 hb10 s7 t7 u7 t8 u8 u9 z8 S7 T7 U7 B7 G7 B8 G8 U8 B9 G9 w2 w4 w6
  go_wp2_with fail
  refine (hear_take b 2 7 (0 + 1 + 1) 2 12 4 1 7 w10 B10 (by omega) (by decide) (by decide) (by omega) (by omega) (by omega) (by omega) (by omega) e8).mono ?_
  rintro e w11 ⟨rfl, B11, g11⟩
  have G11 := G10.grown g11 (Nat.le_of_lt B10.lt) ROW.out
  clear B10 G10 g11 w10 w9 w8 w7
  go_wp2_with fail
  refine (now_late b 2 12 4 1 8 w11 B11 (by omega) (by decide) (by omega) (by omega) (by omega)).mono ?_
  rintro e w12 ⟨rfl, B12, g12⟩
  have G12 := G11.grown g12 (Nat.le_of_lt B11.lt) ROW.out
  clear B11 G11 g12 w11
  go_upto_region 11 with (fail)
  have B13 := B12.alloc (.cells #[.int .i64 12, .int .i64 5, .int .i64 2] 39)
  have U13 := Blk.new w12 39 #[.int .i64 12, .int .i64 5, .int .i64 2]
  have G13 := G12.alloc (Nat.le_of_lt B12.lt) (.cells #[.int .i64 12, .int .i64 5, .int .i64 2] 39)
  generalize w12.alloc (.cells #[.int .i64 12, .int .i64 5, .int .i64 2] 39) = w13 at *
  generalize w12.heap.size = p13 at *
  clear B12 G12
  have u13 := U13.three
  go_wp2_with fail
  refine (is_any _ _ _ _ _ _ _ _).mono ?_
  rintro e w14 ⟨rfl, hb14⟩
  have B14 := B13.below hb14 B13.lt
  have G14 := G13.trans (hb14.mono (Nat.le_of_lt B13.lt))
  clear hb14 B13 G13 U13 u13
  go_wp2_with fail
  refine (hear_bad3 b 2 12 (4 + 1) 2 14 0 1 8 w14 B14 (by omega) (by decide) (by decide) (by omega)).mono ?_
  rintro e w15 ⟨rfl, hb15⟩
  have G15 := G14.trans (hb15.mono (Nat.le_of_lt B14.lt))
  clear hb15 B14 G14
  go_wp2_with fail
  go_ret
  rw [HB.out]
  exact ⟨rfl, G15⟩
end Go.Proofs.Ytcpnlcgpgljlbaa
