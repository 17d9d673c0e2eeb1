/- The walk of the law DateNothing: it returns true. -/
import Derived.Test.YtcpnlcgpgljlbaaF
namespace Go.Proofs.Ytcpnlcgpgljlbaa
open Go.RowKit
set_option linter.unusedVariables false

theorem none_zero (b : Nat) (w : World) (h : Blk w b 57 (ck 0 0 0 0)) :
    Calls Try.prog 37 #[.pointer (some ⟨b, 0, none⟩)] w fun e w' => e = .returned (.bool true) ∧ w = w' := by
  obtain ⟨h0, h1, h2, h3⟩ := h.four
  clear h
  go_enter Try.func37, Try.ntmps37
  go_wp2
  go_ret
  exact ⟨rfl, rfl⟩
theorem now_zero (b : Nat) (day : Int) (w : World) (h : Blk w b 57 (ck 0 0 0 0)) :
    Calls Try.prog 30 #[.pointer (some ⟨b, 0, none⟩), .int .i64 day] w fun e w' => e = .returned (.tuple #[.agg #[.int .i64 0, .int .i64 0, .int .i64 0], .int .i64 1]) ∧ Below w.heap.size w w' := by
  have H := Lib.hid h
  clear h
  go_enter Try.func30, Try.ntmps30
  go_wp2_with (go_at_call 37; refine (none_zero b _ (H.out.alloc _)).mono ?_; rintro e w' ⟨rfl, rfl⟩)
  go_returns
  exact ⟨rfl, by go_grown⟩
theorem hear_zero (b : Nat) (x y z day : Int) (w : World) (h : Blk w b 57 (ck 0 0 0 0)) :
    Calls Try.prog 28 #[.pointer (some ⟨b, 0, none⟩), .agg #[.int .i64 x, .int .i64 y, .int .i64 z], .int .i64 day] w fun e w' => e = .returned (.int .i64 1) ∧ Below w.heap.size w w' := by
  have H := Lib.hid h
  clear h
  go_enter Try.func28, Try.ntmps28
  go_wp2_with (go_at_call 37; refine (none_zero b _ (H.out.alloc _)).mono ?_; rintro e w' ⟨rfl, rfl⟩)
  go_ret
  exact ⟨rfl, by go_grown⟩

theorem Blk.five {w : World} {b t : Nat} {x0 x1 x2 x3 x4 : Value} (h : Blk w b t #[x0, x1, x2, x3, x4]) : w.cell? ⟨b, 0, none⟩ = some x0 ∧ w.cell? ⟨b, 1, none⟩ = some x1 ∧ w.cell? ⟨b, 2, none⟩ = some x2 ∧ w.cell? ⟨b, 3, none⟩ = some x3 ∧ w.cell? ⟨b, 4, none⟩ = some x4 :=
  ⟨h.cell 0, h.cell 1, h.cell 2, h.cell 3, h.cell 4⟩

set_option maxHeartbeats 2000000 in
theorem nothing_walk (h : Bool) (n x y z server : Int) (w : World) :
    Calls Try.prog 9 #[.agg #[.bool h, .int .i64 n, .int .i64 x, .int .i64 y, .int .i64 z], .int .i64 server] w fun e w' => e = .returned (.bool true) ∧ Below w.heap.size w w' := by
  go_enter Try.func9, Try.ntmps9
  go_wp2_with fail
  refine (sanity_any _).mono ?_
  rintro e w1 ⟨rfl, hb1⟩
  have B1 : Blk w1 w.heap.size 41 #[.bool h, .int .i64 n, .int .i64 x, .int .i64 y, .int .i64 z] := (Blk.new _ _ _).below hb1 (by simp)
  have G1 : Below w.heap.size w w1 := ((Below.refl _ _).alloc (Nat.le_refl _) _).trans (hb1.mono (by simp))
  generalize hb : w.heap.size = b at *
  have HB := Lib.hid hb
  clear hb1 hb
  go_wp2_with fail
  have B2 := (B1.alloc (.cells (ck 0 0 0 0) 57)).alloc (.cells #[.pointer none, .pointer (some ⟨w1.heap.size, 0, none⟩)] 34)
  have C2 := (Blk.new w1 57 (ck 0 0 0 0)).alloc (.cells #[.pointer none, .pointer (some ⟨w1.heap.size, 0, none⟩)] 34)
  have A2 : Blk _ (w1.heap.size + 1) 34 #[.pointer none, .pointer (some ⟨w1.heap.size, 0, none⟩)] := Blk.new_at (w := w1.alloc (.cells (ck 0 0 0 0) 57)) (by simp)
  have G2 := (G1.alloc (Nat.le_of_lt B1.lt) (.cells (ck 0 0 0 0) 57)).alloc (by simp; exact Nat.le_of_lt (Nat.lt_succ_of_lt B1.lt)) (.cells #[.pointer none, .pointer (some ⟨w1.heap.size, 0, none⟩)] 34)
  clear B1 G1
  generalize (w1.alloc (.cells (ck 0 0 0 0) 57)).alloc (.cells #[.pointer none, .pointer (some ⟨w1.heap.size, 0, none⟩)] 34) = w2 at *
  generalize w1.heap.size = q at *
  refine wp_loop_rounds 3 ?_
  rw [rounds_succ]
  obtain ⟨x0, x1, x2, x3, x4⟩ := B2.five
  have a0 : w2.cell? ⟨q + 1, 0, none⟩ = some (.pointer none) := A2.cell 0
  have a1 : w2.cell? ⟨q + 1, 1, none⟩ = some (.pointer (some ⟨q, 0, none⟩)) := A2.cell 1
  go_wp2_with fail
  refine (now_nil n _).mono ?_
  rintro e u2 ⟨rfl, hb⟩
  have B2' := B2.below hb B2.lt
  have A2' := A2.below hb A2.lt
  have C2' := C2.below hb C2.lt
  have G2' := G2.trans (hb.mono (Nat.le_of_lt B2.lt))
  clear hb A2 B2 C2 G2 x0 x1 x2 x3 x4 a0 a1
  go_upto_region 6 with (fail)
  have B22 := B2'.alloc (.cells #[.int .i64 0, .int .i64 0, .int .i64 0] 39)
  have A22 := A2'.alloc (.cells #[.int .i64 0, .int .i64 0, .int .i64 0] 39)
  have C22 := C2'.alloc (.cells #[.int .i64 0, .int .i64 0, .int .i64 0] 39)
  have S22 := Blk.new u2 39 #[.int .i64 0, .int .i64 0, .int .i64 0]
  have G22 := G2'.alloc (Nat.le_of_lt B2'.lt) (.cells #[.int .i64 0, .int .i64 0, .int .i64 0] 39)
  generalize u2.alloc (.cells #[.int .i64 0, .int .i64 0, .int .i64 0] 39) = v2 at *
  generalize u2.heap.size = g2 at *
  clear B2' A2' C2' G2'
  obtain ⟨x0, x1, x2, x3, x4⟩ := B22.five
  have s0 : _ ∧ _ ∧ _ := S22.three
  go_wp2_with fail
  refine (hear_nil x y z n _).mono ?_
  rintro e w3 ⟨rfl, hb⟩
  have B3 := B22.below hb B22.lt
  have A3 := A22.below hb A22.lt
  have C3 := C22.below hb C22.lt
  have G3 := G22.trans (hb.mono (Nat.le_of_lt B22.lt))
  clear hb A22 B22 C22 G22 S22 s0 x0 x1 x2 x3 x4
  go_wp2_with fail
  rw [rounds_succ]
  obtain ⟨x0, x1, x2, x3, x4⟩ := B3.five
  have a0 : w3.cell? ⟨q + 1, 0, none⟩ = some (.pointer none) := A3.cell 0
  have a1 : w3.cell? ⟨q + 1, 1, none⟩ = some (.pointer (some ⟨q, 0, none⟩)) := A3.cell 1
  go_wp2_with fail
  refine (now_zero q n _ C3).mono ?_
  rintro e u3 ⟨rfl, hb⟩
  have B3' := B3.below hb B3.lt
  have A3' := A3.below hb A3.lt
  have C3' := C3.below hb C3.lt
  have G3' := G3.trans (hb.mono (Nat.le_of_lt B3.lt))
  clear hb A3 B3 C3 G3 x0 x1 x2 x3 x4 a0 a1
  go_upto_region 6 with (fail)
  have B32 := B3'.alloc (.cells #[.int .i64 0, .int .i64 0, .int .i64 0] 39)
  have A32 := A3'.alloc (.cells #[.int .i64 0, .int .i64 0, .int .i64 0] 39)
  have C32 := C3'.alloc (.cells #[.int .i64 0, .int .i64 0, .int .i64 0] 39)
  have S32 := Blk.new u3 39 #[.int .i64 0, .int .i64 0, .int .i64 0]
  have G32 := G3'.alloc (Nat.le_of_lt B3'.lt) (.cells #[.int .i64 0, .int .i64 0, .int .i64 0] 39)
  generalize u3.alloc (.cells #[.int .i64 0, .int .i64 0, .int .i64 0] 39) = v3 at *
  generalize u3.heap.size = g3 at *
  clear B3' A3' C3' G3'
  obtain ⟨x0, x1, x2, x3, x4⟩ := B32.five
  have s0 : _ ∧ _ ∧ _ := S32.three
  go_wp2_with fail
  refine (hear_zero q x y z n _ C32).mono ?_
  rintro e w4 ⟨rfl, hb⟩
  have B4 := B32.below hb B32.lt
  have A4 := A32.below hb A32.lt
  have C4 := C32.below hb C32.lt
  have G4 := G32.trans (hb.mono (Nat.le_of_lt B32.lt))
  clear hb A32 B32 C32 G32 S32 s0 x0 x1 x2 x3 x4
  go_wp2_with fail
  rw [rounds_succ]
  go_wp2_with fail
  by_cases hs : 1 ≤ server ∧ server ≤ 8
  · obtain ⟨k1, k2⟩ := hs
    refine (new_yes server _ k1 k2).mono ?_
    rintro e w5 ⟨rfl, rfl⟩
    go_wp2_with fail
    go_ret
    rw [HB.out]
    exact ⟨rfl, G4.alloc (Nat.le_of_lt B4.lt) _⟩
  · by_cases k1 : server < 1
    · refine (new_no server _ (.inl k1)).mono ?_
      rintro e w5 ⟨rfl, rfl⟩
      go_wp2_with fail
      go_ret
      rw [HB.out]
      exact ⟨rfl, G4⟩
    · have k2 : 8 < server := by omega
      have k3 : 1 ≤ server := by omega
      clear hs
      refine (new_no server _ (.inr k2)).mono ?_
      rintro e w5 ⟨rfl, rfl⟩
      go_wp2_with fail
      go_ret
      rw [HB.out]
      exact ⟨ret_bool (by simp; omega), G4⟩
end Go.Proofs.Ytcpnlcgpgljlbaa
