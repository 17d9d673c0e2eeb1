/- Contracts of the clocks' methods: New, Now and Hear, of date and of its reference. -/
import Derived.Test.YtcpnlcgpgljlbaaB
namespace Go.Proofs.Ytcpnlcgpgljlbaa
open Go.RowKit

/-- Block b is a clock of type t. -/
abbrev ck (sv d c s : Int) : Array Value := #[.int .i64 sv, .int .i64 d, .int .i64 c, .int .i64 s]
theorem Blk.four {w : World} {b t : Nat} {x0 x1 x2 x3 : Value} (h : Blk w b t #[x0, x1, x2, x3]) : w.cell? ⟨b, 0, none⟩ = some x0 ∧ w.cell? ⟨b, 1, none⟩ = some x1 ∧ w.cell? ⟨b, 2, none⟩ = some x2 ∧ w.cell? ⟨b, 3, none⟩ = some x3 :=
  ⟨h.cell 0, h.cell 1, h.cell 2, h.cell 3⟩

theorem ck_set {w : World} {b t : Nat} {sv d c s : Int} (h : Blk w b t (ck sv d c s)) (d' c' s' : Int) :
    Blk (((w.setCell ⟨b, 1, none⟩ (.int .i64 d')).setCell ⟨b, 2, none⟩ (.int .i64 c')).setCell ⟨b, 3, none⟩ (.int .i64 s')) b t (ck sv d' c' s') := by
  have := ((h.set_ 1 (.int .i64 d')).set_ 2 (.int .i64 c')).set_ 3 (.int .i64 s')
  simpa using this
theorem ck_grown (w : World) (b : Nat) (x y z : Value) : w.grownBy (((w.setCell ⟨b, 1, none⟩ x).setCell ⟨b, 2, none⟩ y).setCell ⟨b, 3, none⟩ z) (some b) := by
  have e1 := only_setCell (World.grownBy.refl w (some b)) (p := ⟨b, 1, none⟩) (Or.inl rfl) x
  have e2 := only_setCell e1 (p := ⟨b, 2, none⟩) (Or.inl rfl) y
  exact only_setCell e2 (p := ⟨b, 3, none⟩) (Or.inl rfl) z

theorem none_any (b : Nat) (sv d c s : Int) (w : World) (h : Blk w b 57 (ck sv d c s)) (hs : 1 ≤ sv) :
    Calls Try.prog 37 #[.pointer (some ⟨b, 0, none⟩)] w fun e w' => e = .returned (.bool false) ∧ w = w' := by
  obtain ⟨h0, h1, h2, h3⟩ := h.four
  have hz : (sv == 0) = false := by simp; omega
  clear h
  go_enter Try.func37, Try.ntmps37
  go_wp2
  go_ret
  exact ⟨rfl, rfl⟩

theorem new_yes (n : Int) (w : World) (h1 : 1 ≤ n) (h2 : n ≤ 8) :
    Calls Try.prog 25 #[.int .i64 n] w fun e w' => e = .returned (.pointer (some ⟨w.heap.size, 0, none⟩)) ∧ w.alloc (.cells (ck n 0 (-1) 0) 57) = w' := by
  go_enter Try.func25, Try.ntmps25
  go_wp2
  go_ret
  exact ⟨rfl, rfl⟩
theorem new_no (n : Int) (w : World) (h : n < 1 ∨ 8 < n) :
    Calls Try.prog 25 #[.int .i64 n] w fun e w' => e = .returned (.pointer none) ∧ w = w' := by
  rcases h with h | h
  · go_enter Try.func25, Try.ntmps25
    go_wp2
    go_ret
    exact ⟨rfl, rfl⟩
  · go_enter Try.func25, Try.ntmps25
    go_wp2
    go_ret
    exact ⟨rfl, rfl⟩
theorem rnew_yes (n : Int) (w : World) (h1 : 1 ≤ n) (h2 : n ≤ 8) :
    Calls Try.prog 26 #[.int .i64 n] w fun e w' => e = .returned (.pointer (some ⟨w.heap.size, 0, none⟩)) ∧ w.alloc (.cells (ck n 0 (-1) 0) 64) = w' := by
  go_enter Try.func26, Try.ntmps26
  go_wp2
  go_ret
  exact ⟨rfl, rfl⟩
theorem rnew_no (n : Int) (w : World) (h : n < 1 ∨ 8 < n) :
    Calls Try.prog 26 #[.int .i64 n] w fun e w' => e = .returned (.pointer none) ∧ w = w' := by
  rcases h with h | h
  · go_enter Try.func26, Try.ntmps26
    go_wp2
    go_ret
    exact ⟨rfl, rfl⟩
  · go_enter Try.func26, Try.ntmps26
    go_wp2
    go_ret
    exact ⟨rfl, rfl⟩

theorem now_bad (b : Nat) (sv d c s day : Int) (w : World) (h : Blk w b 57 (ck sv d c s)) (hs : 1 ≤ sv) (hd : rightB day = false) :
    Calls Try.prog 30 #[.pointer (some ⟨b, 0, none⟩), .int .i64 day] w fun e w' => e = .returned (.tuple #[.agg #[.int .i64 0, .int .i64 0, .int .i64 0], .int .i64 23]) ∧ Below w.heap.size w w' := by
  have H := Lib.hid h
  clear h
  go_enter Try.func30, Try.ntmps30
  go_wp2_with (first | (go_at_call 37; refine (none_any b sv d c s _ (H.out.alloc _) hs).mono ?_; rintro e w' ⟨rfl, rfl⟩) | (go_at_call 11; refine (right_any _ _).mono ?_; rintro e w' ⟨rfl, rfl⟩))
  go_returns
  exact ⟨rfl, by go_grown⟩

theorem now_new (b : Nat) (sv d c s day : Int) (w : World) (h : Blk w b 57 (ck sv d c s)) (hs : 1 ≤ sv) (hd : rightB day = true) (hl : d < day) :
    Calls Try.prog 30 #[.pointer (some ⟨b, 0, none⟩), .int .i64 day] w fun e w' => e = .returned (.tuple #[.agg #[.int .i64 day, .int .i64 0, .int .i64 sv], .int .i64 0]) ∧ Blk w' b 57 (ck sv day 0 sv) ∧ w.grownBy w' (some b) := by
  have H := Lib.hid h
  obtain ⟨h0, h1, h2, h3⟩ := h.four
  have hb := h.lt
  have hf := h.frozen
  clear h
  go_enter Try.func30, Try.ntmps30
  go_wp2_with (first | (go_at_call 37; refine (none_any b sv d c s _ (H.out.alloc _) hs).mono ?_; rintro e w' ⟨rfl, rfl⟩) | (go_at_call 11; refine (right_any _ _).mono ?_; rintro e w' ⟨rfl, rfl⟩))
  go_returns
  exact ⟨rfl, ((ck_set H.out _ _ _).alloc _).alloc _, only_alloc (only_alloc (ck_grown _ _ _ _ _) _) _⟩

theorem now_late (b : Nat) (sv d c s day : Int) (w : World) (h : Blk w b 57 (ck sv d c s)) (hs : 1 ≤ sv) (hd : rightB day = true) (hl : day ≤ d) (hc : -1 ≤ c) (hc2 : c < 1073741824) :
    Calls Try.prog 30 #[.pointer (some ⟨b, 0, none⟩), .int .i64 day] w fun e w' => e = .returned (.tuple #[.agg #[.int .i64 d, .int .i64 (c + 1), .int .i64 sv], .int .i64 0]) ∧ Blk w' b 57 (ck sv d (c + 1) sv) ∧ w.grownBy w' (some b) := by
  have H := Lib.hid h
  obtain ⟨h0, h1, h2, h3⟩ := h.four
  have hb := h.lt
  have hf := h.frozen
  clear h
  go_enter Try.func30, Try.ntmps30
  go_wp2_with (first | (go_at_call 37; refine (none_any b sv d c s _ (H.out.alloc _) hs).mono ?_; rintro e w' ⟨rfl, rfl⟩) | (go_at_call 11; refine (right_any _ _).mono ?_; rintro e w' ⟨rfl, rfl⟩))
  go_region
  go_wp2_with fail
  go_returns
  exact ⟨rfl, (((ck_set H.out _ _ _).alloc _).alloc _).drew, only_drew (only_alloc (only_alloc (ck_grown _ _ _ _ _) _) _)⟩

theorem now_full (b : Nat) (sv d c s day : Int) (w : World) (h : Blk w b 57 (ck sv d c s)) (hs : 1 ≤ sv) (hd : rightB day = true) (hl : day ≤ d) (hc2 : 1073741824 ≤ c) (hc3 : c ≤ 1073741824) :
    Calls Try.prog 30 #[.pointer (some ⟨b, 0, none⟩), .int .i64 day] w fun e w' => e = .returned (.tuple #[.agg #[.int .i64 0, .int .i64 0, .int .i64 0], .int .i64 3]) ∧ Below w.heap.size w w' := by
  have H := Lib.hid h
  obtain ⟨h0, h1, h2, h3⟩ := h.four
  have hb := h.lt
  have hf := h.frozen
  clear h
  go_enter Try.func30, Try.ntmps30
  go_wp2_with (first | (go_at_call 37; refine (none_any b sv d c s _ (H.out.alloc _) hs).mono ?_; rintro e w' ⟨rfl, rfl⟩) | (go_at_call 11; refine (right_any _ _).mono ?_; rintro e w' ⟨rfl, rfl⟩))
  go_region
  go_wp2_with fail
  go_returns
  exact ⟨rfl, by go_grown⟩
end Go.Proofs.Ytcpnlcgpgljlbaa
