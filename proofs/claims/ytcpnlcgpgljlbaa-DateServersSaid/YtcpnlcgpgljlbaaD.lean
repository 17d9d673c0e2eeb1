/- Contracts of the clocks' methods: Now of the reference, Hear of both. -/
import Derived.Test.YtcpnlcgpgljlbaaC
namespace Go.Proofs.Ytcpnlcgpgljlbaa
open Go.RowKit
set_option linter.unusedVariables false

theorem right_bd {n : Int} (h : rightB n = true) : 0 ≤ n ∧ n ≤ 100000 := by simpa [rightB] using h

theorem rnow_bad (b : Nat) (sv d c s day : Int) (w : World) (h : Blk w b 64 (ck sv d c s)) (hs : 1 ≤ sv) (hd : rightB day = false) :
    Calls Try.prog 31 #[.pointer (some ⟨b, 0, none⟩), .int .i64 day] w fun e w' => e = .returned (.tuple #[.agg #[.int .i64 0, .int .i64 0, .int .i64 0], .int .i64 23]) ∧ Below w.heap.size w w' := by
  have H := Lib.hid h
  obtain ⟨h0, h1, h2, h3⟩ := h.four
  have hz : (sv == 0) = false := by simp; omega
  have hb := h.lt
  have hf := h.frozen
  clear h
  go_enter Try.func31, Try.ntmps31
  go_wp2_with (go_at_call 12; refine (right_ref _ _).mono ?_; rintro e w' ⟨rfl, rfl⟩)
  go_returns
  exact ⟨rfl, by go_grown⟩

theorem rnow_new (b : Nat) (sv d c s day : Int) (w : World) (h : Blk w b 64 (ck sv d c s)) (hs : 1 ≤ sv) (hd : rightB day = true) (hl : d < day) (hc : -1 ≤ c) (hc2 : c ≤ 1073741824) :
    Calls Try.prog 31 #[.pointer (some ⟨b, 0, none⟩), .int .i64 day] w fun e w' => e = .returned (.tuple #[.agg #[.int .i64 day, .int .i64 0, .int .i64 sv], .int .i64 0]) ∧ Blk w' b 64 (ck sv day 0 sv) ∧ w.grownBy w' (some b) := by
  have H := Lib.hid h
  obtain ⟨h0, h1, h2, h3⟩ := h.four
  have hz : (sv == 0) = false := by simp; omega
  have hb := h.lt
  have hf := h.frozen
  clear h
  go_enter Try.func31, Try.ntmps31
  go_wp2_with (go_at_call 12; refine (right_ref _ _).mono ?_; rintro e w' ⟨rfl, rfl⟩)
  go_region
  go_wp2_with fail
  go_returns
  exact ⟨rfl, (((ck_set H.out _ _ _).alloc _).alloc _).drew, only_drew (only_alloc (only_alloc (ck_grown _ _ _ _ _) _) _)⟩

theorem rnow_late (b : Nat) (sv d c s day : Int) (w : World) (h : Blk w b 64 (ck sv d c s)) (hs : 1 ≤ sv) (hd : rightB day = true) (hl : day ≤ d) (hc : -1 ≤ c) (hc2 : c < 1073741824) :
    Calls Try.prog 31 #[.pointer (some ⟨b, 0, none⟩), .int .i64 day] w fun e w' => e = .returned (.tuple #[.agg #[.int .i64 d, .int .i64 (c + 1), .int .i64 sv], .int .i64 0]) ∧ Blk w' b 64 (ck sv d (c + 1) sv) ∧ w.grownBy w' (some b) := by
  have H := Lib.hid h
  obtain ⟨h0, h1, h2, h3⟩ := h.four
  have hz : (sv == 0) = false := by simp; omega
  have hb := h.lt
  have hf := h.frozen
  clear h
  go_enter Try.func31, Try.ntmps31
  go_wp2_with (go_at_call 12; refine (right_ref _ _).mono ?_; rintro e w' ⟨rfl, rfl⟩)
  go_region
  go_wp2_with fail
  go_returns
  exact ⟨rfl, (((ck_set H.out _ _ _).alloc _).alloc _).drew, only_drew (only_alloc (only_alloc (ck_grown _ _ _ _ _) _) _)⟩

theorem rnow_full (b : Nat) (sv d c s day : Int) (w : World) (h : Blk w b 64 (ck sv d c s)) (hs : 1 ≤ sv) (hd : rightB day = true) (hl : day ≤ d) (hc2 : 1073741824 ≤ c) (hc3 : c ≤ 1073741824) :
    Calls Try.prog 31 #[.pointer (some ⟨b, 0, none⟩), .int .i64 day] w fun e w' => e = .returned (.tuple #[.agg #[.int .i64 0, .int .i64 0, .int .i64 0], .int .i64 3]) ∧ Below w.heap.size w w' := by
  have H := Lib.hid h
  obtain ⟨h0, h1, h2, h3⟩ := h.four
  have hz : (sv == 0) = false := by simp; omega
  have hb := h.lt
  have hf := h.frozen
  clear h
  go_enter Try.func31, Try.ntmps31
  go_wp2_with (go_at_call 12; refine (right_ref _ _).mono ?_; rintro e w' ⟨rfl, rfl⟩)
  go_region
  go_wp2_with fail
  go_returns
  exact ⟨rfl, by go_grown⟩

theorem hear_bad1 (b : Nat) (sv d c s sd sc ss day : Int) (w : World) (h : Blk w b 57 (ck sv d c s)) (hs : 1 ≤ sv) (hd : rightB day = false) :
    Calls Try.prog 28 #[.pointer (some ⟨b, 0, none⟩), .agg #[.int .i64 sd, .int .i64 sc, .int .i64 ss], .int .i64 day] w fun e w' => e = .returned (.int .i64 23) ∧ Below w.heap.size w w' := by
  have H := Lib.hid h
  obtain ⟨h0, h1, h2, h3⟩ := h.four
  have hz : (sv == 0) = false := by simp; omega
  have hb := h.lt
  have hf := h.frozen
  clear h
  go_enter Try.func28, Try.ntmps28
  go_wp2_with (first | (go_at_call 37; refine (none_any b sv d c s _ (H.out.alloc _) hs).mono ?_; rintro e w' ⟨rfl, rfl⟩) | (go_at_call 11; refine (right_any _ _).mono ?_; rintro e w' ⟨rfl, rfl⟩))
  go_returns
  exact ⟨rfl, by go_grown⟩
theorem hear_bad2 (b : Nat) (sv d c s sd sc ss day : Int) (w : World) (h : Blk w b 57 (ck sv d c s)) (hs : 1 ≤ sv) (hd : rightB day = true) (hd2 : rightB sd = false) :
    Calls Try.prog 28 #[.pointer (some ⟨b, 0, none⟩), .agg #[.int .i64 sd, .int .i64 sc, .int .i64 ss], .int .i64 day] w fun e w' => e = .returned (.int .i64 23) ∧ Below w.heap.size w w' := by
  have H := Lib.hid h
  obtain ⟨h0, h1, h2, h3⟩ := h.four
  have hz : (sv == 0) = false := by simp; omega
  have hb := h.lt
  have hf := h.frozen
  clear h
  go_enter Try.func28, Try.ntmps28
  go_wp2_with (first | (go_at_call 37; refine (none_any b sv d c s _ (H.out.alloc _) hs).mono ?_; rintro e w' ⟨rfl, rfl⟩) | (go_at_call 11; refine (right_any _ _).mono ?_; rintro e w' ⟨rfl, rfl⟩))
  go_returns
  exact ⟨rfl, by go_grown⟩
theorem hear_bad3 (b : Nat) (sv d c s sd sc ss day : Int) (w : World) (h : Blk w b 57 (ck sv d c s)) (hs : 1 ≤ sv) (hd : rightB day = true) (hd2 : rightB sd = true) (hd3 : 5 < sd - day) :
    Calls Try.prog 28 #[.pointer (some ⟨b, 0, none⟩), .agg #[.int .i64 sd, .int .i64 sc, .int .i64 ss], .int .i64 day] w fun e w' => e = .returned (.int .i64 23) ∧ Below w.heap.size w w' := by
  obtain ⟨x1, x2⟩ := right_bd hd
  obtain ⟨x3, x4⟩ := right_bd hd2
  have H := Lib.hid h
  obtain ⟨h0, h1, h2, h3⟩ := h.four
  have hz : (sv == 0) = false := by simp; omega
  have hb := h.lt
  have hf := h.frozen
  clear h
  go_enter Try.func28, Try.ntmps28
  go_wp2_with (first | (go_at_call 37; refine (none_any b sv d c s _ (H.out.alloc _) hs).mono ?_; rintro e w' ⟨rfl, rfl⟩) | (go_at_call 11; refine (right_any _ _).mono ?_; rintro e w' ⟨rfl, rfl⟩))
  go_returns
  exact ⟨rfl, by go_grown⟩
theorem hear_rng1 (b : Nat) (sv d c s sd sc ss day : Int) (w : World) (h : Blk w b 57 (ck sv d c s)) (hs : 1 ≤ sv) (hd : rightB day = true) (hd2 : rightB sd = true) (hd3 : sd - day ≤ 5) (g1 : sc < 0) :
    Calls Try.prog 28 #[.pointer (some ⟨b, 0, none⟩), .agg #[.int .i64 sd, .int .i64 sc, .int .i64 ss], .int .i64 day] w fun e w' => e = .returned (.int .i64 3) ∧ Below w.heap.size w w' := by
  obtain ⟨x1, x2⟩ := right_bd hd
  obtain ⟨x3, x4⟩ := right_bd hd2
  have H := Lib.hid h
  obtain ⟨h0, h1, h2, h3⟩ := h.four
  have hz : (sv == 0) = false := by simp; omega
  have hb := h.lt
  have hf := h.frozen
  clear h
  go_enter Try.func28, Try.ntmps28
  go_wp2_with (first | (go_at_call 37; refine (none_any b sv d c s _ (H.out.alloc _) hs).mono ?_; rintro e w' ⟨rfl, rfl⟩) | (go_at_call 11; refine (right_any _ _).mono ?_; rintro e w' ⟨rfl, rfl⟩))
  go_returns
  exact ⟨rfl, by go_grown⟩
theorem hear_rng2 (b : Nat) (sv d c s sd sc ss day : Int) (w : World) (h : Blk w b 57 (ck sv d c s)) (hs : 1 ≤ sv) (hd : rightB day = true) (hd2 : rightB sd = true) (hd3 : sd - day ≤ 5) (g1 : 0 ≤ sc) (g2 : 1073741824 < sc) :
    Calls Try.prog 28 #[.pointer (some ⟨b, 0, none⟩), .agg #[.int .i64 sd, .int .i64 sc, .int .i64 ss], .int .i64 day] w fun e w' => e = .returned (.int .i64 3) ∧ Below w.heap.size w w' := by
  obtain ⟨x1, x2⟩ := right_bd hd
  obtain ⟨x3, x4⟩ := right_bd hd2
  have H := Lib.hid h
  obtain ⟨h0, h1, h2, h3⟩ := h.four
  have hz : (sv == 0) = false := by simp; omega
  have hb := h.lt
  have hf := h.frozen
  clear h
  go_enter Try.func28, Try.ntmps28
  go_wp2_with (first | (go_at_call 37; refine (none_any b sv d c s _ (H.out.alloc _) hs).mono ?_; rintro e w' ⟨rfl, rfl⟩) | (go_at_call 11; refine (right_any _ _).mono ?_; rintro e w' ⟨rfl, rfl⟩))
  go_returns
  exact ⟨rfl, by go_grown⟩
theorem hear_rng3 (b : Nat) (sv d c s sd sc ss day : Int) (w : World) (h : Blk w b 57 (ck sv d c s)) (hs : 1 ≤ sv) (hd : rightB day = true) (hd2 : rightB sd = true) (hd3 : sd - day ≤ 5) (g1 : 0 ≤ sc) (g2 : sc ≤ 1073741824) (g3 : ss < 1) :
    Calls Try.prog 28 #[.pointer (some ⟨b, 0, none⟩), .agg #[.int .i64 sd, .int .i64 sc, .int .i64 ss], .int .i64 day] w fun e w' => e = .returned (.int .i64 3) ∧ Below w.heap.size w w' := by
  obtain ⟨x1, x2⟩ := right_bd hd
  obtain ⟨x3, x4⟩ := right_bd hd2
  have H := Lib.hid h
  obtain ⟨h0, h1, h2, h3⟩ := h.four
  have hz : (sv == 0) = false := by simp; omega
  have hb := h.lt
  have hf := h.frozen
  clear h
  go_enter Try.func28, Try.ntmps28
  go_wp2_with (first | (go_at_call 37; refine (none_any b sv d c s _ (H.out.alloc _) hs).mono ?_; rintro e w' ⟨rfl, rfl⟩) | (go_at_call 11; refine (right_any _ _).mono ?_; rintro e w' ⟨rfl, rfl⟩))
  go_returns
  exact ⟨rfl, by go_grown⟩
theorem hear_rng4 (b : Nat) (sv d c s sd sc ss day : Int) (w : World) (h : Blk w b 57 (ck sv d c s)) (hs : 1 ≤ sv) (hd : rightB day = true) (hd2 : rightB sd = true) (hd3 : sd - day ≤ 5) (g1 : 0 ≤ sc) (g2 : sc ≤ 1073741824) (g3 : 1 ≤ ss) (g4 : 8 < ss) :
    Calls Try.prog 28 #[.pointer (some ⟨b, 0, none⟩), .agg #[.int .i64 sd, .int .i64 sc, .int .i64 ss], .int .i64 day] w fun e w' => e = .returned (.int .i64 3) ∧ Below w.heap.size w w' := by
  obtain ⟨x1, x2⟩ := right_bd hd
  obtain ⟨x3, x4⟩ := right_bd hd2
  have H := Lib.hid h
  obtain ⟨h0, h1, h2, h3⟩ := h.four
  have hz : (sv == 0) = false := by simp; omega
  have hb := h.lt
  have hf := h.frozen
  clear h
  go_enter Try.func28, Try.ntmps28
  go_wp2_with (first | (go_at_call 37; refine (none_any b sv d c s _ (H.out.alloc _) hs).mono ?_; rintro e w' ⟨rfl, rfl⟩) | (go_at_call 11; refine (right_any _ _).mono ?_; rintro e w' ⟨rfl, rfl⟩))
  go_returns
  exact ⟨rfl, by go_grown⟩
set_option maxHeartbeats 1000000 in
theorem hear_take (b : Nat) (sv d c s sd sc ss day : Int) (w : World) (h : Blk w b 57 (ck sv d c s)) (hs : 1 ≤ sv) (hd : rightB day = true) (hd2 : rightB sd = true) (hd3 : sd - day ≤ 5) (g1 : 0 ≤ sc) (g2 : sc ≤ 1073741824) (g3 : 1 ≤ ss) (g4 : ss ≤ 8) (hl : lessB d c s sd sc ss = true) :
    Calls Try.prog 28 #[.pointer (some ⟨b, 0, none⟩), .agg #[.int .i64 sd, .int .i64 sc, .int .i64 ss], .int .i64 day] w fun e w' => e = .returned (.int .i64 0) ∧ Blk w' b 57 (ck sv sd sc ss) ∧ w.grownBy w' (some b) := by
  obtain ⟨x1, x2⟩ := right_bd hd
  obtain ⟨x3, x4⟩ := right_bd hd2
  have H := Lib.hid h
  obtain ⟨h0, h1, h2, h3⟩ := h.four
  have hz : (sv == 0) = false := by simp; omega
  have hb := h.lt
  have hf := h.frozen
  clear h
  go_enter Try.func28, Try.ntmps28
  go_wp2_with (first | (go_at_call 37; refine (none_any b sv d c s _ (H.out.alloc _) hs).mono ?_; rintro e w' ⟨rfl, rfl⟩) | (go_at_call 11; refine (right_any _ _).mono ?_; rintro e w' ⟨rfl, rfl⟩))
  go_region_held3 (fun w' => w'.cell? ⟨b, 1, none⟩ = some (.int .i64 d) ∧ w'.cell? ⟨b, 2, none⟩ = some (.int .i64 c) ∧ w'.cell? ⟨b, 3, none⟩ = some (.int .i64 s) ∧ w'.cell? ⟨w.heap.size, 0, none⟩ = some (.int .i64 sd) ∧ w'.cell? ⟨w.heap.size, 1, none⟩ = some (.int .i64 sc) ∧ w'.cell? ⟨w.heap.size, 2, none⟩ = some (.int .i64 ss)) (first | (simp [*, go_sem, World.cell?_alloc_past]; done) | (refine ⟨?_, ?_, ?_, ?_, ?_, ?_⟩ <;> (rw [hbl.cell (by simp; try omega)]; (simp [*, go_sem]; done))))
    (first | (go_at_call 32; refine (less_any _ _ _ _ _ _ _).mono ?_; rintro e w' ⟨rfl, hbl⟩))
  have k1 : w'.cell? ⟨b, 1, none⟩ = some (.int .i64 d) := by rw [hbl.cell (by simp; try omega)]; simp [*, go_sem]
  have k2 : w'.cell? ⟨b, 2, none⟩ = some (.int .i64 c) := by rw [hbl.cell (by simp; try omega)]; simp [*, go_sem]
  have k3 : w'.cell? ⟨b, 3, none⟩ = some (.int .i64 s) := by rw [hbl.cell (by simp; try omega)]; simp [*, go_sem]
  have k4 : w'.cell? ⟨w.heap.size, 0, none⟩ = some (.int .i64 sd) := by rw [hbl.cell (by simp; try omega)]; simp [*, go_sem]
  have k5 : w'.cell? ⟨w.heap.size, 1, none⟩ = some (.int .i64 sc) := by rw [hbl.cell (by simp; try omega)]; simp [*, go_sem]
  have k6 : w'.cell? ⟨w.heap.size, 2, none⟩ = some (.int .i64 ss) := by rw [hbl.cell (by simp; try omega)]; simp [*, go_sem]
  have kb : Blk w' b 57 (ck sv d c s) := ((H.out.alloc _).drew).below hbl (by simp; try omega)
  have kg : w.grownBy w' (some b) := (only_drew (only_alloc (World.grownBy.refl _ _) _)).trans (only_of_below hbl _)
  have kf := kb.frozen
  have KK := Lib.hid (And.intro kb kg)
  clear kb kg hbl
  go_wp2_with fail
  go_returns
  exact ⟨rfl, ck_set KK.out.1 _ _ _, KK.out.2.trans (ck_grown _ _ _ _ _)⟩
set_option maxHeartbeats 1000000 in
theorem hear_keep (b : Nat) (sv d c s sd sc ss day : Int) (w : World) (h : Blk w b 57 (ck sv d c s)) (hs : 1 ≤ sv) (hd : rightB day = true) (hd2 : rightB sd = true) (hd3 : sd - day ≤ 5) (g1 : 0 ≤ sc) (g2 : sc ≤ 1073741824) (g3 : 1 ≤ ss) (g4 : ss ≤ 8) (hl : lessB d c s sd sc ss = false) :
    Calls Try.prog 28 #[.pointer (some ⟨b, 0, none⟩), .agg #[.int .i64 sd, .int .i64 sc, .int .i64 ss], .int .i64 day] w fun e w' => e = .returned (.int .i64 0) ∧ Below w.heap.size w w' := by
  obtain ⟨x1, x2⟩ := right_bd hd
  obtain ⟨x3, x4⟩ := right_bd hd2
  have H := Lib.hid h
  obtain ⟨h0, h1, h2, h3⟩ := h.four
  have hz : (sv == 0) = false := by simp; omega
  have hb := h.lt
  have hf := h.frozen
  clear h
  go_enter Try.func28, Try.ntmps28
  go_wp2_with (first | (go_at_call 37; refine (none_any b sv d c s _ (H.out.alloc _) hs).mono ?_; rintro e w' ⟨rfl, rfl⟩) | (go_at_call 11; refine (right_any _ _).mono ?_; rintro e w' ⟨rfl, rfl⟩))
  go_region_held3 (fun w' => w'.cell? ⟨b, 1, none⟩ = some (.int .i64 d) ∧ w'.cell? ⟨b, 2, none⟩ = some (.int .i64 c) ∧ w'.cell? ⟨b, 3, none⟩ = some (.int .i64 s) ∧ w'.cell? ⟨w.heap.size, 0, none⟩ = some (.int .i64 sd) ∧ w'.cell? ⟨w.heap.size, 1, none⟩ = some (.int .i64 sc) ∧ w'.cell? ⟨w.heap.size, 2, none⟩ = some (.int .i64 ss)) (first | (simp [*, go_sem, World.cell?_alloc_past]; done) | (refine ⟨?_, ?_, ?_, ?_, ?_, ?_⟩ <;> (rw [hbl.cell (by simp; try omega)]; (simp [*, go_sem]; done))))
    (first | (go_at_call 32; refine (less_any _ _ _ _ _ _ _).mono ?_; rintro e w' ⟨rfl, hbl⟩))
  have kg : Below w.heap.size w w' := ((Below.refl _ _).alloc (Nat.le_refl _) _).drew.trans (hbl.mono (by simp; try omega))
  clear hbl
  go_wp2_with fail
  go_returns
  exact ⟨rfl, kg⟩
theorem rhear_bad1 (b : Nat) (sv d c s sd sc ss day : Int) (w : World) (h : Blk w b 64 (ck sv d c s)) (hs : 1 ≤ sv) (hd : rightB day = false) :
    Calls Try.prog 29 #[.pointer (some ⟨b, 0, none⟩), .agg #[.int .i64 sd, .int .i64 sc, .int .i64 ss], .int .i64 day] w fun e w' => e = .returned (.int .i64 23) ∧ Below w.heap.size w w' := by
  have H := Lib.hid h
  obtain ⟨h0, h1, h2, h3⟩ := h.four
  have hz : (sv == 0) = false := by simp; omega
  have hb := h.lt
  have hf := h.frozen
  clear h
  go_enter Try.func29, Try.ntmps29
  go_wp2_with (first | (go_at_call 12; refine (right_ref _ _).mono ?_; rintro e w' ⟨rfl, rfl⟩))
  go_returns
  exact ⟨rfl, by go_grown⟩
theorem rhear_bad2 (b : Nat) (sv d c s sd sc ss day : Int) (w : World) (h : Blk w b 64 (ck sv d c s)) (hs : 1 ≤ sv) (hd : rightB day = true) (hd2 : rightB sd = false) :
    Calls Try.prog 29 #[.pointer (some ⟨b, 0, none⟩), .agg #[.int .i64 sd, .int .i64 sc, .int .i64 ss], .int .i64 day] w fun e w' => e = .returned (.int .i64 23) ∧ Below w.heap.size w w' := by
  have H := Lib.hid h
  obtain ⟨h0, h1, h2, h3⟩ := h.four
  have hz : (sv == 0) = false := by simp; omega
  have hb := h.lt
  have hf := h.frozen
  clear h
  go_enter Try.func29, Try.ntmps29
  go_wp2_with (first | (go_at_call 12; refine (right_ref _ _).mono ?_; rintro e w' ⟨rfl, rfl⟩))
  go_returns
  exact ⟨rfl, by go_grown⟩
theorem rhear_bad3 (b : Nat) (sv d c s sd sc ss day : Int) (w : World) (h : Blk w b 64 (ck sv d c s)) (hs : 1 ≤ sv) (hd : rightB day = true) (hd2 : rightB sd = true) (hd3 : 5 < sd - day) :
    Calls Try.prog 29 #[.pointer (some ⟨b, 0, none⟩), .agg #[.int .i64 sd, .int .i64 sc, .int .i64 ss], .int .i64 day] w fun e w' => e = .returned (.int .i64 23) ∧ Below w.heap.size w w' := by
  obtain ⟨x1, x2⟩ := right_bd hd
  obtain ⟨x3, x4⟩ := right_bd hd2
  have H := Lib.hid h
  obtain ⟨h0, h1, h2, h3⟩ := h.four
  have hz : (sv == 0) = false := by simp; omega
  have hb := h.lt
  have hf := h.frozen
  clear h
  go_enter Try.func29, Try.ntmps29
  go_wp2_with (first | (go_at_call 12; refine (right_ref _ _).mono ?_; rintro e w' ⟨rfl, rfl⟩))
  go_returns
  exact ⟨rfl, by go_grown⟩
theorem rhear_rng1 (b : Nat) (sv d c s sd sc ss day : Int) (w : World) (h : Blk w b 64 (ck sv d c s)) (hs : 1 ≤ sv) (hd : rightB day = true) (hd2 : rightB sd = true) (hd3 : sd - day ≤ 5) (g1 : sc < 0) :
    Calls Try.prog 29 #[.pointer (some ⟨b, 0, none⟩), .agg #[.int .i64 sd, .int .i64 sc, .int .i64 ss], .int .i64 day] w fun e w' => e = .returned (.int .i64 3) ∧ Below w.heap.size w w' := by
  obtain ⟨x1, x2⟩ := right_bd hd
  obtain ⟨x3, x4⟩ := right_bd hd2
  have H := Lib.hid h
  obtain ⟨h0, h1, h2, h3⟩ := h.four
  have hz : (sv == 0) = false := by simp; omega
  have hb := h.lt
  have hf := h.frozen
  clear h
  go_enter Try.func29, Try.ntmps29
  go_wp2_with (first | (go_at_call 12; refine (right_ref _ _).mono ?_; rintro e w' ⟨rfl, rfl⟩))
  go_returns
  exact ⟨rfl, by go_grown⟩
theorem rhear_rng2 (b : Nat) (sv d c s sd sc ss day : Int) (w : World) (h : Blk w b 64 (ck sv d c s)) (hs : 1 ≤ sv) (hd : rightB day = true) (hd2 : rightB sd = true) (hd3 : sd - day ≤ 5) (g1 : 0 ≤ sc) (g2 : 1073741824 < sc) :
    Calls Try.prog 29 #[.pointer (some ⟨b, 0, none⟩), .agg #[.int .i64 sd, .int .i64 sc, .int .i64 ss], .int .i64 day] w fun e w' => e = .returned (.int .i64 3) ∧ Below w.heap.size w w' := by
  obtain ⟨x1, x2⟩ := right_bd hd
  obtain ⟨x3, x4⟩ := right_bd hd2
  have H := Lib.hid h
  obtain ⟨h0, h1, h2, h3⟩ := h.four
  have hz : (sv == 0) = false := by simp; omega
  have hb := h.lt
  have hf := h.frozen
  clear h
  go_enter Try.func29, Try.ntmps29
  go_wp2_with (first | (go_at_call 12; refine (right_ref _ _).mono ?_; rintro e w' ⟨rfl, rfl⟩))
  go_returns
  exact ⟨rfl, by go_grown⟩
theorem rhear_rng3 (b : Nat) (sv d c s sd sc ss day : Int) (w : World) (h : Blk w b 64 (ck sv d c s)) (hs : 1 ≤ sv) (hd : rightB day = true) (hd2 : rightB sd = true) (hd3 : sd - day ≤ 5) (g1 : 0 ≤ sc) (g2 : sc ≤ 1073741824) (g3 : ss < 1) :
    Calls Try.prog 29 #[.pointer (some ⟨b, 0, none⟩), .agg #[.int .i64 sd, .int .i64 sc, .int .i64 ss], .int .i64 day] w fun e w' => e = .returned (.int .i64 3) ∧ Below w.heap.size w w' := by
  obtain ⟨x1, x2⟩ := right_bd hd
  obtain ⟨x3, x4⟩ := right_bd hd2
  have H := Lib.hid h
  obtain ⟨h0, h1, h2, h3⟩ := h.four
  have hz : (sv == 0) = false := by simp; omega
  have hb := h.lt
  have hf := h.frozen
  clear h
  go_enter Try.func29, Try.ntmps29
  go_wp2_with (first | (go_at_call 12; refine (right_ref _ _).mono ?_; rintro e w' ⟨rfl, rfl⟩))
  go_returns
  exact ⟨rfl, by go_grown⟩
theorem rhear_rng4 (b : Nat) (sv d c s sd sc ss day : Int) (w : World) (h : Blk w b 64 (ck sv d c s)) (hs : 1 ≤ sv) (hd : rightB day = true) (hd2 : rightB sd = true) (hd3 : sd - day ≤ 5) (g1 : 0 ≤ sc) (g2 : sc ≤ 1073741824) (g3 : 1 ≤ ss) (g4 : 8 < ss) :
    Calls Try.prog 29 #[.pointer (some ⟨b, 0, none⟩), .agg #[.int .i64 sd, .int .i64 sc, .int .i64 ss], .int .i64 day] w fun e w' => e = .returned (.int .i64 3) ∧ Below w.heap.size w w' := by
  obtain ⟨x1, x2⟩ := right_bd hd
  obtain ⟨x3, x4⟩ := right_bd hd2
  have H := Lib.hid h
  obtain ⟨h0, h1, h2, h3⟩ := h.four
  have hz : (sv == 0) = false := by simp; omega
  have hb := h.lt
  have hf := h.frozen
  clear h
  go_enter Try.func29, Try.ntmps29
  go_wp2_with (first | (go_at_call 12; refine (right_ref _ _).mono ?_; rintro e w' ⟨rfl, rfl⟩))
  go_returns
  exact ⟨rfl, by go_grown⟩
set_option maxHeartbeats 1000000 in
theorem rhear_take (b : Nat) (sv d c s sd sc ss day : Int) (w : World) (h : Blk w b 64 (ck sv d c s)) (hs : 1 ≤ sv) (hd : rightB day = true) (hd2 : rightB sd = true) (hd3 : sd - day ≤ 5) (g1 : 0 ≤ sc) (g2 : sc ≤ 1073741824) (g3 : 1 ≤ ss) (g4 : ss ≤ 8) (hl : lessB d c s sd sc ss = true) :
    Calls Try.prog 29 #[.pointer (some ⟨b, 0, none⟩), .agg #[.int .i64 sd, .int .i64 sc, .int .i64 ss], .int .i64 day] w fun e w' => e = .returned (.int .i64 0) ∧ Blk w' b 64 (ck sv sd sc ss) ∧ w.grownBy w' (some b) := by
  obtain ⟨x1, x2⟩ := right_bd hd
  obtain ⟨x3, x4⟩ := right_bd hd2
  have H := Lib.hid h
  obtain ⟨h0, h1, h2, h3⟩ := h.four
  have hz : (sv == 0) = false := by simp; omega
  have hb := h.lt
  have hf := h.frozen
  clear h
  go_enter Try.func29, Try.ntmps29
  go_wp2_with (first | (go_at_call 12; refine (right_ref _ _).mono ?_; rintro e w' ⟨rfl, rfl⟩))
  go_region_held3 (fun w' => w'.cell? ⟨b, 1, none⟩ = some (.int .i64 d) ∧ w'.cell? ⟨b, 2, none⟩ = some (.int .i64 c) ∧ w'.cell? ⟨b, 3, none⟩ = some (.int .i64 s) ∧ w'.cell? ⟨w.heap.size, 0, none⟩ = some (.int .i64 sd) ∧ w'.cell? ⟨w.heap.size, 1, none⟩ = some (.int .i64 sc) ∧ w'.cell? ⟨w.heap.size, 2, none⟩ = some (.int .i64 ss)) (first | (simp [*, go_sem, World.cell?_alloc_past]; done) | (refine ⟨?_, ?_, ?_, ?_, ?_, ?_⟩ <;> (rw [hbl.cell (by simp; try omega)]; (simp [*, go_sem]; done))))
    (first | (go_at_call 33; refine (less_ref _ _ _ _ _ _ _).mono ?_; rintro e w' ⟨rfl, hbl⟩))
  have k1 : w'.cell? ⟨b, 1, none⟩ = some (.int .i64 d) := by rw [hbl.cell (by simp; try omega)]; simp [*, go_sem]
  have k2 : w'.cell? ⟨b, 2, none⟩ = some (.int .i64 c) := by rw [hbl.cell (by simp; try omega)]; simp [*, go_sem]
  have k3 : w'.cell? ⟨b, 3, none⟩ = some (.int .i64 s) := by rw [hbl.cell (by simp; try omega)]; simp [*, go_sem]
  have k4 : w'.cell? ⟨w.heap.size, 0, none⟩ = some (.int .i64 sd) := by rw [hbl.cell (by simp; try omega)]; simp [*, go_sem]
  have k5 : w'.cell? ⟨w.heap.size, 1, none⟩ = some (.int .i64 sc) := by rw [hbl.cell (by simp; try omega)]; simp [*, go_sem]
  have k6 : w'.cell? ⟨w.heap.size, 2, none⟩ = some (.int .i64 ss) := by rw [hbl.cell (by simp; try omega)]; simp [*, go_sem]
  have kb : Blk w' b 64 (ck sv d c s) := ((H.out.alloc _).drew).below hbl (by simp; try omega)
  have kg : w.grownBy w' (some b) := (only_drew (only_alloc (World.grownBy.refl _ _) _)).trans (only_of_below hbl _)
  have kf := kb.frozen
  have KK := Lib.hid (And.intro kb kg)
  clear kb kg hbl
  go_wp2_with fail
  go_returns
  exact ⟨rfl, ck_set KK.out.1 _ _ _, KK.out.2.trans (ck_grown _ _ _ _ _)⟩
set_option maxHeartbeats 1000000 in
theorem rhear_keep (b : Nat) (sv d c s sd sc ss day : Int) (w : World) (h : Blk w b 64 (ck sv d c s)) (hs : 1 ≤ sv) (hd : rightB day = true) (hd2 : rightB sd = true) (hd3 : sd - day ≤ 5) (g1 : 0 ≤ sc) (g2 : sc ≤ 1073741824) (g3 : 1 ≤ ss) (g4 : ss ≤ 8) (hl : lessB d c s sd sc ss = false) :
    Calls Try.prog 29 #[.pointer (some ⟨b, 0, none⟩), .agg #[.int .i64 sd, .int .i64 sc, .int .i64 ss], .int .i64 day] w fun e w' => e = .returned (.int .i64 0) ∧ Below w.heap.size w w' := by
  obtain ⟨x1, x2⟩ := right_bd hd
  obtain ⟨x3, x4⟩ := right_bd hd2
  have H := Lib.hid h
  obtain ⟨h0, h1, h2, h3⟩ := h.four
  have hz : (sv == 0) = false := by simp; omega
  have hb := h.lt
  have hf := h.frozen
  clear h
  go_enter Try.func29, Try.ntmps29
  go_wp2_with (first | (go_at_call 12; refine (right_ref _ _).mono ?_; rintro e w' ⟨rfl, rfl⟩))
  go_region_held3 (fun w' => w'.cell? ⟨b, 1, none⟩ = some (.int .i64 d) ∧ w'.cell? ⟨b, 2, none⟩ = some (.int .i64 c) ∧ w'.cell? ⟨b, 3, none⟩ = some (.int .i64 s) ∧ w'.cell? ⟨w.heap.size, 0, none⟩ = some (.int .i64 sd) ∧ w'.cell? ⟨w.heap.size, 1, none⟩ = some (.int .i64 sc) ∧ w'.cell? ⟨w.heap.size, 2, none⟩ = some (.int .i64 ss)) (first | (simp [*, go_sem, World.cell?_alloc_past]; done) | (refine ⟨?_, ?_, ?_, ?_, ?_, ?_⟩ <;> (rw [hbl.cell (by simp; try omega)]; (simp [*, go_sem]; done))))
    (first | (go_at_call 33; refine (less_ref _ _ _ _ _ _ _).mono ?_; rintro e w' ⟨rfl, hbl⟩))
  have kg : Below w.heap.size w w' := ((Below.refl _ _).alloc (Nat.le_refl _) _).drew.trans (hbl.mono (by simp; try omega))
  clear hbl
  go_wp2_with fail
  go_returns
  exact ⟨rfl, kg⟩
end Go.Proofs.Ytcpnlcgpgljlbaa
