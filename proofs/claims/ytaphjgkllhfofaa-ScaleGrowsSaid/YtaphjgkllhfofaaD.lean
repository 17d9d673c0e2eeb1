/- Ytaphjgkllhfofaa: YtaphjgkllhfofaaD. -/
import Derived.Test.YtaphjgkllhfofaaT
import Derived.Test.YtaphjgkllhfofaaB
namespace Go.Proofs.Ytaphjgkllhfofaa
open Go.Proofs.Ytaphjgkllhfofaa.Am
namespace Sc
theorem up_b (b c : Int) (hb : 0 ≤ b ∧ b < 1000) (hc : 0 ≤ c ∧ c < 1000) : -500 ≤ up b c ∧ up b c ≤ 501 ∧ up b c ≠ b - 500 := by
  rcases up_spec b c with h | h <;> omega
theorem made_ok (a b c : Int) (ha : 0 ≤ a) (hb : 0 ≤ b ∧ b < 1000) (hc : 0 ≤ c ∧ c < 1000) : okS (made a b c) := by
  have h := up_b b c hb hc
  have hm := tmod_bound a (m := max (b - 500) (up b c) - min (b - 500) (up b c) + 1) (by omega)
  have h0 : 0 ≤ a.tmod (max (b - 500) (up b c) - min (b - 500) (up b c) + 1) := by
    rw [tmod_pos _ ha]; exact Int.emod_nonneg _ (by omega)
  unfold made
  repeat' split
  all_goals (dsimp only [okS]; omega)
theorem Made_ok (xs : List Int) (fl : Fl) (hl : xs.length ≤ 9223372036854775807) : ∃ s : Scl, okS s ∧ AFun Try.prog 10 0 [.ro fl 1 (xs.map int)] [] (scA s) [] :=
  ⟨_, made_ok _ _ _ (zz_b _ _ _).1 (zz_b _ _ _) (zz_b _ _ _), Made_f xs fl hl⟩
theorem tmod_in (u m : Int) (hu : 0 ≤ u) (hm : 0 < m) : 0 ≤ u.tmod m ∧ u.tmod m < m := by
  rw [tmod_pos _ hu]; exact ⟨Int.emod_nonneg _ (by omega), Int.emod_lt_of_pos _ hm⟩
/-- The scale turned over. -/
abbrev ngS (s : Scl) : Scl := (0 - s.1, 0 - s.2.1, 0 - s.2.2)
theorem ng_ok (s : Scl) : okS (ngS s) ↔ okS s := by
  constructor <;> rintro ⟨⟨h1, h2⟩, ⟨h3, h4⟩, h5, h6, h7⟩ <;> (dsimp only [ngS, okS] at *; refine ⟨⟨?_, ?_⟩, ⟨?_, ?_⟩, ?_, ?_, ?_⟩ <;> omega)
theorem ng_on (s : Scl) (g : Int) : onS (ngS s) (0 - g) ↔ onS s g := by
  unfold onS
  rw [ng_ok]
  constructor <;> rintro ⟨h, h1, h2⟩ <;> (refine ⟨h, ?_, ?_⟩ <;> dsimp only [ngS] at * <;> omega)
theorem ng_iff (s : Scl) (a b : Int) (h : s.1 ≠ s.2.1) (hab : a ≠ b) : (0 - b < 0 - a ↔ (ngS s).1 < (ngS s).2.1) ↔ (b < a ↔ s.1 < s.2.1) := by
  dsimp only [ngS]; omega
theorem ng_bet (s : Scl) (g h : Int) : bet (ngS s) (0 - g) (0 - h) ↔ bet s g h := by
  unfold bet
  rw [ng_on, ng_on]
  constructor
  · rintro ⟨h1, h2, h3, h4⟩; exact ⟨h1, h2, by omega, (ng_iff s g h h1.1.2.2.1 (by omega)).1 h4⟩
  · rintro ⟨h1, h2, h3, h4⟩; exact ⟨h1, h2, by omega, (ng_iff s g h h1.1.2.2.1 h3).2 h4⟩
theorem ng_rea (s : Scl) (g h : Int) : rea (ngS s) (0 - g) (0 - h) ↔ rea s g h := by
  unfold rea
  rw [ng_on]
  constructor
  · rintro ⟨h1, h2⟩
    refine ⟨h1, ?_⟩
    by_cases e : g = h
    · exact .inl e
    · rcases h2 with h2 | h2
      · exact .inl (by omega)
      · exact .inr ((ng_iff s g h h1.1.2.2.1 e).1 h2)
  · rintro ⟨h1, h2⟩
    refine ⟨h1, ?_⟩
    by_cases e : g = h
    · exact .inl (by omega)
    · rcases h2 with h2 | h2
      · exact .inl (by omega)
      · exact .inr ((ng_iff s g h h1.1.2.2.1 e).2 h2)
theorem bet_irr (s : Scl) (g : Int) : ¬ bet s g g := fun h => h.2.2.1 rfl
theorem bet_top (s : Scl) (g : Int) : ¬ bet s s.1 g := by
  rintro ⟨h1, ⟨h2, h3, h4⟩, h5, h6⟩
  have := h2.2.2.1
  omega
theorem bet_low (s : Scl) (g : Int) : ¬ bet s g s.2.1 := by
  rintro ⟨⟨h2, h3, h4⟩, h1, h5, h6⟩
  have := h2.2.2.1
  omega
theorem bet_two (s : Scl) (g h : Int) (hg : onS s g) (hh : onS s h) (hn : g ≠ h) : bet s h g ↔ ¬ bet s g h := by
  constructor
  · rintro ⟨_, _, _, h1⟩ ⟨_, _, _, h2⟩; omega
  · intro k
    refine ⟨hh, hg, fun e => hn e.symm, ?_⟩
    have k2 : ¬ (h < g ↔ s.1 < s.2.1) := fun e => k ⟨hg, hh, hn, e⟩
    omega
set_option maxRecDepth 100000 in
set_option maxHeartbeats 4000000 in
theorem order (l : List Int) (u v : Int) (hu : 0 ≤ u ∧ u ≤ 65535) (hv : 0 ≤ v ∧ v ≤ 65535) (hl : l.length ≤ 9223372036854775807) : AFun Try.prog 5 0 [.ro {} 1 (l.map int), .sc (.int .u16 u), .sc (.int .u16 v)] [] (bool true) [] := by
  obtain ⟨s, hs, hM⟩ := Made_ok l {} hl
  refine AFun.of_W T_ok mixed Try.func5 rfl (Nat.le_of_ble_eq_true rfl) rfl ?_
  have hm1 := tmod_in u (max s.1 s.2.1 - min s.1 s.2.1 + 1) hu.1 (by omega)
  have hm2 := tmod_in v (max s.1 s.2.1 - min s.1 s.2.1 + 1) hv.1 (by omega)
  ((repeat ((conv => whnf); (first | (refine LetN.pre ?_; first | ((conv => arg 1; whnf); refine LetN.mk ?_)) | (refine As.pre ?_; first | refine As.mk rfl ?_ | refine As.mk (bne_iff_ne.2 (by omega)) ?_ | (refine As.mk ?_ ?_; · decide +kernel) | refine As.mk (andT (nor_self _) rfl) ?_ | refine As.mk (andT (nor_self _) (or_t _)) ?_ | refine As.mk (andT (or_t _) (or_nself _)) ?_ | refine As.mk (andT (or_t _) (or_t _)) ?_ | refine As.mk (andT (nor_self _) (andT (nor_self _) rfl)) ?_ | (refine As.mk ?_ ?_; · ((repeat' (refine andT ?_ ?_)) <;> (first | rfl | assumption | exact decide_eq_true (by omega) | exact decide_eq_true (by dsimp only; omega) | exact decide_eq_true (by simp; omega) | (simp; done))))) | (refine LetV.pre ?_; first | refine LetV.mk (.sc (.int _ _)) rfl ?_ | refine LetV.mk (.sc (.bool _)) rfl ?_ | refine LetV.mk (.sc _) rfl ?_ | refine LetV.mk (.agg _) rfl ?_ | refine LetV.mk (.slm _ _ _ _ _) rfl ?_ | refine LetV.mk (.ro _ _ _) rfl ?_ | refine LetV.mk (.ptr _ _ _ _) rfl ?_) | (refine LetI.pre ?_; first | refine LetI.wrap (by omega) (by omega) ?_ | refine LetI.mk _ rfl ?_) | (refine LetB.pre ?_; first | refine LetB.tt rfl ?_ | refine LetB.ff rfl ?_ | refine LetB.tt (by assumption) ?_ | refine LetB.ff (by assumption) ?_ | refine LetB.mk _ rfl ?_) | (refine Gd.pre ?_; first | refine Gd.run rfl ?_ | refine Gd.pass rfl ?_ | refine Gd.run (by assumption) ?_ | refine Gd.pass (by assumption) ?_ | (refine Gd.run ?_ ?_; · decide +kernel) | (refine Gd.pass ?_ ?_; · decide +kernel) | refine Gd.both ?_) | (refine Br.pre ?_; first | refine Br.tt rfl ?_ | refine Br.ff rfl ?_ | refine Br.tt (by assumption) ?_ | refine Br.ff (by assumption) ?_ | (refine Br.tt ?_ ?_; · decide +kernel) | (refine Br.ff ?_ ?_; · decide +kernel)) | (refine Ck.pre ?_; first | refine Ck.drawn (by kernel_rfl) ?_ | refine Ck.mk rfl ?_) | (refine LetL.pre ?_; first | refine LetL.mk [_] rfl ?_ | refine LetL.mk _ rfl ?_) | (refine CallN.pre ?_; first | refine CallN.pure sanity_f rfl rfl ?_ | refine CallN.pure hM rfl rfl ?_)))); (try (conv => whnf)))



  generalize hg : min s.1 s.2.1 + u.tmod (max s.1 s.2.1 - min s.1 s.2.1 + 1) = g
  generalize hh : min s.1 s.2.1 + v.tmod (max s.1 s.2.1 - min s.1 s.2.1 + 1) = h
  have hg' : onS s g := by refine ⟨hs, ?_⟩; omega
  have hh' : onS s h := by refine ⟨hs, ?_⟩; omega
  clear hg hh hm1 hm2
  have c1 : AFun Try.prog 13 0 [scA s, int g] [] (bool true) [] := by simpa only [rgt, decide_eq_true hg'] using Right_f s g
  have c2 : AFun Try.prog 13 0 [scA s, int (min s.1 s.2.1 - 1)] [] (bool false) [] := by
    have e : ¬ onS s (min s.1 s.2.1 - 1) := by rintro ⟨_, h1, h2⟩; omega
    simpa only [rgt, decide_eq_false e] using Right_f s (min s.1 s.2.1 - 1)
  have c3 : AFun Try.prog 13 0 [scA s, int (max s.1 s.2.1 + 1)] [] (bool false) [] := by
    have e : ¬ onS s (max s.1 s.2.1 + 1) := by rintro ⟨_, h1, h2⟩; omega
    simpa only [rgt, decide_eq_false e] using Right_f s (max s.1 s.2.1 + 1)
  have c4 : AFun Try.prog 15 0 [scA s, int g, int g] [] (bool false) [] := by simpa only [decide_eq_false (bet_irr s g)] using Better_f s g g
  have c5 : AFun Try.prog 15 0 [scA s, int s.1, int g] [] (bool false) [] := by simpa only [decide_eq_false (bet_top s g)] using Better_f s s.1 g
  have c6 : AFun Try.prog 15 0 [scA s, int g, int s.2.1] [] (bool false) [] := by simpa only [decide_eq_false (bet_low s g)] using Better_f s g s.2.1
  have c7 : AFun Try.prog 11 0 [scA s] [] (int 0) [] := by
    have e : chk s = 0 := if_pos hs
    simpa only [e] using Check_f s
  have c8 : AFun Try.prog 11 0 [scA (ngS s)] [] (int 0) [] := by
    have e : chk (ngS s) = 0 := if_pos ((ng_ok s).2 hs)
    simpa only [e] using Check_f (ngS s)
  have d1 : decide (bet (ngS s) (0 - g) (0 - h)) = decide (bet s g h) := decide_eq_decide.2 (ng_bet s g h)
  have d2 : decide (rea (ngS s) (0 - g) (0 - s.2.2)) = decide (rea s g s.2.2) := decide_eq_decide.2 (ng_rea s g s.2.2)
  have d3 : decide (rea (ngS s) (0 - g) (0 - h)) = decide (rea s g h) := decide_eq_decide.2 (ng_rea s g h)
  have c9 := Better_f (ngS s) (0 - g) (0 - h)
  rw [d1] at c9
  have c10 : AFun Try.prog 17 0 [scA (ngS s), int (0 - g)] [] (bool (decide (rea s g s.2.2))) [] := by rw [← d2]; exact Passed_f (ngS s) (0 - g)
  have c11 := Reaches_f (ngS s) (0 - g) (0 - h)
  rw [d3] at c11
  have c12 := Better_f s g h
  have c13 := Better_f s h g
  have c14 := Passed_f s g
  have c15 := Reaches_f s g h
  generalize decide (rea s g s.2.2) = p1 at c10 c14
  generalize decide (rea s g h) = p2 at c11 c15
  have hcase : (g = h) ∨ ((g != h) = true ∧ ((decide (bet s g h) = true ∧ decide (bet s h g) = false) ∨ (decide (bet s g h) = false ∧ decide (bet s h g) = true))) := by
    by_cases hn : g = h
    · exact .inl hn
    · refine .inr ⟨bne_iff_ne.2 hn, ?_⟩
      by_cases hb : bet s g h
      · exact .inl ⟨decide_eq_true hb, decide_eq_false fun k => (bet_two s g h hg' hh' hn).1 k hb⟩
      · exact .inr ⟨decide_eq_false hb, decide_eq_true ((bet_two s g h hg' hh' hn).2 hb)⟩
  obtain ⟨⟨q1, q2⟩, ⟨q3, q4⟩, q5, q6, q7⟩ := hs
  obtain ⟨q8, q9, q10⟩ := hg'
  obtain ⟨q11, q12, q13⟩ := hh'
  clear hM hu hv q8 q11 hl
  rcases hcase with rfl | ⟨hne, hbb⟩
  · have hne : (g != g) = false := bne_self_eq_false g
    clear c13 c9 c12
    have c9 := Better_f (ngS s) (0 - g) (0 - g)
    rw [d1, decide_eq_false (bet_irr s g)] at c9
    clear d1 d2 d3
    ((repeat ((conv => whnf); (first | (refine LetN.pre ?_; first | ((conv => arg 1; whnf); refine LetN.mk ?_)) | (refine As.pre ?_; first | refine As.mk rfl ?_ | (refine As.mk ?_ ?_; · decide +kernel) | refine As.mk (andT (nor_self _) rfl) ?_ | refine As.mk (andT (nor_self _) (or_t _)) ?_ | refine As.mk (andT (or_t _) (or_nself _)) ?_ | refine As.mk (andT (or_t _) (or_t _)) ?_ | refine As.mk (andT (nor_self _) (andT (nor_self _) rfl)) ?_ | (refine As.mk ?_ ?_; · ((repeat' (refine andT ?_ ?_)) <;> (first | rfl | assumption | exact decide_eq_true (by omega) | exact decide_eq_true (by dsimp only; omega) | exact decide_eq_true (by simp; omega) | (simp; done))))) | (refine LetV.pre ?_; first | refine LetV.mk (.sc (.int _ _)) rfl ?_ | refine LetV.mk (.sc (.bool _)) rfl ?_ | refine LetV.mk (.sc _) rfl ?_ | refine LetV.mk (.agg _) rfl ?_ | refine LetV.mk (.slm _ _ _ _ _) rfl ?_ | refine LetV.mk (.ro _ _ _) rfl ?_ | refine LetV.mk (.ptr _ _ _ _) rfl ?_) | (refine LetI.pre ?_; first | refine LetI.wrap (by omega) (by omega) ?_ | refine LetI.mk _ rfl ?_) | (refine LetB.pre ?_; first | refine LetB.tt rfl ?_ | refine LetB.ff rfl ?_ | refine LetB.tt (by assumption) ?_ | refine LetB.ff (by assumption) ?_ | refine LetB.tt (beq_self_eq_true _) ?_ | refine LetB.ff (bne_self_eq_false _) ?_ | refine LetB.mk _ rfl ?_) | (refine Gd.pre ?_; first | refine Gd.run rfl ?_ | refine Gd.pass rfl ?_ | refine Gd.run (by assumption) ?_ | refine Gd.pass (by assumption) ?_ | (refine Gd.run ?_ ?_; · decide +kernel) | (refine Gd.pass ?_ ?_; · decide +kernel) | refine Gd.both ?_) | (refine Br.pre ?_; first | refine Br.tt rfl ?_ | refine Br.ff rfl ?_ | refine Br.tt (by assumption) ?_ | refine Br.ff (by assumption) ?_ | (refine Br.tt ?_ ?_; · decide +kernel) | (refine Br.ff ?_ ?_; · decide +kernel)) | (refine Ck.pre ?_; first | refine Ck.drawn (by kernel_rfl) ?_ | refine Ck.mk rfl ?_) | (refine LetL.pre ?_; first | refine LetL.mk [_] rfl ?_ | refine LetL.mk _ rfl ?_) | (refine CallN.pre ?_; first | refine CallN.pure c1 rfl rfl ?_ | refine CallN.pure c2 rfl rfl ?_ | refine CallN.pure c3 rfl rfl ?_ | refine CallN.pure c4 rfl rfl ?_ | refine CallN.pure c5 rfl rfl ?_ | refine CallN.pure c6 rfl rfl ?_ | refine CallN.pure c7 rfl rfl ?_ | refine CallN.pure c8 rfl rfl ?_ | refine CallN.pure c9 rfl rfl ?_ | refine CallN.pure c10 rfl rfl ?_ | refine CallN.pure c11 rfl rfl ?_ | refine CallN.pure c14 rfl rfl ?_ | refine CallN.pure c15 rfl rfl ?_)))); (try (conv => whnf)))















    exact ⟨.inl rfl, ⟨_, rfl, rfl⟩, trivial⟩
  clear d1 d2 d3
  rcases hbb with ⟨b1, b2⟩ | ⟨b1, b2⟩
  · rw [b1] at c9 c12
    rw [b2] at c13
    clear b1 b2
    ((repeat ((conv => whnf); (first | (refine LetN.pre ?_; first | ((conv => arg 1; whnf); refine LetN.mk ?_)) | (refine As.pre ?_; first | refine As.mk rfl ?_ | (refine As.mk ?_ ?_; · decide +kernel) | refine As.mk (andT (nor_self _) rfl) ?_ | refine As.mk (andT (nor_self _) (or_t _)) ?_ | refine As.mk (andT (or_t _) (or_nself _)) ?_ | refine As.mk (andT (or_t _) (or_t _)) ?_ | refine As.mk (andT (nor_self _) (andT (nor_self _) rfl)) ?_ | (refine As.mk ?_ ?_; · ((repeat' (refine andT ?_ ?_)) <;> (first | rfl | assumption | exact decide_eq_true (by omega) | exact decide_eq_true (by dsimp only; omega) | exact decide_eq_true (by simp; omega) | (simp; done))))) | (refine LetV.pre ?_; first | refine LetV.mk (.sc (.int _ _)) rfl ?_ | refine LetV.mk (.sc (.bool _)) rfl ?_ | refine LetV.mk (.sc _) rfl ?_ | refine LetV.mk (.agg _) rfl ?_ | refine LetV.mk (.slm _ _ _ _ _) rfl ?_ | refine LetV.mk (.ro _ _ _) rfl ?_ | refine LetV.mk (.ptr _ _ _ _) rfl ?_) | (refine LetI.pre ?_; first | refine LetI.wrap (by omega) (by omega) ?_ | refine LetI.mk _ rfl ?_) | (refine LetB.pre ?_; first | refine LetB.tt rfl ?_ | refine LetB.ff rfl ?_ | refine LetB.tt (by assumption) ?_ | refine LetB.ff (by assumption) ?_ | refine LetB.tt (beq_self_eq_true _) ?_ | refine LetB.ff (bne_self_eq_false _) ?_ | refine LetB.mk _ rfl ?_) | (refine Gd.pre ?_; first | refine Gd.run rfl ?_ | refine Gd.pass rfl ?_ | refine Gd.run (by assumption) ?_ | refine Gd.pass (by assumption) ?_ | (refine Gd.run ?_ ?_; · decide +kernel) | (refine Gd.pass ?_ ?_; · decide +kernel) | refine Gd.both ?_) | (refine Br.pre ?_; first | refine Br.tt rfl ?_ | refine Br.ff rfl ?_ | refine Br.tt (by assumption) ?_ | refine Br.ff (by assumption) ?_ | (refine Br.tt ?_ ?_; · decide +kernel) | (refine Br.ff ?_ ?_; · decide +kernel)) | (refine Ck.pre ?_; first | refine Ck.drawn (by kernel_rfl) ?_ | refine Ck.mk rfl ?_) | (refine LetL.pre ?_; first | refine LetL.mk [_] rfl ?_ | refine LetL.mk _ rfl ?_) | (refine CallN.pre ?_; first | refine CallN.pure c1 rfl rfl ?_ | refine CallN.pure c2 rfl rfl ?_ | refine CallN.pure c3 rfl rfl ?_ | refine CallN.pure c4 rfl rfl ?_ | refine CallN.pure c5 rfl rfl ?_ | refine CallN.pure c6 rfl rfl ?_ | refine CallN.pure c7 rfl rfl ?_ | refine CallN.pure c8 rfl rfl ?_ | refine CallN.pure c9 rfl rfl ?_ | refine CallN.pure c10 rfl rfl ?_ | refine CallN.pure c11 rfl rfl ?_ | refine CallN.pure c12 rfl rfl ?_ | refine CallN.pure c13 rfl rfl ?_ | refine CallN.pure c14 rfl rfl ?_ | refine CallN.pure c15 rfl rfl ?_)))); (try (conv => whnf)))

















    exact ⟨.inl rfl, ⟨_, rfl, rfl⟩, trivial⟩
  · rw [b1] at c9 c12
    rw [b2] at c13
    clear b1 b2
    ((repeat ((conv => whnf); (first | (refine LetN.pre ?_; first | ((conv => arg 1; whnf); refine LetN.mk ?_)) | (refine As.pre ?_; first | refine As.mk rfl ?_ | (refine As.mk ?_ ?_; · decide +kernel) | refine As.mk (andT (nor_self _) rfl) ?_ | refine As.mk (andT (nor_self _) (or_t _)) ?_ | refine As.mk (andT (or_t _) (or_nself _)) ?_ | refine As.mk (andT (or_t _) (or_t _)) ?_ | refine As.mk (andT (nor_self _) (andT (nor_self _) rfl)) ?_ | (refine As.mk ?_ ?_; · ((repeat' (refine andT ?_ ?_)) <;> (first | rfl | assumption | exact decide_eq_true (by omega) | exact decide_eq_true (by dsimp only; omega) | exact decide_eq_true (by simp; omega) | (simp; done))))) | (refine LetV.pre ?_; first | refine LetV.mk (.sc (.int _ _)) rfl ?_ | refine LetV.mk (.sc (.bool _)) rfl ?_ | refine LetV.mk (.sc _) rfl ?_ | refine LetV.mk (.agg _) rfl ?_ | refine LetV.mk (.slm _ _ _ _ _) rfl ?_ | refine LetV.mk (.ro _ _ _) rfl ?_ | refine LetV.mk (.ptr _ _ _ _) rfl ?_) | (refine LetI.pre ?_; first | refine LetI.wrap (by omega) (by omega) ?_ | refine LetI.mk _ rfl ?_) | (refine LetB.pre ?_; first | refine LetB.tt rfl ?_ | refine LetB.ff rfl ?_ | refine LetB.tt (by assumption) ?_ | refine LetB.ff (by assumption) ?_ | refine LetB.tt (beq_self_eq_true _) ?_ | refine LetB.ff (bne_self_eq_false _) ?_ | refine LetB.mk _ rfl ?_) | (refine Gd.pre ?_; first | refine Gd.run rfl ?_ | refine Gd.pass rfl ?_ | refine Gd.run (by assumption) ?_ | refine Gd.pass (by assumption) ?_ | (refine Gd.run ?_ ?_; · decide +kernel) | (refine Gd.pass ?_ ?_; · decide +kernel) | refine Gd.both ?_) | (refine Br.pre ?_; first | refine Br.tt rfl ?_ | refine Br.ff rfl ?_ | refine Br.tt (by assumption) ?_ | refine Br.ff (by assumption) ?_ | (refine Br.tt ?_ ?_; · decide +kernel) | (refine Br.ff ?_ ?_; · decide +kernel)) | (refine Ck.pre ?_; first | refine Ck.drawn (by kernel_rfl) ?_ | refine Ck.mk rfl ?_) | (refine LetL.pre ?_; first | refine LetL.mk [_] rfl ?_ | refine LetL.mk _ rfl ?_) | (refine CallN.pre ?_; first | refine CallN.pure c1 rfl rfl ?_ | refine CallN.pure c2 rfl rfl ?_ | refine CallN.pure c3 rfl rfl ?_ | refine CallN.pure c4 rfl rfl ?_ | refine CallN.pure c5 rfl rfl ?_ | refine CallN.pure c6 rfl rfl ?_ | refine CallN.pure c7 rfl rfl ?_ | refine CallN.pure c8 rfl rfl ?_ | refine CallN.pure c9 rfl rfl ?_ | refine CallN.pure c10 rfl rfl ?_ | refine CallN.pure c11 rfl rfl ?_ | refine CallN.pure c12 rfl rfl ?_ | refine CallN.pure c13 rfl rfl ?_ | refine CallN.pure c14 rfl rfl ?_ | refine CallN.pure c15 rfl rfl ?_)))); (try (conv => whnf)))

















    exact ⟨.inl rfl, ⟨_, rfl, rfl⟩, trivial⟩
end Sc
end Go.Proofs.Ytaphjgkllhfofaa
