/- Ytaphjgkllhfofaa: YtaphjgkllhfofaaE. -/
import Derived.Test.YtaphjgkllhfofaaD
namespace Go.Proofs.Ytaphjgkllhfofaa
open Go.Proofs.Ytaphjgkllhfofaa.Am
namespace Sc
theorem rea_eq (s : Scl) (g h : Int) (hg : onS s g) (hh : onS s h) : decide (rea s g h) = ((g == h) || decide (bet s g h)) := by
  by_cases e : g = h
  · rw [beq_iff_eq.2 e, Bool.true_or]
    exact decide_eq_true ⟨hg, .inl e⟩
  · rw [beq_eq_false_iff_ne.2 e, Bool.false_or]
    refine decide_eq_decide.2 ⟨?_, ?_⟩
    · rintro ⟨_, h1 | h1⟩
      · exact absurd h1 e
      · exact ⟨hg, hh, e, h1⟩
    · rintro ⟨_, _, _, h1⟩; exact ⟨hg, .inr h1⟩
theorem rea_trans (s : Scl) (g h m : Int) (h1 : rea s g h) (h2 : bet s m g) : rea s m h := by
  obtain ⟨_, h1⟩ := h1
  obtain ⟨k, _, h3, h4⟩ := h2
  refine ⟨k, ?_⟩
  rcases h1 with h1 | h1
  · subst h1; exact .inr h4
  · omega
theorem rea_top (s : Scl) (hs : okS s) (m : Int) (hm : onS s m) : rea s s.2.1 m := by
  obtain ⟨_, h1, h2⟩ := hm
  have := hs.2.2.1
  exact ⟨⟨hs, by omega, by omega⟩, by omega⟩
theorem rea_low (s : Scl) (m : Int) (hm : onS s m) : rea s m s.1 := by
  have := hm.1.2.2.1
  obtain ⟨hs, h1, h2⟩ := hm
  exact ⟨⟨hs, h1, h2⟩, by omega⟩
set_option maxRecDepth 100000 in
set_option maxHeartbeats 4000000 in
theorem reaches (l : List Int) (u : Int × Int × Int) (hu0 : 0 ≤ u.1 ∧ u.1 ≤ 65535) (hu1 : 0 ≤ u.2.1 ∧ u.2.1 ≤ 65535) (hu2 : 0 ≤ u.2.2 ∧ u.2.2 ≤ 65535) (hl : l.length ≤ 9223372036854775807) : AFun Try.prog 6 0 [.ro {} 1 (l.map int), .agg [.sc (.int .u16 u.1), .sc (.int .u16 u.2.1), .sc (.int .u16 u.2.2)]] [] (bool true) [] := by
  obtain ⟨s, hs, hM⟩ := Made_ok l {} hl
  refine AFun.of_W T_ok mixed Try.func6 rfl (Nat.le_of_ble_eq_true rfl) rfl ?_
  have hm0 := tmod_in u.1 (max s.1 s.2.1 - min s.1 s.2.1 + 1) hu0.1 (by omega)
  have hm1 := tmod_in u.2.1 (max s.1 s.2.1 - min s.1 s.2.1 + 1) hu1.1 (by omega)
  have hm2 := tmod_in u.2.2 (max s.1 s.2.1 - min s.1 s.2.1 + 1) hu2.1 (by omega)
  ((repeat ((conv => whnf); (first | refine Ck.drawn (by kernel_rfl) ?_ | refine Ck.mk rfl ?_ | refine As.mk rfl ?_ | refine LetB.tt rfl ?_ | refine LetB.ff rfl ?_ | refine LetB.tt (by assumption) ?_ | refine LetB.ff (by assumption) ?_ | (refine As.mk ?_ ?_; · decide +kernel) | refine As.mk (andT (nor_self _) rfl) ?_ | refine As.mk (andT (nor_self _) (or_t _)) ?_ | refine As.mk (andT (or_t _) (or_nself _)) ?_ | refine As.mk (andT (or_t _) (or_t _)) ?_ | refine As.mk (andT (nor_self _) (andT (nor_self _) rfl)) ?_ | (refine As.mk ?_ ?_; · ((repeat' (refine andT ?_ ?_)) <;> (first | rfl | assumption | exact decide_eq_true (by omega) | exact decide_eq_true (by dsimp only; omega) | exact decide_eq_true (by simp; omega) | (simp; done)))) | (first | refine CallN.pure sanity_f rfl rfl ?_ | refine CallN.pure hM rfl rfl ?_) | refine LetI.wrap (by omega) (by omega) ?_ | refine LetI.mk _ rfl ?_ | refine LetV.mk (.sc (.int _ _)) rfl ?_ | refine LetV.mk (.sc (.bool _)) rfl ?_ | refine LetV.mk (.sc _) rfl ?_ | refine LetV.mk (.agg _) rfl ?_ | refine LetV.mk (.slm _ _ _ _ _) rfl ?_ | refine LetV.mk (.ro _ _ _) rfl ?_ | refine LetV.mk (.ptr _ _ _ _) rfl ?_ | refine Br.tt rfl ?_ | refine Br.ff rfl ?_ | refine Br.tt (by assumption) ?_ | refine Br.ff (by assumption) ?_ | (refine Br.tt ?_ ?_; · decide +kernel) | (refine Br.ff ?_ ?_; · decide +kernel) | refine Gd.run rfl ?_ | refine Gd.pass rfl ?_ | refine Gd.run (by assumption) ?_ | refine Gd.pass (by assumption) ?_ | (refine Gd.run ?_ ?_; · decide +kernel) | (refine Gd.pass ?_ ?_; · decide +kernel) | refine Gd.both ?_ | refine LetB.mk _ rfl ?_ | refine LetL.mk [_] rfl ?_ | refine LetL.mk _ rfl ?_))); (try (conv => whnf)))
  repeat (refine LoopN.round T_ok mixed rfl ?_; ((repeat ((conv => whnf); (first | refine Ck.drawn (by kernel_rfl) ?_ | refine Ck.mk rfl ?_ | refine As.mk rfl ?_ | refine LetB.tt rfl ?_ | refine LetB.ff rfl ?_ | refine LetB.tt (by assumption) ?_ | refine LetB.ff (by assumption) ?_ | (refine As.mk ?_ ?_; · decide +kernel) | refine As.mk (andT (nor_self _) rfl) ?_ | refine As.mk (andT (nor_self _) (or_t _)) ?_ | refine As.mk (andT (or_t _) (or_nself _)) ?_ | refine As.mk (andT (or_t _) (or_t _)) ?_ | refine As.mk (andT (nor_self _) (andT (nor_self _) rfl)) ?_ | (refine As.mk ?_ ?_; · ((repeat' (refine andT ?_ ?_)) <;> (first | rfl | assumption | exact decide_eq_true (by omega) | exact decide_eq_true (by dsimp only; omega) | exact decide_eq_true (by simp; omega) | (simp; done)))) | (first | refine As.mk (bne_iff_ne.2 (by omega)) ?_ | fail) | refine LetI.wrap (by omega) (by omega) ?_ | refine LetI.mk _ rfl ?_ | refine LetV.mk (.sc (.int _ _)) rfl ?_ | refine LetV.mk (.sc (.bool _)) rfl ?_ | refine LetV.mk (.sc _) rfl ?_ | refine LetV.mk (.agg _) rfl ?_ | refine LetV.mk (.slm _ _ _ _ _) rfl ?_ | refine LetV.mk (.ro _ _ _) rfl ?_ | refine LetV.mk (.ptr _ _ _ _) rfl ?_ | refine Br.tt rfl ?_ | refine Br.ff rfl ?_ | refine Br.tt (by assumption) ?_ | refine Br.ff (by assumption) ?_ | (refine Br.tt ?_ ?_; · decide +kernel) | (refine Br.ff ?_ ?_; · decide +kernel) | refine Gd.run rfl ?_ | refine Gd.pass rfl ?_ | refine Gd.run (by assumption) ?_ | refine Gd.pass (by assumption) ?_ | (refine Gd.run ?_ ?_; · decide +kernel) | (refine Gd.pass ?_ ?_; · decide +kernel) | refine Gd.both ?_ | refine LetB.mk _ rfl ?_ | refine LetL.mk [_] rfl ?_ | refine LetL.mk _ rfl ?_))); (try (conv => whnf))))
  generalize hg : min s.1 s.2.1 + u.1.tmod (max s.1 s.2.1 - min s.1 s.2.1 + 1) = g
  generalize hh : min s.1 s.2.1 + u.2.1.tmod (max s.1 s.2.1 - min s.1 s.2.1 + 1) = h
  generalize hn : min s.1 s.2.1 + u.2.2.tmod (max s.1 s.2.1 - min s.1 s.2.1 + 1) = m
  have hg' : onS s g := by refine ⟨hs, ?_⟩; omega
  have hh' : onS s h := by refine ⟨hs, ?_⟩; omega
  have hm' : onS s m := by refine ⟨hs, ?_⟩; omega
  have hp' : onS s s.2.2 := ⟨hs, hs.2.2.2.1, hs.2.2.2.2⟩
  clear hg hh hn hm1 hm2 hm0 hu0 hu1 hu2 hM
  have c1 := Reaches_f s g h
  have c2 := Better_f s g h
  have c3 := Better_f s m g
  have c4 := Reaches_f s m h
  have c5 := Passed_f s g
  have c6 := Reaches_f s g s.2.2
  have c7 := Passed_f s m
  have c8 := Passed_f s s.2.1
  have c9 := Passed_f s s.2.2
  have c10 := Reaches_f s g s.1
  rw [decide_eq_true (rea_top s hs _ hp')] at c8
  have e9 : rea s s.2.2 s.2.2 := ⟨hp', .inl rfl⟩
  rw [decide_eq_true e9] at c9
  rw [decide_eq_true (rea_low s g hg')] at c10
  have r1 := rea_eq s g h hg' hh'
  have r2 : decide (rea s g h) = true → decide (bet s m g) = true → decide (rea s m h) = true := fun a b => decide_eq_true (rea_trans s g h m (of_decide_eq_true a) (of_decide_eq_true b))
  have r3 : decide (rea s g s.2.2) = true → decide (bet s m g) = true → decide (rea s m s.2.2) = true := fun a b => decide_eq_true (rea_trans s g s.2.2 m (of_decide_eq_true a) (of_decide_eq_true b))
  clear hg' hh' hm' hp' e9 hs hl
  generalize decide (rea s g h) = B1 at *
  generalize decide (bet s g h) = B2 at *
  generalize decide (bet s m g) = B3 at *
  generalize decide (rea s m h) = B4 at *
  generalize decide (rea s g s.2.2) = P0 at *
  generalize decide (rea s m s.2.2) = P2 at *
  cases hE : (g == h)
  all_goals rw [hE] at r1
  case' false => rw [Bool.false_or] at r1; subst r1; cases B1
  case' true => rw [Bool.true_or] at r1; subst r1
  all_goals cases B3
  all_goals cases P0
  all_goals (try (have q2 := r2 rfl rfl; subst q2))
  all_goals (try (have q3 := r3 rfl rfl; subst q3))
  all_goals clear r2 r3
  all_goals
    ((repeat ((conv => whnf); (first | refine Ck.drawn (by kernel_rfl) ?_ | refine Ck.mk rfl ?_ | refine As.mk rfl ?_ | refine LetB.tt rfl ?_ | refine LetB.ff rfl ?_ | refine LetB.tt (by assumption) ?_ | refine LetB.ff (by assumption) ?_ | (refine As.mk ?_ ?_; · decide +kernel) | refine As.mk (andT (nor_self _) rfl) ?_ | refine As.mk (andT (nor_self _) (or_t _)) ?_ | refine As.mk (andT (or_t _) (or_nself _)) ?_ | refine As.mk (andT (or_t _) (or_t _)) ?_ | refine As.mk (andT (nor_self _) (andT (nor_self _) rfl)) ?_ | (refine As.mk ?_ ?_; · ((repeat' (refine andT ?_ ?_)) <;> (first | rfl | assumption | exact decide_eq_true (by omega) | exact decide_eq_true (by dsimp only; omega) | exact decide_eq_true (by simp; omega) | (simp; done)))) | (first | refine CallN.pure c1 rfl rfl ?_ | refine CallN.pure c2 rfl rfl ?_ | refine CallN.pure c3 rfl rfl ?_ | refine CallN.pure c4 rfl rfl ?_ | refine CallN.pure c5 rfl rfl ?_ | refine CallN.pure c6 rfl rfl ?_ | refine CallN.pure c7 rfl rfl ?_ | refine CallN.pure c8 rfl rfl ?_ | refine CallN.pure c9 rfl rfl ?_ | refine CallN.pure c10 rfl rfl ?_ | refine LetB.tt (beq_self_eq_true _) ?_) | refine LetI.wrap (by omega) (by omega) ?_ | refine LetI.mk _ rfl ?_ | refine LetV.mk (.sc (.int _ _)) rfl ?_ | refine LetV.mk (.sc (.bool _)) rfl ?_ | refine LetV.mk (.sc _) rfl ?_ | refine LetV.mk (.agg _) rfl ?_ | refine LetV.mk (.slm _ _ _ _ _) rfl ?_ | refine LetV.mk (.ro _ _ _) rfl ?_ | refine LetV.mk (.ptr _ _ _ _) rfl ?_ | refine Br.tt rfl ?_ | refine Br.ff rfl ?_ | refine Br.tt (by assumption) ?_ | refine Br.ff (by assumption) ?_ | (refine Br.tt ?_ ?_; · decide +kernel) | (refine Br.ff ?_ ?_; · decide +kernel) | refine Gd.run rfl ?_ | refine Gd.pass rfl ?_ | refine Gd.run (by assumption) ?_ | refine Gd.pass (by assumption) ?_ | (refine Gd.run ?_ ?_; · decide +kernel) | (refine Gd.pass ?_ ?_; · decide +kernel) | refine Gd.both ?_ | refine LetB.mk _ rfl ?_ | refine LetL.mk [_] rfl ?_ | refine LetL.mk _ rfl ?_))); (try (conv => whnf)))
    exact ⟨.inl rfl, ⟨_, rfl, rfl⟩, trivial⟩
end Sc
end Go.Proofs.Ytaphjgkllhfofaa
