/- Ytaphjgkllhfofaa: YtaphjgkllhfofaaC. -/
import Derived.Test.YtaphjgkllhfofaaT
import Derived.Test.YtaphjgkllhfofaaB
namespace Go.Proofs.Ytaphjgkllhfofaa
open Go.Proofs.Ytaphjgkllhfofaa.Am
namespace Sc
abbrev scn (x : Scl × Cnv) : AV := .agg [int x.1.1, int x.1.2.1, int x.1.2.2, int x.2.1, int x.2.2.1, int x.2.2.2.1, int x.2.2.2.2]
set_option maxHeartbeats 4000000 in
set_option maxRecDepth 100000 in
theorem checks (l : List Int) (x : Scl × Cnv) (y : Int × Int) (hl : l.length ≤ 9223372036854775807) : AFun Try.prog 3 0 [.ro {} 1 (l.map int), scn x, .agg [int y.1, int y.2]] [] (bool true) [] := by
  refine AFun.of_W T_ok mixed Try.func3 rfl (Nat.le_of_ble_eq_true rfl) rfl ?_
  ((repeat ((conv => whnf); (first | (refine LetN.pre ?_; first | ((conv => arg 1; whnf); refine LetN.mk ?_)) | (refine As.pre ?_; first | refine As.mk rfl ?_ | (refine As.mk ?_ ?_; · decide +kernel) | refine As.mk (andT (nor_self _) rfl) ?_ | refine As.mk (andT (nor_self _) (or_t _)) ?_ | refine As.mk (andT (or_t _) (or_nself _)) ?_ | refine As.mk (andT (or_t _) (or_t _)) ?_ | refine As.mk (andT (nor_self _) (andT (nor_self _) rfl)) ?_ | (refine As.mk ?_ ?_; · ((repeat' (refine andT ?_ ?_)) <;> (first | rfl | assumption | exact decide_eq_true (by omega) | exact decide_eq_true (by dsimp only; omega) | exact decide_eq_true (by simp; omega) | (simp; done))))) | (refine LetV.pre ?_; first | refine LetV.mk (.sc (.int _ _)) rfl ?_ | refine LetV.mk (.sc (.bool _)) rfl ?_ | refine LetV.mk (.sc _) rfl ?_ | refine LetV.mk (.agg _) rfl ?_ | refine LetV.mk (.slm _ _ _ _ _) rfl ?_ | refine LetV.mk (.ro _ _ _) rfl ?_ | refine LetV.mk (.ptr _ _ _ _) rfl ?_) | (refine LetI.pre ?_; first | refine LetI.wrap (by omega) (by omega) ?_ | refine LetI.mk _ rfl ?_) | (refine LetB.pre ?_; first | refine LetB.tt rfl ?_ | refine LetB.ff rfl ?_ | refine LetB.tt (by assumption) ?_ | refine LetB.ff (by assumption) ?_ | refine LetB.mk _ rfl ?_) | (refine Gd.pre ?_; first | refine Gd.run rfl ?_ | refine Gd.pass rfl ?_ | refine Gd.run (by assumption) ?_ | refine Gd.pass (by assumption) ?_ | (refine Gd.run ?_ ?_; · decide +kernel) | (refine Gd.pass ?_ ?_; · decide +kernel) | refine Gd.both ?_) | (refine Br.pre ?_; first | refine Br.tt rfl ?_ | refine Br.ff rfl ?_ | refine Br.tt (by assumption) ?_ | refine Br.ff (by assumption) ?_ | (refine Br.tt ?_ ?_; · decide +kernel) | (refine Br.ff ?_ ?_; · decide +kernel)) | (refine Ck.pre ?_; first | refine Ck.drawn (by kernel_rfl) ?_ | refine Ck.mk rfl ?_) | (refine LetL.pre ?_; first | refine LetL.mk [_] rfl ?_ | refine LetL.mk _ rfl ?_) | (refine CallN.pre ?_; first | refine CallN.pure sanity_f rfl rfl ?_ | refine CallN.pure (Made_f l _ hl) rfl rfl ?_)))); (try (conv => whnf)))


  repeat (refine LoopN.round T_ok mixed rfl ?_; ((repeat ((conv => whnf); (first | (refine LetN.pre ?_; first | ((conv => arg 1; whnf); refine LetN.mk ?_)) | (refine As.pre ?_; first | refine As.mk rfl ?_ | (refine As.mk ?_ ?_; · decide +kernel) | refine As.mk (andT (nor_self _) rfl) ?_ | refine As.mk (andT (nor_self _) (or_t _)) ?_ | refine As.mk (andT (or_t _) (or_nself _)) ?_ | refine As.mk (andT (or_t _) (or_t _)) ?_ | refine As.mk (andT (nor_self _) (andT (nor_self _) rfl)) ?_ | (refine As.mk ?_ ?_; · ((repeat' (refine andT ?_ ?_)) <;> (first | rfl | assumption | exact decide_eq_true (by omega) | exact decide_eq_true (by dsimp only; omega) | exact decide_eq_true (by simp; omega) | (simp; done))))) | (refine LetV.pre ?_; first | refine LetV.mk (.sc (.int _ _)) rfl ?_ | refine LetV.mk (.sc (.bool _)) rfl ?_ | refine LetV.mk (.sc _) rfl ?_ | refine LetV.mk (.agg _) rfl ?_ | refine LetV.mk (.slm _ _ _ _ _) rfl ?_ | refine LetV.mk (.ro _ _ _) rfl ?_ | refine LetV.mk (.ptr _ _ _ _) rfl ?_) | (refine LetI.pre ?_; first | refine LetI.wrap (by omega) (by omega) ?_ | refine LetI.mk _ rfl ?_) | (refine LetB.pre ?_; first | refine LetB.tt rfl ?_ | refine LetB.ff rfl ?_ | refine LetB.tt (by assumption) ?_ | refine LetB.ff (by assumption) ?_ | refine LetB.ff (bne_self_eq_false _) ?_ | refine LetB.tt (beq_self_eq_true _) ?_ | refine LetB.mk _ rfl ?_) | (refine Gd.pre ?_; first | refine Gd.run rfl ?_ | refine Gd.pass rfl ?_ | refine Gd.run (by assumption) ?_ | refine Gd.pass (by assumption) ?_ | (refine Gd.run ?_ ?_; · decide +kernel) | (refine Gd.pass ?_ ?_; · decide +kernel) | refine Gd.both ?_) | (refine Br.pre ?_; first | refine Br.tt rfl ?_ | refine Br.ff rfl ?_ | refine Br.tt (by assumption) ?_ | refine Br.ff (by assumption) ?_ | (refine Br.tt ?_ ?_; · decide +kernel) | (refine Br.ff ?_ ?_; · decide +kernel)) | (refine Ck.pre ?_; first | refine Ck.drawn (by kernel_rfl) ?_ | refine Ck.mk rfl ?_) | (refine LetL.pre ?_; first | refine LetL.mk [_] rfl ?_ | refine LetL.mk _ rfl ?_) | (refine CallN.pre ?_; first | refine CallN.pure (Check_f _) rfl rfl ?_ | refine CallN.pure (refCheck_f _) rfl rfl ?_ | refine CallN.pure (Right_f _ _) rfl rfl ?_ | refine CallN.pure (refRight_f _ _) rfl rfl ?_ | refine CallN.pure (Better_f _ _ _) rfl rfl ?_ | refine CallN.pure (refBetter_f _ _ _) rfl rfl ?_ | refine CallN.pure (Passed_f _ _) rfl rfl ?_ | refine CallN.pure (refPassed_f _ _) rfl rfl ?_ | refine CallN.pure (Reaches_f _ _ _) rfl rfl ?_ | refine CallN.pure (refReaches_f _ _ _) rfl rfl ?_ | refine CallN.pure (CheckConv_f _) rfl rfl ?_ | refine CallN.pure (refCheckConv_f _) rfl rfl ?_)))); (try (conv => whnf))))














  exact ⟨.inl rfl, ⟨_, rfl, rfl⟩, trivial⟩
end Sc
end Go.Proofs.Ytaphjgkllhfofaa
