/- Ytaphjgkllhfofaa: YtaphjgkllhfofaaP. -/
import Derived.Test.YtaphjgkllhfofaaO
namespace Go.Proofs.Ytaphjgkllhfofaa
open Go.Proofs.Ytaphjgkllhfofaa.Am
namespace Sc
def cv (c : Cnv) : Cnv := (c.1.tmod 1001, c.2.1.tmod 1001, 1 + md3 1000 c.2.2.1, 1 + md3 4 c.2.2.2)
theorem conv_f (c : Cnv) : AFun Try.prog 24 0 [cnA c] [] (cnA (cv c)) [] := by
  refine AFun.of_W T_ok mixed Try.func24 rfl (Nat.le_of_ble_eq_true rfl) rfl ?_
  have h1 := tmod_bound c.2.2.1 (m := 1000) (by omega)
  have h2 := tmod_bound c.2.2.2 (m := 4) (by omega)
  have h3 := md3_b (m := 1000) (by omega) c.2.2.1
  have h4 := md3_b (m := 4) (by omega) c.2.2.2
  unfold md3 at h3 h4
  ((repeat ((conv => whnf); (first | (refine LetN.pre ?_; first | ((conv => arg 1; whnf); refine LetN.mk ?_)) | (refine As.pre ?_; first | refine As.mk rfl ?_ | (refine As.mk ?_ ?_; · decide +kernel) | refine As.mk (andT (nor_self _) rfl) ?_ | refine As.mk (andT (nor_self _) (or_t _)) ?_ | refine As.mk (andT (or_t _) (or_nself _)) ?_ | refine As.mk (andT (or_t _) (or_t _)) ?_ | refine As.mk (andT (nor_self _) (andT (nor_self _) rfl)) ?_ | (refine As.mk ?_ ?_; · ((repeat' (refine andT ?_ ?_)) <;> (first | rfl | assumption | exact decide_eq_true (by omega) | exact decide_eq_true (by dsimp only; omega) | exact decide_eq_true (by simp; omega) | (simp; done))))) | (refine LetV.pre ?_; first | refine LetV.mk (.sc (.int _ _)) rfl ?_ | refine LetV.mk (.sc (.bool _)) rfl ?_ | refine LetV.mk (.sc _) rfl ?_ | refine LetV.mk (.agg _) rfl ?_ | refine LetV.mk (.slm _ _ _ _ _) rfl ?_ | refine LetV.mk (.ro _ _ _) rfl ?_ | refine LetV.mk (.ptr _ _ _ _) rfl ?_) | (refine LetI.pre ?_; first | refine LetI.wrap (by omega) (by omega) ?_ | refine LetI.mk _ rfl ?_) | (refine LetB.pre ?_; first | refine LetB.tt rfl ?_ | refine LetB.ff rfl ?_ | refine LetB.tt (by assumption) ?_ | refine LetB.ff (by assumption) ?_ | refine LetB.mk _ rfl ?_) | (refine Gd.pre ?_; first | refine Gd.run rfl ?_ | refine Gd.pass rfl ?_ | refine Gd.run (by assumption) ?_ | refine Gd.pass (by assumption) ?_ | (refine Gd.run ?_ ?_; · decide +kernel) | (refine Gd.pass ?_ ?_; · decide +kernel) | refine Gd.both ?_) | (refine Br.pre ?_; first | refine Br.tt rfl ?_ | refine Br.ff rfl ?_ | refine Br.tt (by assumption) ?_ | refine Br.ff (by assumption) ?_ | (refine Br.tt ?_ ?_; · decide +kernel) | (refine Br.ff ?_ ?_; · decide +kernel)) | (refine Ck.pre ?_; first | refine Ck.drawn (by kernel_rfl) ?_ | refine Ck.mk rfl ?_) | (refine LetL.pre ?_; first | refine LetL.mk [_] rfl ?_ | refine LetL.mk _ rfl ?_)))); (try (conv => whnf)))
  exact ⟨.inl rfl, ⟨_, rfl, rfl⟩, trivial⟩
theorem cv_ok (c : Cnv) : okC (cv c) := by
  have h1 := tmod_bound c.1 (m := 1001) (by omega)
  have h2 := tmod_bound c.2.1 (m := 1001) (by omega)
  have h3 := md3_b (m := 1000) (by omega) c.2.2.1
  have h4 := md3_b (m := 4) (by omega) c.2.2.2
  simp only [cv, okC]
  omega
theorem take_min (l : List AV) (n : Nat) (a b : Int) (ha : a = min (l.length : Int) n) (hb : b = 0) : List.take (a.toNat - b.toNat) (List.drop b.toNat l) = l.take n := by
  subst ha hb
  rw [Int.toNat_zero, List.drop_zero, List.take_eq_take_iff]
  omega
theorem take_min' (l : List AV) (n : Nat) (a b : Int) (ha : a = min (n : Int) l.length) (hb : b = 0) : List.take (a.toNat - b.toNat) (List.drop b.toNat l) = l.take n := by
  subst ha hb
  rw [Int.toNat_zero, List.drop_zero, List.take_eq_take_iff]
  omega
theorem few_f (l : List Int) (fl : Fl) (hl : l.length ≤ 9223372036854775807) : AFun Try.prog 23 0 [.ro fl 1 (l.map int)] [] (.ro ⟨false, fl.nn⟩ 1 ((l.take 12).map int)) [] := by
  refine AFun.of_W T_ok mixed Try.func23 rfl (Nat.le_of_ble_eq_true rfl) rfl ?_
  ((repeat ((conv => whnf); (first | (refine LetN.pre ?_; first | ((conv => arg 1; whnf); refine LetN.mk ?_)) | (refine As.pre ?_; first | refine As.mk rfl ?_ | (refine As.mk ?_ ?_; · decide +kernel) | refine As.mk (andT (nor_self _) rfl) ?_ | refine As.mk (andT (nor_self _) (or_t _)) ?_ | refine As.mk (andT (or_t _) (or_nself _)) ?_ | refine As.mk (andT (or_t _) (or_t _)) ?_ | refine As.mk (andT (nor_self _) (andT (nor_self _) rfl)) ?_ | (refine As.mk ?_ ?_; · ((repeat' (refine andT ?_ ?_)) <;> (first | rfl | assumption | exact decide_eq_true (by omega) | exact decide_eq_true (by dsimp only; omega) | exact decide_eq_true (by simp; omega) | (simp; done))))) | (refine LetV.pre ?_; first | refine LetV.mk (.sc (.int _ _)) rfl ?_ | refine LetV.mk (.sc (.bool _)) rfl ?_ | refine LetV.mk (.sc _) rfl ?_ | refine LetV.mk (.agg _) rfl ?_ | refine LetV.mk (.slm _ _ _ _ _) rfl ?_ | refine LetV.mk (.ro _ _ _) rfl ?_ | refine LetV.mk (.ptr _ _ _ _) rfl ?_) | (refine LetI.pre ?_; first | refine LetI.wrap (by omega) (by omega) ?_ | refine LetI.mk _ rfl ?_) | (refine LetB.pre ?_; first | refine LetB.tt rfl ?_ | refine LetB.ff rfl ?_ | refine LetB.tt (by assumption) ?_ | refine LetB.ff (by assumption) ?_ | refine LetB.mk _ rfl ?_) | (refine Gd.pre ?_; first | refine Gd.run rfl ?_ | refine Gd.pass rfl ?_ | refine Gd.run (by assumption) ?_ | refine Gd.pass (by assumption) ?_ | (refine Gd.run ?_ ?_; · decide +kernel) | (refine Gd.pass ?_ ?_; · decide +kernel) | refine Gd.both ?_) | (refine Br.pre ?_; first | refine Br.tt rfl ?_ | refine Br.ff rfl ?_ | refine Br.tt (by assumption) ?_ | refine Br.ff (by assumption) ?_ | (refine Br.tt ?_ ?_; · decide +kernel) | (refine Br.ff ?_ ?_; · decide +kernel)) | (refine Ck.pre ?_; first | refine Ck.drawn (by kernel_rfl) ?_ | refine Ck.mk rfl ?_) | (refine LetL.pre ?_; first | refine LetL.mk [_] rfl ?_ | refine LetL.mk _ rfl ?_)))); (try (conv => whnf)))
  refine ⟨.inl rfl, ⟨_, rfl, congrArg (AV.ro _ 1) ?_⟩, trivial⟩
  rw [List.map_take]
  exact take_min _ 12 _ _ rfl rfl
end Sc
end Go.Proofs.Ytaphjgkllhfofaa
