/- Ytaphjgkllhfofaa: YtaphjgkllhfofaaH. -/
import Derived.Test.YtaphjgkllhfofaaG
namespace Go.Proofs.Ytaphjgkllhfofaa
open Go.Proofs.Ytaphjgkllhfofaa.Am
namespace Sc
def ofN (n d : Int) : Nat := n.natAbs / Nat.gcd n.natAbs d.natAbs
def ofD (n d : Int) : Nat := d.natAbs / Nat.gcd n.natAbs d.natAbs
theorem wrap_quo (a b : Nat) (ha : a < 18446744073709551616) : IntKind.u64.wrap ((a : Int).tdiv b) = ((a / b : Nat) : Int) := by
  have h : (a : Int).tdiv b = ((a / b : Nat) : Int) := (Int.ofNat_tdiv a b).symm
  have h2 : a / b ≤ a := Nat.div_le_self _ _
  rw [h, wrap_u]
  generalize a / b = q at *
  omega
set_option maxHeartbeats 1000000 in
theorem Of_f (n d : Int) (hn : -9223372036854775808 ≤ n ∧ n ≤ 9223372036854775807) (hd : -9223372036854775808 ≤ d ∧ d ≤ 9223372036854775807) (h0 : d ≠ 0) (hu : ofN n d ≤ 1073741824) (hv : ofD n d ≤ 1073741824) : AFun Try.prog 33 0 [int n, int d] [] (.tup [.agg [int (if (decide (n < 0) != decide (d < 0)) = true then 0 - (ofN n d : Int) else ofN n d), int (ofD n d)], int 0]) [] := by
  refine AFun.of_W T_ok mixed Try.func33 rfl (Nat.le_of_ble_eq_true rfl) rfl ?_
  have hg : 0 < Nat.gcd n.natAbs d.natAbs := Nat.gcd_pos_of_pos_right _ (by omega)
  have hq : ((Nat.gcd n.natAbs d.natAbs : Int) != 0) = true := by simp; omega
  have e1 : _ = (ofN n d : Int) := wrap_quo n.natAbs (Nat.gcd n.natAbs d.natAbs) (by omega)
  have e2 : _ = (ofD n d : Int) := wrap_quo d.natAbs (Nat.gcd n.natAbs d.natAbs) (by omega)
  have hz : (d == 0) = false := by simpa using h0
  generalize ofN n d = u at *
  generalize ofD n d = v at *
  repeat' ((conv => whnf); (first | (refine LetN.pre ?_; first | ((conv => arg 1; whnf); refine LetN.mk ?_)) | (refine As.pre ?_; first | refine As.mk rfl ?_ | refine As.mk hq ?_ | (refine As.mk ?_ ?_; · decide +kernel) | refine As.mk (andT (nor_self _) rfl) ?_ | refine As.mk (andT (nor_self _) (or_t _)) ?_ | refine As.mk (andT (or_t _) (or_nself _)) ?_ | refine As.mk (andT (or_t _) (or_t _)) ?_ | refine As.mk (andT (nor_self _) (andT (nor_self _) rfl)) ?_ | (refine As.mk ?_ ?_; · ((repeat' (refine andT ?_ ?_)) <;> (first | rfl | assumption | exact decide_eq_true (by omega) | exact decide_eq_true (by dsimp only; omega) | exact decide_eq_true (by simp; omega) | (simp; done))))) | (refine LetV.pre ?_; first | refine LetV.mk (.sc (.int _ _)) rfl ?_ | refine LetV.mk (.sc (.bool _)) rfl ?_ | refine LetV.mk (.sc _) rfl ?_ | refine LetV.mk (.agg _) rfl ?_ | refine LetV.mk (.slm _ _ _ _ _) rfl ?_ | refine LetV.mk (.ro _ _ _) rfl ?_ | refine LetV.mk (.ptr _ _ _ _) rfl ?_) | (refine LetI.pre ?_; first | refine LetI.mk _ e1.symm ?_ | refine LetI.mk _ e2.symm ?_ | refine LetI.wrap (by omega) (by omega) ?_ | refine LetI.mk _ rfl ?_) | (refine LetB.pre ?_; first | refine LetB.tt rfl ?_ | refine LetB.ff rfl ?_ | refine LetB.tt (by assumption) ?_ | refine LetB.ff (by assumption) ?_ | refine LetB.dect (by omega) ?_ | refine LetB.decf (by omega) ?_ | refine LetB.beqt (by omega) ?_ | refine LetB.beqf (by omega) ?_ | refine LetB.bnet (by omega) ?_ | refine LetB.bnef (by omega) ?_ | (refine LetB.dec (fun _ => ?_) (fun _ => ?_)) | (refine LetB.beq (fun _ => ?_) (fun _ => ?_)) | (refine LetB.bne (fun _ => ?_) (fun _ => ?_)) | refine LetB.mk _ rfl ?_) | (refine Gd.pre ?_; first | refine Gd.run rfl ?_ | refine Gd.pass rfl ?_ | refine Gd.run (by assumption) ?_ | refine Gd.pass (by assumption) ?_ | (refine Gd.run ?_ ?_; · decide +kernel) | (refine Gd.pass ?_ ?_; · decide +kernel) | refine Gd.both ?_) | (refine Br.pre ?_; first | refine Br.tt rfl ?_ | refine Br.ff rfl ?_ | refine Br.tt (by assumption) ?_ | refine Br.ff (by assumption) ?_ | (refine Br.tt ?_ ?_; · decide +kernel) | (refine Br.ff ?_ ?_; · decide +kernel)) | (refine Ck.pre ?_; first | refine Ck.drawn (by kernel_rfl) ?_ | refine Ck.mk rfl ?_) | (refine LetL.pre ?_; first | refine LetL.mk [_] rfl ?_ | refine LetL.mk _ rfl ?_) | (refine CallN.pre ?_; first | refine CallN.pure (size_f _ hn) rfl rfl ?_ | refine CallN.pure (size_f _ hd) rfl rfl ?_ | refine CallN.pure (gcd_f _ _ _) rfl rfl ?_)))






  all_goals refine ⟨.inl rfl, ⟨_, rfl, congrArg (fun a => AV.tup [AV.agg [int a, int v], int 0]) ?_⟩, trivial⟩
  all_goals (clear e1 e2 hq hz hg; simp [*])
set_option maxHeartbeats 1000000 in
theorem refOf_f (n d : Int) (hn : -9223372036854775808 ≤ n ∧ n ≤ 9223372036854775807) (hd : -9223372036854775808 ≤ d ∧ d ≤ 9223372036854775807) (h0 : d ≠ 0) (hu : ofN n d ≤ 1073741824) (hv : ofD n d ≤ 1073741824) : AFun Try.prog 34 0 [int n, int d] [] (.tup [.agg [int (if (decide (n < 0) != decide (d < 0)) = true then 0 - (ofN n d : Int) else ofN n d), int (ofD n d)], int 0]) [] := by
  refine AFun.of_W T_ok mixed Try.func34 rfl (Nat.le_of_ble_eq_true rfl) rfl ?_
  have hg : 0 < Nat.gcd n.natAbs d.natAbs := Nat.gcd_pos_of_pos_right _ (by omega)
  have hq : ((Nat.gcd n.natAbs d.natAbs : Int) != 0) = true := by simp; omega
  have e1 : _ = (ofN n d : Int) := wrap_quo n.natAbs (Nat.gcd n.natAbs d.natAbs) (by omega)
  have e2 : _ = (ofD n d : Int) := wrap_quo d.natAbs (Nat.gcd n.natAbs d.natAbs) (by omega)
  have hz : (d == 0) = false := by simpa using h0
  generalize ofN n d = u at *
  generalize ofD n d = v at *
  repeat' ((conv => whnf); (first | (refine LetN.pre ?_; first | ((conv => arg 1; whnf); refine LetN.mk ?_)) | (refine As.pre ?_; first | refine As.mk rfl ?_ | refine As.mk hq ?_ | (refine As.mk ?_ ?_; · decide +kernel) | refine As.mk (andT (nor_self _) rfl) ?_ | refine As.mk (andT (nor_self _) (or_t _)) ?_ | refine As.mk (andT (or_t _) (or_nself _)) ?_ | refine As.mk (andT (or_t _) (or_t _)) ?_ | refine As.mk (andT (nor_self _) (andT (nor_self _) rfl)) ?_ | (refine As.mk ?_ ?_; · ((repeat' (refine andT ?_ ?_)) <;> (first | rfl | assumption | exact decide_eq_true (by omega) | exact decide_eq_true (by dsimp only; omega) | exact decide_eq_true (by simp; omega) | (simp; done))))) | (refine LetV.pre ?_; first | refine LetV.mk (.sc (.int _ _)) rfl ?_ | refine LetV.mk (.sc (.bool _)) rfl ?_ | refine LetV.mk (.sc _) rfl ?_ | refine LetV.mk (.agg _) rfl ?_ | refine LetV.mk (.slm _ _ _ _ _) rfl ?_ | refine LetV.mk (.ro _ _ _) rfl ?_ | refine LetV.mk (.ptr _ _ _ _) rfl ?_) | (refine LetI.pre ?_; first | refine LetI.mk _ e1.symm ?_ | refine LetI.mk _ e2.symm ?_ | refine LetI.wrap (by omega) (by omega) ?_ | refine LetI.mk _ rfl ?_) | (refine LetB.pre ?_; first | refine LetB.tt rfl ?_ | refine LetB.ff rfl ?_ | refine LetB.tt (by assumption) ?_ | refine LetB.ff (by assumption) ?_ | refine LetB.dect (by omega) ?_ | refine LetB.decf (by omega) ?_ | refine LetB.beqt (by omega) ?_ | refine LetB.beqf (by omega) ?_ | refine LetB.bnet (by omega) ?_ | refine LetB.bnef (by omega) ?_ | (refine LetB.dec (fun _ => ?_) (fun _ => ?_)) | (refine LetB.beq (fun _ => ?_) (fun _ => ?_)) | (refine LetB.bne (fun _ => ?_) (fun _ => ?_)) | refine LetB.mk _ rfl ?_) | (refine Gd.pre ?_; first | refine Gd.run rfl ?_ | refine Gd.pass rfl ?_ | refine Gd.run (by assumption) ?_ | refine Gd.pass (by assumption) ?_ | (refine Gd.run ?_ ?_; · decide +kernel) | (refine Gd.pass ?_ ?_; · decide +kernel) | refine Gd.both ?_) | (refine Br.pre ?_; first | refine Br.tt rfl ?_ | refine Br.ff rfl ?_ | refine Br.tt (by assumption) ?_ | refine Br.ff (by assumption) ?_ | (refine Br.tt ?_ ?_; · decide +kernel) | (refine Br.ff ?_ ?_; · decide +kernel)) | (refine Ck.pre ?_; first | refine Ck.drawn (by kernel_rfl) ?_ | refine Ck.mk rfl ?_) | (refine LetL.pre ?_; first | refine LetL.mk [_] rfl ?_ | refine LetL.mk _ rfl ?_) | (refine CallN.pre ?_; first | refine CallN.pure (refsize_f _ hn) rfl rfl ?_ | refine CallN.pure (refsize_f _ hd) rfl rfl ?_ | refine CallN.pure (refgcd_f _ _) rfl rfl ?_)))






  all_goals refine ⟨.inl rfl, ⟨_, rfl, congrArg (fun a => AV.tup [AV.agg [int a, int v], int 0]) ?_⟩, trivial⟩
  all_goals (clear e1 e2 hq hz hg; simp [*])
end Sc
end Go.Proofs.Ytaphjgkllhfofaa
