/- Ytaphjgkllhfofaa: YtaphjgkllhfofaaN. -/
import Derived.Test.YtaphjgkllhfofaaM
namespace Go.Proofs.Ytaphjgkllhfofaa
open Go.Proofs.Ytaphjgkllhfofaa.Am
namespace Sc
theorem rd_of {n d how L R : Int} (h1 : n / d = L) (h2 : n % d = R) {b : Bool} (h : rup L R d how = b) : rd n d how = if b = true then L + 1 else L := by
  unfold rd; rw [h1, h2, h]
theorem wr_of {a b : Int} (h : a = b) (h1 : -9223372036854775808 ≤ b) (h2 : b ≤ 9223372036854775807) : b = IntKind.i64.wrap a := by rw [h, wrap_id h1 h2]
set_option maxHeartbeats 2000000 in
theorem rounded_f (n d how : Int) (hn : -1000000000000 ≤ n ∧ n ≤ 1000000000000) (hd : 0 < d ∧ d ≤ 1000000000) (hh : 1 ≤ how ∧ how ≤ 4) : AFun Try.prog 35 0 [int n, int d, int how] [] (int (rd n d how)) [] := by
  obtain ⟨L, R, h1, h2, h3, h4, h5, h6, h7, h8⟩ := fl_case n d hd.1 hn
  rw [rd_of h1 h2 rfl]
  have hdz : (d != 0) = true := bne_iff_ne.2 (by omega)
  have e5 : R = IntKind.i64.wrap (n - (n - R)) := wr_of (by omega) (by omega) (by omega)
  have e5' := wr_of (a := L * d) (b := n - R) (by omega) (by omega) (by omega)
  have k1 : AFun Try.prog 42 0 [int L, int R, int d] [] (bool (rup L R d 1)) [] := down_f L R d
  have k2 : AFun Try.prog 43 0 [int L, int R, int d] [] (bool (rup L R d 2)) [] := up_f L R d
  have k3 : AFun Try.prog 44 0 [int L, int R, int d] [] (bool (rup L R d 3)) [] := half_f L R d (by omega)
  have k4 : AFun Try.prog 45 0 [int L, int R, int d] [] (bool (rup L R d 4)) [] := even_f L R d (by omega)
  have hc : how = 1 ∨ how = 2 ∨ how = 3 ∨ how = 4 := by omega
  have main : ∀ (b : Bool), rup L R d how = b → AFun Try.prog 35 0 [int n, int d, int how] [] (int (if b = true then L + 1 else L)) [] := by
    intro b hb
    rcases h8 with ⟨h8, h9, h10⟩ | ⟨h8, h9⟩
    · have e9 := wr_of h9 (by omega) (by omega)
      have e10 : L = IntKind.i64.wrap (L + 1 - 1) := wr_of (by omega) (by omega) (by omega)
      rcases hc with rfl | rfl | rfl | rfl
      all_goals
        (first | rw [hb] at k1 | skip)
        (first | rw [hb] at k2 | skip)
        (first | rw [hb] at k3 | skip)
        (first | rw [hb] at k4 | skip)
        clear hb h1 h2 h3 h4 h5 h6
        cases b
        all_goals
          refine AFun.of_W T_ok mixed Try.func35 rfl (Nat.le_of_ble_eq_true rfl) rfl ?_
          ((repeat ((conv => whnf); (first | (refine LetN.pre ?_; first | ((conv => arg 1; whnf); refine LetN.mk ?_)) | (refine As.pre ?_; first | refine As.mk rfl ?_ | refine As.mk hdz ?_ | (refine As.mk ?_ ?_; · decide +kernel) | refine As.mk (andT (nor_self _) rfl) ?_ | refine As.mk (andT (nor_self _) (or_t _)) ?_ | refine As.mk (andT (or_t _) (or_nself _)) ?_ | refine As.mk (andT (or_t _) (or_t _)) ?_ | refine As.mk (andT (nor_self _) (andT (nor_self _) rfl)) ?_ | (refine As.mk ?_ ?_; · ((repeat' (refine andT ?_ ?_)) <;> (first | rfl | assumption | exact decide_eq_true (by omega) | exact decide_eq_true (by dsimp only; omega) | exact decide_eq_true (by simp; omega) | (simp; done))))) | (refine LetV.pre ?_; first | refine LetV.mk (.sc (.int _ _)) rfl ?_ | refine LetV.mk (.sc (.bool _)) rfl ?_ | refine LetV.mk (.sc _) rfl ?_ | refine LetV.mk (.agg _) rfl ?_ | refine LetV.mk (.slm _ _ _ _ _) rfl ?_ | refine LetV.mk (.ro _ _ _) rfl ?_ | refine LetV.mk (.ptr _ _ _ _) rfl ?_) | (refine LetI.pre ?_; first | refine LetI.mk (o := some .quo) (L + 1) e9 ?_ | refine LetI.mk (o := some .sub) L e10 ?_ | refine LetI.mk (o := some .mul) (n - R) e5' ?_ | refine LetI.mk (o := some .sub) R e5 ?_ | refine LetI.wrap (by omega) (by omega) ?_ | refine LetI.mk _ rfl ?_) | (refine LetB.pre ?_; first | refine LetB.tt rfl ?_ | refine LetB.ff rfl ?_ | refine LetB.tt (by assumption) ?_ | refine LetB.ff (by assumption) ?_ | refine LetB.dect (o := some .lss) h8 ?_ | refine LetB.mk _ rfl ?_) | (refine Gd.pre ?_; first | refine Gd.run rfl ?_ | refine Gd.pass rfl ?_ | refine Gd.run (by assumption) ?_ | refine Gd.pass (by assumption) ?_ | (refine Gd.run ?_ ?_; · decide +kernel) | (refine Gd.pass ?_ ?_; · decide +kernel) | refine Gd.both ?_) | (refine Br.pre ?_; first | refine Br.tt rfl ?_ | refine Br.ff rfl ?_ | refine Br.tt (by assumption) ?_ | refine Br.ff (by assumption) ?_ | (refine Br.tt ?_ ?_; · decide +kernel) | (refine Br.ff ?_ ?_; · decide +kernel)) | (refine Ck.pre ?_; first | refine Ck.drawn (by kernel_rfl) ?_ | refine Ck.mk rfl ?_) | (refine LetL.pre ?_; first | refine LetL.mk [_] rfl ?_ | refine LetL.mk _ rfl ?_) | (refine CallN.pre ?_; first | refine CallN.pure roundings_f rfl rfl ?_ | refine CallN.pure k1 rfl rfl ?_ | refine CallN.pure k2 rfl rfl ?_ | refine CallN.pure k3 rfl rfl ?_ | refine CallN.pure k4 rfl rfl ?_)))); (try (conv => whnf)))











          exact ⟨.inl rfl, ⟨_, rfl, rfl⟩, trivial⟩
    · have e9 := wr_of h9 (by omega) (by omega)
      rcases hc with rfl | rfl | rfl | rfl
      all_goals
        (first | rw [hb] at k1 | skip)
        (first | rw [hb] at k2 | skip)
        (first | rw [hb] at k3 | skip)
        (first | rw [hb] at k4 | skip)
        clear hb h1 h2 h3 h4 h5 h6
        cases b
        all_goals
          refine AFun.of_W T_ok mixed Try.func35 rfl (Nat.le_of_ble_eq_true rfl) rfl ?_
          ((repeat ((conv => whnf); (first | (refine LetN.pre ?_; first | ((conv => arg 1; whnf); refine LetN.mk ?_)) | (refine As.pre ?_; first | refine As.mk rfl ?_ | refine As.mk hdz ?_ | (refine As.mk ?_ ?_; · decide +kernel) | refine As.mk (andT (nor_self _) rfl) ?_ | refine As.mk (andT (nor_self _) (or_t _)) ?_ | refine As.mk (andT (or_t _) (or_nself _)) ?_ | refine As.mk (andT (or_t _) (or_t _)) ?_ | refine As.mk (andT (nor_self _) (andT (nor_self _) rfl)) ?_ | (refine As.mk ?_ ?_; · ((repeat' (refine andT ?_ ?_)) <;> (first | rfl | assumption | exact decide_eq_true (by omega) | exact decide_eq_true (by dsimp only; omega) | exact decide_eq_true (by simp; omega) | (simp; done))))) | (refine LetV.pre ?_; first | refine LetV.mk (.sc (.int _ _)) rfl ?_ | refine LetV.mk (.sc (.bool _)) rfl ?_ | refine LetV.mk (.sc _) rfl ?_ | refine LetV.mk (.agg _) rfl ?_ | refine LetV.mk (.slm _ _ _ _ _) rfl ?_ | refine LetV.mk (.ro _ _ _) rfl ?_ | refine LetV.mk (.ptr _ _ _ _) rfl ?_) | (refine LetI.pre ?_; first | refine LetI.mk (o := some .quo) L e9 ?_ | refine LetI.mk (o := some .mul) (n - R) e5' ?_ | refine LetI.mk (o := some .sub) R e5 ?_ | refine LetI.wrap (by omega) (by omega) ?_ | refine LetI.mk _ rfl ?_) | (refine LetB.pre ?_; first | refine LetB.tt rfl ?_ | refine LetB.ff rfl ?_ | refine LetB.tt (by assumption) ?_ | refine LetB.ff (by assumption) ?_ | refine LetB.decf (o := some .lss) h8 ?_ | refine LetB.mk _ rfl ?_) | (refine Gd.pre ?_; first | refine Gd.run rfl ?_ | refine Gd.pass rfl ?_ | refine Gd.run (by assumption) ?_ | refine Gd.pass (by assumption) ?_ | (refine Gd.run ?_ ?_; · decide +kernel) | (refine Gd.pass ?_ ?_; · decide +kernel) | refine Gd.both ?_) | (refine Br.pre ?_; first | refine Br.tt rfl ?_ | refine Br.ff rfl ?_ | refine Br.tt (by assumption) ?_ | refine Br.ff (by assumption) ?_ | (refine Br.tt ?_ ?_; · decide +kernel) | (refine Br.ff ?_ ?_; · decide +kernel)) | (refine Ck.pre ?_; first | refine Ck.drawn (by kernel_rfl) ?_ | refine Ck.mk rfl ?_) | (refine LetL.pre ?_; first | refine LetL.mk [_] rfl ?_ | refine LetL.mk _ rfl ?_) | (refine CallN.pre ?_; first | refine CallN.pure roundings_f rfl rfl ?_ | refine CallN.pure k1 rfl rfl ?_ | refine CallN.pure k2 rfl rfl ?_ | refine CallN.pure k3 rfl rfl ?_ | refine CallN.pure k4 rfl rfl ?_)))); (try (conv => whnf)))










          exact ⟨.inl rfl, ⟨_, rfl, rfl⟩, trivial⟩
  exact main _ rfl
set_option maxHeartbeats 2000000 in
theorem Rounded_f (n d how : Int) (hn : -1000000000000 ≤ n ∧ n ≤ 1000000000000) (hd : 0 < d ∧ d ≤ 1000000000) (hh : 1 ≤ how ∧ how ≤ 4) : AFun Try.prog 36 0 [int n, int d, int how] [] (int (rd n d how)) [] := by
  obtain ⟨L, R, h1, h2, h3, h4, h5, h6, h7, h8⟩ := fl_case n d hd.1 hn
  rw [rd_of h1 h2 rfl]
  have hdz : (d != 0) = true := bne_iff_ne.2 (by omega)
  have e5' := wr_of (a := L * d) (b := n - R) (by omega) (by omega) (by omega)
  have e6' := wr_of (a := (L + 1) * d) (b := n - R + d) (by omega) (by omega) (by omega)
  have hc : how = 1 ∨ how = 2 ∨ how = 3 ∨ how = 4 := by omega
  have hu := (rfl : rup L R d how = rup L R d how)
  generalize hm : L.tmod 2 = m
  have hmb := tmod_bound L (m := 2) (by omega)
  rw [hm] at hmb
  conv at hu => lhs; unfold rup
  rw [hm] at hu
  generalize rup L R d how = b at hu ⊢
  have e10 : L = IntKind.i64.wrap (L + 1 - 1) := wr_of (by omega) (by omega) (by omega)
  clear h1 h2 h5 h6
  rcases h8 with ⟨h8, h9, h10⟩ | ⟨h8, h9⟩
  · have e9 := wr_of h9 (by omega) (by omega)
    clear h8 h9
    rcases hc with rfl | rfl | rfl | rfl
    all_goals
      refine AFun.of_W T_ok mixed Try.func36 rfl (Nat.le_of_ble_eq_true rfl) rfl ?_
      repeat' ((conv => whnf); (first | (refine LetN.pre ?_; first | ((conv => arg 1; whnf); refine LetN.mk ?_)) | (refine As.pre ?_; first | refine As.mk rfl ?_ | refine As.mk hdz ?_ | (refine As.mk ?_ ?_; · decide +kernel) | refine As.mk (andT (nor_self _) rfl) ?_ | refine As.mk (andT (nor_self _) (or_t _)) ?_ | refine As.mk (andT (or_t _) (or_nself _)) ?_ | refine As.mk (andT (or_t _) (or_t _)) ?_ | refine As.mk (andT (nor_self _) (andT (nor_self _) rfl)) ?_ | (refine As.mk ?_ ?_; · ((repeat' (refine andT ?_ ?_)) <;> (first | rfl | assumption | exact decide_eq_true (by omega) | exact decide_eq_true (by dsimp only; omega) | exact decide_eq_true (by simp; omega) | (simp; done))))) | (refine LetV.pre ?_; first | refine LetV.mk (.sc (.int _ _)) rfl ?_ | refine LetV.mk (.sc (.bool _)) rfl ?_ | refine LetV.mk (.sc _) rfl ?_ | refine LetV.mk (.agg _) rfl ?_ | refine LetV.mk (.slm _ _ _ _ _) rfl ?_ | refine LetV.mk (.ro _ _ _) rfl ?_ | refine LetV.mk (.ptr _ _ _ _) rfl ?_) | (refine LetI.pre ?_; first | refine LetI.mk (o := some .quo) (L + 1) e9 ?_ | refine LetI.mk (o := some .sub) L e10 ?_ | refine LetI.mk (o := some .mul) (n - R) e5' ?_ | refine LetI.mk (o := some .mul) (n - R + d) e6' ?_ | refine LetI.mk (o := some .rem) m (by rw [← hm]) ?_ | refine LetI.mk (o := some .sub) R (wr_of (by omega) (by omega) (by omega)) ?_ | refine LetI.wrap (by omega) (by omega) ?_ | refine LetI.mk _ rfl ?_) | (refine LetB.pre ?_; first | refine LetB.tt rfl ?_ | refine LetB.ff rfl ?_ | refine LetB.tt (by assumption) ?_ | refine LetB.ff (by assumption) ?_ | refine LetB.dect (by omega) ?_ | refine LetB.decf (by omega) ?_ | refine LetB.beqt (by omega) ?_ | refine LetB.beqf (by omega) ?_ | refine LetB.bnet (by omega) ?_ | refine LetB.bnef (by omega) ?_ | (refine LetB.dec (fun _ => ?_) (fun _ => ?_)) | (refine LetB.beq (fun _ => ?_) (fun _ => ?_)) | (refine LetB.bne (fun _ => ?_) (fun _ => ?_)) | refine LetB.mk _ rfl ?_) | (refine Gd.pre ?_; first | refine Gd.run rfl ?_ | refine Gd.pass rfl ?_ | refine Gd.run (by assumption) ?_ | refine Gd.pass (by assumption) ?_ | (refine Gd.run ?_ ?_; · decide +kernel) | (refine Gd.pass ?_ ?_; · decide +kernel) | refine Gd.both ?_) | (refine Br.pre ?_; first | refine Br.tt rfl ?_ | refine Br.ff rfl ?_ | refine Br.tt (by assumption) ?_ | refine Br.ff (by assumption) ?_ | (refine Br.tt ?_ ?_; · decide +kernel) | (refine Br.ff ?_ ?_; · decide +kernel)) | (refine Ck.pre ?_; first | refine Ck.drawn (by kernel_rfl) ?_ | refine Ck.mk rfl ?_) | (refine LetL.pre ?_; first | refine LetL.mk [_] rfl ?_ | refine LetL.mk _ rfl ?_)))







      all_goals
        refine ⟨.inl rfl, ⟨_, rfl, congrArg int ?_⟩, trivial⟩
        rw [← hu]
        simp
        try omega
  · have e9 := wr_of h9 (by omega) (by omega)
    clear h8 h9
    rcases hc with rfl | rfl | rfl | rfl
    all_goals
      refine AFun.of_W T_ok mixed Try.func36 rfl (Nat.le_of_ble_eq_true rfl) rfl ?_
      repeat' ((conv => whnf); (first | (refine LetN.pre ?_; first | ((conv => arg 1; whnf); refine LetN.mk ?_)) | (refine As.pre ?_; first | refine As.mk rfl ?_ | refine As.mk hdz ?_ | (refine As.mk ?_ ?_; · decide +kernel) | refine As.mk (andT (nor_self _) rfl) ?_ | refine As.mk (andT (nor_self _) (or_t _)) ?_ | refine As.mk (andT (or_t _) (or_nself _)) ?_ | refine As.mk (andT (or_t _) (or_t _)) ?_ | refine As.mk (andT (nor_self _) (andT (nor_self _) rfl)) ?_ | (refine As.mk ?_ ?_; · ((repeat' (refine andT ?_ ?_)) <;> (first | rfl | assumption | exact decide_eq_true (by omega) | exact decide_eq_true (by dsimp only; omega) | exact decide_eq_true (by simp; omega) | (simp; done))))) | (refine LetV.pre ?_; first | refine LetV.mk (.sc (.int _ _)) rfl ?_ | refine LetV.mk (.sc (.bool _)) rfl ?_ | refine LetV.mk (.sc _) rfl ?_ | refine LetV.mk (.agg _) rfl ?_ | refine LetV.mk (.slm _ _ _ _ _) rfl ?_ | refine LetV.mk (.ro _ _ _) rfl ?_ | refine LetV.mk (.ptr _ _ _ _) rfl ?_) | (refine LetI.pre ?_; first | refine LetI.mk (o := some .quo) L e9 ?_ | refine LetI.mk (o := some .mul) (n - R) e5' ?_ | refine LetI.mk (o := some .rem) m (by rw [← hm]) ?_ | refine LetI.mk (o := some .sub) R (wr_of (by omega) (by omega) (by omega)) ?_ | refine LetI.wrap (by omega) (by omega) ?_ | refine LetI.mk _ rfl ?_) | (refine LetB.pre ?_; first | refine LetB.tt rfl ?_ | refine LetB.ff rfl ?_ | refine LetB.tt (by assumption) ?_ | refine LetB.ff (by assumption) ?_ | refine LetB.dect (by omega) ?_ | refine LetB.decf (by omega) ?_ | refine LetB.beqt (by omega) ?_ | refine LetB.beqf (by omega) ?_ | refine LetB.bnet (by omega) ?_ | refine LetB.bnef (by omega) ?_ | (refine LetB.dec (fun _ => ?_) (fun _ => ?_)) | (refine LetB.beq (fun _ => ?_) (fun _ => ?_)) | (refine LetB.bne (fun _ => ?_) (fun _ => ?_)) | refine LetB.mk _ rfl ?_) | (refine Gd.pre ?_; first | refine Gd.run rfl ?_ | refine Gd.pass rfl ?_ | refine Gd.run (by assumption) ?_ | refine Gd.pass (by assumption) ?_ | (refine Gd.run ?_ ?_; · decide +kernel) | (refine Gd.pass ?_ ?_; · decide +kernel) | refine Gd.both ?_) | (refine Br.pre ?_; first | refine Br.tt rfl ?_ | refine Br.ff rfl ?_ | refine Br.tt (by assumption) ?_ | refine Br.ff (by assumption) ?_ | (refine Br.tt ?_ ?_; · decide +kernel) | (refine Br.ff ?_ ?_; · decide +kernel)) | (refine Ck.pre ?_; first | refine Ck.drawn (by kernel_rfl) ?_ | refine Ck.mk rfl ?_) | (refine LetL.pre ?_; first | refine LetL.mk [_] rfl ?_ | refine LetL.mk _ rfl ?_)))





      all_goals
        refine ⟨.inl rfl, ⟨_, rfl, congrArg int ?_⟩, trivial⟩
        rw [← hu]
        simp
        try omega
end Sc
end Go.Proofs.Ytaphjgkllhfofaa
