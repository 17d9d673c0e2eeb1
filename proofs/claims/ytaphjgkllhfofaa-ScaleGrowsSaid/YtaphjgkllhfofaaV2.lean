/- Ytaphjgkllhfofaa: YtaphjgkllhfofaaV2. -/
import Derived.Test.YtaphjgkllhfofaaV1
namespace Go.Proofs.Ytaphjgkllhfofaa
open Go.Proofs.Ytaphjgkllhfofaa.Am
namespace Sc
theorem rat_one (a A : Int) (hA : 0 < A) : rat (a * A) A = (a, 1) := by
  have h1 : Nat.gcd (a * A).natAbs A.natAbs = A.natAbs := by
    rw [Int.natAbs_mul]; exact Nat.gcd_mul_left_left _ _
  have h2 : ofN (a * A) A = a.natAbs := by
    unfold ofN; rw [h1, Int.natAbs_mul]; exact Nat.mul_div_cancel _ (by omega)
  have h3 : ofD (a * A) A = 1 := by
    unfold ofD; rw [h1]; exact Nat.div_self (by omega)
  unfold rat
  rw [h2, h3]
  by_cases hn : a < 0
  · have h4 : a * A < 0 := Int.mul_neg_of_neg_of_pos hn hA
    rw [if_pos (by simp [h4]; omega)]
    simp; omega
  · have h4 : 0 ≤ a * A := Int.mul_nonneg (by omega) (by omega)
    have h5 : ¬ a * A < 0 := by omega
    rw [if_neg (by simp [h5]; omega)]
    simp; omega
abbrev gr (c : Cnv) (s : Scl) (a : Int) : Int := lim (rd (a * c.1 + c.2.1) c.2.2.1 c.2.2.2) s.1 s.2.1
theorem grow_cv {c : Cnv} {s : Scl} {gs cs : List Int} {a A : Int} (hc : okC c) (hs : okS s) (hl : gs.length = cs.length) (h0 : 0 < gs.length) (hm : gs.length ≤ 2000) (ho : okL gs cs gs.length) (hN : sN gs cs gs.length = a * A) (hD : sD cs gs.length = A) (hA : 0 < A) : cvt c s (mv gs cs) = (gr c s a, 0) := by
  rw [cvt_ok hc hs hl h0 hm ho, hN, hD]
  have e1 : a * A * c.1 + c.2.1 * A = A * (a * c.1 + c.2.1) := by
    rw [Int.mul_add, Int.mul_comm c.2.1 A, Int.mul_comm a A, Int.mul_assoc]
  rw [e1, rd_scale _ _ _ _ hA]
theorem gr_on {c : Cnv} {s : Scl} {a : Int} (hs : okS s) : onS s (gr c s a) := by
  have h := lim_spec (rd (a * c.1 + c.2.1) c.2.2.1 c.2.2.2) s.1 s.2.1
  refine ⟨hs, ?_⟩
  show _ ≤ lim _ _ _ ∧ lim _ _ _ ≤ _
  omega
theorem lim_mono {n m a b : Int} (h : n ≤ m) : lim n a b ≤ lim m a b := by
  unfold lim; omega
theorem gr_up {c : Cnv} {s : Scl} {a b : Int} (hc : okC c) (h : a ≤ b) (hn : 0 ≤ c.1) : gr c s a ≤ gr c s b := by
  refine lim_mono (rd_mono (by omega) ?_)
  have := Int.mul_le_mul_of_nonneg_right h hn
  omega
theorem gr_down {c : Cnv} {s : Scl} {a b : Int} (hc : okC c) (h : a ≤ b) (hn : c.1 ≤ 0) : gr c s b ≤ gr c s a := by
  refine lim_mono (rd_mono (by omega) ?_)
  have := Int.mul_le_mul_of_nonpos_right h hn
  omega
theorem ok1 {a x : Int} (h : okE a x) : okL [a] [x] 1 := fun i hi => by
  obtain rfl : i = 0 := by omega
  exact h
theorem ok3 {a x y z : Int} (h1 : okE a x) (h2 : okE a y) (h3 : okE a z) : okL [a, a, a] [x, y, z] 3 := fun i hi => by
  have : i = 0 ∨ i = 1 ∨ i = 2 := by omega
  rcases this with rfl | rfl | rfl
  · exact h1
  · exact h2
  · exact h3
theorem ok2 {a x y : Int} (h1 : okE a x) (h2 : okE a y) : okL [a, a] [x, y] 2 := fun i hi => by
  have : i = 0 ∨ i = 1 := by omega
  rcases this with rfl | rfl
  · exact h1
  · exact h2
theorem g1 {c : Cnv} {s : Scl} (hc : okC c) (hs : okS s) {a x : Int} (h : okE a x) : AFun Try.prog 27 0 [cnA c, scA s, .ro ⟨true, true⟩ 1 [int a], .ro ⟨true, true⟩ 1 [int x]] [] (.tup [int (gr c s a), int 0]) [] := by
  have k := Convert_f c s [a] [x] ⟨true, true⟩ ⟨true, true⟩ (by simp) (by simp)
  rw [grow_cv (gs := [a]) (cs := [x]) (a := a) (A := x) hc hs rfl (by simp) (by simp) (ok1 h) (by show 0 + a * x = a * x; omega) (by show 0 + x = x; omega) (by omega)] at k
  exact k
theorem g3 {c : Cnv} {s : Scl} (hc : okC c) (hs : okS s) {a x y z : Int} (h1 : okE a x) (h2 : okE a y) (h3 : okE a z) : AFun Try.prog 27 0 [cnA c, scA s, .ro ⟨true, true⟩ 1 [int a, int a, int a], .ro ⟨true, true⟩ 1 [int x, int y, int z]] [] (.tup [int (gr c s a), int 0]) [] := by
  have k := Convert_f c s [a, a, a] [x, y, z] ⟨true, true⟩ ⟨true, true⟩ (by simp) (by simp)
  rw [grow_cv (gs := [a, a, a]) (cs := [x, y, z]) (a := a) (A := x + y + z) hc hs rfl (by simp) (by simp) (ok3 h1 h2 h3) (by show 0 + a * x + a * y + a * z = a * (x + y + z); rw [Int.mul_add, Int.mul_add]; omega) (by show 0 + x + y + z = x + y + z; omega) (by omega)] at k
  exact k
theorem g2 {a x y : Int} (h1 : okE a x) (h2 : okE a y) : AFun Try.prog 25 0 [.ro ⟨true, true⟩ 1 [int a, int a], .ro ⟨true, true⟩ 1 [int x, int y]] [] (.tup [.agg [int a, int 1], int 0]) [] := by
  have k := Mean_f [a, a] [x, y] ⟨true, true⟩ ⟨true, true⟩ (by simp) (by simp)
  rw [mv_ok (by simp) (by simp) (ok2 h1 h2)] at k
  have e : rat (sN [a, a] [x, y] [a, a].length) (sD [x, y] [a, a].length) = (a, 1) := by
    have e1 : sN [a, a] [x, y] [a, a].length = a * (x + y) := by show 0 + a * x + a * y = a * (x + y); rw [Int.mul_add]; omega
    have e2 : sD [x, y] [a, a].length = x + y := by show 0 + x + y = x + y; omega
    rw [e1, e2, rat_one _ _ (by omega)]
  rw [e] at k
  exact k
set_option maxRecDepth 100000 in
set_option maxHeartbeats 8000000 in
theorem grows (l : List Int) (c0 : Cnv) (q : Int × Int × Int × Int) (hl : l.length ≤ 9223372036854775807) : AFun Try.prog 8 0 [.ro {} 1 (l.map int), cnA c0, .agg [int q.1, int q.2.1, int q.2.2.1, int q.2.2.2]] [] (bool true) [] := by
  have hcv := conv_f c0
  have hc := cv_ok c0
  generalize cv c0 = c at hcv hc
  obtain ⟨s, hs, hM⟩ := Made_ok l {} hl
  have a1 := fa_b q.1
  have a2 := fa_b q.2.1
  have a3 := fb_b q.2.2.1
  have a4 := fb_b q.2.2.2
  have m3 := tmod_bound q.2.2.1 (m := 60) (by omega)
  have m4 := tmod_bound q.2.2.2 (m := 60) (by omega)
  have n3 := md3_b (m := 60) (by omega) q.2.2.1
  have n4 := md3_b (m := 60) (by omega) q.2.2.2
  unfold md3 at n3 n4
  have h1 : fa q.1 = q.1.tmod 1001 := rfl
  have h2 : fa q.2.1 = q.2.1.tmod 1001 := rfl
  have h3 : fb q.2.2.1 = IntKind.i64.wrap (1 + (q.2.2.1.tmod 60 + 60).tmod 60) := by rw [wrap_id (by omega) (by omega)]; rfl
  have h4 : fb q.2.2.2 = IntKind.i64.wrap (1 + (q.2.2.2.tmod 60 + 60).tmod 60) := by rw [wrap_id (by omega) (by omega)]; rfl
  generalize fa q.1 = a at *
  generalize fa q.2.1 = b at *
  generalize fb q.2.2.1 = x at *
  generalize fb q.2.2.2 = y at *
  have main : ∀ (a b : Int), (-1000 ≤ a ∧ a ≤ 1000) → (-1000 ≤ b ∧ b ≤ 1000) → a ≤ b → ∃ m n : Int, AFun Try.prog 27 0 [cnA c, scA s, .ro ⟨true, true⟩ 1 [int a], .ro ⟨true, true⟩ 1 [int x]] [] (.tup [int m, int 0]) [] ∧ AFun Try.prog 27 0 [cnA c, scA s, .ro ⟨true, true⟩ 1 [int b], .ro ⟨true, true⟩ 1 [int y]] [] (.tup [int n, int 0]) [] ∧ AFun Try.prog 27 0 [cnA c, scA s, .ro ⟨true, true⟩ 1 [int a, int a, int a], .ro ⟨true, true⟩ 1 [int x, int y, int x]] [] (.tup [int m, int 0]) [] ∧
      AFun Try.prog 25 0 [.ro ⟨true, true⟩ 1 [int a, int a], .ro ⟨true, true⟩ 1 [int x, int y]] [] (.tup [.agg [int a, int 1], int 0]) [] ∧ AFun Try.prog 13 0 [scA s, int m] [] (bool true) [] ∧ (0 ≤ c.1 → m ≤ n) ∧ (c.1 ≤ 0 → n ≤ m) := by
    intro a b ha hb hab
    refine ⟨gr c s a, gr c s b, g1 hc hs ⟨ha, a3⟩, g1 hc hs ⟨hb, a4⟩, g3 hc hs ⟨ha, a3⟩ ⟨ha, a4⟩ ⟨ha, a3⟩, g2 ⟨ha, a3⟩ ⟨ha, a4⟩, ?_, gr_up hc hab, gr_down hc hab⟩
    have := Right_f s (gr c s a)
    rw [show rgt s (gr c s a) = true from decide_eq_true (gr_on hs)] at this
    exact this
  refine AFun.of_W T_ok mixed Try.func8 rfl (Nat.le_of_ble_eq_true rfl) rfl ?_
  by_cases hab : a > b
  · obtain ⟨m, n, k1, k2, k3, k4, k5, k6, k7⟩ := main b a a2 a1 (by omega)
    clear main hc hs
    have hsg : (0 ≤ c.1 ∧ c.1 ≤ 0) ∨ 0 < c.1 ∨ c.1 < 0 := by omega
    rcases hsg with hsg | hsg | hsg
    all_goals
      ((repeat ((conv => whnf); (first | (refine LetN.pre ?_; first | ((conv => arg 1; whnf); refine LetN.mk ?_)) | (refine As.pre ?_; first | refine As.mk rfl ?_ | (refine As.mk ?_ ?_; · decide +kernel) | refine As.mk (andT (nor_self _) rfl) ?_ | refine As.mk (andT (nor_self _) (or_t _)) ?_ | refine As.mk (andT (or_t _) (or_nself _)) ?_ | refine As.mk (andT (or_t _) (or_t _)) ?_ | refine As.mk (andT (nor_self _) (andT (nor_self _) rfl)) ?_ | (refine As.mk ?_ ?_; · ((repeat' (refine andT ?_ ?_)) <;> (first | rfl | assumption | exact decide_eq_true (by omega) | exact decide_eq_true (by dsimp only; omega) | exact decide_eq_true (by simp; omega) | (simp; done))))) | (refine LetV.pre ?_; first | refine LetV.mk (.sc (.int _ _)) rfl ?_ | refine LetV.mk (.sc (.bool _)) rfl ?_ | refine LetV.mk (.sc _) rfl ?_ | refine LetV.mk (.agg _) rfl ?_ | refine LetV.mk (.slm _ _ _ _ _) rfl ?_ | refine LetV.mk (.ro _ _ _) rfl ?_ | refine LetV.mk (.ptr _ _ _ _) rfl ?_) | (refine LetI.pre ?_; first | refine LetI.mk (o := some .rem) a h1 ?_ | refine LetI.mk (o := some .rem) b h2 ?_ | refine LetI.mk (o := some .add) x h3 ?_ | refine LetI.mk (o := some .add) y h4 ?_ | refine LetI.wrap (by omega) (by omega) ?_ | refine LetI.mk _ rfl ?_) | (refine LetB.pre ?_; first | refine LetB.tt rfl ?_ | refine LetB.ff rfl ?_ | refine LetB.tt (by assumption) ?_ | refine LetB.ff (by assumption) ?_ | refine LetB.ff (bne_self_eq_false _) ?_ | refine LetB.mk (o := some .neq) false (by simp) ?_ | refine LetB.dect (by omega) ?_ | refine LetB.decf (by omega) ?_ | refine LetB.beqt (by omega) ?_ | refine LetB.beqf (by omega) ?_ | refine LetB.bnet (by omega) ?_ | refine LetB.bnef (by omega) ?_ | refine LetB.mk _ rfl ?_) | (refine Gd.pre ?_; first | refine Gd.run rfl ?_ | refine Gd.pass rfl ?_ | refine Gd.run (by assumption) ?_ | refine Gd.pass (by assumption) ?_ | (refine Gd.run ?_ ?_; · decide +kernel) | (refine Gd.pass ?_ ?_; · decide +kernel) | refine Gd.both ?_) | (refine Br.pre ?_; first | refine Br.tt rfl ?_ | refine Br.ff rfl ?_ | refine Br.tt (by assumption) ?_ | refine Br.ff (by assumption) ?_ | (refine Br.tt ?_ ?_; · decide +kernel) | (refine Br.ff ?_ ?_; · decide +kernel)) | (refine Ck.pre ?_; first | refine Ck.drawn (by kernel_rfl) ?_ | refine Ck.mk rfl ?_) | (refine LetL.pre ?_; first | refine LetL.mk [_] rfl ?_ | refine LetL.mk _ rfl ?_) | (refine CallN.pre ?_; first | refine CallN.pure sanity_f rfl rfl ?_ | refine CallN.pure hM rfl rfl ?_ | refine CallN.pure hcv rfl rfl ?_ | refine CallN.pure k1 rfl rfl ?_ | refine CallN.pure k2 rfl rfl ?_ | refine CallN.pure k3 rfl rfl ?_ | refine CallN.pure k4 rfl rfl ?_ | refine CallN.pure k5 rfl rfl ?_)))); (try (conv => whnf)))














      exact ⟨.inl rfl, ⟨_, rfl, rfl⟩, trivial⟩
  · obtain ⟨m, n, k1, k2, k3, k4, k5, k6, k7⟩ := main a b a1 a2 (by omega)
    clear main hc hs
    have hsg : (0 ≤ c.1 ∧ c.1 ≤ 0) ∨ 0 < c.1 ∨ c.1 < 0 := by omega
    rcases hsg with hsg | hsg | hsg
    all_goals
      ((repeat ((conv => whnf); (first | (refine LetN.pre ?_; first | ((conv => arg 1; whnf); refine LetN.mk ?_)) | (refine As.pre ?_; first | refine As.mk rfl ?_ | (refine As.mk ?_ ?_; · decide +kernel) | refine As.mk (andT (nor_self _) rfl) ?_ | refine As.mk (andT (nor_self _) (or_t _)) ?_ | refine As.mk (andT (or_t _) (or_nself _)) ?_ | refine As.mk (andT (or_t _) (or_t _)) ?_ | refine As.mk (andT (nor_self _) (andT (nor_self _) rfl)) ?_ | (refine As.mk ?_ ?_; · ((repeat' (refine andT ?_ ?_)) <;> (first | rfl | assumption | exact decide_eq_true (by omega) | exact decide_eq_true (by dsimp only; omega) | exact decide_eq_true (by simp; omega) | (simp; done))))) | (refine LetV.pre ?_; first | refine LetV.mk (.sc (.int _ _)) rfl ?_ | refine LetV.mk (.sc (.bool _)) rfl ?_ | refine LetV.mk (.sc _) rfl ?_ | refine LetV.mk (.agg _) rfl ?_ | refine LetV.mk (.slm _ _ _ _ _) rfl ?_ | refine LetV.mk (.ro _ _ _) rfl ?_ | refine LetV.mk (.ptr _ _ _ _) rfl ?_) | (refine LetI.pre ?_; first | refine LetI.mk (o := some .rem) a h1 ?_ | refine LetI.mk (o := some .rem) b h2 ?_ | refine LetI.mk (o := some .add) x h3 ?_ | refine LetI.mk (o := some .add) y h4 ?_ | refine LetI.wrap (by omega) (by omega) ?_ | refine LetI.mk _ rfl ?_) | (refine LetB.pre ?_; first | refine LetB.tt rfl ?_ | refine LetB.ff rfl ?_ | refine LetB.tt (by assumption) ?_ | refine LetB.ff (by assumption) ?_ | refine LetB.ff (bne_self_eq_false _) ?_ | refine LetB.mk (o := some .neq) false (by simp) ?_ | refine LetB.dect (by omega) ?_ | refine LetB.decf (by omega) ?_ | refine LetB.beqt (by omega) ?_ | refine LetB.beqf (by omega) ?_ | refine LetB.bnet (by omega) ?_ | refine LetB.bnef (by omega) ?_ | refine LetB.mk _ rfl ?_) | (refine Gd.pre ?_; first | refine Gd.run rfl ?_ | refine Gd.pass rfl ?_ | refine Gd.run (by assumption) ?_ | refine Gd.pass (by assumption) ?_ | (refine Gd.run ?_ ?_; · decide +kernel) | (refine Gd.pass ?_ ?_; · decide +kernel) | refine Gd.both ?_) | (refine Br.pre ?_; first | refine Br.tt rfl ?_ | refine Br.ff rfl ?_ | refine Br.tt (by assumption) ?_ | refine Br.ff (by assumption) ?_ | (refine Br.tt ?_ ?_; · decide +kernel) | (refine Br.ff ?_ ?_; · decide +kernel)) | (refine Ck.pre ?_; first | refine Ck.drawn (by kernel_rfl) ?_ | refine Ck.mk rfl ?_) | (refine LetL.pre ?_; first | refine LetL.mk [_] rfl ?_ | refine LetL.mk _ rfl ?_) | (refine CallN.pre ?_; first | refine CallN.pure sanity_f rfl rfl ?_ | refine CallN.pure hM rfl rfl ?_ | refine CallN.pure hcv rfl rfl ?_ | refine CallN.pure k1 rfl rfl ?_ | refine CallN.pure k2 rfl rfl ?_ | refine CallN.pure k3 rfl rfl ?_ | refine CallN.pure k4 rfl rfl ?_ | refine CallN.pure k5 rfl rfl ?_)))); (try (conv => whnf)))














      exact ⟨.inl rfl, ⟨_, rfl, rfl⟩, trivial⟩
end Sc
end Go.Proofs.Ytaphjgkllhfofaa
