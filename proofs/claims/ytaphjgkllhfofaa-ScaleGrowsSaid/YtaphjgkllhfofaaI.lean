/- Ytaphjgkllhfofaa: YtaphjgkllhfofaaI. -/
import Derived.Test.YtaphjgkllhfofaaH
namespace Go.Proofs.Ytaphjgkllhfofaa
open Go.Proofs.Ytaphjgkllhfofaa.Am
namespace Sc
abbrev rt (r : Int × Int) (e : Int) : AV := .tup [.agg [int r.1, int r.2], int e]
def ps (f : Nat → Int) : Nat → Int
  | 0 => 0
  | k + 1 => ps f k + f k
abbrev gd (l : List Int) (i : Nat) : Int := l.getD i 0
/-- A grade with its credits. -/
abbrev okE (g n : Int) : Prop := (-1000 ≤ g ∧ g ≤ 1000) ∧ 1 ≤ n ∧ n ≤ 60
abbrev okL (gs cs : List Int) (k : Nat) : Prop := ∀ i, i < k → okE (gd gs i) (gd cs i)
def sN (gs cs : List Int) : Nat → Int := ps fun i => gd gs i * gd cs i
def sD (cs : List Int) : Nat → Int := ps fun i => gd cs i
theorem mul_b {g n : Int} (h : okE g n) : -60000 ≤ g * n ∧ g * n ≤ 60000 := by
  obtain ⟨⟨h1, h2⟩, h3, h4⟩ := h
  have a : g * n ≤ 1000 * n := Int.mul_le_mul_of_nonneg_right h2 (by omega)
  have b : -1000 * n ≤ g * n := Int.mul_le_mul_of_nonneg_right h1 (by omega)
  omega
theorem sums_b (gs cs : List Int) : ∀ k, okL gs cs k → (-60000 * (k : Int) ≤ sN gs cs k ∧ sN gs cs k ≤ 60000 * k) ∧ (k : Int) ≤ sD cs k ∧ sD cs k ≤ 60 * k
  | 0, _ => by simp [sN, sD, ps]
  | k + 1, h => by
    have ih := sums_b gs cs k fun i hi => h i (by omega)
    have h1 := h k (by omega)
    have h2 := mul_b h1
    have e1 : sN gs cs (k + 1) = sN gs cs k + gd gs k * gd cs k := rfl
    have e2 : sD cs (k + 1) = sD cs k + gd cs k := rfl
    rw [e1, e2]
    obtain ⟨_, h3, h4⟩ := h1
    generalize gd gs k * gd cs k = m at *
    omega
def rat (n d : Int) : Int × Int := (if (decide (n < 0) != decide (d < 0)) = true then 0 - (ofN n d : Int) else ofN n d, ofD n d)
/-- The mean of a list. -/
def mv (gs cs : List Int) : (Int × Int) × Int :=
  if gs.length ≠ cs.length ∨ gs.length = 0 then ((0, 0), 1) else if 2000 < gs.length then ((0, 0), 2) else if okL gs cs gs.length then (rat (sN gs cs gs.length) (sD cs gs.length), 0) else ((0, 0), 3)
theorem of_b (n d : Int) (h : -120000000 ≤ n ∧ n ≤ 120000000) (hd : 0 ≤ d ∧ d ≤ 120000) : ofN n d ≤ 1073741824 ∧ ofD n d ≤ 1073741824 := by
  have h1 : ofN n d ≤ n.natAbs := Nat.div_le_self _ _
  have h2 : ofD n d ≤ d.natAbs := Nat.div_le_self _ _
  omega
theorem rat_f (n d : Int) (h : -120000000 ≤ n ∧ n ≤ 120000000) (hd : 0 < d ∧ d ≤ 120000) : AFun Try.prog 33 0 [int n, int d] [] (rt (rat n d) 0) [] :=
  Of_f n d (by omega) (by omega) (by omega) (of_b n d h (by omega)).1 (of_b n d h (by omega)).2
theorem refrat_f (n d : Int) (h : -120000000 ≤ n ∧ n ≤ 120000000) (hd : 0 < d ∧ d ≤ 120000) : AFun Try.prog 34 0 [int n, int d] [] (rt (rat n d) 0) [] :=
  refOf_f n d (by omega) (by omega) (by omega) (of_b n d h (by omega)).1 (of_b n d h (by omega)).2
theorem add_ok (g n s a : Int) (h : okE g n) (hs : -120000000 ≤ s ∧ s ≤ 120000000) (ha : 0 ≤ a ∧ a ≤ 120000) : AFun Try.prog 32 2 [int g, int n, .ptr 0 1 0 0, .ptr 1 1 0 0] [(0, .row 1 3 [int s]), (1, .row 1 3 [int a])] (bool true) [(0, .row 1 3 [int (s + g * n)]), (1, .row 1 3 [int (a + n)])] := by
  refine AFun.of_W T_ok mixed Try.func32 rfl (Nat.le_of_ble_eq_true rfl) rfl ?_
  have hm := mul_b h
  have h1 := lim_spec g (-1000) 1000
  have h2 := lim_spec n 1 60
  ((repeat ((conv => whnf); (first | (refine LetN.pre ?_; first | ((conv => arg 1; whnf); refine LetN.mk ?_)) | (refine As.pre ?_; first | refine As.mk rfl ?_ | (refine As.mk ?_ ?_; · decide +kernel) | refine As.mk (andT (nor_self _) rfl) ?_ | refine As.mk (andT (nor_self _) (or_t _)) ?_ | refine As.mk (andT (or_t _) (or_nself _)) ?_ | refine As.mk (andT (or_t _) (or_t _)) ?_ | refine As.mk (andT (nor_self _) (andT (nor_self _) rfl)) ?_ | (refine As.mk ?_ ?_; · ((repeat' (refine andT ?_ ?_)) <;> (first | rfl | assumption | exact decide_eq_true (by omega) | exact decide_eq_true (by dsimp only; omega) | exact decide_eq_true (by simp; omega) | (simp; done))))) | (refine LetV.pre ?_; first | refine LetV.mk (.sc (.int _ _)) rfl ?_ | refine LetV.mk (.sc (.bool _)) rfl ?_ | refine LetV.mk (.sc _) rfl ?_ | refine LetV.mk (.agg _) rfl ?_ | refine LetV.mk (.slm _ _ _ _ _) rfl ?_ | refine LetV.mk (.ro _ _ _) rfl ?_ | refine LetV.mk (.ptr _ _ _ _) rfl ?_) | (refine LetI.pre ?_; first | refine LetI.wrap (by omega) (by omega) ?_ | refine LetI.mk _ rfl ?_) | (refine LetB.pre ?_; first | refine LetB.tt rfl ?_ | refine LetB.ff rfl ?_ | refine LetB.tt (by assumption) ?_ | refine LetB.ff (by assumption) ?_ | refine LetB.dect (by omega) ?_ | refine LetB.decf (by omega) ?_ | refine LetB.beqt (by omega) ?_ | refine LetB.beqf (by omega) ?_ | refine LetB.bnet (by omega) ?_ | refine LetB.bnef (by omega) ?_ | refine LetB.mk _ rfl ?_) | (refine Gd.pre ?_; first | refine Gd.run rfl ?_ | refine Gd.pass rfl ?_ | refine Gd.run (by assumption) ?_ | refine Gd.pass (by assumption) ?_ | (refine Gd.run ?_ ?_; · decide +kernel) | (refine Gd.pass ?_ ?_; · decide +kernel) | refine Gd.both ?_) | (refine Br.pre ?_; first | refine Br.tt rfl ?_ | refine Br.ff rfl ?_ | refine Br.tt (by assumption) ?_ | refine Br.ff (by assumption) ?_ | (refine Br.tt ?_ ?_; · decide +kernel) | (refine Br.ff ?_ ?_; · decide +kernel)) | (refine Ck.pre ?_; first | refine Ck.drawn (by kernel_rfl) ?_ | refine Ck.mk rfl ?_) | (refine LetL.pre ?_; first | refine LetL.mk [_] rfl ?_ | refine LetL.mk _ rfl ?_) | (refine CallN.pre ?_; first | refine CallN.pure (limited_f _ _ _) rfl rfl ?_)))); (try (conv => whnf)))
  exact ⟨.inl rfl, ⟨_, rfl, rfl⟩, rfl, rfl, trivial⟩
theorem add_bad (g n s a : Int) (h : ¬ okE g n) : ∃ s' a', AFun Try.prog 32 2 [int g, int n, .ptr 0 1 0 0, .ptr 1 1 0 0] [(0, .row 1 3 [int s]), (1, .row 1 3 [int a])] (bool false) [(0, .row 1 3 [int s']), (1, .row 1 3 [int a'])] := by
  refine ⟨IntKind.i64.wrap (s + IntKind.i64.wrap (g * n)), IntKind.i64.wrap (a + n), ?_⟩
  refine AFun.of_W T_ok mixed Try.func32 rfl (Nat.le_of_ble_eq_true rfl) rfl ?_
  have h1 := lim_spec g (-1000) 1000
  have h2 := lim_spec n 1 60
  by_cases hg : -1000 ≤ g ∧ g ≤ 1000
  · have hn : ¬ (1 ≤ n ∧ n ≤ 60) := fun hn => h ⟨hg, hn⟩
    ((repeat ((conv => whnf); (first | (refine LetN.pre ?_; first | ((conv => arg 1; whnf); refine LetN.mk ?_)) | (refine As.pre ?_; first | refine As.mk rfl ?_ | (refine As.mk ?_ ?_; · decide +kernel) | refine As.mk (andT (nor_self _) rfl) ?_ | refine As.mk (andT (nor_self _) (or_t _)) ?_ | refine As.mk (andT (or_t _) (or_nself _)) ?_ | refine As.mk (andT (or_t _) (or_t _)) ?_ | refine As.mk (andT (nor_self _) (andT (nor_self _) rfl)) ?_ | (refine As.mk ?_ ?_; · ((repeat' (refine andT ?_ ?_)) <;> (first | rfl | assumption | exact decide_eq_true (by omega) | exact decide_eq_true (by dsimp only; omega) | exact decide_eq_true (by simp; omega) | (simp; done))))) | (refine LetV.pre ?_; first | refine LetV.mk (.sc (.int _ _)) rfl ?_ | refine LetV.mk (.sc (.bool _)) rfl ?_ | refine LetV.mk (.sc _) rfl ?_ | refine LetV.mk (.agg _) rfl ?_ | refine LetV.mk (.slm _ _ _ _ _) rfl ?_ | refine LetV.mk (.ro _ _ _) rfl ?_ | refine LetV.mk (.ptr _ _ _ _) rfl ?_) | (refine LetI.pre ?_; first | refine LetI.mk (o := some .add) _ rfl ?_ | refine LetI.wrap (by omega) (by omega) ?_ | refine LetI.mk _ rfl ?_) | (refine LetB.pre ?_; first | refine LetB.tt rfl ?_ | refine LetB.ff rfl ?_ | refine LetB.tt (by assumption) ?_ | refine LetB.ff (by assumption) ?_ | refine LetB.dect (by omega) ?_ | refine LetB.decf (by omega) ?_ | refine LetB.beqt (by omega) ?_ | refine LetB.beqf (by omega) ?_ | refine LetB.bnet (by omega) ?_ | refine LetB.bnef (by omega) ?_ | refine LetB.mk _ rfl ?_) | (refine Gd.pre ?_; first | refine Gd.run rfl ?_ | refine Gd.pass rfl ?_ | refine Gd.run (by assumption) ?_ | refine Gd.pass (by assumption) ?_ | (refine Gd.run ?_ ?_; · decide +kernel) | (refine Gd.pass ?_ ?_; · decide +kernel) | refine Gd.both ?_) | (refine Br.pre ?_; first | refine Br.tt rfl ?_ | refine Br.ff rfl ?_ | refine Br.tt (by assumption) ?_ | refine Br.ff (by assumption) ?_ | (refine Br.tt ?_ ?_; · decide +kernel) | (refine Br.ff ?_ ?_; · decide +kernel)) | (refine Ck.pre ?_; first | refine Ck.drawn (by kernel_rfl) ?_ | refine Ck.mk rfl ?_) | (refine LetL.pre ?_; first | refine LetL.mk [_] rfl ?_ | refine LetL.mk _ rfl ?_) | (refine CallN.pre ?_; first | refine CallN.pure (limited_f _ _ _) rfl rfl ?_)))); (try (conv => whnf)))
    exact ⟨.inl rfl, ⟨_, rfl, rfl⟩, rfl, rfl, trivial⟩
  · ((repeat ((conv => whnf); (first | (refine LetN.pre ?_; first | ((conv => arg 1; whnf); refine LetN.mk ?_)) | (refine As.pre ?_; first | refine As.mk rfl ?_ | (refine As.mk ?_ ?_; · decide +kernel) | refine As.mk (andT (nor_self _) rfl) ?_ | refine As.mk (andT (nor_self _) (or_t _)) ?_ | refine As.mk (andT (or_t _) (or_nself _)) ?_ | refine As.mk (andT (or_t _) (or_t _)) ?_ | refine As.mk (andT (nor_self _) (andT (nor_self _) rfl)) ?_ | (refine As.mk ?_ ?_; · ((repeat' (refine andT ?_ ?_)) <;> (first | rfl | assumption | exact decide_eq_true (by omega) | exact decide_eq_true (by dsimp only; omega) | exact decide_eq_true (by simp; omega) | (simp; done))))) | (refine LetV.pre ?_; first | refine LetV.mk (.sc (.int _ _)) rfl ?_ | refine LetV.mk (.sc (.bool _)) rfl ?_ | refine LetV.mk (.sc _) rfl ?_ | refine LetV.mk (.agg _) rfl ?_ | refine LetV.mk (.slm _ _ _ _ _) rfl ?_ | refine LetV.mk (.ro _ _ _) rfl ?_ | refine LetV.mk (.ptr _ _ _ _) rfl ?_) | (refine LetI.pre ?_; first | refine LetI.mk (o := some .add) _ rfl ?_ | refine LetI.wrap (by omega) (by omega) ?_ | refine LetI.mk _ rfl ?_) | (refine LetB.pre ?_; first | refine LetB.tt rfl ?_ | refine LetB.ff rfl ?_ | refine LetB.tt (by assumption) ?_ | refine LetB.ff (by assumption) ?_ | refine LetB.dect (by omega) ?_ | refine LetB.decf (by omega) ?_ | refine LetB.beqt (by omega) ?_ | refine LetB.beqf (by omega) ?_ | refine LetB.bnet (by omega) ?_ | refine LetB.bnef (by omega) ?_ | refine LetB.mk _ rfl ?_) | (refine Gd.pre ?_; first | refine Gd.run rfl ?_ | refine Gd.pass rfl ?_ | refine Gd.run (by assumption) ?_ | refine Gd.pass (by assumption) ?_ | (refine Gd.run ?_ ?_; · decide +kernel) | (refine Gd.pass ?_ ?_; · decide +kernel) | refine Gd.both ?_) | (refine Br.pre ?_; first | refine Br.tt rfl ?_ | refine Br.ff rfl ?_ | refine Br.tt (by assumption) ?_ | refine Br.ff (by assumption) ?_ | (refine Br.tt ?_ ?_; · decide +kernel) | (refine Br.ff ?_ ?_; · decide +kernel)) | (refine Ck.pre ?_; first | refine Ck.drawn (by kernel_rfl) ?_ | refine Ck.mk rfl ?_) | (refine LetL.pre ?_; first | refine LetL.mk [_] rfl ?_ | refine LetL.mk _ rfl ?_) | (refine CallN.pre ?_; first | refine CallN.pure (limited_f _ _ _) rfl rfl ?_)))); (try (conv => whnf)))
    exact ⟨.inl rfl, ⟨_, rfl, rfl⟩, rfl, rfl, trivial⟩
end Sc
end Go.Proofs.Ytaphjgkllhfofaa
