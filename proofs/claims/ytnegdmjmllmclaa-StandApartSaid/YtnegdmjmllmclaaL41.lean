/- stand: parts of the proof, DstandSM DstandSB DstandSC DstandSD DstandSE DstandSF DstandSG DstandSH. -/
import Derived.Test.YtnegdmjmllmclaaL40
set_option linter.all false
namespace Go.Proofs.Ytnegdmjmllmclaa
open Go.Proofs.Ytnegdmjmllmclaa.Am
set_option maxRecDepth 100000
namespace Sc
/-! ### Ratios and means -/
abbrev u64 (a : Int) : AV := .sc (.int .u64 a)
theorem wrap_u (n : Int) : IntKind.u64.wrap n = n % 18446744073709551616 := by
  unfold IntKind.wrap
  simp only [IntKind.signed, IntKind.bits]
  rfl
theorem size_up {a : Int} (h : -9223372036854775808 ≤ a ∧ a ≤ 9223372036854775807) (hn : ¬ a < 0) : IntKind.u64.wrap a = (a.natAbs : Int) := by
  rw [wrap_u]; omega
theorem size_down {a : Int} (h : -9223372036854775808 ≤ a ∧ a ≤ 9223372036854775807) (hn : a < 0) : IntKind.u64.wrap (0 - IntKind.u64.wrap a) = (a.natAbs : Int) := by
  rw [wrap_u, wrap_u]; omega
/-- The size of a number. -/
theorem size_f (a : Int) (h : -9223372036854775808 ≤ a ∧ a ≤ 9223372036854775807) : AFun Try.prog 75 0 [int a] [] (u64 (a.natAbs : Int)) [] := by
  refine AFun.of_W T_ok mixed Try.func75 rfl (Nat.le_of_ble_eq_true rfl) rfl ?_
  by_cases hn : a < 0
  · ((repeat ((conv => whnf); (first | (refine As.pre ?_; first | refine As.mk rfl ?_) | (refine LetI.pre ?_; first | refine LetI.mk _ rfl ?_) | (refine LetB.pre ?_; first | refine LetB.dect (p := a < 0) hn ?_) | (refine Br.pre ?_; first | refine Br.tt rfl ?_) | (refine Ck.pre ?_; first | refine Ck.mk rfl ?_)))); (try (conv => whnf)))
    exact ⟨.inl rfl, ⟨_, rfl, congrArg u64 (size_down h hn)⟩, trivial⟩
  · ((repeat ((conv => whnf); (first | (refine As.pre ?_; first | refine As.mk rfl ?_) | (refine LetI.pre ?_; first | refine LetI.mk _ rfl ?_) | (refine LetB.pre ?_; first | refine LetB.decf (p := a < 0) hn ?_) | (refine Br.pre ?_; first | refine Br.ff rfl ?_) | (refine Ck.pre ?_; first | refine Ck.mk rfl ?_)))); (try (conv => whnf)))
    exact ⟨.inl rfl, ⟨_, rfl, congrArg u64 (size_up h hn)⟩, trivial⟩
theorem refsize_f (a : Int) (h : -9223372036854775808 ≤ a ∧ a ≤ 9223372036854775807) : AFun Try.prog 81 0 [int a] [] (u64 (a.natAbs : Int)) [] := by
  refine AFun.of_W T_ok mixed Try.func81 rfl (Nat.le_of_ble_eq_true rfl) rfl ?_
  by_cases hn : a < 0
  · ((repeat ((conv => whnf); (first | (refine As.pre ?_; first | refine As.mk rfl ?_) | (refine LetI.pre ?_; first | refine LetI.mk _ rfl ?_) | (refine LetB.pre ?_; first | refine LetB.dect (p := a < 0) hn ?_) | (refine Br.pre ?_; first | refine Br.tt rfl ?_) | (refine Ck.pre ?_; first | refine Ck.mk rfl ?_)))); (try (conv => whnf)))
    exact ⟨.inl rfl, ⟨_, rfl, congrArg u64 (size_down h hn)⟩, trivial⟩
  · ((repeat ((conv => whnf); (first | (refine As.pre ?_; first | refine As.mk rfl ?_) | (refine LetI.pre ?_; first | refine LetI.mk _ rfl ?_) | (refine LetB.pre ?_; first | refine LetB.decf (p := a < 0) hn ?_) | (refine Br.pre ?_; first | refine Br.ff rfl ?_) | (refine Ck.pre ?_; first | refine Ck.mk rfl ?_)))); (try (conv => whnf)))
    exact ⟨.inl rfl, ⟨_, rfl, congrArg u64 (size_up h hn)⟩, trivial⟩
theorem gcd_step (a b : Nat) : Nat.gcd b (a % b) = Nat.gcd a b := by
  rw [Nat.gcd_comm b, ← Nat.gcd_rec, Nat.gcd_comm]
theorem tmod_nat (a b : Nat) : (a : Int).tmod b = ((a % b : Nat) : Int) := (Int.ofNat_tmod a b).symm
theorem refgcd_f (a b : Nat) : AFun Try.prog 80 0 [u64 a, u64 b] [] (u64 (Nat.gcd a b : Nat)) [] := by
  refine AFun.of_W T_ok mixed Try.func80 rfl (Nat.le_of_ble_eq_true rfl) rfl ?_
  ((repeat ((conv => whnf); (first | (refine As.pre ?_; first | refine As.mk rfl ?_) | (refine Ck.pre ?_; first | refine Ck.mk rfl ?_)))); (try (conv => whnf)))
  refine LoopN.weak (SW.fr0 (nx2 := 0) (fr2 := [(0, u64 a), (1, u64 b)]) (Nat.zero_le _) rfl ⟨.refl _, .refl _, trivial⟩) ?_
  refine LoopN.ind T_ok mixed (S := fun k : Nat × Nat => ⟨[(0, u64 k.1), (1, u64 k.2)], [], 0⟩) (fun k => k.2) (fun k => Nat.gcd k.1 k.2 = Nat.gcd a b) (fun _ => rfl) (fun k hk ih => ?_) (a, b) rfl
  by_cases h0 : k.2 = 0
  · have hb : ((k.2 : Int) != 0) = false := by simp [h0]
    ((repeat ((conv => whnf); (first | (refine As.pre ?_; first | refine As.mk rfl ?_) | (refine LetB.pre ?_; first | refine LetB.ff (by assumption) ?_) | (refine Br.pre ?_; first | refine Br.ff rfl ?_) | (refine Ck.pre ?_; first | refine Ck.mk rfl ?_)))); (try (conv => whnf)))
    refine ⟨.inl rfl, ⟨_, rfl, congrArg u64 ?_⟩, trivial⟩
    rw [← hk, h0, Nat.gcd_zero_right]
  · have hb : ((k.2 : Int) != 0) = true := by simpa using h0
    ((repeat ((conv => whnf); (first | (refine As.pre ?_; first | refine As.mk rfl ?_ | refine As.mk hb ?_) | (refine LetI.pre ?_; first | refine LetI.mk _ rfl ?_) | (refine LetB.pre ?_; first | refine LetB.tt (by assumption) ?_) | (refine Br.pre ?_; first | refine Br.tt rfl ?_) | (refine Ck.pre ?_; first | refine Ck.drawn (by kernel_rfl) ?_ | refine Ck.mk rfl ?_)))); (try (conv => whnf)))
    refine LoopN.weak ?sw (ih (k.2, k.1 % k.2) ((gcd_step _ _).trans hk) (Nat.mod_lt _ (by omega)))
    exact SW.fr0 (Nat.zero_le _) rfl ⟨.refl _, VLe2.int (tmod_nat _ _).symm, trivial⟩
theorem gcd_f (a b : Nat) (fl : Fl) : AFun Try.prog 74 0 [.ro fl 1 [u64 a, u64 b]] [] (u64 (Nat.gcd a b : Nat)) [] := by
  refine AFun.of_W T_ok mixed Try.func74 rfl (Nat.le_of_ble_eq_true rfl) rfl ?_
  ((repeat ((conv => whnf); (first | (refine As.pre ?_; first | refine As.mk rfl ?_) | (refine LetI.pre ?_; first | refine LetI.mk _ rfl ?_) | (refine Ck.pre ?_; first | refine Ck.mk rfl ?_)))); (try (conv => whnf)))
  refine LoopN.round T_ok mixed rfl ?_
  ((repeat ((conv => whnf); (first | (refine As.pre ?_; first | refine As.mk rfl ?_) | (refine LetV.pre ?_; first | refine LetV.mk (.sc (.int _ _)) rfl ?_) | (refine LetB.pre ?_; first | refine LetB.tt rfl ?_) | (refine Br.pre ?_; first | refine Br.tt rfl ?_) | (refine Ck.pre ?_; first | refine Ck.mk rfl ?_)))); (try (conv => whnf)))
  refine LoopN.weak (SW.fr0 (nx2 := 0) (fr2 := [(0, .ro fl 1 [u64 a, u64 b]), (3, u64 (0 : Nat)), (5, u64 a), (6, .ro fl 1 [u64 a, u64 b]), (7, int 2), (8, int 0)]) (Nat.zero_le _) rfl ⟨.refl _, .refl _, .refl _, .refl _, .refl _, .refl _, trivial⟩) ?_
  refine LoopN.ind T_ok mixed (S := fun k : Nat × Nat => ⟨[(0, .ro fl 1 [u64 a, u64 b]), (3, u64 k.1), (5, u64 k.2), (6, .ro fl 1 [u64 a, u64 b]), (7, int 2), (8, int 0)], [], 0⟩) (fun k => k.2) (fun k => Nat.gcd k.1 k.2 = a) (fun _ => rfl) (fun k hk ih => ?_) (0, a) (Nat.gcd_zero_left a)
  by_cases h0 : k.2 = 0
  · have hb : ((k.2 : Int) != 0) = false := by simp [h0]
    have ha : k.1 = a := by rw [← hk, h0, Nat.gcd_zero_right]
    rw [ha]
    clear ih
    ((repeat ((conv => whnf); (first | (refine As.pre ?_; first | refine As.mk rfl ?_) | (refine LetI.pre ?_; first | refine LetI.wrap (by omega) (by omega) ?_) | (refine LetB.pre ?_; first | refine LetB.ff (by assumption) ?_) | (refine Br.pre ?_; first | refine Br.ff rfl ?_) | (refine Ck.pre ?_; first | refine Ck.mk rfl ?_)))); (try (conv => whnf)))
    refine LoopN.round T_ok mixed rfl ?_
    ((repeat ((conv => whnf); (first | (refine As.pre ?_; first | refine As.mk rfl ?_) | (refine LetV.pre ?_; first | refine LetV.mk (.sc (.int _ _)) rfl ?_) | (refine LetB.pre ?_; first | refine LetB.tt rfl ?_) | (refine Br.pre ?_; first | refine Br.tt rfl ?_) | (refine Ck.pre ?_; first | refine Ck.mk rfl ?_)))); (try (conv => whnf)))
    refine LoopN.weak (SW.fr0 (nx2 := 0) (fr2 := [(0, .ro fl 1 [u64 a, u64 b]), (3, u64 a), (5, u64 b), (6, .ro fl 1 [u64 a, u64 b]), (7, int 2), (8, int 1)]) (Nat.zero_le _) rfl ⟨.refl _, .refl _, .refl _, .refl _, .refl _, .refl _, trivial⟩) ?_
    refine LoopN.ind T_ok mixed (S := fun k : Nat × Nat => ⟨[(0, .ro fl 1 [u64 a, u64 b]), (3, u64 k.1), (5, u64 k.2), (6, .ro fl 1 [u64 a, u64 b]), (7, int 2), (8, int 1)], [], 0⟩) (fun k => k.2) (fun k => Nat.gcd k.1 k.2 = Nat.gcd a b) (fun _ => rfl) (fun k hk ih => ?_) (a, b) rfl
    by_cases h0 : k.2 = 0
    · have hb : ((k.2 : Int) != 0) = false := by simp [h0]
      have ha : k.1 = Nat.gcd a b := by rw [← hk, h0, Nat.gcd_zero_right]
      rw [ha]
      clear ih
      ((repeat ((conv => whnf); (first | (refine As.pre ?_; first | refine As.mk rfl ?_) | (refine LetI.pre ?_; first | refine LetI.wrap (by omega) (by omega) ?_) | (refine LetB.pre ?_; first | refine LetB.ff (by assumption) ?_) | (refine Br.pre ?_; first | refine Br.ff rfl ?_) | (refine Ck.pre ?_; first | refine Ck.mk rfl ?_)))); (try (conv => whnf)))
      refine LoopN.round T_ok mixed rfl ?_
      ((repeat ((conv => whnf); (first | (refine As.pre ?_; first | refine As.mk rfl ?_) | (refine LetB.pre ?_; first | refine LetB.ff rfl ?_) | (refine Br.pre ?_; first | refine Br.ff rfl ?_) | (refine Ck.pre ?_; first | refine Ck.mk rfl ?_)))); (try (conv => whnf)))
      exact ⟨.inl rfl, ⟨_, rfl, rfl⟩, trivial⟩
    · have hb : ((k.2 : Int) != 0) = true := by simpa using h0
      ((repeat ((conv => whnf); (first | (refine As.pre ?_; first | refine As.mk rfl ?_ | refine As.mk hb ?_) | (refine LetI.pre ?_; first | refine LetI.mk _ rfl ?_) | (refine LetB.pre ?_; first | refine LetB.tt (by assumption) ?_) | (refine Br.pre ?_; first | refine Br.tt rfl ?_) | (refine Ck.pre ?_; first | refine Ck.drawn (by kernel_rfl) ?_ | refine Ck.mk rfl ?_)))); (try (conv => whnf)))
      refine LoopN.weak ?sw2 (ih (k.2, k.1 % k.2) ((gcd_step _ _).trans hk) (Nat.mod_lt _ (by omega)))
      exact SW.fr0 (Nat.zero_le _) rfl ⟨.refl _, .refl _, VLe2.int (tmod_nat _ _).symm, .refl _, .refl _, .refl _, trivial⟩
  · have hb : ((k.2 : Int) != 0) = true := by simpa using h0
    ((repeat ((conv => whnf); (first | (refine As.pre ?_; first | refine As.mk rfl ?_ | refine As.mk hb ?_) | (refine LetI.pre ?_; first | refine LetI.mk _ rfl ?_) | (refine LetB.pre ?_; first | refine LetB.tt (by assumption) ?_) | (refine Br.pre ?_; first | refine Br.tt rfl ?_) | (refine Ck.pre ?_; first | refine Ck.drawn (by kernel_rfl) ?_ | refine Ck.mk rfl ?_)))); (try (conv => whnf)))
    refine LoopN.weak ?sw (ih (k.2, k.1 % k.2) ((gcd_step _ _).trans hk) (Nat.mod_lt _ (by omega)))
    exact SW.fr0 (Nat.zero_le _) rfl ⟨.refl _, .refl _, VLe2.int (tmod_nat _ _).symm, .refl _, .refl _, .refl _, trivial⟩
def ofN (n d : Int) : Nat := n.natAbs / Nat.gcd n.natAbs d.natAbs
def ofD (n d : Int) : Nat := d.natAbs / Nat.gcd n.natAbs d.natAbs
theorem wrap_quo (a b : Nat) (ha : a < 18446744073709551616) : IntKind.u64.wrap ((a : Int).tdiv b) = ((a / b : Nat) : Int) := by
  have h : (a : Int).tdiv b = ((a / b : Nat) : Int) := (Int.ofNat_tdiv a b).symm
  have h2 : a / b ≤ a := Nat.div_le_self _ _
  rw [h, wrap_u]
  generalize a / b = q at *
  omega
set_option maxHeartbeats 1000000 in
theorem Of_f (n d : Int) (hn : -9223372036854775808 ≤ n ∧ n ≤ 9223372036854775807) (hd : -9223372036854775808 ≤ d ∧ d ≤ 9223372036854775807) (h0 : d ≠ 0) (hu : ofN n d ≤ 1073741824) (hv : ofD n d ≤ 1073741824) : AFun Try.prog 48 0 [int n, int d] [] (.tup [.agg [int (if (decide (n < 0) != decide (d < 0)) = true then 0 - (ofN n d : Int) else ofN n d), int (ofD n d)], int 0]) [] := by
  refine AFun.of_W T_ok mixed Try.func48 rfl (Nat.le_of_ble_eq_true rfl) rfl ?_
  have hg : 0 < Nat.gcd n.natAbs d.natAbs := Nat.gcd_pos_of_pos_right _ (by omega)
  have hq : ((Nat.gcd n.natAbs d.natAbs : Int) != 0) = true := by simp; omega
  have e1 : _ = (ofN n d : Int) := wrap_quo n.natAbs (Nat.gcd n.natAbs d.natAbs) (by omega)
  have e2 : _ = (ofD n d : Int) := wrap_quo d.natAbs (Nat.gcd n.natAbs d.natAbs) (by omega)
  have hz : (d == 0) = false := by simpa using h0
  generalize ofN n d = u at *
  generalize ofD n d = v at *
  repeat' ((conv => whnf); (first | (refine LetN.pre ?_; first | ((conv => arg 1; whnf); refine LetN.mk ?_)) | (refine As.pre ?_; first | refine As.mk rfl ?_ | refine As.mk hq ?_) | (refine LetV.pre ?_; first | refine LetV.mk (.sc (.int _ _)) rfl ?_ | refine LetV.mk (.agg _) rfl ?_) | (refine LetI.pre ?_; first | refine LetI.mk _ e1.symm ?_ | refine LetI.mk _ e2.symm ?_ | refine LetI.wrap (by omega) (by omega) ?_) | (refine LetB.pre ?_; first | refine LetB.tt rfl ?_ | refine LetB.ff rfl ?_ | refine LetB.ff (by assumption) ?_ | refine LetB.decf (by omega) ?_ | (refine LetB.dec (fun _ => ?_) (fun _ => ?_))) | (refine Gd.pre ?_; first | refine Gd.run rfl ?_) | (refine Br.pre ?_; first | refine Br.tt rfl ?_ | refine Br.ff rfl ?_) | (refine Ck.pre ?_; first | refine Ck.drawn (by kernel_rfl) ?_ | refine Ck.mk rfl ?_) | (refine LetL.pre ?_; first | refine LetL.mk [_] rfl ?_) | (refine CallN.pre ?_; first | refine CallN.pure (size_f _ hn) rfl rfl ?_ | refine CallN.pure (size_f _ hd) rfl rfl ?_ | refine CallN.pure (gcd_f _ _ _) rfl rfl ?_)))






  all_goals refine ⟨.inl rfl, ⟨_, rfl, congrArg (fun a => AV.tup [AV.agg [int a, int v], int 0]) ?_⟩, trivial⟩
  all_goals (clear e1 e2 hq hz hg; simp [*])
set_option maxHeartbeats 1000000 in
theorem refOf_f (n d : Int) (hn : -9223372036854775808 ≤ n ∧ n ≤ 9223372036854775807) (hd : -9223372036854775808 ≤ d ∧ d ≤ 9223372036854775807) (h0 : d ≠ 0) (hu : ofN n d ≤ 1073741824) (hv : ofD n d ≤ 1073741824) : AFun Try.prog 65 0 [int n, int d] [] (.tup [.agg [int (if (decide (n < 0) != decide (d < 0)) = true then 0 - (ofN n d : Int) else ofN n d), int (ofD n d)], int 0]) [] := by
  refine AFun.of_W T_ok mixed Try.func65 rfl (Nat.le_of_ble_eq_true rfl) rfl ?_
  have hg : 0 < Nat.gcd n.natAbs d.natAbs := Nat.gcd_pos_of_pos_right _ (by omega)
  have hq : ((Nat.gcd n.natAbs d.natAbs : Int) != 0) = true := by simp; omega
  have e1 : _ = (ofN n d : Int) := wrap_quo n.natAbs (Nat.gcd n.natAbs d.natAbs) (by omega)
  have e2 : _ = (ofD n d : Int) := wrap_quo d.natAbs (Nat.gcd n.natAbs d.natAbs) (by omega)
  have hz : (d == 0) = false := by simpa using h0
  generalize ofN n d = u at *
  generalize ofD n d = v at *
  repeat' ((conv => whnf); (first | (refine LetN.pre ?_; first | ((conv => arg 1; whnf); refine LetN.mk ?_)) | (refine As.pre ?_; first | refine As.mk rfl ?_ | refine As.mk hq ?_) | (refine LetV.pre ?_; first | refine LetV.mk (.sc (.int _ _)) rfl ?_ | refine LetV.mk (.agg _) rfl ?_) | (refine LetI.pre ?_; first | refine LetI.mk _ e1.symm ?_ | refine LetI.mk _ e2.symm ?_ | refine LetI.wrap (by omega) (by omega) ?_) | (refine LetB.pre ?_; first | refine LetB.tt rfl ?_ | refine LetB.ff rfl ?_ | refine LetB.ff (by assumption) ?_ | refine LetB.decf (by omega) ?_ | (refine LetB.dec (fun _ => ?_) (fun _ => ?_))) | (refine Gd.pre ?_; first | refine Gd.run rfl ?_) | (refine Br.pre ?_; first | refine Br.tt rfl ?_ | refine Br.ff rfl ?_) | (refine Ck.pre ?_; first | refine Ck.mk rfl ?_) | (refine LetL.pre ?_; first | refine LetL.mk [_] rfl ?_) | (refine CallN.pre ?_; first | refine CallN.pure (refsize_f _ hn) rfl rfl ?_ | refine CallN.pure (refsize_f _ hd) rfl rfl ?_ | refine CallN.pure (refgcd_f _ _) rfl rfl ?_)))






  all_goals refine ⟨.inl rfl, ⟨_, rfl, congrArg (fun a => AV.tup [AV.agg [int a, int v], int 0]) ?_⟩, trivial⟩
  all_goals (clear e1 e2 hq hz hg; simp [*])
abbrev rt (r : Int × Int) (e : Int) : AV := .tup [.agg [int r.1, int r.2], int e]
def ps (f : Nat → Int) : Nat → Int
  | 0 => 0
  | k + 1 => ps f k + f k
abbrev gd (l : List Int) (i : Nat) : Int := l.getD i 0
/-- A grade with its credits. -/
abbrev okE (g n : Int) : Prop := (-1000 ≤ g ∧ g ≤ 1000) ∧ 1 ≤ n ∧ n ≤ 60
abbrev okL (gs cs : List Int) (k : Nat) : Prop := ∀ i, i < k → okE (gd gs i) (gd cs i)
def sN (gs cs : List Int) : Nat → Int := ps fun i => gd gs i * gd cs i
def sD (cs : List Int) : Nat → Int := ps fun i => gd cs i
theorem mul_b {g n : Int} (h : okE g n) : -60000 ≤ g * n ∧ g * n ≤ 60000 := by
  obtain ⟨⟨h1, h2⟩, h3, h4⟩ := h
  have a : g * n ≤ 1000 * n := Int.mul_le_mul_of_nonneg_right h2 (by omega)
  have b : -1000 * n ≤ g * n := Int.mul_le_mul_of_nonneg_right h1 (by omega)
  omega
theorem sums_b (gs cs : List Int) : ∀ k, okL gs cs k → (-60000 * (k : Int) ≤ sN gs cs k ∧ sN gs cs k ≤ 60000 * k) ∧ (k : Int) ≤ sD cs k ∧ sD cs k ≤ 60 * k
  | 0, _ => by simp [sN, sD, ps]
  | k + 1, h => by
    have ih := sums_b gs cs k fun i hi => h i (by omega)
    have h1 := h k (by omega)
    have h2 := mul_b h1
    have e1 : sN gs cs (k + 1) = sN gs cs k + gd gs k * gd cs k := rfl
    have e2 : sD cs (k + 1) = sD cs k + gd cs k := rfl
    rw [e1, e2]
    obtain ⟨_, h3, h4⟩ := h1
    generalize gd gs k * gd cs k = m at *
    omega
def rat (n d : Int) : Int × Int := (if (decide (n < 0) != decide (d < 0)) = true then 0 - (ofN n d : Int) else ofN n d, ofD n d)
/-- The mean of a list. -/
def mv (gs cs : List Int) : (Int × Int) × Int :=
  if gs.length ≠ cs.length ∨ gs.length = 0 then ((0, 0), 1) else if 2000 < gs.length then ((0, 0), 2) else if okL gs cs gs.length then (rat (sN gs cs gs.length) (sD cs gs.length), 0) else ((0, 0), 3)
theorem of_b (n d : Int) (h : -120000000 ≤ n ∧ n ≤ 120000000) (hd : 0 ≤ d ∧ d ≤ 120000) : ofN n d ≤ 1073741824 ∧ ofD n d ≤ 1073741824 := by
  have h1 : ofN n d ≤ n.natAbs := Nat.div_le_self _ _
  have h2 : ofD n d ≤ d.natAbs := Nat.div_le_self _ _
  omega
theorem rat_f (n d : Int) (h : -120000000 ≤ n ∧ n ≤ 120000000) (hd : 0 < d ∧ d ≤ 120000) : AFun Try.prog 48 0 [int n, int d] [] (rt (rat n d) 0) [] :=
  Of_f n d (by omega) (by omega) (by omega) (of_b n d h (by omega)).1 (of_b n d h (by omega)).2
theorem refrat_f (n d : Int) (h : -120000000 ≤ n ∧ n ≤ 120000000) (hd : 0 < d ∧ d ≤ 120000) : AFun Try.prog 65 0 [int n, int d] [] (rt (rat n d) 0) [] :=
  refOf_f n d (by omega) (by omega) (by omega) (of_b n d h (by omega)).1 (of_b n d h (by omega)).2
theorem add_ok (g n s a : Int) (h : okE g n) (hs : -120000000 ≤ s ∧ s ≤ 120000000) (ha : 0 ≤ a ∧ a ≤ 120000) : AFun Try.prog 46 2 [int g, int n, .ptr 0 1 0 0, .ptr 1 1 0 0] [(0, .row 1 3 [int s]), (1, .row 1 3 [int a])] (bool true) [(0, .row 1 3 [int (s + g * n)]), (1, .row 1 3 [int (a + n)])] := by
  refine AFun.of_W T_ok mixed Try.func46 rfl (Nat.le_of_ble_eq_true rfl) rfl ?_
  have hm := mul_b h
  have h1 := lim_spec g (-1000) 1000
  have h2 := lim_spec n 1 60
  ((repeat ((conv => whnf); (first | (refine LetN.pre ?_; first | ((conv => arg 1; whnf); refine LetN.mk ?_)) | (refine As.pre ?_; first | refine As.mk rfl ?_) | (refine LetV.pre ?_; first | refine LetV.mk (.sc (.int _ _)) rfl ?_) | (refine LetI.pre ?_; first | refine LetI.wrap (by omega) (by omega) ?_) | (refine LetB.pre ?_; first | refine LetB.dect (by omega) ?_) | (refine Gd.pre ?_; first | refine Gd.run rfl ?_) | (refine Ck.pre ?_; first | refine Ck.drawn (by kernel_rfl) ?_ | refine Ck.mk rfl ?_) | (refine LetL.pre ?_; first | refine LetL.mk [_] rfl ?_) | (refine CallN.pre ?_; first | refine CallN.pure (limited_f _ _ _) rfl rfl ?_)))); (try (conv => whnf)))
  exact ⟨.inl rfl, ⟨_, rfl, rfl⟩, rfl, rfl, trivial⟩
theorem add_bad (g n s a : Int) (h : ¬ okE g n) : ∃ s' a', AFun Try.prog 46 2 [int g, int n, .ptr 0 1 0 0, .ptr 1 1 0 0] [(0, .row 1 3 [int s]), (1, .row 1 3 [int a])] (bool false) [(0, .row 1 3 [int s']), (1, .row 1 3 [int a'])] := by
  refine ⟨IntKind.i64.wrap (s + IntKind.i64.wrap (g * n)), IntKind.i64.wrap (a + n), ?_⟩
  refine AFun.of_W T_ok mixed Try.func46 rfl (Nat.le_of_ble_eq_true rfl) rfl ?_
  have h1 := lim_spec g (-1000) 1000
  have h2 := lim_spec n 1 60
  by_cases hg : -1000 ≤ g ∧ g ≤ 1000
  · have hn : ¬ (1 ≤ n ∧ n ≤ 60) := fun hn => h ⟨hg, hn⟩
    ((repeat ((conv => whnf); (first | (refine LetN.pre ?_; first | ((conv => arg 1; whnf); refine LetN.mk ?_)) | (refine As.pre ?_; first | refine As.mk rfl ?_) | (refine LetV.pre ?_; first | refine LetV.mk (.sc (.int _ _)) rfl ?_) | (refine LetI.pre ?_; first | refine LetI.mk (o := some .add) _ rfl ?_ | refine LetI.mk _ rfl ?_) | (refine LetB.pre ?_; first | refine LetB.dect (by omega) ?_ | refine LetB.decf (by omega) ?_) | (refine Gd.pre ?_; first | refine Gd.run rfl ?_) | (refine Ck.pre ?_; first | refine Ck.drawn (by kernel_rfl) ?_ | refine Ck.mk rfl ?_) | (refine LetL.pre ?_; first | refine LetL.mk [_] rfl ?_) | (refine CallN.pre ?_; first | refine CallN.pure (limited_f _ _ _) rfl rfl ?_)))); (try (conv => whnf)))
    exact ⟨.inl rfl, ⟨_, rfl, rfl⟩, rfl, rfl, trivial⟩
  · ((repeat ((conv => whnf); (first | (refine LetN.pre ?_; first | ((conv => arg 1; whnf); refine LetN.mk ?_)) | (refine As.pre ?_; first | refine As.mk rfl ?_) | (refine LetV.pre ?_; first | refine LetV.mk (.sc (.int _ _)) rfl ?_) | (refine LetI.pre ?_; first | refine LetI.mk (o := some .add) _ rfl ?_ | refine LetI.mk _ rfl ?_) | (refine LetB.pre ?_; first | refine LetB.decf (by omega) ?_) | (refine Gd.pre ?_; first | refine Gd.pass rfl ?_) | (refine Ck.pre ?_; first | refine Ck.drawn (by kernel_rfl) ?_ | refine Ck.mk rfl ?_) | (refine LetL.pre ?_; first | refine LetL.mk [_] rfl ?_) | (refine CallN.pre ?_; first | refine CallN.pure (limited_f _ _ _) rfl rfl ?_)))); (try (conv => whnf)))
    exact ⟨.inl rfl, ⟨_, rfl, rfl⟩, rfl, rfl, trivial⟩
theorem mv_ne {gs cs : List Int} (h : gs.length ≠ cs.length ∨ gs.length = 0) : mv gs cs = ((0, 0), 1) := if_pos h
theorem mv_many {gs cs : List Int} (h : ¬ (gs.length ≠ cs.length ∨ gs.length = 0)) (h2 : 2000 < gs.length) : mv gs cs = ((0, 0), 2) := by
  unfold mv; rw [if_neg h, if_pos h2]
theorem mv_ok {gs cs : List Int} (h : ¬ (gs.length ≠ cs.length ∨ gs.length = 0)) (h2 : ¬ 2000 < gs.length) (h3 : okL gs cs gs.length) : mv gs cs = (rat (sN gs cs gs.length) (sD cs gs.length), 0) := by
  unfold mv; rw [if_neg h, if_neg h2, if_pos h3]
theorem mv_bad {gs cs : List Int} (h : ¬ (gs.length ≠ cs.length ∨ gs.length = 0)) (h2 : ¬ 2000 < gs.length) (h3 : ¬ okL gs cs gs.length) : mv gs cs = ((0, 0), 3) := by
  unfold mv; rw [if_neg h, if_neg h2, if_neg h3]
abbrev bx (a : Int) : Blk := .row 1 3 [int a]
set_option maxHeartbeats 2000000 in
theorem Mean_f (gs cs : List Int) (f1 f2 : Fl) (hl : gs.length ≤ 9223372036854775807) (hl2 : cs.length ≤ 9223372036854775807) : AFun Try.prog 23 0 [.ro f1 1 (gs.map int), .ro f2 1 (cs.map int)] [] (rt (mv gs cs).1 (mv gs cs).2) [] := by
  refine AFun.of_W T_ok mixed Try.func23 rfl (Nat.le_of_ble_eq_true rfl) rfl ?_
  have e1 : ((gs.map int).length : Int) = gs.length := by simp
  have e2 : ((cs.map int).length : Int) = cs.length := by simp
  by_cases h : gs.length ≠ cs.length ∨ gs.length = 0
  · rw [mv_ne h]
    repeat' ((conv => whnf); (first | (refine LetN.pre ?_; first | ((conv => arg 1; whnf); refine LetN.mk ?_)) | (refine As.pre ?_; first | refine As.mk rfl ?_) | (refine LetI.pre ?_; first | refine LetI.mk _ rfl ?_) | (refine LetB.pre ?_; first | refine LetB.dect (by omega) ?_ | (refine LetB.bne (fun _ => ?_) (fun _ => ?_))) | (refine Gd.pre ?_; first | refine Gd.run rfl ?_ | refine Gd.pass rfl ?_) | (refine Br.pre ?_; first | refine Br.tt rfl ?_) | (refine Ck.pre ?_; first | refine Ck.mk rfl ?_) | (refine LetL.pre ?_; first | refine LetL.mk [_] rfl ?_)))
    all_goals first
      | exact ⟨.inl rfl, ⟨_, rfl, rfl⟩, trivial⟩
      | omega
  by_cases h2 : 2000 < gs.length
  · rw [mv_many h h2]
    ((repeat ((conv => whnf); (first | (refine LetN.pre ?_; first | ((conv => arg 1; whnf); refine LetN.mk ?_)) | (refine As.pre ?_; first | refine As.mk rfl ?_) | (refine LetI.pre ?_; first | refine LetI.mk _ rfl ?_) | (refine LetB.pre ?_; first | refine LetB.dect (by omega) ?_ | refine LetB.decf (by omega) ?_ | refine LetB.bnef (by omega) ?_) | (refine Gd.pre ?_; first | refine Gd.run rfl ?_) | (refine Br.pre ?_; first | refine Br.tt rfl ?_ | refine Br.ff rfl ?_) | (refine Ck.pre ?_; first | refine Ck.mk rfl ?_) | (refine LetL.pre ?_; first | refine LetL.mk [_] rfl ?_)))); (try (conv => whnf)))
    exact ⟨.inl rfl, ⟨_, rfl, rfl⟩, trivial⟩
  have c0 : gs.length = cs.length := by omega
  have c1 : 0 < gs.length := by omega
  have c2 : gs.length ≤ 2000 := by omega
  ((repeat ((conv => whnf); (first | (refine LetN.pre ?_; first | ((conv => arg 1; whnf); refine LetN.mk ?_)) | (refine As.pre ?_; first | refine As.mk rfl ?_) | (refine LetI.pre ?_; first | refine LetI.mk _ rfl ?_) | (refine LetB.pre ?_; first | refine LetB.decf (by omega) ?_ | refine LetB.bnef (by omega) ?_) | (refine Gd.pre ?_; first | refine Gd.run rfl ?_) | (refine Br.pre ?_; first | refine Br.ff rfl ?_) | (refine Ck.pre ?_; first | refine Ck.mk rfl ?_) | (refine LetL.pre ?_; first | refine LetL.mk [_] rfl ?_)))); (try (conv => whnf)))
  refine LoopN.weak (s1 := ⟨[(0, .ro f1 1 (gs.map int)), (1, .ro f2 1 (cs.map int)), (4, .ptr 0 2 0 0), (5, int 0), (6, .ptr 1 1 0 0), (7, .ptr 2 1 0 0), (8, .clo 46 [.ptr 1 1 0 0, .ptr 2 1 0 0]), (29, .ro f1 1 (gs.map int)), (30, int gs.length), (31, int (0 : Nat))], [(0, .row 2 46 [.agg [int 0, int 0]]), (1, bx (sN gs cs 0)), (2, bx (sD cs 0))], 3⟩) (SW.mk id rfl rfl rfl ⟨.refl _, .refl _, .refl _, .refl _, .refl _, .refl _, .refl _, .refl _, VLe2.int e1.symm, .refl _, trivial⟩ (haveV.one rfl (haveV.one rfl (haveV.one rfl trivial)))) ?_
  refine LoopN.ind T_ok mixed (S := fun k : Nat => ⟨[(0, .ro f1 1 (gs.map int)), (1, .ro f2 1 (cs.map int)), (4, .ptr 0 2 0 0), (5, int 0), (6, .ptr 1 1 0 0), (7, .ptr 2 1 0 0), (8, .clo 46 [.ptr 1 1 0 0, .ptr 2 1 0 0]), (29, .ro f1 1 (gs.map int)), (30, int gs.length), (31, int k)], [(0, .row 2 46 [.agg [int 0, int 0]]), (1, bx (sN gs cs k)), (2, bx (sD cs k))], 3⟩) (fun k => gs.length - k) (fun k => k ≤ gs.length ∧ okL gs cs k) (fun _ => rfl) (fun k hk ih => ?_) 0 ⟨Nat.zero_le _, fun i hi => absurd hi (Nat.not_lt_zero i)⟩
  obtain ⟨hk, hok⟩ := hk
  have hb := sums_b gs cs k hok
  by_cases hlt : k < gs.length
  · have hlt2 : k < cs.length := by omega
    have q1 : k < (gs.map int).length := by simpa using hlt
    have q2 : k < (cs.map int).length := by simpa using hlt2
    by_cases hE : okE (gd gs k) (gd cs k)
    · ((repeat ((conv => whnf); (first | (refine LetN.pre ?_; first | ((conv => arg 1; whnf); refine LetN.mk ?_)) | (refine As.pre ?_; first | refine As.mk rfl ?_ | (refine As.mk ?_ ?_; · ((repeat' (refine andT ?_ ?_)) <;> (first | rfl | assumption | exact decide_eq_true (by omega) | exact decide_eq_true (by dsimp only; omega) | exact decide_eq_true (by simp; omega) | (simp; done))))) | (refine LetV.pre ?_; first | refine LetV.mk (t := 22) _ (mapD (f := int) (l := gs) (i := k) 0 hlt) ?_ | refine LetV.mk (t := 22) _ (mapD (f := int) (l := cs) (i := k) 0 hlt2) ?_ | refine LetV.mk (.sc (.int _ _)) rfl ?_) | (refine LetI.pre ?_; first | refine LetI.wrap (by omega) (by omega) ?_) | (refine LetB.pre ?_; first | refine LetB.dect (by omega) ?_) | (refine Br.pre ?_; first | refine Br.tt rfl ?_ | refine Br.ff rfl ?_) | (refine Ck.pre ?_; first | refine Ck.mk rfl ?_) | (refine LetL.pre ?_; first | refine LetL.mk [_] rfl ?_) | (refine CallN.pre ?_; first | refine CallN.own (fun i => i + 1) (add_ok _ _ _ _ hE (by omega) (by omega)) (CallOk.mk' rfl rfl rfl rfl rfl rfl ⟨rfl, rfl, trivial⟩) ?_)))); (try (conv => whnf)))



      refine LoopN.weak ?sw0 (ih (k + 1) ⟨by omega, fun i hi => ?_⟩ (by omega))
      case sw0 => exact SW.mk id rfl rfl rfl ⟨.refl _, .refl _, .refl _, .refl _, .refl _, .refl _, .refl _, .refl _, .refl _, .refl _, trivial⟩ (haveV.one rfl (haveV.one rfl (haveV.one rfl trivial)))
      by_cases hi2 : i < k
      · exact hok i hi2
      · obtain rfl : i = k := by omega
        exact hE
    · obtain ⟨s', a', hbad⟩ := add_bad (gd gs k) (gd cs k) (sN gs cs k) (sD cs k) hE
      have e3 : mv gs cs = ((0, 0), 3) := mv_bad h h2 fun hh => hE (hh k hlt)
      rw [e3]
      ((repeat ((conv => whnf); (first | (refine LetN.pre ?_; first | ((conv => arg 1; whnf); refine LetN.mk ?_)) | (refine As.pre ?_; first | refine As.mk rfl ?_ | (refine As.mk ?_ ?_; · ((repeat' (refine andT ?_ ?_)) <;> (first | rfl | assumption | exact decide_eq_true (by omega) | exact decide_eq_true (by dsimp only; omega) | exact decide_eq_true (by simp; omega) | (simp; done))))) | (refine LetV.pre ?_; first | refine LetV.mk (t := 22) _ (mapD (f := int) (l := gs) (i := k) 0 hlt) ?_ | refine LetV.mk (t := 22) _ (mapD (f := int) (l := cs) (i := k) 0 hlt2) ?_ | refine LetV.mk (.sc (.int _ _)) rfl ?_) | (refine LetB.pre ?_; first | refine LetB.dect (by omega) ?_) | (refine Br.pre ?_; first | refine Br.tt rfl ?_) | (refine Ck.pre ?_; first | refine Ck.mk rfl ?_) | (refine LetL.pre ?_; first | refine LetL.mk [_] rfl ?_) | (refine CallN.pre ?_; first | refine CallN.own (fun i => i + 1) hbad (CallOk.mk' rfl rfl rfl rfl rfl rfl ⟨rfl, rfl, trivial⟩) ?_)))); (try (conv => whnf)))



      exact ⟨.inl rfl, ⟨_, rfl, rfl⟩, trivial⟩
  · obtain rfl : k = gs.length := by omega
    rw [mv_ok h h2 hok]
    clear ih
    ((repeat ((conv => whnf); (first | (refine LetN.pre ?_; first | ((conv => arg 1; whnf); refine LetN.mk ?_)) | (refine As.pre ?_; first | refine As.mk rfl ?_) | (refine LetV.pre ?_; first | refine LetV.mk (.sc (.int _ _)) rfl ?_) | (refine LetB.pre ?_; first | refine LetB.decf (by omega) ?_) | (refine Br.pre ?_; first | refine Br.ff rfl ?_) | (refine Ck.pre ?_; first | refine Ck.mk rfl ?_) | (refine LetL.pre ?_; first | refine LetL.mk [_] rfl ?_) | (refine CallN.pre ?_; first | refine CallN.pure (rat_f (sN gs cs gs.length) (sD cs gs.length) (by omega) (by omega)) rfl rfl ?_)))); (try (conv => whnf)))

    exact ⟨.inl rfl, ⟨_, rfl, rfl⟩, trivial⟩
set_option maxHeartbeats 2000000 in
theorem refMean_f (gs cs : List Int) (f1 f2 : Fl) (hl : gs.length ≤ 9223372036854775807) (hl2 : cs.length ≤ 9223372036854775807) : AFun Try.prog 36 0 [.ro f1 1 (gs.map int), .ro f2 1 (cs.map int)] [] (rt (mv gs cs).1 (mv gs cs).2) [] := by
  refine AFun.of_W T_ok mixed Try.func36 rfl (Nat.le_of_ble_eq_true rfl) rfl ?_
  have e1 : ((gs.map int).length : Int) = gs.length := by simp
  have e2 : ((cs.map int).length : Int) = cs.length := by simp
  by_cases h : gs.length ≠ cs.length ∨ gs.length = 0
  · rw [mv_ne h]
    repeat' ((conv => whnf); (first | (refine LetN.pre ?_; first | ((conv => arg 1; whnf); refine LetN.mk ?_)) | (refine As.pre ?_; first | refine As.mk rfl ?_) | (refine LetI.pre ?_; first | refine LetI.mk _ rfl ?_) | (refine LetB.pre ?_; first | refine LetB.dect (by omega) ?_ | (refine LetB.bne (fun _ => ?_) (fun _ => ?_))) | (refine Gd.pre ?_; first | refine Gd.run rfl ?_ | refine Gd.pass rfl ?_) | (refine Br.pre ?_; first | refine Br.tt rfl ?_) | (refine Ck.pre ?_; first | refine Ck.mk rfl ?_) | (refine LetL.pre ?_; first | refine LetL.mk [_] rfl ?_)))
    all_goals first
      | exact ⟨.inl rfl, ⟨_, rfl, rfl⟩, trivial⟩
      | omega
  by_cases h2 : 2000 < gs.length
  · rw [mv_many h h2]
    ((repeat ((conv => whnf); (first | (refine LetN.pre ?_; first | ((conv => arg 1; whnf); refine LetN.mk ?_)) | (refine As.pre ?_; first | refine As.mk rfl ?_) | (refine LetI.pre ?_; first | refine LetI.mk _ rfl ?_) | (refine LetB.pre ?_; first | refine LetB.dect (by omega) ?_ | refine LetB.decf (by omega) ?_ | refine LetB.bnef (by omega) ?_) | (refine Gd.pre ?_; first | refine Gd.run rfl ?_) | (refine Br.pre ?_; first | refine Br.tt rfl ?_ | refine Br.ff rfl ?_) | (refine Ck.pre ?_; first | refine Ck.mk rfl ?_) | (refine LetL.pre ?_; first | refine LetL.mk [_] rfl ?_)))); (try (conv => whnf)))
    exact ⟨.inl rfl, ⟨_, rfl, rfl⟩, trivial⟩
  have c0 : gs.length = cs.length := by omega
  have c1 : 0 < gs.length := by omega
  have c2 : gs.length ≤ 2000 := by omega
  ((repeat ((conv => whnf); (first | (refine LetN.pre ?_; first | ((conv => arg 1; whnf); refine LetN.mk ?_)) | (refine As.pre ?_; first | refine As.mk rfl ?_) | (refine LetI.pre ?_; first | refine LetI.mk _ rfl ?_) | (refine LetB.pre ?_; first | refine LetB.decf (by omega) ?_ | refine LetB.bnef (by omega) ?_) | (refine Gd.pre ?_; first | refine Gd.run rfl ?_) | (refine Br.pre ?_; first | refine Br.ff rfl ?_) | (refine Ck.pre ?_; first | refine Ck.mk rfl ?_)))); (try (conv => whnf)))
  refine LoopN.weak (s1 := ⟨[(0, .ro f1 1 (gs.map int)), (1, .ro f2 1 (cs.map int)), (4, .ptr 0 2 0 0), (5, int 0), (6, int (sN gs cs 0)), (7, int (sD cs 0)), (8, int (0 : Nat))], [(0, .row 2 46 [.agg [int 0, int 0]])], 1⟩) (SW.mk id rfl rfl rfl ⟨.refl _, .refl _, .refl _, .refl _, .refl _, .refl _, .refl _, trivial⟩ (haveV.one rfl trivial)) ?_
  refine LoopN.ind T_ok mixed (S := fun k : Nat => ⟨[(0, .ro f1 1 (gs.map int)), (1, .ro f2 1 (cs.map int)), (4, .ptr 0 2 0 0), (5, int 0), (6, int (sN gs cs k)), (7, int (sD cs k)), (8, int k)], [(0, .row 2 46 [.agg [int 0, int 0]])], 1⟩) (fun k => gs.length - k) (fun k => k ≤ gs.length ∧ okL gs cs k) (fun _ => rfl) (fun k hk ih => ?_) 0 ⟨Nat.zero_le _, fun i hi => absurd hi (Nat.not_lt_zero i)⟩
  obtain ⟨hk, hok⟩ := hk
  have hb := sums_b gs cs k hok
  by_cases hlt : k < gs.length
  · have hlt2 : k < cs.length := by omega
    have q1 : k < (gs.map int).length := by simpa using hlt
    have q2 : k < (cs.map int).length := by simpa using hlt2
    by_cases hE : okE (gd gs k) (gd cs k)
    · have hE' : okE (gs.getD k 0) (cs.getD k 0) := hE
      have hm : -60000 ≤ gs.getD k 0 * cs.getD k 0 ∧ gs.getD k 0 * cs.getD k 0 ≤ 60000 := mul_b hE
      ((repeat ((conv => whnf); (first | (refine As.pre ?_; first | refine As.mk rfl ?_ | (refine As.mk ?_ ?_; · ((repeat' (refine andT ?_ ?_)) <;> (first | rfl | assumption | exact decide_eq_true (by omega) | exact decide_eq_true (by dsimp only; omega) | exact decide_eq_true (by simp; omega) | (simp; done))))) | (refine LetV.pre ?_; first | refine LetV.mk (t := 22) _ (mapD (f := int) (l := gs) (i := k) 0 hlt) ?_ | refine LetV.mk (t := 22) _ (mapD (f := int) (l := cs) (i := k) 0 hlt2) ?_ | refine LetV.mk (.sc (.int _ _)) rfl ?_) | (refine LetI.pre ?_; first | refine LetI.wrap (by omega) (by omega) ?_ | refine LetI.mk _ rfl ?_) | (refine LetB.pre ?_; first | refine LetB.dect (by omega) ?_ | refine LetB.decf (by omega) ?_) | (refine Gd.pre ?_; first | refine Gd.run rfl ?_) | (refine Br.pre ?_; first | refine Br.tt rfl ?_ | refine Br.ff rfl ?_) | (refine Ck.pre ?_; first | refine Ck.drawn (by kernel_rfl) ?_ | refine Ck.mk rfl ?_) | (refine CallN.pre ?_; first | refine CallN.dect (near_f _ 1000 (by omega)) rfl (by omega) ?_)))); (try (conv => whnf)))



      refine LoopN.weak ?sw0 (ih (k + 1) ⟨by omega, fun i hi => ?_⟩ (by omega))
      case sw0 => exact SW.mk id rfl rfl rfl ⟨.refl _, .refl _, .refl _, .refl _, .refl _, .refl _, .refl _, trivial⟩ (haveV.one rfl trivial)
      by_cases hi2 : i < k
      · exact hok i hi2
      · obtain rfl : i = k := by omega
        exact hE
    · have e3 : mv gs cs = ((0, 0), 3) := mv_bad h h2 fun hh => hE (hh k hlt)
      rw [e3]
      replace hE : ¬ okE (gs.getD k 0) (cs.getD k 0) := hE
      clear ih
      repeat' ((conv => whnf); (first | (refine LetN.pre ?_; first | ((conv => arg 1; whnf); refine LetN.mk ?_)) | (refine As.pre ?_; first | refine As.mk rfl ?_ | (refine As.mk ?_ ?_; · ((repeat' (refine andT ?_ ?_)) <;> (first | rfl | assumption | exact decide_eq_true (by omega) | exact decide_eq_true (by dsimp only; omega) | exact decide_eq_true (by simp; omega) | (simp; done))))) | (refine LetV.pre ?_; first | refine LetV.mk (t := 22) _ (mapD (f := int) (l := gs) (i := k) 0 hlt) ?_ | refine LetV.mk (t := 22) _ (mapD (f := int) (l := cs) (i := k) 0 hlt2) ?_ | refine LetV.mk (.sc (.int _ _)) rfl ?_) | (refine LetI.pre ?_; first | refine LetI.mk _ rfl ?_) | (refine LetB.pre ?_; first | refine LetB.dect (by omega) ?_ | (refine LetB.dec (fun _ => ?_) (fun _ => ?_))) | (refine Gd.pre ?_; first | refine Gd.run rfl ?_ | refine Gd.pass rfl ?_) | (refine Br.pre ?_; first | refine Br.tt rfl ?_) | (refine Ck.pre ?_; first | refine Ck.mk rfl ?_) | (refine LetL.pre ?_; first | refine LetL.mk [_] rfl ?_) | (refine CallN.pre ?_; first | refine CallN.dec (near_f _ 1000 (by omega)) rfl (fun _ => ?_) (fun _ => ?_))))



      all_goals first
        | exact ⟨.inl rfl, ⟨_, rfl, rfl⟩, trivial⟩
        | (exfalso; omega)
  · obtain rfl : k = gs.length := by omega
    rw [mv_ok h h2 hok]
    clear ih
    ((repeat ((conv => whnf); (first | (refine LetN.pre ?_; first | ((conv => arg 1; whnf); refine LetN.mk ?_)) | (refine As.pre ?_; first | refine As.mk rfl ?_) | (refine LetI.pre ?_; first | refine LetI.mk _ rfl ?_) | (refine LetB.pre ?_; first | refine LetB.decf (by omega) ?_) | (refine Br.pre ?_; first | refine Br.ff rfl ?_) | (refine Ck.pre ?_; first | refine Ck.mk rfl ?_) | (refine LetL.pre ?_; first | refine LetL.mk [_] rfl ?_) | (refine CallN.pre ?_; first | refine CallN.pure (refrat_f (sN gs cs gs.length) (sD cs gs.length) (by omega) (by omega)) rfl rfl ?_)))); (try (conv => whnf)))

    exact ⟨.inl rfl, ⟨_, rfl, rfl⟩, trivial⟩
end Sc
end Go.Proofs.Ytnegdmjmllmclaa
namespace Go.Proofs.Ytnegdmjmllmclaa
open Go.Proofs.Ytnegdmjmllmclaa.Am
set_option maxRecDepth 100000
namespace Dt
abbrev int (a : Int) : AV := .sc (.int .i64 a)
abbrev bool (b : Bool) : AV := .sc (.bool b)
/-- What a word holds. -/
abbrev okW (n : Int) : Prop := -9223372036854775808 ≤ n ∧ n ≤ 9223372036854775807
theorem divide_f (n : Int) (h : -9223372036854775708 ≤ n ∧ n ≤ 9223372036854775807) : AFun Try.prog 54 0 [int n, int 100] [] (int (n / 100)) [] := by
  refine AFun.of_W T_ok mixed Try.func54 rfl (Nat.le_of_ble_eq_true rfl) rfl ?_
  have b1 := tmod_bound n (m := 100) (by omega)
  have e1 := Int.mul_tdiv_add_tmod n 100
  obtain ⟨t, ht⟩ : ∃ t, t = n.tmod 100 := ⟨_, rfl⟩
  obtain ⟨k, hk⟩ : ∃ k, k = n.tdiv 100 := ⟨_, rfl⟩
  rw [← ht, ← hk] at e1
  rw [← ht] at b1
  have hm : n % 100 = (t + 100).tmod 100 := by
    rw [Int.tmod_eq_emod_of_nonneg (by omega)]; omega
  have hd : n / 100 = (n - n % 100).tdiv 100 := by
    have : n - n % 100 = 100 * (n / 100) := by omega
    rw [this, Int.mul_tdiv_cancel_left _ (by decide)]
  obtain ⟨m, hm2⟩ : ∃ m, m = n % 100 := ⟨_, rfl⟩
  rw [← hm2] at hm hd
  have b2 : 0 ≤ m ∧ m < 100 := by omega
  have hq : n / 100 = IntKind.i64.wrap ((n - m).tdiv 100) := by rw [← hd, wrap_id (by omega) (by omega)]
  generalize n / 100 = q at hd hq ⊢
  clear hm2 hk e1
  clear k
  ((repeat ((conv => whnf); (first | (refine As.pre ?_; first | refine As.mk rfl ?_) | (refine LetI.pre ?_; first | refine LetI.mk (o := some .rem) t ht ?_ | refine LetI.mk (o := some .rem) m hm ?_ | refine LetI.mk (o := some .quo) q hq ?_ | refine LetI.wrap (by omega) (by omega) ?_) | (refine Ck.pre ?_; first | refine Ck.mk rfl ?_)))); (try (conv => whnf)))




  exact ⟨.inl rfl, ⟨_, rfl, rfl⟩, trivial⟩
theorem Term_f (n : Int) (h : okW n) : AFun Try.prog 28 0 [int n] [] (int (n / 100)) [] := by
  refine AFun.of_W T_ok mixed Try.func28 rfl (Nat.le_of_ble_eq_true rfl) rfl ?_
  by_cases hn : n < -4611686018427387904
  · have hd := divide_f (n + 100) (by omega)
    have hq : n / 100 = IntKind.i64.wrap ((n + 100) / 100 - 1) := by rw [wrap_id (by omega) (by omega)]; omega
    generalize n / 100 = q at hq ⊢
    generalize (n + 100) / 100 = r at hd hq
    ((repeat ((conv => whnf); (first | (refine As.pre ?_; first | refine As.mk rfl ?_) | (refine LetI.pre ?_; first | refine LetI.mk (o := some .sub) q hq ?_ | refine LetI.wrap (by omega) (by omega) ?_) | (refine LetB.pre ?_; first | refine LetB.dect (by omega) ?_) | (refine Br.pre ?_; first | refine Br.tt rfl ?_) | (refine Ck.pre ?_; first | refine Ck.mk rfl ?_) | (refine CallN.pre ?_; first | refine CallN.pure hd rfl rfl ?_)))); (try (conv => whnf)))


    exact ⟨.inl rfl, ⟨_, rfl, rfl⟩, trivial⟩
  · have hd := divide_f n (by omega)
    generalize n / 100 = q at hd ⊢
    ((repeat ((conv => whnf); (first | (refine As.pre ?_; first | refine As.mk rfl ?_) | (refine LetB.pre ?_; first | refine LetB.decf (by omega) ?_) | (refine Br.pre ?_; first | refine Br.ff rfl ?_) | (refine Ck.pre ?_; first | refine Ck.mk rfl ?_) | (refine CallN.pre ?_; first | refine CallN.pure hd rfl rfl ?_)))); (try (conv => whnf)))
    exact ⟨.inl rfl, ⟨_, rfl, rfl⟩, trivial⟩
theorem floor_f (n : Int) (h : okW n) : AFun Try.prog 55 0 [int n, int 100] [] (int (n / 100)) [] := by
  refine AFun.of_W T_ok mixed Try.func55 rfl (Nat.le_of_ble_eq_true rfl) rfl ?_
  have b1 := tmod_bound n (m := 100) (by omega)
  have e1 := Int.mul_tdiv_add_tmod n 100
  obtain ⟨t, ht⟩ : ∃ t, t = n.tmod 100 := ⟨_, rfl⟩
  obtain ⟨k, hk⟩ : ∃ k, k = n.tdiv 100 := ⟨_, rfl⟩
  rw [← ht, ← hk] at e1
  rw [← ht] at b1
  have hkw : k = IntKind.i64.wrap (n.tdiv 100) := by rw [← hk, wrap_id (by omega) (by omega)]
  have hs : (0 ≤ n → 0 ≤ t) ∧ (n ≤ 0 → t ≤ 0) := by
    constructor
    · intro h0; rw [ht]; exact Int.tmod_nonneg _ h0
    · intro h0
      rw [ht, show n = - (-n) by omega, Int.neg_tmod]
      have := Int.tmod_nonneg (a := -n) 100 (by omega)
      omega
  by_cases hn : t < 0
  · have hq : n / 100 = IntKind.i64.wrap (k - 1) := by rw [wrap_id (by omega) (by omega)]; omega
    generalize n / 100 = q at hq ⊢
    ((repeat ((conv => whnf); (first | (refine As.pre ?_; first | refine As.mk rfl ?_) | (refine LetI.pre ?_; first | refine LetI.mk (o := some .rem) t ht ?_ | refine LetI.mk (o := some .quo) k hkw ?_ | refine LetI.mk (o := some .sub) q hq ?_) | (refine LetB.pre ?_; first | refine LetB.dect (by omega) ?_) | (refine Br.pre ?_; first | refine Br.tt rfl ?_) | (refine Ck.pre ?_; first | refine Ck.mk rfl ?_)))); (try (conv => whnf)))




    exact ⟨.inl rfl, ⟨_, rfl, rfl⟩, trivial⟩
  · have hq : n / 100 = k := by omega
    rw [hq]
    ((repeat ((conv => whnf); (first | (refine As.pre ?_; first | refine As.mk rfl ?_) | (refine LetI.pre ?_; first | refine LetI.mk (o := some .rem) t ht ?_ | refine LetI.mk (o := some .quo) k hkw ?_) | (refine LetB.pre ?_; first | refine LetB.decf (by omega) ?_) | (refine Br.pre ?_; first | refine Br.ff rfl ?_) | (refine Ck.pre ?_; first | refine Ck.mk rfl ?_)))); (try (conv => whnf)))



    exact ⟨.inl rfl, ⟨_, rfl, rfl⟩, trivial⟩
theorem refTerm_f (n : Int) (h : okW n) : AFun Try.prog 31 0 [int n] [] (int (n / 100)) [] := by
  refine AFun.of_W T_ok mixed Try.func31 rfl (Nat.le_of_ble_eq_true rfl) rfl ?_
  have hd := floor_f n h
  generalize n / 100 = q at hd ⊢
  ((repeat ((conv => whnf); (first | (refine As.pre ?_; first | refine As.mk rfl ?_) | (refine Ck.pre ?_; first | refine Ck.mk rfl ?_) | (refine CallN.pre ?_; first | refine CallN.pure hd rfl rfl ?_)))); (try (conv => whnf)))
  exact ⟨.inl rfl, ⟨_, rfl, rfl⟩, trivial⟩
theorem Last_f (t : Int) (h : -1000 ≤ t ∧ t ≤ 1000) : AFun Try.prog 56 0 [int t] [] (int (100 * t + 99)) [] := by
  have hB : AFun Try.prog 76 0 [int t] [] (int (100 * t)) [] := by
    refine AFun.of_W T_ok mixed Try.func76 rfl (Nat.le_of_ble_eq_true rfl) rfl ?_
    ((repeat ((conv => whnf); (first | (refine As.pre ?_; first | refine As.mk rfl ?_) | (refine LetI.pre ?_; first | refine LetI.wrap (by omega) (by omega) ?_) | (refine Ck.pre ?_; first | refine Ck.mk rfl ?_)))); (try (conv => whnf)))
    exact ⟨.inl rfl, ⟨_, rfl, rfl⟩, trivial⟩
  refine AFun.of_W T_ok mixed Try.func56 rfl (Nat.le_of_ble_eq_true rfl) rfl ?_
  have hq : 100 * t + 99 = IntKind.i64.wrap (100 * t + 100 - 1) := by rw [wrap_id (by omega) (by omega)]; omega
  ((repeat ((conv => whnf); (first | (refine As.pre ?_; first | refine As.mk rfl ?_) | (refine LetI.pre ?_; first | refine LetI.mk (o := some .sub) (100 * t + 99) hq ?_ | refine LetI.wrap (by omega) (by omega) ?_) | (refine Ck.pre ?_; first | refine Ck.mk rfl ?_) | (refine CallN.pre ?_; first | refine CallN.pure hB rfl rfl ?_)))); (try (conv => whnf)))


  exact ⟨.inl rfl, ⟨_, rfl, rfl⟩, trivial⟩
theorem refLast_f (t : Int) (h : -1000 ≤ t ∧ t ≤ 1000) : AFun Try.prog 60 0 [int t] [] (int (100 * t + 99)) [] := by
  refine AFun.of_W T_ok mixed Try.func60 rfl (Nat.le_of_ble_eq_true rfl) rfl ?_
  have hq : 100 * t + 99 = IntKind.i64.wrap (t * 100 + 100 - 1) := by rw [wrap_id (by omega) (by omega)]; omega
  ((repeat ((conv => whnf); (first | (refine As.pre ?_; first | refine As.mk rfl ?_) | (refine LetI.pre ?_; first | refine LetI.mk (o := some .sub) (100 * t + 99) hq ?_ | refine LetI.wrap (by omega) (by omega) ?_) | (refine Ck.pre ?_; first | refine Ck.mk rfl ?_)))); (try (conv => whnf)))
  exact ⟨.inl rfl, ⟨_, rfl, rfl⟩, trivial⟩
end Dt
end Go.Proofs.Ytnegdmjmllmclaa
namespace Go.Proofs.Ytnegdmjmllmclaa
open Go.Proofs.Ytnegdmjmllmclaa.Am
set_option maxRecDepth 100000
namespace En
/-! ### Terms -/
theorem tmD {l : List E} {k : Nat} (h : k < l.length) : en (l.getD k e0) = (l.map en).getD k (.sc undef) := mapD e0 h
abbrev tmB (st a : Int) (e : E) : Bool := decide (e.kind = 3 ∧ e.student = st ∧ e.day ≤ a)
def trmP (l : List E) (st a : Int) : List Int := (l.filter (tmB st a)).map fun e => e.on_ / 100
def minP : List Int → Int
  | [] => 0
  | x :: xs => xs.foldl min x
def maxP : List Int → Int
  | [] => 0
  | x :: xs => xs.foldl max x
theorem getD_i {xs : List Int} {k : Nat} (h : k < xs.length) : int (xs.getD k 0) = (xs.map int).getD k (.sc undef) := mapD 0 h
theorem fold_min (xs : List Int) (x : Int) (k : Nat) (f : Int → Int → Int) (h : k < xs.length) : (xs.drop k).foldl f x = (xs.drop (k + 1)).foldl f (f x (xs.getD k 0)) := foldl_drop f h 0 x
set_option maxRecDepth 100000 in
theorem Min_f (xs : List Int) (fl : Fl) (h0 : xs ≠ []) (hl : xs.length ≤ 1000) : AFun Try.prog 29 0 [.ro fl 1 (xs.map int)] [] (int (minP xs)) [] := by
  refine AFun.of_W T_ok mixed Try.func29 rfl (Nat.le_of_ble_eq_true rfl) rfl ?_
  have hml : (xs.map int).length = xs.length := List.length_map _
  have hpos : 0 < xs.length := List.length_pos_iff.2 h0
  have hld0 := getD_i hpos
  have hP : minP xs = (xs.drop 1).foldl min (xs.getD 0 0) := by
    cases xs with
    | nil => exact absurd rfl h0
    | cons x xs => rfl
  generalize xs.getD 0 0 = m0 at hld0 hP
  ((repeat ((conv => whnf); (first | (refine As.pre ?_; first | refine As.mk rfl ?_ | (refine As.mk ?_ ?_; · ((repeat' (refine andT ?_ ?_)) <;> (first | rfl | assumption | exact decide_eq_true (by omega) | exact decide_eq_true (by dsimp only; omega) | exact decide_eq_true (by simp; omega) | (simp; done))))) | (refine LetV.pre ?_; first | refine LetV.mk (t := 22) _ hld0 ?_ | refine LetV.mk (.sc (.int _ _)) rfl ?_) | (refine LetI.pre ?_; first | refine LetI.mk _ rfl ?_) | (refine LetB.pre ?_; first | refine LetB.decf (by omega) ?_) | (refine Br.pre ?_; first | refine Br.ff rfl ?_) | (refine Ck.pre ?_; first | refine Ck.mk rfl ?_)))); (try (conv => whnf)))
  refine LoopN.weak (s1 := ⟨[(0, .ro fl 1 (xs.map int)), (3, int m0), (4, int (0 + 1 : Nat))], [], 0⟩) (SW.fr0 (Nat.le_refl _) rfl ⟨.refl _, .refl _, .refl _, trivial⟩) ?_
  refine LoopN.ind T_ok mixed (S := fun i : Nat × Int => ⟨[(0, .ro fl 1 (xs.map int)), (3, int i.2), (4, int (i.1 + 1 : Nat))], [], 0⟩) (fun i => xs.length - i.1) (fun i => i.1 + 1 ≤ xs.length ∧ minP xs = (xs.drop (i.1 + 1)).foldl min i.2) (fun _ => rfl) (fun i hi ih => ?_) (0, m0) ⟨hpos, hP⟩
  obtain ⟨k, m⟩ := i
  obtain ⟨h1, h2⟩ := hi
  simp only at h1 h2
  by_cases hlt : k + 1 < xs.length
  case neg =>
    rw [List.drop_eq_nil_of_le (by omega), List.foldl_nil] at h2
    rw [h2]
    clear ih
    ((repeat ((conv => whnf); (first | (refine As.pre ?_; first | refine As.mk rfl ?_) | (refine LetI.pre ?_; first | refine LetI.mk _ rfl ?_) | (refine LetB.pre ?_; first | refine LetB.decf (by omega) ?_) | (refine Br.pre ?_; first | refine Br.ff rfl ?_) | (refine Ck.pre ?_; first | refine Ck.mk rfl ?_)))); (try (conv => whnf)))
    exact ⟨.inl rfl, ⟨_, rfl, rfl⟩, trivial⟩
  have hld := getD_i hlt
  rw [fold_min xs m (k + 1) min hlt] at h2
  generalize xs.getD (k + 1) 0 = y at hld h2
  have hnx := ih (k + 1, min m y) ⟨hlt, h2⟩ (by show xs.length - (k + 1) < xs.length - k; omega)
  clear ih h2
  have hmm : min m y = if m < y then m else y := by split <;> omega
  ((repeat ((conv => whnf); (first | (refine As.pre ?_; first | refine As.mk rfl ?_ | (refine As.mk ?_ ?_; · ((repeat' (refine andT ?_ ?_)) <;> (first | rfl | assumption | exact decide_eq_true (by omega) | exact decide_eq_true (by dsimp only; omega) | exact decide_eq_true (by simp; omega) | (simp; done))))) | (refine LetV.pre ?_; first | refine LetV.mk (t := 22) _ hld ?_ | refine LetV.mk (.sc (.int _ _)) rfl ?_) | (refine LetI.pre ?_; first | refine LetI.wrap (by omega) (by omega) ?_ | refine LetI.mk _ rfl ?_) | (refine LetB.pre ?_; first | refine LetB.dect (by omega) ?_) | (refine Br.pre ?_; first | refine Br.tt rfl ?_) | (refine Ck.pre ?_; first | refine Ck.mk rfl ?_)))); (try (conv => whnf)))
  refine LoopN.weak ?sw hnx
  case sw => exact SW.fr0 (Nat.le_refl _) rfl ⟨.refl _, VLe2.int rfl, VLe2.int (by dsimp only; omega), trivial⟩
set_option maxRecDepth 100000 in
theorem Max_f (xs : List Int) (fl : Fl) (h0 : xs ≠ []) (hl : xs.length ≤ 1000) : AFun Try.prog 30 0 [.ro fl 1 (xs.map int)] [] (int (maxP xs)) [] := by
  refine AFun.of_W T_ok mixed Try.func30 rfl (Nat.le_of_ble_eq_true rfl) rfl ?_
  have hml : (xs.map int).length = xs.length := List.length_map _
  have hpos : 0 < xs.length := List.length_pos_iff.2 h0
  have hld0 := getD_i hpos
  have hP : maxP xs = (xs.drop 1).foldl max (xs.getD 0 0) := by
    cases xs with
    | nil => exact absurd rfl h0
    | cons x xs => rfl
  generalize xs.getD 0 0 = m0 at hld0 hP
  ((repeat ((conv => whnf); (first | (refine As.pre ?_; first | refine As.mk rfl ?_ | (refine As.mk ?_ ?_; · ((repeat' (refine andT ?_ ?_)) <;> (first | rfl | assumption | exact decide_eq_true (by omega) | exact decide_eq_true (by dsimp only; omega) | exact decide_eq_true (by simp; omega) | (simp; done))))) | (refine LetV.pre ?_; first | refine LetV.mk (t := 22) _ hld0 ?_ | refine LetV.mk (.sc (.int _ _)) rfl ?_) | (refine LetI.pre ?_; first | refine LetI.mk _ rfl ?_) | (refine LetB.pre ?_; first | refine LetB.decf (by omega) ?_) | (refine Br.pre ?_; first | refine Br.ff rfl ?_) | (refine Ck.pre ?_; first | refine Ck.mk rfl ?_)))); (try (conv => whnf)))
  refine LoopN.weak (s1 := ⟨[(0, .ro fl 1 (xs.map int)), (3, int m0), (4, int (0 + 1 : Nat))], [], 0⟩) (SW.fr0 (Nat.le_refl _) rfl ⟨.refl _, .refl _, .refl _, trivial⟩) ?_
  refine LoopN.ind T_ok mixed (S := fun i : Nat × Int => ⟨[(0, .ro fl 1 (xs.map int)), (3, int i.2), (4, int (i.1 + 1 : Nat))], [], 0⟩) (fun i => xs.length - i.1) (fun i => i.1 + 1 ≤ xs.length ∧ maxP xs = (xs.drop (i.1 + 1)).foldl max i.2) (fun _ => rfl) (fun i hi ih => ?_) (0, m0) ⟨hpos, hP⟩
  obtain ⟨k, m⟩ := i
  obtain ⟨h1, h2⟩ := hi
  simp only at h1 h2
  by_cases hlt : k + 1 < xs.length
  case neg =>
    rw [List.drop_eq_nil_of_le (by omega), List.foldl_nil] at h2
    rw [h2]
    clear ih
    ((repeat ((conv => whnf); (first | (refine As.pre ?_; first | refine As.mk rfl ?_) | (refine LetI.pre ?_; first | refine LetI.mk _ rfl ?_) | (refine LetB.pre ?_; first | refine LetB.decf (by omega) ?_) | (refine Br.pre ?_; first | refine Br.ff rfl ?_) | (refine Ck.pre ?_; first | refine Ck.mk rfl ?_)))); (try (conv => whnf)))
    exact ⟨.inl rfl, ⟨_, rfl, rfl⟩, trivial⟩
  have hld := getD_i hlt
  rw [fold_min xs m (k + 1) max hlt] at h2
  generalize xs.getD (k + 1) 0 = y at hld h2
  have hnx := ih (k + 1, max m y) ⟨hlt, h2⟩ (by show xs.length - (k + 1) < xs.length - k; omega)
  clear ih h2
  have hmm : max m y = if m < y then y else m := by split <;> omega
  ((repeat ((conv => whnf); (first | (refine As.pre ?_; first | refine As.mk rfl ?_ | (refine As.mk ?_ ?_; · ((repeat' (refine andT ?_ ?_)) <;> (first | rfl | assumption | exact decide_eq_true (by omega) | exact decide_eq_true (by dsimp only; omega) | exact decide_eq_true (by simp; omega) | (simp; done))))) | (refine LetV.pre ?_; first | refine LetV.mk (t := 22) _ hld ?_ | refine LetV.mk (.sc (.int _ _)) rfl ?_) | (refine LetI.pre ?_; first | refine LetI.wrap (by omega) (by omega) ?_ | refine LetI.mk _ rfl ?_) | (refine LetB.pre ?_; first | refine LetB.dect (by omega) ?_) | (refine Br.pre ?_; first | refine Br.tt rfl ?_) | (refine Ck.pre ?_; first | refine Ck.mk rfl ?_)))); (try (conv => whnf)))
  refine LoopN.weak ?sw hnx
  case sw => exact SW.fr0 (Nat.le_refl _) rfl ⟨.refl _, VLe2.int rfl, VLe2.int (by dsimp only; omega), trivial⟩
abbrev tmS (l : List E) (st a : Int) (fl : Fl) : Nat × List Int → AS
  | (k, out) => ⟨[(0, .ro fl 15 (l.map en)), (1, int st), (2, int a), (9, .slm {} 0 1 0 out.length), (12, .ro fl 15 (l.map en)), (13, int l.length), (14, int k)], [(0, .row 1 3 (out.map int))], 1⟩
set_option maxHeartbeats 1600000 in
set_option maxRecDepth 100000 in
theorem Terms_f (l : List E) (st a : Int) (fl : Fl) (hl : l.length ≤ 1000) (ho : ∀ e ∈ l, Dt.okW e.on_) : AFun Try.prog 13 0 [.ro fl 15 (l.map en), int st, int a] [] (.tup [int (minP (trmP l st a)), int (maxP (trmP l st a)), bool (decide (trmP l st a ≠ []))]) [] := by
  refine AFun.of_W T_ok mixed Try.func13 rfl (Nat.le_of_ble_eq_true rfl) rfl ?_
  have hml : (l.map en).length = l.length := List.length_map _
  ((repeat ((conv => whnf); (first | (refine As.pre ?_; first | refine As.mk rfl ?_) | (refine LetI.pre ?_; first | refine LetI.mk _ rfl ?_) | (refine Ck.pre ?_; first | refine Ck.mk rfl ?_)))); (try (conv => whnf)))
  refine LoopN.weak (s1 := tmS l st a fl (0, [])) ?sw1 ?_
  case sw1 => exact SW.mk id rfl rfl rfl ⟨.refl _, .refl _, .refl _, VLe2.nilslm, .refl _, VLe2.int (by rw [List.length_map]), .refl _, trivial⟩ (haveV.nil (Nat.le_of_ble_eq_true rfl) trivial)
  refine LoopN.ind T_ok mixed (S := tmS l st a fl) (fun i => l.length - i.1) (fun i => i.1 ≤ l.length ∧ i.2 = ((l.take i.1).filter (tmB st a)).map fun e => e.on_ / 100) (fun _ => rfl) (fun i hi ih => ?_) (0, []) ⟨Nat.zero_le _, rfl⟩
  obtain ⟨k, out⟩ := i
  obtain ⟨h1, h2⟩ := hi
  simp only at h1 h2
  have hmo : (out.map int).length = out.length := List.length_map _
  have hol : out.length ≤ k := by
    have := List.length_filter_le (tmB st a) (l.take k)
    rw [h2, List.length_map]
    rw [List.length_take] at this
    omega
  by_cases hlt : k < l.length
  case neg =>
    clear ih
    rw [List.take_of_length_le (by omega)] at h2
    have h3 : trmP l st a = out := h2.symm
    rw [h3]
    by_cases hn : out = []
    · subst hn
      ((repeat ((conv => whnf); (first | (refine As.pre ?_; first | refine As.mk rfl ?_) | (refine LetI.pre ?_; first | refine LetI.mk _ rfl ?_) | (refine LetB.pre ?_; first | refine LetB.tt rfl ?_ | refine LetB.decf (by omega) ?_) | (refine Br.pre ?_; first | refine Br.tt rfl ?_ | refine Br.ff rfl ?_) | (refine Ck.pre ?_; first | refine Ck.mk rfl ?_)))); (try (conv => whnf)))
      exact ⟨.inl rfl, ⟨_, rfl, rfl⟩, trivial⟩
    · have hpos : 0 < out.length := List.length_pos_iff.2 hn
      have hmin := Min_f out {} hn (by omega)
      have hmax := Max_f out {} hn (by omega)
      rw [decide_eq_true hn]
      clear h2 h3
      ((repeat ((conv => whnf); (first | (refine As.pre ?_; first | refine As.mk rfl ?_) | (refine LetI.pre ?_; first | refine LetI.mk _ rfl ?_) | (refine LetB.pre ?_; first | refine LetB.decf (by omega) ?_) | (refine Br.pre ?_; first | refine Br.ff rfl ?_) | (refine Ck.pre ?_; first | refine Ck.mk rfl ?_) | (refine CallN.pre ?_; first | refine CallN.lend hmin rfl (.full rfl (pure_int _) hmo.symm .nil) ?_ | refine CallN.lend hmax rfl (.full rfl (pure_int _) hmo.symm .nil) ?_)))); (try (conv => whnf)))


      exact ⟨.inl rfl, ⟨_, rfl, rfl⟩, trivial⟩
  have hld := tmD hlt
  have hoe := ho _ (getD_mem' hlt)
  have hq : ((l.take (k + 1)).filter (tmB st a)).map (fun e => e.on_ / 100) = out ++ if tmB st a (l.getD k e0) then [(l.getD k e0).on_ / 100] else [] := by
    rw [h2, List.take_succ_eq_append_getElem hlt, List.filter_append, List.map_append, List.getD_eq_getElem?_getD, List.getElem?_eq_getElem hlt]
    congr 1
    simp only [Option.getD_some, List.filter_cons, List.filter_nil]
    split <;> rfl
  clear h2
  generalize l.getD k e0 = e at hld hoe hq
  by_cases hc : e.kind = 3 ∧ e.student = st ∧ e.day ≤ a
  · rw [if_pos (decide_eq_true hc)] at hq
    obtain ⟨c1, c2, c3⟩ := hc
    have hT := Dt.Term_f e.on_ hoe
    generalize e.on_ / 100 = t at hT hq
    have hnx := ih (k + 1, out ++ [t]) ⟨by show k + 1 ≤ l.length; omega, hq.symm⟩ (by show l.length - (k + 1) < l.length - k; omega)
    have happ := app_intL out t out.length rfl
    have hr := room_int (n := out.length + 1) (by omega)
    clear ih hq
    ((repeat ((conv => whnf); (first | (refine LetN.pre ?_; first | ((conv => arg 1; whnf); refine LetN.mk ?_)) | (refine As.pre ?_; first | refine As.mk rfl ?_ | (refine As.mk ?_ ?_; · ((repeat' (refine andT ?_ ?_)) <;> (first | rfl | assumption | exact decide_eq_true (by omega) | exact decide_eq_true (by dsimp only; omega) | exact decide_eq_true (by simp; omega) | (simp; done))))) | (refine LetV.pre ?_; first | refine LetV.mk (t := 27) _ hld ?_ | refine LetV.mk (.sc (.int _ _)) rfl ?_ | refine LetV.mk (.agg _) rfl ?_) | (refine LetI.pre ?_; first | refine LetI.wrap (by omega) (by omega) ?_) | (refine LetB.pre ?_; first | refine LetB.dect (by omega) ?_) | (refine Gd.pre ?_; first | refine Gd.run rfl ?_) | (refine Br.pre ?_; first | refine Br.tt rfl ?_) | (refine Ck.pre ?_; first | refine Ck.mk rfl ?_) | (refine LetL.pre ?_; first | refine LetL.mk (ty := 3) _ happ ?_ | refine LetL.mk [_] rfl ?_) | (refine CallN.pre ?_; first | refine CallN.pure hT rfl rfl ?_)))); (try (conv => whnf)))



    refine LoopN.weak ?sw2 hnx
    case sw2 => exact SW.mk (fun _ => 2) rfl rfl (namesAll.row (pure_int _) rfl) ⟨.refl _, .refl _, .refl _, VLe2.slm_of (by simp), .refl _, .refl _, VLe2.int (by omega), trivial⟩ (haveV.row (pure_int _) rfl trivial)
  · rw [if_neg (by simpa using hc), List.append_nil] at hq
    have hnx := ih (k + 1, out) ⟨by show k + 1 ≤ l.length; omega, hq.symm⟩ (by show l.length - (k + 1) < l.length - k; omega)
    clear ih hq
    by_cases c1 : e.kind = 3
    · by_cases c2 : e.student = st
      · have c3 : ¬ e.day ≤ a := fun h => hc ⟨c1, c2, h⟩
        ((repeat ((conv => whnf); (first | (refine LetN.pre ?_; first | ((conv => arg 1; whnf); refine LetN.mk ?_)) | (refine As.pre ?_; first | refine As.mk rfl ?_ | (refine As.mk ?_ ?_; · ((repeat' (refine andT ?_ ?_)) <;> (first | rfl | assumption | exact decide_eq_true (by omega) | exact decide_eq_true (by dsimp only; omega) | exact decide_eq_true (by simp; omega) | (simp; done))))) | (refine LetV.pre ?_; first | refine LetV.mk (t := 27) _ hld ?_ | refine LetV.mk (.sc (.int _ _)) rfl ?_ | refine LetV.mk (.agg _) rfl ?_) | (refine LetI.pre ?_; first | refine LetI.wrap (by omega) (by omega) ?_) | (refine LetB.pre ?_; first | refine LetB.dect (by omega) ?_ | refine LetB.decf (by omega) ?_) | (refine Gd.pre ?_; first | refine Gd.run rfl ?_) | (refine Br.pre ?_; first | refine Br.tt rfl ?_ | refine Br.ff rfl ?_) | (refine Ck.pre ?_; first | refine Ck.mk rfl ?_) | (refine LetL.pre ?_; first | refine LetL.mk [_] rfl ?_)))); (try (conv => whnf)))
        refine LoopN.weak ?sw3 hnx
        case sw3 => exact SW.mk id rfl rfl (namesAll.row (pure_int _) rfl) ⟨.refl _, .refl _, .refl _, .refl _, .refl _, .refl _, VLe2.int (by omega), trivial⟩ (haveV.row (pure_int _) rfl trivial)
      · ((repeat ((conv => whnf); (first | (refine LetN.pre ?_; first | ((conv => arg 1; whnf); refine LetN.mk ?_)) | (refine As.pre ?_; first | refine As.mk rfl ?_ | (refine As.mk ?_ ?_; · ((repeat' (refine andT ?_ ?_)) <;> (first | rfl | assumption | exact decide_eq_true (by omega) | exact decide_eq_true (by dsimp only; omega) | exact decide_eq_true (by simp; omega) | (simp; done))))) | (refine LetV.pre ?_; first | refine LetV.mk (t := 27) _ hld ?_ | refine LetV.mk (.sc (.int _ _)) rfl ?_ | refine LetV.mk (.agg _) rfl ?_) | (refine LetI.pre ?_; first | refine LetI.wrap (by omega) (by omega) ?_) | (refine LetB.pre ?_; first | refine LetB.dect (by omega) ?_ | refine LetB.decf (by omega) ?_) | (refine Gd.pre ?_; first | refine Gd.run rfl ?_ | refine Gd.pass rfl ?_) | (refine Br.pre ?_; first | refine Br.tt rfl ?_ | refine Br.ff rfl ?_) | (refine Ck.pre ?_; first | refine Ck.mk rfl ?_) | (refine LetL.pre ?_; first | refine LetL.mk [_] rfl ?_)))); (try (conv => whnf)))
        refine LoopN.weak ?sw4 hnx
        case sw4 => exact SW.mk id rfl rfl (namesAll.row (pure_int _) rfl) ⟨.refl _, .refl _, .refl _, .refl _, .refl _, .refl _, VLe2.int (by omega), trivial⟩ (haveV.row (pure_int _) rfl trivial)
    · ((repeat ((conv => whnf); (first | (refine LetN.pre ?_; first | ((conv => arg 1; whnf); refine LetN.mk ?_)) | (refine As.pre ?_; first | refine As.mk rfl ?_ | (refine As.mk ?_ ?_; · ((repeat' (refine andT ?_ ?_)) <;> (first | rfl | assumption | exact decide_eq_true (by omega) | exact decide_eq_true (by dsimp only; omega) | exact decide_eq_true (by simp; omega) | (simp; done))))) | (refine LetV.pre ?_; first | refine LetV.mk (t := 27) _ hld ?_ | refine LetV.mk (.sc (.int _ _)) rfl ?_ | refine LetV.mk (.agg _) rfl ?_) | (refine LetI.pre ?_; first | refine LetI.wrap (by omega) (by omega) ?_) | (refine LetB.pre ?_; first | refine LetB.dect (by omega) ?_ | refine LetB.decf (by omega) ?_) | (refine Gd.pre ?_; first | refine Gd.pass rfl ?_) | (refine Br.pre ?_; first | refine Br.tt rfl ?_ | refine Br.ff rfl ?_) | (refine Ck.pre ?_; first | refine Ck.mk rfl ?_) | (refine LetL.pre ?_; first | refine LetL.mk [_] rfl ?_)))); (try (conv => whnf)))
      refine LoopN.weak ?sw5 hnx
      case sw5 => exact SW.mk id rfl rfl (namesAll.row (pure_int _) rfl) ⟨.refl _, .refl _, .refl _, .refl _, .refl _, .refl _, VLe2.int (by omega), trivial⟩ (haveV.row (pure_int _) rfl trivial)
end En
end Go.Proofs.Ytnegdmjmllmclaa
namespace Go.Proofs.Ytnegdmjmllmclaa
open Go.Proofs.Ytnegdmjmllmclaa.Am
set_option maxRecDepth 100000
namespace En
/-! ### The record of a student -/
abbrev rty : TypeId := 71
abbrev recA (l : List E) (s : Sc.Scl) (st a : Int) : AV := .agg [.ro {} 15 (l.map en), int s.1, int s.2.1, int s.2.2, int st, int a]
def endP (t a : Int) : Bool := decide (0 ≤ t ∧ t ≤ 1000 ∧ 100 * t + 99 ≤ a)
theorem ended_f (l : List E) (s : Sc.Scl) (st a t : Int) : AFun Try.prog 32 0 [recA l s st a, int t] [] (bool (endP t a)) [] := by
  refine AFun.of_W T_ok mixed Try.func32 rfl (Nat.le_of_ble_eq_true rfl) rfl ?_
  unfold endP
  by_cases h1 : 0 ≤ t
  · by_cases h2 : t ≤ 1000
    · have hL := Dt.Last_f t (by omega)
      by_cases h3 : 100 * t + 99 ≤ a
      · rw [decide_eq_true ⟨h1, h2, h3⟩]
        ((repeat ((conv => whnf); (first | (refine LetN.pre ?_; first | ((conv => arg 1; whnf); refine LetN.mk ?_)) | (refine As.pre ?_; first | refine As.mk rfl ?_) | (refine LetV.pre ?_; first | refine LetV.mk (.sc (.int _ _)) rfl ?_) | (refine LetB.pre ?_; first | refine LetB.dect (by omega) ?_) | (refine Gd.pre ?_; first | refine Gd.run rfl ?_) | (refine Ck.pre ?_; first | refine Ck.drawn (by kernel_rfl) ?_ | refine Ck.mk rfl ?_) | (refine CallN.pre ?_; first | refine CallN.pure hL rfl rfl ?_)))); (try (conv => whnf)))
        exact ⟨.inl rfl, ⟨_, rfl, rfl⟩, trivial⟩
      · rw [decide_eq_false (fun h => h3 h.2.2)]
        ((repeat ((conv => whnf); (first | (refine LetN.pre ?_; first | ((conv => arg 1; whnf); refine LetN.mk ?_)) | (refine As.pre ?_; first | refine As.mk rfl ?_) | (refine LetV.pre ?_; first | refine LetV.mk (.sc (.int _ _)) rfl ?_) | (refine LetB.pre ?_; first | refine LetB.dect (by omega) ?_ | refine LetB.decf (by omega) ?_) | (refine Gd.pre ?_; first | refine Gd.run rfl ?_) | (refine Ck.pre ?_; first | refine Ck.drawn (by kernel_rfl) ?_ | refine Ck.mk rfl ?_) | (refine CallN.pre ?_; first | refine CallN.pure hL rfl rfl ?_)))); (try (conv => whnf)))
        exact ⟨.inl rfl, ⟨_, rfl, rfl⟩, trivial⟩
    · rw [decide_eq_false (fun h => h2 h.2.1)]
      ((repeat ((conv => whnf); (first | (refine LetN.pre ?_; first | ((conv => arg 1; whnf); refine LetN.mk ?_)) | (refine As.pre ?_; first | refine As.mk rfl ?_) | (refine LetB.pre ?_; first | refine LetB.dect (by omega) ?_ | refine LetB.decf (by omega) ?_) | (refine Gd.pre ?_; first | refine Gd.run rfl ?_ | refine Gd.pass rfl ?_) | (refine Ck.pre ?_; first | refine Ck.drawn (by kernel_rfl) ?_ | refine Ck.mk rfl ?_)))); (try (conv => whnf)))
      exact ⟨.inl rfl, ⟨_, rfl, rfl⟩, trivial⟩
  · rw [decide_eq_false (fun h => h1 h.1)]
    ((repeat ((conv => whnf); (first | (refine LetN.pre ?_; first | ((conv => arg 1; whnf); refine LetN.mk ?_)) | (refine As.pre ?_; first | refine As.mk rfl ?_) | (refine LetB.pre ?_; first | refine LetB.decf (by omega) ?_) | (refine Gd.pre ?_; first | refine Gd.pass rfl ?_) | (refine Ck.pre ?_; first | refine Ck.drawn (by kernel_rfl) ?_ | refine Ck.mk rfl ?_)))); (try (conv => whnf)))
    exact ⟨.inl rfl, ⟨_, rfl, rfl⟩, trivial⟩
abbrev isG (id : Int) (e : E) : Bool := decide (e.kind = 3 ∧ e.id = id)
theorem isG_f (e : E) (x : St) : AFun Try.prog 59 0 [en e, .rp (stA x) 0] [] (bool (isG x.entry e)) [] := by
  refine AFun.of_W T_ok mixed Try.func59 rfl (Nat.le_of_ble_eq_true rfl) rfl ?_
  unfold isG
  by_cases h1 : e.kind = 3
  · by_cases h2 : e.id = x.entry
    · rw [decide_eq_true ⟨h1, h2⟩]
      ((repeat ((conv => whnf); (first | (refine LetN.pre ?_; first | ((conv => arg 1; whnf); refine LetN.mk ?_)) | (refine As.pre ?_; first | refine As.mk rfl ?_) | (refine LetV.pre ?_; first | refine LetV.mk (.sc (.int _ _)) rfl ?_) | (refine LetB.pre ?_; first | refine LetB.dect (by omega) ?_) | (refine Gd.pre ?_; first | refine Gd.run rfl ?_) | (refine Ck.pre ?_; first | refine Ck.mk rfl ?_)))); (try (conv => whnf)))
      exact ⟨.inl rfl, ⟨_, rfl, rfl⟩, trivial⟩
    · rw [decide_eq_false (fun h => h2 h.2)]
      ((repeat ((conv => whnf); (first | (refine LetN.pre ?_; first | ((conv => arg 1; whnf); refine LetN.mk ?_)) | (refine As.pre ?_; first | refine As.mk rfl ?_) | (refine LetV.pre ?_; first | refine LetV.mk (.sc (.int _ _)) rfl ?_) | (refine LetB.pre ?_; first | refine LetB.dect (by omega) ?_ | refine LetB.decf (by omega) ?_) | (refine Gd.pre ?_; first | refine Gd.run rfl ?_) | (refine Ck.pre ?_; first | refine Ck.mk rfl ?_)))); (try (conv => whnf)))
      exact ⟨.inl rfl, ⟨_, rfl, rfl⟩, trivial⟩
  · rw [decide_eq_false (fun h => h1 h.1)]
    ((repeat ((conv => whnf); (first | (refine LetN.pre ?_; first | ((conv => arg 1; whnf); refine LetN.mk ?_)) | (refine As.pre ?_; first | refine As.mk rfl ?_) | (refine LetV.pre ?_; first | refine LetV.mk (.sc (.int _ _)) rfl ?_) | (refine LetB.pre ?_; first | refine LetB.decf (by omega) ?_) | (refine Gd.pre ?_; first | refine Gd.pass rfl ?_) | (refine Ck.pre ?_; first | refine Ck.mk rfl ?_)))); (try (conv => whnf)))
    exact ⟨.inl rfl, ⟨_, rfl, rfl⟩, trivial⟩
abbrev isV (x : St) : AV := .clo 59 [.rp (stA x) 0]
set_option maxRecDepth 100000 in
theorem IndexG_f (l : List E) (x : St) (fl : Fl) (hl : l.length ≤ 1000) : AFun Try.prog 58 0 [.ro fl 15 (l.map en), isV x] [] (int (fidx (isG x.entry) l 0)) [] := by
  refine AFun.of_W T_ok mixed Try.func58 rfl (Nat.le_of_ble_eq_true rfl) rfl ?_
  have hm : (l.map en).length = l.length := List.length_map _
  ((repeat ((conv => whnf); (first | (refine As.pre ?_; first | refine As.mk rfl ?_) | (refine LetI.pre ?_; first | refine LetI.mk _ rfl ?_) | (refine Ck.pre ?_; first | refine Ck.mk rfl ?_)))); (try (conv => whnf)))
  refine LoopN.weak (s1 := ⟨[(0, .ro fl 15 (l.map en)), (1, isV x), (7, int l.length), (8, int (0 : Nat))], [], 0⟩) (SW.fr0 (Nat.le_refl _) rfl ⟨.refl _, .refl _, VLe2.int (by rw [List.length_map]), .refl _, trivial⟩) ?_
  refine LoopN.ind T_ok mixed (S := fun k : Nat => ⟨[(0, .ro fl 15 (l.map en)), (1, isV x), (7, int l.length), (8, int k)], [], 0⟩) (fun k => l.length - k) (fun k => k ≤ l.length ∧ fidx (isG x.entry) l 0 = fidx (isG x.entry) (l.drop k) k) (fun _ => rfl) (fun k hk ih => ?_) 0 ⟨Nat.zero_le _, rfl⟩
  obtain ⟨h1, h2⟩ := hk
  by_cases hlt : k < l.length
  case neg =>
    rw [fidx_end hlt] at h2
    rw [h2]
    clear ih
    ((repeat ((conv => whnf); (first | (refine As.pre ?_; first | refine As.mk rfl ?_) | (refine LetB.pre ?_; first | refine LetB.decf (by omega) ?_) | (refine Br.pre ?_; first | refine Br.ff rfl ?_) | (refine Ck.pre ?_; first | refine Ck.mk rfl ?_)))); (try (conv => whnf)))
    exact ⟨.inl rfl, ⟨_, rfl, rfl⟩, trivial⟩
  have hld := tmD hlt
  rw [fidx_drop hlt e0] at h2
  generalize l.getD k e0 = e at hld h2
  have hF := isG_f e x
  generalize isG x.entry e = m at h2 hF
  cases m with
  | false =>
    rw [if_neg (by decide)] at h2
    have hnx := ih (k + 1) ⟨by omega, h2⟩ (by omega)
    clear ih
    ((repeat ((conv => whnf); (first | (refine As.pre ?_; first | refine As.mk rfl ?_ | (refine As.mk ?_ ?_; · ((repeat' (refine andT ?_ ?_)) <;> (first | rfl | assumption | exact decide_eq_true (by omega) | exact decide_eq_true (by dsimp only; omega) | exact decide_eq_true (by simp; omega) | (simp; done))))) | (refine LetV.pre ?_; first | refine LetV.mk (t := 27) _ hld ?_ | refine LetV.mk (.agg _) rfl ?_) | (refine LetI.pre ?_; first | refine LetI.wrap (by omega) (by omega) ?_) | (refine LetB.pre ?_; first | refine LetB.dect (by omega) ?_) | (refine Br.pre ?_; first | refine Br.tt rfl ?_ | refine Br.ff rfl ?_) | (refine Ck.pre ?_; first | refine Ck.mk rfl ?_) | (refine CallN.pre ?_; first | refine CallN.pure hF rfl rfl ?_)))); (try (conv => whnf)))
    refine LoopN.weak ?_ hnx
    exact SW.fr0 (Nat.le_refl _) rfl ⟨.refl _, .refl _, .refl _, VLe2.int (by omega), trivial⟩
  | true =>
    rw [if_pos (by decide)] at h2
    rw [h2]
    clear ih h2
    ((repeat ((conv => whnf); (first | (refine As.pre ?_; first | refine As.mk rfl ?_ | (refine As.mk ?_ ?_; · ((repeat' (refine andT ?_ ?_)) <;> (first | rfl | assumption | exact decide_eq_true (by omega) | exact decide_eq_true (by dsimp only; omega) | exact decide_eq_true (by simp; omega) | (simp; done))))) | (refine LetV.pre ?_; first | refine LetV.mk (t := 27) _ hld ?_ | refine LetV.mk (.agg _) rfl ?_) | (refine LetB.pre ?_; first | refine LetB.dect (by omega) ?_) | (refine Br.pre ?_; first | refine Br.tt rfl ?_) | (refine Ck.pre ?_; first | refine Ck.mk rfl ?_) | (refine CallN.pre ?_; first | refine CallN.pure hF rfl rfl ?_)))); (try (conv => whnf)))
    exact ⟨.inl rfl, ⟨_, rfl, rfl⟩, trivial⟩
/-- The grade of a term, with its credits. -/
def gsel (l : List E) (st t : Int) (x : St) : Option (St × Int) :=
  if fidx (isG x.entry) l 0 < 0 then none else if (l.getD (fidx (isG x.entry) l 0).toNat e0).student = st ∧ (l.getD (fidx (isG x.entry) l 0).toNat e0).on_ / 100 = t then some (x, (l.getD (fidx (isG x.entry) l 0).toNat e0).credits) else none
def grdP (l : List E) (st a t : Int) : List (St × Int) := (atP l a (100 * t + 99)).filterMap (gsel l st t)
abbrev grV (l : List E) (s : Sc.Scl) (st a t : Int) : AV := .clo 57 [.rp (recA l s st a) 0, .rp (int t) 0]
theorem grades_f (l : List E) (s : Sc.Scl) (st a t : Int) : AFun Try.prog 33 0 [recA l s st a, int t] [] (grV l s st a t) [] := by
  have h : AFun Try.prog 33 0 [recA l s st a, int t] [] (.clo 57 [.ptr 0 6 0 0, .ptr 1 1 0 0]) [(0, .row 6 rty [recA l s st a]), (1, .row 1 3 [int t])] := by
    refine AFun.of_W T_ok mixed Try.func33 rfl (Nat.le_of_ble_eq_true rfl) rfl ?_
    ((repeat ((conv => whnf); (first | (refine LetN.pre ?_; first | ((conv => arg 1; whnf); refine LetN.mk ?_)) | (refine As.pre ?_; first | refine As.mk rfl ?_) | (refine Ck.pre ?_; first | refine Ck.mk rfl ?_)))); (try (conv => whnf)))
    exact ⟨.inl rfl, ⟨_, rfl, rfl⟩, rfl, rfl, trivial⟩
  exact AFun.frz [0, 1] h rfl rfl rfl
theorem fidx_lt {α : Type} (p : α → Bool) : ∀ (l : List α) (k : Nat), fidx p l k < (k + l.length : Nat)
  | [], k => by simp only [fidx, List.length_nil]; omega
  | x :: l, k => by
    have := fidx_lt p l (k + 1)
    simp only [fidx, List.length_cons]
    split
    · omega
    · omega
theorem fm_succ {α β : Type} (f : α → Option β) {A : List α} {k : Nat} (h : k < A.length) (d : α) : (A.take (k + 1)).filterMap f = (A.take k).filterMap f ++ (f (A.getD k d)).toList := by
  rw [List.take_succ_eq_append_getElem h, List.filterMap_append, List.getD_eq_getElem?_getD, List.getElem?_eq_getElem h]
  rfl
end En
end Go.Proofs.Ytnegdmjmllmclaa
namespace Go.Proofs.Ytnegdmjmllmclaa
open Go.Proofs.Ytnegdmjmllmclaa.Am
set_option maxRecDepth 100000
namespace En
/-! ### Credits -/
abbrev crH (rec : AV) (p f : Int) : AH := [(0, .row 6 rty [rec]), (1, .row 1 3 [int p]), (2, .row 1 3 [int f])]
theorem solid_enS : ∀ l : List E, AV.solidL (l.map en) = true
  | [] => rfl
  | p :: l => by simp only [List.map_cons, AV.solidL, solid_enS l]; rfl
theorem solid_rec (l : List E) (s : Sc.Scl) (st a : Int) : AV.solidL [recA l s st a] = true := by
  simp only [AV.solidL, AV.solid, solid_enS l]; rfl
theorem crSol (l : List E) (s : Sc.Scl) (st a p f : Int) : solidH (crH (recA l s st a) p f) = true := solidH.row (solid_rec l s st a) rfl
abbrev crC : List AV := [.ptr 0 6 0 0, .ptr 1 1 0 0, .ptr 2 1 0 0]
def psB (s : Sc.Scl) (x : St) : Bool := !x.void && decide (Sc.rea s x.grade s.2.2)
def crS (s : Sc.Scl) (q : Int × Int) (x : St × Int) : Int × Int := if psB s x.1 then (IntKind.i64.wrap (q.1 + x.2), q.2) else (q.1, IntKind.i64.wrap (q.2 + x.2))
def crP (s : Sc.Scl) (L : List (St × Int)) : Int × Int := L.foldl (crS s) (0, 0)
abbrev grS (A : List St) (rec : AV) (t : Int) (y : AV) : Nat × Int × Int → AS
  | (j, p, f) => ⟨[(0, y), (1, .rp rec 0), (2, .rp (int t) 0), (13, .ro {} 4 (A.map stA)), (14, int A.length), (15, int j)], crH rec p f, 3⟩
theorem stD {A : List St} {k : Nat} (h : k < A.length) : stA (A.getD k ⟨0, 0, 0, false⟩) = (A.map stA).getD k (.sc undef) := mapD _ h
set_option maxHeartbeats 1600000 in
set_option maxRecDepth 100000 in
theorem gradesC_f (l : List E) (s : Sc.Scl) (st a t : Int) (hl : l.length < 40) (ht : 0 ≤ t ∧ t ≤ 1000) (ho : ∀ e ∈ l, Dt.okW e.on_) (lp : Nat) (rc : Loop) (hps : rc.params.size = 2) (ks : List Nat)
    (hy : ∀ (p f : Int) (x : St) (n : Int), AFunC (CY Try.prog lp rc) 3 [.yl lp rc ks crC, stA x, int n] (crH (recA l s st a) p f) (bool true) (crH (recA l s st a) (crS s (p, f) (x, n)).1 (crS s (p, f) (x, n)).2)) :
    AFun Try.prog 57 3 [.yl lp rc ks crC, .rp (recA l s st a) 0, .rp (int t) 0] (crH (recA l s st a) 0 0) (.tup []) (crH (recA l s st a) (crP s (grdP l st a t)).1 (crP s (grdP l st a t)).2) := by
  refine AFun.of_S T_ok mixed Try.func57 rfl (Nat.le_of_ble_eq_true rfl) rfl ?_
  have hL := Dt.Last_f t (by omega)
  have hA := At_f l a (100 * t + 99) {} hl
  have hlen := atP_len (l := l) a (100 * t + 99)
  rw [grdP]
  generalize atP l a (100 * t + 99) = A at hA hlen ⊢
  have hml : (l.map en).length = l.length := List.length_map _
  have hmA : (A.map stA).length = A.length := List.length_map _
  generalize hR : crP s (A.filterMap (gsel l st t)) = R
  have hrec : AV.namesL (fun _ => false) [recA l s st a] = true := rfl
  ((repeat ((conv => whnf); (first | (refine As.pre ?_; first | refine As.mk rfl ?_) | (refine LetV.pre ?_; first | refine LetV.mk (.sc (.int _ _)) rfl ?_ | refine LetV.mk (.ro _ _ _) rfl ?_) | (refine LetI.pre ?_; first | refine LetI.mk _ rfl ?_) | (refine Ck.pre ?_; first | refine Ck.drawn (by kernel_rfl) ?_ | refine Ck.mk rfl ?_) | (refine CallN.pre ?_; first | refine CallN.pure hL rfl rfl ?_ | refine CallN.pure hA rfl rfl ?_)))); (try (conv => whnf)))
  refine LoopN.weak (s1 := grS A (recA l s st a) t (.yl lp rc ks crC) (0, 0, 0)) ?sw1 ?_
  case sw1 => exact SW.mk id rfl rfl rfl ⟨.refl _, .refl _, .refl _, .refl _, VLe2.int (by rw [hmA]), .refl _, trivial⟩ (haveV.row rfl rfl (haveV.row rfl rfl (haveV.row rfl rfl trivial)))
  clear hL hA
  refine LoopN.ind T_ok mixed (S := grS A (recA l s st a) t (.yl lp rc ks crC)) (fun i => A.length - i.1) (fun i => i.1 ≤ A.length ∧ i.2 = crP s ((A.take i.1).filterMap (gsel l st t))) (fun _ => rfl) (fun i hi ih => ?_) (0, 0, 0) ⟨Nat.zero_le _, rfl⟩
  obtain ⟨j, p, f⟩ := i
  obtain ⟨h1, h2⟩ := hi
  simp only at h1 h2
  by_cases hlt : j < A.length
  case neg =>
    clear ih hy
    rw [List.take_of_length_le (by omega), hR] at h2
    subst h2
    ((repeat ((conv => whnf); (first | (refine As.pre ?_; first | refine As.mk rfl ?_) | (refine LetB.pre ?_; first | refine LetB.decf (by omega) ?_) | (refine Br.pre ?_; first | refine Br.ff rfl ?_) | (refine Ck.pre ?_; first | refine Ck.mk rfl ?_)))); (try (conv => whnf)))
    exact ⟨⟨[], crH (recA l s st a) p f, 3⟩, SW.mk id rfl rfl rfl trivial (haveV.row rfl rfl (haveV.row rfl rfl (haveV.row rfl rfl trivial))), .inr rfl, ⟨_, rfl, rfl⟩, rfl, rfl, rfl, trivial⟩
  have hld := stD hlt
  have hq : crP s ((A.take (j + 1)).filterMap (gsel l st t)) = ((gsel l st t (A.getD j ⟨0, 0, 0, false⟩)).toList).foldl (crS s) (p, f) := by
    rw [fm_succ _ hlt ⟨0, 0, 0, false⟩, crP, List.foldl_append, h2]; rfl
  clear h2 hR
  generalize A.getD j ⟨0, 0, 0, false⟩ = x at hld hq
  have hI := IndexG_f l x {} (by omega)
  have hflt := fidx_lt (isG x.entry) l 0
  generalize hgx : gsel l st t x = gx at hq
  unfold gsel at hgx
  generalize fidx (isG x.entry) l 0 = k at hI hgx hflt
  by_cases hk : k < 0
  · rw [if_pos hk] at hgx
    subst hgx
    have hnx := ih (j + 1, p, f) ⟨by show j + 1 ≤ A.length; omega, hq.symm⟩ (by show A.length - (j + 1) < A.length - j; omega)
    clear ih hq hy
    ((repeat ((conv => whnf); (first | (refine LetN.pre ?_; first | ((conv => arg 1; whnf); refine LetN.mk ?_)) | (refine As.pre ?_; first | refine As.mk rfl ?_ | (refine As.mk ?_ ?_; · ((repeat' (refine andT ?_ ?_)) <;> (first | rfl | assumption | exact decide_eq_true (by omega) | exact decide_eq_true (by dsimp only; omega) | exact decide_eq_true (by simp; omega) | (simp; done))))) | (refine LetV.pre ?_; first | refine LetV.mk (t := 56) _ hld ?_ | refine LetV.mk (.agg _) rfl ?_ | refine LetV.mk (.ro _ _ _) rfl ?_) | (refine LetI.pre ?_; first | refine LetI.wrap (by omega) (by omega) ?_) | (refine LetB.pre ?_; first | refine LetB.dect (by omega) ?_) | (refine Gd.pre ?_; first | refine Gd.pass rfl ?_) | (refine Br.pre ?_; first | refine Br.tt rfl ?_) | (refine Ck.pre ?_; first | refine Ck.drawn (by kernel_rfl) ?_ | refine Ck.mk rfl ?_) | (refine LetL.pre ?_; first | refine LetL.mk [_] rfl ?_) | (refine CallN.pre ?_; first | refine CallN.lend hI rfl (.same rfl (.clo (.ptr rfl rfl rfl .nil) .nil)) ?_)))); (try (conv => whnf)))


    refine LoopN.weak ?sw2 hnx
    case sw2 => exact SW.mk id rfl rfl rfl ⟨.refl _, .refl _, .refl _, .refl _, .refl _, VLe2.int (by omega), trivial⟩ (haveV.row rfl rfl (haveV.row rfl rfl (haveV.row rfl rfl trivial)))
  rw [if_neg hk] at hgx
  obtain ⟨m, rfl⟩ : ∃ m : Nat, k = m := ⟨k.toNat, by omega⟩
  have hmlt : m < l.length := by omega
  simp only [Int.toNat_natCast] at hgx
  have hle := tmD hmlt
  have hoe := ho _ (getD_mem' hmlt)
  generalize l.getD m e0 = e at hle hoe hgx
  have hT := Dt.Term_f e.on_ hoe
  generalize e.on_ / 100 = t' at hT hgx
  by_cases hst : e.student = st
  case neg =>
    rw [if_neg (fun h => hst h.1)] at hgx
    subst hgx
    have hnx := ih (j + 1, p, f) ⟨by show j + 1 ≤ A.length; omega, hq.symm⟩ (by show A.length - (j + 1) < A.length - j; omega)
    clear ih hq hy
    ((repeat ((conv => whnf); (first | (refine LetN.pre ?_; first | ((conv => arg 1; whnf); refine LetN.mk ?_)) | (refine As.pre ?_; first | refine As.mk rfl ?_ | (refine As.mk ?_ ?_; · ((repeat' (refine andT ?_ ?_)) <;> (first | rfl | assumption | exact decide_eq_true (by omega) | exact decide_eq_true (by dsimp only; omega) | exact decide_eq_true (by simp; omega) | (simp; done))))) | (refine LetV.pre ?_; first | refine LetV.mk (t := 56) _ hld ?_ | refine LetV.mk (t := 27) _ hle ?_ | refine LetV.mk (.sc (.int _ _)) rfl ?_ | refine LetV.mk (.agg _) rfl ?_ | refine LetV.mk (.ro _ _ _) rfl ?_) | (refine LetI.pre ?_; first | refine LetI.wrap (by omega) (by omega) ?_) | (refine LetB.pre ?_; first | refine LetB.ff rfl ?_ | refine LetB.dect (by omega) ?_ | refine LetB.bnet (by omega) ?_) | (refine Gd.pre ?_; first | refine Gd.run rfl ?_ | refine Gd.pass rfl ?_) | (refine Br.pre ?_; first | refine Br.tt rfl ?_) | (refine Ck.pre ?_; first | refine Ck.drawn (by kernel_rfl) ?_ | refine Ck.mk rfl ?_) | (refine LetL.pre ?_; first | refine LetL.mk [_] rfl ?_) | (refine CallN.pre ?_; first | refine CallN.lend hI rfl (.same rfl (.clo (.ptr rfl rfl rfl .nil) .nil)) ?_)))); (try (conv => whnf)))



    refine LoopN.weak ?sw3 hnx
    case sw3 => exact SW.mk id rfl rfl rfl ⟨.refl _, .refl _, .refl _, .refl _, .refl _, VLe2.int (by omega), trivial⟩ (haveV.row rfl rfl (haveV.row rfl rfl (haveV.row rfl rfl trivial)))
  by_cases htt : t' = t
  case neg =>
    rw [if_neg (fun h => htt h.2)] at hgx
    subst hgx
    have hnx := ih (j + 1, p, f) ⟨by show j + 1 ≤ A.length; omega, hq.symm⟩ (by show A.length - (j + 1) < A.length - j; omega)
    clear ih hq hy
    ((repeat ((conv => whnf); (first | (refine LetN.pre ?_; first | ((conv => arg 1; whnf); refine LetN.mk ?_)) | (refine As.pre ?_; first | refine As.mk rfl ?_ | (refine As.mk ?_ ?_; · ((repeat' (refine andT ?_ ?_)) <;> (first | rfl | assumption | exact decide_eq_true (by omega) | exact decide_eq_true (by dsimp only; omega) | exact decide_eq_true (by simp; omega) | (simp; done))))) | (refine LetV.pre ?_; first | refine LetV.mk (t := 56) _ hld ?_ | refine LetV.mk (t := 27) _ hle ?_ | refine LetV.mk (.sc (.int _ _)) rfl ?_ | refine LetV.mk (.agg _) rfl ?_ | refine LetV.mk (.ro _ _ _) rfl ?_) | (refine LetI.pre ?_; first | refine LetI.wrap (by omega) (by omega) ?_) | (refine LetB.pre ?_; first | refine LetB.ff rfl ?_ | refine LetB.dect (by omega) ?_ | refine LetB.bnet (by omega) ?_ | refine LetB.bnef (by omega) ?_) | (refine Gd.pre ?_; first | refine Gd.run rfl ?_) | (refine Br.pre ?_; first | refine Br.tt rfl ?_) | (refine Ck.pre ?_; first | refine Ck.drawn (by kernel_rfl) ?_ | refine Ck.mk rfl ?_) | (refine LetL.pre ?_; first | refine LetL.mk [_] rfl ?_) | (refine CallN.pre ?_; first | refine CallN.pure hT rfl rfl ?_ | refine CallN.lend hI rfl (.same rfl (.clo (.ptr rfl rfl rfl .nil) .nil)) ?_)))); (try (conv => whnf)))




    refine LoopN.weak ?sw4 hnx
    case sw4 => exact SW.mk id rfl rfl rfl ⟨.refl _, .refl _, .refl _, .refl _, .refl _, VLe2.int (by omega), trivial⟩ (haveV.row rfl rfl (haveV.row rfl rfl (haveV.row rfl rfl trivial)))
  rw [if_pos ⟨hst, htt⟩] at hgx
  subst hgx
  have hyi := hy p f x e.credits
  obtain ⟨p', f', hpf⟩ : ∃ p' f', (p', f') = crS s (p, f) (x, e.credits) := ⟨_, _, rfl⟩
  rw [← hpf] at hyi
  have hnx := ih (j + 1, p', f') ⟨by show j + 1 ≤ A.length; omega, by rw [hq]; exact hpf⟩ (by show A.length - (j + 1) < A.length - j; omega)
  clear ih hq hy hpf
  ((repeat ((conv => whnf); (first | (refine LetN.pre ?_; first | ((conv => arg 1; whnf); refine LetN.mk ?_)) | (refine As.pre ?_; first | refine As.mk rfl ?_ | (refine As.mk ?_ ?_; · ((repeat' (refine andT ?_ ?_)) <;> (first | rfl | assumption | exact decide_eq_true (by omega) | exact decide_eq_true (by dsimp only; omega) | exact decide_eq_true (by simp; omega) | (simp; done))))) | (refine LetV.pre ?_; first | refine LetV.mk (t := 56) _ hld ?_ | refine LetV.mk (t := 27) _ hle ?_ | refine LetV.mk (.sc (.int _ _)) rfl ?_ | refine LetV.mk (.agg _) rfl ?_ | refine LetV.mk (.ro _ _ _) rfl ?_) | (refine LetI.pre ?_; first | refine LetI.wrap (by omega) (by omega) ?_) | (refine LetB.pre ?_; first | refine LetB.ff rfl ?_ | refine LetB.dect (by omega) ?_ | refine LetB.bnef (by omega) ?_) | (refine Gd.pre ?_; first | refine Gd.run rfl ?_) | (refine Br.pre ?_; first | refine Br.tt rfl ?_ | refine Br.ff rfl ?_) | (refine Ck.pre ?_; first | refine Ck.drawn (by kernel_rfl) ?_ | refine Ck.mk rfl ?_) | (refine LetL.pre ?_; first | refine LetL.mk [_] rfl ?_) | (refine CallN.pre ?_; first | refine CallN.pure hT rfl rfl ?_ | refine CallN.lend hI rfl (.same rfl (.clo (.ptr rfl rfl rfl .nil) .nil)) ?_) | ((refine YieldN.own id hyi (by rw [hps]; rfl) (CallOk.mk' rfl rfl rfl rfl rfl rfl ⟨rfl, rfl, rfl, trivial⟩) ?_))))); (try (conv => whnf)))





  refine LoopN.weak ?sw5 hnx
  case sw5 => exact SW.mk id rfl rfl rfl ⟨.refl _, .refl _, .refl _, .refl _, .refl _, VLe2.int (by omega), trivial⟩ (haveV.row rfl rfl (haveV.row rfl rfl (haveV.row rfl rfl trivial)))
set_option maxHeartbeats 1600000 in
set_option maxRecDepth 100000 in
theorem credits_f (l : List E) (s : Sc.Scl) (st a t : Int) (hl : l.length < 40) (ht : 0 ≤ t ∧ t ≤ 1000) (ho : ∀ e ∈ l, Dt.okW e.on_) : AFun Try.prog 37 0 [recA l s st a, int t] [] (.tup [int (crP s (grdP l st a t)).1, int (crP s (grdP l st a t)).2]) [] := by
  refine AFun.of_W T_ok mixed Try.func37 rfl (Nat.le_of_ble_eq_true rfl) rfl ?_
  have hG := grades_f l s st a t
  ((repeat ((conv => whnf); (first | (refine LetN.pre ?_; first | ((conv => arg 1; whnf); refine LetN.mk ?_)) | (refine As.pre ?_; first | refine As.mk rfl ?_) | (refine LetV.pre ?_; first | refine LetV.mk (.agg _) rfl ?_) | (refine Ck.pre ?_; first | refine Ck.mk rfl ?_) | (refine CallN.pre ?_; first | refine CallN.pure hG rfl rfl ?_)))); (try (conv => whnf)))


  refine RfN.iter (r := { v := .tup [], D := [0, 1, 2], δ := [(0, some (.row 6 rty [recA l s st a])), (1, some (.row 1 3 [int (crP s (grdP l st a t)).1])), (2, some (.row 1 3 [int (crP s (grdP l st a t)).2]))] }) [2, 4, 5] (Nat.le_of_ble_eq_true rfl) rfl rfl (by kernel_rfl) (fun lp rc h1 h2 h3 h4 h5 h6 => ?it) rfl ?sol rfl ?rest
  case it =>
    refine ACalls.of_fun id (gradesC_f l s st a t hl ht ho lp rc (by rw [h1]; rfl) [2, 4, 5] fun p f x n => ?_) (CallOk.mk' rfl rfl rfl rfl rfl rfl ⟨rfl, rfl, rfl, trivial⟩)
    have hP := Sc.Passed_f s x.grade
    obtain ⟨xe, xb, xg, xv⟩ := x
    refine yield_of_V T_ok mixed h1 h2 h3 h4 h5 h6 rfl rfl rfl (crSol l s st a p f) rfl ?_
    ((repeat ((conv => whnf); (first | (refine LetN.pre ?_; first | ((conv => arg 1; whnf); refine LetN.mk ?_)) | (refine As.pre ?_; first | refine As.mk rfl ?_) | (refine Ck.pre ?_; first | refine Ck.mk rfl ?_) | (refine LetL.pre ?_; first | refine LetL.mk [_] rfl ?_)))); (try (conv => whnf)))
    refine ⟨rfl, ?_⟩
    cases xv with
    | true =>
      ((repeat ((conv => whnf); (first | (refine LetN.pre ?_; first | ((conv => arg 1; whnf); refine LetN.mk ?_)) | (refine As.pre ?_; first | refine As.mk rfl ?_) | (refine LetV.pre ?_; first | refine LetV.mk (.sc (.int _ _)) rfl ?_ | refine LetV.mk (.sc (.bool _)) rfl ?_) | (refine LetI.pre ?_; first | refine LetI.mk (o := some .add) _ rfl ?_) | (refine Gd.pre ?_; first | refine Gd.pass rfl ?_) | (refine Br.pre ?_; first | refine Br.ff rfl ?_) | (refine Ck.pre ?_; first | refine Ck.mk rfl ?_) | (refine LetL.pre ?_; first | refine LetL.mk [_] rfl ?_)))); (try (conv => whnf)))
      exact ⟨rfl, ⟨[], crH (recA l s st a) p (IntKind.i64.wrap (f + n)), 3⟩, SW.mk id rfl rfl rfl trivial (haveV.row rfl rfl (haveV.row rfl rfl (haveV.row rfl rfl trivial))), rfl⟩
    | false =>
      by_cases hr : Sc.rea s xg s.2.2
      · have e : crS s (p, f) (⟨xe, xb, xg, false⟩, n) = (IntKind.i64.wrap (p + n), f) := by unfold crS psB; rw [decide_eq_true hr]; rfl
        rw [e]
        rw [decide_eq_true hr] at hP
        ((repeat ((conv => whnf); (first | (refine LetN.pre ?_; first | ((conv => arg 1; whnf); refine LetN.mk ?_)) | (refine As.pre ?_; first | refine As.mk rfl ?_) | (refine LetV.pre ?_; first | refine LetV.mk (.sc (.int _ _)) rfl ?_ | refine LetV.mk (.sc (.bool _)) rfl ?_ | refine LetV.mk (.agg _) rfl ?_) | (refine LetI.pre ?_; first | refine LetI.mk (o := some .add) _ rfl ?_) | (refine Gd.pre ?_; first | refine Gd.run rfl ?_) | (refine Br.pre ?_; first | refine Br.tt rfl ?_) | (refine Ck.pre ?_; first | refine Ck.mk rfl ?_) | (refine LetL.pre ?_; first | refine LetL.mk [_] rfl ?_) | (refine CallN.pre ?_; first | refine CallN.pure hP rfl rfl ?_)))); (try (conv => whnf)))
        exact ⟨rfl, ⟨[], crH (recA l s st a) (IntKind.i64.wrap (p + n)) f, 3⟩, SW.mk id rfl rfl rfl trivial (haveV.row rfl rfl (haveV.row rfl rfl (haveV.row rfl rfl trivial))), rfl⟩
      · have e : crS s (p, f) (⟨xe, xb, xg, false⟩, n) = (p, IntKind.i64.wrap (f + n)) := by unfold crS psB; rw [decide_eq_false hr]; rfl
        rw [e]
        rw [decide_eq_false hr] at hP
        ((repeat ((conv => whnf); (first | (refine LetN.pre ?_; first | ((conv => arg 1; whnf); refine LetN.mk ?_)) | (refine As.pre ?_; first | refine As.mk rfl ?_) | (refine LetV.pre ?_; first | refine LetV.mk (.sc (.int _ _)) rfl ?_ | refine LetV.mk (.sc (.bool _)) rfl ?_ | refine LetV.mk (.agg _) rfl ?_) | (refine LetI.pre ?_; first | refine LetI.mk (o := some .add) _ rfl ?_) | (refine Gd.pre ?_; first | refine Gd.run rfl ?_) | (refine Br.pre ?_; first | refine Br.ff rfl ?_) | (refine Ck.pre ?_; first | refine Ck.mk rfl ?_) | (refine LetL.pre ?_; first | refine LetL.mk [_] rfl ?_) | (refine CallN.pre ?_; first | refine CallN.pure hP rfl rfl ?_)))); (try (conv => whnf)))
        exact ⟨rfl, ⟨[], crH (recA l s st a) p (IntKind.i64.wrap (f + n)), 3⟩, SW.mk id rfl rfl rfl trivial (haveV.row rfl rfl (haveV.row rfl rfl (haveV.row rfl rfl trivial))), rfl⟩
  case sol => exact crSol l s st a _ _
  case rest =>
    generalize crP s (grdP l st a t) = R
    ((repeat ((conv => whnf); (first | (refine LetN.pre ?_; first | ((conv => arg 1; whnf); refine LetN.mk ?_)) | (refine As.pre ?_; first | refine As.mk rfl ?_) | (refine LetV.pre ?_; first | refine LetV.mk (.sc (.int _ _)) rfl ?_) | (refine Ck.pre ?_; first | refine Ck.drawn (by kernel_rfl) ?_ | refine Ck.mk rfl ?_) | (refine LetL.pre ?_; first | refine LetL.mk [_] rfl ?_)))); (try (conv => whnf)))
    exact ⟨.inl rfl, ⟨_, rfl, rfl⟩, trivial⟩
end En
end Go.Proofs.Ytnegdmjmllmclaa
namespace Go.Proofs.Ytnegdmjmllmclaa
open Go.Proofs.Ytnegdmjmllmclaa.Am
set_option maxRecDepth 100000
namespace En
/-! ### How a student stands -/
def stdS (q : Int × Int) (x : Int) : Int := if q.2 ≤ q.1 then 1 else if x ≥ 2 then 3 else 2
/-- The states from the first term on. -/
def stdL (l : List E) (s : Sc.Scl) (st a f : Int) : Nat → Int
  | 0 => 0
  | k + 1 => stdS (crP s (grdP l st a (f + k))) (stdL l s st a f k)
abbrev fstP (l : List E) (st a : Int) : Int := max (minP (trmP l st a)) 0
def stdP (l : List E) (s : Sc.Scl) (st a t : Int) : Int :=
  if trmP l st a = [] ∨ endP t a = false ∨ minP (trmP l st a) > t then 0 else stdL l s st a (fstP l st a) (t - fstP l st a + 1).toNat
abbrev snS (rec : AV) (f : Int) (n : Nat) : Nat × Int → AS
  | (k, x) => ⟨[(11, .ptr 0 6 0 0), (12, int f), (15, int x), (50, int n), (51, int k)], [(0, .row 6 rty [rec])], 1⟩
set_option maxHeartbeats 1600000 in
set_option maxRecDepth 100000 in
theorem Standing_f (l : List E) (s : Sc.Scl) (st a t : Int) (hl : l.length < 40) (ho : ∀ e ∈ l, Dt.okW e.on_) : AFun Try.prog 17 0 [.ro {} 15 (l.map en), Sc.scA s, int st, int a, int t] [] (int (stdP l s st a t)) [] := by
  have hT := Terms_f l st a {} (by omega) ho
  have hE := ended_f l s st a t
  refine AFun.of_W T_ok mixed Try.func17 rfl (Nat.le_of_ble_eq_true rfl) rfl ?_
  unfold stdP fstP
  by_cases h0 : trmP l st a = []
  · rw [if_pos (.inl h0)]
    rw [decide_eq_false (fun h => h h0)] at hT
    ((repeat ((conv => whnf); (first | (refine LetN.pre ?_; first | ((conv => arg 1; whnf); refine LetN.mk ?_)) | (refine As.pre ?_; first | refine As.mk rfl ?_) | (refine LetV.pre ?_; first | refine LetV.mk (.agg _) rfl ?_) | (refine Gd.pre ?_; first | refine Gd.pass rfl ?_) | (refine Br.pre ?_; first | refine Br.tt rfl ?_) | (refine Ck.pre ?_; first | refine Ck.mk rfl ?_) | (refine LetL.pre ?_; first | refine LetL.mk (ty := rty) [.agg [_, _, _, _, _, _]] rfl ?_) | (refine CallN.pre ?_; first | refine CallN.pure hT rfl rfl ?_)))); (try (conv => whnf)))
    exact ⟨.inl rfl, ⟨_, rfl, rfl⟩, trivial⟩
  rw [decide_eq_true h0] at hT
  generalize hmn : minP (trmP l st a) = mn at hT
  generalize maxP (trmP l st a) = mx at hT
  cases he : endP t a with
  | false =>
    rw [if_pos (.inr (.inl rfl))]
    rw [he] at hE
    ((repeat ((conv => whnf); (first | (refine LetN.pre ?_; first | ((conv => arg 1; whnf); refine LetN.mk ?_)) | (refine As.pre ?_; first | refine As.mk rfl ?_) | (refine LetV.pre ?_; first | refine LetV.mk (.agg _) rfl ?_) | (refine Gd.pre ?_; first | refine Gd.run rfl ?_ | refine Gd.pass rfl ?_) | (refine Br.pre ?_; first | refine Br.tt rfl ?_) | (refine Ck.pre ?_; first | refine Ck.mk rfl ?_) | (refine LetL.pre ?_; first | refine LetL.mk (ty := rty) [.agg [_, _, _, _, _, _]] rfl ?_) | (refine CallN.pre ?_; first | refine CallN.pure hT rfl rfl ?_ | refine CallN.pure hE rfl rfl ?_)))); (try (conv => whnf)))
    exact ⟨.inl rfl, ⟨_, rfl, rfl⟩, trivial⟩
  | true =>
    rw [he] at hE
    have het := of_decide_eq_true he
    by_cases hm : mn > t
    · rw [if_pos (.inr (.inr hm))]
      ((repeat ((conv => whnf); (first | (refine LetN.pre ?_; first | ((conv => arg 1; whnf); refine LetN.mk ?_)) | (refine As.pre ?_; first | refine As.mk rfl ?_) | (refine LetV.pre ?_; first | refine LetV.mk (.agg _) rfl ?_) | (refine LetB.pre ?_; first | refine LetB.dect (by omega) ?_) | (refine Gd.pre ?_; first | refine Gd.run rfl ?_) | (refine Br.pre ?_; first | refine Br.tt rfl ?_) | (refine Ck.pre ?_; first | refine Ck.mk rfl ?_) | (refine LetL.pre ?_; first | refine LetL.mk (ty := rty) [.agg [_, _, _, _, _, _]] rfl ?_) | (refine CallN.pre ?_; first | refine CallN.pure hT rfl rfl ?_ | refine CallN.pure hE rfl rfl ?_)))); (try (conv => whnf)))
      exact ⟨.inl rfl, ⟨_, rfl, rfl⟩, trivial⟩
    rw [if_neg (by rintro (h | h | h); exact h0 h; cases h; exact hm h)]
    obtain ⟨f, hf⟩ : ∃ f, f = max mn 0 := ⟨_, rfl⟩
    rw [← hf]
    obtain ⟨n, hn⟩ : ∃ n, n = (t - f + 1).toNat := ⟨_, rfl⟩
    rw [← hn]
    have hfr : 0 ≤ f ∧ f ≤ t := by omega
    have hmax : f = (if mn < 0 then 0 else mn) := by split <;> omega
    ((repeat ((conv => whnf); (first | (refine LetN.pre ?_; first | ((conv => arg 1; whnf); refine LetN.mk ?_)) | (refine As.pre ?_; first | refine As.mk rfl ?_) | (refine LetV.pre ?_; first | refine LetV.mk (.agg _) rfl ?_) | (refine LetI.pre ?_; first | refine LetI.mk (o := none) f hf ?_ | refine LetI.wrap (by omega) (by omega) ?_) | (refine LetB.pre ?_; first | refine LetB.decf (by omega) ?_) | (refine Gd.pre ?_; first | refine Gd.run rfl ?_) | (refine Br.pre ?_; first | refine Br.ff rfl ?_) | (refine Ck.pre ?_; first | refine Ck.mk rfl ?_) | (refine LetL.pre ?_; first | refine LetL.mk (ty := rty) [.agg [_, _, _, _, _, _]] rfl ?_) | (refine CallN.pre ?_; first | refine CallN.pure hT rfl rfl ?_ | refine CallN.pure hE rfl rfl ?_)))); (try (conv => whnf)))
    refine LoopN.weak (s1 := snS (recA l s st a) f n (0, 0)) ?sw1 ?_
    case sw1 => exact SW.mk (fun _ => 1) rfl rfl rfl ⟨.refl _, VLe2.int (by first | rfl | omega), .refl _, VLe2.int (by omega), .refl _, trivial⟩ (haveV.row rfl rfl trivial)
    clear hT hE hmn hmax
    refine LoopN.ind T_ok mixed (S := snS (recA l s st a) f n) (fun i => n - i.1) (fun i => i.1 ≤ n ∧ i.2 = stdL l s st a f i.1 ∧ 0 ≤ i.2 ∧ i.2 ≤ 3) (fun _ => rfl) (fun i hi ih => ?_) (0, 0) ⟨Nat.zero_le _, rfl, by decide, by decide⟩
    obtain ⟨k, x⟩ := i
    obtain ⟨h1, h2, h3⟩ := hi
    simp only at h1 h2 h3
    by_cases hlt : k < n
    case neg =>
      have : k = n := by omega
      subst this
      clear ih
      rw [← h2]
      ((repeat ((conv => whnf); (first | (refine As.pre ?_; first | refine As.mk rfl ?_) | (refine LetB.pre ?_; first | refine LetB.decf (by omega) ?_) | (refine Br.pre ?_; first | refine Br.ff rfl ?_) | (refine Ck.pre ?_; first | refine Ck.mk rfl ?_)))); (try (conv => whnf)))
      exact ⟨.inl rfl, ⟨_, rfl, rfl⟩, trivial⟩
    have hC := credits_f l s st a (f + k) hl (by omega) ho
    have hx2 : stdL l s st a f (k + 1) = stdS (crP s (grdP l st a (f + k))) x := by rw [stdL, ← h2]
    generalize crP s (grdP l st a (f + k)) = q at hC hx2
    obtain ⟨p, b⟩ := q
    have hfk : f + (k : Int) = IntKind.i64.wrap (f + (k : Int)) := (wrap_id (by omega) (by omega)).symm
    clear h2
    unfold stdS at hx2
    by_cases hc : b ≤ p
    · rw [if_pos hc] at hx2
      have hnx := ih (k + 1, 1) ⟨by show k + 1 ≤ n; omega, hx2.symm, by dsimp only; omega, by dsimp only; omega⟩ (by show n - (k + 1) < n - k; omega)
      clear ih hx2
      ((repeat ((conv => whnf); (first | (refine As.pre ?_; first | refine As.mk rfl ?_) | (refine LetV.pre ?_; first | refine LetV.mk (.agg _) rfl ?_) | (refine LetI.pre ?_; first | refine LetI.mk (o := some .add) (f + (k : Int)) hfk ?_ | refine LetI.wrap (by omega) (by omega) ?_) | (refine LetB.pre ?_; first | refine LetB.dect (by omega) ?_) | (refine Br.pre ?_; first | refine Br.tt rfl ?_) | (refine Ck.pre ?_; first | refine Ck.mk rfl ?_) | (refine CallN.pre ?_; first | refine CallN.pure hC rfl rfl ?_)))); (try (conv => whnf)))
      refine LoopN.weak ?sw2 hnx
      case sw2 => exact SW.mk id rfl rfl rfl ⟨.refl _, .refl _, .refl _, .refl _, VLe2.int (by omega), trivial⟩ (haveV.row rfl rfl trivial)
    · rw [if_neg hc] at hx2
      by_cases hw : x ≥ 2
      · rw [if_pos hw] at hx2
        have hnx := ih (k + 1, 3) ⟨by show k + 1 ≤ n; omega, hx2.symm, by dsimp only; omega, by dsimp only; omega⟩ (by show n - (k + 1) < n - k; omega)
        clear ih hx2
        ((repeat ((conv => whnf); (first | (refine As.pre ?_; first | refine As.mk rfl ?_) | (refine LetV.pre ?_; first | refine LetV.mk (.agg _) rfl ?_) | (refine LetI.pre ?_; first | refine LetI.mk (o := some .add) (f + (k : Int)) hfk ?_ | refine LetI.wrap (by omega) (by omega) ?_) | (refine LetB.pre ?_; first | refine LetB.dect (by omega) ?_ | refine LetB.decf (by omega) ?_) | (refine Br.pre ?_; first | refine Br.tt rfl ?_ | refine Br.ff rfl ?_) | (refine Ck.pre ?_; first | refine Ck.mk rfl ?_) | (refine CallN.pre ?_; first | refine CallN.pure hC rfl rfl ?_)))); (try (conv => whnf)))
        refine LoopN.weak ?sw3 hnx
        case sw3 => exact SW.mk id rfl rfl rfl ⟨.refl _, .refl _, .refl _, .refl _, VLe2.int (by omega), trivial⟩ (haveV.row rfl rfl trivial)
      · rw [if_neg hw] at hx2
        have hnx := ih (k + 1, 2) ⟨by show k + 1 ≤ n; omega, hx2.symm, by dsimp only; omega, by dsimp only; omega⟩ (by show n - (k + 1) < n - k; omega)
        clear ih hx2
        ((repeat ((conv => whnf); (first | (refine As.pre ?_; first | refine As.mk rfl ?_) | (refine LetV.pre ?_; first | refine LetV.mk (.agg _) rfl ?_) | (refine LetI.pre ?_; first | refine LetI.mk (o := some .add) (f + (k : Int)) hfk ?_ | refine LetI.wrap (by omega) (by omega) ?_) | (refine LetB.pre ?_; first | refine LetB.dect (by omega) ?_ | refine LetB.decf (by omega) ?_) | (refine Br.pre ?_; first | refine Br.tt rfl ?_ | refine Br.ff rfl ?_) | (refine Ck.pre ?_; first | refine Ck.mk rfl ?_) | (refine CallN.pre ?_; first | refine CallN.pure hC rfl rfl ?_)))); (try (conv => whnf)))
        refine LoopN.weak ?sw4 hnx
        case sw4 => exact SW.mk id rfl rfl rfl ⟨.refl _, .refl _, .refl _, .refl _, VLe2.int (by omega), trivial⟩ (haveV.row rfl rfl trivial)
theorem std_end {l : List E} {s : Sc.Scl} {st a t : Int} (h : stdP l s st a t = 1) : 0 ≤ t ∧ t ≤ 1000 := by
  unfold stdP at h
  split at h
  · cases h
  · rename_i hn
    have : endP t a = true := by
      cases he : endP t a with
      | true => rfl
      | false => exact absurd (.inr (.inl he)) hn
    have := of_decide_eq_true this
    omega
def stiP (l : List E) (s : Sc.Scl) (st a t : Int) : Bool := decide (stdP l s st a t = 1 ∧ 20 ≤ (crP s (grdP l st a t)).1)
set_option maxRecDepth 100000 in
theorem Stipend_f (l : List E) (s : Sc.Scl) (st a t : Int) (hl : l.length < 40) (ho : ∀ e ∈ l, Dt.okW e.on_) : AFun Try.prog 19 0 [.ro {} 15 (l.map en), Sc.scA s, int st, int a, int t] [] (bool (stiP l s st a t)) [] := by
  have hS := Standing_f l s st a t hl ho
  refine AFun.of_W T_ok mixed Try.func19 rfl (Nat.le_of_ble_eq_true rfl) rfl ?_
  unfold stiP
  by_cases h1 : stdP l s st a t = 1
  · have hC := credits_f l s st a t hl (std_end h1) ho
    rw [h1] at hS
    generalize crP s (grdP l st a t) = q at hC ⊢
    obtain ⟨p, f⟩ := q
    have hd : decide (stdP l s st a t = 1 ∧ 20 ≤ p) = decide (p ≥ 20) := by rw [h1]; simp
    rw [hd]
    ((repeat ((conv => whnf); (first | (refine LetN.pre ?_; first | ((conv => arg 1; whnf); refine LetN.mk ?_)) | (refine As.pre ?_; first | refine As.mk rfl ?_) | (refine LetV.pre ?_; first | refine LetV.mk (.agg _) rfl ?_) | (refine LetB.pre ?_; first | refine LetB.ff rfl ?_ | refine LetB.mk _ rfl ?_) | (refine Br.pre ?_; first | refine Br.ff rfl ?_) | (refine Ck.pre ?_; first | refine Ck.mk rfl ?_) | (refine CallN.pre ?_; first | refine CallN.pure hS rfl rfl ?_ | refine CallN.pure hC rfl rfl ?_)))); (try (conv => whnf)))
    exact ⟨.inl rfl, ⟨_, rfl, rfl⟩, trivial⟩
  · rw [decide_eq_false (fun h => h1 h.1)]
    generalize stdP l s st a t = x at hS h1
    ((repeat ((conv => whnf); (first | (refine LetN.pre ?_; first | ((conv => arg 1; whnf); refine LetN.mk ?_)) | (refine As.pre ?_; first | refine As.mk rfl ?_) | (refine LetV.pre ?_; first | refine LetV.mk (.agg _) rfl ?_) | (refine LetB.pre ?_; first | refine LetB.bnet (by omega) ?_) | (refine Br.pre ?_; first | refine Br.tt rfl ?_) | (refine Ck.pre ?_; first | refine Ck.mk rfl ?_) | (refine CallN.pre ?_; first | refine CallN.pure hS rfl rfl ?_)))); (try (conv => whnf)))
    exact ⟨.inl rfl, ⟨_, rfl, rfl⟩, trivial⟩
end En
end Go.Proofs.Ytnegdmjmllmclaa
namespace Go.Proofs.Ytnegdmjmllmclaa.Am
open Go
/-- A box that holds one cell, told with less. -/
theorem SW.box {p n id : Nat} {s : AS} {ty : TypeId} {x y : AV} (h : s.H.get id = some (.row 1 ty [x])) (hx : x.cells = [x]) (hy : y.cells = [y]) (hle : CLe x y) : SW p n s ⟨s.fr, s.H.set id (.row 1 ty [y]), s.nx⟩ := fun w g a hs => by
  have hg : ∀ j B, (s.H.set id (.row 1 ty [y])).get j = some B → (j = id ∧ B = .row 1 ty [y]) ∨ (j ≠ id ∧ s.H.get j = some B) := fun j B hj => by
    rw [AH.get_set] at hj
    split at hj
    · rename_i e; injection hj with hj; exact .inl ⟨e, hj.symm⟩
    · rename_i e; exact .inr ⟨e, hj⟩
  have hex : ∀ j B, (s.H.set id (.row 1 ty [y])).get j = some B → ∃ B', s.H.get j = some B' := fun j B hj => by
    rcases hg j B hj with ⟨rfl, _⟩ | ⟨_, h⟩
    · exact ⟨_, by assumption⟩
    · exact ⟨_, h⟩
  refine ⟨g, ⟨fun _ _ => rfl, fun _ h => ⟨h, rfl⟩, fun _ cs _ _ h => ⟨cs, h, rfl⟩, Ext.refl w g s.H, fun j B b E hi hb _ => ?_, fun _ h _ => .inl h⟩, ⟨hs.fr, ⟨fun j B hj => ?_, fun i j b E E' A B hi hj h1 h2 => ?_, fun i b E B hi h1 => ?_, hs.H.lt⟩, hs.nx⟩⟩
  · obtain ⟨B', hB⟩ := hex j B hi
    exact ⟨j, B', E, hB, hb⟩
  · rcases hg j B hj with ⟨rfl, rfl⟩ | ⟨_, h⟩
    · obtain ⟨h0, hr⟩ := hs.H.rel _ _ h
      refine ⟨fun e he => by rw [List.mem_singleton.1 he, hy]; rfl, ?_⟩
      rcases hr with ⟨_, h2⟩ | ⟨b, cs, h1, h2, h3, h4⟩
      · cases h2
      · refine .inr ⟨b, cs, h1, h2, h3, fun i k e c hi hk => ?_⟩
        cases i with
        | zero =>
          simp only [List.getElem?_cons_zero, Option.some.injEq] at hi
          subst hi
          rw [hy] at hk
          cases k with
          | zero =>
            simp only [List.getElem?_cons_zero, Option.some.injEq] at hk
            subst hk
            obtain ⟨z, hz, hc⟩ := h4 0 0 x x rfl (by rw [hx]; rfl)
            exact ⟨z, hz, hle _ _ _ hc⟩
          | succ k => simp at hk
        | succ i => simp at hi
    · exact hs.H.rel _ _ h
  · obtain ⟨_, hA⟩ := hex i A hi
    obtain ⟨_, hB⟩ := hex j B hj
    exact hs.H.apart _ _ _ _ _ _ _ hA hB h1 h2
  · obtain ⟨_, hB⟩ := hex i B hi
    exact hs.H.imm _ _ _ _ hB h1
end Go.Proofs.Ytnegdmjmllmclaa.Am
namespace Go.Proofs.Ytnegdmjmllmclaa
open Go.Proofs.Ytnegdmjmllmclaa.Am
set_option maxRecDepth 100000
namespace En
/-! ### The mean of a term -/
abbrev ilty : TypeId := 22
abbrev bxS (id n : Nat) : Blk := .row 1 ilty [.slm {} id 1 0 n]
abbrev meH (gs cs : List Int) : AH := [(0, bxS 2 gs.length), (1, bxS 3 cs.length), (2, .row 1 3 (gs.map int)), (3, .row 1 3 (cs.map int))]
abbrev meC : List AV := [.ptr 0 1 0 0, .ptr 1 1 0 0]
def meS (q : List Int × List Int) (x : St × Int) : List Int × List Int := if x.1.void then q else (q.1 ++ [x.1.grade], q.2 ++ [x.2])
def meP (L : List (St × Int)) : List Int × List Int := L.foldl meS ([], [])
theorem meS_len (p f : List Int) (x : St) (n : Int) : (meS (p, f) (x, n)).1.length ≤ p.length + 1 ∧ (meS (p, f) (x, n)).2.length ≤ f.length + 1 := by
  unfold meS
  split
  · exact ⟨by simp, by simp⟩
  · exact ⟨by simp, by simp⟩
theorem meN (gs cs : List Int) (ok : Nat → Bool) (h2 : ok 2 = true) (h3 : ok 3 = true) : namesAll ok (meH gs cs) = true := by
  have h : namesAll ok [(2, .row 1 3 (gs.map int)), (3, .row 1 3 (cs.map int))] = true := namesAll.row (pure_int _) (namesAll.row (pure_int _) rfl)
  rw [namesAll, namesAll, h]
  simp only [Blk.names, AV.namesL, AV.names, h2, h3]; rfl
theorem meV {Hc : AH} {nx : Nat} {gs cs : List Int} (h0 : Hc.get 0 = some (bxS 2 gs.length)) (h1 : Hc.get 1 = some (bxS 3 cs.length)) (h2 : Hc.get 2 = some (.row 1 3 (gs.map int))) (h3 : Hc.get 3 = some (.row 1 3 (cs.map int))) : haveV id Hc nx (meH gs cs) :=
  haveV.one h0 (haveV.one h1 (haveV.row (pure_int _) h2 (haveV.row (pure_int _) h3 trivial)))
theorem meA {Hc : AH} {gs cs : List Int} (h0 : Hc.get 0 = some (bxS 2 gs.length)) (h1 : Hc.get 1 = some (bxS 3 cs.length)) (h2 : Hc.get 2 = some (.row 1 3 (gs.map int))) (h3 : Hc.get 3 = some (.row 1 3 (cs.map int))) : haveAll id Hc (meH gs cs) :=
  ⟨h0, h1, haveAll.row (pure_int _) h2 (haveAll.row (pure_int _) h3 trivial)⟩
abbrev meT (gs cs : List Int) : AH := [(0, bxS 4 gs.length), (1, bxS 5 cs.length), (4, .row 1 3 (gs.map int)), (5, .row 1 3 (cs.map int))]
theorem mtN (gs cs : List Int) (ok : Nat → Bool) (h2 : ok 4 = true) (h3 : ok 5 = true) : namesAll ok (meT gs cs) = true := by
  have h : namesAll ok [(4, .row 1 3 (gs.map int)), (5, .row 1 3 (cs.map int))] = true := namesAll.row (pure_int _) (namesAll.row (pure_int _) rfl)
  rw [namesAll, namesAll, h]
  simp only [Blk.names, AV.namesL, AV.names, h2, h3]; rfl
theorem mtV (ρ : Nat → Nat) {Hc : AH} {nx : Nat} {gs cs : List Int} (h0 : Hc.get (ρ 0) = some (bxS (ρ 4) gs.length)) (h1 : Hc.get (ρ 1) = some (bxS (ρ 5) cs.length)) (h2 : Hc.get (ρ 4) = some (.row 1 3 (gs.map int))) (h3 : Hc.get (ρ 5) = some (.row 1 3 (cs.map int))) : haveV ρ Hc nx (meT gs cs) :=
  haveV.one h0 (haveV.one h1 (haveV.row (pure_int _) h2 (haveV.row (pure_int _) h3 trivial)))
def ro7 : Nat → Nat | 2 => 4 | 3 => 5 | 4 => 7 | 5 => 8 | i => i
theorem mtA {Hc : AH} {gs cs : List Int} (h0 : Hc.get 0 = some (bxS 4 gs.length)) (h1 : Hc.get 1 = some (bxS 5 cs.length)) (h2 : Hc.get 4 = some (.row 1 3 (gs.map int))) (h3 : Hc.get 5 = some (.row 1 3 (cs.map int))) : haveAll ro7 Hc (meH gs cs) :=
  ⟨h0, h1, haveAll.row (pure_int _) h2 (haveAll.row (pure_int _) h3 trivial)⟩
def ro4 : Nat → Nat | 4 => 2 | 5 => 3 | i => i
def ro6 : Nat → Nat | 4 => 7 | 5 => 8 | i => i
def ro5 : Nat → Nat | 4 => 5 | 5 => 6 | i => i
theorem solid_int : ∀ l : List Int, AV.solidL (l.map int) = true
  | [] => rfl
  | p :: l => by simp only [List.map_cons, AV.solidL, solid_int l]; rfl
theorem meSol (gs cs : List Int) : solidH (meH gs cs) = true := solidH.row rfl (solidH.row rfl (solidH.row (solid_int _) (solidH.row (solid_int _) rfl)))
abbrev mgS (A : List St) (rec : AV) (t : Int) (y : AV) : Nat × List Int × List Int → AS
  | (j, p, f) => ⟨[(0, y), (1, .rp rec 0), (2, .rp (int t) 0), (13, .ro {} 4 (A.map stA)), (14, int A.length), (15, int j)], meT p f, 6⟩
set_option maxHeartbeats 1600000 in
set_option maxRecDepth 100000 in
theorem gradesM_f (l : List E) (s : Sc.Scl) (st a t : Int) (hl : l.length < 40) (ht : 0 ≤ t ∧ t ≤ 1000) (ho : ∀ e ∈ l, Dt.okW e.on_) (lp : Nat) (rc : Loop) (hps : rc.params.size = 2) (ks : List Nat)
    (hy : ∀ (p f : List Int) (x : St) (n : Int), p.length ≤ 40 → f.length ≤ 40 → AFunC (CY Try.prog lp rc) 4 [.yl lp rc ks meC, stA x, int n] (meH p f) (bool true) (meT (meS (p, f) (x, n)).1 (meS (p, f) (x, n)).2)) :
    AFun Try.prog 57 4 [.yl lp rc ks meC, .rp (recA l s st a) 0, .rp (int t) 0] (meH [] []) (.tup []) (meT (meP (grdP l st a t)).1 (meP (grdP l st a t)).2) := by
  refine AFun.of_S T_ok mixed Try.func57 rfl (Nat.le_of_ble_eq_true rfl) rfl ?_
  have hL := Dt.Last_f t (by omega)
  have hA := At_f l a (100 * t + 99) {} hl
  have hlen := atP_len (l := l) a (100 * t + 99)
  rw [grdP]
  generalize atP l a (100 * t + 99) = A at hA hlen ⊢
  have hml : (l.map en).length = l.length := List.length_map _
  have hmA : (A.map stA).length = A.length := List.length_map _
  generalize hR : meP (A.filterMap (gsel l st t)) = R
  have hrec : AV.namesL (fun _ => false) [recA l s st a] = true := rfl
  ((repeat ((conv => whnf); (first | (refine As.pre ?_; first | refine As.mk rfl ?_) | (refine LetV.pre ?_; first | refine LetV.mk (.sc (.int _ _)) rfl ?_ | refine LetV.mk (.ro _ _ _) rfl ?_) | (refine LetI.pre ?_; first | refine LetI.mk _ rfl ?_) | (refine Ck.pre ?_; first | refine Ck.drawn (by kernel_rfl) ?_ | refine Ck.mk rfl ?_) | (refine CallN.pre ?_; first | refine CallN.pure hL rfl rfl ?_ | refine CallN.pure hA rfl rfl ?_)))); (try (conv => whnf)))
  refine LoopN.weak (s1 := mgS A (recA l s st a) t (.yl lp rc ks meC) (0, [], [])) ?sw1 ?_
  case sw1 => exact SW.mk ro4 rfl rfl (mtN _ _ _ rfl rfl) ⟨.refl _, .refl _, .refl _, .refl _, VLe2.int (by rw [hmA]), .refl _, trivial⟩ (mtV ro4 rfl rfl rfl rfl)
  clear hL hA
  refine LoopN.ind T_ok mixed (S := mgS A (recA l s st a) t (.yl lp rc ks meC)) (fun i => A.length - i.1) (fun i => i.1 ≤ A.length ∧ (i.2.1.length ≤ i.1 ∧ i.2.2.length ≤ i.1) ∧ i.2 = meP ((A.take i.1).filterMap (gsel l st t))) (fun _ => rfl) (fun i hi ih => ?_) (0, [], []) ⟨Nat.zero_le _, ⟨Nat.zero_le _, Nat.zero_le _⟩, rfl⟩
  obtain ⟨j, p, f⟩ := i
  obtain ⟨h1, hb, h2⟩ := hi
  simp only at h1 hb h2
  by_cases hlt : j < A.length
  case neg =>
    clear ih hy
    rw [List.take_of_length_le (by omega), hR] at h2
    subst h2
    ((repeat ((conv => whnf); (first | (refine As.pre ?_; first | refine As.mk rfl ?_) | (refine LetB.pre ?_; first | refine LetB.decf (by omega) ?_) | (refine Br.pre ?_; first | refine Br.ff rfl ?_) | (refine Ck.pre ?_; first | refine Ck.mk rfl ?_)))); (try (conv => whnf)))
    exact ⟨⟨[], meT p f, 6⟩, SW.mk id rfl rfl (mtN _ _ _ rfl rfl) trivial (mtV id rfl rfl rfl rfl), .inr rfl, ⟨_, rfl, rfl⟩, rfl, rfl, rfl, rfl, trivial⟩
  have hld := stD hlt
  have hq : meP ((A.take (j + 1)).filterMap (gsel l st t)) = ((gsel l st t (A.getD j ⟨0, 0, 0, false⟩)).toList).foldl (meS) (p, f) := by
    rw [fm_succ _ hlt ⟨0, 0, 0, false⟩, meP, List.foldl_append, h2]; rfl
  clear h2 hR
  generalize A.getD j ⟨0, 0, 0, false⟩ = x at hld hq
  have hI := IndexG_f l x {} (by omega)
  have hflt := fidx_lt (isG x.entry) l 0
  generalize hgx : gsel l st t x = gx at hq
  unfold gsel at hgx
  generalize fidx (isG x.entry) l 0 = k at hI hgx hflt
  by_cases hk : k < 0
  · rw [if_pos hk] at hgx
    subst hgx
    have hnx := ih (j + 1, p, f) ⟨by show j + 1 ≤ A.length; omega, by dsimp only; omega, hq.symm⟩ (by show A.length - (j + 1) < A.length - j; omega)
    clear ih hq hy
    ((repeat ((conv => whnf); (first | (refine LetN.pre ?_; first | ((conv => arg 1; whnf); refine LetN.mk ?_)) | (refine As.pre ?_; first | refine As.mk rfl ?_ | (refine As.mk ?_ ?_; · ((repeat' (refine andT ?_ ?_)) <;> (first | rfl | assumption | exact decide_eq_true (by omega) | exact decide_eq_true (by dsimp only; omega) | exact decide_eq_true (by simp; omega) | (simp; done))))) | (refine LetV.pre ?_; first | refine LetV.mk (t := 56) _ hld ?_ | refine LetV.mk (.agg _) rfl ?_ | refine LetV.mk (.ro _ _ _) rfl ?_) | (refine LetI.pre ?_; first | refine LetI.wrap (by omega) (by omega) ?_) | (refine LetB.pre ?_; first | refine LetB.dect (by omega) ?_) | (refine Gd.pre ?_; first | refine Gd.pass rfl ?_) | (refine Br.pre ?_; first | refine Br.tt rfl ?_) | (refine Ck.pre ?_; first | refine Ck.drawn (by kernel_rfl) ?_ | refine Ck.mk rfl ?_) | (refine LetL.pre ?_; first | refine LetL.mk [_] rfl ?_) | (refine CallN.pre ?_; first | refine CallN.lend hI rfl (.same rfl (.clo (.ptr rfl rfl rfl .nil) .nil)) ?_)))); (try (conv => whnf)))


    refine LoopN.weak ?sw2 hnx
    case sw2 => exact SW.mk id rfl rfl (mtN _ _ _ rfl rfl) ⟨.refl _, .refl _, .refl _, .refl _, .refl _, VLe2.int (by omega), trivial⟩ (mtV id rfl rfl rfl rfl)
  rw [if_neg hk] at hgx
  obtain ⟨m, rfl⟩ : ∃ m : Nat, k = m := ⟨k.toNat, by omega⟩
  have hmlt : m < l.length := by omega
  simp only [Int.toNat_natCast] at hgx
  have hle := tmD hmlt
  have hoe := ho _ (getD_mem' hmlt)
  generalize l.getD m e0 = e at hle hoe hgx
  have hT := Dt.Term_f e.on_ hoe
  generalize e.on_ / 100 = t' at hT hgx
  by_cases hst : e.student = st
  case neg =>
    rw [if_neg (fun h => hst h.1)] at hgx
    subst hgx
    have hnx := ih (j + 1, p, f) ⟨by show j + 1 ≤ A.length; omega, by dsimp only; omega, hq.symm⟩ (by show A.length - (j + 1) < A.length - j; omega)
    clear ih hq hy
    ((repeat ((conv => whnf); (first | (refine LetN.pre ?_; first | ((conv => arg 1; whnf); refine LetN.mk ?_)) | (refine As.pre ?_; first | refine As.mk rfl ?_ | (refine As.mk ?_ ?_; · ((repeat' (refine andT ?_ ?_)) <;> (first | rfl | assumption | exact decide_eq_true (by omega) | exact decide_eq_true (by dsimp only; omega) | exact decide_eq_true (by simp; omega) | (simp; done))))) | (refine LetV.pre ?_; first | refine LetV.mk (t := 56) _ hld ?_ | refine LetV.mk (t := 27) _ hle ?_ | refine LetV.mk (.sc (.int _ _)) rfl ?_ | refine LetV.mk (.agg _) rfl ?_ | refine LetV.mk (.ro _ _ _) rfl ?_) | (refine LetI.pre ?_; first | refine LetI.wrap (by omega) (by omega) ?_) | (refine LetB.pre ?_; first | refine LetB.ff rfl ?_ | refine LetB.dect (by omega) ?_ | refine LetB.bnet (by omega) ?_) | (refine Gd.pre ?_; first | refine Gd.run rfl ?_ | refine Gd.pass rfl ?_) | (refine Br.pre ?_; first | refine Br.tt rfl ?_) | (refine Ck.pre ?_; first | refine Ck.drawn (by kernel_rfl) ?_ | refine Ck.mk rfl ?_) | (refine LetL.pre ?_; first | refine LetL.mk [_] rfl ?_) | (refine CallN.pre ?_; first | refine CallN.lend hI rfl (.same rfl (.clo (.ptr rfl rfl rfl .nil) .nil)) ?_)))); (try (conv => whnf)))



    refine LoopN.weak ?sw3 hnx
    case sw3 => exact SW.mk id rfl rfl (mtN _ _ _ rfl rfl) ⟨.refl _, .refl _, .refl _, .refl _, .refl _, VLe2.int (by omega), trivial⟩ (mtV id rfl rfl rfl rfl)
  by_cases htt : t' = t
  case neg =>
    rw [if_neg (fun h => htt h.2)] at hgx
    subst hgx
    have hnx := ih (j + 1, p, f) ⟨by show j + 1 ≤ A.length; omega, by dsimp only; omega, hq.symm⟩ (by show A.length - (j + 1) < A.length - j; omega)
    clear ih hq hy
    ((repeat ((conv => whnf); (first | (refine LetN.pre ?_; first | ((conv => arg 1; whnf); refine LetN.mk ?_)) | (refine As.pre ?_; first | refine As.mk rfl ?_ | (refine As.mk ?_ ?_; · ((repeat' (refine andT ?_ ?_)) <;> (first | rfl | assumption | exact decide_eq_true (by omega) | exact decide_eq_true (by dsimp only; omega) | exact decide_eq_true (by simp; omega) | (simp; done))))) | (refine LetV.pre ?_; first | refine LetV.mk (t := 56) _ hld ?_ | refine LetV.mk (t := 27) _ hle ?_ | refine LetV.mk (.sc (.int _ _)) rfl ?_ | refine LetV.mk (.agg _) rfl ?_ | refine LetV.mk (.ro _ _ _) rfl ?_) | (refine LetI.pre ?_; first | refine LetI.wrap (by omega) (by omega) ?_) | (refine LetB.pre ?_; first | refine LetB.ff rfl ?_ | refine LetB.dect (by omega) ?_ | refine LetB.bnet (by omega) ?_ | refine LetB.bnef (by omega) ?_) | (refine Gd.pre ?_; first | refine Gd.run rfl ?_) | (refine Br.pre ?_; first | refine Br.tt rfl ?_) | (refine Ck.pre ?_; first | refine Ck.drawn (by kernel_rfl) ?_ | refine Ck.mk rfl ?_) | (refine LetL.pre ?_; first | refine LetL.mk [_] rfl ?_) | (refine CallN.pre ?_; first | refine CallN.pure hT rfl rfl ?_ | refine CallN.lend hI rfl (.same rfl (.clo (.ptr rfl rfl rfl .nil) .nil)) ?_)))); (try (conv => whnf)))




    refine LoopN.weak ?sw4 hnx
    case sw4 => exact SW.mk id rfl rfl (mtN _ _ _ rfl rfl) ⟨.refl _, .refl _, .refl _, .refl _, .refl _, VLe2.int (by omega), trivial⟩ (mtV id rfl rfl rfl rfl)
  rw [if_pos ⟨hst, htt⟩] at hgx
  subst hgx
  have hyi := hy p f x e.credits (by omega) (by omega)
  obtain ⟨p', f', hpf⟩ : ∃ p' f', (p', f') = meS (p, f) (x, e.credits) := ⟨_, _, rfl⟩
  rw [← hpf] at hyi
  have hnx := ih (j + 1, p', f') ⟨by show j + 1 ≤ A.length; omega, by dsimp only; have := meS_len p f x e.credits; rw [← hpf] at this; dsimp only at this; omega, by rw [hq]; exact hpf⟩ (by show A.length - (j + 1) < A.length - j; omega)
  clear ih hq hy hpf
  ((repeat ((conv => whnf); (first | (refine LetN.pre ?_; first | ((conv => arg 1; whnf); refine LetN.mk ?_)) | (refine As.pre ?_; first | refine As.mk rfl ?_ | (refine As.mk ?_ ?_; · ((repeat' (refine andT ?_ ?_)) <;> (first | rfl | assumption | exact decide_eq_true (by omega) | exact decide_eq_true (by dsimp only; omega) | exact decide_eq_true (by simp; omega) | (simp; done))))) | (refine LetV.pre ?_; first | refine LetV.mk (t := 56) _ hld ?_ | refine LetV.mk (t := 27) _ hle ?_ | refine LetV.mk (.sc (.int _ _)) rfl ?_ | refine LetV.mk (.agg _) rfl ?_ | refine LetV.mk (.ro _ _ _) rfl ?_) | (refine LetI.pre ?_; first | refine LetI.wrap (by omega) (by omega) ?_) | (refine LetB.pre ?_; first | refine LetB.ff rfl ?_ | refine LetB.dect (by omega) ?_ | refine LetB.bnef (by omega) ?_) | (refine Gd.pre ?_; first | refine Gd.run rfl ?_) | (refine Br.pre ?_; first | refine Br.tt rfl ?_ | refine Br.ff rfl ?_) | (refine Ck.pre ?_; first | refine Ck.drawn (by kernel_rfl) ?_ | refine Ck.mk rfl ?_) | (refine LetL.pre ?_; first | refine LetL.mk (ty := 3) _ (renL_none (pure_int _)).symm ?_ | refine LetL.mk [_] rfl ?_) | (refine CallN.pre ?_; first | refine CallN.pure hT rfl rfl ?_ | refine CallN.lend hI rfl (.same rfl (.clo (.ptr rfl rfl rfl .nil) .nil)) ?_) | ((refine YieldN.own ro7 hyi (by rw [hps]; rfl) (CallOk.mk' rfl rfl rfl (meN _ _ _ rfl rfl) rfl (mtN _ _ _ rfl rfl) (mtA rfl rfl rfl rfl)) ?_))))); (try (conv => whnf)))






  refine LoopN.weak ?sw5 hnx
  case sw5 => exact SW.mk ro6 rfl rfl (mtN _ _ _ rfl rfl) ⟨.refl _, .refl _, .refl _, .refl _, .refl _, VLe2.int (by omega), trivial⟩ (mtV ro6 rfl rfl rfl rfl)
/-- The mean of a term, and whether there is one. -/
def menP (l : List E) (st a t : Int) : (Int × Int) × Bool :=
  if endP t a = true ∧ (Sc.mv (meP (grdP l st a t)).1 (meP (grdP l st a t)).2).2 = 0 then ((Sc.mv (meP (grdP l st a t)).1 (meP (grdP l st a t)).2).1, true) else ((0, 0), false)
abbrev raty : TypeId := 46
theorem me_call (gs cs : List Int) : atCall ro5 (meH [] []) (.tup []) (meT gs cs) = { v := .tup [], D := [0, 1, 2, 3], δ := [(0, some (bxS 5 gs.length)), (1, some (bxS 6 cs.length)), (5, some (.row 1 3 (gs.map int))), (6, some (.row 1 3 (cs.map int))), (2, none), (3, none)] } := by
  show ({ v := _, D := _, δ := [(0, _), (1, _), (5, some (.row 1 _ (AV.renL ro5 (gs.map int)))), (6, some (.row 1 _ (AV.renL ro5 (cs.map int)))), (2, none), (3, none)] } : Out) = _
  rw [renL_none (pure_int gs), renL_none (pure_int cs)]; rfl
theorem meP_len : ∀ (L : List (St × Int)) (q : List Int × List Int), (L.foldl meS q).1.length ≤ q.1.length + L.length ∧ (L.foldl meS q).2.length ≤ q.2.length + L.length
  | [], q => ⟨Nat.le_refl _, Nat.le_refl _⟩
  | x :: L, (p, f) => by
    have h1 := meP_len L (meS (p, f) x)
    have h2 := meS_len p f x.1 x.2
    rw [List.foldl_cons, List.length_cons]
    have e : (x.1, x.2) = x := rfl
    rw [e] at h2
    dsimp only
    omega
theorem grd_len (l : List E) (st a t : Int) : (grdP l st a t).length ≤ l.length := Nat.le_trans (List.length_filterMap_le _ _) (atP_len a _)
set_option maxHeartbeats 1600000 in
set_option maxRecDepth 100000 in
theorem Means_f (l : List E) (s : Sc.Scl) (st a t : Int) (hl : l.length < 40) (ho : ∀ e ∈ l, Dt.okW e.on_) : AFun Try.prog 15 0 [.ro {} 15 (l.map en), Sc.scA s, int st, int a, int t] [] (.tup [.agg [int (menP l st a t).1.1, int (menP l st a t).1.2], bool (menP l st a t).2]) [] := by
  have hE := ended_f l s st a t
  refine AFun.of_W T_ok mixed Try.func15 rfl (Nat.le_of_ble_eq_true rfl) rfl ?_
  unfold menP
  cases he : endP t a with
  | false =>
    rw [if_neg (fun h => by cases h.1)]
    rw [he] at hE
    ((repeat ((conv => whnf); (first | (refine LetN.pre ?_; first | ((conv => arg 1; whnf); refine LetN.mk ?_)) | (refine As.pre ?_; first | refine As.mk rfl ?_) | (refine LetV.pre ?_; first | refine LetV.mk (.agg _) rfl ?_) | (refine Br.pre ?_; first | refine Br.tt rfl ?_) | (refine Ck.pre ?_; first | refine Ck.mk rfl ?_) | (refine LetL.pre ?_; first | refine LetL.mk (ty := rty) [.agg [_, _, _, _, _, _]] rfl ?_ | refine LetL.mk [_] rfl ?_) | (refine CallN.pre ?_; first | refine CallN.pure hE rfl rfl ?_)))); (try (conv => whnf)))


    exact ⟨.inl rfl, ⟨_, rfl, rfl⟩, trivial⟩
  | true =>
  rw [he] at hE
  have het := of_decide_eq_true he
  have hG := grades_f l s st a t
  have hlen := meP_len (grdP l st a t) ([], [])
  have hlen2 := grd_len l st a t
  have hlen1 : (meP (grdP l st a t)).1.length ≤ l.length ∧ (meP (grdP l st a t)).2.length ≤ l.length := by
    unfold meP
    simp only [List.length_nil, Nat.zero_add] at hlen
    omega
  ((repeat ((conv => whnf); (first | (refine LetN.pre ?_; first | ((conv => arg 1; whnf); refine LetN.mk ?_)) | (refine As.pre ?_; first | refine As.mk rfl ?_) | (refine LetV.pre ?_; first | refine LetV.mk (.agg _) rfl ?_) | (refine Br.pre ?_; first | refine Br.ff rfl ?_) | (refine Ck.pre ?_; first | refine Ck.mk rfl ?_) | (refine LetL.pre ?_; first | refine LetL.mk (ty := rty) [.agg [_, _, _, _, _, _]] rfl ?_) | (refine CallN.pre ?_; first | refine CallN.pure hE rfl rfl ?_ | refine CallN.pure hG rfl rfl ?_)))); (try (conv => whnf)))



  have hM := Sc.Mean_f (meP (grdP l st a t)).1 (meP (grdP l st a t)).2 {} {} (by omega) (by omega)
  refine RfN.weak (s1 := ⟨[(10, .ptr 4 2 0 0), (13, .ptr 0 1 0 0), (14, .ptr 1 1 0 0), (31, grV l s st a t)], meH [] [] ++ [(4, .row 2 raty [.agg [int 0, int 0]])], 5⟩) ?sw ?_
  case sw =>
    refine SW.trans (SW.box (id := 3) (ty := ilty) (x := .sc (.slice none 0 0)) (y := .slm {} 5 1 0 0) rfl rfl rfl VLe2.nilslm.cle) ?_
    refine SW.trans (SW.box (id := 4) (ty := ilty) (x := .sc (.slice none 0 0)) (y := .slm {} 6 1 0 0) rfl rfl rfl VLe2.nilslm.cle) ?_
    exact SW.mk (fun i => match i with | 0 => 3 | 1 => 4 | 2 => 5 | 3 => 6 | 4 => 1 | i => i + 7) rfl rfl rfl ⟨.refl _, .refl _, .refl _, .refl _, trivial⟩ (haveV.one rfl (haveV.one rfl (haveV.nil (Nat.le_of_ble_eq_true rfl) (haveV.nil (Nat.le_of_ble_eq_true rfl) (haveV.one rfl trivial)))))
  refine RfN.iter (r := { v := .tup [], D := [0, 1, 2, 3], δ := [(0, some (bxS 5 (meP (grdP l st a t)).1.length)), (1, some (bxS 6 (meP (grdP l st a t)).2.length)), (5, some (.row 1 3 ((meP (grdP l st a t)).1.map int))), (6, some (.row 1 3 ((meP (grdP l st a t)).2.map int))), (2, none), (3, none)] }) [13, 14] (Nat.le_of_ble_eq_true rfl) rfl rfl (by kernel_rfl) (fun lp rc h1 h2 h3 h4 h5 h6 => ?it) rfl ?sol rfl ?rest
  case it =>
    rw [← me_call]
    refine ACalls.of_fun ro5 (gradesM_f l s st a t hl (by omega) ho lp rc (by rw [h1]; rfl) [13, 14] fun p f x n hp hf => ?_) (CallOk.mk' rfl rfl rfl rfl rfl (mtN _ _ _ rfl rfl) ⟨rfl, rfl, rfl, rfl, trivial⟩)
    obtain ⟨xe, xb, xg, xv⟩ := x
    refine yield_of_V T_ok mixed h1 h2 h3 h4 h5 h6 rfl rfl rfl (meSol p f) rfl ?_
    ((repeat ((conv => whnf); (first | (refine LetN.pre ?_; first | ((conv => arg 1; whnf); refine LetN.mk ?_)) | (refine As.pre ?_; first | refine As.mk rfl ?_) | (refine Ck.pre ?_; first | refine Ck.mk rfl ?_) | (refine LetL.pre ?_; first | refine LetL.mk [_] rfl ?_)))); (try (conv => whnf)))
    refine ⟨rfl, ?_⟩
    cases xv with
    | true =>
      ((repeat ((conv => whnf); (first | (refine As.pre ?_; first | refine As.mk rfl ?_) | (refine LetV.pre ?_; first | refine LetV.mk (.sc (.bool _)) rfl ?_) | (refine Br.pre ?_; first | refine Br.ff rfl ?_) | (refine Ck.pre ?_; first | refine Ck.mk rfl ?_)))); (try (conv => whnf)))
      exact ⟨rfl, ⟨[], meT p f, 6⟩, SW.mk ro4 rfl rfl (mtN _ _ _ rfl rfl) trivial (mtV ro4 rfl rfl rfl rfl), rfl⟩
    | false =>
      have r1 := room_int (n := p.length + 1) (by omega)
      have r2 := room_int (n := f.length + 1) (by omega)
      have a1 := app_intL p xg p.length rfl
      have a2 := app_intL f n f.length rfl
      have l1 : (p ++ [xg]).length = p.length + 1 := by simp
      have l2 : (f ++ [n]).length = f.length + 1 := by simp
      ((repeat ((conv => whnf); (first | (refine LetN.pre ?_; first | ((conv => arg 1; whnf); refine LetN.mk ?_)) | (refine As.pre ?_; first | refine As.mk rfl ?_ | (refine As.mk ?_ ?_; · ((repeat' (refine andT ?_ ?_)) <;> (first | rfl | assumption | exact decide_eq_true (by omega) | exact decide_eq_true (by dsimp only; omega) | exact decide_eq_true (by simp; omega) | (simp; done))))) | (refine LetV.pre ?_; first | refine LetV.mk (.sc (.int _ _)) rfl ?_ | refine LetV.mk (.sc (.bool _)) rfl ?_ | refine LetV.mk (.slm _ _ _ _ _) rfl ?_) | (refine Br.pre ?_; first | refine Br.tt rfl ?_) | (refine Ck.pre ?_; first | refine Ck.drawn (by kernel_rfl) ?_ | refine Ck.mk rfl ?_) | (refine LetL.pre ?_; first | refine LetL.mk (ty := 3) _ a1 ?_ | refine LetL.mk (ty := 3) _ a2 ?_ | refine LetL.mk [_] rfl ?_)))); (try (conv => whnf)))


      refine ⟨rfl, ⟨[], meT (p ++ [xg]) (f ++ [n]), 7⟩, ?_, rfl⟩
      refine SW.trans (SW.box (id := 0) (ty := ilty) (x := .slm _ 5 1 0 _) (y := .slm {} 5 1 0 (p ++ [xg]).length) rfl rfl rfl (VLe2.slm_of l1).cle) ?_
      refine SW.trans (SW.box (id := 1) (ty := ilty) (x := .slm _ 6 1 0 _) (y := .slm {} 6 1 0 (f ++ [n]).length) rfl rfl rfl (VLe2.slm_of l2).cle) ?_
      exact SW.mk ro5 rfl rfl (mtN _ _ _ rfl rfl) trivial (mtV ro5 rfl rfl rfl rfl)
  case sol => exact solidH.row rfl (solidH.row rfl (solidH.row rfl (solidH.row (solid_int _) (solidH.row (solid_int _) rfl))))
  case rest =>
    generalize meP (grdP l st a t) = R at hM hlen1 ⊢
    obtain ⟨gs, cs⟩ := R
    dsimp only at hM hlen1 ⊢
    generalize Sc.mv gs cs = M at hM ⊢
    obtain ⟨⟨n, d⟩, e⟩ := M
    have n1 := pure_int gs
    have n2 := pure_int cs
    have m1 : gs.length = (gs.map int).length := (List.length_map _).symm
    have m2 : cs.length = (cs.map int).length := (List.length_map _).symm
    dsimp only
    by_cases h0 : e = 0
    · subst h0
      rw [if_pos ⟨rfl, rfl⟩]
      ((repeat ((conv => whnf); (first | (refine LetN.pre ?_; first | ((conv => arg 1; whnf); refine LetN.mk ?_)) | (refine As.pre ?_; first | refine As.mk rfl ?_) | (refine LetV.pre ?_; first | refine LetV.mk (.agg _) rfl ?_ | refine LetV.mk (.slm _ _ _ _ _) rfl ?_) | (refine LetB.pre ?_; first | refine LetB.ff rfl ?_) | (refine Br.pre ?_; first | refine Br.ff rfl ?_) | (refine Ck.pre ?_; first | refine Ck.mk rfl ?_) | (refine LetL.pre ?_; first | refine LetL.mk [_] rfl ?_) | (refine CallN.pre ?_; first | refine CallN.lend hM rfl (.full rfl n1 m1 (.full rfl n2 m2 .nil)) ?_)))); (try (conv => whnf)))

      exact ⟨.inl rfl, ⟨_, rfl, rfl⟩, trivial⟩
    · rw [if_neg (fun h => h0 h.2)]
      ((repeat ((conv => whnf); (first | (refine LetN.pre ?_; first | ((conv => arg 1; whnf); refine LetN.mk ?_)) | (refine As.pre ?_; first | refine As.mk rfl ?_) | (refine LetV.pre ?_; first | refine LetV.mk (.slm _ _ _ _ _) rfl ?_) | (refine LetB.pre ?_; first | refine LetB.bnet (by omega) ?_) | (refine Br.pre ?_; first | refine Br.tt rfl ?_) | (refine Ck.pre ?_; first | refine Ck.mk rfl ?_) | (refine LetL.pre ?_; first | refine LetL.mk [_] rfl ?_) | (refine CallN.pre ?_; first | refine CallN.lend hM rfl (.full rfl n1 m1 (.full rfl n2 m2 .nil)) ?_)))); (try (conv => whnf)))

      exact ⟨.inl rfl, ⟨_, rfl, rfl⟩, trivial⟩
end En
end Go.Proofs.Ytnegdmjmllmclaa
namespace Go.Proofs.Ytnegdmjmllmclaa
open Go.Proofs.Ytnegdmjmllmclaa.Am
set_option maxRecDepth 100000
namespace En
/-! ### What every law asks first -/
abbrev ex1 : E := ⟨1, 1, 1, 3, 20, 20, ⟨#[65, 49]⟩, 20, 80, 0, 0, 0, 0, 0, ⟨#[]⟩⟩
abbrev ex2 : E := ⟨2, 1, 1, 3, 120, 120, ⟨#[65, 49]⟩, 10, 30, 0, 0, 0, 0, 0, ⟨#[]⟩⟩
abbrev ex3 : E := ⟨3, 1, 1, 3, 130, 130, ⟨#[65, 49]⟩, 6, 90, 0, 0, 0, 0, 0, ⟨#[]⟩⟩
abbrev ex4 : E := ⟨4, 1, 1, 3, 250, 250, ⟨#[65, 49]⟩, 5, 10, 0, 0, 0, 0, 0, ⟨#[]⟩⟩
abbrev ex5 : E := ⟨5, 1, 1, 4, 320, 130, ⟨#[]⟩, 0, 60, 2, 0, 0, 0, 0, ⟨#[]⟩⟩
abbrev exl : List E := [ex1, ex2, ex3, ex4, ex5]
theorem example1_f (i c g d : Int) : AFun Try.prog 49 0 [int i, int c, int g, int d] [] (en ⟨i, 1, 1, 3, d, d, ⟨#[65, 49]⟩, c, g, 0, 0, 0, 0, 0, ⟨#[]⟩⟩) [] := by
  refine AFun.of_W T_ok mixed Try.func49 rfl (Nat.le_of_ble_eq_true rfl) rfl ?_
  ((repeat ((conv => whnf); (first | (refine LetN.pre ?_; first | ((conv => arg 1; whnf); refine LetN.mk ?_)) | (refine As.pre ?_; first | refine As.mk rfl ?_) | (refine Ck.pre ?_; first | refine Ck.mk rfl ?_) | (refine LetL.pre ?_; first | refine LetL.mk [_] rfl ?_)))); (try (conv => whnf)))
  exact ⟨.inl rfl, ⟨_, rfl, rfl⟩, trivial⟩
set_option maxRecDepth 100000 in
theorem example_s : AFun Try.prog 24 0 [] [] (.slm {} 0 15 0 5) [(0, .row 15 ety (exl.map en))] := by
  refine AFun.of_S T_ok mixed Try.func24 rfl (Nat.le_of_ble_eq_true rfl) rfl ?_
  ((repeat ((conv => whnf); (first | (refine LetN.pre ?_; first | ((conv => arg 1; whnf); refine LetN.mk ?_)) | (refine As.pre ?_; first | refine As.mk rfl ?_) | (refine Ck.pre ?_; first | refine Ck.mk rfl ?_) | (refine CallN.pre ?_; first | refine CallN.pure (example1_f _ _ _ _) rfl rfl ?_)))); (try (conv => whnf)))
  exact ⟨⟨[(0, .slm {} 0 15 0 5)], [(0, .row 15 ety (exl.map en))], 1⟩, SW.mk id rfl rfl rfl ⟨VLe2.slm_of rfl, trivial⟩ (haveV.one rfl trivial), .inl rfl, ⟨_, rfl, rfl⟩, rfl, trivial⟩
theorem example_f : AFun Try.prog 24 0 [] [] (.ro {} 15 (exl.map en)) [] := AFun.frz1 (H := []) example_s rfl (pure_en _) rfl
abbrev sc0 : Sc.Scl := (0, 100, 50)
theorem exl_ok : ∀ e ∈ exl, Dt.okW e.on_ := by
  intro e he
  simp only [exl, List.mem_cons, List.not_mem_nil, or_false] at he
  rcases he with rfl | rfl | rfl | rfl | rfl <;> exact ⟨by decide, by decide⟩
theorem sc0_f : AFun Try.prog 25 0 [int 1] [] (Sc.scA sc0) [] := SclOf_f 1 ⟨by decide, by decide⟩
theorem stdE (a t n : Int) (h : stdP exl sc0 1 a t = n) : AFun Try.prog 17 0 [.ro {} 15 (exl.map en), Sc.scA sc0, int 1, int a, int t] [] (int n) [] := h ▸ Standing_f exl sc0 1 a t (Nat.le_of_ble_eq_true rfl) exl_ok
theorem stiE (a t : Int) (b : Bool) (h : stiP exl sc0 1 a t = b) : AFun Try.prog 19 0 [.ro {} 15 (exl.map en), Sc.scA sc0, int 1, int a, int t] [] (bool b) [] := h ▸ Stipend_f exl sc0 1 a t (Nat.le_of_ble_eq_true rfl) exl_ok
abbrev sgS (a : Int) (ws : List Int) (k : Nat) : AS := ⟨[(0, int a), (7, .ro {} 1 (ws.map int)), (8, int ws.length), (9, int k)], [], 0⟩
set_option maxRecDepth 100000 in
theorem standings_f (a : Int) (ws : List Int) (fl : Fl) (hl : ws.length ≤ 100) (h : ∀ k, k < ws.length → stdP exl sc0 1 a k = ws.getD k 0) : AFun Try.prog 26 0 [int a, .ro fl 1 (ws.map int)] [] (bool true) [] := by
  refine AFun.of_W T_ok mixed Try.func26 rfl (Nat.le_of_ble_eq_true rfl) rfl ?_
  have hm : (ws.map int).length = ws.length := List.length_map _
  ((repeat ((conv => whnf); (first | (refine As.pre ?_; first | refine As.mk rfl ?_) | (refine LetI.pre ?_; first | refine LetI.mk _ rfl ?_) | (refine Ck.pre ?_; first | refine Ck.mk rfl ?_)))); (try (conv => whnf)))
  refine LoopN.weak (s1 := sgS a ws 0) ?sw1 ?_
  case sw1 => exact SW.fr0 (Nat.le_refl _) (by show frNames _ _ = true; simp only [frNames, AV.names, namesL_none (pure_int _)]; rfl) ⟨.refl _, VLe2.ro_of rfl, VLe2.int (by rw [hm]), .refl _, trivial⟩
  refine LoopN.ind T_ok mixed (S := sgS a ws) (fun k => ws.length - k) (fun k => k ≤ ws.length) (fun _ => rfl) (fun k hk ih => ?_) 0 (Nat.zero_le _)
  by_cases hlt : k < ws.length
  case neg =>
    clear ih
    ((repeat ((conv => whnf); (first | (refine As.pre ?_; first | refine As.mk rfl ?_) | (refine LetB.pre ?_; first | refine LetB.decf (by omega) ?_) | (refine Br.pre ?_; first | refine Br.ff rfl ?_) | (refine Ck.pre ?_; first | refine Ck.mk rfl ?_)))); (try (conv => whnf)))
    exact ⟨.inl rfl, ⟨_, rfl, rfl⟩, trivial⟩
  have hs := stdE a k _ (h k hlt)
  have hld := getD_i hlt
  generalize ws.getD k 0 = n at hs hld
  have hnx := ih (k + 1) hlt (by omega)
  clear ih h
  ((repeat ((conv => whnf); (first | (refine As.pre ?_; first | refine As.mk rfl ?_ | (refine As.mk ?_ ?_; · ((repeat' (refine andT ?_ ?_)) <;> (first | rfl | assumption | exact decide_eq_true (by omega) | exact decide_eq_true (by dsimp only; omega) | exact decide_eq_true (by simp; omega) | (simp; done))))) | (refine LetV.pre ?_; first | refine LetV.mk (t := 22) _ hld ?_ | refine LetV.mk (.sc (.int _ _)) rfl ?_) | (refine LetI.pre ?_; first | refine LetI.wrap (by omega) (by omega) ?_) | (refine LetB.pre ?_; first | refine LetB.dect (by omega) ?_ | refine LetB.bnef (by omega) ?_) | (refine Br.pre ?_; first | refine Br.tt rfl ?_ | refine Br.ff rfl ?_) | (refine Ck.pre ?_; first | refine Ck.mk rfl ?_) | (refine CallN.pre ?_; first | refine CallN.pure example_f rfl rfl ?_ | refine CallN.pure sc0_f rfl rfl ?_ | refine CallN.pure hs rfl rfl ?_)))); (try (conv => whnf)))




  refine LoopN.weak ?sw2 hnx
  case sw2 => exact SW.fr0 (Nat.le_refl _) (by show frNames _ _ = true; simp only [frNames, AV.names, namesL_none (pure_int _)]; rfl) ⟨.refl _, .refl _, .refl _, VLe2.int (by omega), trivial⟩
theorem sdg1 : AFun Try.prog 26 0 [int 299, .ro ⟨true, true⟩ 1 [int 1, int 2, int 3]] [] (bool true) [] := standings_f 299 [1, 2, 3] _ (by decide) fun k hk => match k with | 0 => by kernel_rfl | 1 => by kernel_rfl | 2 => by kernel_rfl | k + 3 => absurd hk (by simp)
theorem sdg2 : AFun Try.prog 26 0 [int 320, .ro ⟨true, true⟩ 1 [int 1, int 1, int 2]] [] (bool true) [] := standings_f 320 [1, 1, 2] _ (by decide) fun k hk => match k with | 0 => by kernel_rfl | 1 => by kernel_rfl | 2 => by kernel_rfl | k + 3 => absurd hk (by simp)
theorem sdg3 : AFun Try.prog 26 0 [int 198, .ro ⟨true, true⟩ 1 [int 1, int 0]] [] (bool true) [] := standings_f 198 [1, 0] _ (by decide) fun k hk => match k with | 0 => by kernel_rfl | 1 => by kernel_rfl | k + 2 => absurd hk (by simp)
theorem exT1 : AFun Try.prog 13 0 [.ro {} 15 (exl.map en), int 1, int 240] [] (.tup [int 0, int 1, bool true]) [] := by
  have h := Terms_f exl 1 240 {} (by decide) exl_ok
  rw [show minP (trmP exl 1 240) = 0 by kernel_rfl, show maxP (trmP exl 1 240) = 1 by kernel_rfl, show decide (trmP exl 1 240 ≠ []) = true by kernel_rfl] at h
  exact h
theorem exT2 : AFun Try.prog 13 0 [.ro {} 15 (exl.map en), int 1, int 10] [] (.tup [int 0, int 0, bool false]) [] := by
  have h := Terms_f exl 1 10 {} (by decide) exl_ok
  rw [show minP (trmP exl 1 10) = 0 by kernel_rfl, show maxP (trmP exl 1 10) = 0 by kernel_rfl, show decide (trmP exl 1 10 ≠ []) = false by kernel_rfl] at h
  exact h
theorem exM : AFun Try.prog 15 0 [.ro {} 15 (exl.map en), Sc.scA sc0, int 1, int 299, int 1] [] (.tup [.agg [int 105, int 2], bool true]) [] := by
  have h := Means_f exl sc0 1 299 1 (by decide) exl_ok
  rw [show menP exl 1 299 1 = ((105, 2), true) by kernel_rfl] at h
  exact h
set_option maxHeartbeats 1600000 in
set_option maxRecDepth 100000 in
theorem sanity_f : AFun Try.prog 9 0 [] [] (bool true) [] := by
  refine AFun.of_W T_ok mixed Try.func9 rfl (Nat.le_of_ble_eq_true rfl) rfl ?_
  ((repeat ((conv => whnf); (first | (refine LetN.pre ?_; first | ((conv => arg 1; whnf); refine LetN.mk ?_)) | (refine As.pre ?_; first | refine As.mk rfl ?_) | (refine LetV.pre ?_; first | refine LetV.mk (.agg _) rfl ?_) | (refine LetB.pre ?_; first | refine LetB.tt rfl ?_) | (refine Gd.pre ?_; first | refine Gd.run rfl ?_) | (refine Ck.pre ?_; first | refine Ck.mk rfl ?_) | (refine LetL.pre ?_; first | refine LetL.mk [_] rfl ?_) | (refine CallN.pre ?_; first | refine CallN.pure example_f rfl rfl ?_ | refine CallN.pure sc0_f rfl rfl ?_ | refine CallN.pure exT1 rfl rfl ?_ | refine CallN.pure exT2 rfl rfl ?_ | refine CallN.pure exM rfl rfl ?_ | refine CallN.pure sdg1 rfl rfl ?_ | refine CallN.pure sdg2 rfl rfl ?_ | refine CallN.pure sdg3 rfl rfl ?_ | refine CallN.pure (stiE 299 0 true (by kernel_rfl)) rfl rfl ?_ | refine CallN.pure (stiE 299 1 false (by kernel_rfl)) rfl rfl ?_)))); (try (conv => whnf)))










  exact ⟨.inl rfl, ⟨_, rfl, rfl⟩, trivial⟩
/-! ### The case -/
abbrev u8' (v : Int) : AV := .sc (.int .u8 v)
abbrev u16 (v : Int) : AV := .sc (.int .u16 v)
theorem M10.okW {sc day : Int} {l : List E} (h : M10 sc day l) (hd : day ≤ 1000) : ∀ e ∈ l, Dt.okW e.on_ := fun e he => by
  have h1 := (h.ok e he).day
  have h2 := (h.ok e he).on
  unfold Dt.okW
  omega
set_option maxRecDepth 100000 in
theorem made_f (xs : List Int) (fl : Fl) (hx : xs.length ≤ 9223372036854775807) (q : Int × Int × Int × Int) (h1 : 0 ≤ q.1 ∧ q.1 ≤ 255) (h2 : 0 ≤ q.2.1 ∧ q.2.1 ≤ 255) (h3 : 0 ≤ q.2.2.1 ∧ q.2.2.1 ≤ 65535) (h4 : 0 ≤ q.2.2.2 ∧ q.2.2.2 ≤ 255) :
    ∃ (sc : Int) (l : List E) (st a t : Int), (sc = 1 + q.1.tmod 3 ∧ 1 ≤ sc ∧ sc ≤ 3) ∧ (l.length ≤ 24 ∧ M10 sc 600 l) ∧ (1 ≤ st ∧ st ≤ 4) ∧ (0 ≤ a ∧ a < 800) ∧ (0 ≤ t ∧ t < 8) ∧
    AFun Try.prog 10 0 [.agg [.ro fl 1 (xs.map int), u8' q.1, u8' q.2.1, u16 q.2.2.1, u8' q.2.2.2]] [] (.tup [.ro {} 15 (l.map en), Sc.scA (sclOf sc), int st, int a, int t]) [] := by
  have b1 := tmod_bound q.1 (m := 3) (by omega)
  have p1 := tmod_pos 3 h1.1
  have b2 := tmod_bound q.2.1 (m := 4) (by omega)
  have p2 := tmod_pos 4 h2.1
  have b3 := tmod_bound q.2.2.1 (m := 800) (by omega)
  have p3 := tmod_pos 800 h3.1
  have b4 := tmod_bound q.2.2.2 (m := 8) (by omega)
  have p4 := tmod_pos 8 h4.1
  have hsc : 1 ≤ 1 + q.1.tmod 3 ∧ 1 + q.1.tmod 3 ≤ 3 := by omega
  obtain ⟨l, hl, hM⟩ := Made10_f xs fl hx (1 + q.1.tmod 3) hsc
  refine ⟨1 + q.1.tmod 3, l, 1 + q.2.1.tmod 4, q.2.2.1.tmod 800, q.2.2.2.tmod 8, ⟨rfl, hsc⟩, hl, by omega, by omega, by omega, ?_⟩
  have hO := SclOf_f _ hsc
  generalize sclOf (1 + q.1.tmod 3) = s at hO ⊢
  refine AFun.of_W T_ok mixed Try.func10 rfl (Nat.le_of_ble_eq_true rfl) rfl ?_
  have w1 : q.1 = IntKind.i64.wrap q.1 := (wrap_id (by omega) (by omega)).symm
  have w2 : q.2.1 = IntKind.i64.wrap q.2.1 := (wrap_id (by omega) (by omega)).symm
  have w3 : q.2.2.1 = IntKind.i64.wrap q.2.2.1 := (wrap_id (by omega) (by omega)).symm
  have w4 : q.2.2.2 = IntKind.i64.wrap q.2.2.2 := (wrap_id (by omega) (by omega)).symm
  ((repeat ((conv => whnf); (first | (refine LetN.pre ?_; first | ((conv => arg 1; whnf); refine LetN.mk ?_)) | (refine As.pre ?_; first | refine As.mk rfl ?_) | (refine LetV.pre ?_; first | refine LetV.mk (.sc (.int _ _)) rfl ?_ | refine LetV.mk (.ro _ _ _) rfl ?_) | (refine LetI.pre ?_; first | refine LetI.mk (o := none) q.1 w1 ?_ | refine LetI.mk (o := none) q.2.1 w2 ?_ | refine LetI.mk (o := none) q.2.2.1 w3 ?_ | refine LetI.mk (o := none) q.2.2.2 w4 ?_ | refine LetI.wrap (by omega) (by omega) ?_ | refine LetI.mk _ rfl ?_) | (refine Ck.pre ?_; first | refine Ck.drawn (by kernel_rfl) ?_ | refine Ck.mk rfl ?_) | (refine LetL.pre ?_; first | refine LetL.mk [_] rfl ?_) | (refine CallN.pre ?_; first | refine CallN.pure hM rfl rfl ?_ | refine CallN.pure hO rfl rfl ?_)))); (try (conv => whnf)))






  exact ⟨.inl rfl, ⟨_, rfl, rfl⟩, trivial⟩
end En
end Go.Proofs.Ytnegdmjmllmclaa
