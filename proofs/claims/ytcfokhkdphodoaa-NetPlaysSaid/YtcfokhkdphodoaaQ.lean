/- Ytcfokhkdphodoaa: YtcfokhkdphodoaaQ. -/
import Derived.Test.YtcfokhkdphodoaaM
namespace Go.Proofs.Ytcfokhkdphodoaa
open Go.Proofs.Ytcfokhkdphodoaa.Am
namespace Nt
abbrev playH (m : Int) (cu : Nat → BitVec 16) (ps : List Pc) (cl : List Pr) : AH := [(0, .row 11 56 [netC m cu ps.length]), (1, .row 3 33 (ps.map par)), (2, .row 3 68 [refC 3 4 m cl.length ps.length]), (3, .row 2 63 (cl.map prA)), (4, .row 3 33 (ps.map par))]
theorem playNames (m : Int) (cu : Nat → BitVec 16) (ps : List Pc) (cl : List Pr) (ok : Nat → Bool) (h1 : ok 1 = true) (h3 : ok 3 = true) (h4 : ok 4 = true) : namesAll ok (playH m cu ps cl) = true := by
  simp only [playH, namesAll, Blk.names, AV.namesL, AV.names, namesL_none (pure_par ps), namesL_none (pure_pr cl), h1, h3, h4]; rfl
abbrev bl (b : Bool) : AV := .sc (.bool b)
abbrev outS (l : List Od) (n : Int) (j : Nat) : AS := ⟨[(1, .ro {} 5 (l.map opA)), (5, bl true), (20, .ro ⟨true, true⟩ 1 [int n, int 4]), (21, int 2), (22, int j)], [], 0⟩
abbrev nilM (l : List Od) (n : Int) (j : Nat) (k : Nat) : AS := ⟨[(1, .ro {} 5 (l.map opA)), (5, bl true), (8, nP), (9, nP), (10, int k), (20, .ro ⟨true, true⟩ 1 [int n, int 4]), (21, int 2), (22, int j)], [], 0⟩
abbrev nilI (l : List Od) (n : Int) (j k : Nat) (o : Od) (i : Nat) : AS := ⟨[(1, .ro {} 5 (l.map opA)), (5, bl true), (8, nP), (9, nP), (10, int k), (20, .ro ⟨true, true⟩ 1 [int n, int 4]), (21, int 2), (22, int j), (54, .ro ⟨true, true⟩ 5 [opA o, opA (small o)]), (55, int 2), (56, int i)], [], 0⟩
abbrev R2 : AV := .ptr 2 3 0 0
abbrev midS (l : List Od) (n m : Int) (j : Nat) : Nat × (Nat → BitVec 16) × List Pc × List Pr → AS
  | (k, cu, ps, cl) => ⟨[(1, .ro {} 5 (l.map opA)), (5, bl true), (8, T0), (9, R2), (10, int k), (20, .ro ⟨true, true⟩ 1 [int n, int 4]), (21, int 2), (22, int j)], playH m cu ps cl, 5⟩
abbrev inS (l : List Od) (n m : Int) (j k : Nat) (o : Od) : Nat × (Nat → BitVec 16) × List Pc × List Pr → AS
  | (i, cu, ps, cl) => ⟨[(1, .ro {} 5 (l.map opA)), (5, bl true), (8, T0), (9, R2), (10, int k), (20, .ro ⟨true, true⟩ 1 [int n, int 4]), (21, int 2), (22, int j), (54, .ro ⟨true, true⟩ 5 [opA o, opA (small o)]), (55, int 2), (56, int i)], playH m cu ps cl, 5⟩
theorem Good_iff {n : Int} {p : Pc} : Good n p ↔ Okp n p.1 p.2.1 := by
  unfold Good; omega
theorem lk_val {n : Int} (hn : n ≤ 8) {cu : Nat → BitVec 16} {cl : List Pr} (h : Rel n cu cl) (a b : Int) : ((decide (0 < a) && decide (0 < b) && decide (a ≤ n) && decide (b ≤ n) && a != b) && !(cu a.toNat).getLsbD b.toNat) = decide (Okp n a b ∧ prOf a b ∉ cl) := by
  by_cases hab : Okp n a b
  · have h1 := h.mem a b hab
    obtain ⟨a1, a2, a3, a4, a5⟩ := hab
    have e : (decide (0 < a) && decide (0 < b) && decide (a ≤ n) && decide (b ≤ n) && a != b) = true := by simp; omega
    rw [e, Bool.true_and]
    by_cases hc : prOf a b ∈ cl
    · rw [h1.2 hc]; simp [hc]
    · have : (cu a.toNat).getLsbD b.toNat = false := by
        cases hx : (cu a.toNat).getLsbD b.toNat
        · rfl
        · exact absurd (h1.1 hx) hc
      rw [this]; simp [hc]; omega
  · have e : (decide (0 < a) && decide (0 < b) && decide (a ≤ n) && decide (b ≤ n) && a != b) = false := by simp; omega
    rw [e, Bool.false_and]
    exact (decide_eq_false fun hh => hab hh.1).symm
/-- The end of a round: both tell the same. -/
theorem ends {m : Int} (hm0 : (m == 0) = false) (hm8 : m ≤ 8) {cu : Nat → BitVec 16} {cl : List Pr} (h : Rel m cu cl) (ps : List Pc) (hl : cl.length ≤ 1000) (A B : Int) : ∃ r : Bool, AFun Try.prog 17 2 [T0, int A, int B] (netH m cu ps) (bl r) (netH m cu ps) ∧ AFun Try.prog 25 3 [R0, int A, int B] (refH m cl ps) (bl r) (refH m cl ps) :=
  ⟨decide (Okp m A B ∧ prOf A B ∉ cl), by rw [← lk_val hm8 h]; exact Linked_f m cu ps hm0 hm8 A B, rLinked_f m cl ps hl A B⟩
set_option maxHeartbeats 32000000 in
set_option maxRecDepth 100000 in
theorem plays (n : Int) (l : List Od) (hl : l.length ≤ 9223372036854775807) : AFun Try.prog 6 0 [int n, .ro {} 5 (l.map opA)] [] (bl true) [] := by
  refine AFun.of_W T_ok mixed Try.func6 rfl (Nat.le_of_ble_eq_true rfl) rfl ?_
  ((repeat ((conv => whnf); (first | (refine LetN.pre ?_; first | ((conv => arg 1; whnf); refine LetN.mk ?_)) | (refine As.pre ?_; first | refine As.mk rfl ?_ | (refine As.mk ?_ ?_; · decide +kernel) | refine As.mk (andT (nor_self _) rfl) ?_ | refine As.mk (andT (nor_self _) (or_t _)) ?_ | refine As.mk (andT (or_t _) (or_nself _)) ?_ | refine As.mk (andT (or_t _) (or_t _)) ?_ | refine As.mk (andT (nor_self _) (andT (nor_self _) rfl)) ?_ | (refine As.mk ?_ ?_; · ((repeat' (refine andT ?_ ?_)) <;> (first | rfl | assumption | exact decide_eq_true (by omega) | exact decide_eq_true (by dsimp only; omega) | exact decide_eq_true (by simp; omega) | (simp; done))))) | (refine LetV.pre ?_; first | refine LetV.mk (.sc (.int _ _)) rfl ?_ | refine LetV.mk (.sc (.bool _)) rfl ?_ | refine LetV.mk (.sc _) rfl ?_ | refine LetV.mk (.agg _) rfl ?_ | refine LetV.mk (.slm _ _ _ _ _) rfl ?_ | refine LetV.mk (.ro _ _ _) rfl ?_ | refine LetV.mk (.ptr _ _ _ _) rfl ?_) | (refine LetI.pre ?_; first | refine LetI.wrap (by omega) (by omega) ?_ | refine LetI.mk _ rfl ?_) | (refine LetB.pre ?_; first | refine LetB.tt rfl ?_ | refine LetB.ff rfl ?_ | refine LetB.tt (by assumption) ?_ | refine LetB.ff (by assumption) ?_ | refine LetB.dect (by omega) ?_ | refine LetB.decf (by omega) ?_ | refine LetB.beqt (by omega) ?_ | refine LetB.beqf (by omega) ?_ | refine LetB.bnet (by omega) ?_ | refine LetB.bnef (by omega) ?_ | refine LetB.mk _ rfl ?_) | (refine Gd.pre ?_; first | refine Gd.run rfl ?_ | refine Gd.pass rfl ?_ | refine Gd.run (by assumption) ?_ | refine Gd.pass (by assumption) ?_ | (refine Gd.run ?_ ?_; · decide +kernel) | (refine Gd.pass ?_ ?_; · decide +kernel) | refine Gd.both ?_) | (refine Br.pre ?_; first | refine Br.tt rfl ?_ | refine Br.ff rfl ?_ | refine Br.tt (by assumption) ?_ | refine Br.ff (by assumption) ?_ | (refine Br.tt ?_ ?_; · decide +kernel) | (refine Br.ff ?_ ?_; · decide +kernel)) | (refine Ck.pre ?_; first | refine Ck.drawn (by kernel_rfl) ?_ | refine Ck.mk rfl ?_) | (refine LetL.pre ?_; first | refine LetL.mk [_] rfl ?_ | refine LetL.mk _ rfl ?_) | (refine CallN.pre ?_; first | refine CallN.pure sanity_f rfl rfl ?_)))); (try (conv => whnf)))
  refine LoopN.weak (s1 := outS l n 0) (SW.mk id rfl rfl rfl ⟨.refl _, .refl _, .refl _, .refl _, .refl _, trivial⟩ trivial) ?_
  refine LoopN.ind T_ok mixed (S := outS l n) (fun j => 2 - j) (fun j => j ≤ 2) (fun _ => rfl) (fun j hj ihj => ?_) 0 (Nat.zero_le _)
  by_cases hj2 : j < 2
  case neg =>
    obtain rfl : j = 2 := by omega
    clear ihj
    ((repeat ((conv => whnf); (first | (refine LetN.pre ?_; first | ((conv => arg 1; whnf); refine LetN.mk ?_)) | (refine As.pre ?_; first | refine As.mk rfl ?_ | (refine As.mk ?_ ?_; · decide +kernel) | refine As.mk (andT (nor_self _) rfl) ?_ | refine As.mk (andT (nor_self _) (or_t _)) ?_ | refine As.mk (andT (or_t _) (or_nself _)) ?_ | refine As.mk (andT (or_t _) (or_t _)) ?_ | refine As.mk (andT (nor_self _) (andT (nor_self _) rfl)) ?_ | (refine As.mk ?_ ?_; · ((repeat' (refine andT ?_ ?_)) <;> (first | rfl | assumption | exact decide_eq_true (by omega) | exact decide_eq_true (by dsimp only; omega) | exact decide_eq_true (by simp; omega) | (simp; done))))) | (refine LetV.pre ?_; first | refine LetV.mk (.sc (.int _ _)) rfl ?_ | refine LetV.mk (.sc (.bool _)) rfl ?_ | refine LetV.mk (.sc _) rfl ?_ | refine LetV.mk (.agg _) rfl ?_ | refine LetV.mk (.slm _ _ _ _ _) rfl ?_ | refine LetV.mk (.ro _ _ _) rfl ?_ | refine LetV.mk (.ptr _ _ _ _) rfl ?_) | (refine LetI.pre ?_; first | refine LetI.wrap (by omega) (by omega) ?_ | refine LetI.mk _ rfl ?_) | (refine LetB.pre ?_; first | refine LetB.tt rfl ?_ | refine LetB.ff rfl ?_ | refine LetB.tt (by assumption) ?_ | refine LetB.ff (by assumption) ?_ | refine LetB.dect (by omega) ?_ | refine LetB.decf (by omega) ?_ | refine LetB.beqt (by omega) ?_ | refine LetB.beqf (by omega) ?_ | refine LetB.bnet (by omega) ?_ | refine LetB.bnef (by omega) ?_ | refine LetB.mk _ rfl ?_) | (refine Gd.pre ?_; first | refine Gd.run rfl ?_ | refine Gd.pass rfl ?_ | refine Gd.run (by assumption) ?_ | refine Gd.pass (by assumption) ?_ | (refine Gd.run ?_ ?_; · decide +kernel) | (refine Gd.pass ?_ ?_; · decide +kernel) | refine Gd.both ?_) | (refine Br.pre ?_; first | refine Br.tt rfl ?_ | refine Br.ff rfl ?_ | refine Br.tt (by assumption) ?_ | refine Br.ff (by assumption) ?_ | (refine Br.tt ?_ ?_; · decide +kernel) | (refine Br.ff ?_ ?_; · decide +kernel)) | (refine Ck.pre ?_; first | refine Ck.drawn (by kernel_rfl) ?_ | refine Ck.mk rfl ?_) | (refine LetL.pre ?_; first | refine LetL.mk [_] rfl ?_ | refine LetL.mk _ rfl ?_)))); (try (conv => whnf)))
    exact ⟨.inl rfl, ⟨_, rfl, rfl⟩, trivial⟩
  obtain ⟨m, hm⟩ : ∃ m : Int, int m = [int n, int 4].getD j (.sc undef) := by
    have : j = 0 ∨ j = 1 := by omega
    rcases this with rfl | rfl
    · exact ⟨n, rfl⟩
    · exact ⟨4, rfl⟩
  have hjl : j < [int n, int 4].length := hj2
  have h6 : ∀ (i : Nat) (o : Od), i < 2 → ∃ q : Od, opA q = [opA o, opA (small o)].getD i (.sc undef) := fun i o hi => by
    have : i = 0 ∨ i = 1 := by omega
    rcases this with rfl | rfl
    · exact ⟨o, rfl⟩
    · exact ⟨small o, rfl⟩
  by_cases hok : 1 ≤ m ∧ m ≤ 8
  case neg =>
    ((repeat ((conv => whnf); (first | (refine LetN.pre ?_; first | ((conv => arg 1; whnf); refine LetN.mk ?_)) | (refine As.pre ?_; first | refine As.mk rfl ?_ | (refine As.mk ?_ ?_; · decide +kernel) | refine As.mk (andT (nor_self _) rfl) ?_ | refine As.mk (andT (nor_self _) (or_t _)) ?_ | refine As.mk (andT (or_t _) (or_nself _)) ?_ | refine As.mk (andT (or_t _) (or_t _)) ?_ | refine As.mk (andT (nor_self _) (andT (nor_self _) rfl)) ?_ | (refine As.mk ?_ ?_; · ((repeat' (refine andT ?_ ?_)) <;> (first | rfl | assumption | exact decide_eq_true (by omega) | exact decide_eq_true (by dsimp only; omega) | exact decide_eq_true (by simp; omega) | (simp; done))))) | (refine LetV.pre ?_; first | refine LetV.mk (t := 47) (int m) hm ?_ | refine LetV.mk (.sc (.int _ _)) rfl ?_ | refine LetV.mk (.sc (.bool _)) rfl ?_ | refine LetV.mk (.sc _) rfl ?_ | refine LetV.mk (.agg _) rfl ?_ | refine LetV.mk (.slm _ _ _ _ _) rfl ?_ | refine LetV.mk (.ro _ _ _) rfl ?_ | refine LetV.mk (.ptr _ _ _ _) rfl ?_) | (refine LetI.pre ?_; first | refine LetI.wrap (by omega) (by omega) ?_ | refine LetI.mk _ rfl ?_) | (refine LetB.pre ?_; first | refine LetB.tt rfl ?_ | refine LetB.ff rfl ?_ | refine LetB.tt (by assumption) ?_ | refine LetB.ff (by assumption) ?_ | refine LetB.dect (by omega) ?_ | refine LetB.decf (by omega) ?_ | refine LetB.beqt (by omega) ?_ | refine LetB.beqf (by omega) ?_ | refine LetB.bnet (by omega) ?_ | refine LetB.bnef (by omega) ?_ | refine LetB.mk _ rfl ?_) | (refine Gd.pre ?_; first | refine Gd.run rfl ?_ | refine Gd.pass rfl ?_ | refine Gd.run (by assumption) ?_ | refine Gd.pass (by assumption) ?_ | (refine Gd.run ?_ ?_; · decide +kernel) | (refine Gd.pass ?_ ?_; · decide +kernel) | refine Gd.both ?_) | (refine Br.pre ?_; first | refine Br.tt rfl ?_ | refine Br.ff rfl ?_ | refine Br.tt (by assumption) ?_ | refine Br.ff (by assumption) ?_ | (refine Br.tt ?_ ?_; · decide +kernel) | (refine Br.ff ?_ ?_; · decide +kernel)) | (refine Ck.pre ?_; first | refine Ck.drawn (by kernel_rfl) ?_ | refine Ck.mk rfl ?_) | (refine LetL.pre ?_; first | refine LetL.mk [_] rfl ?_ | refine LetL.mk _ rfl ?_) | (refine CallN.pre ?_; first | refine CallN.pure (New_no m hok) rfl rfl ?_ | refine CallN.pure (rNew_no m hok) rfl rfl ?_)))); (try (conv => whnf)))



    refine LoopN.weak (s1 := nilM l n j 0) (SW.mk id rfl rfl rfl ⟨.refl _, .refl _, .refl _, .refl _, .refl _, .refl _, .refl _, .refl _, trivial⟩ trivial) ?_
    refine LoopN.ind T_ok mixed (S := nilM l n j) (fun k => 40 - k) (fun k => k ≤ l.length ∧ k ≤ 40) (fun _ => rfl) (fun k hk ihk => ?_) 0 ⟨Nat.zero_le _, Nat.zero_le _⟩
    by_cases hlt : k < l.length ∧ k < 40
    case neg =>
      have hb : (bif decide ((k : Int) < ((l.map opA).length : Int)) then decide ((k : Int) < 40) else false) = false := by simp; omega
      clear ihk
      ((repeat ((conv => whnf); (first | (refine LetN.pre ?_; first | ((conv => arg 1; whnf); refine LetN.mk ?_)) | (refine As.pre ?_; first | refine As.mk rfl ?_ | (refine As.mk ?_ ?_; · decide +kernel) | refine As.mk (andT (nor_self _) rfl) ?_ | refine As.mk (andT (nor_self _) (or_t _)) ?_ | refine As.mk (andT (or_t _) (or_nself _)) ?_ | refine As.mk (andT (or_t _) (or_t _)) ?_ | refine As.mk (andT (nor_self _) (andT (nor_self _) rfl)) ?_ | (refine As.mk ?_ ?_; · ((repeat' (refine andT ?_ ?_)) <;> (first | rfl | assumption | exact decide_eq_true (by omega) | exact decide_eq_true (by dsimp only; omega) | exact decide_eq_true (by simp; omega) | (simp; done))))) | (refine LetV.pre ?_; first | refine LetV.mk (.sc (.int _ _)) rfl ?_ | refine LetV.mk (.sc (.bool _)) rfl ?_ | refine LetV.mk (.sc _) rfl ?_ | refine LetV.mk (.agg _) rfl ?_ | refine LetV.mk (.slm _ _ _ _ _) rfl ?_ | refine LetV.mk (.ro _ _ _) rfl ?_ | refine LetV.mk (.ptr _ _ _ _) rfl ?_) | (refine LetI.pre ?_; first | refine LetI.wrap (by omega) (by omega) ?_ | refine LetI.mk _ rfl ?_) | (refine LetB.pre ?_; first | refine LetB.tt rfl ?_ | refine LetB.ff rfl ?_ | refine LetB.tt (by assumption) ?_ | refine LetB.ff (by assumption) ?_ | refine LetB.dect (by omega) ?_ | refine LetB.decf (by omega) ?_ | refine LetB.beqt (by omega) ?_ | refine LetB.beqf (by omega) ?_ | refine LetB.bnet (by omega) ?_ | refine LetB.bnef (by omega) ?_ | refine LetB.mk _ rfl ?_) | (refine Gd.pre ?_; first | refine Gd.run rfl ?_ | refine Gd.pass rfl ?_ | refine Gd.run (by assumption) ?_ | refine Gd.pass (by assumption) ?_ | (refine Gd.run ?_ ?_; · decide +kernel) | (refine Gd.pass ?_ ?_; · decide +kernel) | refine Gd.both ?_) | (refine Br.pre ?_; first | refine Br.tt rfl ?_ | refine Br.ff rfl ?_ | refine Br.tt (by assumption) ?_ | refine Br.ff (by assumption) ?_ | (refine Br.tt ?_ ?_; · decide +kernel) | (refine Br.ff ?_ ?_; · decide +kernel)) | (refine Ck.pre ?_; first | refine Ck.drawn (by kernel_rfl) ?_ | refine Ck.mk rfl ?_) | (refine LetL.pre ?_; first | refine LetL.mk [_] rfl ?_ | refine LetL.mk _ rfl ?_)))); (try (conv => whnf)))
      refine LoopN.weak ?sw (ihj (j + 1) (by omega) (by omega))
      case sw => exact SW.mk id rfl rfl rfl ⟨.refl _, .refl _, .refl _, .refl _, VLe2.int (by simp), trivial⟩ trivial
    clear ihj
    have hb : (bif decide ((k : Int) < ((l.map opA).length : Int)) then decide ((k : Int) < 40) else false) = true := by simp; omega
    have hkl : k < (l.map opA).length := by simp; omega
    ((repeat ((conv => whnf); (first | (refine LetN.pre ?_; first | ((conv => arg 1; whnf); refine LetN.mk ?_)) | (refine As.pre ?_; first | refine As.mk rfl ?_ | (refine As.mk ?_ ?_; · decide +kernel) | refine As.mk (andT (nor_self _) rfl) ?_ | refine As.mk (andT (nor_self _) (or_t _)) ?_ | refine As.mk (andT (or_t _) (or_nself _)) ?_ | refine As.mk (andT (or_t _) (or_t _)) ?_ | refine As.mk (andT (nor_self _) (andT (nor_self _) rfl)) ?_ | (refine As.mk ?_ ?_; · ((repeat' (refine andT ?_ ?_)) <;> (first | rfl | assumption | exact decide_eq_true (by omega) | exact decide_eq_true (by dsimp only; omega) | exact decide_eq_true (by simp; omega) | (simp; done))))) | (refine LetV.pre ?_; first | refine LetV.mk (t := 22) _ (mapD (f := opA) (l := l) (i := k) o0 hlt.1) ?_ | refine LetV.mk (.sc (.int _ _)) rfl ?_ | refine LetV.mk (.sc (.bool _)) rfl ?_ | refine LetV.mk (.sc _) rfl ?_ | refine LetV.mk (.agg _) rfl ?_ | refine LetV.mk (.slm _ _ _ _ _) rfl ?_ | refine LetV.mk (.ro _ _ _) rfl ?_ | refine LetV.mk (.ptr _ _ _ _) rfl ?_) | (refine LetI.pre ?_; first | refine LetI.wrap (by omega) (by omega) ?_ | refine LetI.mk _ rfl ?_) | (refine LetB.pre ?_; first | refine LetB.tt rfl ?_ | refine LetB.ff rfl ?_ | refine LetB.tt (by assumption) ?_ | refine LetB.ff (by assumption) ?_ | refine LetB.dect (by omega) ?_ | refine LetB.decf (by omega) ?_ | refine LetB.beqt (by omega) ?_ | refine LetB.beqf (by omega) ?_ | refine LetB.bnet (by omega) ?_ | refine LetB.bnef (by omega) ?_ | refine LetB.mk _ rfl ?_) | (refine Gd.pre ?_; first | refine Gd.run rfl ?_ | refine Gd.pass rfl ?_ | refine Gd.run (by assumption) ?_ | refine Gd.pass (by assumption) ?_ | (refine Gd.run ?_ ?_; · decide +kernel) | (refine Gd.pass ?_ ?_; · decide +kernel) | refine Gd.both ?_) | (refine Br.pre ?_; first | refine Br.tt rfl ?_ | refine Br.ff rfl ?_ | refine Br.tt (by assumption) ?_ | refine Br.ff (by assumption) ?_ | (refine Br.tt ?_ ?_; · decide +kernel) | (refine Br.ff ?_ ?_; · decide +kernel)) | (refine Ck.pre ?_; first | refine Ck.drawn (by kernel_rfl) ?_ | refine Ck.mk rfl ?_) | (refine LetL.pre ?_; first | refine LetL.mk [_] rfl ?_ | refine LetL.mk _ rfl ?_) | (refine CallN.pre ?_; first | refine CallN.pure (Small_f _) rfl rfl ?_)))); (try (conv => whnf)))


    generalize l.getD k o0 = o
    refine LoopN.weak (s1 := nilI l n j k o 0) (SW.mk id rfl rfl rfl ⟨.refl _, .refl _, .refl _, .refl _, .refl _, .refl _, .refl _, .refl _, .refl _, .refl _, .refl _, trivial⟩ trivial) ?_
    refine LoopN.ind T_ok mixed (S := nilI l n j k o) (fun i => 2 - i) (fun i => i ≤ 2) (fun _ => rfl) (fun i hi ihi => ?_) 0 (Nat.zero_le _)
    by_cases hi2 : i < 2
    case neg =>
      obtain rfl : i = 2 := by omega
      clear ihi
      ((repeat ((conv => whnf); (first | (refine LetN.pre ?_; first | ((conv => arg 1; whnf); refine LetN.mk ?_)) | (refine As.pre ?_; first | refine As.mk rfl ?_ | (refine As.mk ?_ ?_; · decide +kernel) | refine As.mk (andT (nor_self _) rfl) ?_ | refine As.mk (andT (nor_self _) (or_t _)) ?_ | refine As.mk (andT (or_t _) (or_nself _)) ?_ | refine As.mk (andT (or_t _) (or_t _)) ?_ | refine As.mk (andT (nor_self _) (andT (nor_self _) rfl)) ?_ | (refine As.mk ?_ ?_; · ((repeat' (refine andT ?_ ?_)) <;> (first | rfl | assumption | exact decide_eq_true (by omega) | exact decide_eq_true (by dsimp only; omega) | exact decide_eq_true (by simp; omega) | (simp; done))))) | (refine LetV.pre ?_; first | refine LetV.mk (.sc (.int _ _)) rfl ?_ | refine LetV.mk (.sc (.bool _)) rfl ?_ | refine LetV.mk (.sc _) rfl ?_ | refine LetV.mk (.agg _) rfl ?_ | refine LetV.mk (.slm _ _ _ _ _) rfl ?_ | refine LetV.mk (.ro _ _ _) rfl ?_ | refine LetV.mk (.ptr _ _ _ _) rfl ?_) | (refine LetI.pre ?_; first | refine LetI.wrap (by omega) (by omega) ?_ | refine LetI.mk _ rfl ?_) | (refine LetB.pre ?_; first | refine LetB.tt rfl ?_ | refine LetB.ff rfl ?_ | refine LetB.tt (by assumption) ?_ | refine LetB.ff (by assumption) ?_ | refine LetB.dect (by omega) ?_ | refine LetB.decf (by omega) ?_ | refine LetB.beqt (by omega) ?_ | refine LetB.beqf (by omega) ?_ | refine LetB.bnet (by omega) ?_ | refine LetB.bnef (by omega) ?_ | refine LetB.mk _ rfl ?_) | (refine Gd.pre ?_; first | refine Gd.run rfl ?_ | refine Gd.pass rfl ?_ | refine Gd.run (by assumption) ?_ | refine Gd.pass (by assumption) ?_ | (refine Gd.run ?_ ?_; · decide +kernel) | (refine Gd.pass ?_ ?_; · decide +kernel) | refine Gd.both ?_) | (refine Br.pre ?_; first | refine Br.tt rfl ?_ | refine Br.ff rfl ?_ | refine Br.tt (by assumption) ?_ | refine Br.ff (by assumption) ?_ | (refine Br.tt ?_ ?_; · decide +kernel) | (refine Br.ff ?_ ?_; · decide +kernel)) | (refine Ck.pre ?_; first | refine Ck.drawn (by kernel_rfl) ?_ | refine Ck.mk rfl ?_) | (refine LetL.pre ?_; first | refine LetL.mk [_] rfl ?_ | refine LetL.mk _ rfl ?_)))); (try (conv => whnf)))
      refine LoopN.weak ?sw (ihk (k + 1) ⟨by omega, by omega⟩ (by omega))
      case sw => exact SW.mk id rfl rfl rfl ⟨.refl _, .refl _, .refl _, .refl _, VLe2.int (by simp), .refl _, .refl _, .refl _, trivial⟩ trivial
    clear ihk
    obtain ⟨⟨q0, A, B, y, body⟩, hq⟩ := h6 i o hi2
    have hil : i < [opA o, opA (small o)].length := hi2
    replace hq : AV.agg [.sc (.int .u8 q0), int A, int B, .sc (.bool y), .sc (.string body)] = [opA o, opA (small o)].getD i (.sc undef) := hq
    have hpar : AFun Try.prog 13 0 [.agg [.sc (.int .u8 q0), int A, int B, .sc (.bool y), .sc (.string body)]] [] (par (parOf (q0, A, B, y, body))) [] := Parcel_f (q0, A, B, y, body)
    generalize parOf (q0, A, B, y, body) = p at hpar
    generalize hkk : q0.tmod 6 = kk
    have hc : kk = 0 ∨ kk = 1 ∨ kk = 2 ∨ kk = 3 ∨ kk = 4 ∨ kk = 5 ∨ (kk ≠ 0 ∧ kk ≠ 1 ∧ kk ≠ 2 ∧ kk ≠ 3 ∧ kk ≠ 4 ∧ kk ≠ 5) := by omega
    rcases hc with hc | hc | hc | hc | hc | hc | hc
    all_goals
      ((repeat ((conv => whnf); (first | (refine LetN.pre ?_; first | ((conv => arg 1; whnf); refine LetN.mk ?_)) | (refine As.pre ?_; first | refine As.mk rfl ?_ | (refine As.mk ?_ ?_; · decide +kernel) | refine As.mk (andT (nor_self _) rfl) ?_ | refine As.mk (andT (nor_self _) (or_t _)) ?_ | refine As.mk (andT (or_t _) (or_nself _)) ?_ | refine As.mk (andT (or_t _) (or_t _)) ?_ | refine As.mk (andT (nor_self _) (andT (nor_self _) rfl)) ?_ | (refine As.mk ?_ ?_; · ((repeat' (refine andT ?_ ?_)) <;> (first | rfl | assumption | exact decide_eq_true (by omega) | exact decide_eq_true (by dsimp only; omega) | exact decide_eq_true (by simp; omega) | (simp; done))))) | (refine LetV.pre ?_; first | refine LetV.mk (t := 22) _ hq ?_ | refine LetV.mk (.sc (.int _ _)) rfl ?_ | refine LetV.mk (.sc (.bool _)) rfl ?_ | refine LetV.mk (.sc _) rfl ?_ | refine LetV.mk (.agg _) rfl ?_ | refine LetV.mk (.slm _ _ _ _ _) rfl ?_ | refine LetV.mk (.ro _ _ _) rfl ?_ | refine LetV.mk (.ptr _ _ _ _) rfl ?_) | (refine LetI.pre ?_; first | refine LetI.mk (o := some .rem) _ hkk.symm ?_ | refine LetI.wrap (by omega) (by omega) ?_ | refine LetI.mk _ rfl ?_) | (refine LetB.pre ?_; first | refine LetB.tt rfl ?_ | refine LetB.ff rfl ?_ | refine LetB.tt (by assumption) ?_ | refine LetB.ff (by assumption) ?_ | (refine LetB.mk (o := some .eql) true ?_ ?_; · (simp; done)) | refine LetB.ff (bne_self_eq_false _) ?_ | refine LetB.dect (by omega) ?_ | refine LetB.decf (by omega) ?_ | refine LetB.beqt (by omega) ?_ | refine LetB.beqf (by omega) ?_ | refine LetB.bnet (by omega) ?_ | refine LetB.bnef (by omega) ?_ | refine LetB.mk _ rfl ?_) | (refine Gd.pre ?_; first | refine Gd.run rfl ?_ | refine Gd.pass rfl ?_ | refine Gd.run (by assumption) ?_ | refine Gd.pass (by assumption) ?_ | (refine Gd.run ?_ ?_; · decide +kernel) | (refine Gd.pass ?_ ?_; · decide +kernel) | refine Gd.both ?_) | (refine Br.pre ?_; first | refine Br.tt rfl ?_ | refine Br.ff rfl ?_ | refine Br.tt (by assumption) ?_ | refine Br.ff (by assumption) ?_ | (refine Br.tt ?_ ?_; · decide +kernel) | (refine Br.ff ?_ ?_; · decide +kernel)) | (refine Ck.pre ?_; first | refine Ck.drawn (by kernel_rfl) ?_ | refine Ck.mk rfl ?_) | (refine LetL.pre ?_; first | refine LetL.mk [_] rfl ?_ | refine LetL.mk _ rfl ?_) | (refine CallN.pre ?_; first | refine CallN.pure hpar rfl rfl ?_ | refine CallN.pure (nSend _) rfl rfl ?_ | refine CallN.pure (nrSend _) rfl rfl ?_ | refine CallN.pure (nTake _ _) rfl rfl ?_ | refine CallN.pure (nrTake _ _) rfl rfl ?_ | refine CallN.pure (nCut _ _ _) rfl rfl ?_ | refine CallN.pure (nrCut _ _ _) rfl rfl ?_ | refine CallN.pure (nLose _) rfl rfl ?_ | refine CallN.pure (nrLose _) rfl rfl ?_ | refine CallN.pure (nLinked _ _) rfl rfl ?_ | refine CallN.pure (nrLinked _ _) rfl rfl ?_ | refine CallN.pure nWaiting rfl rfl ?_ | refine CallN.pure nrWaiting rfl rfl ?_ | refine CallN.pure nSame rfl rfl ?_)))); (try (conv => whnf)))


















      refine LoopN.weak ?sw (ihi (i + 1) (by omega) (by omega))
      case sw => exact SW.mk id rfl rfl rfl ⟨.refl _, .refl _, .refl _, .refl _, .refl _, .refl _, .refl _, .refl _, .refl _, .refl _, VLe2.int (by simp), trivial⟩ trivial
  obtain ⟨hm1, hm8⟩ := hok
  have hm0 : (m == 0) = false := by simp; omega
  ((repeat ((conv => whnf); (first | (refine LetN.pre ?_; first | ((conv => arg 1; whnf); refine LetN.mk ?_)) | (refine As.pre ?_; first | refine As.mk rfl ?_ | (refine As.mk ?_ ?_; · decide +kernel) | refine As.mk (andT (nor_self _) rfl) ?_ | refine As.mk (andT (nor_self _) (or_t _)) ?_ | refine As.mk (andT (or_t _) (or_nself _)) ?_ | refine As.mk (andT (or_t _) (or_t _)) ?_ | refine As.mk (andT (nor_self _) (andT (nor_self _) rfl)) ?_ | (refine As.mk ?_ ?_; · ((repeat' (refine andT ?_ ?_)) <;> (first | rfl | assumption | exact decide_eq_true (by omega) | exact decide_eq_true (by dsimp only; omega) | exact decide_eq_true (by simp; omega) | (simp; done))))) | (refine LetV.pre ?_; first | refine LetV.mk (t := 47) (int m) hm ?_ | refine LetV.mk (.sc (.int _ _)) rfl ?_ | refine LetV.mk (.sc (.bool _)) rfl ?_ | refine LetV.mk (.sc _) rfl ?_ | refine LetV.mk (.agg _) rfl ?_ | refine LetV.mk (.slm _ _ _ _ _) rfl ?_ | refine LetV.mk (.ro _ _ _) rfl ?_ | refine LetV.mk (.ptr _ _ _ _) rfl ?_) | (refine LetI.pre ?_; first | refine LetI.wrap (by omega) (by omega) ?_ | refine LetI.mk _ rfl ?_) | (refine LetB.pre ?_; first | refine LetB.tt rfl ?_ | refine LetB.ff rfl ?_ | refine LetB.tt (by assumption) ?_ | refine LetB.ff (by assumption) ?_ | refine LetB.dect (by omega) ?_ | refine LetB.decf (by omega) ?_ | refine LetB.beqt (by omega) ?_ | refine LetB.beqf (by omega) ?_ | refine LetB.bnet (by omega) ?_ | refine LetB.bnef (by omega) ?_ | refine LetB.mk _ rfl ?_) | (refine Gd.pre ?_; first | refine Gd.run rfl ?_ | refine Gd.pass rfl ?_ | refine Gd.run (by assumption) ?_ | refine Gd.pass (by assumption) ?_ | (refine Gd.run ?_ ?_; · decide +kernel) | (refine Gd.pass ?_ ?_; · decide +kernel) | refine Gd.both ?_) | (refine Br.pre ?_; first | refine Br.tt rfl ?_ | refine Br.ff rfl ?_ | refine Br.tt (by assumption) ?_ | refine Br.ff (by assumption) ?_ | (refine Br.tt ?_ ?_; · decide +kernel) | (refine Br.ff ?_ ?_; · decide +kernel)) | (refine Ck.pre ?_; first | refine Ck.drawn (by kernel_rfl) ?_ | refine Ck.mk rfl ?_) | (refine LetL.pre ?_; first | refine LetL.mk [_] rfl ?_ | refine LetL.mk _ rfl ?_) | (refine CallN.pre ?_; first | refine CallN.own id (New_ok m hm1 hm8) (CallOk.mk' rfl rfl rfl rfl rfl rfl trivial) ?_ | refine CallN.own (fun i => i + 2) (rNew_ok m hm1 hm8) (CallOk.mk' rfl rfl rfl rfl rfl rfl trivial) ?_)))); (try (conv => whnf)))



  refine LoopN.weak (s1 := midS l n m j (0, c0, [], [])) (SW.mk id rfl rfl (playNames _ _ _ _ _ rfl rfl rfl) ⟨.refl _, .refl _, .refl _, .refl _, .refl _, .refl _, .refl _, .refl _, trivial⟩ (haveV.one rfl (haveV.one rfl (haveV.one rfl (haveV.one rfl (haveV.one rfl trivial)))))) ?_
  refine LoopN.ind T_ok mixed (S := midS l n m j) (fun i => 40 - i.1) (fun i => i.1 ≤ l.length ∧ i.1 ≤ 40 ∧ i.2.2.1.length ≤ 2 * i.1 ∧ i.2.2.2.length ≤ 2 * i.1 ∧ Rel m i.2.1 i.2.2.2 ∧ ∀ p ∈ i.2.2.1, Okp m p.1 p.2.1) (fun ⟨_, _, _, _⟩ => rfl) (fun i hi ihk => ?_) (0, c0, [], []) ⟨Nat.zero_le _, Nat.zero_le _, Nat.zero_le _, Nat.zero_le _, Rel.nil m, fun p hp => by cases hp⟩
  obtain ⟨k, cu, ps, cl⟩ := i
  obtain ⟨k1, k2, k3, k4, k5, k6⟩ := hi
  simp only at k1 k2 k3 k4 k5 k6
  by_cases hlt : k < l.length ∧ k < 40
  case neg =>
    have hb : (bif decide ((k : Int) < ((l.map opA).length : Int)) then decide ((k : Int) < 40) else false) = false := by simp; omega
    clear ihk
    ((repeat ((conv => whnf); (first | (refine LetN.pre ?_; first | ((conv => arg 1; whnf); refine LetN.mk ?_)) | (refine As.pre ?_; first | refine As.mk rfl ?_ | (refine As.mk ?_ ?_; · decide +kernel) | refine As.mk (andT (nor_self _) rfl) ?_ | refine As.mk (andT (nor_self _) (or_t _)) ?_ | refine As.mk (andT (or_t _) (or_nself _)) ?_ | refine As.mk (andT (or_t _) (or_t _)) ?_ | refine As.mk (andT (nor_self _) (andT (nor_self _) rfl)) ?_ | (refine As.mk ?_ ?_; · ((repeat' (refine andT ?_ ?_)) <;> (first | rfl | assumption | exact decide_eq_true (by omega) | exact decide_eq_true (by dsimp only; omega) | exact decide_eq_true (by simp; omega) | (simp; done))))) | (refine LetV.pre ?_; first | refine LetV.mk (.sc (.int _ _)) rfl ?_ | refine LetV.mk (.sc (.bool _)) rfl ?_ | refine LetV.mk (.sc _) rfl ?_ | refine LetV.mk (.agg _) rfl ?_ | refine LetV.mk (.slm _ _ _ _ _) rfl ?_ | refine LetV.mk (.ro _ _ _) rfl ?_ | refine LetV.mk (.ptr _ _ _ _) rfl ?_) | (refine LetI.pre ?_; first | refine LetI.wrap (by omega) (by omega) ?_ | refine LetI.mk _ rfl ?_) | (refine LetB.pre ?_; first | refine LetB.tt rfl ?_ | refine LetB.ff rfl ?_ | refine LetB.tt (by assumption) ?_ | refine LetB.ff (by assumption) ?_ | refine LetB.dect (by omega) ?_ | refine LetB.decf (by omega) ?_ | refine LetB.beqt (by omega) ?_ | refine LetB.beqf (by omega) ?_ | refine LetB.bnet (by omega) ?_ | refine LetB.bnef (by omega) ?_ | refine LetB.mk _ rfl ?_) | (refine Gd.pre ?_; first | refine Gd.run rfl ?_ | refine Gd.pass rfl ?_ | refine Gd.run (by assumption) ?_ | refine Gd.pass (by assumption) ?_ | (refine Gd.run ?_ ?_; · decide +kernel) | (refine Gd.pass ?_ ?_; · decide +kernel) | refine Gd.both ?_) | (refine Br.pre ?_; first | refine Br.tt rfl ?_ | refine Br.ff rfl ?_ | refine Br.tt (by assumption) ?_ | refine Br.ff (by assumption) ?_ | (refine Br.tt ?_ ?_; · decide +kernel) | (refine Br.ff ?_ ?_; · decide +kernel)) | (refine Ck.pre ?_; first | refine Ck.drawn (by kernel_rfl) ?_ | refine Ck.mk rfl ?_) | (refine LetL.pre ?_; first | refine LetL.mk [_] rfl ?_ | refine LetL.mk _ rfl ?_)))); (try (conv => whnf)))
    refine LoopN.weak ?sw (ihj (j + 1) (by omega) (by omega))
    case sw => exact SW.mk id rfl rfl rfl ⟨.refl _, .refl _, .refl _, .refl _, VLe2.int (by simp), trivial⟩ trivial
  clear ihj
  have hb : (bif decide ((k : Int) < ((l.map opA).length : Int)) then decide ((k : Int) < 40) else false) = true := by simp; omega
  have hkl : k < (l.map opA).length := by simp; omega
  ((repeat ((conv => whnf); (first | (refine LetN.pre ?_; first | ((conv => arg 1; whnf); refine LetN.mk ?_)) | (refine As.pre ?_; first | refine As.mk rfl ?_ | (refine As.mk ?_ ?_; · decide +kernel) | refine As.mk (andT (nor_self _) rfl) ?_ | refine As.mk (andT (nor_self _) (or_t _)) ?_ | refine As.mk (andT (or_t _) (or_nself _)) ?_ | refine As.mk (andT (or_t _) (or_t _)) ?_ | refine As.mk (andT (nor_self _) (andT (nor_self _) rfl)) ?_ | (refine As.mk ?_ ?_; · ((repeat' (refine andT ?_ ?_)) <;> (first | rfl | assumption | exact decide_eq_true (by omega) | exact decide_eq_true (by dsimp only; omega) | exact decide_eq_true (by simp; omega) | (simp; done))))) | (refine LetV.pre ?_; first | refine LetV.mk (t := 22) _ (mapD (f := opA) (l := l) (i := k) o0 hlt.1) ?_ | refine LetV.mk (.sc (.int _ _)) rfl ?_ | refine LetV.mk (.sc (.bool _)) rfl ?_ | refine LetV.mk (.sc _) rfl ?_ | refine LetV.mk (.agg _) rfl ?_ | refine LetV.mk (.slm _ _ _ _ _) rfl ?_ | refine LetV.mk (.ro _ _ _) rfl ?_ | refine LetV.mk (.ptr _ _ _ _) rfl ?_) | (refine LetI.pre ?_; first | refine LetI.wrap (by omega) (by omega) ?_ | refine LetI.mk _ rfl ?_) | (refine LetB.pre ?_; first | refine LetB.tt rfl ?_ | refine LetB.ff rfl ?_ | refine LetB.tt (by assumption) ?_ | refine LetB.ff (by assumption) ?_ | refine LetB.dect (by omega) ?_ | refine LetB.decf (by omega) ?_ | refine LetB.beqt (by omega) ?_ | refine LetB.beqf (by omega) ?_ | refine LetB.bnet (by omega) ?_ | refine LetB.bnef (by omega) ?_ | refine LetB.mk _ rfl ?_) | (refine Gd.pre ?_; first | refine Gd.run rfl ?_ | refine Gd.pass rfl ?_ | refine Gd.run (by assumption) ?_ | refine Gd.pass (by assumption) ?_ | (refine Gd.run ?_ ?_; · decide +kernel) | (refine Gd.pass ?_ ?_; · decide +kernel) | refine Gd.both ?_) | (refine Br.pre ?_; first | refine Br.tt rfl ?_ | refine Br.ff rfl ?_ | refine Br.tt (by assumption) ?_ | refine Br.ff (by assumption) ?_ | (refine Br.tt ?_ ?_; · decide +kernel) | (refine Br.ff ?_ ?_; · decide +kernel)) | (refine Ck.pre ?_; first | refine Ck.drawn (by kernel_rfl) ?_ | refine Ck.mk rfl ?_) | (refine LetL.pre ?_; first | refine LetL.mk [_] rfl ?_ | refine LetL.mk _ rfl ?_) | (refine CallN.pre ?_; first | refine CallN.pure (Small_f _) rfl rfl ?_)))); (try (conv => whnf)))


  generalize l.getD k o0 = o
  refine LoopN.weak (s1 := inS l n m j k o (0, cu, ps, cl)) (SW.mk id rfl rfl (playNames _ _ _ _ _ rfl rfl rfl) ⟨.refl _, .refl _, .refl _, .refl _, .refl _, .refl _, .refl _, .refl _, .refl _, .refl _, .refl _, trivial⟩ (haveV.one rfl (haveV.row (pure_par _) rfl (haveV.one rfl (haveV.row (pure_pr _) rfl (haveV.row (pure_par _) rfl trivial)))))) ?_
  refine LoopN.ind T_ok mixed (S := inS l n m j k o) (fun i => 2 - i.1) (fun i => i.1 ≤ 2 ∧ i.2.2.1.length ≤ 2 * k + i.1 ∧ i.2.2.2.length ≤ 2 * k + i.1 ∧ Rel m i.2.1 i.2.2.2 ∧ ∀ p ∈ i.2.2.1, Okp m p.1 p.2.1) (fun ⟨_, _, _, _⟩ => rfl) (fun i hi ihi => ?_) (0, cu, ps, cl) ⟨Nat.zero_le _, k3, k4, k5, k6⟩
  clear k3 k4 k5 k6
  obtain ⟨i, cu, ps, cl⟩ := i
  obtain ⟨i1, i3, i4, i5, i6⟩ := hi
  simp only at i1 i3 i4 i5 i6
  by_cases hi2 : i < 2
  case neg =>
    obtain rfl : i = 2 := by omega
    clear ihi
    ((repeat ((conv => whnf); (first | (refine LetN.pre ?_; first | ((conv => arg 1; whnf); refine LetN.mk ?_)) | (refine As.pre ?_; first | refine As.mk rfl ?_ | (refine As.mk ?_ ?_; · decide +kernel) | refine As.mk (andT (nor_self _) rfl) ?_ | refine As.mk (andT (nor_self _) (or_t _)) ?_ | refine As.mk (andT (or_t _) (or_nself _)) ?_ | refine As.mk (andT (or_t _) (or_t _)) ?_ | refine As.mk (andT (nor_self _) (andT (nor_self _) rfl)) ?_ | (refine As.mk ?_ ?_; · ((repeat' (refine andT ?_ ?_)) <;> (first | rfl | assumption | exact decide_eq_true (by omega) | exact decide_eq_true (by dsimp only; omega) | exact decide_eq_true (by simp; omega) | (simp; done))))) | (refine LetV.pre ?_; first | refine LetV.mk (.sc (.int _ _)) rfl ?_ | refine LetV.mk (.sc (.bool _)) rfl ?_ | refine LetV.mk (.sc _) rfl ?_ | refine LetV.mk (.agg _) rfl ?_ | refine LetV.mk (.slm _ _ _ _ _) rfl ?_ | refine LetV.mk (.ro _ _ _) rfl ?_ | refine LetV.mk (.ptr _ _ _ _) rfl ?_) | (refine LetI.pre ?_; first | refine LetI.wrap (by omega) (by omega) ?_ | refine LetI.mk _ rfl ?_) | (refine LetB.pre ?_; first | refine LetB.tt rfl ?_ | refine LetB.ff rfl ?_ | refine LetB.tt (by assumption) ?_ | refine LetB.ff (by assumption) ?_ | refine LetB.dect (by omega) ?_ | refine LetB.decf (by omega) ?_ | refine LetB.beqt (by omega) ?_ | refine LetB.beqf (by omega) ?_ | refine LetB.bnet (by omega) ?_ | refine LetB.bnef (by omega) ?_ | refine LetB.mk _ rfl ?_) | (refine Gd.pre ?_; first | refine Gd.run rfl ?_ | refine Gd.pass rfl ?_ | refine Gd.run (by assumption) ?_ | refine Gd.pass (by assumption) ?_ | (refine Gd.run ?_ ?_; · decide +kernel) | (refine Gd.pass ?_ ?_; · decide +kernel) | refine Gd.both ?_) | (refine Br.pre ?_; first | refine Br.tt rfl ?_ | refine Br.ff rfl ?_ | refine Br.tt (by assumption) ?_ | refine Br.ff (by assumption) ?_ | (refine Br.tt ?_ ?_; · decide +kernel) | (refine Br.ff ?_ ?_; · decide +kernel)) | (refine Ck.pre ?_; first | refine Ck.drawn (by kernel_rfl) ?_ | refine Ck.mk rfl ?_) | (refine LetL.pre ?_; first | refine LetL.mk [_] rfl ?_ | refine LetL.mk _ rfl ?_)))); (try (conv => whnf)))
    refine LoopN.weak ?sw (ihk (k + 1, cu, ps, cl) ⟨by simp; omega, by simp; omega, by simp; omega, by simp; omega, i5, i6⟩ (by simp; omega))
    case sw => exact SW.mk id rfl rfl (playNames _ _ _ _ _ rfl rfl rfl) ⟨.refl _, .refl _, .refl _, .refl _, VLe2.int (by simp), .refl _, .refl _, .refl _, trivial⟩ (haveV.one rfl (haveV.row (pure_par _) rfl (haveV.one rfl (haveV.row (pure_pr _) rfl (haveV.row (pure_par _) rfl trivial)))))
  clear ihk
  obtain ⟨⟨q0, A, B, y, body⟩, hq⟩ := h6 i o hi2
  have hil : i < [opA o, opA (small o)].length := hi2
  replace hq : AV.agg [.sc (.int .u8 q0), int A, int B, .sc (.bool y), .sc (.string body)] = [opA o, opA (small o)].getD i (.sc undef) := hq
  have hpar : AFun Try.prog 13 0 [.agg [.sc (.int .u8 q0), int A, int B, .sc (.bool y), .sc (.string body)]] [] (par (parOf (q0, A, B, y, body))) [] := Parcel_f (q0, A, B, y, body)
  have hpsz : (parOf (q0, A, B, y, body)).2.2.size ≤ 20 := cut20_size body
  generalize parOf (q0, A, B, y, body) = p at hpar hpsz
  have hl1000 : cl.length ≤ 1000 := by omega
  have hl200 : ps.length ≤ 200 := by omega
  have hs200 : ¬ (262144 < p.2.2.size ∨ 200 ≤ ps.length) := by omega
  have hsame : AFun Try.prog 18 0 [.ro {} 3 (ps.map par), .ro {} 3 (ps.map par)] [] (bl true) [] := by
    have := Same_f ps ps {} {} (by omega)
    rwa [sameB_self] at this
  generalize hkk : q0.tmod 6 = kk
  have hc : (kk = 0 ∨ kk = 1) ∨ (kk = 2 ∨ kk = 3) ∨ kk = 4 ∨ kk = 5 ∨ (kk ≠ 0 ∧ kk ≠ 1 ∧ kk ≠ 2 ∧ kk ≠ 3 ∧ kk ≠ 4 ∧ kk ≠ 5) := by omega
  rcases hc with hc | hc | hc | hc | hc
  · by_cases hg : Okp m p.1 p.2.1
    case neg =>
      rcases hc with hc | hc
      all_goals
        obtain ⟨r, lk1, lk2⟩ := ends hm0 hm8 i5 ps (by omega) A B
        ((repeat ((conv => whnf); (first | (refine LetN.pre ?_; first | ((conv => arg 1; whnf); refine LetN.mk ?_)) | (refine As.pre ?_; first | refine As.mk rfl ?_ | (refine As.mk ?_ ?_; · decide +kernel) | refine As.mk (andT (nor_self _) rfl) ?_ | refine As.mk (andT (nor_self _) (or_t _)) ?_ | refine As.mk (andT (or_t _) (or_nself _)) ?_ | refine As.mk (andT (or_t _) (or_t _)) ?_ | refine As.mk (andT (nor_self _) (andT (nor_self _) rfl)) ?_ | (refine As.mk ?_ ?_; · ((repeat' (refine andT ?_ ?_)) <;> (first | rfl | assumption | exact decide_eq_true (by omega) | exact decide_eq_true (by dsimp only; omega) | exact decide_eq_true (by simp; omega) | (simp; done))))) | (refine LetV.pre ?_; first | refine LetV.mk (t := 22) _ hq ?_ | refine LetV.mk (.sc (.int _ _)) rfl ?_ | refine LetV.mk (.sc (.bool _)) rfl ?_ | refine LetV.mk (.sc _) rfl ?_ | refine LetV.mk (.agg _) rfl ?_ | refine LetV.mk (.slm _ _ _ _ _) rfl ?_ | refine LetV.mk (.ro _ _ _) rfl ?_ | refine LetV.mk (.ptr _ _ _ _) rfl ?_) | (refine LetI.pre ?_; first | refine LetI.mk (o := some .rem) _ hkk.symm ?_ | refine LetI.wrap (by omega) (by omega) ?_ | refine LetI.mk _ rfl ?_) | (refine LetB.pre ?_; first | refine LetB.tt rfl ?_ | refine LetB.ff rfl ?_ | refine LetB.tt (by assumption) ?_ | refine LetB.ff (by assumption) ?_ | (refine LetB.mk (o := some .eql) true ?_ ?_; · (simp; done)) | refine LetB.ff (bne_self_eq_false _) ?_ | refine LetB.dect (by omega) ?_ | refine LetB.decf (by omega) ?_ | refine LetB.beqt (by omega) ?_ | refine LetB.beqf (by omega) ?_ | refine LetB.bnet (by omega) ?_ | refine LetB.bnef (by omega) ?_ | refine LetB.mk _ rfl ?_) | (refine Gd.pre ?_; first | refine Gd.run rfl ?_ | refine Gd.pass rfl ?_ | refine Gd.run (by assumption) ?_ | refine Gd.pass (by assumption) ?_ | (refine Gd.run ?_ ?_; · decide +kernel) | (refine Gd.pass ?_ ?_; · decide +kernel) | refine Gd.both ?_) | (refine Br.pre ?_; first | refine Br.tt rfl ?_ | refine Br.ff rfl ?_ | refine Br.tt (by assumption) ?_ | refine Br.ff (by assumption) ?_ | (refine Br.tt ?_ ?_; · decide +kernel) | (refine Br.ff ?_ ?_; · decide +kernel)) | (refine Ck.pre ?_; first | refine Ck.drawn (by kernel_rfl) ?_ | refine Ck.mk rfl ?_) | (refine LetL.pre ?_; first | refine LetL.mk (ty := 33) _ (renL_none (pure_par _)).symm ?_ | refine LetL.mk (ty := 63) _ (renL_none (pure_pr _)).symm ?_ | refine LetL.mk [_] rfl ?_ | refine LetL.mk _ rfl ?_) | (refine CallN.pre ?_; first | refine CallN.pure hpar rfl rfl ?_ | refine CallN.read id (Send_no m cu ps hm0 p (fun hh => hg (Good_iff.1 hh))) (netOk' m cu ps rfl rfl rfl rfl rfl rfl) ?_ | refine CallN.read (fun i => if i = 0 then 2 else if i = 1 then 3 else 4) (rSend_no m cl ps hg) (rOk (q1 := 1) (q2 := 2) m cl ps rfl rfl rfl rfl rfl rfl rfl) ?_ | refine CallN.read id lk1 (netOk' m _ _ rfl rfl rfl rfl rfl rfl) ?_ | refine CallN.read (fun i => if i = 0 then 2 else if i = 1 then 3 else 4) lk2 (rOk (q1 := 1) (q2 := 2) m _ _ rfl rfl rfl rfl rfl rfl rfl) ?_ | refine CallN.read id (Waiting_f m cu ps hm0 (by omega)) (netOk' m _ _ rfl rfl rfl rfl rfl rfl) ?_ | refine CallN.read (fun i => if i = 0 then 2 else if i = 1 then 3 else 4) (rWaiting_ro m cl ps (by omega)) (rOk (q1 := 1) (q2 := 2) m _ _ rfl rfl rfl rfl rfl rfl rfl) ?_ | refine CallN.pure hsame rfl rfl ?_)))); (try (conv => whnf)))














        refine LoopN.weak ?sw (ihi (i + 1, cu, ps, cl) ⟨by simp; omega, by simp; omega, by simp; omega, i5, i6⟩ (by simp; omega))
        case sw => exact SW.mk (id) rfl rfl (playNames _ _ _ _ _ rfl rfl rfl) ⟨.refl _, .refl _, .refl _, .refl _, .refl _, .refl _, .refl _, .refl _, .refl _, .refl _, VLe2.int (by simp), trivial⟩ (haveV.one rfl (haveV.row (pure_par _) rfl (haveV.one rfl (haveV.row (pure_pr _) rfl (haveV.row (pure_par _) rfl trivial)))))
    have hG := Good_iff.2 hg
    cases hbit : (cu p.1.toNat).getLsbD p.2.1.toNat
    case true =>
      have hcm := (i5.mem _ _ hg).1 hbit
      rcases hc with hc | hc
      all_goals
        obtain ⟨r, lk1, lk2⟩ := ends hm0 hm8 i5 ps (by omega) A B
        ((repeat ((conv => whnf); (first | (refine LetN.pre ?_; first | ((conv => arg 1; whnf); refine LetN.mk ?_)) | (refine As.pre ?_; first | refine As.mk rfl ?_ | (refine As.mk ?_ ?_; · decide +kernel) | refine As.mk (andT (nor_self _) rfl) ?_ | refine As.mk (andT (nor_self _) (or_t _)) ?_ | refine As.mk (andT (or_t _) (or_nself _)) ?_ | refine As.mk (andT (or_t _) (or_t _)) ?_ | refine As.mk (andT (nor_self _) (andT (nor_self _) rfl)) ?_ | (refine As.mk ?_ ?_; · ((repeat' (refine andT ?_ ?_)) <;> (first | rfl | assumption | exact decide_eq_true (by omega) | exact decide_eq_true (by dsimp only; omega) | exact decide_eq_true (by simp; omega) | (simp; done))))) | (refine LetV.pre ?_; first | refine LetV.mk (t := 22) _ hq ?_ | refine LetV.mk (.sc (.int _ _)) rfl ?_ | refine LetV.mk (.sc (.bool _)) rfl ?_ | refine LetV.mk (.sc _) rfl ?_ | refine LetV.mk (.agg _) rfl ?_ | refine LetV.mk (.slm _ _ _ _ _) rfl ?_ | refine LetV.mk (.ro _ _ _) rfl ?_ | refine LetV.mk (.ptr _ _ _ _) rfl ?_) | (refine LetI.pre ?_; first | refine LetI.mk (o := some .rem) _ hkk.symm ?_ | refine LetI.wrap (by omega) (by omega) ?_ | refine LetI.mk _ rfl ?_) | (refine LetB.pre ?_; first | refine LetB.tt rfl ?_ | refine LetB.ff rfl ?_ | refine LetB.tt (by assumption) ?_ | refine LetB.ff (by assumption) ?_ | (refine LetB.mk (o := some .eql) true ?_ ?_; · (simp; done)) | refine LetB.ff (bne_self_eq_false _) ?_ | refine LetB.dect (by omega) ?_ | refine LetB.decf (by omega) ?_ | refine LetB.beqt (by omega) ?_ | refine LetB.beqf (by omega) ?_ | refine LetB.bnet (by omega) ?_ | refine LetB.bnef (by omega) ?_ | refine LetB.mk _ rfl ?_) | (refine Gd.pre ?_; first | refine Gd.run rfl ?_ | refine Gd.pass rfl ?_ | refine Gd.run (by assumption) ?_ | refine Gd.pass (by assumption) ?_ | (refine Gd.run ?_ ?_; · decide +kernel) | (refine Gd.pass ?_ ?_; · decide +kernel) | refine Gd.both ?_) | (refine Br.pre ?_; first | refine Br.tt rfl ?_ | refine Br.ff rfl ?_ | refine Br.tt (by assumption) ?_ | refine Br.ff (by assumption) ?_ | (refine Br.tt ?_ ?_; · decide +kernel) | (refine Br.ff ?_ ?_; · decide +kernel)) | (refine Ck.pre ?_; first | refine Ck.drawn (by kernel_rfl) ?_ | refine Ck.mk rfl ?_) | (refine LetL.pre ?_; first | refine LetL.mk (ty := 33) _ (renL_none (pure_par _)).symm ?_ | refine LetL.mk (ty := 63) _ (renL_none (pure_pr _)).symm ?_ | refine LetL.mk [_] rfl ?_ | refine LetL.mk _ rfl ?_) | (refine CallN.pre ?_; first | refine CallN.pure hpar rfl rfl ?_ | refine CallN.read id (Send_cut m cu ps hm0 hm8 p hG hs200 hbit) (netOk' m cu ps rfl rfl rfl rfl rfl rfl) ?_ | refine CallN.read (fun i => if i = 0 then 2 else if i = 1 then 3 else 4) (rSend_cut m cl ps hg hs200 hl1000 hcm) (rOk (q1 := 1) (q2 := 2) m cl ps rfl rfl rfl rfl rfl rfl rfl) ?_ | refine CallN.read id lk1 (netOk' m _ _ rfl rfl rfl rfl rfl rfl) ?_ | refine CallN.read (fun i => if i = 0 then 2 else if i = 1 then 3 else 4) lk2 (rOk (q1 := 1) (q2 := 2) m _ _ rfl rfl rfl rfl rfl rfl rfl) ?_ | refine CallN.read id (Waiting_f m cu ps hm0 (by omega)) (netOk' m _ _ rfl rfl rfl rfl rfl rfl) ?_ | refine CallN.read (fun i => if i = 0 then 2 else if i = 1 then 3 else 4) (rWaiting_ro m cl ps (by omega)) (rOk (q1 := 1) (q2 := 2) m _ _ rfl rfl rfl rfl rfl rfl rfl) ?_ | refine CallN.pure hsame rfl rfl ?_)))); (try (conv => whnf)))














        refine LoopN.weak ?sw (ihi (i + 1, cu, ps, cl) ⟨by simp; omega, by simp; omega, by simp; omega, i5, i6⟩ (by simp; omega))
        case sw => exact SW.mk (id) rfl rfl (playNames _ _ _ _ _ rfl rfl rfl) ⟨.refl _, .refl _, .refl _, .refl _, .refl _, .refl _, .refl _, .refl _, .refl _, .refl _, VLe2.int (by simp), trivial⟩ (haveV.one rfl (haveV.row (pure_par _) rfl (haveV.one rfl (haveV.row (pure_pr _) rfl (haveV.row (pure_par _) rfl trivial)))))
    have hcm : prOf p.1 p.2.1 ∉ cl := fun hh => by
      have := (i5.mem _ _ hg).2 hh
      rw [hbit] at this; cases this
    have hsame2 : AFun Try.prog 18 0 [.ro {} 3 ((ps ++ [p]).map par), .ro {} 3 ((ps ++ [p]).map par)] [] (bl true) [] := by
      have := Same_f (ps ++ [p]) (ps ++ [p]) {} {} (by simp; omega)
      rwa [sameB_self] at this
    have i6' : ∀ r ∈ ps ++ [p], Okp m r.1 r.2.1 := fun r hr => by
      rcases List.mem_append.1 hr with hr | hr
      · exact i6 r hr
      · simp only [List.mem_singleton] at hr; subst hr; exact hg
    rcases hc with hc | hc
    all_goals
      obtain ⟨r, lk1, lk2⟩ := ends hm0 hm8 i5 (ps ++ [p]) (by omega) A B
      ((repeat ((conv => whnf); (first | (refine LetN.pre ?_; first | ((conv => arg 1; whnf); refine LetN.mk ?_)) | (refine As.pre ?_; first | refine As.mk rfl ?_ | (refine As.mk ?_ ?_; · decide +kernel) | refine As.mk (andT (nor_self _) rfl) ?_ | refine As.mk (andT (nor_self _) (or_t _)) ?_ | refine As.mk (andT (or_t _) (or_nself _)) ?_ | refine As.mk (andT (or_t _) (or_t _)) ?_ | refine As.mk (andT (nor_self _) (andT (nor_self _) rfl)) ?_ | (refine As.mk ?_ ?_; · ((repeat' (refine andT ?_ ?_)) <;> (first | rfl | assumption | exact decide_eq_true (by omega) | exact decide_eq_true (by dsimp only; omega) | exact decide_eq_true (by simp; omega) | (simp; done))))) | (refine LetV.pre ?_; first | refine LetV.mk (t := 22) _ hq ?_ | refine LetV.mk (.sc (.int _ _)) rfl ?_ | refine LetV.mk (.sc (.bool _)) rfl ?_ | refine LetV.mk (.sc _) rfl ?_ | refine LetV.mk (.agg _) rfl ?_ | refine LetV.mk (.slm _ _ _ _ _) rfl ?_ | refine LetV.mk (.ro _ _ _) rfl ?_ | refine LetV.mk (.ptr _ _ _ _) rfl ?_) | (refine LetI.pre ?_; first | refine LetI.mk (o := some .rem) _ hkk.symm ?_ | refine LetI.wrap (by omega) (by omega) ?_ | refine LetI.mk _ rfl ?_) | (refine LetB.pre ?_; first | refine LetB.tt rfl ?_ | refine LetB.ff rfl ?_ | refine LetB.tt (by assumption) ?_ | refine LetB.ff (by assumption) ?_ | (refine LetB.mk (o := some .eql) true ?_ ?_; · (simp; done)) | refine LetB.ff (bne_self_eq_false _) ?_ | refine LetB.dect (by omega) ?_ | refine LetB.decf (by omega) ?_ | refine LetB.beqt (by omega) ?_ | refine LetB.beqf (by omega) ?_ | refine LetB.bnet (by omega) ?_ | refine LetB.bnef (by omega) ?_ | refine LetB.mk _ rfl ?_) | (refine Gd.pre ?_; first | refine Gd.run rfl ?_ | refine Gd.pass rfl ?_ | refine Gd.run (by assumption) ?_ | refine Gd.pass (by assumption) ?_ | (refine Gd.run ?_ ?_; · decide +kernel) | (refine Gd.pass ?_ ?_; · decide +kernel) | refine Gd.both ?_) | (refine Br.pre ?_; first | refine Br.tt rfl ?_ | refine Br.ff rfl ?_ | refine Br.tt (by assumption) ?_ | refine Br.ff (by assumption) ?_ | (refine Br.tt ?_ ?_; · decide +kernel) | (refine Br.ff ?_ ?_; · decide +kernel)) | (refine Ck.pre ?_; first | refine Ck.drawn (by kernel_rfl) ?_ | refine Ck.mk rfl ?_) | (refine LetL.pre ?_; first | refine LetL.mk (ty := 33) _ (renL_none (pure_par _)).symm ?_ | refine LetL.mk (ty := 63) _ (renL_none (pure_pr _)).symm ?_ | refine LetL.mk [_] rfl ?_ | refine LetL.mk _ rfl ?_) | (refine CallN.pre ?_; first | refine CallN.pure hpar rfl rfl ?_ | refine CallN.own (fun i => if i < 2 then i else 40) (Send_ok m cu ps hm0 hm8 p hG hs200 hbit) (netOk m cu ps rfl rfl rfl rfl rfl rfl) ?_ | refine CallN.own (fun i => if i < 3 then i + 2 else 60) (rSend_ok m cl ps hg hs200 hl1000 hcm) (rOk m cl ps rfl rfl rfl rfl rfl rfl rfl) ?_ | refine CallN.read (fun i => if i = 0 then 0 else 40) lk1 (netOk' m _ _ rfl rfl rfl rfl rfl rfl) ?_ | refine CallN.read (fun i => if i = 0 then 2 else if i = 1 then 3 else 60) lk2 (rOk (q1 := 1) (q2 := 2) m _ _ rfl rfl rfl rfl rfl rfl rfl) ?_ | refine CallN.read (fun i => if i = 0 then 0 else 40) (Waiting_f m cu (ps ++ [p]) hm0 (by simp; omega)) (netOk' m _ _ rfl rfl rfl rfl rfl rfl) ?_ | refine CallN.read (fun i => if i = 0 then 2 else if i = 1 then 3 else 60) (rWaiting_ro m cl (ps ++ [p]) (by simp; omega)) (rOk (q1 := 1) (q2 := 2) m _ _ rfl rfl rfl rfl rfl rfl rfl) ?_ | refine CallN.pure hsame2 rfl rfl ?_)))); (try (conv => whnf)))














      refine LoopN.weak ?sw (ihi (i + 1, cu, (ps ++ [p]), cl) ⟨by simp; omega, by simp; omega, by simp; omega, i5, i6'⟩ (by simp; omega))
      case sw => exact SW.mk (fun i => if i = 1 then 40 else if i = 4 then 60 else i) rfl rfl (playNames _ _ _ _ _ rfl rfl rfl) ⟨.refl _, .refl _, .refl _, .refl _, .refl _, .refl _, .refl _, .refl _, .refl _, .refl _, VLe2.int (by simp), trivial⟩ (haveV.one rfl (haveV.row (pure_par _) rfl (haveV.one rfl (haveV.row (pure_pr _) rfl (haveV.row (pure_par _) rfl trivial)))))
  · by_cases hin : 0 ≤ A ∧ A < ps.length
    case neg =>
      rcases hc with hc | hc
      all_goals
        obtain ⟨r, lk1, lk2⟩ := ends hm0 hm8 i5 ps (by omega) A B
        ((repeat ((conv => whnf); (first | (refine LetN.pre ?_; first | ((conv => arg 1; whnf); refine LetN.mk ?_)) | (refine As.pre ?_; first | refine As.mk rfl ?_ | (refine As.mk ?_ ?_; · decide +kernel) | refine As.mk (andT (nor_self _) rfl) ?_ | refine As.mk (andT (nor_self _) (or_t _)) ?_ | refine As.mk (andT (or_t _) (or_nself _)) ?_ | refine As.mk (andT (or_t _) (or_t _)) ?_ | refine As.mk (andT (nor_self _) (andT (nor_self _) rfl)) ?_ | (refine As.mk ?_ ?_; · ((repeat' (refine andT ?_ ?_)) <;> (first | rfl | assumption | exact decide_eq_true (by omega) | exact decide_eq_true (by dsimp only; omega) | exact decide_eq_true (by simp; omega) | (simp; done))))) | (refine LetV.pre ?_; first | refine LetV.mk (t := 22) _ hq ?_ | refine LetV.mk (.sc (.int _ _)) rfl ?_ | refine LetV.mk (.sc (.bool _)) rfl ?_ | refine LetV.mk (.sc _) rfl ?_ | refine LetV.mk (.agg _) rfl ?_ | refine LetV.mk (.slm _ _ _ _ _) rfl ?_ | refine LetV.mk (.ro _ _ _) rfl ?_ | refine LetV.mk (.ptr _ _ _ _) rfl ?_) | (refine LetI.pre ?_; first | refine LetI.mk (o := some .rem) _ hkk.symm ?_ | refine LetI.wrap (by omega) (by omega) ?_ | refine LetI.mk _ rfl ?_) | (refine LetB.pre ?_; first | refine LetB.tt rfl ?_ | refine LetB.ff rfl ?_ | refine LetB.tt (by assumption) ?_ | refine LetB.ff (by assumption) ?_ | (refine LetB.mk (o := some .eql) true ?_ ?_; · (simp; done)) | refine LetB.ff (bne_self_eq_false _) ?_ | refine LetB.dect (by omega) ?_ | refine LetB.decf (by omega) ?_ | refine LetB.beqt (by omega) ?_ | refine LetB.beqf (by omega) ?_ | refine LetB.bnet (by omega) ?_ | refine LetB.bnef (by omega) ?_ | refine LetB.mk _ rfl ?_) | (refine Gd.pre ?_; first | refine Gd.run rfl ?_ | refine Gd.pass rfl ?_ | refine Gd.run (by assumption) ?_ | refine Gd.pass (by assumption) ?_ | (refine Gd.run ?_ ?_; · decide +kernel) | (refine Gd.pass ?_ ?_; · decide +kernel) | refine Gd.both ?_) | (refine Br.pre ?_; first | refine Br.tt rfl ?_ | refine Br.ff rfl ?_ | refine Br.tt (by assumption) ?_ | refine Br.ff (by assumption) ?_ | (refine Br.tt ?_ ?_; · decide +kernel) | (refine Br.ff ?_ ?_; · decide +kernel)) | (refine Ck.pre ?_; first | refine Ck.drawn (by kernel_rfl) ?_ | refine Ck.mk rfl ?_) | (refine LetL.pre ?_; first | refine LetL.mk (ty := 33) _ (renL_none (pure_par _)).symm ?_ | refine LetL.mk (ty := 63) _ (renL_none (pure_pr _)).symm ?_ | refine LetL.mk [_] rfl ?_ | refine LetL.mk _ rfl ?_) | (refine CallN.pre ?_; first | refine CallN.pure hpar rfl rfl ?_ | refine CallN.read id (Take_none m cu ps hm0 hin y) (netOk' m cu ps rfl rfl rfl rfl rfl rfl) ?_ | refine CallN.read (fun i => if i = 0 then 2 else if i = 1 then 3 else 4) (rTake_none m cl ps hm1 hin y) (rOk (q1 := 1) (q2 := 2) m cl ps rfl rfl rfl rfl rfl rfl rfl) ?_ | refine CallN.read id lk1 (netOk' m _ _ rfl rfl rfl rfl rfl rfl) ?_ | refine CallN.read (fun i => if i = 0 then 2 else if i = 1 then 3 else 4) lk2 (rOk (q1 := 1) (q2 := 2) m _ _ rfl rfl rfl rfl rfl rfl rfl) ?_ | refine CallN.read id (Waiting_f m cu ps hm0 (by omega)) (netOk' m _ _ rfl rfl rfl rfl rfl rfl) ?_ | refine CallN.read (fun i => if i = 0 then 2 else if i = 1 then 3 else 4) (rWaiting_ro m cl ps (by omega)) (rOk (q1 := 1) (q2 := 2) m _ _ rfl rfl rfl rfl rfl rfl rfl) ?_ | refine CallN.pure hsame rfl rfl ?_)))); (try (conv => whnf)))














        refine LoopN.weak ?sw (ihi (i + 1, cu, ps, cl) ⟨by simp; omega, by simp; omega, by simp; omega, i5, i6⟩ (by simp; omega))
        case sw => exact SW.mk (id) rfl rfl (playNames _ _ _ _ _ rfl rfl rfl) ⟨.refl _, .refl _, .refl _, .refl _, .refl _, .refl _, .refl _, .refl _, .refl _, .refl _, VLe2.int (by simp), trivial⟩ (haveV.one rfl (haveV.row (pure_par _) rfl (haveV.one rfl (haveV.row (pure_pr _) rfl (haveV.row (pure_par _) rfl trivial)))))
    obtain ⟨p', hp'⟩ : ∃ p', ps.getD A.toNat p0 = p' := ⟨_, rfl⟩
    have hgp : Okp m p'.1 p'.2.1 := i6 p' (by
      rw [← hp', List.getD_eq_getElem?_getD, List.getElem?_eq_getElem (by omega)]
      exact List.getElem_mem _)
    have hG := Good_iff.2 hgp
    have hoks : Ok p' := hG.ok hm8
    cases hbit : (cu p'.1.toNat).getLsbD p'.2.1.toNat
    case true =>
      have hcm := (i5.mem _ _ hgp).1 hbit
      rcases hc with hc | hc
      all_goals
        obtain ⟨r, lk1, lk2⟩ := ends hm0 hm8 i5 ps (by omega) A B
        ((repeat ((conv => whnf); (first | (refine LetN.pre ?_; first | ((conv => arg 1; whnf); refine LetN.mk ?_)) | (refine As.pre ?_; first | refine As.mk rfl ?_ | (refine As.mk ?_ ?_; · decide +kernel) | refine As.mk (andT (nor_self _) rfl) ?_ | refine As.mk (andT (nor_self _) (or_t _)) ?_ | refine As.mk (andT (or_t _) (or_nself _)) ?_ | refine As.mk (andT (or_t _) (or_t _)) ?_ | refine As.mk (andT (nor_self _) (andT (nor_self _) rfl)) ?_ | (refine As.mk ?_ ?_; · ((repeat' (refine andT ?_ ?_)) <;> (first | rfl | assumption | exact decide_eq_true (by omega) | exact decide_eq_true (by dsimp only; omega) | exact decide_eq_true (by simp; omega) | (simp; done))))) | (refine LetV.pre ?_; first | refine LetV.mk (t := 22) _ hq ?_ | refine LetV.mk (.sc (.int _ _)) rfl ?_ | refine LetV.mk (.sc (.bool _)) rfl ?_ | refine LetV.mk (.sc _) rfl ?_ | refine LetV.mk (.agg _) rfl ?_ | refine LetV.mk (.slm _ _ _ _ _) rfl ?_ | refine LetV.mk (.ro _ _ _) rfl ?_ | refine LetV.mk (.ptr _ _ _ _) rfl ?_) | (refine LetI.pre ?_; first | refine LetI.mk (o := some .rem) _ hkk.symm ?_ | refine LetI.wrap (by omega) (by omega) ?_ | refine LetI.mk _ rfl ?_) | (refine LetB.pre ?_; first | refine LetB.tt rfl ?_ | refine LetB.ff rfl ?_ | refine LetB.tt (by assumption) ?_ | refine LetB.ff (by assumption) ?_ | (refine LetB.mk (o := some .eql) true ?_ ?_; · (simp; done)) | refine LetB.ff (bne_self_eq_false _) ?_ | refine LetB.dect (by omega) ?_ | refine LetB.decf (by omega) ?_ | refine LetB.beqt (by omega) ?_ | refine LetB.beqf (by omega) ?_ | refine LetB.bnet (by omega) ?_ | refine LetB.bnef (by omega) ?_ | refine LetB.mk _ rfl ?_) | (refine Gd.pre ?_; first | refine Gd.run rfl ?_ | refine Gd.pass rfl ?_ | refine Gd.run (by assumption) ?_ | refine Gd.pass (by assumption) ?_ | (refine Gd.run ?_ ?_; · decide +kernel) | (refine Gd.pass ?_ ?_; · decide +kernel) | refine Gd.both ?_) | (refine Br.pre ?_; first | refine Br.tt rfl ?_ | refine Br.ff rfl ?_ | refine Br.tt (by assumption) ?_ | refine Br.ff (by assumption) ?_ | (refine Br.tt ?_ ?_; · decide +kernel) | (refine Br.ff ?_ ?_; · decide +kernel)) | (refine Ck.pre ?_; first | refine Ck.drawn (by kernel_rfl) ?_ | refine Ck.mk rfl ?_) | (refine LetL.pre ?_; first | refine LetL.mk (ty := 33) _ (renL_none (pure_par _)).symm ?_ | refine LetL.mk (ty := 63) _ (renL_none (pure_pr _)).symm ?_ | refine LetL.mk [_] rfl ?_ | refine LetL.mk _ rfl ?_) | (refine CallN.pre ?_; first | refine CallN.pure hpar rfl rfl ?_ | refine CallN.read id (Take_cut m cu ps hm0 hin.1 hin.2 hp' hoks y hbit) (netOk' m cu ps rfl rfl rfl rfl rfl rfl) ?_ | refine CallN.read (fun i => if i = 0 then 2 else if i = 1 then 3 else 4) (rTake_cut m cl ps hm1 hl1000 hin.1 hin.2 hp' hcm y) (rOk (q1 := 1) (q2 := 2) m cl ps rfl rfl rfl rfl rfl rfl rfl) ?_ | refine CallN.read id lk1 (netOk' m _ _ rfl rfl rfl rfl rfl rfl) ?_ | refine CallN.read (fun i => if i = 0 then 2 else if i = 1 then 3 else 4) lk2 (rOk (q1 := 1) (q2 := 2) m _ _ rfl rfl rfl rfl rfl rfl rfl) ?_ | refine CallN.read id (Waiting_f m cu ps hm0 (by omega)) (netOk' m _ _ rfl rfl rfl rfl rfl rfl) ?_ | refine CallN.read (fun i => if i = 0 then 2 else if i = 1 then 3 else 4) (rWaiting_ro m cl ps (by omega)) (rOk (q1 := 1) (q2 := 2) m _ _ rfl rfl rfl rfl rfl rfl rfl) ?_ | refine CallN.pure hsame rfl rfl ?_)))); (try (conv => whnf)))














        refine LoopN.weak ?sw (ihi (i + 1, cu, ps, cl) ⟨by simp; omega, by simp; omega, by simp; omega, i5, i6⟩ (by simp; omega))
        case sw => exact SW.mk (id) rfl rfl (playNames _ _ _ _ _ rfl rfl rfl) ⟨.refl _, .refl _, .refl _, .refl _, .refl _, .refl _, .refl _, .refl _, .refl _, .refl _, VLe2.int (by simp), trivial⟩ (haveV.one rfl (haveV.row (pure_par _) rfl (haveV.one rfl (haveV.row (pure_pr _) rfl (haveV.row (pure_par _) rfl trivial)))))
    have hcm : prOf p'.1 p'.2.1 ∉ cl := fun hh => by
      have := (i5.mem _ _ hgp).2 hh
      rw [hbit] at this; cases this
    cases y
    case true =>
      rcases hc with hc | hc
      all_goals
        obtain ⟨r, lk1, lk2⟩ := ends hm0 hm8 i5 ps (by omega) A B
        ((repeat ((conv => whnf); (first | (refine LetN.pre ?_; first | ((conv => arg 1; whnf); refine LetN.mk ?_)) | (refine As.pre ?_; first | refine As.mk rfl ?_ | (refine As.mk ?_ ?_; · decide +kernel) | refine As.mk (andT (nor_self _) rfl) ?_ | refine As.mk (andT (nor_self _) (or_t _)) ?_ | refine As.mk (andT (or_t _) (or_nself _)) ?_ | refine As.mk (andT (or_t _) (or_t _)) ?_ | refine As.mk (andT (nor_self _) (andT (nor_self _) rfl)) ?_ | (refine As.mk ?_ ?_; · ((repeat' (refine andT ?_ ?_)) <;> (first | rfl | assumption | exact decide_eq_true (by omega) | exact decide_eq_true (by dsimp only; omega) | exact decide_eq_true (by simp; omega) | (simp; done))))) | (refine LetV.pre ?_; first | refine LetV.mk (t := 22) _ hq ?_ | refine LetV.mk (.sc (.int _ _)) rfl ?_ | refine LetV.mk (.sc (.bool _)) rfl ?_ | refine LetV.mk (.sc _) rfl ?_ | refine LetV.mk (.agg _) rfl ?_ | refine LetV.mk (.slm _ _ _ _ _) rfl ?_ | refine LetV.mk (.ro _ _ _) rfl ?_ | refine LetV.mk (.ptr _ _ _ _) rfl ?_) | (refine LetI.pre ?_; first | refine LetI.mk (o := some .rem) _ hkk.symm ?_ | refine LetI.wrap (by omega) (by omega) ?_ | refine LetI.mk _ rfl ?_) | (refine LetB.pre ?_; first | refine LetB.tt rfl ?_ | refine LetB.ff rfl ?_ | refine LetB.tt (by assumption) ?_ | refine LetB.ff (by assumption) ?_ | (refine LetB.mk (o := some .eql) true ?_ ?_; · (simp; done)) | refine LetB.ff (bne_self_eq_false _) ?_ | refine LetB.dect (by omega) ?_ | refine LetB.decf (by omega) ?_ | refine LetB.beqt (by omega) ?_ | refine LetB.beqf (by omega) ?_ | refine LetB.bnet (by omega) ?_ | refine LetB.bnef (by omega) ?_ | refine LetB.mk _ rfl ?_) | (refine Gd.pre ?_; first | refine Gd.run rfl ?_ | refine Gd.pass rfl ?_ | refine Gd.run (by assumption) ?_ | refine Gd.pass (by assumption) ?_ | (refine Gd.run ?_ ?_; · decide +kernel) | (refine Gd.pass ?_ ?_; · decide +kernel) | refine Gd.both ?_) | (refine Br.pre ?_; first | refine Br.tt rfl ?_ | refine Br.ff rfl ?_ | refine Br.tt (by assumption) ?_ | refine Br.ff (by assumption) ?_ | (refine Br.tt ?_ ?_; · decide +kernel) | (refine Br.ff ?_ ?_; · decide +kernel)) | (refine Ck.pre ?_; first | refine Ck.drawn (by kernel_rfl) ?_ | refine Ck.mk rfl ?_) | (refine LetL.pre ?_; first | refine LetL.mk (ty := 33) _ (renL_none (pure_par _)).symm ?_ | refine LetL.mk (ty := 63) _ (renL_none (pure_pr _)).symm ?_ | refine LetL.mk [_] rfl ?_ | refine LetL.mk _ rfl ?_) | (refine CallN.pre ?_; first | refine CallN.pure hpar rfl rfl ?_ | refine CallN.read id (Take_again m cu ps hm0 hin.1 hin.2 hp' hoks hbit) (netOk' m cu ps rfl rfl rfl rfl rfl rfl) ?_ | refine CallN.read (fun i => if i = 0 then 2 else if i = 1 then 3 else 4) (rTake_again m cl ps hm1 hl1000 hin.1 hin.2 hp' hcm) (rOk (q1 := 1) (q2 := 2) m cl ps rfl rfl rfl rfl rfl rfl rfl) ?_ | refine CallN.read id lk1 (netOk' m _ _ rfl rfl rfl rfl rfl rfl) ?_ | refine CallN.read (fun i => if i = 0 then 2 else if i = 1 then 3 else 4) lk2 (rOk (q1 := 1) (q2 := 2) m _ _ rfl rfl rfl rfl rfl rfl rfl) ?_ | refine CallN.read id (Waiting_f m cu ps hm0 (by omega)) (netOk' m _ _ rfl rfl rfl rfl rfl rfl) ?_ | refine CallN.read (fun i => if i = 0 then 2 else if i = 1 then 3 else 4) (rWaiting_ro m cl ps (by omega)) (rOk (q1 := 1) (q2 := 2) m _ _ rfl rfl rfl rfl rfl rfl rfl) ?_ | refine CallN.pure hsame rfl rfl ?_)))); (try (conv => whnf)))














        refine LoopN.weak ?sw (ihi (i + 1, cu, ps, cl) ⟨by simp; omega, by simp; omega, by simp; omega, i5, i6⟩ (by simp; omega))
        case sw => exact SW.mk (id) rfl rfl (playNames _ _ _ _ _ rfl rfl rfl) ⟨.refl _, .refl _, .refl _, .refl _, .refl _, .refl _, .refl _, .refl _, .refl _, .refl _, VLe2.int (by simp), trivial⟩ (haveV.one rfl (haveV.row (pure_par _) rfl (haveV.one rfl (haveV.row (pure_pr _) rfl (haveV.row (pure_par _) rfl trivial)))))
    have hel : (ps.eraseIdx A.toNat).length = ps.length - 1 := List.length_eraseIdx_of_lt (by omega)
    have hsame2 : AFun Try.prog 18 0 [.ro {} 3 ((ps.eraseIdx A.toNat).map par), .ro {} 3 ((ps.eraseIdx A.toNat).map par)] [] (bl true) [] := by
      have := Same_f (ps.eraseIdx A.toNat) (ps.eraseIdx A.toNat) {} {} (by rw [hel]; omega)
      rwa [sameB_self] at this
    have i6' : ∀ r ∈ ps.eraseIdx A.toNat, Okp m r.1 r.2.1 := fun r hr => i6 r (List.mem_of_mem_eraseIdx hr)
    rcases hc with hc | hc
    all_goals
      obtain ⟨r, lk1, lk2⟩ := ends hm0 hm8 i5 (ps.eraseIdx A.toNat) (by omega) A B
      ((repeat ((conv => whnf); (first | (refine LetN.pre ?_; first | ((conv => arg 1; whnf); refine LetN.mk ?_)) | (refine As.pre ?_; first | refine As.mk rfl ?_ | (refine As.mk ?_ ?_; · decide +kernel) | refine As.mk (andT (nor_self _) rfl) ?_ | refine As.mk (andT (nor_self _) (or_t _)) ?_ | refine As.mk (andT (or_t _) (or_nself _)) ?_ | refine As.mk (andT (or_t _) (or_t _)) ?_ | refine As.mk (andT (nor_self _) (andT (nor_self _) rfl)) ?_ | (refine As.mk ?_ ?_; · ((repeat' (refine andT ?_ ?_)) <;> (first | rfl | assumption | exact decide_eq_true (by omega) | exact decide_eq_true (by dsimp only; omega) | exact decide_eq_true (by simp; omega) | (simp; done))))) | (refine LetV.pre ?_; first | refine LetV.mk (t := 22) _ hq ?_ | refine LetV.mk (.sc (.int _ _)) rfl ?_ | refine LetV.mk (.sc (.bool _)) rfl ?_ | refine LetV.mk (.sc _) rfl ?_ | refine LetV.mk (.agg _) rfl ?_ | refine LetV.mk (.slm _ _ _ _ _) rfl ?_ | refine LetV.mk (.ro _ _ _) rfl ?_ | refine LetV.mk (.ptr _ _ _ _) rfl ?_) | (refine LetI.pre ?_; first | refine LetI.mk (o := some .rem) _ hkk.symm ?_ | refine LetI.wrap (by omega) (by omega) ?_ | refine LetI.mk _ rfl ?_) | (refine LetB.pre ?_; first | refine LetB.tt rfl ?_ | refine LetB.ff rfl ?_ | refine LetB.tt (by assumption) ?_ | refine LetB.ff (by assumption) ?_ | (refine LetB.mk (o := some .eql) true ?_ ?_; · (simp; done)) | refine LetB.ff (bne_self_eq_false _) ?_ | refine LetB.dect (by omega) ?_ | refine LetB.decf (by omega) ?_ | refine LetB.beqt (by omega) ?_ | refine LetB.beqf (by omega) ?_ | refine LetB.bnet (by omega) ?_ | refine LetB.bnef (by omega) ?_ | refine LetB.mk _ rfl ?_) | (refine Gd.pre ?_; first | refine Gd.run rfl ?_ | refine Gd.pass rfl ?_ | refine Gd.run (by assumption) ?_ | refine Gd.pass (by assumption) ?_ | (refine Gd.run ?_ ?_; · decide +kernel) | (refine Gd.pass ?_ ?_; · decide +kernel) | refine Gd.both ?_) | (refine Br.pre ?_; first | refine Br.tt rfl ?_ | refine Br.ff rfl ?_ | refine Br.tt (by assumption) ?_ | refine Br.ff (by assumption) ?_ | (refine Br.tt ?_ ?_; · decide +kernel) | (refine Br.ff ?_ ?_; · decide +kernel)) | (refine Ck.pre ?_; first | refine Ck.drawn (by kernel_rfl) ?_ | refine Ck.mk rfl ?_) | (refine LetL.pre ?_; first | refine LetL.mk (ty := 33) _ (renL_none (pure_par _)).symm ?_ | refine LetL.mk (ty := 63) _ (renL_none (pure_pr _)).symm ?_ | refine LetL.mk [_] rfl ?_ | refine LetL.mk _ rfl ?_) | (refine CallN.pre ?_; first | refine CallN.pure hpar rfl rfl ?_ | refine CallN.own (fun i => if i < 2 then i else 40) (Take_one m cu ps hm0 hin.1 hin.2 hl200 hp' hoks hbit) (netOk m cu ps rfl rfl rfl rfl rfl rfl) ?_ | refine CallN.own (fun i => if i < 3 then i + 2 else 60) (rTake_one m cl ps hm1 hl1000 hl200 hin.1 hin.2 hp' hcm) (rOk m cl ps rfl rfl rfl rfl rfl rfl rfl) ?_ | refine CallN.read (fun i => if i = 0 then 0 else 40) lk1 (netOk' m _ _ rfl rfl rfl rfl rfl rfl) ?_ | refine CallN.read (fun i => if i = 0 then 2 else if i = 1 then 3 else 60) lk2 (rOk (q1 := 1) (q2 := 2) m _ _ rfl rfl rfl rfl rfl rfl rfl) ?_ | refine CallN.read (fun i => if i = 0 then 0 else 40) (Waiting_f m cu (ps.eraseIdx A.toNat) hm0 (by rw [hel]; omega)) (netOk' m _ _ rfl rfl rfl rfl rfl rfl) ?_ | refine CallN.read (fun i => if i = 0 then 2 else if i = 1 then 3 else 60) (rWaiting_ro m cl (ps.eraseIdx A.toNat) (by rw [hel]; omega)) (rOk (q1 := 1) (q2 := 2) m _ _ rfl rfl rfl rfl rfl rfl rfl) ?_ | refine CallN.pure hsame2 rfl rfl ?_)))); (try (conv => whnf)))














      refine LoopN.weak ?sw (ihi (i + 1, cu, (ps.eraseIdx A.toNat), cl) ⟨by simp; omega, by simp only [hel]; omega, by simp; omega, i5, i6'⟩ (by simp; omega))
      case sw => exact SW.mk (fun i => if i = 1 then 40 else if i = 4 then 60 else i) rfl rfl (playNames _ _ _ _ _ rfl rfl rfl) ⟨.refl _, .refl _, .refl _, .refl _, .refl _, .refl _, .refl _, .refl _, .refl _, .refl _, VLe2.int (by simp), trivial⟩ (haveV.one rfl (haveV.row (pure_par _) rfl (haveV.one rfl (haveV.row (pure_pr _) rfl (haveV.row (pure_par _) rfl trivial)))))
  · by_cases hg : Okp m A B
    case neg =>
      obtain ⟨r, lk1, lk2⟩ := ends hm0 hm8 i5 ps (by omega) A B
      ((repeat ((conv => whnf); (first | (refine LetN.pre ?_; first | ((conv => arg 1; whnf); refine LetN.mk ?_)) | (refine As.pre ?_; first | refine As.mk rfl ?_ | (refine As.mk ?_ ?_; · decide +kernel) | refine As.mk (andT (nor_self _) rfl) ?_ | refine As.mk (andT (nor_self _) (or_t _)) ?_ | refine As.mk (andT (or_t _) (or_nself _)) ?_ | refine As.mk (andT (or_t _) (or_t _)) ?_ | refine As.mk (andT (nor_self _) (andT (nor_self _) rfl)) ?_ | (refine As.mk ?_ ?_; · ((repeat' (refine andT ?_ ?_)) <;> (first | rfl | assumption | exact decide_eq_true (by omega) | exact decide_eq_true (by dsimp only; omega) | exact decide_eq_true (by simp; omega) | (simp; done))))) | (refine LetV.pre ?_; first | refine LetV.mk (t := 22) _ hq ?_ | refine LetV.mk (.sc (.int _ _)) rfl ?_ | refine LetV.mk (.sc (.bool _)) rfl ?_ | refine LetV.mk (.sc _) rfl ?_ | refine LetV.mk (.agg _) rfl ?_ | refine LetV.mk (.slm _ _ _ _ _) rfl ?_ | refine LetV.mk (.ro _ _ _) rfl ?_ | refine LetV.mk (.ptr _ _ _ _) rfl ?_) | (refine LetI.pre ?_; first | refine LetI.mk (o := some .rem) _ hkk.symm ?_ | refine LetI.wrap (by omega) (by omega) ?_ | refine LetI.mk _ rfl ?_) | (refine LetB.pre ?_; first | refine LetB.tt rfl ?_ | refine LetB.ff rfl ?_ | refine LetB.tt (by assumption) ?_ | refine LetB.ff (by assumption) ?_ | (refine LetB.mk (o := some .eql) true ?_ ?_; · (simp; done)) | refine LetB.ff (bne_self_eq_false _) ?_ | refine LetB.dect (by omega) ?_ | refine LetB.decf (by omega) ?_ | refine LetB.beqt (by omega) ?_ | refine LetB.beqf (by omega) ?_ | refine LetB.bnet (by omega) ?_ | refine LetB.bnef (by omega) ?_ | refine LetB.mk _ rfl ?_) | (refine Gd.pre ?_; first | refine Gd.run rfl ?_ | refine Gd.pass rfl ?_ | refine Gd.run (by assumption) ?_ | refine Gd.pass (by assumption) ?_ | (refine Gd.run ?_ ?_; · decide +kernel) | (refine Gd.pass ?_ ?_; · decide +kernel) | refine Gd.both ?_) | (refine Br.pre ?_; first | refine Br.tt rfl ?_ | refine Br.ff rfl ?_ | refine Br.tt (by assumption) ?_ | refine Br.ff (by assumption) ?_ | (refine Br.tt ?_ ?_; · decide +kernel) | (refine Br.ff ?_ ?_; · decide +kernel)) | (refine Ck.pre ?_; first | refine Ck.drawn (by kernel_rfl) ?_ | refine Ck.mk rfl ?_) | (refine LetL.pre ?_; first | refine LetL.mk (ty := 33) _ (renL_none (pure_par _)).symm ?_ | refine LetL.mk (ty := 63) _ (renL_none (pure_pr _)).symm ?_ | refine LetL.mk [_] rfl ?_ | refine LetL.mk _ rfl ?_) | (refine CallN.pre ?_; first | refine CallN.pure hpar rfl rfl ?_ | refine CallN.read id (Cut_no m cu ps y hg hm0) (netOk' m cu ps rfl rfl rfl rfl rfl rfl) ?_ | refine CallN.read (fun i => if i = 0 then 2 else if i = 1 then 3 else 4) (rCut_no m cl ps hg y) (rOk (q1 := 1) (q2 := 2) m cl ps rfl rfl rfl rfl rfl rfl rfl) ?_ | refine CallN.read id lk1 (netOk' m _ _ rfl rfl rfl rfl rfl rfl) ?_ | refine CallN.read (fun i => if i = 0 then 2 else if i = 1 then 3 else 4) lk2 (rOk (q1 := 1) (q2 := 2) m _ _ rfl rfl rfl rfl rfl rfl rfl) ?_ | refine CallN.read id (Waiting_f m cu ps hm0 (by omega)) (netOk' m _ _ rfl rfl rfl rfl rfl rfl) ?_ | refine CallN.read (fun i => if i = 0 then 2 else if i = 1 then 3 else 4) (rWaiting_ro m cl ps (by omega)) (rOk (q1 := 1) (q2 := 2) m _ _ rfl rfl rfl rfl rfl rfl rfl) ?_ | refine CallN.pure hsame rfl rfl ?_)))); (try (conv => whnf)))














      refine LoopN.weak ?sw (ihi (i + 1, cu, ps, cl) ⟨by simp; omega, by simp; omega, by simp; omega, i5, i6⟩ (by simp; omega))
      case sw => exact SW.mk (id) rfl rfl (playNames _ _ _ _ _ rfl rfl rfl) ⟨.refl _, .refl _, .refl _, .refl _, .refl _, .refl _, .refl _, .refl _, .refl _, .refl _, VLe2.int (by simp), trivial⟩ (haveV.one rfl (haveV.row (pure_par _) rfl (haveV.one rfl (haveV.row (pure_pr _) rfl (haveV.row (pure_par _) rfl trivial)))))
    by_cases hcm : prOf A B ∈ cl
    · cases y
      · obtain ⟨jj, j1, j2, j3⟩ := rCut_del m cl ps hl1000 hg hcm
        have i5' := i5.del hm8 hg j1 j2
        have hel : (cl.eraseIdx jj).length = cl.length - 1 := List.length_eraseIdx_of_lt (by omega)
        obtain ⟨r, lk1, lk2⟩ := ends hm0 hm8 i5' ps (by rw [hel]; omega) A B
        ((repeat ((conv => whnf); (first | (refine LetN.pre ?_; first | ((conv => arg 1; whnf); refine LetN.mk ?_)) | (refine As.pre ?_; first | refine As.mk rfl ?_ | (refine As.mk ?_ ?_; · decide +kernel) | refine As.mk (andT (nor_self _) rfl) ?_ | refine As.mk (andT (nor_self _) (or_t _)) ?_ | refine As.mk (andT (or_t _) (or_nself _)) ?_ | refine As.mk (andT (or_t _) (or_t _)) ?_ | refine As.mk (andT (nor_self _) (andT (nor_self _) rfl)) ?_ | (refine As.mk ?_ ?_; · ((repeat' (refine andT ?_ ?_)) <;> (first | rfl | assumption | exact decide_eq_true (by omega) | exact decide_eq_true (by dsimp only; omega) | exact decide_eq_true (by simp; omega) | (simp; done))))) | (refine LetV.pre ?_; first | refine LetV.mk (t := 22) _ hq ?_ | refine LetV.mk (.sc (.int _ _)) rfl ?_ | refine LetV.mk (.sc (.bool _)) rfl ?_ | refine LetV.mk (.sc _) rfl ?_ | refine LetV.mk (.agg _) rfl ?_ | refine LetV.mk (.slm _ _ _ _ _) rfl ?_ | refine LetV.mk (.ro _ _ _) rfl ?_ | refine LetV.mk (.ptr _ _ _ _) rfl ?_) | (refine LetI.pre ?_; first | refine LetI.mk (o := some .rem) _ hkk.symm ?_ | refine LetI.wrap (by omega) (by omega) ?_ | refine LetI.mk _ rfl ?_) | (refine LetB.pre ?_; first | refine LetB.tt rfl ?_ | refine LetB.ff rfl ?_ | refine LetB.tt (by assumption) ?_ | refine LetB.ff (by assumption) ?_ | (refine LetB.mk (o := some .eql) true ?_ ?_; · (simp; done)) | refine LetB.ff (bne_self_eq_false _) ?_ | refine LetB.dect (by omega) ?_ | refine LetB.decf (by omega) ?_ | refine LetB.beqt (by omega) ?_ | refine LetB.beqf (by omega) ?_ | refine LetB.bnet (by omega) ?_ | refine LetB.bnef (by omega) ?_ | refine LetB.mk _ rfl ?_) | (refine Gd.pre ?_; first | refine Gd.run rfl ?_ | refine Gd.pass rfl ?_ | refine Gd.run (by assumption) ?_ | refine Gd.pass (by assumption) ?_ | (refine Gd.run ?_ ?_; · decide +kernel) | (refine Gd.pass ?_ ?_; · decide +kernel) | refine Gd.both ?_) | (refine Br.pre ?_; first | refine Br.tt rfl ?_ | refine Br.ff rfl ?_ | refine Br.tt (by assumption) ?_ | refine Br.ff (by assumption) ?_ | (refine Br.tt ?_ ?_; · decide +kernel) | (refine Br.ff ?_ ?_; · decide +kernel)) | (refine Ck.pre ?_; first | refine Ck.drawn (by kernel_rfl) ?_ | refine Ck.mk rfl ?_) | (refine LetL.pre ?_; first | refine LetL.mk (ty := 33) _ (renL_none (pure_par _)).symm ?_ | refine LetL.mk (ty := 63) _ (renL_none (pure_pr _)).symm ?_ | refine LetL.mk [_] rfl ?_ | refine LetL.mk _ rfl ?_) | (refine CallN.pre ?_; first | refine CallN.pure hpar rfl rfl ?_ | refine CallN.own id (Cut_yes m cu ps false hg.1 hg.2.1 hg.2.2.1 hg.2.2.2.1 hg.2.2.2.2 hm8) (netOk'' m cu ps rfl rfl rfl rfl rfl rfl) ?_ | refine CallN.own (fun i => if i < 3 then i + 2 else 60) j3 (rOk m cl ps rfl rfl rfl rfl rfl rfl rfl) ?_ | refine CallN.read id lk1 (netOk' m _ _ rfl rfl rfl rfl rfl rfl) ?_ | refine CallN.read (fun i => if i = 0 then 2 else if i = 1 then 60 else 4) lk2 (rOk (q1 := 1) (q2 := 2) m _ _ rfl rfl rfl rfl rfl rfl rfl) ?_ | refine CallN.read id (Waiting_f m (setC cu A.toNat B.toNat false) ps hm0 (by omega)) (netOk' m _ _ rfl rfl rfl rfl rfl rfl) ?_ | refine CallN.read (fun i => if i = 0 then 2 else if i = 1 then 60 else 4) (rWaiting_ro m (cl.eraseIdx jj) ps (by omega)) (rOk (q1 := 1) (q2 := 2) m _ _ rfl rfl rfl rfl rfl rfl rfl) ?_ | refine CallN.pure hsame rfl rfl ?_)))); (try (conv => whnf)))














        refine LoopN.weak ?sw (ihi (i + 1, (setC cu A.toNat B.toNat false), ps, (cl.eraseIdx jj)) ⟨by simp; omega, by simp; omega, by simp only [hel]; omega, i5', i6⟩ (by simp; omega))
        case sw => exact SW.mk (fun i => if i = 3 then 60 else i) rfl rfl (playNames _ _ _ _ _ rfl rfl rfl) ⟨.refl _, .refl _, .refl _, .refl _, .refl _, .refl _, .refl _, .refl _, .refl _, .refl _, VLe2.int (by simp), trivial⟩ (haveV.one rfl (haveV.row (pure_par _) rfl (haveV.one rfl (haveV.row (pure_pr _) rfl (haveV.row (pure_par _) rfl trivial)))))
      · have i5' := i5.on hm8 hg hcm
        obtain ⟨r, lk1, lk2⟩ := ends hm0 hm8 i5' ps (by omega) A B
        ((repeat ((conv => whnf); (first | (refine LetN.pre ?_; first | ((conv => arg 1; whnf); refine LetN.mk ?_)) | (refine As.pre ?_; first | refine As.mk rfl ?_ | (refine As.mk ?_ ?_; · decide +kernel) | refine As.mk (andT (nor_self _) rfl) ?_ | refine As.mk (andT (nor_self _) (or_t _)) ?_ | refine As.mk (andT (or_t _) (or_nself _)) ?_ | refine As.mk (andT (or_t _) (or_t _)) ?_ | refine As.mk (andT (nor_self _) (andT (nor_self _) rfl)) ?_ | (refine As.mk ?_ ?_; · ((repeat' (refine andT ?_ ?_)) <;> (first | rfl | assumption | exact decide_eq_true (by omega) | exact decide_eq_true (by dsimp only; omega) | exact decide_eq_true (by simp; omega) | (simp; done))))) | (refine LetV.pre ?_; first | refine LetV.mk (t := 22) _ hq ?_ | refine LetV.mk (.sc (.int _ _)) rfl ?_ | refine LetV.mk (.sc (.bool _)) rfl ?_ | refine LetV.mk (.sc _) rfl ?_ | refine LetV.mk (.agg _) rfl ?_ | refine LetV.mk (.slm _ _ _ _ _) rfl ?_ | refine LetV.mk (.ro _ _ _) rfl ?_ | refine LetV.mk (.ptr _ _ _ _) rfl ?_) | (refine LetI.pre ?_; first | refine LetI.mk (o := some .rem) _ hkk.symm ?_ | refine LetI.wrap (by omega) (by omega) ?_ | refine LetI.mk _ rfl ?_) | (refine LetB.pre ?_; first | refine LetB.tt rfl ?_ | refine LetB.ff rfl ?_ | refine LetB.tt (by assumption) ?_ | refine LetB.ff (by assumption) ?_ | (refine LetB.mk (o := some .eql) true ?_ ?_; · (simp; done)) | refine LetB.ff (bne_self_eq_false _) ?_ | refine LetB.dect (by omega) ?_ | refine LetB.decf (by omega) ?_ | refine LetB.beqt (by omega) ?_ | refine LetB.beqf (by omega) ?_ | refine LetB.bnet (by omega) ?_ | refine LetB.bnef (by omega) ?_ | refine LetB.mk _ rfl ?_) | (refine Gd.pre ?_; first | refine Gd.run rfl ?_ | refine Gd.pass rfl ?_ | refine Gd.run (by assumption) ?_ | refine Gd.pass (by assumption) ?_ | (refine Gd.run ?_ ?_; · decide +kernel) | (refine Gd.pass ?_ ?_; · decide +kernel) | refine Gd.both ?_) | (refine Br.pre ?_; first | refine Br.tt rfl ?_ | refine Br.ff rfl ?_ | refine Br.tt (by assumption) ?_ | refine Br.ff (by assumption) ?_ | (refine Br.tt ?_ ?_; · decide +kernel) | (refine Br.ff ?_ ?_; · decide +kernel)) | (refine Ck.pre ?_; first | refine Ck.drawn (by kernel_rfl) ?_ | refine Ck.mk rfl ?_) | (refine LetL.pre ?_; first | refine LetL.mk (ty := 33) _ (renL_none (pure_par _)).symm ?_ | refine LetL.mk (ty := 63) _ (renL_none (pure_pr _)).symm ?_ | refine LetL.mk [_] rfl ?_ | refine LetL.mk _ rfl ?_) | (refine CallN.pre ?_; first | refine CallN.pure hpar rfl rfl ?_ | refine CallN.own id (Cut_yes m cu ps true hg.1 hg.2.1 hg.2.2.1 hg.2.2.2.1 hg.2.2.2.2 hm8) (netOk'' m cu ps rfl rfl rfl rfl rfl rfl) ?_ | refine CallN.read (fun i => if i = 0 then 2 else if i = 1 then 3 else 4) (rCut_on m cl ps hl1000 hg hcm) (rOk (q1 := 1) (q2 := 2) m cl ps rfl rfl rfl rfl rfl rfl rfl) ?_ | refine CallN.read id lk1 (netOk' m _ _ rfl rfl rfl rfl rfl rfl) ?_ | refine CallN.read (fun i => if i = 0 then 2 else if i = 1 then 3 else 4) lk2 (rOk (q1 := 1) (q2 := 2) m _ _ rfl rfl rfl rfl rfl rfl rfl) ?_ | refine CallN.read id (Waiting_f m (setC cu A.toNat B.toNat true) ps hm0 (by omega)) (netOk' m _ _ rfl rfl rfl rfl rfl rfl) ?_ | refine CallN.read (fun i => if i = 0 then 2 else if i = 1 then 3 else 4) (rWaiting_ro m cl ps (by omega)) (rOk (q1 := 1) (q2 := 2) m _ _ rfl rfl rfl rfl rfl rfl rfl) ?_ | refine CallN.pure hsame rfl rfl ?_)))); (try (conv => whnf)))














        refine LoopN.weak ?sw (ihi (i + 1, (setC cu A.toNat B.toNat true), ps, cl) ⟨by simp; omega, by simp; omega, by simp; omega, i5', i6⟩ (by simp; omega))
        case sw => exact SW.mk (id) rfl rfl (playNames _ _ _ _ _ rfl rfl rfl) ⟨.refl _, .refl _, .refl _, .refl _, .refl _, .refl _, .refl _, .refl _, .refl _, .refl _, VLe2.int (by simp), trivial⟩ (haveV.one rfl (haveV.row (pure_par _) rfl (haveV.one rfl (haveV.row (pure_pr _) rfl (haveV.row (pure_par _) rfl trivial)))))
    · cases y
      · have i5' := i5.off hm8 hg hcm
        obtain ⟨r, lk1, lk2⟩ := ends hm0 hm8 i5' ps (by omega) A B
        ((repeat ((conv => whnf); (first | (refine LetN.pre ?_; first | ((conv => arg 1; whnf); refine LetN.mk ?_)) | (refine As.pre ?_; first | refine As.mk rfl ?_ | (refine As.mk ?_ ?_; · decide +kernel) | refine As.mk (andT (nor_self _) rfl) ?_ | refine As.mk (andT (nor_self _) (or_t _)) ?_ | refine As.mk (andT (or_t _) (or_nself _)) ?_ | refine As.mk (andT (or_t _) (or_t _)) ?_ | refine As.mk (andT (nor_self _) (andT (nor_self _) rfl)) ?_ | (refine As.mk ?_ ?_; · ((repeat' (refine andT ?_ ?_)) <;> (first | rfl | assumption | exact decide_eq_true (by omega) | exact decide_eq_true (by dsimp only; omega) | exact decide_eq_true (by simp; omega) | (simp; done))))) | (refine LetV.pre ?_; first | refine LetV.mk (t := 22) _ hq ?_ | refine LetV.mk (.sc (.int _ _)) rfl ?_ | refine LetV.mk (.sc (.bool _)) rfl ?_ | refine LetV.mk (.sc _) rfl ?_ | refine LetV.mk (.agg _) rfl ?_ | refine LetV.mk (.slm _ _ _ _ _) rfl ?_ | refine LetV.mk (.ro _ _ _) rfl ?_ | refine LetV.mk (.ptr _ _ _ _) rfl ?_) | (refine LetI.pre ?_; first | refine LetI.mk (o := some .rem) _ hkk.symm ?_ | refine LetI.wrap (by omega) (by omega) ?_ | refine LetI.mk _ rfl ?_) | (refine LetB.pre ?_; first | refine LetB.tt rfl ?_ | refine LetB.ff rfl ?_ | refine LetB.tt (by assumption) ?_ | refine LetB.ff (by assumption) ?_ | (refine LetB.mk (o := some .eql) true ?_ ?_; · (simp; done)) | refine LetB.ff (bne_self_eq_false _) ?_ | refine LetB.dect (by omega) ?_ | refine LetB.decf (by omega) ?_ | refine LetB.beqt (by omega) ?_ | refine LetB.beqf (by omega) ?_ | refine LetB.bnet (by omega) ?_ | refine LetB.bnef (by omega) ?_ | refine LetB.mk _ rfl ?_) | (refine Gd.pre ?_; first | refine Gd.run rfl ?_ | refine Gd.pass rfl ?_ | refine Gd.run (by assumption) ?_ | refine Gd.pass (by assumption) ?_ | (refine Gd.run ?_ ?_; · decide +kernel) | (refine Gd.pass ?_ ?_; · decide +kernel) | refine Gd.both ?_) | (refine Br.pre ?_; first | refine Br.tt rfl ?_ | refine Br.ff rfl ?_ | refine Br.tt (by assumption) ?_ | refine Br.ff (by assumption) ?_ | (refine Br.tt ?_ ?_; · decide +kernel) | (refine Br.ff ?_ ?_; · decide +kernel)) | (refine Ck.pre ?_; first | refine Ck.drawn (by kernel_rfl) ?_ | refine Ck.mk rfl ?_) | (refine LetL.pre ?_; first | refine LetL.mk (ty := 33) _ (renL_none (pure_par _)).symm ?_ | refine LetL.mk (ty := 63) _ (renL_none (pure_pr _)).symm ?_ | refine LetL.mk [_] rfl ?_ | refine LetL.mk _ rfl ?_) | (refine CallN.pre ?_; first | refine CallN.pure hpar rfl rfl ?_ | refine CallN.own id (Cut_yes m cu ps false hg.1 hg.2.1 hg.2.2.1 hg.2.2.2.1 hg.2.2.2.2 hm8) (netOk'' m cu ps rfl rfl rfl rfl rfl rfl) ?_ | refine CallN.read (fun i => if i = 0 then 2 else if i = 1 then 3 else 4) (rCut_off m cl ps hl1000 hg hcm) (rOk (q1 := 1) (q2 := 2) m cl ps rfl rfl rfl rfl rfl rfl rfl) ?_ | refine CallN.read id lk1 (netOk' m _ _ rfl rfl rfl rfl rfl rfl) ?_ | refine CallN.read (fun i => if i = 0 then 2 else if i = 1 then 3 else 4) lk2 (rOk (q1 := 1) (q2 := 2) m _ _ rfl rfl rfl rfl rfl rfl rfl) ?_ | refine CallN.read id (Waiting_f m (setC cu A.toNat B.toNat false) ps hm0 (by omega)) (netOk' m _ _ rfl rfl rfl rfl rfl rfl) ?_ | refine CallN.read (fun i => if i = 0 then 2 else if i = 1 then 3 else 4) (rWaiting_ro m cl ps (by omega)) (rOk (q1 := 1) (q2 := 2) m _ _ rfl rfl rfl rfl rfl rfl rfl) ?_ | refine CallN.pure hsame rfl rfl ?_)))); (try (conv => whnf)))














        refine LoopN.weak ?sw (ihi (i + 1, (setC cu A.toNat B.toNat false), ps, cl) ⟨by simp; omega, by simp; omega, by simp; omega, i5', i6⟩ (by simp; omega))
        case sw => exact SW.mk (id) rfl rfl (playNames _ _ _ _ _ rfl rfl rfl) ⟨.refl _, .refl _, .refl _, .refl _, .refl _, .refl _, .refl _, .refl _, .refl _, .refl _, VLe2.int (by simp), trivial⟩ (haveV.one rfl (haveV.row (pure_par _) rfl (haveV.one rfl (haveV.row (pure_pr _) rfl (haveV.row (pure_par _) rfl trivial)))))
      · have i5' := i5.add hm8 hg hcm
        obtain ⟨r, lk1, lk2⟩ := ends hm0 hm8 i5' ps (by simp; omega) A B
        ((repeat ((conv => whnf); (first | (refine LetN.pre ?_; first | ((conv => arg 1; whnf); refine LetN.mk ?_)) | (refine As.pre ?_; first | refine As.mk rfl ?_ | (refine As.mk ?_ ?_; · decide +kernel) | refine As.mk (andT (nor_self _) rfl) ?_ | refine As.mk (andT (nor_self _) (or_t _)) ?_ | refine As.mk (andT (or_t _) (or_nself _)) ?_ | refine As.mk (andT (or_t _) (or_t _)) ?_ | refine As.mk (andT (nor_self _) (andT (nor_self _) rfl)) ?_ | (refine As.mk ?_ ?_; · ((repeat' (refine andT ?_ ?_)) <;> (first | rfl | assumption | exact decide_eq_true (by omega) | exact decide_eq_true (by dsimp only; omega) | exact decide_eq_true (by simp; omega) | (simp; done))))) | (refine LetV.pre ?_; first | refine LetV.mk (t := 22) _ hq ?_ | refine LetV.mk (.sc (.int _ _)) rfl ?_ | refine LetV.mk (.sc (.bool _)) rfl ?_ | refine LetV.mk (.sc _) rfl ?_ | refine LetV.mk (.agg _) rfl ?_ | refine LetV.mk (.slm _ _ _ _ _) rfl ?_ | refine LetV.mk (.ro _ _ _) rfl ?_ | refine LetV.mk (.ptr _ _ _ _) rfl ?_) | (refine LetI.pre ?_; first | refine LetI.mk (o := some .rem) _ hkk.symm ?_ | refine LetI.wrap (by omega) (by omega) ?_ | refine LetI.mk _ rfl ?_) | (refine LetB.pre ?_; first | refine LetB.tt rfl ?_ | refine LetB.ff rfl ?_ | refine LetB.tt (by assumption) ?_ | refine LetB.ff (by assumption) ?_ | (refine LetB.mk (o := some .eql) true ?_ ?_; · (simp; done)) | refine LetB.ff (bne_self_eq_false _) ?_ | refine LetB.dect (by omega) ?_ | refine LetB.decf (by omega) ?_ | refine LetB.beqt (by omega) ?_ | refine LetB.beqf (by omega) ?_ | refine LetB.bnet (by omega) ?_ | refine LetB.bnef (by omega) ?_ | refine LetB.mk _ rfl ?_) | (refine Gd.pre ?_; first | refine Gd.run rfl ?_ | refine Gd.pass rfl ?_ | refine Gd.run (by assumption) ?_ | refine Gd.pass (by assumption) ?_ | (refine Gd.run ?_ ?_; · decide +kernel) | (refine Gd.pass ?_ ?_; · decide +kernel) | refine Gd.both ?_) | (refine Br.pre ?_; first | refine Br.tt rfl ?_ | refine Br.ff rfl ?_ | refine Br.tt (by assumption) ?_ | refine Br.ff (by assumption) ?_ | (refine Br.tt ?_ ?_; · decide +kernel) | (refine Br.ff ?_ ?_; · decide +kernel)) | (refine Ck.pre ?_; first | refine Ck.drawn (by kernel_rfl) ?_ | refine Ck.mk rfl ?_) | (refine LetL.pre ?_; first | refine LetL.mk (ty := 33) _ (renL_none (pure_par _)).symm ?_ | refine LetL.mk (ty := 63) _ (renL_none (pure_pr _)).symm ?_ | refine LetL.mk [_] rfl ?_ | refine LetL.mk _ rfl ?_) | (refine CallN.pre ?_; first | refine CallN.pure hpar rfl rfl ?_ | refine CallN.own id (Cut_yes m cu ps true hg.1 hg.2.1 hg.2.2.1 hg.2.2.2.1 hg.2.2.2.2 hm8) (netOk'' m cu ps rfl rfl rfl rfl rfl rfl) ?_ | refine CallN.own (fun i => if i < 3 then i + 2 else 60) (rCut_add m cl ps hl1000 hg hcm) (rOk m cl ps rfl rfl rfl rfl rfl rfl rfl) ?_ | refine CallN.read id lk1 (netOk' m _ _ rfl rfl rfl rfl rfl rfl) ?_ | refine CallN.read (fun i => if i = 0 then 2 else if i = 1 then 60 else 4) lk2 (rOk (q1 := 1) (q2 := 2) m _ _ rfl rfl rfl rfl rfl rfl rfl) ?_ | refine CallN.read id (Waiting_f m (setC cu A.toNat B.toNat true) ps hm0 (by omega)) (netOk' m _ _ rfl rfl rfl rfl rfl rfl) ?_ | refine CallN.read (fun i => if i = 0 then 2 else if i = 1 then 60 else 4) (rWaiting_ro m (cl ++ [prOf A B]) ps (by omega)) (rOk (q1 := 1) (q2 := 2) m _ _ rfl rfl rfl rfl rfl rfl rfl) ?_ | refine CallN.pure hsame rfl rfl ?_)))); (try (conv => whnf)))














        refine LoopN.weak ?sw (ihi (i + 1, (setC cu A.toNat B.toNat true), ps, (cl ++ [prOf A B])) ⟨by simp; omega, by simp; omega, by simp; omega, i5', i6⟩ (by simp; omega))
        case sw => exact SW.mk (fun i => if i = 3 then 60 else i) rfl rfl (playNames _ _ _ _ _ rfl rfl rfl) ⟨.refl _, .refl _, .refl _, .refl _, .refl _, .refl _, .refl _, .refl _, .refl _, .refl _, VLe2.int (by simp), trivial⟩ (haveV.one rfl (haveV.row (pure_par _) rfl (haveV.one rfl (haveV.row (pure_pr _) rfl (haveV.row (pure_par _) rfl trivial)))))
  · by_cases hin : 0 ≤ A ∧ A < ps.length
    case neg =>
      obtain ⟨r, lk1, lk2⟩ := ends hm0 hm8 i5 ps (by omega) A B
      ((repeat ((conv => whnf); (first | (refine LetN.pre ?_; first | ((conv => arg 1; whnf); refine LetN.mk ?_)) | (refine As.pre ?_; first | refine As.mk rfl ?_ | (refine As.mk ?_ ?_; · decide +kernel) | refine As.mk (andT (nor_self _) rfl) ?_ | refine As.mk (andT (nor_self _) (or_t _)) ?_ | refine As.mk (andT (or_t _) (or_nself _)) ?_ | refine As.mk (andT (or_t _) (or_t _)) ?_ | refine As.mk (andT (nor_self _) (andT (nor_self _) rfl)) ?_ | (refine As.mk ?_ ?_; · ((repeat' (refine andT ?_ ?_)) <;> (first | rfl | assumption | exact decide_eq_true (by omega) | exact decide_eq_true (by dsimp only; omega) | exact decide_eq_true (by simp; omega) | (simp; done))))) | (refine LetV.pre ?_; first | refine LetV.mk (t := 22) _ hq ?_ | refine LetV.mk (.sc (.int _ _)) rfl ?_ | refine LetV.mk (.sc (.bool _)) rfl ?_ | refine LetV.mk (.sc _) rfl ?_ | refine LetV.mk (.agg _) rfl ?_ | refine LetV.mk (.slm _ _ _ _ _) rfl ?_ | refine LetV.mk (.ro _ _ _) rfl ?_ | refine LetV.mk (.ptr _ _ _ _) rfl ?_) | (refine LetI.pre ?_; first | refine LetI.mk (o := some .rem) _ hkk.symm ?_ | refine LetI.wrap (by omega) (by omega) ?_ | refine LetI.mk _ rfl ?_) | (refine LetB.pre ?_; first | refine LetB.tt rfl ?_ | refine LetB.ff rfl ?_ | refine LetB.tt (by assumption) ?_ | refine LetB.ff (by assumption) ?_ | (refine LetB.mk (o := some .eql) true ?_ ?_; · (simp; done)) | refine LetB.ff (bne_self_eq_false _) ?_ | refine LetB.dect (by omega) ?_ | refine LetB.decf (by omega) ?_ | refine LetB.beqt (by omega) ?_ | refine LetB.beqf (by omega) ?_ | refine LetB.bnet (by omega) ?_ | refine LetB.bnef (by omega) ?_ | refine LetB.mk _ rfl ?_) | (refine Gd.pre ?_; first | refine Gd.run rfl ?_ | refine Gd.pass rfl ?_ | refine Gd.run (by assumption) ?_ | refine Gd.pass (by assumption) ?_ | (refine Gd.run ?_ ?_; · decide +kernel) | (refine Gd.pass ?_ ?_; · decide +kernel) | refine Gd.both ?_) | (refine Br.pre ?_; first | refine Br.tt rfl ?_ | refine Br.ff rfl ?_ | refine Br.tt (by assumption) ?_ | refine Br.ff (by assumption) ?_ | (refine Br.tt ?_ ?_; · decide +kernel) | (refine Br.ff ?_ ?_; · decide +kernel)) | (refine Ck.pre ?_; first | refine Ck.drawn (by kernel_rfl) ?_ | refine Ck.mk rfl ?_) | (refine LetL.pre ?_; first | refine LetL.mk (ty := 33) _ (renL_none (pure_par _)).symm ?_ | refine LetL.mk (ty := 63) _ (renL_none (pure_pr _)).symm ?_ | refine LetL.mk [_] rfl ?_ | refine LetL.mk _ rfl ?_) | (refine CallN.pre ?_; first | refine CallN.pure hpar rfl rfl ?_ | refine CallN.read id (Lose_none m cu ps hm0 hin) (netOk' m cu ps rfl rfl rfl rfl rfl rfl) ?_ | refine CallN.read (fun i => if i = 0 then 2 else if i = 1 then 3 else 4) (rLose_none m cl ps hm1 hin) (rOk (q1 := 1) (q2 := 2) m cl ps rfl rfl rfl rfl rfl rfl rfl) ?_ | refine CallN.read id lk1 (netOk' m _ _ rfl rfl rfl rfl rfl rfl) ?_ | refine CallN.read (fun i => if i = 0 then 2 else if i = 1 then 3 else 4) lk2 (rOk (q1 := 1) (q2 := 2) m _ _ rfl rfl rfl rfl rfl rfl rfl) ?_ | refine CallN.read id (Waiting_f m cu ps hm0 (by omega)) (netOk' m _ _ rfl rfl rfl rfl rfl rfl) ?_ | refine CallN.read (fun i => if i = 0 then 2 else if i = 1 then 3 else 4) (rWaiting_ro m cl ps (by omega)) (rOk (q1 := 1) (q2 := 2) m _ _ rfl rfl rfl rfl rfl rfl rfl) ?_ | refine CallN.pure hsame rfl rfl ?_)))); (try (conv => whnf)))














      refine LoopN.weak ?sw (ihi (i + 1, cu, ps, cl) ⟨by simp; omega, by simp; omega, by simp; omega, i5, i6⟩ (by simp; omega))
      case sw => exact SW.mk (id) rfl rfl (playNames _ _ _ _ _ rfl rfl rfl) ⟨.refl _, .refl _, .refl _, .refl _, .refl _, .refl _, .refl _, .refl _, .refl _, .refl _, VLe2.int (by simp), trivial⟩ (haveV.one rfl (haveV.row (pure_par _) rfl (haveV.one rfl (haveV.row (pure_pr _) rfl (haveV.row (pure_par _) rfl trivial)))))
    have hel : (ps.eraseIdx A.toNat).length = ps.length - 1 := List.length_eraseIdx_of_lt (by omega)
    have hsame2 : AFun Try.prog 18 0 [.ro {} 3 ((ps.eraseIdx A.toNat).map par), .ro {} 3 ((ps.eraseIdx A.toNat).map par)] [] (bl true) [] := by
      have := Same_f (ps.eraseIdx A.toNat) (ps.eraseIdx A.toNat) {} {} (by rw [hel]; omega)
      rwa [sameB_self] at this
    have i6' : ∀ r ∈ ps.eraseIdx A.toNat, Okp m r.1 r.2.1 := fun r hr => i6 r (List.mem_of_mem_eraseIdx hr)
    obtain ⟨r, lk1, lk2⟩ := ends hm0 hm8 i5 (ps.eraseIdx A.toNat) (by omega) A B
    ((repeat ((conv => whnf); (first | (refine LetN.pre ?_; first | ((conv => arg 1; whnf); refine LetN.mk ?_)) | (refine As.pre ?_; first | refine As.mk rfl ?_ | (refine As.mk ?_ ?_; · decide +kernel) | refine As.mk (andT (nor_self _) rfl) ?_ | refine As.mk (andT (nor_self _) (or_t _)) ?_ | refine As.mk (andT (or_t _) (or_nself _)) ?_ | refine As.mk (andT (or_t _) (or_t _)) ?_ | refine As.mk (andT (nor_self _) (andT (nor_self _) rfl)) ?_ | (refine As.mk ?_ ?_; · ((repeat' (refine andT ?_ ?_)) <;> (first | rfl | assumption | exact decide_eq_true (by omega) | exact decide_eq_true (by dsimp only; omega) | exact decide_eq_true (by simp; omega) | (simp; done))))) | (refine LetV.pre ?_; first | refine LetV.mk (t := 22) _ hq ?_ | refine LetV.mk (.sc (.int _ _)) rfl ?_ | refine LetV.mk (.sc (.bool _)) rfl ?_ | refine LetV.mk (.sc _) rfl ?_ | refine LetV.mk (.agg _) rfl ?_ | refine LetV.mk (.slm _ _ _ _ _) rfl ?_ | refine LetV.mk (.ro _ _ _) rfl ?_ | refine LetV.mk (.ptr _ _ _ _) rfl ?_) | (refine LetI.pre ?_; first | refine LetI.mk (o := some .rem) _ hkk.symm ?_ | refine LetI.wrap (by omega) (by omega) ?_ | refine LetI.mk _ rfl ?_) | (refine LetB.pre ?_; first | refine LetB.tt rfl ?_ | refine LetB.ff rfl ?_ | refine LetB.tt (by assumption) ?_ | refine LetB.ff (by assumption) ?_ | (refine LetB.mk (o := some .eql) true ?_ ?_; · (simp; done)) | refine LetB.ff (bne_self_eq_false _) ?_ | refine LetB.dect (by omega) ?_ | refine LetB.decf (by omega) ?_ | refine LetB.beqt (by omega) ?_ | refine LetB.beqf (by omega) ?_ | refine LetB.bnet (by omega) ?_ | refine LetB.bnef (by omega) ?_ | refine LetB.mk _ rfl ?_) | (refine Gd.pre ?_; first | refine Gd.run rfl ?_ | refine Gd.pass rfl ?_ | refine Gd.run (by assumption) ?_ | refine Gd.pass (by assumption) ?_ | (refine Gd.run ?_ ?_; · decide +kernel) | (refine Gd.pass ?_ ?_; · decide +kernel) | refine Gd.both ?_) | (refine Br.pre ?_; first | refine Br.tt rfl ?_ | refine Br.ff rfl ?_ | refine Br.tt (by assumption) ?_ | refine Br.ff (by assumption) ?_ | (refine Br.tt ?_ ?_; · decide +kernel) | (refine Br.ff ?_ ?_; · decide +kernel)) | (refine Ck.pre ?_; first | refine Ck.drawn (by kernel_rfl) ?_ | refine Ck.mk rfl ?_) | (refine LetL.pre ?_; first | refine LetL.mk (ty := 33) _ (renL_none (pure_par _)).symm ?_ | refine LetL.mk (ty := 63) _ (renL_none (pure_pr _)).symm ?_ | refine LetL.mk [_] rfl ?_ | refine LetL.mk _ rfl ?_) | (refine CallN.pre ?_; first | refine CallN.pure hpar rfl rfl ?_ | refine CallN.own (fun i => if i < 2 then i else 40) (Lose_one m cu ps hm0 hin.1 hin.2 hl200) (netOk m cu ps rfl rfl rfl rfl rfl rfl) ?_ | refine CallN.own (fun i => if i < 3 then i + 2 else 60) (rLose_one m cl ps hm1 hl200 hin.1 hin.2) (rOk m cl ps rfl rfl rfl rfl rfl rfl rfl) ?_ | refine CallN.read (fun i => if i = 0 then 0 else 40) lk1 (netOk' m _ _ rfl rfl rfl rfl rfl rfl) ?_ | refine CallN.read (fun i => if i = 0 then 2 else if i = 1 then 3 else 60) lk2 (rOk (q1 := 1) (q2 := 2) m _ _ rfl rfl rfl rfl rfl rfl rfl) ?_ | refine CallN.read (fun i => if i = 0 then 0 else 40) (Waiting_f m cu (ps.eraseIdx A.toNat) hm0 (by rw [hel]; omega)) (netOk' m _ _ rfl rfl rfl rfl rfl rfl) ?_ | refine CallN.read (fun i => if i = 0 then 2 else if i = 1 then 3 else 60) (rWaiting_ro m cl (ps.eraseIdx A.toNat) (by rw [hel]; omega)) (rOk (q1 := 1) (q2 := 2) m _ _ rfl rfl rfl rfl rfl rfl rfl) ?_ | refine CallN.pure hsame2 rfl rfl ?_)))); (try (conv => whnf)))














    refine LoopN.weak ?sw (ihi (i + 1, cu, (ps.eraseIdx A.toNat), cl) ⟨by simp; omega, by simp only [hel]; omega, by simp; omega, i5, i6'⟩ (by simp; omega))
    case sw => exact SW.mk (fun i => if i = 1 then 40 else if i = 4 then 60 else i) rfl rfl (playNames _ _ _ _ _ rfl rfl rfl) ⟨.refl _, .refl _, .refl _, .refl _, .refl _, .refl _, .refl _, .refl _, .refl _, .refl _, VLe2.int (by simp), trivial⟩ (haveV.one rfl (haveV.row (pure_par _) rfl (haveV.one rfl (haveV.row (pure_pr _) rfl (haveV.row (pure_par _) rfl trivial)))))
  · obtain ⟨r, lk1, lk2⟩ := ends hm0 hm8 i5 ps (by omega) A B
    ((repeat ((conv => whnf); (first | (refine LetN.pre ?_; first | ((conv => arg 1; whnf); refine LetN.mk ?_)) | (refine As.pre ?_; first | refine As.mk rfl ?_ | (refine As.mk ?_ ?_; · decide +kernel) | refine As.mk (andT (nor_self _) rfl) ?_ | refine As.mk (andT (nor_self _) (or_t _)) ?_ | refine As.mk (andT (or_t _) (or_nself _)) ?_ | refine As.mk (andT (or_t _) (or_t _)) ?_ | refine As.mk (andT (nor_self _) (andT (nor_self _) rfl)) ?_ | (refine As.mk ?_ ?_; · ((repeat' (refine andT ?_ ?_)) <;> (first | rfl | assumption | exact decide_eq_true (by omega) | exact decide_eq_true (by dsimp only; omega) | exact decide_eq_true (by simp; omega) | (simp; done))))) | (refine LetV.pre ?_; first | refine LetV.mk (t := 22) _ hq ?_ | refine LetV.mk (.sc (.int _ _)) rfl ?_ | refine LetV.mk (.sc (.bool _)) rfl ?_ | refine LetV.mk (.sc _) rfl ?_ | refine LetV.mk (.agg _) rfl ?_ | refine LetV.mk (.slm _ _ _ _ _) rfl ?_ | refine LetV.mk (.ro _ _ _) rfl ?_ | refine LetV.mk (.ptr _ _ _ _) rfl ?_) | (refine LetI.pre ?_; first | refine LetI.mk (o := some .rem) _ hkk.symm ?_ | refine LetI.wrap (by omega) (by omega) ?_ | refine LetI.mk _ rfl ?_) | (refine LetB.pre ?_; first | refine LetB.tt rfl ?_ | refine LetB.ff rfl ?_ | refine LetB.tt (by assumption) ?_ | refine LetB.ff (by assumption) ?_ | (refine LetB.mk (o := some .eql) true ?_ ?_; · (simp; done)) | refine LetB.ff (bne_self_eq_false _) ?_ | refine LetB.dect (by omega) ?_ | refine LetB.decf (by omega) ?_ | refine LetB.beqt (by omega) ?_ | refine LetB.beqf (by omega) ?_ | refine LetB.bnet (by omega) ?_ | refine LetB.bnef (by omega) ?_ | refine LetB.mk _ rfl ?_) | (refine Gd.pre ?_; first | refine Gd.run rfl ?_ | refine Gd.pass rfl ?_ | refine Gd.run (by assumption) ?_ | refine Gd.pass (by assumption) ?_ | (refine Gd.run ?_ ?_; · decide +kernel) | (refine Gd.pass ?_ ?_; · decide +kernel) | refine Gd.both ?_) | (refine Br.pre ?_; first | refine Br.tt rfl ?_ | refine Br.ff rfl ?_ | refine Br.tt (by assumption) ?_ | refine Br.ff (by assumption) ?_ | (refine Br.tt ?_ ?_; · decide +kernel) | (refine Br.ff ?_ ?_; · decide +kernel)) | (refine Ck.pre ?_; first | refine Ck.drawn (by kernel_rfl) ?_ | refine Ck.mk rfl ?_) | (refine LetL.pre ?_; first | refine LetL.mk (ty := 33) _ (renL_none (pure_par _)).symm ?_ | refine LetL.mk (ty := 63) _ (renL_none (pure_pr _)).symm ?_ | refine LetL.mk [_] rfl ?_ | refine LetL.mk _ rfl ?_) | (refine CallN.pre ?_; first | refine CallN.pure hpar rfl rfl ?_ | refine CallN.read id lk1 (netOk' m _ _ rfl rfl rfl rfl rfl rfl) ?_ | refine CallN.read (fun i => if i = 0 then 2 else if i = 1 then 3 else 4) lk2 (rOk (q1 := 1) (q2 := 2) m _ _ rfl rfl rfl rfl rfl rfl rfl) ?_ | refine CallN.read id (Waiting_f m cu ps hm0 (by omega)) (netOk' m _ _ rfl rfl rfl rfl rfl rfl) ?_ | refine CallN.read (fun i => if i = 0 then 2 else if i = 1 then 3 else 4) (rWaiting_ro m cl ps (by omega)) (rOk (q1 := 1) (q2 := 2) m _ _ rfl rfl rfl rfl rfl rfl rfl) ?_ | refine CallN.pure hsame rfl rfl ?_)))); (try (conv => whnf)))












    refine LoopN.weak ?sw (ihi (i + 1, cu, ps, cl) ⟨by simp; omega, by simp; omega, by simp; omega, i5, i6⟩ (by simp; omega))
    case sw => exact SW.mk (id) rfl rfl (playNames _ _ _ _ _ rfl rfl rfl) ⟨.refl _, .refl _, .refl _, .refl _, .refl _, .refl _, .refl _, .refl _, .refl _, .refl _, VLe2.int (by simp), trivial⟩ (haveV.one rfl (haveV.row (pure_par _) rfl (haveV.one rfl (haveV.row (pure_pr _) rfl (haveV.row (pure_par _) rfl trivial)))))
end Nt
end Go.Proofs.Ytcfokhkdphodoaa
