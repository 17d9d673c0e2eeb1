/- Ytcfokhkdphodoaa: YtcfokhkdphodoaaC. -/
import Derived.Test.YtcfokhkdphodoaaA
namespace Go.Proofs.Ytcfokhkdphodoaa
open Go.Proofs.Ytcfokhkdphodoaa.Am
namespace Nt
theorem cuts_bits : ∀ a, a < 5 → ∀ b, b < 5 → a ≠ b → ∀ i, i < 5 → ∀ j, j < 5 → (setC c0 a b true i).getLsbD j = (decide (i = a ∧ j = b) || decide (i = b ∧ j = a)) := by decide +kernel
theorem mend_bits : ∀ a, a < 5 → ∀ b, b < 5 → a ≠ b → ∀ i, i < 5 → ∀ j, j < 5 → (setC (setC c0 a b true) b a false i).getLsbD j = false := by decide +kernel
theorem Linked_val (n : Int) (cu : Nat → BitVec 16) (ps : List Pc) (hn : (n == 0) = false) (hn8 : n ≤ 8) (a b : Int) (r : Bool) (h : ((decide (0 < a) && decide (0 < b) && decide (a ≤ n) && decide (b ≤ n) && a != b) && !(cu a.toNat).getLsbD b.toNat) = r) : AFun Try.prog 17 2 [T0, int a, int b] (netH n cu ps) (.sc (.bool r)) (netH n cu ps) := by
  subst h; exact Linked_f n cu ps hn hn8 a b
theorem netOk'' {ρ : Nat → Nat} (n : Int) (cu : Nat → BitVec 16) (ps : List Pc) {cu' : Nat → BitVec 16} {vs ws : List AV} {v : AV} {Hc : AH} (hk : keysOk 2 ρ [0, 1] [0, 1] (Hc.map Prod.fst) = true) (h3 : ws = AV.renL ρ vs) (h1 : AV.namesL (fun i => decide (i < 2)) vs = true) (h2 : v.names (fun i => decide (i < 2) || [0, 1].contains i) = true)
    (g0 : Hc.get (ρ 0) = some (.row 11 56 [netC' (ρ 1) n cu ps.length])) (g1 : Hc.get (ρ 1) = some (.row 3 33 (ps.map par))) : CallOk 2 ρ vs (netH n cu ps) v (netH n cu' ps) Hc ws := by
  refine CallOk.mk' hk h3 h1 (netNames _ _ _ _ rfl rfl) h2 (netNames _ _ _ _ rfl rfl) ?_
  simp only [netH, haveAll, Blk.ren, renL_none (pure_par ps)]
  exact ⟨g0, g1, trivial⟩
theorem small_range (o : Od) : 0 ≤ (parOf (small o)).1 ∧ (parOf (small o)).1 ≤ 4 ∧ 0 ≤ (parOf (small o)).2.1 ∧ (parOf (small o)).2.1 ≤ 4 := by
  have h1 := mod5_lt o.2.1
  have h2 := mod5_lt o.2.2.1
  simp only [parOf, small]
  omega
abbrev o0 : Od := (0, 0, 0, false, ⟨#[]⟩)
abbrev sentH (cu : Nat → BitVec 16) (ps sent : List Pc) (x : Int × Int) : AH := netH 4 cu ps ++ [(2, .row 3 33 (sent.map par)), (3, .row 2 42 [.agg [.sc (.int .u8 x.1), .sc (.int .u8 x.2)]])]
theorem sentNames (cu : Nat → BitVec 16) (ps sent : List Pc) (x : Int × Int) (ok : Nat → Bool) (h0 : ok 0 = true) (h1 : ok 1 = true) : namesAll ok (sentH cu ps sent x) = true := by
  simp only [sentH, netH, List.cons_append, List.nil_append, namesAll, Blk.names, AV.namesL, AV.names, namesL_none (pure_par ps), namesL_none (pure_par sent), h1]; rfl
abbrev cutsS (ps : List Pc) (x : Int × Int) (a b : Int) (cu : Nat → BitVec 16) (j : Nat) : AS := ⟨[(5, .sc (.bool true)), (6, T0), (7, .slm {} 2 3 0 ps.length), (11, int a), (12, int b), (122, .slm {} 2 3 0 ps.length), (123, int ps.length), (124, int j)], sentH cu ps ps x, 4⟩
abbrev lastS (ps : List Pc) (x : Int × Int) (cu : Nat → BitVec 16) (j : Nat) : AS := ⟨[(5, .sc (.bool true)), (6, T0), (193, .slm {} 2 3 0 ps.length), (194, int ps.length), (195, int j)], sentH cu (ps.drop j) ps x, 4⟩
set_option maxHeartbeats 16000000 in
set_option maxRecDepth 100000 in
theorem cuts (l : List Od) (x : Int × Int) (hx : 0 ≤ x.1 ∧ x.1 ≤ 255) (hx2 : 0 ≤ x.2 ∧ x.2 ≤ 255) (hl : l.length ≤ 9223372036854775807) : AFun Try.prog 4 0 [.ro {} 5 (l.map opA), .agg [.sc (.int .u8 x.1), .sc (.int .u8 x.2)]] [] (.sc (.bool true)) [] := by
  refine AFun.of_W T_ok mixed Try.func4 rfl (Nat.le_of_ble_eq_true rfl) rfl ?_
  ((repeat ((conv => whnf); (first | (refine LetN.pre ?_; first | ((conv => arg 1; whnf); refine LetN.mk ?_)) | (refine As.pre ?_; first | refine As.mk rfl ?_ | (refine As.mk ?_ ?_; · decide +kernel) | refine As.mk (andT (nor_self _) rfl) ?_ | refine As.mk (andT (nor_self _) (or_t _)) ?_ | refine As.mk (andT (or_t _) (or_nself _)) ?_ | refine As.mk (andT (or_t _) (or_t _)) ?_ | refine As.mk (andT (nor_self _) (andT (nor_self _) rfl)) ?_ | (refine As.mk ?_ ?_; · ((repeat' (refine andT ?_ ?_)) <;> (first | rfl | assumption | exact decide_eq_true (by omega) | exact decide_eq_true (by dsimp only; omega) | exact decide_eq_true (by simp; omega) | (simp; done))))) | (refine LetV.pre ?_; first | refine LetV.mk (.sc (.int _ _)) rfl ?_ | refine LetV.mk (.sc (.bool _)) rfl ?_ | refine LetV.mk (.sc _) rfl ?_ | refine LetV.mk (.agg _) rfl ?_ | refine LetV.mk (.slm _ _ _ _ _) rfl ?_ | refine LetV.mk (.ro _ _ _) rfl ?_ | refine LetV.mk (.ptr _ _ _ _) rfl ?_) | (refine LetI.pre ?_; first | refine LetI.wrap (by omega) (by omega) ?_ | refine LetI.mk _ rfl ?_) | (refine LetB.pre ?_; first | refine LetB.tt rfl ?_ | refine LetB.ff rfl ?_ | refine LetB.tt (by assumption) ?_ | refine LetB.ff (by assumption) ?_ | refine LetB.mk _ rfl ?_) | (refine Gd.pre ?_; first | refine Gd.run rfl ?_ | refine Gd.pass rfl ?_ | refine Gd.run (by assumption) ?_ | refine Gd.pass (by assumption) ?_ | (refine Gd.run ?_ ?_; · decide +kernel) | (refine Gd.pass ?_ ?_; · decide +kernel) | refine Gd.both ?_) | (refine Br.pre ?_; first | refine Br.tt rfl ?_ | refine Br.ff rfl ?_ | refine Br.tt (by assumption) ?_ | refine Br.ff (by assumption) ?_ | (refine Br.tt ?_ ?_; · decide +kernel) | (refine Br.ff ?_ ?_; · decide +kernel)) | (refine Ck.pre ?_; first | refine Ck.drawn (by kernel_rfl) ?_ | refine Ck.mk rfl ?_) | (refine LetL.pre ?_; first | refine LetL.mk [_] rfl ?_ | refine LetL.mk _ rfl ?_) | (refine CallN.pre ?_; first | refine CallN.pure sanity_f rfl rfl ?_ | refine CallN.own (fun i => i + 1) (New_ok 4 (by omega) (by omega)) (CallOk.mk' rfl rfl rfl rfl rfl rfl trivial) ?_)))); (try (conv => whnf)))


  refine LoopN.weak (s1 := ⟨[(0, .ro {} 5 (l.map opA)), (3, .ptr 3 2 0 0), (5, .sc (.bool true)), (6, T0), (7, .slm {} 2 3 0 0), (8, int (0 : Nat))], sentH c0 [] [] x, 4⟩) (SW.mk (fun i => if i = 3 then 0 else i + 1) rfl rfl (sentNames _ _ _ _ _ rfl rfl) ⟨.refl _, .refl _, .refl _, .refl _, VLe2.nilslm, .refl _, trivial⟩ (haveV.one rfl (haveV.one rfl (haveV.nil (Nat.le_refl _) (haveV.one rfl trivial))))) ?_
  refine LoopN.ind T_ok mixed (S := fun (i : Nat × List Pc) => ⟨[(0, .ro {} 5 (l.map opA)), (3, .ptr 3 2 0 0), (5, .sc (.bool true)), (6, T0), (7, .slm {} 2 3 0 i.2.length), (8, int i.1)], sentH c0 i.2 i.2 x, 4⟩) (fun i => l.length - i.1) (fun i => i.1 ≤ l.length ∧ i.1 ≤ 12 ∧ i.2.length ≤ i.1 ∧ ∀ p ∈ i.2, Good 4 p) (fun _ => rfl) (fun i hi ih => ?_) (0, []) ⟨Nat.zero_le _, Nat.zero_le _, Nat.le_refl _, fun p hp => by cases hp⟩
  obtain ⟨k, ps⟩ := i
  obtain ⟨h1, h2, h3, h4⟩ := hi
  simp only at h1 h2 h3 h4
  by_cases hlt : k < l.length ∧ k < 12
  case neg =>
    have hb : (bif decide ((k : Int) < ((l.map opA).length : Int)) then decide ((k : Int) < 12) else false) = false := by simp; omega
    clear ih
    have m1 := tmod_bound x.1 (m := 4) (by omega)
    have m2 := tmod_bound x.2 (m := 4) (by omega)
    have p1 := tmod_pos 4 hx.1
    have p2 := tmod_pos 4 hx2.1
    obtain ⟨a, ha⟩ : ∃ a : Int, a = 1 + x.1.tmod 4 := ⟨_, rfl⟩
    obtain ⟨b, hb'⟩ : ∃ b : Int, b = 1 + x.2.tmod 4 := ⟨_, rfl⟩
    have ha1 : 1 ≤ a ∧ a ≤ 4 := by omega
    have hb1 : 1 ≤ b ∧ b ≤ 4 := by omega
    have wa : a = IntKind.i64.wrap (1 + x.1.tmod 4) := by rw [ha]; exact (wrap_id (by omega) (by omega)).symm
    have wb : b = IntKind.i64.wrap (1 + x.2.tmod 4) := by rw [hb']; exact (wrap_id (by omega) (by omega)).symm
    by_cases hab : a = b
    case pos =>
      have e0 : (a == b) = true := by simp [hab]
      ((repeat ((conv => whnf); (first | (refine LetN.pre ?_; first | ((conv => arg 1; whnf); refine LetN.mk ?_)) | (refine As.pre ?_; first | refine As.mk rfl ?_ | (refine As.mk ?_ ?_; · decide +kernel) | refine As.mk (andT (nor_self _) rfl) ?_ | refine As.mk (andT (nor_self _) (or_t _)) ?_ | refine As.mk (andT (or_t _) (or_nself _)) ?_ | refine As.mk (andT (or_t _) (or_t _)) ?_ | refine As.mk (andT (nor_self _) (andT (nor_self _) rfl)) ?_ | (refine As.mk ?_ ?_; · ((repeat' (refine andT ?_ ?_)) <;> (first | rfl | assumption | exact decide_eq_true (by omega) | exact decide_eq_true (by dsimp only; omega) | exact decide_eq_true (by simp; omega) | (simp; done))))) | (refine LetV.pre ?_; first | refine LetV.mk (.sc (.int _ _)) rfl ?_ | refine LetV.mk (.sc (.bool _)) rfl ?_ | refine LetV.mk (.sc _) rfl ?_ | refine LetV.mk (.agg _) rfl ?_ | refine LetV.mk (.slm _ _ _ _ _) rfl ?_ | refine LetV.mk (.ro _ _ _) rfl ?_ | refine LetV.mk (.ptr _ _ _ _) rfl ?_) | (refine LetI.pre ?_; first | refine LetI.mk (o := some .add) a wa ?_ | refine LetI.mk (o := some .add) b wb ?_ | refine LetI.wrap (by omega) (by omega) ?_ | refine LetI.mk _ rfl ?_) | (refine LetB.pre ?_; first | refine LetB.tt rfl ?_ | refine LetB.ff rfl ?_ | refine LetB.tt (by assumption) ?_ | refine LetB.ff (by assumption) ?_ | refine LetB.mk _ rfl ?_) | (refine Gd.pre ?_; first | refine Gd.run rfl ?_ | refine Gd.pass rfl ?_ | refine Gd.run (by assumption) ?_ | refine Gd.pass (by assumption) ?_ | (refine Gd.run ?_ ?_; · decide +kernel) | (refine Gd.pass ?_ ?_; · decide +kernel) | refine Gd.both ?_) | (refine Br.pre ?_; first | refine Br.tt rfl ?_ | refine Br.ff rfl ?_ | refine Br.tt (by assumption) ?_ | refine Br.ff (by assumption) ?_ | (refine Br.tt ?_ ?_; · decide +kernel) | (refine Br.ff ?_ ?_; · decide +kernel)) | (refine Ck.pre ?_; first | refine Ck.drawn (by kernel_rfl) ?_ | refine Ck.mk rfl ?_) | (refine LetL.pre ?_; first | refine LetL.mk [_] rfl ?_ | refine LetL.mk _ rfl ?_) | (refine CallN.pre ?_; first | refine CallN.read id (Cut_no 4 c0 ps true (by omega) rfl) (netOk' 4 c0 ps rfl rfl rfl rfl rfl rfl) ?_ | refine CallN.read id (Linked_val 4 c0 ps rfl (by omega) a b false (by simp; omega)) (netOk' 4 c0 ps rfl rfl rfl rfl rfl rfl) ?_)))); (try (conv => whnf)))




      exact ⟨.inl rfl, ⟨_, rfl, rfl⟩, trivial⟩
    have e0 : (a == b) = false := by simpa using hab
    have e0' : (b == a) = false := by simpa using (fun h => hab h.symm)
    have na : a.toNat < 5 ∧ b.toNat < 5 ∧ a.toNat ≠ b.toNat := by omega
    have bits : ∀ q : Pc, Good 4 q → (setC c0 a.toNat b.toNat true q.1.toNat).getLsbD q.2.1.toNat = (decide (q.1.toNat = a.toNat ∧ q.2.1.toNat = b.toNat) || decide (q.1.toNat = b.toNat ∧ q.2.1.toNat = a.toNat)) := fun q hq => by
      unfold Good at hq
      exact cuts_bits _ na.1 _ na.2.1 na.2.2 _ (by omega) _ (by omega)
    have gba : Good 4 (b, a, (⟨#[]⟩ : ByteArray)) := by unfold Good; dsimp only; omega
    have gab : Good 4 (a, b, (⟨#[]⟩ : ByteArray)) := by unfold Good; dsimp only; omega
    have lab : ((decide (0 < a) && decide (0 < b) && decide (a ≤ 4) && decide (b ≤ 4) && a != b) && !(setC c0 a.toNat b.toNat true a.toNat).getLsbD b.toNat) = false := by
      have := bits _ gab
      simp only at this
      rw [this]; simp
    have lba : ((decide (0 < b) && decide (0 < a) && decide (b ≤ 4) && decide (a ≤ 4) && b != a) && !(setC c0 a.toNat b.toNat true b.toNat).getLsbD a.toNat) = false := by
      have := bits _ gba
      simp only at this
      rw [this]; simp
    have hz : (⟨#[]⟩ : ByteArray).size = 0 := rfl
    ((repeat ((conv => whnf); (first | (refine LetN.pre ?_; first | ((conv => arg 1; whnf); refine LetN.mk ?_)) | (refine As.pre ?_; first | refine As.mk rfl ?_ | (refine As.mk ?_ ?_; · decide +kernel) | refine As.mk (andT (nor_self _) rfl) ?_ | refine As.mk (andT (nor_self _) (or_t _)) ?_ | refine As.mk (andT (or_t _) (or_nself _)) ?_ | refine As.mk (andT (or_t _) (or_t _)) ?_ | refine As.mk (andT (nor_self _) (andT (nor_self _) rfl)) ?_ | (refine As.mk ?_ ?_; · ((repeat' (refine andT ?_ ?_)) <;> (first | rfl | assumption | exact decide_eq_true (by omega) | exact decide_eq_true (by dsimp only; omega) | exact decide_eq_true (by simp; omega) | (simp; done))))) | (refine LetV.pre ?_; first | refine LetV.mk (.sc (.int _ _)) rfl ?_ | refine LetV.mk (.sc (.bool _)) rfl ?_ | refine LetV.mk (.sc _) rfl ?_ | refine LetV.mk (.agg _) rfl ?_ | refine LetV.mk (.slm _ _ _ _ _) rfl ?_ | refine LetV.mk (.ro _ _ _) rfl ?_ | refine LetV.mk (.ptr _ _ _ _) rfl ?_) | (refine LetI.pre ?_; first | refine LetI.mk (o := some .add) a wa ?_ | refine LetI.mk (o := some .add) b wb ?_ | refine LetI.wrap (by omega) (by omega) ?_ | refine LetI.mk _ rfl ?_) | (refine LetB.pre ?_; first | refine LetB.tt rfl ?_ | refine LetB.ff rfl ?_ | refine LetB.tt (by assumption) ?_ | refine LetB.ff (by assumption) ?_ | refine LetB.mk _ rfl ?_) | (refine Gd.pre ?_; first | refine Gd.run rfl ?_ | refine Gd.pass rfl ?_ | refine Gd.run (by assumption) ?_ | refine Gd.pass (by assumption) ?_ | (refine Gd.run ?_ ?_; · decide +kernel) | (refine Gd.pass ?_ ?_; · decide +kernel) | refine Gd.both ?_) | (refine Br.pre ?_; first | refine Br.tt rfl ?_ | refine Br.ff rfl ?_ | refine Br.tt (by assumption) ?_ | refine Br.ff (by assumption) ?_ | (refine Br.tt ?_ ?_; · decide +kernel) | (refine Br.ff ?_ ?_; · decide +kernel)) | (refine Ck.pre ?_; first | refine Ck.drawn (by kernel_rfl) ?_ | refine Ck.mk rfl ?_) | (refine LetL.pre ?_; first | refine LetL.mk (ty := 33) _ (renL_none (pure_par _)).symm ?_ | refine LetL.mk [_] rfl ?_ | refine LetL.mk _ rfl ?_) | (refine CallN.pre ?_; first | refine CallN.own id (Cut_yes 4 c0 ps true (by omega) (by omega) (by omega) (by omega) hab (by omega)) (netOk'' 4 c0 ps rfl rfl rfl rfl rfl rfl) ?_ | refine CallN.read id (Linked_val 4 _ ps rfl (by omega) a b false lab) (netOk' 4 _ ps rfl rfl rfl rfl rfl rfl) ?_ | refine CallN.read id (Linked_val 4 _ ps rfl (by omega) b a false lba) (netOk' 4 _ ps rfl rfl rfl rfl rfl rfl) ?_ | refine CallN.read id (Send_cut 4 _ ps rfl (by omega) (b, a, ⟨#[]⟩) gba (by simp only [hz]; omega) (by rw [bits _ gba]; simp)) (netOk' 4 _ ps rfl rfl rfl rfl rfl rfl) ?_)))); (try (conv => whnf)))







    clear hb hlt h1 lab lba e0 e0' wa wb m1 m2 p1 p2 ha hb'
    generalize hcu : setC c0 a.toNat b.toNat true = cu1 at bits
    have hl12 : ps.length ≤ 12 := by omega
    refine LoopN.weak (s1 := cutsS ps x a b cu1 0) ?sw1 ?_
    case sw1 =>
      subst hcu
      exact SW.mk id rfl rfl (sentNames _ _ _ _ _ rfl rfl) ⟨.refl _, .refl _, .refl _, .refl _, .refl _, VLe2.slm_of rfl, .refl _, .refl _, trivial⟩ (haveV.one (by rfl) (haveV.one (by rw [Blk.ren, renL_none (pure_par _)]; rfl) (haveV.one (by rw [Blk.ren, renL_none (pure_par _)]; rfl) (haveV.one rfl trivial))))
    refine LoopN.ind T_ok mixed (S := cutsS ps x a b cu1) (fun j => ps.length - j) (fun j => j ≤ ps.length) (fun _ => rfl) (fun j hj ih => ?_) 0 (Nat.zero_le _)
    have hz0 : (!parB p0 p0) = false := by rw [parB_self]; rfl
    by_cases hjl : j < ps.length
    · have hb : decide ((j : Int) < (ps.length : Int)) = true := by simp only [decide_eq_true_eq]; omega
      have hjn : 0 + j < (ps.map par).length := by simp; omega
      have hgood : Good 4 (ps.getD j p0) := h4 _ (by
        rw [List.getD_eq_getElem?_getD, List.getElem?_eq_getElem hjl]
        exact List.getElem_mem _)
      have hbit := bits _ hgood
      have hj0 : (0 : Int) ≤ (j : Int) := by omega
      have hj1 : (j : Int) < (ps.length : Int) := by omega
      have hld : par (ps.getD j p0) = Am.part true 3 0 3 ((ps.map par).getD (0 + j) (.sc undef)) := by
        have := loadpar (ps := ps) (i := j) hjl
        rwa [Nat.zero_add]
      have hpq : ps.getD (j : Int).toNat p0 = ps.getD j p0 := rfl
      generalize hq : ps.getD j p0 = q at hgood hbit hld hpq
      have hpp : (!parB q q) = false := by rw [parB_self]; rfl
      have hq4 := hgood
      unfold Good at hq4
      have hcase : ((q.1 == a) = true ∧ (q.2.1 == b) = true ∧ (cu1 q.1.toNat).getLsbD q.2.1.toNat = true) ∨ ((q.1 == a) = true ∧ (q.2.1 == b) = false ∧ (q.1 == b) = false ∧ (cu1 q.1.toNat).getLsbD q.2.1.toNat = false) ∨
          ((q.1 == a) = false ∧ (q.1 == b) = true ∧ (q.2.1 == a) = true ∧ (cu1 q.1.toNat).getLsbD q.2.1.toNat = true) ∨ ((q.1 == a) = false ∧ (q.1 == b) = true ∧ (q.2.1 == a) = false ∧ (cu1 q.1.toNat).getLsbD q.2.1.toNat = false) ∨
          ((q.1 == a) = false ∧ (q.1 == b) = false ∧ (cu1 q.1.toNat).getLsbD q.2.1.toNat = false) := by
        rw [hbit]
        simp only [beq_iff_eq, beq_eq_false_iff_ne, Bool.or_eq_true, Bool.or_eq_false_iff, decide_eq_true_eq, decide_eq_false_iff_not]
        omega
      clear hbit bits
      rcases hcase with ⟨c1, c2, cb⟩ | ⟨c1, c2, c3, cb⟩ | ⟨c1, c2, c3, cb⟩ | ⟨c1, c2, c3, cb⟩ | ⟨c1, c2, cb⟩
      all_goals
        ((repeat ((conv => whnf); (first | (refine LetN.pre ?_; first | ((conv => arg 1; whnf); refine LetN.mk ?_)) | (refine As.pre ?_; first | refine As.mk rfl ?_ | (refine As.mk ?_ ?_; · decide +kernel) | refine As.mk (andT (nor_self _) rfl) ?_ | refine As.mk (andT (nor_self _) (or_t _)) ?_ | refine As.mk (andT (or_t _) (or_nself _)) ?_ | refine As.mk (andT (or_t _) (or_t _)) ?_ | refine As.mk (andT (nor_self _) (andT (nor_self _) rfl)) ?_ | (refine As.mk ?_ ?_; · ((repeat' (refine andT ?_ ?_)) <;> (first | rfl | assumption | exact decide_eq_true (by omega) | exact decide_eq_true (by dsimp only; omega) | exact decide_eq_true (by simp; omega) | (simp; done))))) | (refine LetV.pre ?_; first | refine LetV.mk (t := 33) _ hld ?_ | refine LetV.mk (.sc (.int _ _)) rfl ?_ | refine LetV.mk (.sc (.bool _)) rfl ?_ | refine LetV.mk (.sc _) rfl ?_ | refine LetV.mk (.agg _) rfl ?_ | refine LetV.mk (.slm _ _ _ _ _) rfl ?_ | refine LetV.mk (.ro _ _ _) rfl ?_ | refine LetV.mk (.ptr _ _ _ _) rfl ?_) | (refine LetI.pre ?_; first | refine LetI.wrap (by omega) (by omega) ?_ | refine LetI.mk _ rfl ?_) | (refine LetB.pre ?_; first | refine LetB.tt rfl ?_ | refine LetB.ff rfl ?_ | refine LetB.tt (by assumption) ?_ | refine LetB.ff (by assumption) ?_ | refine LetB.mk _ rfl ?_) | (refine Gd.pre ?_; first | refine Gd.run rfl ?_ | refine Gd.pass rfl ?_ | refine Gd.run (by assumption) ?_ | refine Gd.pass (by assumption) ?_ | (refine Gd.run ?_ ?_; · decide +kernel) | (refine Gd.pass ?_ ?_; · decide +kernel) | refine Gd.both ?_) | (refine Br.pre ?_; first | refine Br.tt rfl ?_ | refine Br.ff rfl ?_ | refine Br.tt (by assumption) ?_ | refine Br.ff (by assumption) ?_ | (refine Br.tt ?_ ?_; · decide +kernel) | (refine Br.ff ?_ ?_; · decide +kernel)) | (refine Ck.pre ?_; first | refine Ck.drawn (by kernel_rfl) ?_ | refine Ck.mk rfl ?_) | (refine LetL.pre ?_; first | refine LetL.mk [_] rfl ?_ | refine LetL.mk _ rfl ?_) | (refine CallN.pre ?_; first | refine CallN.read id (Take_cut 4 cu1 ps rfl hj0 hj1 hpq (hgood.ok (by omega)) true cb) (netOk' 4 cu1 ps rfl rfl rfl rfl rfl rfl) ?_ | refine CallN.read id (Take_again 4 cu1 ps rfl hj0 hj1 hpq (hgood.ok (by omega)) cb) (netOk' 4 cu1 ps rfl rfl rfl rfl rfl rfl) ?_)))); (try (conv => whnf)))



        refine LoopN.weak ?sw2 (ih (j + 1) (by omega) (by omega))
        case sw2 => exact SW.mk id rfl rfl (sentNames _ _ _ _ _ rfl rfl) ⟨.refl _, .refl _, .refl _, .refl _, .refl _, .refl _, .refl _, VLe2.int (by omega), trivial⟩ (haveV.one rfl (haveV.one (by rw [Blk.ren, renL_none (pure_par _)]; rfl) (haveV.one (by rw [Blk.ren, renL_none (pure_par _)]; rfl) (haveV.one rfl trivial))))
    have hb : decide ((j : Int) < (ps.length : Int)) = false := by simp only [decide_eq_false_iff_not]; omega
    clear ih bits
    have hsame : (!sameB ps ps) = false := by rw [sameB_self]; rfl
    have hbits : ∀ q : Pc, Good 4 q → (setC cu1 b.toNat a.toNat false q.1.toNat).getLsbD q.2.1.toNat = false := fun q hq => by
      unfold Good at hq
      rw [← hcu]
      exact mend_bits _ na.1 _ na.2.1 na.2.2 _ (by omega) _ (by omega)
    ((repeat ((conv => whnf); (first | (refine LetN.pre ?_; first | ((conv => arg 1; whnf); refine LetN.mk ?_)) | (refine As.pre ?_; first | refine As.mk rfl ?_ | (refine As.mk ?_ ?_; · decide +kernel) | refine As.mk (andT (nor_self _) rfl) ?_ | refine As.mk (andT (nor_self _) (or_t _)) ?_ | refine As.mk (andT (or_t _) (or_nself _)) ?_ | refine As.mk (andT (or_t _) (or_t _)) ?_ | refine As.mk (andT (nor_self _) (andT (nor_self _) rfl)) ?_ | (refine As.mk ?_ ?_; · ((repeat' (refine andT ?_ ?_)) <;> (first | rfl | assumption | exact decide_eq_true (by omega) | exact decide_eq_true (by dsimp only; omega) | exact decide_eq_true (by simp; omega) | (simp; done))))) | (refine LetV.pre ?_; first | refine LetV.mk (.sc (.int _ _)) rfl ?_ | refine LetV.mk (.sc (.bool _)) rfl ?_ | refine LetV.mk (.sc _) rfl ?_ | refine LetV.mk (.agg _) rfl ?_ | refine LetV.mk (.slm _ _ _ _ _) rfl ?_ | refine LetV.mk (.ro _ _ _) rfl ?_ | refine LetV.mk (.ptr _ _ _ _) rfl ?_) | (refine LetI.pre ?_; first | refine LetI.wrap (by omega) (by omega) ?_ | refine LetI.mk _ rfl ?_) | (refine LetB.pre ?_; first | refine LetB.tt rfl ?_ | refine LetB.ff rfl ?_ | refine LetB.tt (by assumption) ?_ | refine LetB.ff (by assumption) ?_ | refine LetB.mk _ rfl ?_) | (refine Gd.pre ?_; first | refine Gd.run rfl ?_ | refine Gd.pass rfl ?_ | refine Gd.run (by assumption) ?_ | refine Gd.pass (by assumption) ?_ | (refine Gd.run ?_ ?_; · decide +kernel) | (refine Gd.pass ?_ ?_; · decide +kernel) | refine Gd.both ?_) | (refine Br.pre ?_; first | refine Br.tt rfl ?_ | refine Br.ff rfl ?_ | refine Br.tt (by assumption) ?_ | refine Br.ff (by assumption) ?_ | (refine Br.tt ?_ ?_; · decide +kernel) | (refine Br.ff ?_ ?_; · decide +kernel)) | (refine Ck.pre ?_; first | refine Ck.drawn (by kernel_rfl) ?_ | refine Ck.mk rfl ?_) | (refine LetL.pre ?_; first | refine LetL.mk (ty := 33) _ (renL_none (pure_par _)).symm ?_ | refine LetL.mk [_] rfl ?_ | refine LetL.mk _ rfl ?_) | (refine CallN.pre ?_; first | refine CallN.own id (Cut_yes 4 cu1 ps false (a := b) (b := a) (by omega) (by omega) (by omega) (by omega) (fun h => hab h.symm) (by omega)) (netOk'' 4 cu1 ps rfl rfl rfl rfl rfl rfl) ?_ | refine CallN.read id (Waiting_f 4 _ ps rfl (by omega)) (netOk' 4 _ ps rfl rfl rfl rfl rfl rfl) ?_ | refine CallN.borrow01 (Same_f ps ps _ _ (by omega)) rfl (j := 2) rfl (by simp) (pure_par _) ?_)))); (try (conv => whnf)))




    clear hb hsame hjl
    generalize setC cu1 b.toNat a.toNat false = cu2 at hbits
    refine LoopN.weak (s1 := lastS ps x cu2 0) ?sw3 ?_
    case sw3 => exact SW.mk id rfl rfl (sentNames _ _ _ _ _ rfl rfl) ⟨.refl _, .refl _, VLe2.slm_of rfl, .refl _, .refl _, trivial⟩ (haveV.one rfl (haveV.one (by rw [Blk.ren, renL_none (pure_par _)]; rfl) (haveV.one (by rw [Blk.ren, renL_none (pure_par _)]; rfl) (haveV.one rfl trivial))))
    refine LoopN.ind T_ok mixed (S := lastS ps x cu2) (fun j => ps.length - j) (fun j => j ≤ ps.length) (fun _ => rfl) (fun j hj ih => ?_) 0 (Nat.zero_le _)
    by_cases hjl : j < ps.length
    case neg =>
      have hb : decide ((j : Int) < (ps.length : Int)) = false := by simp only [decide_eq_false_iff_not]; omega
      clear ih
      ((repeat ((conv => whnf); (first | (refine LetN.pre ?_; first | ((conv => arg 1; whnf); refine LetN.mk ?_)) | (refine As.pre ?_; first | refine As.mk rfl ?_ | (refine As.mk ?_ ?_; · decide +kernel) | refine As.mk (andT (nor_self _) rfl) ?_ | refine As.mk (andT (nor_self _) (or_t _)) ?_ | refine As.mk (andT (or_t _) (or_nself _)) ?_ | refine As.mk (andT (or_t _) (or_t _)) ?_ | refine As.mk (andT (nor_self _) (andT (nor_self _) rfl)) ?_ | (refine As.mk ?_ ?_; · ((repeat' (refine andT ?_ ?_)) <;> (first | rfl | assumption | exact decide_eq_true (by omega) | exact decide_eq_true (by dsimp only; omega) | exact decide_eq_true (by simp; omega) | (simp; done))))) | (refine LetV.pre ?_; first | refine LetV.mk (.sc (.int _ _)) rfl ?_ | refine LetV.mk (.sc (.bool _)) rfl ?_ | refine LetV.mk (.sc _) rfl ?_ | refine LetV.mk (.agg _) rfl ?_ | refine LetV.mk (.slm _ _ _ _ _) rfl ?_ | refine LetV.mk (.ro _ _ _) rfl ?_ | refine LetV.mk (.ptr _ _ _ _) rfl ?_) | (refine LetI.pre ?_; first | refine LetI.wrap (by omega) (by omega) ?_ | refine LetI.mk _ rfl ?_) | (refine LetB.pre ?_; first | refine LetB.tt rfl ?_ | refine LetB.ff rfl ?_ | refine LetB.tt (by assumption) ?_ | refine LetB.ff (by assumption) ?_ | refine LetB.mk _ rfl ?_) | (refine Gd.pre ?_; first | refine Gd.run rfl ?_ | refine Gd.pass rfl ?_ | refine Gd.run (by assumption) ?_ | refine Gd.pass (by assumption) ?_ | (refine Gd.run ?_ ?_; · decide +kernel) | (refine Gd.pass ?_ ?_; · decide +kernel) | refine Gd.both ?_) | (refine Br.pre ?_; first | refine Br.tt rfl ?_ | refine Br.ff rfl ?_ | refine Br.tt (by assumption) ?_ | refine Br.ff (by assumption) ?_ | (refine Br.tt ?_ ?_; · decide +kernel) | (refine Br.ff ?_ ?_; · decide +kernel)) | (refine Ck.pre ?_; first | refine Ck.drawn (by kernel_rfl) ?_ | refine Ck.mk rfl ?_) | (refine LetL.pre ?_; first | refine LetL.mk [_] rfl ?_ | refine LetL.mk _ rfl ?_)))); (try (conv => whnf)))
      exact ⟨.inl rfl, ⟨_, rfl, rfl⟩, trivial⟩
    have hb : decide ((j : Int) < (ps.length : Int)) = true := by simp only [decide_eq_true_eq]; omega
    have hjn : 0 + j < (ps.map par).length := by simp; omega
    have hgood : Good 4 (ps.getD j p0) := h4 _ (by
      rw [List.getD_eq_getElem?_getD, List.getElem?_eq_getElem hjl]
      exact List.getElem_mem _)
    have hbit := hbits _ hgood
    have hld : par (ps.getD j p0) = Am.part true 3 0 3 ((ps.map par).getD (0 + j) (.sc undef)) := by
      have := loadpar (ps := ps) (i := j) hjl
      rwa [Nat.zero_add]
    have hpq : (ps.drop j).getD (0 : Int).toNat p0 = ps.getD j p0 := by
      rw [List.getD_eq_getElem?_getD, List.getD_eq_getElem?_getD, List.getElem?_drop]; rfl
    have hdl : (ps.drop j).length = ps.length - j := List.length_drop
    have herase : (ps.drop j).eraseIdx (0 : Int).toNat = ps.drop (j + 1) := by
      rw [List.drop_eq_getElem_cons hjl]; rfl
    generalize hq : ps.getD j p0 = q at hgood hbit hld hpq
    have hpp : (!parB q q) = false := by rw [parB_self]; rfl
    have hT := Take_one 4 cu2 (ps.drop j) rfl (k := 0) (by omega) (by omega) (by omega) hpq (hgood.ok (by omega)) hbit
    rw [herase] at hT
    ((repeat ((conv => whnf); (first | (refine LetN.pre ?_; first | ((conv => arg 1; whnf); refine LetN.mk ?_)) | (refine As.pre ?_; first | refine As.mk rfl ?_ | (refine As.mk ?_ ?_; · decide +kernel) | refine As.mk (andT (nor_self _) rfl) ?_ | refine As.mk (andT (nor_self _) (or_t _)) ?_ | refine As.mk (andT (or_t _) (or_nself _)) ?_ | refine As.mk (andT (or_t _) (or_t _)) ?_ | refine As.mk (andT (nor_self _) (andT (nor_self _) rfl)) ?_ | (refine As.mk ?_ ?_; · ((repeat' (refine andT ?_ ?_)) <;> (first | rfl | assumption | exact decide_eq_true (by omega) | exact decide_eq_true (by dsimp only; omega) | exact decide_eq_true (by simp; omega) | (simp; done))))) | (refine LetV.pre ?_; first | refine LetV.mk (t := 33) _ hld ?_ | refine LetV.mk (.sc (.int _ _)) rfl ?_ | refine LetV.mk (.sc (.bool _)) rfl ?_ | refine LetV.mk (.sc _) rfl ?_ | refine LetV.mk (.agg _) rfl ?_ | refine LetV.mk (.slm _ _ _ _ _) rfl ?_ | refine LetV.mk (.ro _ _ _) rfl ?_ | refine LetV.mk (.ptr _ _ _ _) rfl ?_) | (refine LetI.pre ?_; first | refine LetI.wrap (by omega) (by omega) ?_ | refine LetI.mk _ rfl ?_) | (refine LetB.pre ?_; first | refine LetB.tt rfl ?_ | refine LetB.ff rfl ?_ | refine LetB.tt (by assumption) ?_ | refine LetB.ff (by assumption) ?_ | refine LetB.mk _ rfl ?_) | (refine Gd.pre ?_; first | refine Gd.run rfl ?_ | refine Gd.pass rfl ?_ | refine Gd.run (by assumption) ?_ | refine Gd.pass (by assumption) ?_ | (refine Gd.run ?_ ?_; · decide +kernel) | (refine Gd.pass ?_ ?_; · decide +kernel) | refine Gd.both ?_) | (refine Br.pre ?_; first | refine Br.tt rfl ?_ | refine Br.ff rfl ?_ | refine Br.tt (by assumption) ?_ | refine Br.ff (by assumption) ?_ | (refine Br.tt ?_ ?_; · decide +kernel) | (refine Br.ff ?_ ?_; · decide +kernel)) | (refine Ck.pre ?_; first | refine Ck.drawn (by kernel_rfl) ?_ | refine Ck.mk rfl ?_) | (refine LetL.pre ?_; first | refine LetL.mk (ty := 33) _ (renL_none (pure_par _)).symm ?_ | refine LetL.mk [_] rfl ?_ | refine LetL.mk _ rfl ?_) | (refine CallN.pre ?_; first | refine CallN.own (fun i => if i < 2 then i else 40) hT (netOk 4 cu2 (ps.drop j) rfl rfl rfl rfl rfl rfl) ?_)))); (try (conv => whnf)))



    refine LoopN.weak ?sw4 (ih (j + 1) (by omega) (by omega))
    case sw4 => exact SW.mk (fun i => if i = 1 then 40 else i) rfl rfl (sentNames _ _ _ _ _ rfl rfl) ⟨.refl _, .refl _, .refl _, .refl _, VLe2.int (by omega), trivial⟩ (haveV.one rfl (haveV.one (by rw [Blk.ren, renL_none (pure_par _)]; rfl) (haveV.one (by rw [Blk.ren, renL_none (pure_par _)]; rfl) (haveV.one rfl trivial))))
  have hb1 : decide ((k : Int) < ((l.map opA).length : Int)) = true := by simp; omega
  have hb2 : decide ((k : Int) < 12) = true := by simp; omega
  have hk : k < (l.map opA).length := by simp; omega
  have hrg := small_range (l.getD k o0)
  have hsz : (parOf (small (l.getD k o0))).2.2.size ≤ 20 := cut20_size _
  generalize hp : parOf (small (l.getD k o0)) = p at hrg hsz
  have hpf : AFun Try.prog 13 0 [opA (small (l.getD k o0))] [] (par p) [] := by rw [← hp]; exact Parcel_f _
  by_cases hg : Good 4 p
  · have e1 : decide (p.1 > 0) = true := by unfold Good at hg; simp; omega
    have e2 : decide (p.2.1 > 0) = true := by unfold Good at hg; simp; omega
    have e3 : (p.1 != p.2.1) = true := by unfold Good at hg; simp; omega
    have hst : storables [par p] = true := rfl
    ((repeat ((conv => whnf); (first | (refine LetN.pre ?_; first | ((conv => arg 1; whnf); refine LetN.mk ?_)) | (refine As.pre ?_; first | refine As.mk rfl ?_ | (refine As.mk ?_ ?_; · decide +kernel) | refine As.mk (andT (nor_self _) rfl) ?_ | refine As.mk (andT (nor_self _) (or_t _)) ?_ | refine As.mk (andT (or_t _) (or_nself _)) ?_ | refine As.mk (andT (or_t _) (or_t _)) ?_ | refine As.mk (andT (nor_self _) (andT (nor_self _) rfl)) ?_ | (refine As.mk ?_ ?_; · ((repeat' (refine andT ?_ ?_)) <;> (first | rfl | assumption | exact decide_eq_true (by omega) | exact decide_eq_true (by dsimp only; omega) | exact decide_eq_true (by simp; omega) | (simp; done))))) | (refine LetV.pre ?_; first | refine LetV.mk (t := 22) _ (mapD (f := opA) (l := l) (i := k) o0 hlt.1) ?_ | refine LetV.mk (.sc (.int _ _)) rfl ?_ | refine LetV.mk (.sc (.bool _)) rfl ?_ | refine LetV.mk (.sc _) rfl ?_ | refine LetV.mk (.agg _) rfl ?_ | refine LetV.mk (.slm _ _ _ _ _) rfl ?_ | refine LetV.mk (.ro _ _ _) rfl ?_ | refine LetV.mk (.ptr _ _ _ _) rfl ?_) | (refine LetI.pre ?_; first | refine LetI.wrap (by omega) (by omega) ?_ | refine LetI.mk _ rfl ?_) | (refine LetB.pre ?_; first | refine LetB.tt rfl ?_ | refine LetB.ff rfl ?_ | refine LetB.tt (by assumption) ?_ | refine LetB.ff (by assumption) ?_ | refine LetB.mk _ rfl ?_) | (refine Gd.pre ?_; first | refine Gd.run rfl ?_ | refine Gd.pass rfl ?_ | refine Gd.run (by assumption) ?_ | refine Gd.pass (by assumption) ?_ | (refine Gd.run ?_ ?_; · decide +kernel) | (refine Gd.pass ?_ ?_; · decide +kernel) | refine Gd.both ?_) | (refine Br.pre ?_; first | refine Br.tt rfl ?_ | refine Br.ff rfl ?_ | refine Br.tt (by assumption) ?_ | refine Br.ff (by assumption) ?_ | (refine Br.tt ?_ ?_; · decide +kernel) | (refine Br.ff ?_ ?_; · decide +kernel)) | (refine Ck.pre ?_; first | refine Ck.drawn (by kernel_rfl) ?_ | refine Ck.mk rfl ?_) | (refine LetL.pre ?_; first | refine LetL.mk (ty := 33) _ (send_row ps p) ?_ | refine LetL.mk (ty := 33) _ (renL_none (pure_par _)).symm ?_ | refine LetL.mk [_] rfl ?_ | refine LetL.mk _ rfl ?_) | (refine CallN.pre ?_; first | refine CallN.pure (Small_f _) rfl rfl ?_ | refine CallN.pure hpf rfl rfl ?_ | refine CallN.own (fun i => if i < 2 then i else 40) (Send_ok 4 c0 ps rfl (by omega) _ hg (by omega) (c0_bit _ _)) (netOk 4 c0 ps rfl rfl rfl rfl rfl rfl) ?_)))); (try (conv => whnf)))






    refine LoopN.weak ?sw (ih (k + 1, ps ++ [p]) ⟨by simp; omega, by simp; omega, by simp; omega, fun q hq => ?_⟩ (by simp; omega))
    case sw => exact SW.mk (fun i => if i = 1 then 40 else if i = 2 then 41 else i) rfl rfl (sentNames _ _ _ _ _ rfl rfl) ⟨.refl _, .refl _, .refl _, .refl _, VLe2.slm_of (by simp), VLe2.int (by simp), trivial⟩ (haveV.one rfl (haveV.one (by rw [Blk.ren, renL_none (pure_par _)]; rfl) (haveV.one (by rw [Blk.ren, renL_none (pure_par _)]; rfl) (haveV.one rfl trivial))))
    rcases List.mem_append.1 hq with hq | hq
    · exact h4 q hq
    · simp at hq; subst hq; exact hg
  · have step : ∀ (b1 b2 b3 : Bool), decide (p.1 > 0) = b1 → decide (p.2.1 > 0) = b2 → (p.1 != p.2.1) = b3 → (b1 && b2 && b3) = false → True := fun _ _ _ _ _ _ _ => trivial
    clear step
    have hcase : decide (p.1 > 0) = false ∨ (decide (p.1 > 0) = true ∧ decide (p.2.1 > 0) = false) ∨ (decide (p.1 > 0) = true ∧ decide (p.2.1 > 0) = true ∧ (p.1 != p.2.1) = false) := by
      unfold Good at hg
      simp
      omega
    rcases hcase with e1 | ⟨e1, e2⟩ | ⟨e1, e2, e3⟩
    all_goals
      ((repeat ((conv => whnf); (first | (refine LetN.pre ?_; first | ((conv => arg 1; whnf); refine LetN.mk ?_)) | (refine As.pre ?_; first | refine As.mk rfl ?_ | (refine As.mk ?_ ?_; · decide +kernel) | refine As.mk (andT (nor_self _) rfl) ?_ | refine As.mk (andT (nor_self _) (or_t _)) ?_ | refine As.mk (andT (or_t _) (or_nself _)) ?_ | refine As.mk (andT (or_t _) (or_t _)) ?_ | refine As.mk (andT (nor_self _) (andT (nor_self _) rfl)) ?_ | (refine As.mk ?_ ?_; · ((repeat' (refine andT ?_ ?_)) <;> (first | rfl | assumption | exact decide_eq_true (by omega) | exact decide_eq_true (by dsimp only; omega) | exact decide_eq_true (by simp; omega) | (simp; done))))) | (refine LetV.pre ?_; first | refine LetV.mk (t := 22) _ (mapD (f := opA) (l := l) (i := k) o0 hlt.1) ?_ | refine LetV.mk (.sc (.int _ _)) rfl ?_ | refine LetV.mk (.sc (.bool _)) rfl ?_ | refine LetV.mk (.sc _) rfl ?_ | refine LetV.mk (.agg _) rfl ?_ | refine LetV.mk (.slm _ _ _ _ _) rfl ?_ | refine LetV.mk (.ro _ _ _) rfl ?_ | refine LetV.mk (.ptr _ _ _ _) rfl ?_) | (refine LetI.pre ?_; first | refine LetI.wrap (by omega) (by omega) ?_ | refine LetI.mk _ rfl ?_) | (refine LetB.pre ?_; first | refine LetB.tt rfl ?_ | refine LetB.ff rfl ?_ | refine LetB.tt (by assumption) ?_ | refine LetB.ff (by assumption) ?_ | refine LetB.mk _ rfl ?_) | (refine Gd.pre ?_; first | refine Gd.run rfl ?_ | refine Gd.pass rfl ?_ | refine Gd.run (by assumption) ?_ | refine Gd.pass (by assumption) ?_ | (refine Gd.run ?_ ?_; · decide +kernel) | (refine Gd.pass ?_ ?_; · decide +kernel) | refine Gd.both ?_) | (refine Br.pre ?_; first | refine Br.tt rfl ?_ | refine Br.ff rfl ?_ | refine Br.tt (by assumption) ?_ | refine Br.ff (by assumption) ?_ | (refine Br.tt ?_ ?_; · decide +kernel) | (refine Br.ff ?_ ?_; · decide +kernel)) | (refine Ck.pre ?_; first | refine Ck.drawn (by kernel_rfl) ?_ | refine Ck.mk rfl ?_) | (refine LetL.pre ?_; first | refine LetL.mk [_] rfl ?_ | refine LetL.mk _ rfl ?_) | (refine CallN.pre ?_; first | refine CallN.pure (Small_f _) rfl rfl ?_ | refine CallN.pure hpf rfl rfl ?_ | refine CallN.read id (Send_no 4 c0 ps rfl _ hg) (netOk' 4 c0 ps rfl rfl rfl rfl rfl rfl) ?_)))); (try (conv => whnf)))




      refine LoopN.weak ?sw (ih (k + 1, ps) ⟨by simp; omega, by simp; omega, by simp; omega, h4⟩ (by simp; omega))
      case sw => exact SW.mk id rfl rfl (sentNames _ _ _ _ _ rfl rfl) ⟨.refl _, .refl _, .refl _, .refl _, .refl _, VLe2.int (by simp), trivial⟩ (haveV.one rfl (haveV.one (by rw [Blk.ren, renL_none (pure_par _)]; rfl) (haveV.one (by rw [Blk.ren, renL_none (pure_par _)]; rfl) (haveV.one rfl trivial))))
end Nt
end Go.Proofs.Ytcfokhkdphodoaa
