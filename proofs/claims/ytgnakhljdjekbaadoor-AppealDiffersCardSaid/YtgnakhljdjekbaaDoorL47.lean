/- appealD: parts of the proof, DappealDTJ DappealDTS DappealDTK DappealDTL DappealDJB DappealDJC DappealDJD DappealDJE DappealDFE DappealDFF DappealDFG DappealDFH DappealDFI DappealDFJ DappealDFK DappealDFL DappealDFM DappealDFN. -/
import Derived.Test.YtgnakhljdjekbaaDoorL46
import Derived.Test.YtgnakhljdjekbaaDoorL35
import Derived.Room.Shelf.Join48
import Derived.Shelf.Strconv.Itoa3
import Derived.Lib.ItoaLen
import Derived.Test.YtgnakhljdjekbaaDoorL42
import Derived.Shelf.GgClosure.StringsIndexFunc
set_option linter.all false
namespace Go.Proofs.YtgnakhljdjekbaaDoor
open Go.Proofs.YtgnakhljdjekbaaDoor.Am
set_option maxRecDepth 100000
namespace En
/-! ### What has changed -/
theorem missing_f (a b : List Fa) (f1 f2 : Fl) (ha : a.length ≤ 12) (hb : b.length ≤ 1000) (ka : ∀ x ∈ a, okF x) (kb : ∀ x ∈ b, okF x) : AFun Tryd.prog 19 0 [.ro f1 7 (a.map fa), .ro f2 7 (b.map fa)] [] (.ro {} 7 ((misP a b).map fa)) [] :=
  AFun.frz1 (H := []) (missing_s a b f1 f2 ha hb ka kb) rfl (pure_fa _) (by simp)
abbrev wr (n : Int) : Int := IntKind.i64.wrap n
def lastW (t : Int) : Int := wr (wr (wr (100 * t) + 100) - 1)
theorem lastW_small {t : Int} (h : -1000000 ≤ t ∧ t ≤ 1000000) : lastW t = 100 * t + 99 := by
  unfold lastW wr
  rw [wrap_id (x := 100 * t) (by omega) (by omega), wrap_id (x := 100 * t + 100) (by omega) (by omega), wrap_id (by omega) (by omega)]; omega
theorem BeginW_f (t : Int) : AFun Tryd.prog 43 0 [int t] [] (int (wr (100 * t))) [] := by
  refine AFun.of_W T_ok mixed Tryd.func43 rfl (Nat.le_of_ble_eq_true rfl) rfl ?_
  obtain ⟨x, hx⟩ : ∃ x, x = wr (100 * t) := ⟨_, rfl⟩
  rw [← hx]
  ((repeat ((conv => whnf); (first | (refine LetN.pre ?_; first | ((conv => arg 1; whnf); refine LetN.mk ?_)) | (refine As.pre ?_; first | refine As.mk rfl ?_ | (refine As.mk ?_ ?_; · decide +kernel) | refine As.mk (andT (nor_self _) rfl) ?_ | refine As.mk (andT (nor_self _) (or_t _)) ?_ | refine As.mk (andT (or_t _) (or_nself _)) ?_ | refine As.mk (andT (or_t _) (or_t _)) ?_ | refine As.mk (andT (nor_self _) (andT (nor_self _) rfl)) ?_ | (refine As.mk ?_ ?_; · ((repeat' (refine andT ?_ ?_)) <;> (first | rfl | assumption | exact decide_eq_true (by omega) | exact decide_eq_true (by dsimp only; omega) | exact decide_eq_true (by simp; omega) | (simp; done))))) | (refine LetV.pre ?_; first | refine LetV.mk (.sc (.int _ _)) rfl ?_ | refine LetV.mk (.sc (.bool _)) rfl ?_ | refine LetV.mk (.sc _) rfl ?_ | refine LetV.mk (.agg _) rfl ?_ | refine LetV.mk (.slm _ _ _ _ _) rfl ?_ | refine LetV.mk (.ro _ _ _) rfl ?_ | refine LetV.mk (.ptr _ _ _ _) rfl ?_ | refine LetV.mk (.clo _ _ _) rfl ?_ | refine LetV.mk (.rp _ _) rfl ?_) | (refine LetI.pre ?_; first | refine LetI.mk (o := some .mul) x hx ?_ | refine LetI.wrap (by omega) (by omega) ?_ | refine LetI.mk _ rfl ?_) | (refine LetB.pre ?_; first | refine LetB.tt rfl ?_ | refine LetB.ff rfl ?_ | refine LetB.tt (by assumption) ?_ | refine LetB.ff (by assumption) ?_ | refine LetB.dect (by omega) ?_ | refine LetB.decf (by omega) ?_ | refine LetB.beqt (by omega) ?_ | refine LetB.beqf (by omega) ?_ | refine LetB.bnet (by omega) ?_ | refine LetB.bnef (by omega) ?_ | refine LetB.mk _ rfl ?_) | (refine Gd.pre ?_; first | refine Gd.run rfl ?_ | refine Gd.pass rfl ?_ | refine Gd.run (by assumption) ?_ | refine Gd.pass (by assumption) ?_ | (refine Gd.run ?_ ?_; · decide +kernel) | (refine Gd.pass ?_ ?_; · decide +kernel) | refine Gd.both ?_) | (refine Br.pre ?_; first | refine Br.tt rfl ?_ | refine Br.ff rfl ?_ | refine Br.tt (by assumption) ?_ | refine Br.ff (by assumption) ?_ | (refine Br.tt ?_ ?_; · decide +kernel) | (refine Br.ff ?_ ?_; · decide +kernel)) | (refine Ck.pre ?_; first | refine Ck.drawn (by kernel_rfl) ?_ | refine Ck.mk rfl ?_) | (refine LetL.pre ?_; first | refine LetL.mk [_] rfl ?_ | refine LetL.mk _ rfl ?_) | refine forceAs.pass ?_ | refine forceEs.pass ?_ | refine forceC.pass ?_))); (try (conv => whnf)))
  exact ⟨.inl rfl, ⟨_, rfl, rfl⟩, trivial⟩
theorem LastW_f (t : Int) : AFun Tryd.prog 29 0 [int t] [] (int (lastW t)) [] := by
  refine AFun.of_W T_ok mixed Tryd.func29 rfl (Nat.le_of_ble_eq_true rfl) rfl ?_
  have hB := BeginW_f t
  unfold lastW
  generalize wr (100 * t) = x at hB ⊢
  obtain ⟨y, hy⟩ : ∃ y, y = wr (x + 100) := ⟨_, rfl⟩
  rw [← hy]
  obtain ⟨z, hz⟩ : ∃ z, z = wr (y - 1) := ⟨_, rfl⟩
  rw [← hz]
  ((repeat ((conv => whnf); (first | (refine LetN.pre ?_; first | ((conv => arg 1; whnf); refine LetN.mk ?_)) | (refine As.pre ?_; first | refine As.mk rfl ?_ | (refine As.mk ?_ ?_; · decide +kernel) | refine As.mk (andT (nor_self _) rfl) ?_ | refine As.mk (andT (nor_self _) (or_t _)) ?_ | refine As.mk (andT (or_t _) (or_nself _)) ?_ | refine As.mk (andT (or_t _) (or_t _)) ?_ | refine As.mk (andT (nor_self _) (andT (nor_self _) rfl)) ?_ | (refine As.mk ?_ ?_; · ((repeat' (refine andT ?_ ?_)) <;> (first | rfl | assumption | exact decide_eq_true (by omega) | exact decide_eq_true (by dsimp only; omega) | exact decide_eq_true (by simp; omega) | (simp; done))))) | (refine LetV.pre ?_; first | refine LetV.mk (.sc (.int _ _)) rfl ?_ | refine LetV.mk (.sc (.bool _)) rfl ?_ | refine LetV.mk (.sc _) rfl ?_ | refine LetV.mk (.agg _) rfl ?_ | refine LetV.mk (.slm _ _ _ _ _) rfl ?_ | refine LetV.mk (.ro _ _ _) rfl ?_ | refine LetV.mk (.ptr _ _ _ _) rfl ?_ | refine LetV.mk (.clo _ _ _) rfl ?_ | refine LetV.mk (.rp _ _) rfl ?_) | (refine LetI.pre ?_; first | refine LetI.mk (o := some .add) y hy ?_ | refine LetI.mk (o := some .sub) z hz ?_ | refine LetI.wrap (by omega) (by omega) ?_ | refine LetI.mk _ rfl ?_) | (refine LetB.pre ?_; first | refine LetB.tt rfl ?_ | refine LetB.ff rfl ?_ | refine LetB.tt (by assumption) ?_ | refine LetB.ff (by assumption) ?_ | refine LetB.dect (by omega) ?_ | refine LetB.decf (by omega) ?_ | refine LetB.beqt (by omega) ?_ | refine LetB.beqf (by omega) ?_ | refine LetB.bnet (by omega) ?_ | refine LetB.bnef (by omega) ?_ | refine LetB.mk _ rfl ?_) | (refine Gd.pre ?_; first | refine Gd.run rfl ?_ | refine Gd.pass rfl ?_ | refine Gd.run (by assumption) ?_ | refine Gd.pass (by assumption) ?_ | (refine Gd.run ?_ ?_; · decide +kernel) | (refine Gd.pass ?_ ?_; · decide +kernel) | refine Gd.both ?_) | (refine Br.pre ?_; first | refine Br.tt rfl ?_ | refine Br.ff rfl ?_ | refine Br.tt (by assumption) ?_ | refine Br.ff (by assumption) ?_ | (refine Br.tt ?_ ?_; · decide +kernel) | (refine Br.ff ?_ ?_; · decide +kernel)) | (refine Ck.pre ?_; first | refine Ck.drawn (by kernel_rfl) ?_ | refine Ck.mk rfl ?_) | (refine LetL.pre ?_; first | refine LetL.mk [_] rfl ?_ | refine LetL.mk _ rfl ?_) | (refine CallN.pre ?_; first | refine CallN.pure hB rfl rfl ?_) | refine forceAs.pass ?_ | refine forceEs.pass ?_ | refine forceC.pass ?_))); (try (conv => whnf)))
  exact ⟨.inl rfl, ⟨_, rfl, rfl⟩, trivial⟩
def keptP (f : Fa) (day : Int) : Bool := decide (f.kind = 5) && decide (lastW f.term < day)
theorem Kept_f (f : Fa) (e : E) : AFun Tryd.prog 14 0 [fa f, en e] [] (bool (keptP f e.day)) [] := by
  refine AFun.of_W T_ok mixed Tryd.func14 rfl (Nat.le_of_ble_eq_true rfl) rfl ?_
  have hL := LastW_f f.term
  unfold keptP
  generalize lastW f.term = x at hL ⊢
  by_cases h5 : f.kind = 5
  · rw [decide_eq_true h5, Bool.true_and]
    ((repeat ((conv => whnf); (first | (refine LetN.pre ?_; first | ((conv => arg 1; whnf); refine LetN.mk ?_)) | (refine As.pre ?_; first | refine As.mk rfl ?_ | (refine As.mk ?_ ?_; · decide +kernel) | refine As.mk (andT (nor_self _) rfl) ?_ | refine As.mk (andT (nor_self _) (or_t _)) ?_ | refine As.mk (andT (or_t _) (or_nself _)) ?_ | refine As.mk (andT (or_t _) (or_t _)) ?_ | refine As.mk (andT (nor_self _) (andT (nor_self _) rfl)) ?_ | (refine As.mk ?_ ?_; · ((repeat' (refine andT ?_ ?_)) <;> (first | rfl | assumption | exact decide_eq_true (by omega) | exact decide_eq_true (by dsimp only; omega) | exact decide_eq_true (by simp; omega) | (simp; done))))) | (refine LetV.pre ?_; first | refine LetV.mk (.sc (.int _ _)) rfl ?_ | refine LetV.mk (.sc (.bool _)) rfl ?_ | refine LetV.mk (.sc _) rfl ?_ | refine LetV.mk (.agg _) rfl ?_ | refine LetV.mk (.slm _ _ _ _ _) rfl ?_ | refine LetV.mk (.ro _ _ _) rfl ?_ | refine LetV.mk (.ptr _ _ _ _) rfl ?_ | refine LetV.mk (.clo _ _ _) rfl ?_ | refine LetV.mk (.rp _ _) rfl ?_) | (refine LetI.pre ?_; first | refine LetI.wrap (by omega) (by omega) ?_ | refine LetI.mk _ rfl ?_) | (refine LetB.pre ?_; first | refine LetB.tt rfl ?_ | refine LetB.ff rfl ?_ | refine LetB.tt (by assumption) ?_ | refine LetB.ff (by assumption) ?_ | refine LetB.dect (by omega) ?_ | refine LetB.decf (by omega) ?_ | refine LetB.beqt (by omega) ?_ | refine LetB.beqf (by omega) ?_ | refine LetB.bnet (by omega) ?_ | refine LetB.bnef (by omega) ?_ | refine LetB.mk _ rfl ?_) | (refine Gd.pre ?_; first | refine Gd.run rfl ?_ | refine Gd.pass rfl ?_ | refine Gd.run (by assumption) ?_ | refine Gd.pass (by assumption) ?_ | (refine Gd.run ?_ ?_; · decide +kernel) | (refine Gd.pass ?_ ?_; · decide +kernel) | refine Gd.both ?_) | (refine Br.pre ?_; first | refine Br.tt rfl ?_ | refine Br.ff rfl ?_ | refine Br.tt (by assumption) ?_ | refine Br.ff (by assumption) ?_ | (refine Br.tt ?_ ?_; · decide +kernel) | (refine Br.ff ?_ ?_; · decide +kernel)) | (refine Ck.pre ?_; first | refine Ck.drawn (by kernel_rfl) ?_ | refine Ck.mk rfl ?_) | (refine LetL.pre ?_; first | refine LetL.mk [_] rfl ?_ | refine LetL.mk _ rfl ?_) | (refine CallN.pre ?_; first | refine CallN.pure hL rfl rfl ?_) | refine forceAs.pass ?_ | refine forceEs.pass ?_ | refine forceC.pass ?_))); (try (conv => whnf)))
    exact ⟨.inl rfl, ⟨_, rfl, rfl⟩, trivial⟩
  · rw [decide_eq_false h5, Bool.false_and]
    ((repeat ((conv => whnf); (first | (refine LetN.pre ?_; first | ((conv => arg 1; whnf); refine LetN.mk ?_)) | (refine As.pre ?_; first | refine As.mk rfl ?_ | (refine As.mk ?_ ?_; · decide +kernel) | refine As.mk (andT (nor_self _) rfl) ?_ | refine As.mk (andT (nor_self _) (or_t _)) ?_ | refine As.mk (andT (or_t _) (or_nself _)) ?_ | refine As.mk (andT (or_t _) (or_t _)) ?_ | refine As.mk (andT (nor_self _) (andT (nor_self _) rfl)) ?_ | (refine As.mk ?_ ?_; · ((repeat' (refine andT ?_ ?_)) <;> (first | rfl | assumption | exact decide_eq_true (by omega) | exact decide_eq_true (by dsimp only; omega) | exact decide_eq_true (by simp; omega) | (simp; done))))) | (refine LetV.pre ?_; first | refine LetV.mk (.sc (.int _ _)) rfl ?_ | refine LetV.mk (.sc (.bool _)) rfl ?_ | refine LetV.mk (.sc _) rfl ?_ | refine LetV.mk (.agg _) rfl ?_ | refine LetV.mk (.slm _ _ _ _ _) rfl ?_ | refine LetV.mk (.ro _ _ _) rfl ?_ | refine LetV.mk (.ptr _ _ _ _) rfl ?_ | refine LetV.mk (.clo _ _ _) rfl ?_ | refine LetV.mk (.rp _ _) rfl ?_) | (refine LetI.pre ?_; first | refine LetI.wrap (by omega) (by omega) ?_ | refine LetI.mk _ rfl ?_) | (refine LetB.pre ?_; first | refine LetB.tt rfl ?_ | refine LetB.ff rfl ?_ | refine LetB.tt (by assumption) ?_ | refine LetB.ff (by assumption) ?_ | refine LetB.dect (by omega) ?_ | refine LetB.decf (by omega) ?_ | refine LetB.beqt (by omega) ?_ | refine LetB.beqf (by omega) ?_ | refine LetB.bnet (by omega) ?_ | refine LetB.bnef (by omega) ?_ | refine LetB.mk _ rfl ?_) | (refine Gd.pre ?_; first | refine Gd.run rfl ?_ | refine Gd.pass rfl ?_ | refine Gd.run (by assumption) ?_ | refine Gd.pass (by assumption) ?_ | (refine Gd.run ?_ ?_; · decide +kernel) | (refine Gd.pass ?_ ?_; · decide +kernel) | refine Gd.both ?_) | (refine Br.pre ?_; first | refine Br.tt rfl ?_ | refine Br.ff rfl ?_ | refine Br.tt (by assumption) ?_ | refine Br.ff (by assumption) ?_ | (refine Br.tt ?_ ?_; · decide +kernel) | (refine Br.ff ?_ ?_; · decide +kernel)) | (refine Ck.pre ?_; first | refine Ck.drawn (by kernel_rfl) ?_ | refine Ck.mk rfl ?_) | (refine LetL.pre ?_; first | refine LetL.mk [_] rfl ?_ | refine LetL.mk _ rfl ?_) | (refine CallN.pre ?_; first | refine CallN.pure hL rfl rfl ?_) | refine forceAs.pass ?_ | refine forceEs.pass ?_ | refine forceC.pass ?_))); (try (conv => whnf)))
    exact ⟨.inl rfl, ⟨_, rfl, rfl⟩, trivial⟩
abbrev cty : TypeId := 37
abbrev csl : TypeId := 34
abbrev rwC (L : List Cg) : Blk := .row 10 cty (L.map cgA)
theorem pure_cg : ∀ l : List Cg, AV.namesL (fun _ => false) (l.map cgA) = true
  | [] => rfl
  | p :: l => by simp only [List.map_cons, AV.namesL, pure_cg l]; rfl
theorem app_cg (l : List Cg) (e : Cg) (n : Nat) (h : n = l.length) : (l ++ [e]).map cgA = (l.map cgA).take n ++ [cgA e] := by rw [List.take_of_length_le (by simp [h]), List.map_append]; rfl
theorem room_cg {n : Nat} (h : n ≤ 100000) : room n 80 = true := by
  simp only [room, Bool.and_eq_true, decide_eq_true_eq]
  exact ⟨by omega, rfl⟩
def goneP (e : E) (f : Fa) : Cg := ⟨f, true, keptP f e.day, e.id⟩
def cameP (e : E) (f : Fa) : Cg := ⟨f, false, false, e.id⟩
def difP (a b : List Fa) (e : E) : List Cg := (misP a b).map (goneP e) ++ (misP b a).map (cameP e)
abbrev d1S (a b G : List Fa) (f1 f2 : Fl) (e : E) : Nat × List Cg → AS
  | (k, L) => ⟨[(0, .ro f1 7 (a.map fa)), (1, .ro f2 7 (b.map fa)), (5, .ptr 0 15 0 0), (7, .slm {} 1 10 0 L.length), (14, .ro {} 7 (G.map fa)), (15, int G.length), (16, int k)], [(0, .row 15 33 [en e]), (1, rwC L)], 2⟩
abbrev d2S (G : List Fa) (e : E) : Nat × List Cg → AS
  | (k, L) => ⟨[(5, .ptr 0 15 0 0), (7, .slm {} 1 10 0 L.length), (33, .ro {} 7 (G.map fa)), (34, int G.length), (35, int k)], [(0, .row 15 33 [en e]), (1, rwC L)], 2⟩
theorem dN (e : E) (L : List Cg) (ok : Nat → Bool) : namesAll ok [(0, .row 15 33 [en e]), (1, rwC L)] = true := namesAll.row rfl (namesAll.row (pure_cg _) rfl)
def rd3 : Nat → Nat | 1 => 3 | i => i
set_option maxHeartbeats 1600000 in
set_option maxRecDepth 100000 in
theorem Differ_s (a b : List Fa) (e : E) (f1 f2 : Fl) (ha : a.length ≤ 12) (hb : b.length ≤ 12) (ka : ∀ x ∈ a, okF x) (kb : ∀ x ∈ b, okF x) : AFun Tryd.prog 8 0 [.ro f1 7 (a.map fa), .ro f2 7 (b.map fa), en e] [] (.slm {} 0 10 0 (difP a b e).length) [(0, rwC (difP a b e))] := by
  refine AFun.of_S T_ok mixed Tryd.func8 rfl (Nat.le_of_ble_eq_true rfl) rfl ?_
  have hG := missing_f a b f1 f2 ha (by omega) ka kb
  have hC := missing_f b a f2 f1 hb (by omega) kb ka
  have lG := mis_len a b
  have lC := mis_len b a
  rw [difP]
  generalize misP a b = G at hG lG ⊢
  generalize misP b a = C at hC lC ⊢
  have hmG : (G.map fa).length = G.length := List.length_map _
  have hmC : (C.map fa).length = C.length := List.length_map _
  ((repeat ((conv => whnf); (first | (refine LetN.pre ?_; first | ((conv => arg 1; whnf); refine LetN.mk ?_)) | (refine As.pre ?_; first | refine As.mk rfl ?_ | (refine As.mk ?_ ?_; · decide +kernel) | refine As.mk (andT (nor_self _) rfl) ?_ | refine As.mk (andT (nor_self _) (or_t _)) ?_ | refine As.mk (andT (or_t _) (or_nself _)) ?_ | refine As.mk (andT (or_t _) (or_t _)) ?_ | refine As.mk (andT (nor_self _) (andT (nor_self _) rfl)) ?_ | (refine As.mk ?_ ?_; · ((repeat' (refine andT ?_ ?_)) <;> (first | rfl | assumption | exact decide_eq_true (by omega) | exact decide_eq_true (by dsimp only; omega) | exact decide_eq_true (by simp; omega) | (simp; done))))) | (refine LetV.pre ?_; first | refine LetV.mk (.sc (.int _ _)) rfl ?_ | refine LetV.mk (.sc (.bool _)) rfl ?_ | refine LetV.mk (.sc _) rfl ?_ | refine LetV.mk (.agg _) rfl ?_ | refine LetV.mk (.slm _ _ _ _ _) rfl ?_ | refine LetV.mk (.ro _ _ _) rfl ?_ | refine LetV.mk (.ptr _ _ _ _) rfl ?_ | refine LetV.mk (.clo _ _ _) rfl ?_ | refine LetV.mk (.rp _ _) rfl ?_) | (refine LetI.pre ?_; first | refine LetI.wrap (by omega) (by omega) ?_ | refine LetI.mk _ rfl ?_) | (refine LetB.pre ?_; first | refine LetB.tt rfl ?_ | refine LetB.ff rfl ?_ | refine LetB.tt (by assumption) ?_ | refine LetB.ff (by assumption) ?_ | refine LetB.dect (by omega) ?_ | refine LetB.decf (by omega) ?_ | refine LetB.beqt (by omega) ?_ | refine LetB.beqf (by omega) ?_ | refine LetB.bnet (by omega) ?_ | refine LetB.bnef (by omega) ?_ | refine LetB.mk _ rfl ?_) | (refine Gd.pre ?_; first | refine Gd.run rfl ?_ | refine Gd.pass rfl ?_ | refine Gd.run (by assumption) ?_ | refine Gd.pass (by assumption) ?_ | (refine Gd.run ?_ ?_; · decide +kernel) | (refine Gd.pass ?_ ?_; · decide +kernel) | refine Gd.both ?_) | (refine Br.pre ?_; first | refine Br.tt rfl ?_ | refine Br.ff rfl ?_ | refine Br.tt (by assumption) ?_ | refine Br.ff (by assumption) ?_ | (refine Br.tt ?_ ?_; · decide +kernel) | (refine Br.ff ?_ ?_; · decide +kernel)) | (refine Ck.pre ?_; first | refine Ck.drawn (by kernel_rfl) ?_ | refine Ck.mk rfl ?_) | (refine LetL.pre ?_; first | refine LetL.mk [_] rfl ?_ | refine LetL.mk _ rfl ?_) | (refine CallN.pre ?_; first | refine CallN.pure hG rfl rfl ?_) | refine forceAs.pass ?_ | refine forceEs.pass ?_ | refine forceC.pass ?_))); (try (conv => whnf)))
  clear hG
  refine LoopN.weak (s1 := d1S a b G f1 f2 e (0, [])) ?sw1 ?_
  case sw1 => exact SW.mk id rfl rfl (dN _ _ _) ⟨.refl _, .refl _, .refl _, VLe2.nilslm, .refl _, VLe2.int (by rw [hmG]), .refl _, trivial⟩ (haveV.one rfl (haveV.nil (Nat.le_of_ble_eq_true rfl) trivial))
  refine LoopN.ind T_ok mixed (S := d1S a b G f1 f2 e) (fun i => G.length - i.1) (fun i => i.1 ≤ G.length ∧ i.2 = (G.take i.1).map (goneP e)) (fun _ => rfl) (fun i hi ih => ?_) (0, []) ⟨Nat.zero_le _, rfl⟩
  obtain ⟨k, L⟩ := i
  obtain ⟨h1, h2⟩ := hi
  dsimp only at h1 h2
  have hLl : L.length = k := by rw [h2, List.length_map, List.length_take]; omega
  by_cases hlt : k < G.length
  · have hld := fa_ld hlt
    have hnx := ih (k + 1, L ++ [goneP e (G.getD k fa0)]) ⟨hlt, by dsimp only; rw [h2, List.take_succ_eq_append_getElem hlt, List.map_append, List.getD_eq_getElem?_getD, List.getElem?_eq_getElem hlt]; rfl⟩ (by show G.length - (k + 1) < G.length - k; omega)
    clear ih h2
    generalize G.getD k fa0 = f at hld hnx
    have hK := Kept_f f e
    have r1 := room_cg (n := L.length + 1) (by omega)
    have a1 := app_cg L (goneP e f) L.length rfl
    have l1 : (L ++ [goneP e f]).length = L.length + 1 := by simp
    unfold goneP at a1 l1 hnx
    generalize keptP f e.day = kp at hK a1 l1 hnx
    ((repeat ((conv => whnf); (first | (refine LetN.pre ?_; first | ((conv => arg 1; whnf); refine LetN.mk ?_)) | (refine As.pre ?_; first | refine As.mk rfl ?_ | (refine As.mk ?_ ?_; · decide +kernel) | refine As.mk (andT (nor_self _) rfl) ?_ | refine As.mk (andT (nor_self _) (or_t _)) ?_ | refine As.mk (andT (or_t _) (or_nself _)) ?_ | refine As.mk (andT (or_t _) (or_t _)) ?_ | refine As.mk (andT (nor_self _) (andT (nor_self _) rfl)) ?_ | (refine As.mk ?_ ?_; · ((repeat' (refine andT ?_ ?_)) <;> (first | rfl | assumption | exact decide_eq_true (by omega) | exact decide_eq_true (by dsimp only; omega) | exact decide_eq_true (by simp; omega) | (simp; done))))) | (refine LetV.pre ?_; first | refine LetV.mk (t := fsl) _ hld ?_ | refine LetV.mk (.sc (.int _ _)) rfl ?_ | refine LetV.mk (.sc (.bool _)) rfl ?_ | refine LetV.mk (.sc _) rfl ?_ | refine LetV.mk (.agg _) rfl ?_ | refine LetV.mk (.slm _ _ _ _ _) rfl ?_ | refine LetV.mk (.ro _ _ _) rfl ?_ | refine LetV.mk (.ptr _ _ _ _) rfl ?_ | refine LetV.mk (.clo _ _ _) rfl ?_ | refine LetV.mk (.rp _ _) rfl ?_) | (refine LetI.pre ?_; first | refine LetI.wrap (by omega) (by omega) ?_ | refine LetI.mk _ rfl ?_) | (refine LetB.pre ?_; first | refine LetB.tt rfl ?_ | refine LetB.ff rfl ?_ | refine LetB.tt (by assumption) ?_ | refine LetB.ff (by assumption) ?_ | refine LetB.dect (by omega) ?_ | refine LetB.decf (by omega) ?_ | refine LetB.beqt (by omega) ?_ | refine LetB.beqf (by omega) ?_ | refine LetB.bnet (by omega) ?_ | refine LetB.bnef (by omega) ?_ | refine LetB.mk _ rfl ?_) | (refine Gd.pre ?_; first | refine Gd.run rfl ?_ | refine Gd.pass rfl ?_ | refine Gd.run (by assumption) ?_ | refine Gd.pass (by assumption) ?_ | (refine Gd.run ?_ ?_; · decide +kernel) | (refine Gd.pass ?_ ?_; · decide +kernel) | refine Gd.both ?_) | (refine Br.pre ?_; first | refine Br.tt rfl ?_ | refine Br.ff rfl ?_ | refine Br.tt (by assumption) ?_ | refine Br.ff (by assumption) ?_ | (refine Br.tt ?_ ?_; · decide +kernel) | (refine Br.ff ?_ ?_; · decide +kernel)) | (refine Ck.pre ?_; first | refine Ck.drawn (by kernel_rfl) ?_ | refine Ck.mk rfl ?_) | (refine LetL.pre ?_; first | refine LetL.mk (ty := cty) _ a1 ?_ | refine LetL.mk [_] rfl ?_ | refine LetL.mk _ rfl ?_) | (refine CallN.pre ?_; first | refine CallN.pure hK rfl rfl ?_) | refine forceAs.pass ?_ | refine forceEs.pass ?_ | refine forceC.pass ?_))); (try (conv => whnf)))



    refine LoopN.weak ?sw2 hnx
    case sw2 => exact SW.mk rd3 rfl rfl (dN _ _ _) ⟨.refl _, .refl _, .refl _, VLe2.slm_of l1, .refl _, .refl _, VLe2.int (by omega), trivial⟩ (haveV.one rfl (haveV.row (pure_cg _) rfl trivial))
  · clear ih
    rw [List.take_of_length_le (by omega)] at h2
    rw [← h2]
    clear h2
    generalize hR : L ++ C.map (cameP e) = R
    ((repeat ((conv => whnf); (first | (refine LetN.pre ?_; first | ((conv => arg 1; whnf); refine LetN.mk ?_)) | (refine As.pre ?_; first | refine As.mk rfl ?_ | (refine As.mk ?_ ?_; · decide +kernel) | refine As.mk (andT (nor_self _) rfl) ?_ | refine As.mk (andT (nor_self _) (or_t _)) ?_ | refine As.mk (andT (or_t _) (or_nself _)) ?_ | refine As.mk (andT (or_t _) (or_t _)) ?_ | refine As.mk (andT (nor_self _) (andT (nor_self _) rfl)) ?_ | (refine As.mk ?_ ?_; · ((repeat' (refine andT ?_ ?_)) <;> (first | rfl | assumption | exact decide_eq_true (by omega) | exact decide_eq_true (by dsimp only; omega) | exact decide_eq_true (by simp; omega) | (simp; done))))) | (refine LetV.pre ?_; first | refine LetV.mk (.sc (.int _ _)) rfl ?_ | refine LetV.mk (.sc (.bool _)) rfl ?_ | refine LetV.mk (.sc _) rfl ?_ | refine LetV.mk (.agg _) rfl ?_ | refine LetV.mk (.slm _ _ _ _ _) rfl ?_ | refine LetV.mk (.ro _ _ _) rfl ?_ | refine LetV.mk (.ptr _ _ _ _) rfl ?_ | refine LetV.mk (.clo _ _ _) rfl ?_ | refine LetV.mk (.rp _ _) rfl ?_) | (refine LetI.pre ?_; first | refine LetI.wrap (by omega) (by omega) ?_ | refine LetI.mk _ rfl ?_) | (refine LetB.pre ?_; first | refine LetB.tt rfl ?_ | refine LetB.ff rfl ?_ | refine LetB.tt (by assumption) ?_ | refine LetB.ff (by assumption) ?_ | refine LetB.dect (by omega) ?_ | refine LetB.decf (by omega) ?_ | refine LetB.beqt (by omega) ?_ | refine LetB.beqf (by omega) ?_ | refine LetB.bnet (by omega) ?_ | refine LetB.bnef (by omega) ?_ | refine LetB.mk _ rfl ?_) | (refine Gd.pre ?_; first | refine Gd.run rfl ?_ | refine Gd.pass rfl ?_ | refine Gd.run (by assumption) ?_ | refine Gd.pass (by assumption) ?_ | (refine Gd.run ?_ ?_; · decide +kernel) | (refine Gd.pass ?_ ?_; · decide +kernel) | refine Gd.both ?_) | (refine Br.pre ?_; first | refine Br.tt rfl ?_ | refine Br.ff rfl ?_ | refine Br.tt (by assumption) ?_ | refine Br.ff (by assumption) ?_ | (refine Br.tt ?_ ?_; · decide +kernel) | (refine Br.ff ?_ ?_; · decide +kernel)) | (refine Ck.pre ?_; first | refine Ck.drawn (by kernel_rfl) ?_ | refine Ck.mk rfl ?_) | (refine LetL.pre ?_; first | refine LetL.mk [_] rfl ?_ | refine LetL.mk _ rfl ?_) | (refine CallN.pre ?_; first | refine CallN.pure hC rfl rfl ?_) | refine forceAs.pass ?_ | refine forceEs.pass ?_ | refine forceC.pass ?_))); (try (conv => whnf)))
    clear hC
    refine LoopN.weak (s1 := d2S C e (0, L)) ?sw3 ?_
    case sw3 => exact SW.mk id rfl rfl (dN _ _ _) ⟨.refl _, .refl _, .refl _, VLe2.int (by rw [hmC]), .refl _, trivial⟩ (haveV.one rfl (haveV.row (pure_cg _) rfl trivial))
    refine LoopN.ind T_ok mixed (S := d2S C e) (fun i => C.length - i.1) (fun i => i.1 ≤ C.length ∧ i.2 = L ++ (C.take i.1).map (cameP e)) (fun _ => rfl) (fun i hi ih => ?_) (0, L) ⟨Nat.zero_le _, by simp⟩
    obtain ⟨j, N⟩ := i
    obtain ⟨g1, g2⟩ := hi
    dsimp only at g1 g2
    have hNl : N.length = L.length + j := by rw [g2, List.length_append, List.length_map, List.length_take]; omega
    by_cases hlt : j < C.length
    · have hld := fa_ld hlt
      have hnx := ih (j + 1, N ++ [cameP e (C.getD j fa0)]) ⟨hlt, by dsimp only; rw [g2, List.take_succ_eq_append_getElem hlt, List.map_append, List.append_assoc, List.getD_eq_getElem?_getD, List.getElem?_eq_getElem hlt]; rfl⟩ (by show C.length - (j + 1) < C.length - j; omega)
      clear ih g2 hR
      generalize C.getD j fa0 = f at hld hnx
      have r1 := room_cg (n := N.length + 1) (by omega)
      have a1 := app_cg N (cameP e f) N.length rfl
      have l1 : (N ++ [cameP e f]).length = N.length + 1 := by simp
      unfold cameP at a1 l1 hnx
      ((repeat ((conv => whnf); (first | (refine LetN.pre ?_; first | ((conv => arg 1; whnf); refine LetN.mk ?_)) | (refine As.pre ?_; first | refine As.mk rfl ?_ | (refine As.mk ?_ ?_; · decide +kernel) | refine As.mk (andT (nor_self _) rfl) ?_ | refine As.mk (andT (nor_self _) (or_t _)) ?_ | refine As.mk (andT (or_t _) (or_nself _)) ?_ | refine As.mk (andT (or_t _) (or_t _)) ?_ | refine As.mk (andT (nor_self _) (andT (nor_self _) rfl)) ?_ | (refine As.mk ?_ ?_; · ((repeat' (refine andT ?_ ?_)) <;> (first | rfl | assumption | exact decide_eq_true (by omega) | exact decide_eq_true (by dsimp only; omega) | exact decide_eq_true (by simp; omega) | (simp; done))))) | (refine LetV.pre ?_; first | refine LetV.mk (t := fsl) _ hld ?_ | refine LetV.mk (.sc (.int _ _)) rfl ?_ | refine LetV.mk (.sc (.bool _)) rfl ?_ | refine LetV.mk (.sc _) rfl ?_ | refine LetV.mk (.agg _) rfl ?_ | refine LetV.mk (.slm _ _ _ _ _) rfl ?_ | refine LetV.mk (.ro _ _ _) rfl ?_ | refine LetV.mk (.ptr _ _ _ _) rfl ?_ | refine LetV.mk (.clo _ _ _) rfl ?_ | refine LetV.mk (.rp _ _) rfl ?_) | (refine LetI.pre ?_; first | refine LetI.wrap (by omega) (by omega) ?_ | refine LetI.mk _ rfl ?_) | (refine LetB.pre ?_; first | refine LetB.tt rfl ?_ | refine LetB.ff rfl ?_ | refine LetB.tt (by assumption) ?_ | refine LetB.ff (by assumption) ?_ | refine LetB.dect (by omega) ?_ | refine LetB.decf (by omega) ?_ | refine LetB.beqt (by omega) ?_ | refine LetB.beqf (by omega) ?_ | refine LetB.bnet (by omega) ?_ | refine LetB.bnef (by omega) ?_ | refine LetB.mk _ rfl ?_) | (refine Gd.pre ?_; first | refine Gd.run rfl ?_ | refine Gd.pass rfl ?_ | refine Gd.run (by assumption) ?_ | refine Gd.pass (by assumption) ?_ | (refine Gd.run ?_ ?_; · decide +kernel) | (refine Gd.pass ?_ ?_; · decide +kernel) | refine Gd.both ?_) | (refine Br.pre ?_; first | refine Br.tt rfl ?_ | refine Br.ff rfl ?_ | refine Br.tt (by assumption) ?_ | refine Br.ff (by assumption) ?_ | (refine Br.tt ?_ ?_; · decide +kernel) | (refine Br.ff ?_ ?_; · decide +kernel)) | (refine Ck.pre ?_; first | refine Ck.drawn (by kernel_rfl) ?_ | refine Ck.mk rfl ?_) | (refine LetL.pre ?_; first | refine LetL.mk (ty := cty) _ a1 ?_ | refine LetL.mk [_] rfl ?_ | refine LetL.mk _ rfl ?_) | refine forceAs.pass ?_ | refine forceEs.pass ?_ | refine forceC.pass ?_))); (try (conv => whnf)))


      refine LoopN.weak ?sw4 hnx
      case sw4 => exact SW.mk rd3 rfl rfl (dN _ _ _) ⟨.refl _, VLe2.slm_of l1, .refl _, .refl _, VLe2.int (by omega), trivial⟩ (haveV.one rfl (haveV.row (pure_cg _) rfl trivial))
    · clear ih
      rw [List.take_of_length_le (by omega), hR] at g2
      subst g2
      ((repeat ((conv => whnf); (first | (refine LetN.pre ?_; first | ((conv => arg 1; whnf); refine LetN.mk ?_)) | (refine As.pre ?_; first | refine As.mk rfl ?_ | (refine As.mk ?_ ?_; · decide +kernel) | refine As.mk (andT (nor_self _) rfl) ?_ | refine As.mk (andT (nor_self _) (or_t _)) ?_ | refine As.mk (andT (or_t _) (or_nself _)) ?_ | refine As.mk (andT (or_t _) (or_t _)) ?_ | refine As.mk (andT (nor_self _) (andT (nor_self _) rfl)) ?_ | (refine As.mk ?_ ?_; · ((repeat' (refine andT ?_ ?_)) <;> (first | rfl | assumption | exact decide_eq_true (by omega) | exact decide_eq_true (by dsimp only; omega) | exact decide_eq_true (by simp; omega) | (simp; done))))) | (refine LetV.pre ?_; first | refine LetV.mk (.sc (.int _ _)) rfl ?_ | refine LetV.mk (.sc (.bool _)) rfl ?_ | refine LetV.mk (.sc _) rfl ?_ | refine LetV.mk (.agg _) rfl ?_ | refine LetV.mk (.slm _ _ _ _ _) rfl ?_ | refine LetV.mk (.ro _ _ _) rfl ?_ | refine LetV.mk (.ptr _ _ _ _) rfl ?_ | refine LetV.mk (.clo _ _ _) rfl ?_ | refine LetV.mk (.rp _ _) rfl ?_) | (refine LetI.pre ?_; first | refine LetI.wrap (by omega) (by omega) ?_ | refine LetI.mk _ rfl ?_) | (refine LetB.pre ?_; first | refine LetB.tt rfl ?_ | refine LetB.ff rfl ?_ | refine LetB.tt (by assumption) ?_ | refine LetB.ff (by assumption) ?_ | refine LetB.dect (by omega) ?_ | refine LetB.decf (by omega) ?_ | refine LetB.beqt (by omega) ?_ | refine LetB.beqf (by omega) ?_ | refine LetB.bnet (by omega) ?_ | refine LetB.bnef (by omega) ?_ | refine LetB.mk _ rfl ?_) | (refine Gd.pre ?_; first | refine Gd.run rfl ?_ | refine Gd.pass rfl ?_ | refine Gd.run (by assumption) ?_ | refine Gd.pass (by assumption) ?_ | (refine Gd.run ?_ ?_; · decide +kernel) | (refine Gd.pass ?_ ?_; · decide +kernel) | refine Gd.both ?_) | (refine Br.pre ?_; first | refine Br.tt rfl ?_ | refine Br.ff rfl ?_ | refine Br.tt (by assumption) ?_ | refine Br.ff (by assumption) ?_ | (refine Br.tt ?_ ?_; · decide +kernel) | (refine Br.ff ?_ ?_; · decide +kernel)) | (refine Ck.pre ?_; first | refine Ck.drawn (by kernel_rfl) ?_ | refine Ck.mk rfl ?_) | (refine LetL.pre ?_; first | refine LetL.mk [_] rfl ?_ | refine LetL.mk _ rfl ?_) | refine forceAs.pass ?_ | refine forceEs.pass ?_ | refine forceC.pass ?_))); (try (conv => whnf)))
      exact ⟨⟨[(6, .slm {} 0 10 0 N.length)], [(0, rwC N)], 1⟩, SW.mk (fun _ => 1) rfl rfl (namesAll.row (pure_cg _) rfl) ⟨.refl _, trivial⟩ (haveV.row (pure_cg _) rfl trivial), .inl rfl, ⟨_, rfl, rfl⟩, rfl, trivial⟩
theorem Differ_f (a b : List Fa) (e : E) (f1 f2 : Fl) (ha : a.length ≤ 12) (hb : b.length ≤ 12) (ka : ∀ x ∈ a, okF x) (kb : ∀ x ∈ b, okF x) : AFun Tryd.prog 8 0 [.ro f1 7 (a.map fa), .ro f2 7 (b.map fa), en e] [] (.ro {} 10 ((difP a b e).map cgA)) [] :=
  AFun.frz1 (H := []) (Differ_s a b e f1 f2 ha hb ka kb) rfl (pure_cg _) (by simp)
end En
end Go.Proofs.YtgnakhljdjekbaaDoor
namespace Go.Proofs.YtgnakhljdjekbaaDoor
open Go.Shelf
/-! The library's contracts at this program: where its functions and types lie. -/
def lays156_ren : Go.Shelf.Ren := ⟨fun | 156 => 28 | 165 => 40 | 166 => 41 | 169 => 42 | 240 => 62 | 241 => 63 | 276 => 75 | 277 => 76 | n => n, fun | 31 => 61 | 9 => 9 | 3 => 3 | 4 => 4 | 0 => 0 | 20 => 20 | 72 => 88 | 76 => 92 | 70 => 86 | 37 => 51 | 75 => 91 | 127 => 106 | 164 => 121 | 5 => 5 | 80 => 94 | n => n, fun | n => n⟩
theorem lays156 : Go.Proofs.Lays.n156 Tryd.prog lays156_ren where
  mixed := by kernel_rfl
  f156 := Tryd.func28.trans (congrArg some (by kernel_rfl))
  f165 := Tryd.func40.trans (congrArg some (by kernel_rfl))
  f166 := Tryd.func41.trans (congrArg some (by kernel_rfl))
  f169 := Tryd.func42.trans (congrArg some (by kernel_rfl))
  f240 := Tryd.func62.trans (congrArg some (by kernel_rfl))
  f241 := Tryd.func63.trans (congrArg some (by kernel_rfl))
  f276 := Tryd.func75.trans (congrArg some (by kernel_rfl))
  f277 := Tryd.func76.trans (congrArg some (by kernel_rfl))
  t0 := Tryd.underlying0
  a0 := Tryd.isAgg0
  z0 := Tryd.sizeOf0
  v0 := Tryd.zeroValue0
  t3 := Tryd.underlying3
  a3 := Tryd.isAgg3
  z3 := Tryd.sizeOf3
  v3 := Tryd.zeroValue3
  t4 := Tryd.underlying4
  a4 := Tryd.isAgg4
  z4 := Tryd.sizeOf4
  v4 := Tryd.zeroValue4
  t9 := Tryd.underlying9
  a9 := Tryd.isAgg9
  z9 := Tryd.sizeOf9
  v9 := Tryd.zeroValue9
  t20 := Tryd.underlying20
  a20 := Tryd.isAgg20
  z20 := Tryd.sizeOf20
  v20 := Tryd.zeroValue20
  t31 := Tryd.underlying61
  a31 := Tryd.isAgg61
  z31 := Tryd.sizeOf61
  v31 := Tryd.zeroValue61
  t37 := Tryd.underlying51
  a37 := Tryd.isAgg51
  z37 := Tryd.sizeOf51
  v37 := Tryd.zeroValue51
  t70 := Tryd.underlying86
  a70 := Tryd.isAgg86
  z70 := Tryd.sizeOf86
  v70 := Tryd.zeroValue86
  t72 := Tryd.underlying88
  a72 := Tryd.isAgg88
  z72 := Tryd.sizeOf88
  v72 := Tryd.zeroValue88
  t75 := Tryd.underlying91
  a75 := Tryd.isAgg91
  z75 := Tryd.sizeOf91
  v75 := Tryd.zeroValue91
  t76 := Tryd.underlying92
  a76 := Tryd.isAgg92
  z76 := Tryd.sizeOf92
  v76 := Tryd.zeroValue92
  t127 := Tryd.underlying106
  a127 := Tryd.isAgg106
  z127 := Tryd.sizeOf106
  v127 := Tryd.zeroValue106
  t164 := Tryd.underlying121
  a164 := Tryd.isAgg121
  z164 := Tryd.sizeOf121
  v164 := Tryd.zeroValue121
theorem xtra : Go.Proofs.Builder.Extra Tryd.prog lays156_ren where
  sizeBuilder := by kernel_rfl
  liesBuilder := by kernel_rfl
  t5 := Tryd.underlying5
  a5 := Tryd.isAgg5
  z5 := Tryd.sizeOf5
  v5 := Tryd.zeroValue5
  infoByte := by kernel_rfl
  cellsByte := by kernel_rfl
  sizeByte := by kernel_rfl
  neB5 := by decide
def lays171_ren : Go.Shelf.Ren := ⟨fun | 171 => 27 | 243 => 39 | 246 => 61 | 283 => 71 | 284 => 72 | 285 => 73 | 286 => 74 | 129 => 87 | 317 => 89 | 318 => 90 | 319 => 91 | 320 => 92 | 337 => 98 | 338 => 99 | n => n, fun | 3 => 3 | 9 => 9 | 2 => 2 | 4 => 4 | 171 => 115 | 0 => 0 | 53 => 116 | 37 => 51 | 5 => 5 | 173 => 119 | 212 => 135 | 51 => 132 | 20 => 20 | 213 => 136 | 46 => 111 | 232 => 146 | 233 => 147 | n => n, fun | 17 => 2 | 18 => 3 | 19 => 4 | n => n⟩
theorem lays171 : Go.Proofs.Lays.n171 Tryd.prog lays171_ren where
  mixed := by kernel_rfl
  f129 := Tryd.func87.trans (congrArg some (by kernel_rfl))
  f171 := Tryd.func27.trans (congrArg some (by kernel_rfl))
  f243 := Tryd.func39.trans (congrArg some (by kernel_rfl))
  f246 := Tryd.func61.trans (congrArg some (by kernel_rfl))
  f283 := Tryd.func71.trans (congrArg some (by kernel_rfl))
  f284 := Tryd.func72.trans (congrArg some (by kernel_rfl))
  f285 := Tryd.func73.trans (congrArg some (by kernel_rfl))
  f286 := Tryd.func74.trans (congrArg some (by kernel_rfl))
  f317 := Tryd.func89.trans (congrArg some (by kernel_rfl))
  f318 := Tryd.func90.trans (congrArg some (by kernel_rfl))
  f319 := Tryd.func91.trans (congrArg some (by kernel_rfl))
  f320 := Tryd.func92.trans (congrArg some (by kernel_rfl))
  f337 := Tryd.func98.trans (congrArg some (by kernel_rfl))
  f338 := Tryd.func99.trans (congrArg some (by kernel_rfl))
  t0 := Tryd.underlying0
  a0 := Tryd.isAgg0
  z0 := Tryd.sizeOf0
  v0 := Tryd.zeroValue0
  t2 := Tryd.underlying2
  a2 := Tryd.isAgg2
  z2 := Tryd.sizeOf2
  v2 := Tryd.zeroValue2
  t3 := Tryd.underlying3
  a3 := Tryd.isAgg3
  z3 := Tryd.sizeOf3
  v3 := Tryd.zeroValue3
  t4 := Tryd.underlying4
  a4 := Tryd.isAgg4
  z4 := Tryd.sizeOf4
  v4 := Tryd.zeroValue4
  t5 := Tryd.underlying5
  a5 := Tryd.isAgg5
  z5 := Tryd.sizeOf5
  v5 := Tryd.zeroValue5
  t9 := Tryd.underlying9
  a9 := Tryd.isAgg9
  z9 := Tryd.sizeOf9
  v9 := Tryd.zeroValue9
  t20 := Tryd.underlying20
  a20 := Tryd.isAgg20
  z20 := Tryd.sizeOf20
  v20 := Tryd.zeroValue20
  t37 := Tryd.underlying51
  a37 := Tryd.isAgg51
  z37 := Tryd.sizeOf51
  v37 := Tryd.zeroValue51
  t46 := Tryd.underlying111
  a46 := Tryd.isAgg111
  z46 := Tryd.sizeOf111
  v46 := Tryd.zeroValue111
  t51 := Tryd.underlying132
  a51 := Tryd.isAgg132
  z51 := Tryd.sizeOf132
  v51 := Tryd.zeroValue132
  t53 := Tryd.underlying116
  a53 := Tryd.isAgg116
  z53 := Tryd.sizeOf116
  v53 := Tryd.zeroValue116
  t171 := Tryd.underlying115
  a171 := Tryd.isAgg115
  z171 := Tryd.sizeOf115
  v171 := Tryd.zeroValue115
  t173 := Tryd.underlying119
  a173 := Tryd.isAgg119
  z173 := Tryd.sizeOf119
  v173 := Tryd.zeroValue119
  t212 := Tryd.underlying135
  a212 := Tryd.isAgg135
  z212 := Tryd.sizeOf135
  v212 := Tryd.zeroValue135
  t213 := Tryd.underlying136
  a213 := Tryd.isAgg136
  z213 := Tryd.sizeOf136
  t232 := Tryd.underlying146
  a232 := Tryd.isAgg146
  z232 := Tryd.sizeOf146
  v232 := Tryd.zeroValue146
  t233 := Tryd.underlying147
  a233 := Tryd.isAgg147
  z233 := Tryd.sizeOf147
  v233 := Tryd.zeroValue147
  g17 := by kernel_rfl
  g18 := by kernel_rfl
  g19 := by kernel_rfl
end Go.Proofs.YtgnakhljdjekbaaDoor
namespace Go.Proofs.YtgnakhljdjekbaaDoor
open Go.Proofs.YtgnakhljdjekbaaDoor.Am
set_option maxRecDepth 100000
namespace En
/-! ### Numerals and joined strings, by the library's contracts -/
theorem of_below {p : Nat} {w w' : World} {g : Gh} (hH : HRel w g []) (h : Go.RowKit.Below w.heap.size w w') : AdvP p w g [] w' g [] ∧ HRel w' g [] := by
  have hI : ∀ b, g.I b → g.I b ∧ w'.heap[b]? = w.heap[b]? := fun b hb => ⟨hb, h.block b (hH.lt b hb)⟩
  refine ⟨⟨fun _ _ => rfl, hI, fun b cs ty fz hb => ⟨cs, (h.block b (heap_lt hb)).trans hb, rfl⟩, ⟨h.os, h.tape, h.output, h.size, fun b hb _ => h.block b hb⟩, (fun id B b E hi => by cases hi), fun b hb _ => .inl hb⟩, ?_⟩
  exact ⟨(fun id B hB => by cases hB), (fun i j b E E' A B hi => by cases hi), (fun i b E B hi => by cases hi), fun b hb => Nat.lt_of_lt_of_le (hH.lt b hb) h.size, hH.gl.mono hI⟩
theorem ItoaS_f (n : Int) (h : 0 ≤ n ∧ n < 100) : AFun Tryd.prog 27 0 [int n] [] (str ⟨(tI n).toArray⟩) [] := by
  intro w g xs hl hx hH _
  obtain ⟨x, rfl⟩ : ∃ x, xs = #[x] := by
    rcases xs with ⟨l⟩
    rcases l with _ | ⟨a, _ | ⟨b, l⟩⟩
    all_goals simp at hl
    exact ⟨a, rfl⟩
  have h0 := (hx 0 _ x rfl rfl).sc_inv
  subst h0
  obtain ⟨i, rfl⟩ : ∃ i : Nat, n = i := ⟨n.toNat, by omega⟩
  have e : tI (i : Int) = Go.Lib.decDigits i := by
    unfold tI Go.Lib.itoa
    rw [if_neg (by omega)]; rfl
  rw [e]
  refine (Any.strconv_Itoa_small lays171 i (by omega) w).mono ?_
  rintro e w' ⟨rfl, rfl⟩
  exact ⟨_, g, rfl, AdvP.refl .., .sc _ rfl, hH⟩
abbrev joinB (xs : List ByteArray) (sep : ByteArray) : ByteArray := ⟨(Go.Lib.join (xs.map (·.data.toList)) sep.data.toList).toArray⟩
theorem Join_f (xs : List ByteArray) (sep : ByteArray) (fl : Fl) (hne : xs ≠ []) (hN : xs.length ≤ 1000) (hlen : (Go.Lib.join (xs.map (·.data.toList)) sep.data.toList).length ≤ 281474976710656) :
    AFun Tryd.prog 28 0 [.ro fl 1 (xs.map str), str sep] [] (str (joinB xs sep)) [] := by
  intro w g vs hl hx hH _
  obtain ⟨x, y, rfl⟩ : ∃ x y, vs = #[x, y] := by
    rcases vs with ⟨l⟩
    rcases l with _ | ⟨a, _ | ⟨b, _ | ⟨d, l⟩⟩⟩
    all_goals simp at hl
    exact ⟨a, b, rfl⟩
  have h0 := hx 0 _ x rfl rfl
  have h1 := (hx 1 _ y rfl rfl).sc_inv
  subst h1
  obtain ⟨x0, xs', hxs⟩ := List.exists_cons_of_ne_nil hne
  generalize hes : xs.map str = es at h0
  cases h0 with
  | roz h1 h2 h3 => rw [hxs] at hes; cases hes
  | ro X k1 k2 k3 k4 k5 k6 =>
    rename_i b o cap
    subst hes
    rw [List.length_map] at k2 ⊢
    refine (Any.strings_Join_48 lays156 xtra b o cap xs sep w (fun j x hj => ?_) (hH.lt b k1) (by omega) k2 hlen).mono ?_
    · have e1 : (xs.map str)[j]? = some (str x) := by rw [List.getElem?_map, hj]; rfl
      have c1 := k5 j 0 (str x) (str x) e1 rfl
      have c2 := (k6 j 0 (str x) (str x) e1 rfl).sc_inv
      rw [c2] at c1
      simpa using c1
    · rintro e w' ⟨rfl, hb⟩
      obtain ⟨hA, hH'⟩ := of_below (p := 0) hH hb
      exact ⟨_, g, rfl, hA, .sc _ rfl, hH'⟩
end En
end Go.Proofs.YtgnakhljdjekbaaDoor
namespace Go.Proofs.YtgnakhljdjekbaaDoor
open Go.Proofs.YtgnakhljdjekbaaDoor.Am
set_option maxRecDepth 100000
namespace En
/-! ### The text of a change -/
abbrev bsB (l : List UInt8) : ByteArray := ⟨l.toArray⟩
def kk (k : Int) : Int := if 1 ≤ k ∧ k ≤ 7 then k else 0
abbrev sgn (g : Bool) : UInt8 := if g then 45 else 43
abbrev txH (c : Cg) : AH := [(0, .row 10 cty [cgA c]), (1, .row 7 fty [fa c.f])]
abbrev tx0 (c : Cg) : AS := ⟨[(1, .ptr 0 10 0 0), (3, .ptr 1 7 0 0), (4, str (bsB [sgn c.gone]))], txH c, 2⟩
abbrev tx1 (c : Cg) : AS := ⟨[(1, .ptr 0 10 0 0), (3, .ptr 1 7 0 0), (4, str (bsB [sgn c.gone])), (5, int (kk c.f.kind))], txH c, 2⟩
abbrev tx2 (c : Cg) : AS := ⟨[(1, .ptr 0 10 0 0), (3, .ptr 1 7 0 0), (6, .ro ⟨true, true⟩ 1 [str (bsB (sgn c.gone :: wordL c.f.kind))])], txH c, 2⟩
abbrev txS (c : Cg) (l : List ByteArray) : AS := ⟨[(1, .ptr 0 10 0 0), (3, .ptr 1 7 0 0), (6, .slm {} 2 1 0 l.length)], txH c ++ [(2, .row 1 9 (l.map str))], 3⟩
def rt5 : Nat → Nat | 2 => 5 | i => i
theorem As.mk0 {b : Bool} {K : Prop} (h : b = true) (k : K) : As b K := .mk h k
def rt3 : Nat → Nat | 2 => 3 | i => i
theorem pure_str : ∀ l : List ByteArray, AV.namesL (fun _ => false) (l.map str) = true
  | [] => rfl
  | p :: l => by simp only [List.map_cons, AV.namesL, pure_str l]; rfl
theorem ttN (a b : Blk) (l : List ByteArray) (ok : Nat → Bool) (ha : a.names ok = true := by rfl) (hb : b.names ok = true := by rfl) : namesAll ok ([(0, a), (1, b)] ++ [(2, .row 1 9 (l.map str))]) = true := by
  have h2 : namesAll ok [(2, .row 1 9 (l.map str))] = true := namesAll.row (pure_str _) rfl
  show namesAll ok ((0, a) :: (1, b) :: [(2, _)]) = true
  rw [namesAll, namesAll, h2, ha, hb]; rfl
theorem wordL_kk (k : Int) : wordL (kk k) = wordL k := by
  unfold kk
  split
  · rfl
  · unfold wordL
    repeat rw [if_neg (by omega)]
set_option maxHeartbeats 3200000 in
set_option maxRecDepth 100000 in
theorem Text_f (c : Cg) (hI : ∀ n, n ∈ [c.f.student, c.f.id, c.f.term, c.f.n, c.f.school, c.entry] → AFun Tryd.prog 27 0 [int n] [] (str (bsB (tI n))) [])
    (hn : ∀ n, n ∈ [c.f.student, c.f.id, c.f.term, c.f.n, c.f.school, c.entry] → okI n) (hc : c.f.code.size ≤ 1000) : AFun Tryd.prog 13 0 [cgA c] [] (str (textP c)) [] := by
  refine AFun.of_VS T_ok Tryd.func13 rfl (Nat.le_of_ble_eq_true rfl) ?_
  refine VS.cut T_ok mixed rfl ?_
  ((repeat ((conv => whnf); (first | (refine LetN.pre ?_; first | ((conv => arg 1; whnf); refine LetN.mk ?_)) | (refine As.pre ?_; first | refine As.mk rfl ?_ | (refine As.mk ?_ ?_; · decide +kernel) | refine As.mk (andT (nor_self _) rfl) ?_ | refine As.mk (andT (nor_self _) (or_t _)) ?_ | refine As.mk (andT (or_t _) (or_nself _)) ?_ | refine As.mk (andT (or_t _) (or_t _)) ?_ | refine As.mk (andT (nor_self _) (andT (nor_self _) rfl)) ?_ | (refine As.mk ?_ ?_; · ((repeat' (refine andT ?_ ?_)) <;> (first | rfl | assumption | exact decide_eq_true (by omega) | exact decide_eq_true (by dsimp only; omega) | exact decide_eq_true (by simp; omega) | (simp; done))))) | (refine LetV.pre ?_; first | refine LetV.mk (.sc (.int _ _)) rfl ?_ | refine LetV.mk (.sc (.bool _)) rfl ?_ | refine LetV.mk (.sc _) rfl ?_ | refine LetV.mk (.agg _) rfl ?_ | refine LetV.mk (.slm _ _ _ _ _) rfl ?_ | refine LetV.mk (.ro _ _ _) rfl ?_ | refine LetV.mk (.ptr _ _ _ _) rfl ?_ | refine LetV.mk (.clo _ _ _) rfl ?_ | refine LetV.mk (.rp _ _) rfl ?_) | (refine LetI.pre ?_; first | refine LetI.wrap (by omega) (by omega) ?_ | refine LetI.mk _ rfl ?_) | (refine LetB.pre ?_; first | refine LetB.tt rfl ?_ | refine LetB.ff rfl ?_ | refine LetB.tt (by assumption) ?_ | refine LetB.ff (by assumption) ?_ | refine LetB.dect (by omega) ?_ | refine LetB.decf (by omega) ?_ | refine LetB.beqt (by omega) ?_ | refine LetB.beqf (by omega) ?_ | refine LetB.bnet (by omega) ?_ | refine LetB.bnef (by omega) ?_ | refine LetB.mk _ rfl ?_) | (refine Gd.pre ?_; first | refine Gd.run rfl ?_ | refine Gd.pass rfl ?_ | refine Gd.run (by assumption) ?_ | refine Gd.pass (by assumption) ?_ | (refine Gd.run ?_ ?_; · decide +kernel) | (refine Gd.pass ?_ ?_; · decide +kernel) | refine Gd.both ?_) | (refine Br.pre ?_; first | refine Br.tt rfl ?_ | refine Br.ff rfl ?_ | refine Br.tt (by assumption) ?_ | refine Br.ff (by assumption) ?_ | (refine Br.tt ?_ ?_; · decide +kernel) | (refine Br.ff ?_ ?_; · decide +kernel)) | (refine Ck.pre ?_; first | refine Ck.drawn (by kernel_rfl) ?_ | refine Ck.mk rfl ?_) | (refine LetL.pre ?_; first | refine LetL.mk [_] rfl ?_ | refine LetL.mk _ rfl ?_) | refine forceAs.pass ?_ | refine forceEs.pass ?_ | refine forceC.pass ?_))); (try (conv => whnf)))
  refine VS.cut T_ok mixed rfl ?_
  ((repeat ((conv => whnf); (first | (refine LetN.pre ?_; first | ((conv => arg 1; whnf); refine LetN.mk ?_)) | (refine As.pre ?_; first | refine As.mk rfl ?_ | (refine As.mk ?_ ?_; · decide +kernel) | refine As.mk (andT (nor_self _) rfl) ?_ | refine As.mk (andT (nor_self _) (or_t _)) ?_ | refine As.mk (andT (or_t _) (or_nself _)) ?_ | refine As.mk (andT (or_t _) (or_t _)) ?_ | refine As.mk (andT (nor_self _) (andT (nor_self _) rfl)) ?_ | (refine As.mk ?_ ?_; · ((repeat' (refine andT ?_ ?_)) <;> (first | rfl | assumption | exact decide_eq_true (by omega) | exact decide_eq_true (by dsimp only; omega) | exact decide_eq_true (by simp; omega) | (simp; done))))) | (refine LetV.pre ?_; first | refine LetV.mk (.sc (.int _ _)) rfl ?_ | refine LetV.mk (.sc (.bool _)) rfl ?_ | refine LetV.mk (.sc _) rfl ?_ | refine LetV.mk (.agg _) rfl ?_ | refine LetV.mk (.slm _ _ _ _ _) rfl ?_ | refine LetV.mk (.ro _ _ _) rfl ?_ | refine LetV.mk (.ptr _ _ _ _) rfl ?_ | refine LetV.mk (.clo _ _ _) rfl ?_ | refine LetV.mk (.rp _ _) rfl ?_) | (refine LetI.pre ?_; first | refine LetI.wrap (by omega) (by omega) ?_ | refine LetI.mk _ rfl ?_) | (refine LetB.pre ?_; first | refine LetB.tt rfl ?_ | refine LetB.ff rfl ?_ | refine LetB.tt (by assumption) ?_ | refine LetB.ff (by assumption) ?_ | refine LetB.dect (by omega) ?_ | refine LetB.decf (by omega) ?_ | refine LetB.beqt (by omega) ?_ | refine LetB.beqf (by omega) ?_ | refine LetB.bnet (by omega) ?_ | refine LetB.bnef (by omega) ?_ | refine LetB.mk _ rfl ?_) | (refine Gd.pre ?_; first | refine Gd.run rfl ?_ | refine Gd.pass rfl ?_ | refine Gd.run (by assumption) ?_ | refine Gd.pass (by assumption) ?_ | (refine Gd.run ?_ ?_; · decide +kernel) | (refine Gd.pass ?_ ?_; · decide +kernel) | refine Gd.both ?_) | (refine Br.pre ?_; first | refine Br.tt rfl ?_ | refine Br.ff rfl ?_ | refine Br.tt (by assumption) ?_ | refine Br.ff (by assumption) ?_ | (refine Br.tt ?_ ?_; · decide +kernel) | (refine Br.ff ?_ ?_; · decide +kernel)) | (refine Ck.pre ?_; first | refine Ck.drawn (by kernel_rfl) ?_ | refine Ck.mk rfl ?_) | (refine LetL.pre ?_; first | refine LetL.mk [_] rfl ?_ | refine LetL.mk _ rfl ?_) | refine forceAs.pass ?_ | refine forceEs.pass ?_ | refine forceC.pass ?_))); (try (conv => whnf)))
  refine VS.cut T_ok mixed rfl ?_
  ((repeat ((conv => whnf); (first | (refine LetN.pre ?_; first | ((conv => arg 1; whnf); refine LetN.mk ?_)) | (refine As.pre ?_; first | refine As.mk rfl ?_ | (refine As.mk ?_ ?_; · decide +kernel) | refine As.mk (andT (nor_self _) rfl) ?_ | refine As.mk (andT (nor_self _) (or_t _)) ?_ | refine As.mk (andT (or_t _) (or_nself _)) ?_ | refine As.mk (andT (or_t _) (or_t _)) ?_ | refine As.mk (andT (nor_self _) (andT (nor_self _) rfl)) ?_ | (refine As.mk ?_ ?_; · ((repeat' (refine andT ?_ ?_)) <;> (first | rfl | assumption | exact decide_eq_true (by omega) | exact decide_eq_true (by dsimp only; omega) | exact decide_eq_true (by simp; omega) | (simp; done))))) | (refine LetV.pre ?_; first | refine LetV.mk (.sc (.int _ _)) rfl ?_ | refine LetV.mk (.sc (.bool _)) rfl ?_ | refine LetV.mk (.sc _) rfl ?_ | refine LetV.mk (.agg _) rfl ?_ | refine LetV.mk (.slm _ _ _ _ _) rfl ?_ | refine LetV.mk (.ro _ _ _) rfl ?_ | refine LetV.mk (.ptr _ _ _ _) rfl ?_ | refine LetV.mk (.clo _ _ _) rfl ?_ | refine LetV.mk (.rp _ _) rfl ?_) | (refine LetI.pre ?_; first | refine LetI.wrap (by omega) (by omega) ?_ | refine LetI.mk _ rfl ?_) | (refine LetB.pre ?_; first | refine LetB.tt rfl ?_ | refine LetB.ff rfl ?_ | refine LetB.tt (by assumption) ?_ | refine LetB.ff (by assumption) ?_ | refine LetB.dect (by omega) ?_ | refine LetB.decf (by omega) ?_ | refine LetB.beqt (by omega) ?_ | refine LetB.beqf (by omega) ?_ | refine LetB.bnet (by omega) ?_ | refine LetB.bnef (by omega) ?_ | refine LetB.mk _ rfl ?_) | (refine Gd.pre ?_; first | refine Gd.run rfl ?_ | refine Gd.pass rfl ?_ | refine Gd.run (by assumption) ?_ | refine Gd.pass (by assumption) ?_ | (refine Gd.run ?_ ?_; · decide +kernel) | (refine Gd.pass ?_ ?_; · decide +kernel) | refine Gd.both ?_) | (refine Br.pre ?_; first | refine Br.tt rfl ?_ | refine Br.ff rfl ?_ | refine Br.tt (by assumption) ?_ | refine Br.ff (by assumption) ?_ | (refine Br.tt ?_ ?_; · decide +kernel) | (refine Br.ff ?_ ?_; · decide +kernel)) | (refine Ck.pre ?_; first | refine Ck.drawn (by kernel_rfl) ?_ | refine Ck.mk rfl ?_) | (refine LetL.pre ?_; first | refine LetL.mk [_] rfl ?_ | refine LetL.mk _ rfl ?_) | refine forceAs.pass ?_ | refine forceEs.pass ?_ | refine forceC.pass ?_))); (try (conv => whnf)))
  refine VS.joinN (fun _ : Unit => tx0 c) (fun _ => True) ?p0 ?_
  case p0 =>
    refine VS.of_V T_ok mixed rfl ?_
    clear hI hn
    obtain ⟨f, g, kp, en⟩ := c
    cases g <;>
    · ((repeat ((conv => whnf); (first | (refine LetN.pre ?_; first | ((conv => arg 1; whnf); refine LetN.mk ?_)) | (refine As.pre ?_; first | refine As.mk rfl ?_ | (refine As.mk ?_ ?_; · decide +kernel) | refine As.mk (andT (nor_self _) rfl) ?_ | refine As.mk (andT (nor_self _) (or_t _)) ?_ | refine As.mk (andT (or_t _) (or_nself _)) ?_ | refine As.mk (andT (or_t _) (or_t _)) ?_ | refine As.mk (andT (nor_self _) (andT (nor_self _) rfl)) ?_ | (refine As.mk ?_ ?_; · ((repeat' (refine andT ?_ ?_)) <;> (first | rfl | assumption | exact decide_eq_true (by omega) | exact decide_eq_true (by dsimp only; omega) | exact decide_eq_true (by simp; omega) | (simp; done))))) | (refine LetV.pre ?_; first | refine LetV.mk (.sc (.int _ _)) rfl ?_ | refine LetV.mk (.sc (.bool _)) rfl ?_ | refine LetV.mk (.sc _) rfl ?_ | refine LetV.mk (.agg _) rfl ?_ | refine LetV.mk (.slm _ _ _ _ _) rfl ?_ | refine LetV.mk (.ro _ _ _) rfl ?_ | refine LetV.mk (.ptr _ _ _ _) rfl ?_ | refine LetV.mk (.clo _ _ _) rfl ?_ | refine LetV.mk (.rp _ _) rfl ?_) | (refine LetI.pre ?_; first | refine LetI.wrap (by omega) (by omega) ?_ | refine LetI.mk _ rfl ?_) | (refine LetB.pre ?_; first | refine LetB.tt rfl ?_ | refine LetB.ff rfl ?_ | refine LetB.tt (by assumption) ?_ | refine LetB.ff (by assumption) ?_ | refine LetB.dect (by omega) ?_ | refine LetB.decf (by omega) ?_ | refine LetB.beqt (by omega) ?_ | refine LetB.beqf (by omega) ?_ | refine LetB.bnet (by omega) ?_ | refine LetB.bnef (by omega) ?_ | refine LetB.mk _ rfl ?_) | (refine Gd.pre ?_; first | refine Gd.run rfl ?_ | refine Gd.pass rfl ?_ | refine Gd.run (by assumption) ?_ | refine Gd.pass (by assumption) ?_ | (refine Gd.run ?_ ?_; · decide +kernel) | (refine Gd.pass ?_ ?_; · decide +kernel) | refine Gd.both ?_) | (refine Br.pre ?_; first | refine Br.tt rfl ?_ | refine Br.ff rfl ?_ | refine Br.tt (by assumption) ?_ | refine Br.ff (by assumption) ?_ | (refine Br.tt ?_ ?_; · decide +kernel) | (refine Br.ff ?_ ?_; · decide +kernel)) | (refine Ck.pre ?_; first | refine Ck.drawn (by kernel_rfl) ?_ | refine Ck.mk rfl ?_) | (refine LetL.pre ?_; first | refine LetL.mk [_] rfl ?_ | refine LetL.mk _ rfl ?_) | refine forceAs.pass ?_ | refine forceEs.pass ?_ | refine forceC.pass ?_))); (try (conv => whnf)))
      exact ⟨rfl, (), trivial, SW.mk id rfl rfl rfl ⟨.refl _, .refl _, .refl _, trivial⟩ (haveV.one rfl (haveV.one rfl trivial))⟩
  intro _ _
  refine VS.cut T_ok mixed rfl ?_
  ((repeat ((conv => whnf); (first | (refine LetN.pre ?_; first | ((conv => arg 1; whnf); refine LetN.mk ?_)) | (refine As.pre ?_; first | refine As.mk rfl ?_ | (refine As.mk ?_ ?_; · decide +kernel) | refine As.mk (andT (nor_self _) rfl) ?_ | refine As.mk (andT (nor_self _) (or_t _)) ?_ | refine As.mk (andT (or_t _) (or_nself _)) ?_ | refine As.mk (andT (or_t _) (or_t _)) ?_ | refine As.mk (andT (nor_self _) (andT (nor_self _) rfl)) ?_ | (refine As.mk ?_ ?_; · ((repeat' (refine andT ?_ ?_)) <;> (first | rfl | assumption | exact decide_eq_true (by omega) | exact decide_eq_true (by dsimp only; omega) | exact decide_eq_true (by simp; omega) | (simp; done))))) | (refine LetV.pre ?_; first | refine LetV.mk (.sc (.int _ _)) rfl ?_ | refine LetV.mk (.sc (.bool _)) rfl ?_ | refine LetV.mk (.sc _) rfl ?_ | refine LetV.mk (.agg _) rfl ?_ | refine LetV.mk (.slm _ _ _ _ _) rfl ?_ | refine LetV.mk (.ro _ _ _) rfl ?_ | refine LetV.mk (.ptr _ _ _ _) rfl ?_ | refine LetV.mk (.clo _ _ _) rfl ?_ | refine LetV.mk (.rp _ _) rfl ?_) | (refine LetI.pre ?_; first | refine LetI.wrap (by omega) (by omega) ?_ | refine LetI.mk _ rfl ?_) | (refine LetB.pre ?_; first | refine LetB.tt rfl ?_ | refine LetB.ff rfl ?_ | refine LetB.tt (by assumption) ?_ | refine LetB.ff (by assumption) ?_ | refine LetB.dect (by omega) ?_ | refine LetB.decf (by omega) ?_ | refine LetB.beqt (by omega) ?_ | refine LetB.beqf (by omega) ?_ | refine LetB.bnet (by omega) ?_ | refine LetB.bnef (by omega) ?_ | refine LetB.mk _ rfl ?_) | (refine Gd.pre ?_; first | refine Gd.run rfl ?_ | refine Gd.pass rfl ?_ | refine Gd.run (by assumption) ?_ | refine Gd.pass (by assumption) ?_ | (refine Gd.run ?_ ?_; · decide +kernel) | (refine Gd.pass ?_ ?_; · decide +kernel) | refine Gd.both ?_) | (refine Br.pre ?_; first | refine Br.tt rfl ?_ | refine Br.ff rfl ?_ | refine Br.tt (by assumption) ?_ | refine Br.ff (by assumption) ?_ | (refine Br.tt ?_ ?_; · decide +kernel) | (refine Br.ff ?_ ?_; · decide +kernel)) | (refine Ck.pre ?_; first | refine Ck.drawn (by kernel_rfl) ?_ | refine Ck.mk rfl ?_) | (refine LetL.pre ?_; first | refine LetL.mk [_] rfl ?_ | refine LetL.mk _ rfl ?_) | refine forceAs.pass ?_ | refine forceEs.pass ?_ | refine forceC.pass ?_))); (try (conv => whnf)))
  refine VS.joinN (fun _ : Unit => tx1 c) (fun _ => True) ?p1 ?_
  case p1 =>
    refine VS.of_V T_ok mixed rfl ?_
    clear hI hn
    obtain ⟨⟨k, st, i, t, n, sc, co⟩, g, kp, en⟩ := c
    by_cases h1 : k < 1
    · have e : kk k = 0 := if_neg (by omega)
      ((repeat ((conv => whnf); (first | (refine LetN.pre ?_; first | ((conv => arg 1; whnf); refine LetN.mk ?_)) | (refine As.pre ?_; first | refine As.mk rfl ?_ | (refine As.mk ?_ ?_; · decide +kernel) | refine As.mk (andT (nor_self _) rfl) ?_ | refine As.mk (andT (nor_self _) (or_t _)) ?_ | refine As.mk (andT (or_t _) (or_nself _)) ?_ | refine As.mk (andT (or_t _) (or_t _)) ?_ | refine As.mk (andT (nor_self _) (andT (nor_self _) rfl)) ?_ | (refine As.mk ?_ ?_; · ((repeat' (refine andT ?_ ?_)) <;> (first | rfl | assumption | exact decide_eq_true (by omega) | exact decide_eq_true (by dsimp only; omega) | exact decide_eq_true (by simp; omega) | (simp; done))))) | (refine LetV.pre ?_; first | refine LetV.mk (.sc (.int _ _)) rfl ?_ | refine LetV.mk (.sc (.bool _)) rfl ?_ | refine LetV.mk (.sc _) rfl ?_ | refine LetV.mk (.agg _) rfl ?_ | refine LetV.mk (.slm _ _ _ _ _) rfl ?_ | refine LetV.mk (.ro _ _ _) rfl ?_ | refine LetV.mk (.ptr _ _ _ _) rfl ?_ | refine LetV.mk (.clo _ _ _) rfl ?_ | refine LetV.mk (.rp _ _) rfl ?_) | (refine LetI.pre ?_; first | refine LetI.wrap (by omega) (by omega) ?_ | refine LetI.mk _ rfl ?_) | (refine LetB.pre ?_; first | refine LetB.tt rfl ?_ | refine LetB.ff rfl ?_ | refine LetB.tt (by assumption) ?_ | refine LetB.ff (by assumption) ?_ | refine LetB.dect (by omega) ?_ | refine LetB.decf (by omega) ?_ | refine LetB.beqt (by omega) ?_ | refine LetB.beqf (by omega) ?_ | refine LetB.bnet (by omega) ?_ | refine LetB.bnef (by omega) ?_ | refine LetB.mk _ rfl ?_) | (refine Gd.pre ?_; first | refine Gd.run rfl ?_ | refine Gd.pass rfl ?_ | refine Gd.run (by assumption) ?_ | refine Gd.pass (by assumption) ?_ | (refine Gd.run ?_ ?_; · decide +kernel) | (refine Gd.pass ?_ ?_; · decide +kernel) | refine Gd.both ?_) | (refine Br.pre ?_; first | refine Br.tt rfl ?_ | refine Br.ff rfl ?_ | refine Br.tt (by assumption) ?_ | refine Br.ff (by assumption) ?_ | (refine Br.tt ?_ ?_; · decide +kernel) | (refine Br.ff ?_ ?_; · decide +kernel)) | (refine Ck.pre ?_; first | refine Ck.drawn (by kernel_rfl) ?_ | refine Ck.mk rfl ?_) | (refine LetL.pre ?_; first | refine LetL.mk [_] rfl ?_ | refine LetL.mk _ rfl ?_) | refine forceAs.pass ?_ | refine forceEs.pass ?_ | refine forceC.pass ?_))); (try (conv => whnf)))
      exact ⟨rfl, (), trivial, SW.mk id rfl rfl rfl ⟨.refl _, .refl _, .refl _, VLe2.int e, trivial⟩ (haveV.one rfl (haveV.one rfl trivial))⟩
    · by_cases h2 : 8 ≤ k
      · have e : kk k = 0 := if_neg (by omega)
        ((repeat ((conv => whnf); (first | (refine LetN.pre ?_; first | ((conv => arg 1; whnf); refine LetN.mk ?_)) | (refine As.pre ?_; first | refine As.mk rfl ?_ | (refine As.mk ?_ ?_; · decide +kernel) | refine As.mk (andT (nor_self _) rfl) ?_ | refine As.mk (andT (nor_self _) (or_t _)) ?_ | refine As.mk (andT (or_t _) (or_nself _)) ?_ | refine As.mk (andT (or_t _) (or_t _)) ?_ | refine As.mk (andT (nor_self _) (andT (nor_self _) rfl)) ?_ | (refine As.mk ?_ ?_; · ((repeat' (refine andT ?_ ?_)) <;> (first | rfl | assumption | exact decide_eq_true (by omega) | exact decide_eq_true (by dsimp only; omega) | exact decide_eq_true (by simp; omega) | (simp; done))))) | (refine LetV.pre ?_; first | refine LetV.mk (.sc (.int _ _)) rfl ?_ | refine LetV.mk (.sc (.bool _)) rfl ?_ | refine LetV.mk (.sc _) rfl ?_ | refine LetV.mk (.agg _) rfl ?_ | refine LetV.mk (.slm _ _ _ _ _) rfl ?_ | refine LetV.mk (.ro _ _ _) rfl ?_ | refine LetV.mk (.ptr _ _ _ _) rfl ?_ | refine LetV.mk (.clo _ _ _) rfl ?_ | refine LetV.mk (.rp _ _) rfl ?_) | (refine LetI.pre ?_; first | refine LetI.wrap (by omega) (by omega) ?_ | refine LetI.mk _ rfl ?_) | (refine LetB.pre ?_; first | refine LetB.tt rfl ?_ | refine LetB.ff rfl ?_ | refine LetB.tt (by assumption) ?_ | refine LetB.ff (by assumption) ?_ | refine LetB.dect (by omega) ?_ | refine LetB.decf (by omega) ?_ | refine LetB.beqt (by omega) ?_ | refine LetB.beqf (by omega) ?_ | refine LetB.bnet (by omega) ?_ | refine LetB.bnef (by omega) ?_ | refine LetB.mk _ rfl ?_) | (refine Gd.pre ?_; first | refine Gd.run rfl ?_ | refine Gd.pass rfl ?_ | refine Gd.run (by assumption) ?_ | refine Gd.pass (by assumption) ?_ | (refine Gd.run ?_ ?_; · decide +kernel) | (refine Gd.pass ?_ ?_; · decide +kernel) | refine Gd.both ?_) | (refine Br.pre ?_; first | refine Br.tt rfl ?_ | refine Br.ff rfl ?_ | refine Br.tt (by assumption) ?_ | refine Br.ff (by assumption) ?_ | (refine Br.tt ?_ ?_; · decide +kernel) | (refine Br.ff ?_ ?_; · decide +kernel)) | (refine Ck.pre ?_; first | refine Ck.drawn (by kernel_rfl) ?_ | refine Ck.mk rfl ?_) | (refine LetL.pre ?_; first | refine LetL.mk [_] rfl ?_ | refine LetL.mk _ rfl ?_) | refine forceAs.pass ?_ | refine forceEs.pass ?_ | refine forceC.pass ?_))); (try (conv => whnf)))
        exact ⟨rfl, (), trivial, SW.mk id rfl rfl rfl ⟨.refl _, .refl _, .refl _, VLe2.int e, trivial⟩ (haveV.one rfl (haveV.one rfl trivial))⟩
      · have e : kk k = k := if_pos (by omega)
        ((repeat ((conv => whnf); (first | (refine LetN.pre ?_; first | ((conv => arg 1; whnf); refine LetN.mk ?_)) | (refine As.pre ?_; first | refine As.mk rfl ?_ | (refine As.mk ?_ ?_; · decide +kernel) | refine As.mk (andT (nor_self _) rfl) ?_ | refine As.mk (andT (nor_self _) (or_t _)) ?_ | refine As.mk (andT (or_t _) (or_nself _)) ?_ | refine As.mk (andT (or_t _) (or_t _)) ?_ | refine As.mk (andT (nor_self _) (andT (nor_self _) rfl)) ?_ | (refine As.mk ?_ ?_; · ((repeat' (refine andT ?_ ?_)) <;> (first | rfl | assumption | exact decide_eq_true (by omega) | exact decide_eq_true (by dsimp only; omega) | exact decide_eq_true (by simp; omega) | (simp; done))))) | (refine LetV.pre ?_; first | refine LetV.mk (.sc (.int _ _)) rfl ?_ | refine LetV.mk (.sc (.bool _)) rfl ?_ | refine LetV.mk (.sc _) rfl ?_ | refine LetV.mk (.agg _) rfl ?_ | refine LetV.mk (.slm _ _ _ _ _) rfl ?_ | refine LetV.mk (.ro _ _ _) rfl ?_ | refine LetV.mk (.ptr _ _ _ _) rfl ?_ | refine LetV.mk (.clo _ _ _) rfl ?_ | refine LetV.mk (.rp _ _) rfl ?_) | (refine LetI.pre ?_; first | refine LetI.wrap (by omega) (by omega) ?_ | refine LetI.mk _ rfl ?_) | (refine LetB.pre ?_; first | refine LetB.tt rfl ?_ | refine LetB.ff rfl ?_ | refine LetB.tt (by assumption) ?_ | refine LetB.ff (by assumption) ?_ | refine LetB.dect (by omega) ?_ | refine LetB.decf (by omega) ?_ | refine LetB.beqt (by omega) ?_ | refine LetB.beqf (by omega) ?_ | refine LetB.bnet (by omega) ?_ | refine LetB.bnef (by omega) ?_ | refine LetB.mk _ rfl ?_) | (refine Gd.pre ?_; first | refine Gd.run rfl ?_ | refine Gd.pass rfl ?_ | refine Gd.run (by assumption) ?_ | refine Gd.pass (by assumption) ?_ | (refine Gd.run ?_ ?_; · decide +kernel) | (refine Gd.pass ?_ ?_; · decide +kernel) | refine Gd.both ?_) | (refine Br.pre ?_; first | refine Br.tt rfl ?_ | refine Br.ff rfl ?_ | refine Br.tt (by assumption) ?_ | refine Br.ff (by assumption) ?_ | (refine Br.tt ?_ ?_; · decide +kernel) | (refine Br.ff ?_ ?_; · decide +kernel)) | (refine Ck.pre ?_; first | refine Ck.drawn (by kernel_rfl) ?_ | refine Ck.mk rfl ?_) | (refine LetL.pre ?_; first | refine LetL.mk [_] rfl ?_ | refine LetL.mk _ rfl ?_) | refine forceAs.pass ?_ | refine forceEs.pass ?_ | refine forceC.pass ?_))); (try (conv => whnf)))
        exact ⟨rfl, (), trivial, SW.mk id rfl rfl rfl ⟨.refl _, .refl _, .refl _, VLe2.int e, trivial⟩ (haveV.one rfl (haveV.one rfl trivial))⟩
  intro _ _
  refine VS.joinN (fun _ : Unit => tx2 c) (fun _ => True) ?p2 ?_
  case p2 =>
    refine VS.of_V T_ok mixed rfl ?_
    clear hI hn hc
    have hk : kk c.f.kind = 0 ∨ kk c.f.kind = 1 ∨ kk c.f.kind = 2 ∨ kk c.f.kind = 3 ∨ kk c.f.kind = 4 ∨ kk c.f.kind = 5 ∨ kk c.f.kind = 6 ∨ kk c.f.kind = 7 := by
      unfold kk
      split <;> omega
    have hw := wordL_kk c.f.kind
    obtain ⟨f, g, kp, en⟩ := c
    obtain ⟨k, st, i, t, n, sc, co⟩ := f
    dsimp only at hk hw
    unfold tx1 tx2
    dsimp only
    rw [← hw]
    generalize kk k = q at hk
    rcases hk with rfl | rfl | rfl | rfl | rfl | rfl | rfl | rfl <;> cases g <;>
    · ((repeat ((conv => whnf); (first | (refine LetN.pre ?_; first | ((conv => arg 1; whnf); refine LetN.mk ?_)) | (refine As.pre ?_; first | refine As.mk rfl ?_ | (refine As.mk ?_ ?_; · decide +kernel) | refine As.mk (andT (nor_self _) rfl) ?_ | refine As.mk (andT (nor_self _) (or_t _)) ?_ | refine As.mk (andT (or_t _) (or_nself _)) ?_ | refine As.mk (andT (or_t _) (or_t _)) ?_ | refine As.mk (andT (nor_self _) (andT (nor_self _) rfl)) ?_ | (refine As.mk ?_ ?_; · ((repeat' (refine andT ?_ ?_)) <;> (first | rfl | assumption | exact decide_eq_true (by omega) | exact decide_eq_true (by dsimp only; omega) | exact decide_eq_true (by simp; omega) | (simp; done))))) | (refine LetV.pre ?_; first | refine LetV.mk (.sc (.int _ _)) rfl ?_ | refine LetV.mk (.sc (.bool _)) rfl ?_ | refine LetV.mk (.sc _) rfl ?_ | refine LetV.mk (.agg _) rfl ?_ | refine LetV.mk (.slm _ _ _ _ _) rfl ?_ | refine LetV.mk (.ro _ _ _) rfl ?_ | refine LetV.mk (.ptr _ _ _ _) rfl ?_ | refine LetV.mk (.clo _ _ _) rfl ?_ | refine LetV.mk (.rp _ _) rfl ?_) | (refine LetI.pre ?_; first | refine LetI.wrap (by omega) (by omega) ?_ | refine LetI.mk _ rfl ?_) | (refine LetB.pre ?_; first | refine LetB.tt rfl ?_ | refine LetB.ff rfl ?_ | refine LetB.tt (by assumption) ?_ | refine LetB.ff (by assumption) ?_ | refine LetB.dect (by omega) ?_ | refine LetB.decf (by omega) ?_ | refine LetB.beqt (by omega) ?_ | refine LetB.beqf (by omega) ?_ | refine LetB.bnet (by omega) ?_ | refine LetB.bnef (by omega) ?_ | refine LetB.mk _ rfl ?_) | (refine Gd.pre ?_; first | refine Gd.run rfl ?_ | refine Gd.pass rfl ?_ | refine Gd.run (by assumption) ?_ | refine Gd.pass (by assumption) ?_ | (refine Gd.run ?_ ?_; · decide +kernel) | (refine Gd.pass ?_ ?_; · decide +kernel) | refine Gd.both ?_) | (refine Br.pre ?_; first | refine Br.tt rfl ?_ | refine Br.ff rfl ?_ | refine Br.tt (by assumption) ?_ | refine Br.ff (by assumption) ?_ | (refine Br.tt ?_ ?_; · decide +kernel) | (refine Br.ff ?_ ?_; · decide +kernel)) | (refine Ck.pre ?_; first | refine Ck.drawn (by kernel_rfl) ?_ | refine Ck.mk rfl ?_) | (refine LetL.pre ?_; first | refine LetL.mk [_] rfl ?_ | refine LetL.mk _ rfl ?_) | refine forceAs.pass ?_ | refine forceEs.pass ?_ | refine forceC.pass ?_))); (try (conv => whnf)))
      exact ⟨rfl, (), trivial, SW.mk id rfl rfl rfl ⟨.refl _, .refl _, VLe2.of_eq rfl, trivial⟩ (haveV.one rfl (haveV.one rfl trivial))⟩
  intro _ _
  have i1 := hI c.f.student (by simp)
  have i2 := hI c.f.id (by simp)
  have i3 := hI c.f.term (by simp)
  have i4 := hI c.f.n (by simp)
  have i5 := hI c.f.school (by simp)
  have i6 := hI c.entry (by simp)
  clear hI
  refine VS.joinN (fun _ : Unit => txS c [bsB (sgn c.gone :: wordL c.f.kind), bsB (tI c.f.student), bsB (tI c.f.id), bsB (tI c.f.term), bsB (tI c.f.n)]) (fun _ => True) ?p3 ?_
  case p3 =>
    refine VS.of_V T_ok mixed rfl ?_
    clear i5 i6 hn hc
    unfold tx2 txS txH
    generalize bsB (sgn c.gone :: wordL c.f.kind) = w0
    generalize bsB (tI c.f.student) = s1 at i1 ⊢
    generalize bsB (tI c.f.id) = s2 at i2 ⊢
    generalize bsB (tI c.f.term) = s3 at i3 ⊢
    generalize bsB (tI c.f.n) = s4 at i4 ⊢
    obtain ⟨⟨k, st, i, t, n, sc, co⟩, g, kp, en⟩ := c
    dsimp only at i1 i2 i3 i4
    ((repeat ((conv => whnf); (first | (refine LetN.pre ?_; first | ((conv => arg 1; whnf); refine LetN.mk ?_)) | (refine As.pre ?_; first | refine As.mk rfl ?_ | (refine As.mk ?_ ?_; · decide +kernel) | refine As.mk (andT (nor_self _) rfl) ?_ | refine As.mk (andT (nor_self _) (or_t _)) ?_ | refine As.mk (andT (or_t _) (or_nself _)) ?_ | refine As.mk (andT (or_t _) (or_t _)) ?_ | refine As.mk (andT (nor_self _) (andT (nor_self _) rfl)) ?_ | (refine As.mk ?_ ?_; · ((repeat' (refine andT ?_ ?_)) <;> (first | rfl | assumption | exact decide_eq_true (by omega) | exact decide_eq_true (by dsimp only; omega) | exact decide_eq_true (by simp; omega) | (simp; done))))) | (refine LetV.pre ?_; first | refine LetV.mk (.sc (.int _ _)) rfl ?_ | refine LetV.mk (.sc (.bool _)) rfl ?_ | refine LetV.mk (.sc _) rfl ?_ | refine LetV.mk (.agg _) rfl ?_ | refine LetV.mk (.slm _ _ _ _ _) rfl ?_ | refine LetV.mk (.ro _ _ _) rfl ?_ | refine LetV.mk (.ptr _ _ _ _) rfl ?_ | refine LetV.mk (.clo _ _ _) rfl ?_ | refine LetV.mk (.rp _ _) rfl ?_) | (refine LetI.pre ?_; first | refine LetI.wrap (by omega) (by omega) ?_ | refine LetI.mk _ rfl ?_) | (refine LetB.pre ?_; first | refine LetB.tt rfl ?_ | refine LetB.ff rfl ?_ | refine LetB.tt (by assumption) ?_ | refine LetB.ff (by assumption) ?_ | refine LetB.dect (by omega) ?_ | refine LetB.decf (by omega) ?_ | refine LetB.beqt (by omega) ?_ | refine LetB.beqf (by omega) ?_ | refine LetB.bnet (by omega) ?_ | refine LetB.bnef (by omega) ?_ | refine LetB.mk _ rfl ?_) | (refine Gd.pre ?_; first | refine Gd.run rfl ?_ | refine Gd.pass rfl ?_ | refine Gd.run (by assumption) ?_ | refine Gd.pass (by assumption) ?_ | (refine Gd.run ?_ ?_; · decide +kernel) | (refine Gd.pass ?_ ?_; · decide +kernel) | refine Gd.both ?_) | (refine Br.pre ?_; first | refine Br.tt rfl ?_ | refine Br.ff rfl ?_ | refine Br.tt (by assumption) ?_ | refine Br.ff (by assumption) ?_ | (refine Br.tt ?_ ?_; · decide +kernel) | (refine Br.ff ?_ ?_; · decide +kernel)) | (refine Ck.pre ?_; first | refine Ck.drawn (by kernel_rfl) ?_ | refine Ck.mk rfl ?_) | (refine LetL.pre ?_; first | refine LetL.mk [_] rfl ?_ | refine LetL.mk _ rfl ?_) | refine forceAs.pass ?_ | refine forceEs.pass ?_ | refine forceC.pass ?_))); (try (conv => whnf)))
    refine LoopN.round T_ok mixed rfl ?_
    ((repeat ((conv => whnf); (first | (refine LetN.pre ?_; first | ((conv => arg 1; whnf); refine LetN.mk ?_)) | (refine As.pre ?_; first | refine As.mk rfl ?_ | (refine As.mk ?_ ?_; · decide +kernel) | refine As.mk (andT (nor_self _) rfl) ?_ | refine As.mk (andT (nor_self _) (or_t _)) ?_ | refine As.mk (andT (or_t _) (or_nself _)) ?_ | refine As.mk (andT (or_t _) (or_t _)) ?_ | refine As.mk (andT (nor_self _) (andT (nor_self _) rfl)) ?_ | (refine As.mk ?_ ?_; · ((repeat' (refine andT ?_ ?_)) <;> (first | rfl | assumption | exact decide_eq_true (by omega) | exact decide_eq_true (by dsimp only; omega) | exact decide_eq_true (by simp; omega) | (simp; done))))) | (refine LetV.pre ?_; first | refine LetV.mk (.sc (.int _ _)) rfl ?_ | refine LetV.mk (.sc (.bool _)) rfl ?_ | refine LetV.mk (.sc _) rfl ?_ | refine LetV.mk (.agg _) rfl ?_ | refine LetV.mk (.slm _ _ _ _ _) rfl ?_ | refine LetV.mk (.ro _ _ _) rfl ?_ | refine LetV.mk (.ptr _ _ _ _) rfl ?_ | refine LetV.mk (.clo _ _ _) rfl ?_ | refine LetV.mk (.rp _ _) rfl ?_) | (refine LetI.pre ?_; first | refine LetI.wrap (by omega) (by omega) ?_ | refine LetI.mk _ rfl ?_) | (refine LetB.pre ?_; first | refine LetB.tt rfl ?_ | refine LetB.ff rfl ?_ | refine LetB.tt (by assumption) ?_ | refine LetB.ff (by assumption) ?_ | refine LetB.dect (by omega) ?_ | refine LetB.decf (by omega) ?_ | refine LetB.beqt (by omega) ?_ | refine LetB.beqf (by omega) ?_ | refine LetB.bnet (by omega) ?_ | refine LetB.bnef (by omega) ?_ | refine LetB.mk _ rfl ?_) | (refine Gd.pre ?_; first | refine Gd.run rfl ?_ | refine Gd.pass rfl ?_ | refine Gd.run (by assumption) ?_ | refine Gd.pass (by assumption) ?_ | (refine Gd.run ?_ ?_; · decide +kernel) | (refine Gd.pass ?_ ?_; · decide +kernel) | refine Gd.both ?_) | (refine Br.pre ?_; first | refine Br.tt rfl ?_ | refine Br.ff rfl ?_ | refine Br.tt (by assumption) ?_ | refine Br.ff (by assumption) ?_ | (refine Br.tt ?_ ?_; · decide +kernel) | (refine Br.ff ?_ ?_; · decide +kernel)) | (refine Ck.pre ?_; first | refine Ck.drawn (by kernel_rfl) ?_ | refine Ck.mk rfl ?_) | (refine LetL.pre ?_; first | refine LetL.mk (ty := 9) [_, _] rfl ?_ | refine LetL.mk [_] rfl ?_ | refine LetL.mk _ rfl ?_) | (refine CallN.pre ?_; first | refine CallN.pure i1 rfl rfl ?_) | refine forceAs.pass ?_ | refine forceEs.pass ?_ | refine forceC.pass ?_))); (try (conv => whnf)))
    refine LoopN.round T_ok mixed rfl ?_
    ((repeat ((conv => whnf); (first | (refine LetN.pre ?_; first | ((conv => arg 1; whnf); refine LetN.mk ?_)) | (refine As.pre ?_; first | refine As.mk rfl ?_ | (refine As.mk ?_ ?_; · decide +kernel) | refine As.mk (andT (nor_self _) rfl) ?_ | refine As.mk (andT (nor_self _) (or_t _)) ?_ | refine As.mk (andT (or_t _) (or_nself _)) ?_ | refine As.mk (andT (or_t _) (or_t _)) ?_ | refine As.mk (andT (nor_self _) (andT (nor_self _) rfl)) ?_ | (refine As.mk ?_ ?_; · ((repeat' (refine andT ?_ ?_)) <;> (first | rfl | assumption | exact decide_eq_true (by omega) | exact decide_eq_true (by dsimp only; omega) | exact decide_eq_true (by simp; omega) | (simp; done))))) | (refine LetV.pre ?_; first | refine LetV.mk (.sc (.int _ _)) rfl ?_ | refine LetV.mk (.sc (.bool _)) rfl ?_ | refine LetV.mk (.sc _) rfl ?_ | refine LetV.mk (.agg _) rfl ?_ | refine LetV.mk (.slm _ _ _ _ _) rfl ?_ | refine LetV.mk (.ro _ _ _) rfl ?_ | refine LetV.mk (.ptr _ _ _ _) rfl ?_ | refine LetV.mk (.clo _ _ _) rfl ?_ | refine LetV.mk (.rp _ _) rfl ?_) | (refine LetI.pre ?_; first | refine LetI.wrap (by omega) (by omega) ?_ | refine LetI.mk _ rfl ?_) | (refine LetB.pre ?_; first | refine LetB.tt rfl ?_ | refine LetB.ff rfl ?_ | refine LetB.tt (by assumption) ?_ | refine LetB.ff (by assumption) ?_ | refine LetB.dect (by omega) ?_ | refine LetB.decf (by omega) ?_ | refine LetB.beqt (by omega) ?_ | refine LetB.beqf (by omega) ?_ | refine LetB.bnet (by omega) ?_ | refine LetB.bnef (by omega) ?_ | refine LetB.mk _ rfl ?_) | (refine Gd.pre ?_; first | refine Gd.run rfl ?_ | refine Gd.pass rfl ?_ | refine Gd.run (by assumption) ?_ | refine Gd.pass (by assumption) ?_ | (refine Gd.run ?_ ?_; · decide +kernel) | (refine Gd.pass ?_ ?_; · decide +kernel) | refine Gd.both ?_) | (refine Br.pre ?_; first | refine Br.tt rfl ?_ | refine Br.ff rfl ?_ | refine Br.tt (by assumption) ?_ | refine Br.ff (by assumption) ?_ | (refine Br.tt ?_ ?_; · decide +kernel) | (refine Br.ff ?_ ?_; · decide +kernel)) | (refine Ck.pre ?_; first | refine Ck.drawn (by kernel_rfl) ?_ | refine Ck.mk rfl ?_) | (refine LetL.pre ?_; first | refine LetL.mk (ty := 9) [_, _, _] rfl ?_ | refine LetL.mk [_] rfl ?_ | refine LetL.mk _ rfl ?_) | (refine CallN.pre ?_; first | refine CallN.pure i2 rfl rfl ?_) | refine forceAs.pass ?_ | refine forceEs.pass ?_ | refine forceC.pass ?_))); (try (conv => whnf)))
    refine LoopN.round T_ok mixed rfl ?_
    ((repeat ((conv => whnf); (first | (refine LetN.pre ?_; first | ((conv => arg 1; whnf); refine LetN.mk ?_)) | (refine As.pre ?_; first | refine As.mk rfl ?_ | (refine As.mk ?_ ?_; · decide +kernel) | refine As.mk (andT (nor_self _) rfl) ?_ | refine As.mk (andT (nor_self _) (or_t _)) ?_ | refine As.mk (andT (or_t _) (or_nself _)) ?_ | refine As.mk (andT (or_t _) (or_t _)) ?_ | refine As.mk (andT (nor_self _) (andT (nor_self _) rfl)) ?_ | (refine As.mk ?_ ?_; · ((repeat' (refine andT ?_ ?_)) <;> (first | rfl | assumption | exact decide_eq_true (by omega) | exact decide_eq_true (by dsimp only; omega) | exact decide_eq_true (by simp; omega) | (simp; done))))) | (refine LetV.pre ?_; first | refine LetV.mk (.sc (.int _ _)) rfl ?_ | refine LetV.mk (.sc (.bool _)) rfl ?_ | refine LetV.mk (.sc _) rfl ?_ | refine LetV.mk (.agg _) rfl ?_ | refine LetV.mk (.slm _ _ _ _ _) rfl ?_ | refine LetV.mk (.ro _ _ _) rfl ?_ | refine LetV.mk (.ptr _ _ _ _) rfl ?_ | refine LetV.mk (.clo _ _ _) rfl ?_ | refine LetV.mk (.rp _ _) rfl ?_) | (refine LetI.pre ?_; first | refine LetI.wrap (by omega) (by omega) ?_ | refine LetI.mk _ rfl ?_) | (refine LetB.pre ?_; first | refine LetB.tt rfl ?_ | refine LetB.ff rfl ?_ | refine LetB.tt (by assumption) ?_ | refine LetB.ff (by assumption) ?_ | refine LetB.dect (by omega) ?_ | refine LetB.decf (by omega) ?_ | refine LetB.beqt (by omega) ?_ | refine LetB.beqf (by omega) ?_ | refine LetB.bnet (by omega) ?_ | refine LetB.bnef (by omega) ?_ | refine LetB.mk _ rfl ?_) | (refine Gd.pre ?_; first | refine Gd.run rfl ?_ | refine Gd.pass rfl ?_ | refine Gd.run (by assumption) ?_ | refine Gd.pass (by assumption) ?_ | (refine Gd.run ?_ ?_; · decide +kernel) | (refine Gd.pass ?_ ?_; · decide +kernel) | refine Gd.both ?_) | (refine Br.pre ?_; first | refine Br.tt rfl ?_ | refine Br.ff rfl ?_ | refine Br.tt (by assumption) ?_ | refine Br.ff (by assumption) ?_ | (refine Br.tt ?_ ?_; · decide +kernel) | (refine Br.ff ?_ ?_; · decide +kernel)) | (refine Ck.pre ?_; first | refine Ck.drawn (by kernel_rfl) ?_ | refine Ck.mk rfl ?_) | (refine LetL.pre ?_; first | refine LetL.mk (ty := 9) [_, _, _, _] rfl ?_ | refine LetL.mk [_] rfl ?_ | refine LetL.mk _ rfl ?_) | (refine CallN.pre ?_; first | refine CallN.pure i3 rfl rfl ?_) | refine forceAs.pass ?_ | refine forceEs.pass ?_ | refine forceC.pass ?_))); (try (conv => whnf)))
    refine LoopN.round T_ok mixed rfl ?_
    ((repeat ((conv => whnf); (first | (refine LetN.pre ?_; first | ((conv => arg 1; whnf); refine LetN.mk ?_)) | (refine As.pre ?_; first | refine As.mk rfl ?_ | (refine As.mk ?_ ?_; · decide +kernel) | refine As.mk (andT (nor_self _) rfl) ?_ | refine As.mk (andT (nor_self _) (or_t _)) ?_ | refine As.mk (andT (or_t _) (or_nself _)) ?_ | refine As.mk (andT (or_t _) (or_t _)) ?_ | refine As.mk (andT (nor_self _) (andT (nor_self _) rfl)) ?_ | (refine As.mk ?_ ?_; · ((repeat' (refine andT ?_ ?_)) <;> (first | rfl | assumption | exact decide_eq_true (by omega) | exact decide_eq_true (by dsimp only; omega) | exact decide_eq_true (by simp; omega) | (simp; done))))) | (refine LetV.pre ?_; first | refine LetV.mk (.sc (.int _ _)) rfl ?_ | refine LetV.mk (.sc (.bool _)) rfl ?_ | refine LetV.mk (.sc _) rfl ?_ | refine LetV.mk (.agg _) rfl ?_ | refine LetV.mk (.slm _ _ _ _ _) rfl ?_ | refine LetV.mk (.ro _ _ _) rfl ?_ | refine LetV.mk (.ptr _ _ _ _) rfl ?_ | refine LetV.mk (.clo _ _ _) rfl ?_ | refine LetV.mk (.rp _ _) rfl ?_) | (refine LetI.pre ?_; first | refine LetI.wrap (by omega) (by omega) ?_ | refine LetI.mk _ rfl ?_) | (refine LetB.pre ?_; first | refine LetB.tt rfl ?_ | refine LetB.ff rfl ?_ | refine LetB.tt (by assumption) ?_ | refine LetB.ff (by assumption) ?_ | refine LetB.dect (by omega) ?_ | refine LetB.decf (by omega) ?_ | refine LetB.beqt (by omega) ?_ | refine LetB.beqf (by omega) ?_ | refine LetB.bnet (by omega) ?_ | refine LetB.bnef (by omega) ?_ | refine LetB.mk _ rfl ?_) | (refine Gd.pre ?_; first | refine Gd.run rfl ?_ | refine Gd.pass rfl ?_ | refine Gd.run (by assumption) ?_ | refine Gd.pass (by assumption) ?_ | (refine Gd.run ?_ ?_; · decide +kernel) | (refine Gd.pass ?_ ?_; · decide +kernel) | refine Gd.both ?_) | (refine Br.pre ?_; first | refine Br.tt rfl ?_ | refine Br.ff rfl ?_ | refine Br.tt (by assumption) ?_ | refine Br.ff (by assumption) ?_ | (refine Br.tt ?_ ?_; · decide +kernel) | (refine Br.ff ?_ ?_; · decide +kernel)) | (refine Ck.pre ?_; first | refine Ck.drawn (by kernel_rfl) ?_ | refine Ck.mk rfl ?_) | (refine LetL.pre ?_; first | refine LetL.mk (ty := 9) [_, _, _, _, _] rfl ?_ | refine LetL.mk [_] rfl ?_ | refine LetL.mk _ rfl ?_) | (refine CallN.pre ?_; first | refine CallN.pure i4 rfl rfl ?_) | refine forceAs.pass ?_ | refine forceEs.pass ?_ | refine forceC.pass ?_))); (try (conv => whnf)))
    refine LoopN.round T_ok mixed rfl ?_
    ((repeat ((conv => whnf); (first | (refine LetN.pre ?_; first | ((conv => arg 1; whnf); refine LetN.mk ?_)) | (refine As.pre ?_; first | refine As.mk rfl ?_ | (refine As.mk ?_ ?_; · decide +kernel) | refine As.mk (andT (nor_self _) rfl) ?_ | refine As.mk (andT (nor_self _) (or_t _)) ?_ | refine As.mk (andT (or_t _) (or_nself _)) ?_ | refine As.mk (andT (or_t _) (or_t _)) ?_ | refine As.mk (andT (nor_self _) (andT (nor_self _) rfl)) ?_ | (refine As.mk ?_ ?_; · ((repeat' (refine andT ?_ ?_)) <;> (first | rfl | assumption | exact decide_eq_true (by omega) | exact decide_eq_true (by dsimp only; omega) | exact decide_eq_true (by simp; omega) | (simp; done))))) | (refine LetV.pre ?_; first | refine LetV.mk (.sc (.int _ _)) rfl ?_ | refine LetV.mk (.sc (.bool _)) rfl ?_ | refine LetV.mk (.sc _) rfl ?_ | refine LetV.mk (.agg _) rfl ?_ | refine LetV.mk (.slm _ _ _ _ _) rfl ?_ | refine LetV.mk (.ro _ _ _) rfl ?_ | refine LetV.mk (.ptr _ _ _ _) rfl ?_ | refine LetV.mk (.clo _ _ _) rfl ?_ | refine LetV.mk (.rp _ _) rfl ?_) | (refine LetI.pre ?_; first | refine LetI.wrap (by omega) (by omega) ?_ | refine LetI.mk _ rfl ?_) | (refine LetB.pre ?_; first | refine LetB.tt rfl ?_ | refine LetB.ff rfl ?_ | refine LetB.tt (by assumption) ?_ | refine LetB.ff (by assumption) ?_ | refine LetB.dect (by omega) ?_ | refine LetB.decf (by omega) ?_ | refine LetB.beqt (by omega) ?_ | refine LetB.beqf (by omega) ?_ | refine LetB.bnet (by omega) ?_ | refine LetB.bnef (by omega) ?_ | refine LetB.mk _ rfl ?_) | (refine Gd.pre ?_; first | refine Gd.run rfl ?_ | refine Gd.pass rfl ?_ | refine Gd.run (by assumption) ?_ | refine Gd.pass (by assumption) ?_ | (refine Gd.run ?_ ?_; · decide +kernel) | (refine Gd.pass ?_ ?_; · decide +kernel) | refine Gd.both ?_) | (refine Br.pre ?_; first | refine Br.tt rfl ?_ | refine Br.ff rfl ?_ | refine Br.tt (by assumption) ?_ | refine Br.ff (by assumption) ?_ | (refine Br.tt ?_ ?_; · decide +kernel) | (refine Br.ff ?_ ?_; · decide +kernel)) | (refine Ck.pre ?_; first | refine Ck.drawn (by kernel_rfl) ?_ | refine Ck.mk rfl ?_) | (refine LetL.pre ?_; first | refine LetL.mk [_] rfl ?_ | refine LetL.mk _ rfl ?_) | refine forceAs.pass ?_ | refine forceEs.pass ?_ | refine forceC.pass ?_))); (try (conv => whnf)))
    exact ⟨rfl, (), trivial, SW.mk rt5 rfl rfl rfl ⟨.refl _, .refl _, VLe2.slm_of rfl, trivial⟩ (haveV.one rfl (haveV.one rfl (haveV.row rfl rfl trivial)))⟩
  intro _ _
  have hT : textP c = joinB ([bsB (sgn c.gone :: wordL c.f.kind), bsB (tI c.f.student), bsB (tI c.f.id), bsB (tI c.f.term), bsB (tI c.f.n), bsB (tI c.f.school) ++ bsB [58] ++ c.f.code, bsB [98, 121], bsB (tI c.entry)] ++ if c.kept then [bsB [107, 101, 112, 116]] else []) (bsB [32]) := by
    unfold textP pieces joinB
    have e5 : (bsB (tI c.f.school) ++ bsB [58] ++ c.f.code).data.toList = tI c.f.school ++ 58 :: c.f.code.data.toList := by
      simp [bsB]
    cases c.kept <;> simp [e5, bsB]
  have hlen : (Go.Lib.join ((([bsB (sgn c.gone :: wordL c.f.kind), bsB (tI c.f.student), bsB (tI c.f.id), bsB (tI c.f.term), bsB (tI c.f.n), bsB (tI c.f.school) ++ bsB [58] ++ c.f.code, bsB [98, 121], bsB (tI c.entry)] ++ if c.kept then [bsB [107, 101, 112, 116]] else [])).map (·.data.toList)) (bsB [32]).data.toList).length ≤ 281474976710656 := by
    have z : ∀ n, n ∈ [c.f.student, c.f.id, c.f.term, c.f.n, c.f.school, c.entry] → (tI n).length ≤ 21 := fun n h => Go.Lib.itoa_length_le n (hn n h).1 (hn n h).2
    have z1 := z c.f.student (by simp)
    have z2 := z c.f.id (by simp)
    have z3 := z c.f.term (by simp)
    have z4 := z c.f.n (by simp)
    have z5 := z c.f.school (by simp)
    have z6 := z c.entry (by simp)
    have zw : (wordL c.f.kind).length ≤ 8 := by
      unfold wordL
      repeat' split
      all_goals decide
    have zc : c.f.code.data.toList.length ≤ 1000 := by simpa using hc
    have e5 : (bsB (tI c.f.school) ++ bsB [58] ++ c.f.code).data.toList = tI c.f.school ++ 58 :: c.f.code.data.toList := by simp [bsB]
    rw [List.map_append, List.map_cons, List.cons_append, Go.Lib.join_length]
    cases c.kept <;> simp only [Go.Lib.lens, List.map_cons, List.map_nil, List.cons_append, List.nil_append, List.append_nil, List.length_cons, List.length_nil, List.sum_cons, List.sum_nil, e5, List.length_append, if_true, if_false, Bool.false_eq_true] <;> omega
  refine VS.joinN (fun _ : Unit => txS c [bsB (sgn c.gone :: wordL c.f.kind), bsB (tI c.f.student), bsB (tI c.f.id), bsB (tI c.f.term), bsB (tI c.f.n), bsB (tI c.f.school) ++ bsB [58] ++ c.f.code, bsB [98, 121], bsB (tI c.entry)]) (fun _ => True) ?p4 ?_
  case p4 =>
    refine VS.of_V T_ok mixed rfl ?_
    have hz5 : (bsB (tI c.f.school)).size ≤ 21 := by
      have := hn c.f.school (by simp)
      exact Go.Lib.itoa_length_le c.f.school this.1 this.2
    clear hlen hT i1 i2 i3 i4 hn
    unfold txS txH
    generalize bsB (sgn c.gone :: wordL c.f.kind) = w0
    generalize bsB (tI c.f.student) = s1
    generalize bsB (tI c.f.id) = s2
    generalize bsB (tI c.f.term) = s3
    generalize bsB (tI c.f.n) = s4
    generalize bsB (tI c.f.school) = s5 at i5 hz5 ⊢
    generalize bsB (tI c.entry) = s6 at i6 ⊢
    obtain ⟨⟨k, st, i, t, n, sc, co⟩, g, kp, en⟩ := c
    dsimp only at i5 i6 hc
    have q1 : decide (((s5.size + (ByteArray.mk #[58]).size : Nat) : Int) ≤ IntKind.i64.max) = true := decide_eq_true (by
      have e1 : (ByteArray.mk #[58]).size = 1 := rfl
      have e2 : IntKind.i64.max = 9223372036854775807 := rfl
      rw [e1, e2]; omega)
    have q2 : decide ((((s5 ++ (ByteArray.mk #[58])).size + co.size : Nat) : Int) ≤ IntKind.i64.max) = true := decide_eq_true (by
      have e1 : (s5 ++ (ByteArray.mk #[58])).size = s5.size + 1 := by rw [ByteArray.size_append]; rfl
      have e2 : IntKind.i64.max = 9223372036854775807 := rfl
      rw [e1, e2]; omega)
    clear hz5 hc
    ((repeat ((conv => whnf); (first | (refine LetN.pre ?_; first | ((conv => arg 1; whnf); refine LetN.mk ?_)) | (refine As.pre ?_; first | (refine As.mk0 ?_ ?_; · (with_reducible exact q1)) | (refine As.mk0 ?_ ?_; · (with_reducible exact q2)) | refine As.mk rfl ?_ | (refine As.mk ?_ ?_; · decide +kernel) | refine As.mk (andT (nor_self _) rfl) ?_ | refine As.mk (andT (nor_self _) (or_t _)) ?_ | refine As.mk (andT (or_t _) (or_nself _)) ?_ | refine As.mk (andT (or_t _) (or_t _)) ?_ | refine As.mk (andT (nor_self _) (andT (nor_self _) rfl)) ?_ | (refine As.mk ?_ ?_; · ((repeat' (refine andT ?_ ?_)) <;> (first | rfl | assumption | exact decide_eq_true (by omega) | exact decide_eq_true (by dsimp only; omega) | exact decide_eq_true (by simp; omega) | (simp; done))))) | (refine LetV.pre ?_; first | refine LetV.mk (.sc (.int _ _)) rfl ?_ | refine LetV.mk (.sc (.bool _)) rfl ?_ | refine LetV.mk (.sc _) rfl ?_ | refine LetV.mk (.agg _) rfl ?_ | refine LetV.mk (.slm _ _ _ _ _) rfl ?_ | refine LetV.mk (.ro _ _ _) rfl ?_ | refine LetV.mk (.ptr _ _ _ _) rfl ?_ | refine LetV.mk (.clo _ _ _) rfl ?_ | refine LetV.mk (.rp _ _) rfl ?_) | (refine LetI.pre ?_; first | refine LetI.wrap (by omega) (by omega) ?_ | refine LetI.mk _ rfl ?_) | (refine LetB.pre ?_; first | refine LetB.tt rfl ?_ | refine LetB.ff rfl ?_ | refine LetB.tt (by assumption) ?_ | refine LetB.ff (by assumption) ?_ | refine LetB.dect (by omega) ?_ | refine LetB.decf (by omega) ?_ | refine LetB.beqt (by omega) ?_ | refine LetB.beqf (by omega) ?_ | refine LetB.bnet (by omega) ?_ | refine LetB.bnef (by omega) ?_ | refine LetB.mk _ rfl ?_) | (refine Gd.pre ?_; first | refine Gd.run rfl ?_ | refine Gd.pass rfl ?_ | refine Gd.run (by assumption) ?_ | refine Gd.pass (by assumption) ?_ | (refine Gd.run ?_ ?_; · decide +kernel) | (refine Gd.pass ?_ ?_; · decide +kernel) | refine Gd.both ?_) | (refine Br.pre ?_; first | refine Br.tt rfl ?_ | refine Br.ff rfl ?_ | refine Br.tt (by assumption) ?_ | refine Br.ff (by assumption) ?_ | (refine Br.tt ?_ ?_; · decide +kernel) | (refine Br.ff ?_ ?_; · decide +kernel)) | (refine Ck.pre ?_; first | refine Ck.drawn (by kernel_rfl) ?_ | refine Ck.mk rfl ?_) | (refine LetL.pre ?_; first | refine LetL.mk (ty := 9) [_, _, _, _, _, _, _, _] rfl ?_ | refine LetL.mk [_] rfl ?_ | refine LetL.mk _ rfl ?_) | (refine CallN.pre ?_; first | refine CallN.pure i5 rfl rfl ?_ | refine CallN.pure i6 rfl rfl ?_) | refine forceAs.pass ?_ | refine forceEs.pass ?_ | refine forceC.pass ?_))); (try (conv => whnf)))
    exact ⟨rfl, (), trivial, SW.mk rt3 rfl rfl rfl ⟨.refl _, .refl _, VLe2.slm_of rfl, trivial⟩ (haveV.one rfl (haveV.one rfl (haveV.row rfl rfl trivial)))⟩
  intro _ _
  clear i1 i2 i3 i4 i5 i6 hn hc
  obtain ⟨L, hL⟩ : ∃ L : List ByteArray, L = [bsB (sgn c.gone :: wordL c.f.kind), bsB (tI c.f.student), bsB (tI c.f.id), bsB (tI c.f.term), bsB (tI c.f.n), bsB (tI c.f.school) ++ bsB [58] ++ c.f.code, bsB [98, 121], bsB (tI c.entry)] := ⟨_, rfl⟩
  have hLl : L.length = 8 := by rw [hL]; rfl
  rw [← hL] at hT hlen ⊢
  clear hL
  refine VS.joinN (fun _ : Unit => txS c (L ++ if c.kept then [bsB [107, 101, 112, 116]] else [])) (fun _ => True) ?p5 ?_
  case p5 =>
    refine VS.of_V T_ok mixed rfl ?_
    clear hlen hT
    have hml : (L.map str).length = L.length := List.length_map _
    unfold txS txH
    obtain ⟨⟨k, st, i, t, n, sc, co⟩, g, kp, en⟩ := c
    cases kp with
    | false =>
      ((repeat ((conv => whnf); (first | (refine LetN.pre ?_; first | ((conv => arg 1; whnf); refine LetN.mk ?_)) | (refine As.pre ?_; first | refine As.mk rfl ?_ | (refine As.mk ?_ ?_; · decide +kernel) | refine As.mk (andT (nor_self _) rfl) ?_ | refine As.mk (andT (nor_self _) (or_t _)) ?_ | refine As.mk (andT (or_t _) (or_nself _)) ?_ | refine As.mk (andT (or_t _) (or_t _)) ?_ | refine As.mk (andT (nor_self _) (andT (nor_self _) rfl)) ?_ | (refine As.mk ?_ ?_; · ((repeat' (refine andT ?_ ?_)) <;> (first | rfl | assumption | exact decide_eq_true (by omega) | exact decide_eq_true (by dsimp only; omega) | exact decide_eq_true (by simp; omega) | (simp; done))))) | (refine LetV.pre ?_; first | refine LetV.mk (.sc (.int _ _)) rfl ?_ | refine LetV.mk (.sc (.bool _)) rfl ?_ | refine LetV.mk (.sc _) rfl ?_ | refine LetV.mk (.agg _) rfl ?_ | refine LetV.mk (.slm _ _ _ _ _) rfl ?_ | refine LetV.mk (.ro _ _ _) rfl ?_ | refine LetV.mk (.ptr _ _ _ _) rfl ?_ | refine LetV.mk (.clo _ _ _) rfl ?_ | refine LetV.mk (.rp _ _) rfl ?_) | (refine LetI.pre ?_; first | refine LetI.wrap (by omega) (by omega) ?_ | refine LetI.mk _ rfl ?_) | (refine LetB.pre ?_; first | refine LetB.tt rfl ?_ | refine LetB.ff rfl ?_ | refine LetB.tt (by assumption) ?_ | refine LetB.ff (by assumption) ?_ | refine LetB.dect (by omega) ?_ | refine LetB.decf (by omega) ?_ | refine LetB.beqt (by omega) ?_ | refine LetB.beqf (by omega) ?_ | refine LetB.bnet (by omega) ?_ | refine LetB.bnef (by omega) ?_ | refine LetB.mk _ rfl ?_) | (refine Gd.pre ?_; first | refine Gd.run rfl ?_ | refine Gd.pass rfl ?_ | refine Gd.run (by assumption) ?_ | refine Gd.pass (by assumption) ?_ | (refine Gd.run ?_ ?_; · decide +kernel) | (refine Gd.pass ?_ ?_; · decide +kernel) | refine Gd.both ?_) | (refine Br.pre ?_; first | refine Br.tt rfl ?_ | refine Br.ff rfl ?_ | refine Br.tt (by assumption) ?_ | refine Br.ff (by assumption) ?_ | (refine Br.tt ?_ ?_; · decide +kernel) | (refine Br.ff ?_ ?_; · decide +kernel)) | (refine Ck.pre ?_; first | refine Ck.drawn (by kernel_rfl) ?_ | refine Ck.mk rfl ?_) | (refine LetL.pre ?_; first | refine LetL.mk [_] rfl ?_ | refine LetL.mk _ rfl ?_) | refine forceAs.pass ?_ | refine forceEs.pass ?_ | refine forceC.pass ?_))); (try (conv => whnf)))
      exact ⟨rfl, (), trivial, SW.mk id rfl rfl (ttN _ _ _ _) ⟨.refl _, .refl _, VLe2.slm_of (by simp), trivial⟩ (haveV.one rfl (haveV.one rfl (haveV.row (pure_str _) (by simp [AH.get]) trivial)))⟩
    | true =>
      have a1 : (L ++ [bsB [107, 101, 112, 116]]).map str = (L.map str).take L.length ++ [str (bsB [107, 101, 112, 116])] := by
        rw [List.take_of_length_le (by simp), List.map_append]; rfl
      have r1 : room (L.length + 1) 16 = true := by rw [hLl]; rfl
      ((repeat ((conv => whnf); (first | (refine LetN.pre ?_; first | ((conv => arg 1; whnf); refine LetN.mk ?_)) | (refine As.pre ?_; first | refine As.mk rfl ?_ | (refine As.mk ?_ ?_; · decide +kernel) | refine As.mk (andT (nor_self _) rfl) ?_ | refine As.mk (andT (nor_self _) (or_t _)) ?_ | refine As.mk (andT (or_t _) (or_nself _)) ?_ | refine As.mk (andT (or_t _) (or_t _)) ?_ | refine As.mk (andT (nor_self _) (andT (nor_self _) rfl)) ?_ | (refine As.mk ?_ ?_; · ((repeat' (refine andT ?_ ?_)) <;> (first | rfl | assumption | exact decide_eq_true (by omega) | exact decide_eq_true (by dsimp only; omega) | exact decide_eq_true (by simp; omega) | (simp; done))))) | (refine LetV.pre ?_; first | refine LetV.mk (.sc (.int _ _)) rfl ?_ | refine LetV.mk (.sc (.bool _)) rfl ?_ | refine LetV.mk (.sc _) rfl ?_ | refine LetV.mk (.agg _) rfl ?_ | refine LetV.mk (.slm _ _ _ _ _) rfl ?_ | refine LetV.mk (.ro _ _ _) rfl ?_ | refine LetV.mk (.ptr _ _ _ _) rfl ?_ | refine LetV.mk (.clo _ _ _) rfl ?_ | refine LetV.mk (.rp _ _) rfl ?_) | (refine LetI.pre ?_; first | refine LetI.wrap (by omega) (by omega) ?_ | refine LetI.mk _ rfl ?_) | (refine LetB.pre ?_; first | refine LetB.tt rfl ?_ | refine LetB.ff rfl ?_ | refine LetB.tt (by assumption) ?_ | refine LetB.ff (by assumption) ?_ | refine LetB.dect (by omega) ?_ | refine LetB.decf (by omega) ?_ | refine LetB.beqt (by omega) ?_ | refine LetB.beqf (by omega) ?_ | refine LetB.bnet (by omega) ?_ | refine LetB.bnef (by omega) ?_ | refine LetB.mk _ rfl ?_) | (refine Gd.pre ?_; first | refine Gd.run rfl ?_ | refine Gd.pass rfl ?_ | refine Gd.run (by assumption) ?_ | refine Gd.pass (by assumption) ?_ | (refine Gd.run ?_ ?_; · decide +kernel) | (refine Gd.pass ?_ ?_; · decide +kernel) | refine Gd.both ?_) | (refine Br.pre ?_; first | refine Br.tt rfl ?_ | refine Br.ff rfl ?_ | refine Br.tt (by assumption) ?_ | refine Br.ff (by assumption) ?_ | (refine Br.tt ?_ ?_; · decide +kernel) | (refine Br.ff ?_ ?_; · decide +kernel)) | (refine Ck.pre ?_; first | refine Ck.drawn (by kernel_rfl) ?_ | refine Ck.mk rfl ?_) | (refine LetL.pre ?_; first | refine LetL.mk (ty := 9) _ a1 ?_ | refine LetL.mk [_] rfl ?_ | refine LetL.mk _ rfl ?_) | refine forceAs.pass ?_ | refine forceEs.pass ?_ | refine forceC.pass ?_))); (try (conv => whnf)))
      exact ⟨rfl, (), trivial, SW.mk rt3 rfl rfl (ttN _ _ _ _) ⟨.refl _, .refl _, VLe2.slm_of (by simp), trivial⟩ (haveV.one rfl (haveV.one rfl (haveV.row (pure_str _) rfl trivial)))⟩
  intro _ _
  have hne : L ++ (if c.kept then [bsB [107, 101, 112, 116]] else []) ≠ [] := by
    intro h
    have := congrArg List.length h
    rw [List.length_append, hLl] at this
    simp at this
  have hN : (L ++ (if c.kept then [bsB [107, 101, 112, 116]] else [])).length ≤ 1000 := by
    rw [List.length_append, hLl]
    cases c.kept <;> simp
  generalize (L ++ if c.kept then [bsB [107, 101, 112, 116]] else []) = N at hT hlen hne hN ⊢
  have hJ := Join_f N (bsB [32]) {} hne hN hlen
  rw [← hT] at hJ
  refine VS.of_V T_ok mixed rfl ?_
  generalize textP c = tx at hJ ⊢
  have n1 := pure_str N
  have m1 : N.length = (N.map str).length := (List.length_map _).symm
  clear hT hlen hne hN
  ((repeat ((conv => whnf); (first | (refine LetN.pre ?_; first | ((conv => arg 1; whnf); refine LetN.mk ?_)) | (refine As.pre ?_; first | refine As.mk rfl ?_ | (refine As.mk ?_ ?_; · decide +kernel) | refine As.mk (andT (nor_self _) rfl) ?_ | refine As.mk (andT (nor_self _) (or_t _)) ?_ | refine As.mk (andT (or_t _) (or_nself _)) ?_ | refine As.mk (andT (or_t _) (or_t _)) ?_ | refine As.mk (andT (nor_self _) (andT (nor_self _) rfl)) ?_ | (refine As.mk ?_ ?_; · ((repeat' (refine andT ?_ ?_)) <;> (first | rfl | assumption | exact decide_eq_true (by omega) | exact decide_eq_true (by dsimp only; omega) | exact decide_eq_true (by simp; omega) | (simp; done))))) | (refine LetV.pre ?_; first | refine LetV.mk (.sc (.int _ _)) rfl ?_ | refine LetV.mk (.sc (.bool _)) rfl ?_ | refine LetV.mk (.sc _) rfl ?_ | refine LetV.mk (.agg _) rfl ?_ | refine LetV.mk (.slm _ _ _ _ _) rfl ?_ | refine LetV.mk (.ro _ _ _) rfl ?_ | refine LetV.mk (.ptr _ _ _ _) rfl ?_ | refine LetV.mk (.clo _ _ _) rfl ?_ | refine LetV.mk (.rp _ _) rfl ?_) | (refine LetI.pre ?_; first | refine LetI.wrap (by omega) (by omega) ?_ | refine LetI.mk _ rfl ?_) | (refine LetB.pre ?_; first | refine LetB.tt rfl ?_ | refine LetB.ff rfl ?_ | refine LetB.tt (by assumption) ?_ | refine LetB.ff (by assumption) ?_ | refine LetB.dect (by omega) ?_ | refine LetB.decf (by omega) ?_ | refine LetB.beqt (by omega) ?_ | refine LetB.beqf (by omega) ?_ | refine LetB.bnet (by omega) ?_ | refine LetB.bnef (by omega) ?_ | refine LetB.mk _ rfl ?_) | (refine Gd.pre ?_; first | refine Gd.run rfl ?_ | refine Gd.pass rfl ?_ | refine Gd.run (by assumption) ?_ | refine Gd.pass (by assumption) ?_ | (refine Gd.run ?_ ?_; · decide +kernel) | (refine Gd.pass ?_ ?_; · decide +kernel) | refine Gd.both ?_) | (refine Br.pre ?_; first | refine Br.tt rfl ?_ | refine Br.ff rfl ?_ | refine Br.tt (by assumption) ?_ | refine Br.ff (by assumption) ?_ | (refine Br.tt ?_ ?_; · decide +kernel) | (refine Br.ff ?_ ?_; · decide +kernel)) | (refine Ck.pre ?_; first | refine Ck.drawn (by kernel_rfl) ?_ | refine Ck.mk rfl ?_) | (refine LetL.pre ?_; first | refine LetL.mk [_] rfl ?_ | refine LetL.mk _ rfl ?_) | (refine CallN.pre ?_; first | refine CallN.lend hJ rfl (.full rfl n1 m1 (.same rfl .nil)) ?_) | refine forceAs.pass ?_ | refine forceEs.pass ?_ | refine forceC.pass ?_))); (try (conv => whnf)))
  exact ⟨_, SW.refl, .inl rfl, ⟨_, rfl, rfl⟩, trivial⟩
end En
end Go.Proofs.YtgnakhljdjekbaaDoor
namespace Go.Proofs.YtgnakhljdjekbaaDoor
open Go.Proofs.YtgnakhljdjekbaaDoor.Am
set_option maxRecDepth 100000
namespace En
/-! ### Pieces that change places -/
abbrev ety : TypeId := 33
abbrev erow (l : List E) : AH := [(0, .row 15 ety (l.map en))]
abbrev swS (N a b n : Nat) (fl : Fl) : Nat × List E → AS
  | (i, l) => ⟨[(0, .slm fl 0 15 0 N), (1, int a), (2, int b), (3, int n), (10, int i)], erow l, 1⟩
theorem rowOkE (l l' : List E) (vs : List AV) (v : AV) (hv : AV.namesL (fun i => decide (i < 1)) vs = true) (hv2 : v.names (fun i => decide (i < 1) || [0].contains i) = true) (he : AV.renL id vs = vs) : CallOk 1 id vs (erow l) v (erow l') (erow l) vs :=
  CallOk.mk' rfl he.symm hv (namesAll.row (pure_en _) rfl) hv2 (namesAll.row (pure_en _) rfl) (haveAll.row (pure_en _) rfl trivial)
end En
end Go.Proofs.YtgnakhljdjekbaaDoor
namespace Go.Proofs.YtgnakhljdjekbaaDoor
open Go.Proofs.YtgnakhljdjekbaaDoor.Am
set_option maxRecDepth 100000
namespace En
/-! ### Two sorted pieces that are merged -/
theorem sorted_at {lt : E → E → Bool} {X : List E} (h : Sorted lt X) {i j : Nat} (hij : i < j) (hj : j < X.length) : lt (X.getD j e0) (X.getD i e0) = false := by
  rw [List.getD_eq_getElem?_getD, List.getD_eq_getElem?_getD, List.getElem?_eq_getElem hj, List.getElem?_eq_getElem (by omega)]
  exact List.pairwise_iff_getElem.1 h i j (by omega) hj hij
theorem sorted_le (o : Bool) {X : List E} (h : Sorted (ltE o) X) {i j : Nat} (hij : i ≤ j) (hj : j < X.length) : ltE o (X.getD j e0) (X.getD i e0) = false := by
  rcases Nat.lt_or_ge i j with h1 | h1
  · exact sorted_at h h1 hj
  · have : i = j := by omega
    subst this
    cases hx : ltE o (X.getD i e0) (X.getD i e0) with
    | false => rfl
    | true => rw [(ord_E o).asym _ _ hx] at hx; cases hx
theorem getD_app1 {A B : List E} {k : Nat} (h : k < A.length) : (A ++ B).getD k e0 = A.getD k e0 := by
  rw [List.getD_eq_getElem?_getD, List.getD_eq_getElem?_getD, List.getElem?_append_left h]
theorem getD_app2 {A B : List E} {k i : Nat} (h : k = A.length + i) : (A ++ B).getD k e0 = B.getD i e0 := by
  rw [List.getD_eq_getElem?_getD, List.getD_eq_getElem?_getD, List.getElem?_append_right (by omega), show k - A.length = i by omega]
theorem getD_mem' {l : List E} {k : Nat} (h : k < l.length) : l.getD k e0 ∈ l := by
  rw [List.getD_eq_getElem?_getD, List.getElem?_eq_getElem h]
  exact List.getElem_mem _
theorem mem_take_at {l : List E} {k : Nat} {x : E} (h : x ∈ l.take k) : ∃ i, i < k ∧ i < l.length ∧ x = l.getD i e0 := by
  obtain ⟨i, hi, rfl⟩ := List.mem_take_iff_getElem.1 h
  refine ⟨i, by omega, by omega, ?_⟩
  rw [List.getD_eq_getElem?_getD, List.getElem?_eq_getElem (by omega)]; rfl
theorem mem_drop_at {l : List E} {k : Nat} {x : E} (h : x ∈ l.drop k) : ∃ i, k ≤ i ∧ i < l.length ∧ x = l.getD i e0 := by
  obtain ⟨i, hi, rfl⟩ := List.mem_drop_iff_getElem.1 h
  refine ⟨k + i, by omega, by omega, ?_⟩
  rw [List.getD_eq_getElem?_getD, List.getElem?_eq_getElem (by omega)]; rfl
theorem half_1 {i j : Nat} (h : i + j ≤ 2000) : ((i + j : Nat) : Int) = IntKind.i64.wrap ((i : Int) + (j : Int)) := by rw [wrap_id (by omega) (by omega)]; omega
theorem u64_id {i : Nat} (h : i ≤ 4000) : (i : Int) = IntKind.u64.wrap (i : Int) := by
  show _ = (i : Int) % _
  rw [Int.emod_eq_of_lt (by omega) (by have : (i : Int) ≤ 4000 := by omega
                                       exact Int.lt_of_le_of_lt this (by decide))]
theorem half_2 (i : Nat) : ((i / 2 : Nat) : Int) = (i : Int).fdiv (2 ^ (min (1 : Int).toNat 64)) := by
  show _ = (i : Int).fdiv 2
  rw [Int.fdiv_eq_ediv_of_nonneg _ (by decide)]
  omega
theorem i64_id {i : Nat} (h : i ≤ 4000) : (i : Int) = IntKind.i64.wrap (i : Int) := (wrap_id (by omega) (by omega)).symm
abbrev goRS (N q : Nat) (fl : Fl) : Nat × List E → AS
  | (k, l) => ⟨[(0, .slm fl 0 15 0 N), (10, int q), (13, int k)], erow l, 1⟩
abbrev goLS (N q : Nat) (fl : Fl) : Nat × List E → AS
  | (k, l) => ⟨[(0, .slm fl 0 15 0 N), (14, int q), (17, int k)], erow l, 1⟩
end En
end Go.Proofs.YtgnakhljdjekbaaDoor
namespace Go.Proofs.YtgnakhljdjekbaaDoor
open Go.Proofs.YtgnakhljdjekbaaDoor.Am
set_option maxRecDepth 100000
namespace En
/-- What the search finds. -/
theorem merge_plan (o : Bool) {X Y : List E} (hX : Sorted (ltE o) X) (hY : Sorted (ltE o) Y) {q e lo hi : Nat} (hq : q ≤ X.length) (he : e ≤ Y.length)
    (h1 : q < X.length → 0 < e → ltE o (Y.getD (e - 1) e0) (X.getD q e0) = true) (h2 : 0 < q → e < Y.length → ltE o (Y.getD e e0) (X.getD (q - 1) e0) = false) :
    sortS (ltE o) (X ++ Y) = sortS (ltE o) (X.take q ++ Y.take e) ++ sortS (ltE o) (X.drop q ++ Y.drop e) := by
  have eX : X = X.take q ++ X.drop q := (List.take_append_drop _ _).symm
  have eY : Y = Y.take e ++ Y.drop e := (List.take_append_drop _ _).symm
  have := S_split (lt := ltE o) (X1 := X.take q) (X2 := X.drop q) (Y1 := Y.take e) (Y2 := Y.drop e) (by rw [← eX]; exact hX) (fun y hy x hx => ?_) (fun y hy x hx => ?_) (fun y hy x hx => ?_)
  · rw [← eX, ← eY] at this; exact this
  · obtain ⟨i, i1, i2, rfl⟩ := mem_take_at hy
    obtain ⟨j, j1, j2, rfl⟩ := mem_drop_at hx
    have k := h1 (by omega) (by omega)
    have a1 := sorted_le o hX j1 j2
    have a2 := sorted_le o hY (show i ≤ e - 1 by omega) (by omega)
    cases hc : ltE o (Y.getD i e0) (X.getD j e0) with
    | true => rfl
    | false => rw [(ord_E o).trans _ _ _ a2 ((ord_E o).trans _ _ _ hc a1)] at k; cases k
  · obtain ⟨i, i1, i2, rfl⟩ := mem_drop_at hy
    obtain ⟨j, j1, j2, rfl⟩ := mem_take_at hx
    have k := h2 (by omega) (by omega)
    have a1 := sorted_le o hX (show j ≤ q - 1 by omega) (by omega)
    have a2 := sorted_le o hY i1 i2
    exact (ord_E o).trans _ _ _ a2 ((ord_E o).trans _ _ _ k a1)
  · obtain ⟨i, i1, i2, rfl⟩ := mem_drop_at hy
    obtain ⟨j, j1, j2, rfl⟩ := mem_take_at hx
    exact sorted_le o hY (show j ≤ i by omega) i2
theorem sorted_take {lt : E → E → Bool} {X : List E} (h : Sorted lt X) (k : Nat) : Sorted lt (X.take k) := List.Pairwise.sublist (List.take_sublist _ _) h
theorem sorted_drop {lt : E → E → Bool} {X : List E} (h : Sorted lt X) (k : Nat) : Sorted lt (X.drop k) := List.Pairwise.sublist (List.drop_sublist _ _) h
end En
end Go.Proofs.YtgnakhljdjekbaaDoor
namespace Go.Proofs.YtgnakhljdjekbaaDoor
open Go.Proofs.YtgnakhljdjekbaaDoor.Am
set_option maxRecDepth 100000
namespace En
/-! ### A piece that is sorted by insertion -/
theorem mid_get {P L Q : List E} {j k : Nat} (hk : k = P.length + j) (hj : j < L.length) : (P ++ L ++ Q).getD k e0 = L.getD j e0 := by
  rw [List.append_assoc, getD_app2 hk, getD_app1 hj]
theorem mid_set {P L Q : List E} {j k : Nat} (hk : k = P.length + j) (hj : j < L.length) (x : E) : (P ++ L ++ Q).set k x = P ++ L.set j x ++ Q := by
  rw [List.append_assoc, List.set_append_right _ _ (by omega), show k - P.length = j by omega, List.set_append_left _ _ hj, List.append_assoc]
end En
end Go.Proofs.YtgnakhljdjekbaaDoor
namespace Go.Proofs.YtgnakhljdjekbaaDoor
open Go.Proofs.YtgnakhljdjekbaaDoor.Am
set_option maxRecDepth 100000
namespace En
/-! ### The stable sort of a list of less than 40 entries -/
def eqv {α : Type} (lt : α → α → Bool) (a x : α) : Bool := !lt a x && !lt x a
theorem eq_cls {α : Type} {lt : α → α → Bool} (ho : Ord lt) : ∀ (X Y : List α), Sorted lt X → Sorted lt Y → (∀ a, X.filter (eqv lt a) = Y.filter (eqv lt a)) → X = Y := by
  have irr : ∀ x, eqv lt x x = true := fun x => by
    have : lt x x = false := by
      cases h : lt x x with
      | false => rfl
      | true => have := ho.asym _ _ h; rw [h] at this; cases this
    simp [eqv, this]
  intro X
  induction X with
  | nil =>
    intro Y _ _ h
    cases Y with
    | nil => rfl
    | cons y Y => have := h y; rw [List.filter_cons, irr] at this; simp at this
  | cons x X ih =>
    intro Y hX hY h
    cases Y with
    | nil => have := h x; rw [List.filter_cons, irr] at this; simp at this
    | cons y Y =>
      obtain ⟨hX1, hX2⟩ := List.pairwise_cons.1 hX
      obtain ⟨hY1, hY2⟩ := List.pairwise_cons.1 hY
      have mx : x ∈ y :: Y := by
        have : x ∈ (x :: X).filter (eqv lt x) := List.mem_filter.2 ⟨List.mem_cons_self .., irr x⟩
        rw [h x] at this
        exact (List.mem_filter.1 this).1
      have my : y ∈ x :: X := by
        have : y ∈ (y :: Y).filter (eqv lt y) := List.mem_filter.2 ⟨List.mem_cons_self .., irr y⟩
        rw [← h y] at this
        exact (List.mem_filter.1 this).1
      have hxy : x = y := by
        rcases List.mem_cons.1 mx with k | k
        · exact k
        rcases List.mem_cons.1 my with k' | k'
        · exact k'.symm
        have h1 := hY1 x k
        have h2 := hX1 y k'
        have h0 := h x
        rw [List.filter_cons, List.filter_cons, irr, show eqv lt x y = true by simp [eqv, h1, h2]] at h0
        simp only [if_true, List.cons.injEq] at h0
        exact h0.1
      subst hxy
      congr 1
      refine ih Y hX2 hY2 fun a => ?_
      have h1 := h a
      rw [List.filter_cons, List.filter_cons] at h1
      split at h1
      · exact (List.cons.inj h1).2
      · exact h1
theorem S_cls {α : Type} {lt : α → α → Bool} (ho : Ord lt) (a : α) (l : List α) : sortS lt (l.filter (eqv lt a)) = l.filter (eqv lt a) := by
  have key : ∀ m : List α, (∀ x ∈ m, eqv lt a x = true) → Sorted lt m := by
    intro m
    induction m with
    | nil => intro _; exact List.Pairwise.nil
    | cons x m ih =>
      intro h
      refine List.pairwise_cons.2 ⟨fun y hy => ?_, ih fun y hy => h y (List.mem_cons_of_mem _ hy)⟩
      have h1 := h x (List.mem_cons_self ..)
      have h2 := h y (List.mem_cons_of_mem _ hy)
      simp only [eqv, Bool.and_eq_true, Bool.not_eq_true'] at h1 h2
      exact ho.trans _ _ _ h2.2 h1.1
  exact S_id (key _ fun x hx => (List.mem_filter.1 hx).2)
theorem S_two {α : Type} {lt : α → α → Bool} (ho : Ord lt) (A B : List α) : sortS lt (sortS lt A ++ sortS lt B) = sortS lt (A ++ B) := by
  refine eq_cls ho _ _ (S_sorted ho _) (S_sorted ho _) fun a => ?_
  rw [S_filter ho, S_filter ho, List.filter_append, List.filter_append, S_filter ho, S_filter ho, S_cls ho, S_cls ho, ← List.filter_append, S_cls ho]
theorem rowOk1 (l l' : List E) (vs : List AV) (v : AV) (hv : AV.namesL (fun i => decide (i < 1)) vs = true) (hv2 : v.names (fun i => decide (i < 1) || [0].contains i) = true) (he : AV.renL id vs = vs) : CallOk 1 id vs [(0, .row 15 ety (l.map en))] v [(0, .row 15 ety (l'.map en))] [(0, .row 15 ety (l.map en))] vs :=
  CallOk.mk' rfl he.symm hv (namesAll.row (pure_en _) rfl) hv2 (namesAll.row (pure_en _) rfl) (haveAll.row (pure_en _) rfl trivial)
end En
end Go.Proofs.YtgnakhljdjekbaaDoor
namespace Go.Proofs.YtgnakhljdjekbaaDoor
open Go.Proofs.YtgnakhljdjekbaaDoor.Am
set_option maxRecDepth 100000
namespace En
theorem oks1 {a : Cd} (h : a.Ok) : ∀ c ∈ [a], c.Ok := by simpa using h
theorem oks2 {a b : Cd} (h : a.Ok) (k : b.Ok) : ∀ c ∈ [a, b], c.Ok := by
  intro c hc
  simp at hc
  rcases hc with rfl | rfl <;> assumption
theorem oks3 {a b d : Cd} (h : a.Ok) (k : b.Ok) (l : d.Ok) : ∀ c ∈ [a, b, d], c.Ok := by
  intro c hc
  simp at hc
  rcases hc with rfl | rfl | rfl <;> assumption
/-- A finding is lifted. -/
def liftedP (l : List E) (f a o : Int) : Bool := l.any fun e => decide (e.kind = 6) && decide (e.ref = f) && decide (e.day ≤ a ∧ e.on_ ≤ o)
abbrev knownP (l : List E) (a : Int) : List E := l.filter fun e => decide (e.day ≤ a)
/-- An award is not ended. -/
def endedP (l : List E) (e : E) : Bool := !(l.any fun x => decide (x.kind = 9) && decide (x.ref = e.id))
/-- A choice. -/
structure Ch where
  pr : Int
  ver : Int
  beg : Int
  on_ : Int
abbrev chA (c : Ch) : AV := .agg [int c.pr, int c.ver, int c.beg, int c.on_]
theorem pure_ch : ∀ l : List Ch, AV.namesL (fun _ => false) (l.map chA) = true
  | [] => rfl
  | p :: l => by simp only [List.map_cons, AV.namesL, pure_ch l]; rfl
theorem plain_ch : ∀ l : List Ch, AV.plainL (l.map chA) = true
  | [] => rfl
  | p :: l => by simp only [List.map_cons, AV.plainL, plain_ch l]; rfl
theorem app_ch (l : List Ch) (e : Ch) (n : Nat) (h : n = l.length) : (l ++ [e]).map chA = (l.map chA).take n ++ [chA e] := by rw [List.take_of_length_le (by simp [h]), List.map_append]; rfl
theorem take_map_succ {α β : Type} (g : α → β) {l : List α} {k : Nat} (h : k < l.length) (d : α) : (l.take (k + 1)).map g = (l.take k).map g ++ [g (l.getD k d)] := by
  rw [List.take_succ_eq_append_getElem h, List.map_append, List.getD_eq_getElem?_getD, List.getElem?_eq_getElem h]; rfl
theorem room_ch {n : Nat} (h : n ≤ 1000000) : room n 32 = true := by
  simp only [room, Bool.and_eq_true, decide_eq_true_eq]
  exact ⟨by omega, rfl⟩
abbrev enrolV (x : Int × List Ch × Bool) : AV := .tup [int x.1, .ro {} 4 (x.2.1.map chA), bool x.2.2]
end En
end Go.Proofs.YtgnakhljdjekbaaDoor
namespace Go.Proofs.YtgnakhljdjekbaaDoor
open Go.Proofs.YtgnakhljdjekbaaDoor.Am
set_option maxRecDepth 100000
namespace En
/-- A standing. -/
structure St where
  entry : Int
  by_ : Int
  grade : Int
  void : Bool
abbrev stA (s : St) : AV := .agg [int s.entry, int s.by_, int s.grade, bool s.void]
theorem pure_st : ∀ l : List St, AV.namesL (fun _ => false) (l.map stA) = true
  | [] => rfl
  | p :: l => by simp only [List.map_cons, AV.namesL, pure_st l]; rfl
theorem plain_st : ∀ l : List St, AV.plainL (l.map stA) = true
  | [] => rfl
  | p :: l => by simp only [List.map_cons, AV.plainL, plain_st l]; rfl
theorem app_st (l : List St) (e : St) (n : Nat) (h : n = l.length) : (l ++ [e]).map stA = (l.map stA).take n ++ [stA e] := by rw [List.take_of_length_le (by simp [h]), List.map_append]; rfl
theorem room_st {n : Nat} (h : n ≤ 1000000) : room n 32 = true := by
  simp only [room, Bool.and_eq_true, decide_eq_true_eq]
  exact ⟨by omega, rfl⟩
/-- The latest correction: by which entry, its grade, its day, whether there is one. -/
def stepC (x : Int × Int × Int × Bool) (c : E) : Int × Int × Int × Bool := if x.2.2.2 = false ∨ x.2.2.1 < c.day ∨ (c.day = x.2.2.1 ∧ x.1 < c.id) then (c.id, c.grade, c.day, true) else x
theorem foldl_drop {α β : Type} (f : β → α → β) {l : List α} {k : Nat} (h : k < l.length) (d : α) (x : β) : (l.drop k).foldl f x = (l.drop (k + 1)).foldl f (f x (l.getD k d)) := by
  rw [List.drop_eq_getElem_cons h, List.foldl_cons, List.getD_eq_getElem?_getD, List.getElem?_eq_getElem h]; rfl
theorem any_drop {α : Type} (f : α → Bool) {l : List α} {k : Nat} (h : k < l.length) (d : α) : (l.drop k).any f = (f (l.getD k d) || (l.drop (k + 1)).any f) := by
  rw [List.drop_eq_getElem_cons h, List.any_cons, List.getD_eq_getElem?_getD, List.getElem?_eq_getElem h]; rfl
end En
end Go.Proofs.YtgnakhljdjekbaaDoor
namespace Go.Proofs.YtgnakhljdjekbaaDoor
open Go.Proofs.YtgnakhljdjekbaaDoor.Am
set_option maxRecDepth 100000
namespace En
/-- Where an element is put in: behind the last one that isn't greater. -/
def posB {α : Type} (gt : α → Bool) (d : α) (out : List α) : Nat → Nat
  | 0 => 0
  | k + 1 => if gt (out.getD k d) then posB gt d out k else k + 1
theorem posB_le {α : Type} (gt : α → Bool) (d : α) (out : List α) : ∀ k, posB gt d out k ≤ k
  | 0 => Nat.le_refl _
  | k + 1 => by
    unfold posB
    split
    · have := posB_le gt d out k; omega
    · exact Nat.le_refl _
def putB {α : Type} (gt : α → Bool) (d : α) (out : List α) (e : α) : List α := out.take (posB gt d out out.length) ++ e :: out.drop (posB gt d out out.length)
def insId (out : List E) (e : E) : List E := putB (fun x => decide (e.id < x.id)) e0 out e
theorem insId_length (out : List E) (e : E) : (insId out e).length = out.length + 1 := by
  have := posB_le (fun x => decide (e.id < x.id)) e0 out out.length
  simp only [insId, putB, List.length_append, List.length_take, List.length_cons, List.length_drop]
  omega
def cntQ (kd a o : Int) (e : E) : Bool := decide (e.kind = kd ∧ e.day ≤ a ∧ e.on_ ≤ o)
/-- The entries of a kind that count, in the order of their Ids. -/
def countP (l : List E) (kd a o : Int) : List E := (l.filter (cntQ kd a o)).foldl insId []
theorem foldl_ins_length {α : Type} (f : List α → α → List α) (h : ∀ out e, (f out e).length = out.length + 1) : ∀ (l out : List α), (l.foldl f out).length = out.length + l.length
  | [], out => rfl
  | x :: l, out => by rw [List.foldl_cons, foldl_ins_length f h l, h]; simp; omega
theorem countP_length (l : List E) (kd a o : Int) : (countP l kd a o).length ≤ l.length := by
  rw [countP, foldl_ins_length insId insId_length]
  simpa using List.length_filter_le (cntQ kd a o) l
theorem foldl_filter_drop {α β : Type} (q : α → Bool) (f : β → α → β) {l : List α} {k : Nat} (h : k < l.length) (d : α) (x : β) : ((l.drop k).filter q).foldl f x = if q (l.getD k d) then ((l.drop (k + 1)).filter q).foldl f (f x (l.getD k d)) else ((l.drop (k + 1)).filter q).foldl f x := by
  rw [List.drop_eq_getElem_cons h, List.getD_eq_getElem?_getD, List.getElem?_eq_getElem h]
  simp only [Option.getD_some, List.filter_cons]
  split <;> rfl
theorem getD_id {l : List E} {k : Nat} (h : k < l.length) : int (l.getD k e0).id = Am.part false 1 0 15 ((l.map en).getD (0 + k) (.sc undef)) := by
  rw [Nat.zero_add, List.getD_eq_getElem?_getD, List.getD_eq_getElem?_getD, List.getElem?_map, List.getElem?_eq_getElem h]; rfl
theorem copy_row (out : List E) (p x y z w : Nat) (hx : x = p + 1) (hw : w = p) (hy : y = out.length - p) (hz : z = out.length + 1 - p) (hp : p ≤ out.length) :
    ((out ++ [e0]).take (p + 1) ++ out.drop p).map en = splice ((out ++ [e0]).map en) x (((((out ++ [e0]).map en).drop w).take z).take y) := by
  subst hx hw hy hz
  have hM : ((((out ++ [e0]).map en).drop w).take (out.length + 1 - w)).take (out.length - w) = (out.drop w).map en := by
    rw [List.take_take, Nat.min_eq_left (by omega), ← List.map_drop, ← List.map_take, List.drop_append_of_le_length hp, List.take_append_of_le_length (by simp), List.take_of_length_le (by simp)]
  rw [hM]
  unfold splice
  rw [List.drop_eq_nil_of_le (i := w + 1 + _) (by simp; omega), List.append_nil, List.map_append, List.map_take]
theorem set_row (out : List E) (p : Nat) (e : E) (hp : p ≤ out.length) : (out.take p ++ e :: out.drop p).map en = (((out ++ [e0]).take (p + 1) ++ out.drop p).map en).set (0 + p) (en e) := by
  rw [Nat.zero_add, ← List.map_set]
  congr 1
  have hlt : p < (out ++ [e0]).length := by simp; omega
  rw [List.take_succ_eq_append_getElem hlt, List.append_assoc, List.take_append_of_le_length hp, List.set_append_right _ _ (by simp; omega), List.length_take, Nat.min_eq_left hp, Nat.sub_self]
  rfl
abbrev couS (l : List E) (fl : Fl) (kd a o : Int) : Nat × List E → AS
  | (k, out) => ⟨[(0, .ro fl 15 (l.map en)), (1, int kd), (2, int a), (3, int o), (9, .slm {} 0 15 0 out.length), (10, int k)], [(0, .row 15 ety (out.map en))], 1⟩
abbrev couI (l : List E) (fl : Fl) (kd a o : Int) (k : Nat) (out : List E) (e : E) : Nat → AS
  | at_ => ⟨[(0, .ro fl 15 (l.map en)), (1, int kd), (2, int a), (3, int o), (9, .slm {} 0 15 0 out.length), (10, int k), (11, .ptr 1 15 0 0), (12, int at_)], [(0, .row 15 ety (out.map en)), (1, .row 15 ety [en e])], 2⟩
end En
end Go.Proofs.YtgnakhljdjekbaaDoor
namespace Go.Proofs.YtgnakhljdjekbaaDoor
open Go.Proofs.YtgnakhljdjekbaaDoor.Am
set_option maxRecDepth 100000
namespace En
/-! ### Lifted -/
def rLiftedP (l : List E) (f a o : Int) : Bool := (countP l 6 a o).any fun e => decide (e.ref = f)
/-! ### Known -/
abbrev rknS (l : List E) (fl : Fl) (a : Int) : Nat × List E → AS
  | (k, out) => ⟨[(0, .ro fl 15 (l.map en)), (1, int a), (5, .slm {} 0 15 0 out.length), (6, int k)], [(0, .row 15 ety (out.map en))], 1⟩
/-! ### Awards -/
def rAwardsP (l : List E) (a o : Int) : List E := (countP l 8 a o).filter fun e => !((countP l 9 a o).any fun x => decide (x.ref = e.id))
abbrev rawS (A B : List E) : Nat × List E → AS
  | (k, out) => ⟨[(7, .ro {} 15 (A.map en)), (8, .ro {} 15 (B.map en)), (9, .slm {} 0 15 0 out.length), (10, int k)], [(0, .row 15 ety (out.map en))], 1⟩
abbrev rawI (A B : List E) (k : Nat) (out : List E) : Nat × Bool → AS
  | (i, v) => ⟨[(7, .ro {} 15 (A.map en)), (8, .ro {} 15 (B.map en)), (9, .slm {} 0 15 0 out.length), (10, int k), (11, bool v), (12, int i)], [(0, .row 15 ety (out.map en))], 1⟩
end En
end Go.Proofs.YtgnakhljdjekbaaDoor
namespace Go.Proofs.YtgnakhljdjekbaaDoor
open Go.Proofs.YtgnakhljdjekbaaDoor.Am
set_option maxRecDepth 100000
namespace En
def stepR (g : E) (x : Int × Int × Int × Bool) (c : E) : Int × Int × Int × Bool := if c.ref = g.id then stepC x c else x
def rstand (l C F : List E) (a o : Int) (g : E) : St := ⟨g.id, (C.foldl (stepR g) (0, g.grade, 0, false)).1, (C.foldl (stepR g) (0, g.grade, 0, false)).2.1, F.any fun f => decide (f.ref = g.id) && !rLiftedP l f.id a o⟩
def rAtP (l : List E) (a o : Int) : List St := (countP l 3 a o).map (rstand l (countP l 4 a o) (countP l 5 a o) a o)
end En
end Go.Proofs.YtgnakhljdjekbaaDoor
namespace Go.Proofs.YtgnakhljdjekbaaDoor
open Go.Proofs.YtgnakhljdjekbaaDoor.Am
set_option maxRecDepth 100000
namespace En
theorem copyG {α : Type} (f : α → AV) (d : α) (out : List α) (p x y z w : Nat) (hx : x = p + 1) (hw : w = p) (hy : y = out.length - p) (hz : z = out.length + 1 - p) (hp : p ≤ out.length) :
    ((out ++ [d]).take (p + 1) ++ out.drop p).map f = splice ((out ++ [d]).map f) x (((((out ++ [d]).map f).drop w).take z).take y) := by
  subst hx hw hy hz
  have hM : ((((out ++ [d]).map f).drop w).take (out.length + 1 - w)).take (out.length - w) = (out.drop w).map f := by
    rw [List.take_take, Nat.min_eq_left (by omega), ← List.map_drop, ← List.map_take, List.drop_append_of_le_length hp, List.take_append_of_le_length (by simp), List.take_of_length_le (by simp)]
  rw [hM]
  unfold splice
  rw [List.drop_eq_nil_of_le (i := w + 1 + _) (by simp; omega), List.append_nil, List.map_append, List.map_take]
theorem setG {α : Type} (f : α → AV) (d : α) (out : List α) (p : Nat) (e : α) (hp : p ≤ out.length) : (out.take p ++ e :: out.drop p).map f = (((out ++ [d]).take (p + 1) ++ out.drop p).map f).set (0 + p) (f e) := by
  rw [Nat.zero_add, ← List.map_set]
  congr 1
  have hlt : p < (out ++ [d]).length := by simp; omega
  rw [List.take_succ_eq_append_getElem hlt, List.append_assoc, List.take_append_of_le_length hp, List.set_append_right _ _ (by simp; omega), List.length_take, Nat.min_eq_left hp, Nat.sub_self]
  rfl
def c0 : Ch := ⟨0, 0, 0, 0⟩
theorem getD_on {l : List Ch} {k : Nat} (h : k < l.length) : int (l.getD k c0).on_ = Am.part false 1 3 4 ((l.map chA).getD (0 + k) (.sc undef)) := by
  rw [Nat.zero_add, List.getD_eq_getElem?_getD, List.getD_eq_getElem?_getD, List.getElem?_map, List.getElem?_eq_getElem h]; rfl
theorem stor_ch (l : List Ch) (i j : Nat) : storables (((l.map chA).drop i).take j) = true := by
  refine List.all_eq_true.2 fun e he => ?_
  obtain ⟨p, _, rfl⟩ := List.mem_map.1 (List.mem_of_mem_drop (List.mem_of_mem_take he))
  rfl
def insCh (out : List Ch) (c : Ch) : List Ch := putB (fun x => decide (c.on_ < x.on_)) c0 out c
theorem insCh_length (out : List Ch) (c : Ch) : (insCh out c).length = out.length + 1 := by
  have := posB_le (fun x => decide (c.on_ < x.on_)) c0 out out.length
  simp only [insCh, putB, List.length_append, List.length_take, List.length_cons, List.length_drop]
  omega
def enQ (st pr : Int) (e : E) : Bool := decide (e.student = st ∧ e.programme = pr)
/-- The earliest enrolment. -/
def stepB (st pr : Int) (x : Int × Bool) (e : E) : Int × Bool := if (e.student = st ∧ e.programme = pr) ∧ (x.2 = false ∨ e.on_ < x.1) then (e.on_, true) else x
def rBegin (l : List E) (st pr a o : Int) : Int × Bool := (countP l 1 a o).foldl (stepB st pr) (0, false)
def rChoices (l : List E) (st pr b a o : Int) : List Ch := ((countP l 2 a o).filter (enQ st pr)).foldl (fun out e => insCh out ⟨pr, e.version, b, e.on_⟩) []
def rEnrolP (l : List E) (st pr a o : Int) : Int × List Ch × Bool := if (rBegin l st pr a o).2 then ((rBegin l st pr a o).1, rChoices l st pr (rBegin l st pr a o).1 a o, true) else (0, [], false)
abbrev renS (l A : List E) (fl : Fl) (st pr a o : Int) : Nat × Int × Bool → AS
  | (k, b, s) => ⟨[(0, .ro fl 15 (l.map en)), (1, int st), (2, int pr), (3, int a), (4, int o), (13, .ro {} 15 (A.map en)), (14, int b), (15, bool s), (16, int k)], [], 0⟩
end En
end Go.Proofs.YtgnakhljdjekbaaDoor
namespace Go.Proofs.YtgnakhljdjekbaaDoor
open Go.Proofs.YtgnakhljdjekbaaDoor.Am
set_option maxRecDepth 100000
namespace En
/-- What == says of two entries. -/
def enB (a b : E) : Bool := (a.id == b.id) && ((a.school == b.school) && ((a.student == b.student) && ((a.kind == b.kind) && ((a.day == b.day) && ((a.on_ == b.on_) && ((a.course.toList == b.course.toList) && ((a.credits == b.credits) && ((a.grade == b.grade) && ((a.ref == b.ref) && ((a.frm == b.frm) && ((a.programme == b.programme) && ((a.version == b.version) && ((a.key == b.key) && ((a.mark.toList == b.mark.toList) && true))))))))))))))
def stB (a b : St) : Bool := (a.entry == b.entry) && ((a.by_ == b.by_) && ((a.grade == b.grade) && ((a.void == b.void) && true)))
def chB (a b : Ch) : Bool := (a.pr == b.pr) && ((a.ver == b.ver) && ((a.beg == b.beg) && ((a.on_ == b.on_) && true)))
theorem enB_self (a : E) : enB a a = true := by simp [enB]
theorem stB_self (a : St) : stB a a = true := by simp [stB]
theorem chB_self (a : Ch) : chB a a = true := by simp [chB]
def s0 : St := ⟨0, 0, 0, false⟩
end En
end Go.Proofs.YtgnakhljdjekbaaDoor
namespace Go.Proofs.YtgnakhljdjekbaaDoor
open Go.Proofs.YtgnakhljdjekbaaDoor.Am
set_option maxRecDepth 100000
namespace En
/-- A rune that no code has. -/
def wrongR (c : Nat) : Bool := decide ((c < 65 ∨ 90 < c) ∧ (c < 48 ∨ 57 < c))
theorem wrong_calls (w : World) : Go.Proofs.PredAt Tryd.prog 69 #[] Go.Proofs.encR wrongR w := by
  intro W x _
  show Calls Tryd.prog 69 #[.int .i32 (x : Int)] W _
  unfold wrongR
  go_enter Tryd.func69, Tryd.ntmps69
  go_wp2
  all_goals
    go_ret
    refine ⟨?_, 0, rfl⟩
  all_goals
    refine congrArg (fun b => Ending.returned (.bool b)) (Bool.eq_iff_iff.2 ?_)
    simp only [Bool.and_eq_true, Bool.or_eq_true, decide_eq_true_eq, Bool.false_eq_true, false_iff, true_iff]
    try omega
def lays : Go.Shelf.Ren := ⟨fun n => match n with | 315 => 88 | n => n, fun t => match t with | 0 => 0 | 3 => 3 | 4 => 4 | 9 => 9 | 21 => 21 | 40 => 113 | t => t, fun g => g⟩
theorem lays_ok : Go.Proofs.Lays.n315 Tryd.prog lays where
  mixed := mixed
  f315 := by kernel_rfl
  t0 := by kernel_rfl
  a0 := fun w => TT.Ok.isAgg T_ok (t := 0) rfl w
  z0 := fun w => TT.Ok.sizeOf T_ok (t := 0) rfl w
  v0 := fun w => TT.Ok.zero T_ok (t := 0) rfl w
  t3 := by kernel_rfl
  a3 := fun w => TT.Ok.isAgg T_ok (t := 3) rfl w
  z3 := fun w => TT.Ok.sizeOf T_ok (t := 3) rfl w
  v3 := fun w => TT.Ok.zero T_ok (t := 3) rfl w
  t4 := by kernel_rfl
  a4 := fun w => TT.Ok.isAgg T_ok (t := 4) rfl w
  z4 := fun w => TT.Ok.sizeOf T_ok (t := 4) rfl w
  v4 := fun w => TT.Ok.zero T_ok (t := 4) rfl w
  t9 := by kernel_rfl
  a9 := fun w => TT.Ok.isAgg T_ok (t := 9) rfl w
  z9 := fun w => TT.Ok.sizeOf T_ok (t := 9) rfl w
  v9 := fun w => TT.Ok.zero T_ok (t := 9) rfl w
  t21 := by kernel_rfl
  a21 := fun w => TT.Ok.isAgg T_ok (t := 21) rfl w
  z21 := fun w => TT.Ok.sizeOf T_ok (t := 21) rfl w
  v21 := fun w => TT.Ok.zero T_ok (t := 21) rfl w
  t40 := by kernel_rfl
  a40 := fun w => TT.Ok.isAgg T_ok (t := 113) rfl w
  z40 := fun w => TT.Ok.sizeOf T_ok (t := 113) rfl w
  v40 := fun w => TT.Ok.zero T_ok (t := 113) rfl w
theorem indexFunc_f (s : ByteArray) : AFun Tryd.prog 88 0 [str s, .clo 69 [], bool true] [] (int (Go.Lib.idxFunc wrongR true s)) [] := by
  intro w g xs hl hx hH _
  obtain ⟨a, b, c, rfl⟩ : ∃ a b c, xs = #[a, b, c] := by
    rcases xs with ⟨l⟩
    rcases l with _ | ⟨a, _ | ⟨b, _ | ⟨c, _ | ⟨d, l⟩⟩⟩⟩
    all_goals simp at hl
    exact ⟨a, b, c, rfl⟩
  have h0 := (hx 0 _ a rfl rfl).sc_inv
  have h1 := hx 1 _ b rfl rfl
  have h2 := (hx 2 _ c rfl rfl).sc_inv
  subst h0 h2
  cases h1 with
  | clo hk hc hv =>
    rename_i fs xs
    have e1 : fs = #[] := Array.eq_empty_of_size_eq_zero hk
    subst e1
    simp at hc
    have e2 : xs = #[] := Array.eq_empty_of_size_eq_zero hc.symm
    subst e2
    have := Go.Proofs.Any.strings_indexFunc lays_ok 69 #[] (fun args w => callFunc_run (by kernel_rfl) args w) wrongR true s w (wrong_calls w)
    refine this.mono fun e w' ⟨he, hb⟩ => ⟨_, g, he, ?_, .sc _ rfl, ?_⟩
    · exact ⟨fun _ _ => rfl, fun b h => ⟨h, hb.block b (hH.lt b h)⟩, fun b cs ty fz h => ⟨cs, (hb.block b (heap_lt h)).trans h, rfl⟩, ⟨hb.os, hb.tape, hb.output, hb.size, fun b hlt _ => hb.block b hlt⟩, fun id B b E h => (by cases h), fun b h _ => .inl h⟩
    · exact ⟨fun id B h => (by cases h), fun i j b E E' A B h => (by cases h), fun i b E B h => (by cases h), fun b h => Nat.lt_of_lt_of_le (hH.lt b h) hb.size, hH.gl.mono fun b h => ⟨h, hb.block b (hH.lt b h)⟩⟩
end En
end Go.Proofs.YtgnakhljdjekbaaDoor
namespace Go.Proofs.YtgnakhljdjekbaaDoor
open Go.Proofs.YtgnakhljdjekbaaDoor.Am
set_option maxRecDepth 100000
namespace En
theorem decode_low {s : ByteArray} {i : Nat} (h : (s.get! i).toNat < 128) : Utf8.decode s i = ((s.get! i).toNat, 1) := by
  unfold Utf8.decode
  simp only [Nat.add_zero]
  rw [if_pos h]
theorem decode_high {s : ByteArray} {i : Nat} (h : 128 ≤ (s.get! i).toNat) : 128 ≤ (Utf8.decode s i).1 := by
  unfold Utf8.decode
  simp only [Nat.add_zero]
  rw [if_neg (by omega)]
  split
  · split
    · assumption
    · decide
  · split
    · split
      · rename_i h1
        simp only [Bool.and_eq_true, decide_eq_true_eq] at h1
        exact Nat.le_trans (by omega) h1.1
      · decide
    · split
      · split
        · rename_i h1
          simp only [Bool.and_eq_true, decide_eq_true_eq] at h1
          exact Nat.le_trans (by omega) h1.1
        · decide
      · decide
theorem wrong_high {c : Nat} (h : 128 ≤ c) : wrongR c = true := by
  unfold wrongR
  rw [decide_eq_true_eq]; omega
theorem idx_code (s : ByteArray) : ∀ (f pos : Nat), s.size ≤ pos + f → (Go.Lib.idxFuncFrom wrongR true s f pos < 0 ↔ ∀ i, pos ≤ i → i < s.size → wrongR (s.get! i).toNat = false)
  | 0, pos, h => by
    simp only [Go.Lib.idxFuncFrom]
    exact ⟨fun _ i h1 h2 => by omega, fun _ => by omega⟩
  | f + 1, pos, h => by
    unfold Go.Lib.idxFuncFrom
    split
    · rename_i hp
      by_cases hw : wrongR (s.get! pos).toNat = true
      · have : wrongR (Utf8.decode s pos).1 = true := by
          by_cases hl : (s.get! pos).toNat < 128
          · rw [decode_low hl]; exact hw
          · exact wrong_high (decode_high (by omega))
        rw [if_pos this]
        refine ⟨fun h => by omega, fun h => ?_⟩
        have := h pos (Nat.le_refl _) hp
        rw [hw] at this; cases this
      · have hl : (s.get! pos).toNat < 128 := by
          rcases Nat.lt_or_ge (s.get! pos).toNat 128 with h | h
          · exact h
          · exact absurd (wrong_high h) hw
        rw [decode_low hl]
        simp only
        rw [if_neg hw, idx_code s f (pos + 1) (by omega)]
        refine ⟨fun h i h1 h2 => ?_, fun h i h1 h2 => h i (by omega) h2⟩
        by_cases hi : i = pos
        · subst hi; simpa using hw
        · exact h i (by omega) h2
    · exact ⟨fun _ i h1 h2 => by omega, fun _ => by omega⟩
/-- The byte at i. -/
abbrev byt (s : ByteArray) (i : Nat) : Nat := (s.data.toList.getD i 0).toNat
theorem byt_eq (s : ByteArray) (i : Nat) : (s.get! i).toNat = byt s i := by
  obtain ⟨d⟩ := s
  show (d[i]!).toNat = (d.toList.getD i 0).toNat
  rw [List.getD_eq_getElem?_getD, Array.getElem?_toList, getElem!_def]
  cases d[i]? <;> rfl
/-- A string is a code. -/
def okCode (s : ByteArray) : Prop := (1 ≤ s.size ∧ s.size ≤ 8) ∧ ∀ i, i < s.size → wrongR (byt s i) = false
theorem nilStr (s : ByteArray) : (s.toList == (⟨#[]⟩ : ByteArray).toList) = decide (s.size = 0) := by
  rw [Bool.eq_iff_iff, beq_iff_eq, decide_eq_true_eq, ByteArray.toList_eq, ByteArray.toList_eq]
  show s.data.toList = [] ↔ s.data.size = 0
  rw [← Array.length_toList]
  exact List.length_eq_zero_iff.symm
theorem IndexFunc_f (s : ByteArray) : AFun Tryd.prog 70 0 [str s, .clo 69 []] [] (int (Go.Lib.idxFunc wrongR true s)) [] := by
  refine AFun.of_W T_ok mixed Tryd.func70 rfl (Nat.le_of_ble_eq_true rfl) rfl ?_
  ((repeat ((conv => whnf); (first | (refine LetN.pre ?_; first | ((conv => arg 1; whnf); refine LetN.mk ?_)) | (refine As.pre ?_; first | refine As.mk rfl ?_ | (refine As.mk ?_ ?_; · decide +kernel) | refine As.mk (andT (nor_self _) rfl) ?_ | refine As.mk (andT (nor_self _) (or_t _)) ?_ | refine As.mk (andT (or_t _) (or_nself _)) ?_ | refine As.mk (andT (or_t _) (or_t _)) ?_ | refine As.mk (andT (nor_self _) (andT (nor_self _) rfl)) ?_ | (refine As.mk ?_ ?_; · ((repeat' (refine andT ?_ ?_)) <;> (first | rfl | assumption | exact decide_eq_true (by omega) | exact decide_eq_true (by dsimp only; omega) | exact decide_eq_true (by simp; omega) | (simp; done))))) | (refine LetV.pre ?_; first | refine LetV.mk (.sc (.int _ _)) rfl ?_ | refine LetV.mk (.sc (.bool _)) rfl ?_ | refine LetV.mk (.sc _) rfl ?_ | refine LetV.mk (.agg _) rfl ?_ | refine LetV.mk (.slm _ _ _ _ _) rfl ?_ | refine LetV.mk (.ro _ _ _) rfl ?_ | refine LetV.mk (.ptr _ _ _ _) rfl ?_ | refine LetV.mk (.clo _ _ _) rfl ?_ | refine LetV.mk (.rp _ _) rfl ?_) | (refine LetI.pre ?_; first | refine LetI.wrap (by omega) (by omega) ?_ | refine LetI.mk _ rfl ?_) | (refine LetB.pre ?_; first | refine LetB.tt rfl ?_ | refine LetB.ff rfl ?_ | refine LetB.tt (by assumption) ?_ | refine LetB.ff (by assumption) ?_ | refine LetB.dect (by omega) ?_ | refine LetB.decf (by omega) ?_ | refine LetB.beqt (by omega) ?_ | refine LetB.beqf (by omega) ?_ | refine LetB.bnet (by omega) ?_ | refine LetB.bnef (by omega) ?_ | refine LetB.mk _ rfl ?_) | (refine Gd.pre ?_; first | refine Gd.run rfl ?_ | refine Gd.pass rfl ?_ | refine Gd.run (by assumption) ?_ | refine Gd.pass (by assumption) ?_ | (refine Gd.run ?_ ?_; · decide +kernel) | (refine Gd.pass ?_ ?_; · decide +kernel) | refine Gd.both ?_) | (refine Br.pre ?_; first | refine Br.tt rfl ?_ | refine Br.ff rfl ?_ | refine Br.tt (by assumption) ?_ | refine Br.ff (by assumption) ?_ | (refine Br.tt ?_ ?_; · decide +kernel) | (refine Br.ff ?_ ?_; · decide +kernel)) | (refine Ck.pre ?_; first | refine Ck.drawn (by kernel_rfl) ?_ | refine Ck.mk rfl ?_) | (refine LetL.pre ?_; first | refine LetL.mk [_] rfl ?_ | refine LetL.mk _ rfl ?_) | (refine CallN.pre ?_; first | refine CallN.pure (indexFunc_f s) rfl rfl ?_) | refine forceAs.pass ?_ | refine forceEs.pass ?_ | refine forceC.pass ?_))); (try (conv => whnf)))
  exact ⟨.inl rfl, ⟨_, rfl, rfl⟩, trivial⟩
open Classical in
theorem Code_f (s : ByteArray) : AFun Tryd.prog 54 0 [str s] [] (bool (decide (okCode s))) [] := by
  refine AFun.of_W T_ok mixed Tryd.func54 rfl (Nat.le_of_ble_eq_true rfl) rfl ?_
  have hi := IndexFunc_f s
  have hx := idx_code s s.size 0 (by omega)
  rw [show Go.Lib.idxFuncFrom wrongR true s s.size 0 = Go.Lib.idxFunc wrongR true s from rfl] at hx
  generalize Go.Lib.idxFunc wrongR true s = r at hi hx
  have hn := nilStr s
  by_cases h0 : s.size = 0
  · have hb : (!(s.toList == (⟨#[]⟩ : ByteArray).toList)) = false := by rw [hn, decide_eq_true h0]; rfl
    ((repeat ((conv => whnf); (first | (refine LetN.pre ?_; first | ((conv => arg 1; whnf); refine LetN.mk ?_)) | (refine As.pre ?_; first | refine As.mk rfl ?_ | (refine As.mk ?_ ?_; · decide +kernel) | refine As.mk (andT (nor_self _) rfl) ?_ | refine As.mk (andT (nor_self _) (or_t _)) ?_ | refine As.mk (andT (or_t _) (or_nself _)) ?_ | refine As.mk (andT (or_t _) (or_t _)) ?_ | refine As.mk (andT (nor_self _) (andT (nor_self _) rfl)) ?_ | (refine As.mk ?_ ?_; · ((repeat' (refine andT ?_ ?_)) <;> (first | rfl | assumption | exact decide_eq_true (by omega) | exact decide_eq_true (by dsimp only; omega) | exact decide_eq_true (by simp; omega) | (simp; done))))) | (refine LetV.pre ?_; first | refine LetV.mk (.sc (.int _ _)) rfl ?_ | refine LetV.mk (.sc (.bool _)) rfl ?_ | refine LetV.mk (.sc _) rfl ?_ | refine LetV.mk (.agg _) rfl ?_ | refine LetV.mk (.slm _ _ _ _ _) rfl ?_ | refine LetV.mk (.ro _ _ _) rfl ?_ | refine LetV.mk (.ptr _ _ _ _) rfl ?_ | refine LetV.mk (.clo _ _ _) rfl ?_ | refine LetV.mk (.rp _ _) rfl ?_) | (refine LetI.pre ?_; first | refine LetI.wrap (by omega) (by omega) ?_ | refine LetI.mk _ rfl ?_) | (refine LetB.pre ?_; first | refine LetB.tt rfl ?_ | refine LetB.ff rfl ?_ | refine LetB.tt (by assumption) ?_ | refine LetB.ff (by assumption) ?_ | refine LetB.dect (by omega) ?_ | refine LetB.decf (by omega) ?_ | refine LetB.beqt (by omega) ?_ | refine LetB.beqf (by omega) ?_ | refine LetB.bnet (by omega) ?_ | refine LetB.bnef (by omega) ?_ | refine LetB.mk _ rfl ?_) | (refine Gd.pre ?_; first | refine Gd.run rfl ?_ | refine Gd.pass rfl ?_ | refine Gd.run (by assumption) ?_ | refine Gd.pass (by assumption) ?_ | (refine Gd.run ?_ ?_; · decide +kernel) | (refine Gd.pass ?_ ?_; · decide +kernel) | refine Gd.both ?_) | (refine Br.pre ?_; first | refine Br.tt rfl ?_ | refine Br.ff rfl ?_ | refine Br.tt (by assumption) ?_ | refine Br.ff (by assumption) ?_ | (refine Br.tt ?_ ?_; · decide +kernel) | (refine Br.ff ?_ ?_; · decide +kernel)) | (refine Ck.pre ?_; first | refine Ck.drawn (by kernel_rfl) ?_ | refine Ck.mk rfl ?_) | (refine LetL.pre ?_; first | refine LetL.mk [_] rfl ?_ | refine LetL.mk _ rfl ?_) | refine forceAs.pass ?_ | refine forceEs.pass ?_ | refine forceC.pass ?_))); (try (conv => whnf)))
    exact ⟨.inl rfl, ⟨_, rfl, congrArg bool (decide_eq_false fun h => by have := h.1.1; omega).symm⟩, trivial⟩
  · have hb : (!(s.toList == (⟨#[]⟩ : ByteArray).toList)) = true := by rw [hn, decide_eq_false h0]; rfl
    by_cases h8 : s.size ≤ 8
    · by_cases hr : r < 0
      · ((repeat ((conv => whnf); (first | (refine LetN.pre ?_; first | ((conv => arg 1; whnf); refine LetN.mk ?_)) | (refine As.pre ?_; first | refine As.mk rfl ?_ | (refine As.mk ?_ ?_; · decide +kernel) | refine As.mk (andT (nor_self _) rfl) ?_ | refine As.mk (andT (nor_self _) (or_t _)) ?_ | refine As.mk (andT (or_t _) (or_nself _)) ?_ | refine As.mk (andT (or_t _) (or_t _)) ?_ | refine As.mk (andT (nor_self _) (andT (nor_self _) rfl)) ?_ | (refine As.mk ?_ ?_; · ((repeat' (refine andT ?_ ?_)) <;> (first | rfl | assumption | exact decide_eq_true (by omega) | exact decide_eq_true (by dsimp only; omega) | exact decide_eq_true (by simp; omega) | (simp; done))))) | (refine LetV.pre ?_; first | refine LetV.mk (.sc (.int _ _)) rfl ?_ | refine LetV.mk (.sc (.bool _)) rfl ?_ | refine LetV.mk (.sc _) rfl ?_ | refine LetV.mk (.agg _) rfl ?_ | refine LetV.mk (.slm _ _ _ _ _) rfl ?_ | refine LetV.mk (.ro _ _ _) rfl ?_ | refine LetV.mk (.ptr _ _ _ _) rfl ?_ | refine LetV.mk (.clo _ _ _) rfl ?_ | refine LetV.mk (.rp _ _) rfl ?_) | (refine LetI.pre ?_; first | refine LetI.wrap (by omega) (by omega) ?_ | refine LetI.mk _ rfl ?_) | (refine LetB.pre ?_; first | refine LetB.tt rfl ?_ | refine LetB.ff rfl ?_ | refine LetB.tt (by assumption) ?_ | refine LetB.ff (by assumption) ?_ | refine LetB.dect (by omega) ?_ | refine LetB.decf (by omega) ?_ | refine LetB.beqt (by omega) ?_ | refine LetB.beqf (by omega) ?_ | refine LetB.bnet (by omega) ?_ | refine LetB.bnef (by omega) ?_ | refine LetB.mk _ rfl ?_) | (refine Gd.pre ?_; first | refine Gd.run rfl ?_ | refine Gd.pass rfl ?_ | refine Gd.run (by assumption) ?_ | refine Gd.pass (by assumption) ?_ | (refine Gd.run ?_ ?_; · decide +kernel) | (refine Gd.pass ?_ ?_; · decide +kernel) | refine Gd.both ?_) | (refine Br.pre ?_; first | refine Br.tt rfl ?_ | refine Br.ff rfl ?_ | refine Br.tt (by assumption) ?_ | refine Br.ff (by assumption) ?_ | (refine Br.tt ?_ ?_; · decide +kernel) | (refine Br.ff ?_ ?_; · decide +kernel)) | (refine Ck.pre ?_; first | refine Ck.drawn (by kernel_rfl) ?_ | refine Ck.mk rfl ?_) | (refine LetL.pre ?_; first | refine LetL.mk [_] rfl ?_ | refine LetL.mk _ rfl ?_) | (refine CallN.pre ?_; first | refine CallN.pure hi rfl rfl ?_) | refine forceAs.pass ?_ | refine forceEs.pass ?_ | refine forceC.pass ?_))); (try (conv => whnf)))
        exact ⟨.inl rfl, ⟨_, rfl, congrArg bool (decide_eq_true ⟨⟨by omega, h8⟩, fun i h => by rw [← byt_eq]; exact hx.1 hr i (Nat.zero_le _) h⟩).symm⟩, trivial⟩
      · ((repeat ((conv => whnf); (first | (refine LetN.pre ?_; first | ((conv => arg 1; whnf); refine LetN.mk ?_)) | (refine As.pre ?_; first | refine As.mk rfl ?_ | (refine As.mk ?_ ?_; · decide +kernel) | refine As.mk (andT (nor_self _) rfl) ?_ | refine As.mk (andT (nor_self _) (or_t _)) ?_ | refine As.mk (andT (or_t _) (or_nself _)) ?_ | refine As.mk (andT (or_t _) (or_t _)) ?_ | refine As.mk (andT (nor_self _) (andT (nor_self _) rfl)) ?_ | (refine As.mk ?_ ?_; · ((repeat' (refine andT ?_ ?_)) <;> (first | rfl | assumption | exact decide_eq_true (by omega) | exact decide_eq_true (by dsimp only; omega) | exact decide_eq_true (by simp; omega) | (simp; done))))) | (refine LetV.pre ?_; first | refine LetV.mk (.sc (.int _ _)) rfl ?_ | refine LetV.mk (.sc (.bool _)) rfl ?_ | refine LetV.mk (.sc _) rfl ?_ | refine LetV.mk (.agg _) rfl ?_ | refine LetV.mk (.slm _ _ _ _ _) rfl ?_ | refine LetV.mk (.ro _ _ _) rfl ?_ | refine LetV.mk (.ptr _ _ _ _) rfl ?_ | refine LetV.mk (.clo _ _ _) rfl ?_ | refine LetV.mk (.rp _ _) rfl ?_) | (refine LetI.pre ?_; first | refine LetI.wrap (by omega) (by omega) ?_ | refine LetI.mk _ rfl ?_) | (refine LetB.pre ?_; first | refine LetB.tt rfl ?_ | refine LetB.ff rfl ?_ | refine LetB.tt (by assumption) ?_ | refine LetB.ff (by assumption) ?_ | refine LetB.dect (by omega) ?_ | refine LetB.decf (by omega) ?_ | refine LetB.beqt (by omega) ?_ | refine LetB.beqf (by omega) ?_ | refine LetB.bnet (by omega) ?_ | refine LetB.bnef (by omega) ?_ | refine LetB.mk _ rfl ?_) | (refine Gd.pre ?_; first | refine Gd.run rfl ?_ | refine Gd.pass rfl ?_ | refine Gd.run (by assumption) ?_ | refine Gd.pass (by assumption) ?_ | (refine Gd.run ?_ ?_; · decide +kernel) | (refine Gd.pass ?_ ?_; · decide +kernel) | refine Gd.both ?_) | (refine Br.pre ?_; first | refine Br.tt rfl ?_ | refine Br.ff rfl ?_ | refine Br.tt (by assumption) ?_ | refine Br.ff (by assumption) ?_ | (refine Br.tt ?_ ?_; · decide +kernel) | (refine Br.ff ?_ ?_; · decide +kernel)) | (refine Ck.pre ?_; first | refine Ck.drawn (by kernel_rfl) ?_ | refine Ck.mk rfl ?_) | (refine LetL.pre ?_; first | refine LetL.mk [_] rfl ?_ | refine LetL.mk _ rfl ?_) | (refine CallN.pre ?_; first | refine CallN.pure hi rfl rfl ?_) | refine forceAs.pass ?_ | refine forceEs.pass ?_ | refine forceC.pass ?_))); (try (conv => whnf)))
        exact ⟨.inl rfl, ⟨_, rfl, congrArg bool (decide_eq_false fun h => hr (hx.2 fun i _ hi => by rw [byt_eq]; exact h.2 i hi)).symm⟩, trivial⟩
    · ((repeat ((conv => whnf); (first | (refine LetN.pre ?_; first | ((conv => arg 1; whnf); refine LetN.mk ?_)) | (refine As.pre ?_; first | refine As.mk rfl ?_ | (refine As.mk ?_ ?_; · decide +kernel) | refine As.mk (andT (nor_self _) rfl) ?_ | refine As.mk (andT (nor_self _) (or_t _)) ?_ | refine As.mk (andT (or_t _) (or_nself _)) ?_ | refine As.mk (andT (or_t _) (or_t _)) ?_ | refine As.mk (andT (nor_self _) (andT (nor_self _) rfl)) ?_ | (refine As.mk ?_ ?_; · ((repeat' (refine andT ?_ ?_)) <;> (first | rfl | assumption | exact decide_eq_true (by omega) | exact decide_eq_true (by dsimp only; omega) | exact decide_eq_true (by simp; omega) | (simp; done))))) | (refine LetV.pre ?_; first | refine LetV.mk (.sc (.int _ _)) rfl ?_ | refine LetV.mk (.sc (.bool _)) rfl ?_ | refine LetV.mk (.sc _) rfl ?_ | refine LetV.mk (.agg _) rfl ?_ | refine LetV.mk (.slm _ _ _ _ _) rfl ?_ | refine LetV.mk (.ro _ _ _) rfl ?_ | refine LetV.mk (.ptr _ _ _ _) rfl ?_ | refine LetV.mk (.clo _ _ _) rfl ?_ | refine LetV.mk (.rp _ _) rfl ?_) | (refine LetI.pre ?_; first | refine LetI.wrap (by omega) (by omega) ?_ | refine LetI.mk _ rfl ?_) | (refine LetB.pre ?_; first | refine LetB.tt rfl ?_ | refine LetB.ff rfl ?_ | refine LetB.tt (by assumption) ?_ | refine LetB.ff (by assumption) ?_ | refine LetB.dect (by omega) ?_ | refine LetB.decf (by omega) ?_ | refine LetB.beqt (by omega) ?_ | refine LetB.beqf (by omega) ?_ | refine LetB.bnet (by omega) ?_ | refine LetB.bnef (by omega) ?_ | refine LetB.mk _ rfl ?_) | (refine Gd.pre ?_; first | refine Gd.run rfl ?_ | refine Gd.pass rfl ?_ | refine Gd.run (by assumption) ?_ | refine Gd.pass (by assumption) ?_ | (refine Gd.run ?_ ?_; · decide +kernel) | (refine Gd.pass ?_ ?_; · decide +kernel) | refine Gd.both ?_) | (refine Br.pre ?_; first | refine Br.tt rfl ?_ | refine Br.ff rfl ?_ | refine Br.tt (by assumption) ?_ | refine Br.ff (by assumption) ?_ | (refine Br.tt ?_ ?_; · decide +kernel) | (refine Br.ff ?_ ?_; · decide +kernel)) | (refine Ck.pre ?_; first | refine Ck.drawn (by kernel_rfl) ?_ | refine Ck.mk rfl ?_) | (refine LetL.pre ?_; first | refine LetL.mk [_] rfl ?_ | refine LetL.mk _ rfl ?_) | refine forceAs.pass ?_ | refine forceEs.pass ?_ | refine forceC.pass ?_))); (try (conv => whnf)))
      exact ⟨.inl rfl, ⟨_, rfl, congrArg bool (decide_eq_false fun h => h8 h.1.2).symm⟩, trivial⟩
end En
end Go.Proofs.YtgnakhljdjekbaaDoor
