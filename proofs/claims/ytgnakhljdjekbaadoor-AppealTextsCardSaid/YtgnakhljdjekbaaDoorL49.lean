/- appealD: parts of the proof, DappealDJF DappealDTO DappealDTP DappealDTQ DappealDTV. -/
import Derived.Test.YtgnakhljdjekbaaDoorL48
import Derived.Test.YtgnakhljdjekbaaDoorAmSH
import Derived.Test.YtgnakhljdjekbaaDoorL35
import Derived.Test.YtgnakhljdjekbaaDoorAmRX
import Derived.LaidMore
import Derived.LaidHandle
import Derived.OpenShut
import Derived.Stop.Joined
import Derived.ProofKit
set_option linter.all false
namespace Go.Proofs.YtgnakhljdjekbaaDoor
open Go.Proofs.YtgnakhljdjekbaaDoor.Am
set_option maxRecDepth 100000
namespace En
/-! ### Numbers that are drawn -/
abbrev dty : TypeId := 59
abbrev drawB (fl : Fl) (xs : List Int) (at_ : Nat) : Blk := .row 2 dty [.agg [.ro fl 1 (xs.map int), int at_]]
def dv (xs : List Int) (at_ : Nat) (most : Int) : Int := if at_ < xs.length then ((xs.getD at_ 0).tmod most + most).tmod most else 0
def da (xs : List Int) (at_ : Nat) : Nat := if at_ < xs.length then at_ + 1 else at_
theorem dv_range (xs : List Int) (at_ : Nat) {most : Int} (h : 0 < most) : 0 ≤ dv xs at_ most ∧ dv xs at_ most < most := by
  unfold dv
  split
  · have h1 := tmod_bound (xs.getD at_ 0) h
    rw [Int.tmod_eq_emod_of_nonneg (by omega)]
    exact ⟨Int.emod_nonneg _ (by omega), Int.emod_lt_of_pos _ h⟩
  · omega
theorem da_le {xs : List Int} {at_ : Nat} (h : at_ ≤ xs.length) : da xs at_ ≤ xs.length := by
  unfold da; split <;> omega
theorem Mod_f (x m : Int) (h : 0 < m ∧ m ≤ 1000000) : AFun Tryd.prog 22 0 [int x, int m] [] (int ((x.tmod m + m).tmod m)) [] := by
  refine AFun.of_W T_ok mixed Tryd.func22 rfl (Nat.le_of_ble_eq_true rfl) rfl ?_
  have hnz : (m != 0) = true := by simp; omega
  have hb := tmod_bound x h.1
  ((repeat ((conv => whnf); (first | (refine As.pre ?_; first | refine As.mk rfl ?_ | refine As.mk hnz ?_) | (refine LetI.pre ?_; first | refine LetI.wrap (by omega) (by omega) ?_ | refine LetI.mk _ rfl ?_) | (refine Ck.pre ?_; first | refine Ck.mk rfl ?_)))); (try (conv => whnf)))
  exact ⟨.inl rfl, ⟨_, rfl, rfl⟩, trivial⟩
theorem Next_f (fl : Fl) (xs : List Int) (at_ : Nat) (most : Int) (hl : xs.length ≤ 9223372036854775807) (ha : at_ ≤ xs.length) (hm : 0 < most ∧ most ≤ 1000000) :
    AFun Tryd.prog 17 1 [.ptr 0 2 0 0, int most] [(0, drawB fl xs at_)] (int (dv xs at_ most)) [(0, drawB fl xs (da xs at_))] := by
  refine AFun.of_W T_ok mixed Tryd.func17 rfl (Nat.le_of_ble_eq_true rfl) rfl ?_
  have hml : (xs.map int).length = xs.length := List.length_map _
  have hnz : (most != 0) = true := by simp; omega
  unfold dv da
  by_cases hlt : at_ < xs.length
  · rw [if_pos hlt, if_pos hlt]
    have hld : int (xs.getD at_ 0) = (xs.map int).getD at_ (.sc undef) := mapD 0 hlt
    have hld2 : int (xs.getD at_ 0) = (xs.map int).getD ((at_ : Int) + 1 - 1).toNat (.sc undef) := by rw [show ((at_ : Int) + 1 - 1).toNat = at_ by omega]; exact hld
    generalize xs.getD at_ 0 = x at hld hld2 ⊢
    have hM := Mod_f x most hm
    ((repeat ((conv => whnf); (first | (refine LetN.pre ?_; first | ((conv => arg 1; whnf); refine LetN.mk ?_)) | (refine As.pre ?_; first | refine As.mk rfl ?_ | (refine As.mk ?_ ?_; · ((repeat' (refine andT ?_ ?_)) <;> (first | rfl | assumption | exact decide_eq_true (by omega) | exact decide_eq_true (by dsimp only; omega) | exact decide_eq_true (by simp; omega) | (simp; done))))) | (refine LetV.pre ?_; first | refine LetV.mk (t := 39) _ hld2 ?_ | refine LetV.mk (.sc (.int _ _)) rfl ?_ | refine LetV.mk (.ro _ _ _) rfl ?_) | (refine LetI.pre ?_; first | refine LetI.wrap (by omega) (by omega) ?_ | refine LetI.mk _ rfl ?_) | (refine LetB.pre ?_; first | refine LetB.decf (by omega) ?_) | (refine Br.pre ?_; first | refine Br.ff rfl ?_) | (refine Ck.pre ?_; first | refine Ck.drawn (by kernel_rfl) ?_ | refine Ck.mk rfl ?_) | (refine LetL.pre ?_; first | refine LetL.mk [_] rfl ?_) | (refine CallN.pre ?_; first | refine CallN.pure hM rfl rfl ?_)))); (try (conv => whnf)))



    exact ⟨.inl rfl, ⟨_, rfl, rfl⟩, rfl, trivial⟩
  · rw [if_neg hlt, if_neg hlt]
    ((repeat ((conv => whnf); (first | (refine As.pre ?_; first | refine As.mk rfl ?_) | (refine LetV.pre ?_; first | refine LetV.mk (.sc (.int _ _)) rfl ?_ | refine LetV.mk (.ro _ _ _) rfl ?_) | (refine LetI.pre ?_; first | refine LetI.mk _ rfl ?_) | (refine LetB.pre ?_; first | refine LetB.dect (by omega) ?_) | (refine Br.pre ?_; first | refine Br.tt rfl ?_) | (refine Ck.pre ?_; first | refine Ck.drawn (by kernel_rfl) ?_ | refine Ck.mk rfl ?_)))); (try (conv => whnf)))
    exact ⟨.inl rfl, ⟨_, rfl, rfl⟩, rfl, trivial⟩
def codesL : List ByteArray := [⟨#[65, 49]⟩, ⟨#[66, 49]⟩, ⟨#[66, 50]⟩, ⟨#[67, 49]⟩, ⟨#[68, 49]⟩, ⟨#[69, 57]⟩]
theorem Codes_f : AFun Tryd.prog 18 0 [] [] (.ro ⟨true, true⟩ 1 (codesL.map str)) [] := AFun.of_ev T_ok mixed 20 (by kernel_rfl)
abbrev iA (x : Fl × List Int) : AV := .ro x.1 1 (x.2.map int)
abbrev L0 : Fl × List Int := ({}, [])
theorem codes_get (n : Int) (h : 0 ≤ n ∧ n < 6) : ∃ s : ByteArray, s.size ≤ 2 ∧ str s = (codesL.map str).getD n.toNat (.sc undef) := by
  obtain ⟨m, rfl⟩ : ∃ m : Nat, n = m := ⟨n.toNat, by omega⟩
  have : m = 0 ∨ m = 1 ∨ m = 2 ∨ m = 3 ∨ m = 4 ∨ m = 5 := by omega
  rcases this with rfl | rfl | rfl | rfl | rfl | rfl <;> exact ⟨_, by decide, rfl⟩
theorem made_next (fl : Fl) (xs : List Int) (hl : xs.length ≤ 9223372036854775807) (at_ : Nat) (most : Int) (ha : at_ ≤ xs.length) (hm : 0 < most ∧ most ≤ 1000000) : ∃ v a, (0 ≤ v ∧ v < most) ∧ a ≤ xs.length ∧
    AFun Tryd.prog 17 1 [.ptr 0 2 0 0, int most] [(0, drawB fl xs at_)] (int v) [(0, drawB fl xs a)] :=
  ⟨_, _, dv_range xs at_ hm.1, da_le ha, Next_f fl xs at_ most hl ha hm⟩
theorem AFun.of_SE {P : Program} {T : TT} (hT : T.Ok P) {p : Nat} (hm : P.follows .mixedOrders = true) {f : FuncId} {fn : Func} {c : Code} {vs : List AV} {H : AH} {α : Type} {I : α → Prop} {v : α → AV} {H' : α → AH} (hf : P.funcs[f]? = some fn) (hb : fn.body = some c) (hn : vs.length ≤ fn.ntmps) (hB : H.all (fun x => decide (x.1 < p)) = true)
    (h : V P T p fn.ntmps c ⟨argFr vs 0, H, p⟩ (fun e s => ∃ x, I x ∧ FinS T fn p (v x) (H' x) e s)) : ∃ x, I x ∧ AFun P f p vs H (v x) (H' x) := by
  obtain ⟨e, s', h1, _, x, hI, s2, hw, he, ⟨rv, hr, hv⟩, hH⟩ := V_sound hT hm c _ _ h (HB.of_all hB)
  exact ⟨x, hI, (AFun.of_body hT hf hb hn he (h1.post hw) hr hv rfl).forget hH.get⟩
end En
end Go.Proofs.YtgnakhljdjekbaaDoor
namespace Go.Proofs.YtgnakhljdjekbaaDoor
open Go.Proofs.YtgnakhljdjekbaaDoor.Am
set_option maxRecDepth 100000
namespace En
/-! ### Made facts -/
/-- What is known of a made fact. -/
structure MFa (f : Fa) : Prop where
  kind : 1 ≤ f.kind ∧ f.kind ≤ 7
  student : 1 ≤ f.student ∧ f.student ≤ 3
  id : 0 ≤ f.id ∧ f.id ≤ 2
  term : 0 ≤ f.term ∧ f.term ≤ 6
  n : 0 ≤ f.n ∧ f.n ≤ 3
  school : 0 ≤ f.school ∧ f.school ≤ 3
  size : f.code.size ≤ 2
  sp : (32 : UInt8) ∉ f.code.data.toList
theorem MFa.ok {f : Fa} (h : MFa f) : okF f := ⟨⟨by have := h.kind; omega, by have := h.kind; omega⟩, ⟨by have := h.student; omega, by have := h.student; omega⟩, ⟨by have := h.id; omega, by have := h.id; omega⟩, ⟨by have := h.term; omega, by have := h.term; omega⟩, ⟨by have := h.n; omega, by have := h.n; omega⟩, ⟨by have := h.school; omega, by have := h.school; omega⟩, by have := h.size; have e : maxLen = 9223372036854775807 := rfl; rw [e]; omega⟩
theorem codes_getF (n : Int) (h : 0 ≤ n ∧ n < 6) : ∃ s : ByteArray, (s.size ≤ 2 ∧ (32 : UInt8) ∉ s.data.toList) ∧ str s = (codesL.map str).getD n.toNat (.sc undef) := by
  obtain ⟨m, rfl⟩ : ∃ m : Nat, n = m := ⟨n.toNat, by omega⟩
  have : m = 0 ∨ m = 1 ∨ m = 2 ∨ m = 3 ∨ m = 4 ∨ m = 5 := by omega
  rcases this with rfl | rfl | rfl | rfl | rfl | rfl <;> exact ⟨_, ⟨by decide, by decide⟩, rfl⟩
abbrev mfS (L : List (Fl × List Int)) (fl : Fl) : Nat × List Fa → AS
  | (k, out) => ⟨[(0, .ro fl 1 (L.map iA)), (3, .slm {} 0 7 0 out.length), (4, int k)], [(0, rwF out)], 1⟩
abbrev mfD (L : List (Fl × List Int)) (fl : Fl) (k : Nat) (out : List Fa) (x : Fl × List Int) (at_ : Nat) (f : Fa) : AS :=
  ⟨[(0, .ro fl 1 (L.map iA)), (3, .slm {} 0 7 0 out.length), (4, int k), (5, .ptr 1 2 0 0), (6, .ptr 2 7 0 0)], [(0, rwF out), (1, drawB x.1 x.2 at_), (2, .row 7 fty [fa f])], 3⟩
theorem mfN (out : List Fa) (a b : Blk) (ok : Nat → Bool) (ha : a.names ok = true := by rfl) (hb : b.names ok = true := by rfl) : namesAll ok [(0, rwF out), (1, a), (2, b)] = true := by
  refine namesAll.row (pure_fa _) ?_
  rw [namesAll, namesAll, ha, hb]; rfl
set_option maxHeartbeats 3200000 in
set_option maxRecDepth 100000 in
theorem Made24_s (L : List (Fl × List Int)) (fl : Fl) (hL : L.length ≤ 9223372036854775807) (hx : ∀ x ∈ L, x.2.length ≤ 9223372036854775807) : ∃ l : List Fa, (l.length ≤ 12 ∧ ∀ f ∈ l, MFa f) ∧
    AFun Tryd.prog 7 0 [.ro fl 1 (L.map iA)] [] (.slm {} 0 7 0 l.length) [(0, rwF l)] := by
  refine AFun.of_VSE T_ok (v := fun l : List Fa => .slm {} 0 7 0 l.length) (H' := fun l : List Fa => [(0, rwF l)]) Tryd.func7 rfl (Nat.le_of_ble_eq_true rfl) ?_
  have hmL : (L.map iA).length = L.length := List.length_map _
  refine VS.cut T_ok mixed rfl ?_
  ((repeat ((conv => whnf); (first | (refine LetN.pre ?_; first | ((conv => arg 1; whnf); refine LetN.mk ?_)) | (refine As.pre ?_; first | refine As.mk rfl ?_ | (refine As.mk ?_ ?_; · decide +kernel) | refine As.mk (andT (nor_self _) rfl) ?_ | refine As.mk (andT (nor_self _) (or_t _)) ?_ | refine As.mk (andT (or_t _) (or_nself _)) ?_ | refine As.mk (andT (or_t _) (or_t _)) ?_ | refine As.mk (andT (nor_self _) (andT (nor_self _) rfl)) ?_ | (refine As.mk ?_ ?_; · ((repeat' (refine andT ?_ ?_)) <;> (first | rfl | assumption | exact decide_eq_true (by omega) | exact decide_eq_true (by dsimp only; omega) | exact decide_eq_true (by simp; omega) | (simp; done))))) | (refine LetV.pre ?_; first | refine LetV.mk (.sc (.int _ _)) rfl ?_ | refine LetV.mk (.sc (.bool _)) rfl ?_ | refine LetV.mk (.sc _) rfl ?_ | refine LetV.mk (.agg _) rfl ?_ | refine LetV.mk (.slm _ _ _ _ _) rfl ?_ | refine LetV.mk (.ro _ _ _) rfl ?_ | refine LetV.mk (.ptr _ _ _ _) rfl ?_ | refine LetV.mk (.clo _ _ _) rfl ?_ | refine LetV.mk (.rp _ _) rfl ?_) | (refine LetI.pre ?_; first | refine LetI.wrap (by omega) (by omega) ?_ | refine LetI.mk _ rfl ?_) | (refine LetB.pre ?_; first | refine LetB.tt rfl ?_ | refine LetB.ff rfl ?_ | refine LetB.tt (by assumption) ?_ | refine LetB.ff (by assumption) ?_ | refine LetB.dect (by omega) ?_ | refine LetB.decf (by omega) ?_ | refine LetB.beqt (by omega) ?_ | refine LetB.beqf (by omega) ?_ | refine LetB.bnet (by omega) ?_ | refine LetB.bnef (by omega) ?_ | refine LetB.mk _ rfl ?_) | (refine Gd.pre ?_; first | refine Gd.run rfl ?_ | refine Gd.pass rfl ?_ | refine Gd.run (by assumption) ?_ | refine Gd.pass (by assumption) ?_ | (refine Gd.run ?_ ?_; · decide +kernel) | (refine Gd.pass ?_ ?_; · decide +kernel) | refine Gd.both ?_) | (refine Br.pre ?_; first | refine Br.tt rfl ?_ | refine Br.ff rfl ?_ | refine Br.tt (by assumption) ?_ | refine Br.ff (by assumption) ?_ | (refine Br.tt ?_ ?_; · decide +kernel) | (refine Br.ff ?_ ?_; · decide +kernel)) | (refine Ck.pre ?_; first | refine Ck.drawn (by kernel_rfl) ?_ | refine Ck.mk rfl ?_) | (refine LetL.pre ?_; first | refine LetL.mk [_] rfl ?_ | refine LetL.mk _ rfl ?_) | refine forceAs.pass ?_ | refine forceEs.pass ?_ | refine forceC.pass ?_))); (try (conv => whnf)))
  refine VS.cut T_ok mixed rfl ?_
  ((repeat ((conv => whnf); (first | (refine LetN.pre ?_; first | ((conv => arg 1; whnf); refine LetN.mk ?_)) | (refine As.pre ?_; first | refine As.mk rfl ?_ | (refine As.mk ?_ ?_; · decide +kernel) | refine As.mk (andT (nor_self _) rfl) ?_ | refine As.mk (andT (nor_self _) (or_t _)) ?_ | refine As.mk (andT (or_t _) (or_nself _)) ?_ | refine As.mk (andT (or_t _) (or_t _)) ?_ | refine As.mk (andT (nor_self _) (andT (nor_self _) rfl)) ?_ | (refine As.mk ?_ ?_; · ((repeat' (refine andT ?_ ?_)) <;> (first | rfl | assumption | exact decide_eq_true (by omega) | exact decide_eq_true (by dsimp only; omega) | exact decide_eq_true (by simp; omega) | (simp; done))))) | (refine LetV.pre ?_; first | refine LetV.mk (.sc (.int _ _)) rfl ?_ | refine LetV.mk (.sc (.bool _)) rfl ?_ | refine LetV.mk (.sc _) rfl ?_ | refine LetV.mk (.agg _) rfl ?_ | refine LetV.mk (.slm _ _ _ _ _) rfl ?_ | refine LetV.mk (.ro _ _ _) rfl ?_ | refine LetV.mk (.ptr _ _ _ _) rfl ?_ | refine LetV.mk (.clo _ _ _) rfl ?_ | refine LetV.mk (.rp _ _) rfl ?_) | (refine LetI.pre ?_; first | refine LetI.wrap (by omega) (by omega) ?_ | refine LetI.mk _ rfl ?_) | (refine LetB.pre ?_; first | refine LetB.tt rfl ?_ | refine LetB.ff rfl ?_ | refine LetB.tt (by assumption) ?_ | refine LetB.ff (by assumption) ?_ | refine LetB.dect (by omega) ?_ | refine LetB.decf (by omega) ?_ | refine LetB.beqt (by omega) ?_ | refine LetB.beqf (by omega) ?_ | refine LetB.bnet (by omega) ?_ | refine LetB.bnef (by omega) ?_ | refine LetB.mk _ rfl ?_) | (refine Gd.pre ?_; first | refine Gd.run rfl ?_ | refine Gd.pass rfl ?_ | refine Gd.run (by assumption) ?_ | refine Gd.pass (by assumption) ?_ | (refine Gd.run ?_ ?_; · decide +kernel) | (refine Gd.pass ?_ ?_; · decide +kernel) | refine Gd.both ?_) | (refine Br.pre ?_; first | refine Br.tt rfl ?_ | refine Br.ff rfl ?_ | refine Br.tt (by assumption) ?_ | refine Br.ff (by assumption) ?_ | (refine Br.tt ?_ ?_; · decide +kernel) | (refine Br.ff ?_ ?_; · decide +kernel)) | (refine Ck.pre ?_; first | refine Ck.drawn (by kernel_rfl) ?_ | refine Ck.mk rfl ?_) | (refine LetL.pre ?_; first | refine LetL.mk [_] rfl ?_ | refine LetL.mk _ rfl ?_) | refine forceAs.pass ?_ | refine forceEs.pass ?_ | refine forceC.pass ?_))); (try (conv => whnf)))
  refine VS.joinN (fun out : List Fa => ⟨[(3, .slm {} 0 7 0 out.length)], [(0, rwF out)], 1⟩) (fun out => out.length ≤ 12 ∧ ∀ f ∈ out, MFa f) ?loop ?rest
  case rest =>
    intro out ho
    refine VS.of_V T_ok mixed rfl ?_
    ((repeat ((conv => whnf); (first | (refine LetN.pre ?_; first | ((conv => arg 1; whnf); refine LetN.mk ?_)) | (refine As.pre ?_; first | refine As.mk rfl ?_ | (refine As.mk ?_ ?_; · decide +kernel) | refine As.mk (andT (nor_self _) rfl) ?_ | refine As.mk (andT (nor_self _) (or_t _)) ?_ | refine As.mk (andT (or_t _) (or_nself _)) ?_ | refine As.mk (andT (or_t _) (or_t _)) ?_ | refine As.mk (andT (nor_self _) (andT (nor_self _) rfl)) ?_ | (refine As.mk ?_ ?_; · ((repeat' (refine andT ?_ ?_)) <;> (first | rfl | assumption | exact decide_eq_true (by omega) | exact decide_eq_true (by dsimp only; omega) | exact decide_eq_true (by simp; omega) | (simp; done))))) | (refine LetV.pre ?_; first | refine LetV.mk (.sc (.int _ _)) rfl ?_ | refine LetV.mk (.sc (.bool _)) rfl ?_ | refine LetV.mk (.sc _) rfl ?_ | refine LetV.mk (.agg _) rfl ?_ | refine LetV.mk (.slm _ _ _ _ _) rfl ?_ | refine LetV.mk (.ro _ _ _) rfl ?_ | refine LetV.mk (.ptr _ _ _ _) rfl ?_ | refine LetV.mk (.clo _ _ _) rfl ?_ | refine LetV.mk (.rp _ _) rfl ?_) | (refine LetI.pre ?_; first | refine LetI.wrap (by omega) (by omega) ?_ | refine LetI.mk _ rfl ?_) | (refine LetB.pre ?_; first | refine LetB.tt rfl ?_ | refine LetB.ff rfl ?_ | refine LetB.tt (by assumption) ?_ | refine LetB.ff (by assumption) ?_ | refine LetB.dect (by omega) ?_ | refine LetB.decf (by omega) ?_ | refine LetB.beqt (by omega) ?_ | refine LetB.beqf (by omega) ?_ | refine LetB.bnet (by omega) ?_ | refine LetB.bnef (by omega) ?_ | refine LetB.mk _ rfl ?_) | (refine Gd.pre ?_; first | refine Gd.run rfl ?_ | refine Gd.pass rfl ?_ | refine Gd.run (by assumption) ?_ | refine Gd.pass (by assumption) ?_ | (refine Gd.run ?_ ?_; · decide +kernel) | (refine Gd.pass ?_ ?_; · decide +kernel) | refine Gd.both ?_) | (refine Br.pre ?_; first | refine Br.tt rfl ?_ | refine Br.ff rfl ?_ | refine Br.tt (by assumption) ?_ | refine Br.ff (by assumption) ?_ | (refine Br.tt ?_ ?_; · decide +kernel) | (refine Br.ff ?_ ?_; · decide +kernel)) | (refine Ck.pre ?_; first | refine Ck.drawn (by kernel_rfl) ?_ | refine Ck.mk rfl ?_) | (refine LetL.pre ?_; first | refine LetL.mk [_] rfl ?_ | refine LetL.mk _ rfl ?_) | refine forceAs.pass ?_ | refine forceEs.pass ?_ | refine forceC.pass ?_))); (try (conv => whnf)))
    exact ⟨out, ho, _, SW.refl, .inl rfl, ⟨_, rfl, rfl⟩, rfl, trivial⟩
  case loop =>
    refine VS.cut T_ok mixed rfl ?_
    ((repeat ((conv => whnf); (first | (refine LetN.pre ?_; first | ((conv => arg 1; whnf); refine LetN.mk ?_)) | (refine As.pre ?_; first | refine As.mk rfl ?_ | (refine As.mk ?_ ?_; · decide +kernel) | refine As.mk (andT (nor_self _) rfl) ?_ | refine As.mk (andT (nor_self _) (or_t _)) ?_ | refine As.mk (andT (or_t _) (or_nself _)) ?_ | refine As.mk (andT (or_t _) (or_t _)) ?_ | refine As.mk (andT (nor_self _) (andT (nor_self _) rfl)) ?_ | (refine As.mk ?_ ?_; · ((repeat' (refine andT ?_ ?_)) <;> (first | rfl | assumption | exact decide_eq_true (by omega) | exact decide_eq_true (by dsimp only; omega) | exact decide_eq_true (by simp; omega) | (simp; done))))) | (refine LetV.pre ?_; first | refine LetV.mk (.sc (.int _ _)) rfl ?_ | refine LetV.mk (.sc (.bool _)) rfl ?_ | refine LetV.mk (.sc _) rfl ?_ | refine LetV.mk (.agg _) rfl ?_ | refine LetV.mk (.slm _ _ _ _ _) rfl ?_ | refine LetV.mk (.ro _ _ _) rfl ?_ | refine LetV.mk (.ptr _ _ _ _) rfl ?_ | refine LetV.mk (.clo _ _ _) rfl ?_ | refine LetV.mk (.rp _ _) rfl ?_) | (refine LetI.pre ?_; first | refine LetI.wrap (by omega) (by omega) ?_ | refine LetI.mk _ rfl ?_) | (refine LetB.pre ?_; first | refine LetB.tt rfl ?_ | refine LetB.ff rfl ?_ | refine LetB.tt (by assumption) ?_ | refine LetB.ff (by assumption) ?_ | refine LetB.dect (by omega) ?_ | refine LetB.decf (by omega) ?_ | refine LetB.beqt (by omega) ?_ | refine LetB.beqf (by omega) ?_ | refine LetB.bnet (by omega) ?_ | refine LetB.bnef (by omega) ?_ | refine LetB.mk _ rfl ?_) | (refine Gd.pre ?_; first | refine Gd.run rfl ?_ | refine Gd.pass rfl ?_ | refine Gd.run (by assumption) ?_ | refine Gd.pass (by assumption) ?_ | (refine Gd.run ?_ ?_; · decide +kernel) | (refine Gd.pass ?_ ?_; · decide +kernel) | refine Gd.both ?_) | (refine Br.pre ?_; first | refine Br.tt rfl ?_ | refine Br.ff rfl ?_ | refine Br.tt (by assumption) ?_ | refine Br.ff (by assumption) ?_ | (refine Br.tt ?_ ?_; · decide +kernel) | (refine Br.ff ?_ ?_; · decide +kernel)) | (refine Ck.pre ?_; first | refine Ck.drawn (by kernel_rfl) ?_ | refine Ck.mk rfl ?_) | (refine LetL.pre ?_; first | refine LetL.mk [_] rfl ?_ | refine LetL.mk _ rfl ?_) | refine forceAs.pass ?_ | refine forceEs.pass ?_ | refine forceC.pass ?_))); (try (conv => whnf)))
    refine VS.block (VS.loop ?_)
    refine LoopN.weak (s1 := mfS L fl (0, [])) ?sw1 ?_
    case sw1 => exact SW.mk id rfl rfl rfl ⟨.refl _, VLe2.nilslm, .refl _, trivial⟩ (haveV.nil (Nat.le_of_ble_eq_true rfl) trivial)
    refine LoopN.indS (S := mfS L fl) (fun i => 12 - i.1) (fun i => i.1 ≤ 12 ∧ i.2.length = i.1 ∧ ∀ f ∈ i.2, MFa f) (fun i hi ih => ?_) (0, []) ⟨Nat.zero_le _, rfl, fun f h => absurd h List.not_mem_nil⟩
    obtain ⟨k, out⟩ := i
    obtain ⟨h1, h2, h3⟩ := hi
    dsimp only at h1 h2 h3
    by_cases hlt : k < L.length ∧ k < 12
    case neg =>
      clear ih
      refine VS.of_V T_ok mixed rfl ?_
      have hend : ¬ (k < L.length) ∨ ¬ (k < 12) := by omega
      rcases hend with h | h
      · ((repeat ((conv => whnf); (first | (refine LetN.pre ?_; first | ((conv => arg 1; whnf); refine LetN.mk ?_)) | (refine As.pre ?_; first | refine As.mk rfl ?_ | (refine As.mk ?_ ?_; · decide +kernel) | refine As.mk (andT (nor_self _) rfl) ?_ | refine As.mk (andT (nor_self _) (or_t _)) ?_ | refine As.mk (andT (or_t _) (or_nself _)) ?_ | refine As.mk (andT (or_t _) (or_t _)) ?_ | refine As.mk (andT (nor_self _) (andT (nor_self _) rfl)) ?_ | (refine As.mk ?_ ?_; · ((repeat' (refine andT ?_ ?_)) <;> (first | rfl | assumption | exact decide_eq_true (by omega) | exact decide_eq_true (by dsimp only; omega) | exact decide_eq_true (by simp; omega) | (simp; done))))) | (refine LetV.pre ?_; first | refine LetV.mk (.sc (.int _ _)) rfl ?_ | refine LetV.mk (.sc (.bool _)) rfl ?_ | refine LetV.mk (.sc _) rfl ?_ | refine LetV.mk (.agg _) rfl ?_ | refine LetV.mk (.slm _ _ _ _ _) rfl ?_ | refine LetV.mk (.ro _ _ _) rfl ?_ | refine LetV.mk (.ptr _ _ _ _) rfl ?_ | refine LetV.mk (.clo _ _ _) rfl ?_ | refine LetV.mk (.rp _ _) rfl ?_) | (refine LetI.pre ?_; first | refine LetI.wrap (by omega) (by omega) ?_ | refine LetI.mk _ rfl ?_) | (refine LetB.pre ?_; first | refine LetB.tt rfl ?_ | refine LetB.ff rfl ?_ | refine LetB.tt (by assumption) ?_ | refine LetB.ff (by assumption) ?_ | refine LetB.dect (by omega) ?_ | refine LetB.decf (by omega) ?_ | refine LetB.beqt (by omega) ?_ | refine LetB.beqf (by omega) ?_ | refine LetB.bnet (by omega) ?_ | refine LetB.bnef (by omega) ?_ | refine LetB.mk _ rfl ?_) | (refine Gd.pre ?_; first | refine Gd.run rfl ?_ | refine Gd.pass rfl ?_ | refine Gd.run (by assumption) ?_ | refine Gd.pass (by assumption) ?_ | (refine Gd.run ?_ ?_; · decide +kernel) | (refine Gd.pass ?_ ?_; · decide +kernel) | refine Gd.both ?_) | (refine Br.pre ?_; first | refine Br.tt rfl ?_ | refine Br.ff rfl ?_ | refine Br.tt (by assumption) ?_ | refine Br.ff (by assumption) ?_ | (refine Br.tt ?_ ?_; · decide +kernel) | (refine Br.ff ?_ ?_; · decide +kernel)) | (refine Ck.pre ?_; first | refine Ck.drawn (by kernel_rfl) ?_ | refine Ck.mk rfl ?_) | (refine LetL.pre ?_; first | refine LetL.mk [_] rfl ?_ | refine LetL.mk _ rfl ?_) | refine forceAs.pass ?_ | refine forceEs.pass ?_ | refine forceC.pass ?_))); (try (conv => whnf)))
        exact ⟨rfl, out, ⟨by omega, h3⟩, SW.mk id rfl rfl (namesAll.row (pure_fa _) rfl) ⟨.refl _, trivial⟩ (haveV.row (pure_fa _) rfl trivial)⟩
      · by_cases hk : k < L.length
        · ((repeat ((conv => whnf); (first | (refine LetN.pre ?_; first | ((conv => arg 1; whnf); refine LetN.mk ?_)) | (refine As.pre ?_; first | refine As.mk rfl ?_ | (refine As.mk ?_ ?_; · decide +kernel) | refine As.mk (andT (nor_self _) rfl) ?_ | refine As.mk (andT (nor_self _) (or_t _)) ?_ | refine As.mk (andT (or_t _) (or_nself _)) ?_ | refine As.mk (andT (or_t _) (or_t _)) ?_ | refine As.mk (andT (nor_self _) (andT (nor_self _) rfl)) ?_ | (refine As.mk ?_ ?_; · ((repeat' (refine andT ?_ ?_)) <;> (first | rfl | assumption | exact decide_eq_true (by omega) | exact decide_eq_true (by dsimp only; omega) | exact decide_eq_true (by simp; omega) | (simp; done))))) | (refine LetV.pre ?_; first | refine LetV.mk (.sc (.int _ _)) rfl ?_ | refine LetV.mk (.sc (.bool _)) rfl ?_ | refine LetV.mk (.sc _) rfl ?_ | refine LetV.mk (.agg _) rfl ?_ | refine LetV.mk (.slm _ _ _ _ _) rfl ?_ | refine LetV.mk (.ro _ _ _) rfl ?_ | refine LetV.mk (.ptr _ _ _ _) rfl ?_ | refine LetV.mk (.clo _ _ _) rfl ?_ | refine LetV.mk (.rp _ _) rfl ?_) | (refine LetI.pre ?_; first | refine LetI.wrap (by omega) (by omega) ?_ | refine LetI.mk _ rfl ?_) | (refine LetB.pre ?_; first | refine LetB.tt rfl ?_ | refine LetB.ff rfl ?_ | refine LetB.tt (by assumption) ?_ | refine LetB.ff (by assumption) ?_ | refine LetB.dect (by omega) ?_ | refine LetB.decf (by omega) ?_ | refine LetB.beqt (by omega) ?_ | refine LetB.beqf (by omega) ?_ | refine LetB.bnet (by omega) ?_ | refine LetB.bnef (by omega) ?_ | refine LetB.mk _ rfl ?_) | (refine Gd.pre ?_; first | refine Gd.run rfl ?_ | refine Gd.pass rfl ?_ | refine Gd.run (by assumption) ?_ | refine Gd.pass (by assumption) ?_ | (refine Gd.run ?_ ?_; · decide +kernel) | (refine Gd.pass ?_ ?_; · decide +kernel) | refine Gd.both ?_) | (refine Br.pre ?_; first | refine Br.tt rfl ?_ | refine Br.ff rfl ?_ | refine Br.tt (by assumption) ?_ | refine Br.ff (by assumption) ?_ | (refine Br.tt ?_ ?_; · decide +kernel) | (refine Br.ff ?_ ?_; · decide +kernel)) | (refine Ck.pre ?_; first | refine Ck.drawn (by kernel_rfl) ?_ | refine Ck.mk rfl ?_) | (refine LetL.pre ?_; first | refine LetL.mk [_] rfl ?_ | refine LetL.mk _ rfl ?_) | refine forceAs.pass ?_ | refine forceEs.pass ?_ | refine forceC.pass ?_))); (try (conv => whnf)))
          exact ⟨rfl, out, ⟨by omega, h3⟩, SW.mk id rfl rfl (namesAll.row (pure_fa _) rfl) ⟨.refl _, trivial⟩ (haveV.row (pure_fa _) rfl trivial)⟩
        · ((repeat ((conv => whnf); (first | (refine LetN.pre ?_; first | ((conv => arg 1; whnf); refine LetN.mk ?_)) | (refine As.pre ?_; first | refine As.mk rfl ?_ | (refine As.mk ?_ ?_; · decide +kernel) | refine As.mk (andT (nor_self _) rfl) ?_ | refine As.mk (andT (nor_self _) (or_t _)) ?_ | refine As.mk (andT (or_t _) (or_nself _)) ?_ | refine As.mk (andT (or_t _) (or_t _)) ?_ | refine As.mk (andT (nor_self _) (andT (nor_self _) rfl)) ?_ | (refine As.mk ?_ ?_; · ((repeat' (refine andT ?_ ?_)) <;> (first | rfl | assumption | exact decide_eq_true (by omega) | exact decide_eq_true (by dsimp only; omega) | exact decide_eq_true (by simp; omega) | (simp; done))))) | (refine LetV.pre ?_; first | refine LetV.mk (.sc (.int _ _)) rfl ?_ | refine LetV.mk (.sc (.bool _)) rfl ?_ | refine LetV.mk (.sc _) rfl ?_ | refine LetV.mk (.agg _) rfl ?_ | refine LetV.mk (.slm _ _ _ _ _) rfl ?_ | refine LetV.mk (.ro _ _ _) rfl ?_ | refine LetV.mk (.ptr _ _ _ _) rfl ?_ | refine LetV.mk (.clo _ _ _) rfl ?_ | refine LetV.mk (.rp _ _) rfl ?_) | (refine LetI.pre ?_; first | refine LetI.wrap (by omega) (by omega) ?_ | refine LetI.mk _ rfl ?_) | (refine LetB.pre ?_; first | refine LetB.tt rfl ?_ | refine LetB.ff rfl ?_ | refine LetB.tt (by assumption) ?_ | refine LetB.ff (by assumption) ?_ | refine LetB.dect (by omega) ?_ | refine LetB.decf (by omega) ?_ | refine LetB.beqt (by omega) ?_ | refine LetB.beqf (by omega) ?_ | refine LetB.bnet (by omega) ?_ | refine LetB.bnef (by omega) ?_ | refine LetB.mk _ rfl ?_) | (refine Gd.pre ?_; first | refine Gd.run rfl ?_ | refine Gd.pass rfl ?_ | refine Gd.run (by assumption) ?_ | refine Gd.pass (by assumption) ?_ | (refine Gd.run ?_ ?_; · decide +kernel) | (refine Gd.pass ?_ ?_; · decide +kernel) | refine Gd.both ?_) | (refine Br.pre ?_; first | refine Br.tt rfl ?_ | refine Br.ff rfl ?_ | refine Br.tt (by assumption) ?_ | refine Br.ff (by assumption) ?_ | (refine Br.tt ?_ ?_; · decide +kernel) | (refine Br.ff ?_ ?_; · decide +kernel)) | (refine Ck.pre ?_; first | refine Ck.drawn (by kernel_rfl) ?_ | refine Ck.mk rfl ?_) | (refine LetL.pre ?_; first | refine LetL.mk [_] rfl ?_ | refine LetL.mk _ rfl ?_) | refine forceAs.pass ?_ | refine forceEs.pass ?_ | refine forceC.pass ?_))); (try (conv => whnf)))
          exact ⟨rfl, out, ⟨by omega, h3⟩, SW.mk id rfl rfl (namesAll.row (pure_fa _) rfl) ⟨.refl _, trivial⟩ (haveV.row (pure_fa _) rfl trivial)⟩
    obtain ⟨hk, hk2⟩ := hlt
    have hld : iA (L.getD k L0) = (L.map iA).getD k (.sc undef) := mapD L0 hk
    have hxl := hx (L.getD k L0) (by rw [List.getD_eq_getElem?_getD, List.getElem?_eq_getElem hk]; exact List.getElem_mem _)
    have hnx : ∀ f, MFa f → _ := fun f hf => ih (k + 1, out ++ [f]) ⟨hk2, by dsimp only; rw [List.length_append, h2]; rfl, fun g hg => by
      rcases List.mem_append.1 hg with hg | hg
      · exact h3 g hg
      · rw [List.mem_singleton.1 hg]; exact hf⟩ (by show 12 - (k + 1) < 12 - k; omega)
    clear ih hx h3
    generalize L.getD k L0 = x at hld hxl
    obtain ⟨fx, xs⟩ := x
    dsimp only at hxl
    obtain ⟨v1, a1, r1, q1, N1⟩ := made_next fx xs hxl 0 7 (Nat.zero_le _) (by omega)
    obtain ⟨v2, a2, r2, q2, N2⟩ := made_next fx xs hxl a1 3 q1 (by omega)
    obtain ⟨v3, a3, r3, q3, N3⟩ := made_next fx xs hxl a2 3 q2 (by omega)
    obtain ⟨v4, a4, r4, q4, N4⟩ := made_next fx xs hxl a3 7 q3 (by omega)
    obtain ⟨v5, a5, r5, q5, N5⟩ := made_next fx xs hxl a4 4 q4 (by omega)
    obtain ⟨v6, a6, r6, q6, N6⟩ := made_next fx xs hxl a5 2 q5 (by omega)
    obtain ⟨v7, a7, r7, q7, N7⟩ := made_next fx xs hxl a6 3 q6 (by omega)
    obtain ⟨v8, a8, r8, q8, N8⟩ := made_next fx xs hxl a7 6 q7 (by omega)
    obtain ⟨s8, ⟨s81, s82⟩, hs8⟩ := codes_getF v8 r8
    refine VS.cut T_ok mixed rfl ?_
    ((repeat ((conv => whnf); (first | (refine LetN.pre ?_; first | ((conv => arg 1; whnf); refine LetN.mk ?_)) | (refine As.pre ?_; first | refine As.mk rfl ?_ | (refine As.mk ?_ ?_; · decide +kernel) | refine As.mk (andT (nor_self _) rfl) ?_ | refine As.mk (andT (nor_self _) (or_t _)) ?_ | refine As.mk (andT (or_t _) (or_nself _)) ?_ | refine As.mk (andT (or_t _) (or_t _)) ?_ | refine As.mk (andT (nor_self _) (andT (nor_self _) rfl)) ?_ | (refine As.mk ?_ ?_; · ((repeat' (refine andT ?_ ?_)) <;> (first | rfl | assumption | exact decide_eq_true (by omega) | exact decide_eq_true (by dsimp only; omega) | exact decide_eq_true (by simp; omega) | (simp; done))))) | (refine LetV.pre ?_; first | refine LetV.mk (.sc (.int _ _)) rfl ?_ | refine LetV.mk (.sc (.bool _)) rfl ?_ | refine LetV.mk (.sc _) rfl ?_ | refine LetV.mk (.agg _) rfl ?_ | refine LetV.mk (.slm _ _ _ _ _) rfl ?_ | refine LetV.mk (.ro _ _ _) rfl ?_ | refine LetV.mk (.ptr _ _ _ _) rfl ?_ | refine LetV.mk (.clo _ _ _) rfl ?_ | refine LetV.mk (.rp _ _) rfl ?_) | (refine LetI.pre ?_; first | refine LetI.wrap (by omega) (by omega) ?_ | refine LetI.mk _ rfl ?_) | (refine LetB.pre ?_; first | refine LetB.tt rfl ?_ | refine LetB.ff rfl ?_ | refine LetB.tt (by assumption) ?_ | refine LetB.ff (by assumption) ?_ | refine LetB.dect (by omega) ?_ | refine LetB.decf (by omega) ?_ | refine LetB.beqt (by omega) ?_ | refine LetB.beqf (by omega) ?_ | refine LetB.bnet (by omega) ?_ | refine LetB.bnef (by omega) ?_ | refine LetB.mk _ rfl ?_) | (refine Gd.pre ?_; first | refine Gd.run rfl ?_ | refine Gd.pass rfl ?_ | refine Gd.run (by assumption) ?_ | refine Gd.pass (by assumption) ?_ | (refine Gd.run ?_ ?_; · decide +kernel) | (refine Gd.pass ?_ ?_; · decide +kernel) | refine Gd.both ?_) | (refine Br.pre ?_; first | refine Br.tt rfl ?_ | refine Br.ff rfl ?_ | refine Br.tt (by assumption) ?_ | refine Br.ff (by assumption) ?_ | (refine Br.tt ?_ ?_; · decide +kernel) | (refine Br.ff ?_ ?_; · decide +kernel)) | (refine Ck.pre ?_; first | refine Ck.drawn (by kernel_rfl) ?_ | refine Ck.mk rfl ?_) | (refine LetL.pre ?_; first | refine LetL.mk [_] rfl ?_ | refine LetL.mk _ rfl ?_) | refine forceAs.pass ?_ | refine forceEs.pass ?_ | refine forceC.pass ?_))); (try (conv => whnf)))
    refine VS.seq (VS.block ?_)
    refine VS.cut T_ok mixed rfl ?_
    ((repeat ((conv => whnf); (first | (refine LetN.pre ?_; first | ((conv => arg 1; whnf); refine LetN.mk ?_)) | (refine As.pre ?_; first | refine As.mk rfl ?_ | (refine As.mk ?_ ?_; · decide +kernel) | refine As.mk (andT (nor_self _) rfl) ?_ | refine As.mk (andT (nor_self _) (or_t _)) ?_ | refine As.mk (andT (or_t _) (or_nself _)) ?_ | refine As.mk (andT (or_t _) (or_t _)) ?_ | refine As.mk (andT (nor_self _) (andT (nor_self _) rfl)) ?_ | (refine As.mk ?_ ?_; · ((repeat' (refine andT ?_ ?_)) <;> (first | rfl | assumption | exact decide_eq_true (by omega) | exact decide_eq_true (by dsimp only; omega) | exact decide_eq_true (by simp; omega) | (simp; done))))) | (refine LetV.pre ?_; first | refine LetV.mk (t := 22) _ hld ?_ | refine LetV.mk (.sc (.int _ _)) rfl ?_ | refine LetV.mk (.sc (.bool _)) rfl ?_ | refine LetV.mk (.sc _) rfl ?_ | refine LetV.mk (.agg _) rfl ?_ | refine LetV.mk (.slm _ _ _ _ _) rfl ?_ | refine LetV.mk (.ro _ _ _) rfl ?_ | refine LetV.mk (.ptr _ _ _ _) rfl ?_ | refine LetV.mk (.clo _ _ _) rfl ?_ | refine LetV.mk (.rp _ _) rfl ?_) | (refine LetI.pre ?_; first | refine LetI.wrap (by omega) (by omega) ?_ | refine LetI.mk _ rfl ?_) | (refine LetB.pre ?_; first | refine LetB.tt rfl ?_ | refine LetB.ff rfl ?_ | refine LetB.tt (by assumption) ?_ | refine LetB.ff (by assumption) ?_ | refine LetB.dect (by omega) ?_ | refine LetB.decf (by omega) ?_ | refine LetB.beqt (by omega) ?_ | refine LetB.beqf (by omega) ?_ | refine LetB.bnet (by omega) ?_ | refine LetB.bnef (by omega) ?_ | refine LetB.mk _ rfl ?_) | (refine Gd.pre ?_; first | refine Gd.run rfl ?_ | refine Gd.pass rfl ?_ | refine Gd.run (by assumption) ?_ | refine Gd.pass (by assumption) ?_ | (refine Gd.run ?_ ?_; · decide +kernel) | (refine Gd.pass ?_ ?_; · decide +kernel) | refine Gd.both ?_) | (refine Br.pre ?_; first | refine Br.tt rfl ?_ | refine Br.ff rfl ?_ | refine Br.tt (by assumption) ?_ | refine Br.ff (by assumption) ?_ | (refine Br.tt ?_ ?_; · decide +kernel) | (refine Br.ff ?_ ?_; · decide +kernel)) | (refine Ck.pre ?_; first | refine Ck.drawn (by kernel_rfl) ?_ | refine Ck.mk rfl ?_) | (refine LetL.pre ?_; first | refine LetL.mk [_] rfl ?_ | refine LetL.mk _ rfl ?_) | refine forceAs.pass ?_ | refine forceEs.pass ?_ | refine forceC.pass ?_))); (try (conv => whnf)))
    refine VS.cut T_ok mixed rfl ?_
    ((repeat ((conv => whnf); (first | (refine LetN.pre ?_; first | ((conv => arg 1; whnf); refine LetN.mk ?_)) | (refine As.pre ?_; first | refine As.mk rfl ?_ | (refine As.mk ?_ ?_; · decide +kernel) | refine As.mk (andT (nor_self _) rfl) ?_ | refine As.mk (andT (nor_self _) (or_t _)) ?_ | refine As.mk (andT (or_t _) (or_nself _)) ?_ | refine As.mk (andT (or_t _) (or_t _)) ?_ | refine As.mk (andT (nor_self _) (andT (nor_self _) rfl)) ?_ | (refine As.mk ?_ ?_; · ((repeat' (refine andT ?_ ?_)) <;> (first | rfl | assumption | exact decide_eq_true (by omega) | exact decide_eq_true (by dsimp only; omega) | exact decide_eq_true (by simp; omega) | (simp; done))))) | (refine LetV.pre ?_; first | refine LetV.mk (.sc (.int _ _)) rfl ?_ | refine LetV.mk (.sc (.bool _)) rfl ?_ | refine LetV.mk (.sc _) rfl ?_ | refine LetV.mk (.agg _) rfl ?_ | refine LetV.mk (.slm _ _ _ _ _) rfl ?_ | refine LetV.mk (.ro _ _ _) rfl ?_ | refine LetV.mk (.ptr _ _ _ _) rfl ?_ | refine LetV.mk (.clo _ _ _) rfl ?_ | refine LetV.mk (.rp _ _) rfl ?_) | (refine LetI.pre ?_; first | refine LetI.wrap (by omega) (by omega) ?_ | refine LetI.mk _ rfl ?_) | (refine LetB.pre ?_; first | refine LetB.tt rfl ?_ | refine LetB.ff rfl ?_ | refine LetB.tt (by assumption) ?_ | refine LetB.ff (by assumption) ?_ | refine LetB.dect (by omega) ?_ | refine LetB.decf (by omega) ?_ | refine LetB.beqt (by omega) ?_ | refine LetB.beqf (by omega) ?_ | refine LetB.bnet (by omega) ?_ | refine LetB.bnef (by omega) ?_ | refine LetB.mk _ rfl ?_) | (refine Gd.pre ?_; first | refine Gd.run rfl ?_ | refine Gd.pass rfl ?_ | refine Gd.run (by assumption) ?_ | refine Gd.pass (by assumption) ?_ | (refine Gd.run ?_ ?_; · decide +kernel) | (refine Gd.pass ?_ ?_; · decide +kernel) | refine Gd.both ?_) | (refine Br.pre ?_; first | refine Br.tt rfl ?_ | refine Br.ff rfl ?_ | refine Br.tt (by assumption) ?_ | refine Br.ff (by assumption) ?_ | (refine Br.tt ?_ ?_; · decide +kernel) | (refine Br.ff ?_ ?_; · decide +kernel)) | (refine Ck.pre ?_; first | refine Ck.drawn (by kernel_rfl) ?_ | refine Ck.mk rfl ?_) | (refine LetL.pre ?_; first | refine LetL.mk (ty := dty) [.agg [_, _]] rfl ?_ | refine LetL.mk (ty := dty) [.agg [_, _]] rfl ?_ | refine LetL.mk (ty := dty) [.agg [_, _]] rfl ?_ | refine LetL.mk (ty := dty) [.agg [_, _]] rfl ?_ | refine LetL.mk (ty := dty) [.agg [_, _]] rfl ?_ | refine LetL.mk [_] rfl ?_ | refine LetL.mk _ rfl ?_) | (refine CallN.pre ?_; first | (refine CallN.own (fun _ => 1) N1 (CallOk.mk' rfl rfl rfl (namesAll.row rfl rfl) rfl (namesAll.row rfl rfl) (haveAll.row rfl rfl trivial)) ?_) | (refine CallN.own (fun _ => 1) N2 (CallOk.mk' rfl rfl rfl (namesAll.row rfl rfl) rfl (namesAll.row rfl rfl) (haveAll.row rfl rfl trivial)) ?_) | (refine CallN.own (fun _ => 1) N3 (CallOk.mk' rfl rfl rfl (namesAll.row rfl rfl) rfl (namesAll.row rfl rfl) (haveAll.row rfl rfl trivial)) ?_) | (refine CallN.own (fun _ => 1) N4 (CallOk.mk' rfl rfl rfl (namesAll.row rfl rfl) rfl (namesAll.row rfl rfl) (haveAll.row rfl rfl trivial)) ?_) | (refine CallN.own (fun _ => 1) N5 (CallOk.mk' rfl rfl rfl (namesAll.row rfl rfl) rfl (namesAll.row rfl rfl) (haveAll.row rfl rfl trivial)) ?_)) | refine forceAs.pass ?_ | refine forceEs.pass ?_ | refine forceC.pass ?_))); (try (conv => whnf)))
    refine VS.weak (s1 := mfD L fl k out (fx, xs) a5 ⟨1 + v1, 1 + v2, v3, v4, v5, 0, ⟨#[]⟩⟩) ?sw2 ?_
    case sw2 => exact SW.mk id rfl rfl (mfN _ _ _ _) ⟨.refl _, .refl _, .refl _, .refl _, .refl _, trivial⟩ (haveV.row (pure_fa _) rfl (haveV.one rfl (haveV.one rfl trivial)))
    clear N1 N2 N3 N4 N5
    refine VS.joinN (fun q : Nat × Fa => mfD L fl k out (fx, xs) q.1 q.2) (fun q => MFa q.2) ?cond ?body
    case cond =>
      clear hnx hld
      refine VS.of_V T_ok mixed rfl ?_
      have hcl : (codesL.map str).length = 6 := rfl
      by_cases h0 : v6 = 0
      · subst h0
        ((repeat ((conv => whnf); (first | (refine LetN.pre ?_; first | ((conv => arg 1; whnf); refine LetN.mk ?_)) | (refine As.pre ?_; first | refine As.mk rfl ?_ | (refine As.mk ?_ ?_; · decide +kernel) | refine As.mk (andT (nor_self _) rfl) ?_ | refine As.mk (andT (nor_self _) (or_t _)) ?_ | refine As.mk (andT (or_t _) (or_nself _)) ?_ | refine As.mk (andT (or_t _) (or_t _)) ?_ | refine As.mk (andT (nor_self _) (andT (nor_self _) rfl)) ?_ | (refine As.mk ?_ ?_; · ((repeat' (refine andT ?_ ?_)) <;> (first | rfl | assumption | exact decide_eq_true (by omega) | exact decide_eq_true (by dsimp only; omega) | exact decide_eq_true (by simp; omega) | (simp; done))))) | (refine LetV.pre ?_; first | refine LetV.mk (t := 61) _ hs8 ?_ | refine LetV.mk (.sc (.int _ _)) rfl ?_ | refine LetV.mk (.sc (.bool _)) rfl ?_ | refine LetV.mk (.sc _) rfl ?_ | refine LetV.mk (.agg _) rfl ?_ | refine LetV.mk (.slm _ _ _ _ _) rfl ?_ | refine LetV.mk (.ro _ _ _) rfl ?_ | refine LetV.mk (.ptr _ _ _ _) rfl ?_ | refine LetV.mk (.clo _ _ _) rfl ?_ | refine LetV.mk (.rp _ _) rfl ?_) | (refine LetI.pre ?_; first | refine LetI.wrap (by omega) (by omega) ?_ | refine LetI.mk _ rfl ?_) | (refine LetB.pre ?_; first | refine LetB.tt rfl ?_ | refine LetB.ff rfl ?_ | refine LetB.tt (by assumption) ?_ | refine LetB.ff (by assumption) ?_ | refine LetB.dect (by omega) ?_ | refine LetB.decf (by omega) ?_ | refine LetB.beqt (by omega) ?_ | refine LetB.beqf (by omega) ?_ | refine LetB.bnet (by omega) ?_ | refine LetB.bnef (by omega) ?_ | refine LetB.mk _ rfl ?_) | (refine Gd.pre ?_; first | refine Gd.run rfl ?_ | refine Gd.pass rfl ?_ | refine Gd.run (by assumption) ?_ | refine Gd.pass (by assumption) ?_ | (refine Gd.run ?_ ?_; · decide +kernel) | (refine Gd.pass ?_ ?_; · decide +kernel) | refine Gd.both ?_) | (refine Br.pre ?_; first | refine Br.tt rfl ?_ | refine Br.ff rfl ?_ | refine Br.tt (by assumption) ?_ | refine Br.ff (by assumption) ?_ | (refine Br.tt ?_ ?_; · decide +kernel) | (refine Br.ff ?_ ?_; · decide +kernel)) | (refine Ck.pre ?_; first | refine Ck.drawn (by kernel_rfl) ?_ | refine Ck.mk rfl ?_) | (refine LetL.pre ?_; first | refine LetL.mk (ty := dty) [.agg [_, _]] rfl ?_ | refine LetL.mk (ty := dty) [.agg [_, _]] rfl ?_ | refine LetL.mk (ty := dty) [.agg [_, _]] rfl ?_ | refine LetL.mk [_] rfl ?_ | refine LetL.mk _ rfl ?_) | (refine CallN.pre ?_; first | refine CallN.pure Codes_f rfl rfl ?_ | (refine CallN.own (fun _ => 1) N6 (CallOk.mk' rfl rfl rfl (namesAll.row rfl rfl) rfl (namesAll.row rfl rfl) (haveAll.row rfl rfl trivial)) ?_) | (refine CallN.own (fun _ => 1) N7 (CallOk.mk' rfl rfl rfl (namesAll.row rfl rfl) rfl (namesAll.row rfl rfl) (haveAll.row rfl rfl trivial)) ?_) | (refine CallN.own (fun _ => 1) N8 (CallOk.mk' rfl rfl rfl (namesAll.row rfl rfl) rfl (namesAll.row rfl rfl) (haveAll.row rfl rfl trivial)) ?_)) | refine forceAs.pass ?_ | refine forceEs.pass ?_ | refine forceC.pass ?_))); (try (conv => whnf)))
        exact ⟨rfl, (a8, ⟨1 + v1, 1 + v2, v3, v4, v5, 1 + v7, s8⟩), ⟨by dsimp only; omega, by dsimp only; omega, by dsimp only; omega, by dsimp only; omega, by dsimp only; omega, by dsimp only; omega, s81, s82⟩, SW.mk id rfl rfl (mfN _ _ _ _) ⟨.refl _, .refl _, .refl _, .refl _, .refl _, trivial⟩ (haveV.row (pure_fa _) rfl (haveV.one rfl (haveV.one rfl trivial)))⟩
      · ((repeat ((conv => whnf); (first | (refine LetN.pre ?_; first | ((conv => arg 1; whnf); refine LetN.mk ?_)) | (refine As.pre ?_; first | refine As.mk rfl ?_ | (refine As.mk ?_ ?_; · decide +kernel) | refine As.mk (andT (nor_self _) rfl) ?_ | refine As.mk (andT (nor_self _) (or_t _)) ?_ | refine As.mk (andT (or_t _) (or_nself _)) ?_ | refine As.mk (andT (or_t _) (or_t _)) ?_ | refine As.mk (andT (nor_self _) (andT (nor_self _) rfl)) ?_ | (refine As.mk ?_ ?_; · ((repeat' (refine andT ?_ ?_)) <;> (first | rfl | assumption | exact decide_eq_true (by omega) | exact decide_eq_true (by dsimp only; omega) | exact decide_eq_true (by simp; omega) | (simp; done))))) | (refine LetV.pre ?_; first | refine LetV.mk (.sc (.int _ _)) rfl ?_ | refine LetV.mk (.sc (.bool _)) rfl ?_ | refine LetV.mk (.sc _) rfl ?_ | refine LetV.mk (.agg _) rfl ?_ | refine LetV.mk (.slm _ _ _ _ _) rfl ?_ | refine LetV.mk (.ro _ _ _) rfl ?_ | refine LetV.mk (.ptr _ _ _ _) rfl ?_ | refine LetV.mk (.clo _ _ _) rfl ?_ | refine LetV.mk (.rp _ _) rfl ?_) | (refine LetI.pre ?_; first | refine LetI.wrap (by omega) (by omega) ?_ | refine LetI.mk _ rfl ?_) | (refine LetB.pre ?_; first | refine LetB.tt rfl ?_ | refine LetB.ff rfl ?_ | refine LetB.tt (by assumption) ?_ | refine LetB.ff (by assumption) ?_ | refine LetB.dect (by omega) ?_ | refine LetB.decf (by omega) ?_ | refine LetB.beqt (by omega) ?_ | refine LetB.beqf (by omega) ?_ | refine LetB.bnet (by omega) ?_ | refine LetB.bnef (by omega) ?_ | refine LetB.mk _ rfl ?_) | (refine Gd.pre ?_; first | refine Gd.run rfl ?_ | refine Gd.pass rfl ?_ | refine Gd.run (by assumption) ?_ | refine Gd.pass (by assumption) ?_ | (refine Gd.run ?_ ?_; · decide +kernel) | (refine Gd.pass ?_ ?_; · decide +kernel) | refine Gd.both ?_) | (refine Br.pre ?_; first | refine Br.tt rfl ?_ | refine Br.ff rfl ?_ | refine Br.tt (by assumption) ?_ | refine Br.ff (by assumption) ?_ | (refine Br.tt ?_ ?_; · decide +kernel) | (refine Br.ff ?_ ?_; · decide +kernel)) | (refine Ck.pre ?_; first | refine Ck.drawn (by kernel_rfl) ?_ | refine Ck.mk rfl ?_) | (refine LetL.pre ?_; first | refine LetL.mk (ty := dty) [.agg [_, _]] rfl ?_ | refine LetL.mk [_] rfl ?_ | refine LetL.mk _ rfl ?_) | (refine CallN.pre ?_; first | (refine CallN.own (fun _ => 1) N6 (CallOk.mk' rfl rfl rfl (namesAll.row rfl rfl) rfl (namesAll.row rfl rfl) (haveAll.row rfl rfl trivial)) ?_)) | refine forceAs.pass ?_ | refine forceEs.pass ?_ | refine forceC.pass ?_))); (try (conv => whnf)))
        exact ⟨rfl, (a6, ⟨1 + v1, 1 + v2, v3, v4, v5, 0, ⟨#[]⟩⟩), ⟨by dsimp only; omega, by dsimp only; omega, by dsimp only; omega, by dsimp only; omega, by dsimp only; omega, by dsimp only; omega, (by decide : (⟨#[]⟩ : ByteArray).size ≤ 2), (by decide : (32 : UInt8) ∉ (⟨#[]⟩ : ByteArray).data.toList)⟩, SW.mk id rfl rfl (mfN _ _ _ _) ⟨.refl _, .refl _, .refl _, .refl _, .refl _, trivial⟩ (haveV.row (pure_fa _) rfl (haveV.one rfl (haveV.one rfl trivial)))⟩
    rintro ⟨at_, f⟩ hf
    dsimp only at hf
    have r1' := room_fa (n := out.length + 1) (by omega)
    have a1' := app_fa out f out.length rfl
    have l1' : (out ++ [f]).length = out.length + 1 := by simp
    have hnf := hnx f hf
    clear hnx
    refine VS.of_V T_ok mixed rfl ?_
    ((repeat ((conv => whnf); (first | (refine LetN.pre ?_; first | ((conv => arg 1; whnf); refine LetN.mk ?_)) | (refine As.pre ?_; first | refine As.mk rfl ?_ | (refine As.mk ?_ ?_; · decide +kernel) | refine As.mk (andT (nor_self _) rfl) ?_ | refine As.mk (andT (nor_self _) (or_t _)) ?_ | refine As.mk (andT (or_t _) (or_nself _)) ?_ | refine As.mk (andT (or_t _) (or_t _)) ?_ | refine As.mk (andT (nor_self _) (andT (nor_self _) rfl)) ?_ | (refine As.mk ?_ ?_; · ((repeat' (refine andT ?_ ?_)) <;> (first | rfl | assumption | exact decide_eq_true (by omega) | exact decide_eq_true (by dsimp only; omega) | exact decide_eq_true (by simp; omega) | (simp; done))))) | (refine LetV.pre ?_; first | refine LetV.mk (.sc (.int _ _)) rfl ?_ | refine LetV.mk (.sc (.bool _)) rfl ?_ | refine LetV.mk (.sc _) rfl ?_ | refine LetV.mk (.agg _) rfl ?_ | refine LetV.mk (.slm _ _ _ _ _) rfl ?_ | refine LetV.mk (.ro _ _ _) rfl ?_ | refine LetV.mk (.ptr _ _ _ _) rfl ?_ | refine LetV.mk (.clo _ _ _) rfl ?_ | refine LetV.mk (.rp _ _) rfl ?_) | (refine LetI.pre ?_; first | refine LetI.wrap (by omega) (by omega) ?_ | refine LetI.mk _ rfl ?_) | (refine LetB.pre ?_; first | refine LetB.tt rfl ?_ | refine LetB.ff rfl ?_ | refine LetB.tt (by assumption) ?_ | refine LetB.ff (by assumption) ?_ | refine LetB.dect (by omega) ?_ | refine LetB.decf (by omega) ?_ | refine LetB.beqt (by omega) ?_ | refine LetB.beqf (by omega) ?_ | refine LetB.bnet (by omega) ?_ | refine LetB.bnef (by omega) ?_ | refine LetB.mk _ rfl ?_) | (refine Gd.pre ?_; first | refine Gd.run rfl ?_ | refine Gd.pass rfl ?_ | refine Gd.run (by assumption) ?_ | refine Gd.pass (by assumption) ?_ | (refine Gd.run ?_ ?_; · decide +kernel) | (refine Gd.pass ?_ ?_; · decide +kernel) | refine Gd.both ?_) | (refine Br.pre ?_; first | refine Br.tt rfl ?_ | refine Br.ff rfl ?_ | refine Br.tt (by assumption) ?_ | refine Br.ff (by assumption) ?_ | (refine Br.tt ?_ ?_; · decide +kernel) | (refine Br.ff ?_ ?_; · decide +kernel)) | (refine Ck.pre ?_; first | refine Ck.drawn (by kernel_rfl) ?_ | refine Ck.mk rfl ?_) | (refine LetL.pre ?_; first | refine LetL.mk (ty := fty) _ a1' ?_ | refine LetL.mk [_] rfl ?_ | refine LetL.mk _ rfl ?_) | refine forceAs.pass ?_ | refine forceEs.pass ?_ | refine forceC.pass ?_))); (try (conv => whnf)))
    refine VS.of_V T_ok mixed rfl ?_
    ((repeat ((conv => whnf); (first | (refine LetN.pre ?_; first | ((conv => arg 1; whnf); refine LetN.mk ?_)) | (refine As.pre ?_; first | refine As.mk rfl ?_ | (refine As.mk ?_ ?_; · decide +kernel) | refine As.mk (andT (nor_self _) rfl) ?_ | refine As.mk (andT (nor_self _) (or_t _)) ?_ | refine As.mk (andT (or_t _) (or_nself _)) ?_ | refine As.mk (andT (or_t _) (or_t _)) ?_ | refine As.mk (andT (nor_self _) (andT (nor_self _) rfl)) ?_ | (refine As.mk ?_ ?_; · ((repeat' (refine andT ?_ ?_)) <;> (first | rfl | assumption | exact decide_eq_true (by omega) | exact decide_eq_true (by dsimp only; omega) | exact decide_eq_true (by simp; omega) | (simp; done))))) | (refine LetV.pre ?_; first | refine LetV.mk (.sc (.int _ _)) rfl ?_ | refine LetV.mk (.sc (.bool _)) rfl ?_ | refine LetV.mk (.sc _) rfl ?_ | refine LetV.mk (.agg _) rfl ?_ | refine LetV.mk (.slm _ _ _ _ _) rfl ?_ | refine LetV.mk (.ro _ _ _) rfl ?_ | refine LetV.mk (.ptr _ _ _ _) rfl ?_ | refine LetV.mk (.clo _ _ _) rfl ?_ | refine LetV.mk (.rp _ _) rfl ?_) | (refine LetI.pre ?_; first | refine LetI.wrap (by omega) (by omega) ?_ | refine LetI.mk _ rfl ?_) | (refine LetB.pre ?_; first | refine LetB.tt rfl ?_ | refine LetB.ff rfl ?_ | refine LetB.tt (by assumption) ?_ | refine LetB.ff (by assumption) ?_ | refine LetB.dect (by omega) ?_ | refine LetB.decf (by omega) ?_ | refine LetB.beqt (by omega) ?_ | refine LetB.beqf (by omega) ?_ | refine LetB.bnet (by omega) ?_ | refine LetB.bnef (by omega) ?_ | refine LetB.mk _ rfl ?_) | (refine Gd.pre ?_; first | refine Gd.run rfl ?_ | refine Gd.pass rfl ?_ | refine Gd.run (by assumption) ?_ | refine Gd.pass (by assumption) ?_ | (refine Gd.run ?_ ?_; · decide +kernel) | (refine Gd.pass ?_ ?_; · decide +kernel) | refine Gd.both ?_) | (refine Br.pre ?_; first | refine Br.tt rfl ?_ | refine Br.ff rfl ?_ | refine Br.tt (by assumption) ?_ | refine Br.ff (by assumption) ?_ | (refine Br.tt ?_ ?_; · decide +kernel) | (refine Br.ff ?_ ?_; · decide +kernel)) | (refine Ck.pre ?_; first | refine Ck.drawn (by kernel_rfl) ?_ | refine Ck.mk rfl ?_) | (refine LetL.pre ?_; first | refine LetL.mk [_] rfl ?_ | refine LetL.mk _ rfl ?_) | refine forceAs.pass ?_ | refine forceEs.pass ?_ | refine forceC.pass ?_))); (try (conv => whnf)))
    refine LoopN.weak ?sw4 hnf
    case sw4 => exact SW.mk (fun _ => 3) rfl rfl (namesAll.row (pure_fa _) rfl) ⟨.refl _, VLe2.slm_of l1', VLe2.int (by omega), trivial⟩ (haveV.row (pure_fa _) rfl trivial)
theorem Made24_f (L : List (Fl × List Int)) (fl : Fl) (hL : L.length ≤ 9223372036854775807) (hx : ∀ x ∈ L, x.2.length ≤ 9223372036854775807) : ∃ l : List Fa, (l.length ≤ 12 ∧ ∀ f ∈ l, MFa f) ∧
    AFun Tryd.prog 7 0 [.ro fl 1 (L.map iA)] [] (.ro {} 7 (l.map fa)) [] := by
  obtain ⟨l, h, hM⟩ := Made24_s L fl hL hx
  exact ⟨l, h, AFun.frz1 (H := []) hM rfl (pure_fa _) (by simp)⟩
end En
end Go.Proofs.YtgnakhljdjekbaaDoor
namespace Go.Proofs.YtgnakhljdjekbaaDoor
open Go.Proofs.YtgnakhljdjekbaaDoor.Am
set_option maxRecDepth 100000
namespace En
/-! ### AppealTexts -/
abbrev u8 (n : Int) : AV := .sc (.int .u8 n)
abbrev andI (n m : Int) : Int := IntKind.i64.wrap ((BitVec.ofInt 64 n) &&& (BitVec.ofInt 64 m)).toNat
def cgN (f : Fa) (n : Int) : Cg := ⟨f, andI n 1 == 1, andI n 2 == 2, n.tdiv 4⟩
def cgZ (f : Fa) : Cg := ⟨f, false, false, 0⟩
/-- What is known of a made change. -/
structure MC (c : Cg) : Prop where
  f : MFa c.f
  e : 0 ≤ c.entry ∧ c.entry < 100
theorem MC.itoa {c : Cg} (h : MC c) : ∀ n, n ∈ [c.f.student, c.f.id, c.f.term, c.f.n, c.f.school, c.entry] → 0 ≤ n ∧ n < 100 := fun n hn => by
  have h1 := h.f.student
  have h2 := h.f.id
  have h3 := h.f.term
  have h4 := h.f.n
  have h5 := h.f.school
  have h6 := h.e
  simp only [List.mem_cons, List.not_mem_nil, or_false] at hn
  omega
theorem TextM_f {c : Cg} (h : MC c) : AFun Tryd.prog 13 0 [cgA c] [] (str (textP c)) [] :=
  Text_f c (fun n hn => ItoaS_f n (h.itoa n hn)) (fun n hn => okI_small (h.itoa n hn)) (by have := h.f.size; omega)
theorem str_eq {s t : ByteArray} : (s.toList == t.toList) = decide (s = t) := by
  rw [Bool.eq_iff_iff, beq_iff_eq, decide_eq_true_eq, ByteArray.toList_eq, ByteArray.toList_eq]
  exact ⟨fun h => ByteArray.ext (Array.ext' h), fun h => by rw [h]⟩
theorem str_ne {s t : ByteArray} (h : ¬ s = t) : (s.toList == t.toList) = false := by rw [str_eq, decide_eq_false h]
theorem fact_eq (a b : Fa) : (a.kind == b.kind && (a.student == b.student && (a.id == b.id && (a.term == b.term && (a.n == b.n && (a.school == b.school && (a.code.toList == b.code.toList && true) && true)))))) = decide (a = b) := by
  rw [str_eq, Bool.eq_iff_iff, decide_eq_true_eq]
  simp only [Bool.and_eq_true, beq_iff_eq, decide_eq_true_eq, and_true]
  obtain ⟨a1, a2, a3, a4, a5, a6, a7⟩ := a
  obtain ⟨b1, b2, b3, b4, b5, b6, b7⟩ := b
  simp only [Fa.mk.injEq]
theorem cg_eq (a b : Cg) : (a.f.kind == b.f.kind && (a.f.student == b.f.student && (a.f.id == b.f.id && (a.f.term == b.f.term && (a.f.n == b.f.n && (a.f.school == b.f.school && (a.f.code.toList == b.f.code.toList && true) && true))))) && (a.gone == b.gone && (a.kept == b.kept && (a.entry == b.entry && true)))) = decide (a = b) := by
  rw [fact_eq, Bool.eq_iff_iff, decide_eq_true_eq]
  simp only [Bool.and_eq_true, beq_iff_eq, decide_eq_true_eq, and_true]
  obtain ⟨a1, a2, a3, a4⟩ := a
  obtain ⟨b1, b2, b3, b4⟩ := b
  simp only [Cg.mk.injEq]
abbrev tx1S (M : List Fa) (es : List Int) : Nat × List Cg → AS
  | (k, O) => ⟨[(1, .ro {} 1 (es.map u8)), (5, bool true), (6, .slm {} 0 10 0 O.length), (17, .ro {} 7 (M.map fa)), (18, int M.length), (19, int k)], [(0, rwC O)], 1⟩
abbrev tx2S (O : List Cg) : AS := ⟨[(5, bool true), (6, .slm {} 0 10 0 O.length)], [(0, rwC O)], 1⟩
abbrev tx2R (O : List Cg) : AS := ⟨[(5, bool true), (6, .ro {} 10 (O.map cgA))], [], 1⟩
abbrev tx3S (O : List Cg) (j : Nat) : AS := ⟨[(5, bool true), (6, .ro {} 10 (O.map cgA)), (51, .ro {} 10 (O.map cgA)), (52, int O.length), (53, int j)], [], 1⟩
abbrev tx4S (O : List Cg) (j : Nat) (a : Cg) (i : Nat) : AS := ⟨[(5, bool true), (6, .ro {} 10 (O.map cgA)), (12, .ptr 0 10 0 0), (51, .ro {} 10 (O.map cgA)), (52, int O.length), (53, int j), (57, .ro {} 10 (O.map cgA)), (58, int O.length), (59, int i)], [(0, .row 10 cty [cgA a])], 1⟩
theorem txFrz {x z : Nat} (O : List Cg) : SW x z (tx2S O) (tx2R O) := by
  have h := SW.frz (p := x) (n := z) (s := tx2S O) [0] ?_ ?_ ?_
  · have e : (⟨frFrz (tx2S O).H [0].contains (tx2S O).fr, AH.frz (tx2S O).H (tx2S O).H [0].contains, (tx2S O).nx⟩ : AS) = tx2R O := by
      refine congr (congr (congrArg AS.mk ?_) ?_) rfl
      · simp [frFrz, AV.frz, AH.get]
        exact List.take_of_length_le (by simp)
      · rfl
    exact e ▸ h
  · simp [rowsOk, AH.get, pure_cg]
  · rfl
  · simp [frFrzOk, AV.frzOk, AH.get]
abbrev cg0 : Cg := ⟨fa0, false, false, 0⟩
theorem cg_ld {l : List Cg} {k : Nat} (h : k < l.length) : cgA (l.getD k cg0) = (l.map cgA).getD k (.sc undef) := mapD cg0 h
set_option maxHeartbeats 3200000 in
set_option maxRecDepth 100000 in
theorem textsLaw_f (L : List (Fl × List Int)) (es : List Int) (hL : L.length ≤ 9223372036854775807) (hx : ∀ x ∈ L, x.2.length ≤ 9223372036854775807) (he : es.length ≤ 9223372036854775807) (hb : ∀ n ∈ es, 0 ≤ n ∧ n ≤ 255) :
    AFun Tryd.prog 5 0 [.ro {} 1 (L.map iA), .ro {} 1 (es.map u8)] [] (bool true) [] := by
  obtain ⟨M, ⟨hl, hM⟩, hMade⟩ := Made24_f L {} hL hx
  have hmM : (M.map fa).length = M.length := List.length_map _
  have hme : (es.map u8).length = es.length := List.length_map _
  refine AFun.of_VS T_ok Tryd.func5 rfl (Nat.le_of_ble_eq_true rfl) ?_
  refine VS.cut T_ok mixed rfl ?_
  ((repeat ((conv => whnf); (first | (refine LetN.pre ?_; first | ((conv => arg 1; whnf); refine LetN.mk ?_)) | (refine As.pre ?_; first | refine As.mk rfl ?_ | (refine As.mk ?_ ?_; · decide +kernel) | refine As.mk (andT (nor_self _) rfl) ?_ | refine As.mk (andT (nor_self _) (or_t _)) ?_ | refine As.mk (andT (or_t _) (or_nself _)) ?_ | refine As.mk (andT (or_t _) (or_t _)) ?_ | refine As.mk (andT (nor_self _) (andT (nor_self _) rfl)) ?_ | (refine As.mk ?_ ?_; · ((repeat' (refine andT ?_ ?_)) <;> (first | rfl | assumption | exact decide_eq_true (by omega) | exact decide_eq_true (by dsimp only; omega) | exact decide_eq_true (by simp; omega) | (simp; done))))) | (refine LetV.pre ?_; first | refine LetV.mk (.sc (.int _ _)) rfl ?_ | refine LetV.mk (.sc (.bool _)) rfl ?_ | refine LetV.mk (.sc _) rfl ?_ | refine LetV.mk (.agg _) rfl ?_ | refine LetV.mk (.slm _ _ _ _ _) rfl ?_ | refine LetV.mk (.ro _ _ _) rfl ?_ | refine LetV.mk (.ptr _ _ _ _) rfl ?_ | refine LetV.mk (.clo _ _ _) rfl ?_ | refine LetV.mk (.rp _ _) rfl ?_) | (refine LetI.pre ?_; first | refine LetI.wrap (by omega) (by omega) ?_ | refine LetI.mk _ rfl ?_) | (refine LetB.pre ?_; first | refine LetB.tt rfl ?_ | refine LetB.ff rfl ?_ | refine LetB.tt (by assumption) ?_ | refine LetB.ff (by assumption) ?_ | refine LetB.dect (by omega) ?_ | refine LetB.decf (by omega) ?_ | refine LetB.beqt (by omega) ?_ | refine LetB.beqf (by omega) ?_ | refine LetB.bnet (by omega) ?_ | refine LetB.bnef (by omega) ?_ | refine LetB.mk _ rfl ?_) | (refine Gd.pre ?_; first | refine Gd.run rfl ?_ | refine Gd.pass rfl ?_ | refine Gd.run (by assumption) ?_ | refine Gd.pass (by assumption) ?_ | (refine Gd.run ?_ ?_; · decide +kernel) | (refine Gd.pass ?_ ?_; · decide +kernel) | refine Gd.both ?_) | (refine Br.pre ?_; first | refine Br.tt rfl ?_ | refine Br.ff rfl ?_ | refine Br.tt (by assumption) ?_ | refine Br.ff (by assumption) ?_ | (refine Br.tt ?_ ?_; · decide +kernel) | (refine Br.ff ?_ ?_; · decide +kernel)) | (refine Ck.pre ?_; first | refine Ck.drawn (by kernel_rfl) ?_ | refine Ck.mk rfl ?_) | (refine LetL.pre ?_; first | refine LetL.mk [_] rfl ?_ | refine LetL.mk _ rfl ?_) | refine forceAs.pass ?_ | refine forceEs.pass ?_ | refine forceC.pass ?_))); (try (conv => whnf)))
  refine VS.cut T_ok mixed rfl ?_
  ((repeat ((conv => whnf); (first | (refine LetN.pre ?_; first | ((conv => arg 1; whnf); refine LetN.mk ?_)) | (refine As.pre ?_; first | refine As.mk rfl ?_ | (refine As.mk ?_ ?_; · decide +kernel) | refine As.mk (andT (nor_self _) rfl) ?_ | refine As.mk (andT (nor_self _) (or_t _)) ?_ | refine As.mk (andT (or_t _) (or_nself _)) ?_ | refine As.mk (andT (or_t _) (or_t _)) ?_ | refine As.mk (andT (nor_self _) (andT (nor_self _) rfl)) ?_ | (refine As.mk ?_ ?_; · ((repeat' (refine andT ?_ ?_)) <;> (first | rfl | assumption | exact decide_eq_true (by omega) | exact decide_eq_true (by dsimp only; omega) | exact decide_eq_true (by simp; omega) | (simp; done))))) | (refine LetV.pre ?_; first | refine LetV.mk (.sc (.int _ _)) rfl ?_ | refine LetV.mk (.sc (.bool _)) rfl ?_ | refine LetV.mk (.sc _) rfl ?_ | refine LetV.mk (.agg _) rfl ?_ | refine LetV.mk (.slm _ _ _ _ _) rfl ?_ | refine LetV.mk (.ro _ _ _) rfl ?_ | refine LetV.mk (.ptr _ _ _ _) rfl ?_ | refine LetV.mk (.clo _ _ _) rfl ?_ | refine LetV.mk (.rp _ _) rfl ?_) | (refine LetI.pre ?_; first | refine LetI.wrap (by omega) (by omega) ?_ | refine LetI.mk _ rfl ?_) | (refine LetB.pre ?_; first | refine LetB.tt rfl ?_ | refine LetB.ff rfl ?_ | refine LetB.tt (by assumption) ?_ | refine LetB.ff (by assumption) ?_ | refine LetB.dect (by omega) ?_ | refine LetB.decf (by omega) ?_ | refine LetB.beqt (by omega) ?_ | refine LetB.beqf (by omega) ?_ | refine LetB.bnet (by omega) ?_ | refine LetB.bnef (by omega) ?_ | refine LetB.mk _ rfl ?_) | (refine Gd.pre ?_; first | refine Gd.run rfl ?_ | refine Gd.pass rfl ?_ | refine Gd.run (by assumption) ?_ | refine Gd.pass (by assumption) ?_ | (refine Gd.run ?_ ?_; · decide +kernel) | (refine Gd.pass ?_ ?_; · decide +kernel) | refine Gd.both ?_) | (refine Br.pre ?_; first | refine Br.tt rfl ?_ | refine Br.ff rfl ?_ | refine Br.tt (by assumption) ?_ | refine Br.ff (by assumption) ?_ | (refine Br.tt ?_ ?_; · decide +kernel) | (refine Br.ff ?_ ?_; · decide +kernel)) | (refine Ck.pre ?_; first | refine Ck.drawn (by kernel_rfl) ?_ | refine Ck.mk rfl ?_) | (refine LetL.pre ?_; first | refine LetL.mk [_] rfl ?_ | refine LetL.mk _ rfl ?_) | (refine CallN.pre ?_; first | refine CallN.pure sanity_f rfl rfl ?_) | refine forceAs.pass ?_ | refine forceEs.pass ?_ | refine forceC.pass ?_))); (try (conv => whnf)))
  refine VS.cut T_ok mixed rfl ?_
  ((repeat ((conv => whnf); (first | (refine LetN.pre ?_; first | ((conv => arg 1; whnf); refine LetN.mk ?_)) | (refine As.pre ?_; first | refine As.mk rfl ?_ | (refine As.mk ?_ ?_; · decide +kernel) | refine As.mk (andT (nor_self _) rfl) ?_ | refine As.mk (andT (nor_self _) (or_t _)) ?_ | refine As.mk (andT (or_t _) (or_nself _)) ?_ | refine As.mk (andT (or_t _) (or_t _)) ?_ | refine As.mk (andT (nor_self _) (andT (nor_self _) rfl)) ?_ | (refine As.mk ?_ ?_; · ((repeat' (refine andT ?_ ?_)) <;> (first | rfl | assumption | exact decide_eq_true (by omega) | exact decide_eq_true (by dsimp only; omega) | exact decide_eq_true (by simp; omega) | (simp; done))))) | (refine LetV.pre ?_; first | refine LetV.mk (.sc (.int _ _)) rfl ?_ | refine LetV.mk (.sc (.bool _)) rfl ?_ | refine LetV.mk (.sc _) rfl ?_ | refine LetV.mk (.agg _) rfl ?_ | refine LetV.mk (.slm _ _ _ _ _) rfl ?_ | refine LetV.mk (.ro _ _ _) rfl ?_ | refine LetV.mk (.ptr _ _ _ _) rfl ?_ | refine LetV.mk (.clo _ _ _) rfl ?_ | refine LetV.mk (.rp _ _) rfl ?_) | (refine LetI.pre ?_; first | refine LetI.wrap (by omega) (by omega) ?_ | refine LetI.mk _ rfl ?_) | (refine LetB.pre ?_; first | refine LetB.tt rfl ?_ | refine LetB.ff rfl ?_ | refine LetB.tt (by assumption) ?_ | refine LetB.ff (by assumption) ?_ | refine LetB.dect (by omega) ?_ | refine LetB.decf (by omega) ?_ | refine LetB.beqt (by omega) ?_ | refine LetB.beqf (by omega) ?_ | refine LetB.bnet (by omega) ?_ | refine LetB.bnef (by omega) ?_ | refine LetB.mk _ rfl ?_) | (refine Gd.pre ?_; first | refine Gd.run rfl ?_ | refine Gd.pass rfl ?_ | refine Gd.run (by assumption) ?_ | refine Gd.pass (by assumption) ?_ | (refine Gd.run ?_ ?_; · decide +kernel) | (refine Gd.pass ?_ ?_; · decide +kernel) | refine Gd.both ?_) | (refine Br.pre ?_; first | refine Br.tt rfl ?_ | refine Br.ff rfl ?_ | refine Br.tt (by assumption) ?_ | refine Br.ff (by assumption) ?_ | (refine Br.tt ?_ ?_; · decide +kernel) | (refine Br.ff ?_ ?_; · decide +kernel)) | (refine Ck.pre ?_; first | refine Ck.drawn (by kernel_rfl) ?_ | refine Ck.mk rfl ?_) | (refine LetL.pre ?_; first | refine LetL.mk [_] rfl ?_ | refine LetL.mk _ rfl ?_) | refine forceAs.pass ?_ | refine forceEs.pass ?_ | refine forceC.pass ?_))); (try (conv => whnf)))
  refine VS.joinN (fun O : List Cg => tx2S O) (fun O => O.length ≤ 12 ∧ ∀ c ∈ O, MC c) ?loop1 ?rest
  case loop1 =>
    refine VS.of_V T_ok mixed rfl ?_
    ((repeat ((conv => whnf); (first | (refine LetN.pre ?_; first | ((conv => arg 1; whnf); refine LetN.mk ?_)) | (refine As.pre ?_; first | refine As.mk rfl ?_ | (refine As.mk ?_ ?_; · decide +kernel) | refine As.mk (andT (nor_self _) rfl) ?_ | refine As.mk (andT (nor_self _) (or_t _)) ?_ | refine As.mk (andT (or_t _) (or_nself _)) ?_ | refine As.mk (andT (or_t _) (or_t _)) ?_ | refine As.mk (andT (nor_self _) (andT (nor_self _) rfl)) ?_ | (refine As.mk ?_ ?_; · ((repeat' (refine andT ?_ ?_)) <;> (first | rfl | assumption | exact decide_eq_true (by omega) | exact decide_eq_true (by dsimp only; omega) | exact decide_eq_true (by simp; omega) | (simp; done))))) | (refine LetV.pre ?_; first | refine LetV.mk (.sc (.int _ _)) rfl ?_ | refine LetV.mk (.sc (.bool _)) rfl ?_ | refine LetV.mk (.sc _) rfl ?_ | refine LetV.mk (.agg _) rfl ?_ | refine LetV.mk (.slm _ _ _ _ _) rfl ?_ | refine LetV.mk (.ro _ _ _) rfl ?_ | refine LetV.mk (.ptr _ _ _ _) rfl ?_ | refine LetV.mk (.clo _ _ _) rfl ?_ | refine LetV.mk (.rp _ _) rfl ?_) | (refine LetI.pre ?_; first | refine LetI.wrap (by omega) (by omega) ?_ | refine LetI.mk _ rfl ?_) | (refine LetB.pre ?_; first | refine LetB.tt rfl ?_ | refine LetB.ff rfl ?_ | refine LetB.tt (by assumption) ?_ | refine LetB.ff (by assumption) ?_ | refine LetB.dect (by omega) ?_ | refine LetB.decf (by omega) ?_ | refine LetB.beqt (by omega) ?_ | refine LetB.beqf (by omega) ?_ | refine LetB.bnet (by omega) ?_ | refine LetB.bnef (by omega) ?_ | refine LetB.mk _ rfl ?_) | (refine Gd.pre ?_; first | refine Gd.run rfl ?_ | refine Gd.pass rfl ?_ | refine Gd.run (by assumption) ?_ | refine Gd.pass (by assumption) ?_ | (refine Gd.run ?_ ?_; · decide +kernel) | (refine Gd.pass ?_ ?_; · decide +kernel) | refine Gd.both ?_) | (refine Br.pre ?_; first | refine Br.tt rfl ?_ | refine Br.ff rfl ?_ | refine Br.tt (by assumption) ?_ | refine Br.ff (by assumption) ?_ | (refine Br.tt ?_ ?_; · decide +kernel) | (refine Br.ff ?_ ?_; · decide +kernel)) | (refine Ck.pre ?_; first | refine Ck.drawn (by kernel_rfl) ?_ | refine Ck.mk rfl ?_) | (refine LetL.pre ?_; first | refine LetL.mk [_] rfl ?_ | refine LetL.mk _ rfl ?_) | (refine CallN.pre ?_; first | refine CallN.pure hMade rfl rfl ?_) | refine forceAs.pass ?_ | refine forceEs.pass ?_ | refine forceC.pass ?_))); (try (conv => whnf)))
    clear hMade
    refine LoopN.weak (s1 := tx1S M es (0, [])) ?sw1 ?_
    case sw1 => exact SW.mk id rfl rfl rfl ⟨.refl _, .refl _, VLe2.nilslm, .refl _, VLe2.int (by rw [hmM]), .refl _, trivial⟩ (haveV.nil (Nat.le_of_ble_eq_true rfl) trivial)
    refine LoopN.ind T_ok mixed (S := tx1S M es) (fun i => M.length - i.1) (fun i => i.1 ≤ M.length ∧ i.2.length = i.1 ∧ ∀ c ∈ i.2, MC c) (fun _ => rfl) (fun i hi ih => ?_) (0, []) ⟨Nat.zero_le _, rfl, fun c h => absurd h List.not_mem_nil⟩
    obtain ⟨k, O⟩ := i
    obtain ⟨h1, h2, h3⟩ := hi
    dsimp only at h1 h2 h3
    by_cases hlt : k < M.length
    case neg =>
      clear ih
      ((repeat ((conv => whnf); (first | (refine LetN.pre ?_; first | ((conv => arg 1; whnf); refine LetN.mk ?_)) | (refine As.pre ?_; first | refine As.mk rfl ?_ | (refine As.mk ?_ ?_; · decide +kernel) | refine As.mk (andT (nor_self _) rfl) ?_ | refine As.mk (andT (nor_self _) (or_t _)) ?_ | refine As.mk (andT (or_t _) (or_nself _)) ?_ | refine As.mk (andT (or_t _) (or_t _)) ?_ | refine As.mk (andT (nor_self _) (andT (nor_self _) rfl)) ?_ | (refine As.mk ?_ ?_; · ((repeat' (refine andT ?_ ?_)) <;> (first | rfl | assumption | exact decide_eq_true (by omega) | exact decide_eq_true (by dsimp only; omega) | exact decide_eq_true (by simp; omega) | (simp; done))))) | (refine LetV.pre ?_; first | refine LetV.mk (.sc (.int _ _)) rfl ?_ | refine LetV.mk (.sc (.bool _)) rfl ?_ | refine LetV.mk (.sc _) rfl ?_ | refine LetV.mk (.agg _) rfl ?_ | refine LetV.mk (.slm _ _ _ _ _) rfl ?_ | refine LetV.mk (.ro _ _ _) rfl ?_ | refine LetV.mk (.ptr _ _ _ _) rfl ?_ | refine LetV.mk (.clo _ _ _) rfl ?_ | refine LetV.mk (.rp _ _) rfl ?_) | (refine LetI.pre ?_; first | refine LetI.wrap (by omega) (by omega) ?_ | refine LetI.mk _ rfl ?_) | (refine LetB.pre ?_; first | refine LetB.tt rfl ?_ | refine LetB.ff rfl ?_ | refine LetB.tt (by assumption) ?_ | refine LetB.ff (by assumption) ?_ | refine LetB.dect (by omega) ?_ | refine LetB.decf (by omega) ?_ | refine LetB.beqt (by omega) ?_ | refine LetB.beqf (by omega) ?_ | refine LetB.bnet (by omega) ?_ | refine LetB.bnef (by omega) ?_ | refine LetB.mk _ rfl ?_) | (refine Gd.pre ?_; first | refine Gd.run rfl ?_ | refine Gd.pass rfl ?_ | refine Gd.run (by assumption) ?_ | refine Gd.pass (by assumption) ?_ | (refine Gd.run ?_ ?_; · decide +kernel) | (refine Gd.pass ?_ ?_; · decide +kernel) | refine Gd.both ?_) | (refine Br.pre ?_; first | refine Br.tt rfl ?_ | refine Br.ff rfl ?_ | refine Br.tt (by assumption) ?_ | refine Br.ff (by assumption) ?_ | (refine Br.tt ?_ ?_; · decide +kernel) | (refine Br.ff ?_ ?_; · decide +kernel)) | (refine Ck.pre ?_; first | refine Ck.drawn (by kernel_rfl) ?_ | refine Ck.mk rfl ?_) | (refine LetL.pre ?_; first | refine LetL.mk [_] rfl ?_ | refine LetL.mk _ rfl ?_) | refine forceAs.pass ?_ | refine forceEs.pass ?_ | refine forceC.pass ?_))); (try (conv => whnf)))
      exact ⟨rfl, O, ⟨by omega, h3⟩, SW.mk id rfl rfl (namesAll.row (pure_cg _) rfl) ⟨.refl _, .refl _, trivial⟩ (haveV.row (pure_cg _) rfl trivial)⟩
    have hld := fa_ld hlt
    have hMf := hM _ (getD_memF hlt)
    have hnx : ∀ c, MC c → _ := fun c hc => ih (k + 1, O ++ [c]) ⟨hlt, by dsimp only; rw [List.length_append, h2]; rfl, fun g hg => by
      rcases List.mem_append.1 hg with hg | hg
      · exact h3 g hg
      · rw [List.mem_singleton.1 hg]; exact hc⟩ (by show M.length - (k + 1) < M.length - k; omega)
    clear ih h3 hM
    generalize M.getD k fa0 = f at hld hMf
    have r1 := room_cg (n := O.length + 1) (by omega)
    by_cases hke : k < es.length
    · have hln : u8 (es.getD k 0) = (es.map u8).getD k (.sc undef) := mapD 0 hke
      have hbn := hb (es.getD k 0) (by rw [List.getD_eq_getElem?_getD, List.getElem?_eq_getElem hke]; exact List.getElem_mem _)
      generalize es.getD k 0 = n at hln hbn
      have a1 := app_cg O (cgN f n) O.length rfl
      have l1 : (O ++ [cgN f n]).length = O.length + 1 := by simp
      have hmc : MC (cgN f n) := ⟨hMf, by
        show 0 ≤ n.tdiv 4 ∧ n.tdiv 4 < 100
        rw [Int.tdiv_eq_ediv_of_nonneg hbn.1]; omega⟩
      have hw : n = IntKind.i64.wrap n := (wrap_id (by omega) (by omega)).symm
      obtain ⟨q, hq⟩ : ∃ q, q = n.tdiv 4 := ⟨_, rfl⟩
      have hq1 : q = IntKind.i64.wrap (n.tdiv 4) := by
        rw [hq, wrap_id] <;> rw [Int.tdiv_eq_ediv_of_nonneg hbn.1] <;> omega
      have hnf := hnx _ hmc
      clear hnx hb
      unfold cgN at a1 l1 hnf
      rw [← hq] at a1 l1 hnf
      clear hmc
      ((repeat ((conv => whnf); (first | (refine LetN.pre ?_; first | ((conv => arg 1; whnf); refine LetN.mk ?_)) | (refine As.pre ?_; first | refine As.mk rfl ?_ | (refine As.mk ?_ ?_; · decide +kernel) | refine As.mk (andT (nor_self _) rfl) ?_ | refine As.mk (andT (nor_self _) (or_t _)) ?_ | refine As.mk (andT (or_t _) (or_nself _)) ?_ | refine As.mk (andT (or_t _) (or_t _)) ?_ | refine As.mk (andT (nor_self _) (andT (nor_self _) rfl)) ?_ | (refine As.mk ?_ ?_; · ((repeat' (refine andT ?_ ?_)) <;> (first | rfl | assumption | exact decide_eq_true (by omega) | exact decide_eq_true (by dsimp only; omega) | exact decide_eq_true (by simp; omega) | (simp; done))))) | (refine LetV.pre ?_; first | refine LetV.mk (t := fsl) _ hld ?_ | refine LetV.mk (t := 51) _ hln ?_ | refine LetV.mk (.sc (.int _ _)) rfl ?_ | refine LetV.mk (.sc (.bool _)) rfl ?_ | refine LetV.mk (.sc _) rfl ?_ | refine LetV.mk (.agg _) rfl ?_ | refine LetV.mk (.slm _ _ _ _ _) rfl ?_ | refine LetV.mk (.ro _ _ _) rfl ?_ | refine LetV.mk (.ptr _ _ _ _) rfl ?_ | refine LetV.mk (.clo _ _ _) rfl ?_ | refine LetV.mk (.rp _ _) rfl ?_) | (refine LetI.pre ?_; first | refine LetI.mk (o := none) n hw ?_ | refine LetI.mk (o := some .quo) q hq1 ?_ | refine LetI.wrap (by omega) (by omega) ?_ | refine LetI.mk _ rfl ?_) | (refine LetB.pre ?_; first | refine LetB.tt rfl ?_ | refine LetB.ff rfl ?_ | refine LetB.tt (by assumption) ?_ | refine LetB.ff (by assumption) ?_ | refine LetB.dect (by omega) ?_ | refine LetB.decf (by omega) ?_ | refine LetB.beqt (by omega) ?_ | refine LetB.beqf (by omega) ?_ | refine LetB.bnet (by omega) ?_ | refine LetB.bnef (by omega) ?_ | refine LetB.mk _ rfl ?_) | (refine Gd.pre ?_; first | refine Gd.run rfl ?_ | refine Gd.pass rfl ?_ | refine Gd.run (by assumption) ?_ | refine Gd.pass (by assumption) ?_ | (refine Gd.run ?_ ?_; · decide +kernel) | (refine Gd.pass ?_ ?_; · decide +kernel) | refine Gd.both ?_) | (refine Br.pre ?_; first | refine Br.tt rfl ?_ | refine Br.ff rfl ?_ | refine Br.tt (by assumption) ?_ | refine Br.ff (by assumption) ?_ | (refine Br.tt ?_ ?_; · decide +kernel) | (refine Br.ff ?_ ?_; · decide +kernel)) | (refine Ck.pre ?_; first | refine Ck.drawn (by kernel_rfl) ?_ | refine Ck.mk rfl ?_) | (refine LetL.pre ?_; first | refine LetL.mk (ty := cty) _ a1 ?_ | refine LetL.mk [_] rfl ?_ | refine LetL.mk _ rfl ?_) | refine forceAs.pass ?_ | refine forceEs.pass ?_ | refine forceC.pass ?_))); (try (conv => whnf)))





      refine LoopN.weak ?sw2 hnf
      case sw2 => exact SW.mk (fun _ => 3) rfl rfl (namesAll.row (pure_cg _) rfl) ⟨.refl _, .refl _, VLe2.slm_of l1, .refl _, .refl _, VLe2.int (by omega), trivial⟩ (haveV.row (pure_cg _) rfl trivial)
    · have a1 := app_cg O (cgZ f) O.length rfl
      have l1 : (O ++ [cgZ f]).length = O.length + 1 := by simp
      have hnf := hnx (cgZ f) ⟨hMf, (by decide : (0 : Int) ≤ 0 ∧ (0 : Int) < 100)⟩
      clear hnx hb
      unfold cgZ at a1 l1 hnf
      ((repeat ((conv => whnf); (first | (refine LetN.pre ?_; first | ((conv => arg 1; whnf); refine LetN.mk ?_)) | (refine As.pre ?_; first | refine As.mk rfl ?_ | (refine As.mk ?_ ?_; · decide +kernel) | refine As.mk (andT (nor_self _) rfl) ?_ | refine As.mk (andT (nor_self _) (or_t _)) ?_ | refine As.mk (andT (or_t _) (or_nself _)) ?_ | refine As.mk (andT (or_t _) (or_t _)) ?_ | refine As.mk (andT (nor_self _) (andT (nor_self _) rfl)) ?_ | (refine As.mk ?_ ?_; · ((repeat' (refine andT ?_ ?_)) <;> (first | rfl | assumption | exact decide_eq_true (by omega) | exact decide_eq_true (by dsimp only; omega) | exact decide_eq_true (by simp; omega) | (simp; done))))) | (refine LetV.pre ?_; first | refine LetV.mk (t := fsl) _ hld ?_ | refine LetV.mk (.sc (.int _ _)) rfl ?_ | refine LetV.mk (.sc (.bool _)) rfl ?_ | refine LetV.mk (.sc _) rfl ?_ | refine LetV.mk (.agg _) rfl ?_ | refine LetV.mk (.slm _ _ _ _ _) rfl ?_ | refine LetV.mk (.ro _ _ _) rfl ?_ | refine LetV.mk (.ptr _ _ _ _) rfl ?_ | refine LetV.mk (.clo _ _ _) rfl ?_ | refine LetV.mk (.rp _ _) rfl ?_) | (refine LetI.pre ?_; first | refine LetI.wrap (by omega) (by omega) ?_ | refine LetI.mk _ rfl ?_) | (refine LetB.pre ?_; first | refine LetB.tt rfl ?_ | refine LetB.ff rfl ?_ | refine LetB.tt (by assumption) ?_ | refine LetB.ff (by assumption) ?_ | refine LetB.dect (by omega) ?_ | refine LetB.decf (by omega) ?_ | refine LetB.beqt (by omega) ?_ | refine LetB.beqf (by omega) ?_ | refine LetB.bnet (by omega) ?_ | refine LetB.bnef (by omega) ?_ | refine LetB.mk _ rfl ?_) | (refine Gd.pre ?_; first | refine Gd.run rfl ?_ | refine Gd.pass rfl ?_ | refine Gd.run (by assumption) ?_ | refine Gd.pass (by assumption) ?_ | (refine Gd.run ?_ ?_; · decide +kernel) | (refine Gd.pass ?_ ?_; · decide +kernel) | refine Gd.both ?_) | (refine Br.pre ?_; first | refine Br.tt rfl ?_ | refine Br.ff rfl ?_ | refine Br.tt (by assumption) ?_ | refine Br.ff (by assumption) ?_ | (refine Br.tt ?_ ?_; · decide +kernel) | (refine Br.ff ?_ ?_; · decide +kernel)) | (refine Ck.pre ?_; first | refine Ck.drawn (by kernel_rfl) ?_ | refine Ck.mk rfl ?_) | (refine LetL.pre ?_; first | refine LetL.mk (ty := cty) _ a1 ?_ | refine LetL.mk [_] rfl ?_ | refine LetL.mk _ rfl ?_) | refine forceAs.pass ?_ | refine forceEs.pass ?_ | refine forceC.pass ?_))); (try (conv => whnf)))


      refine LoopN.weak ?sw3 hnf
      case sw3 => exact SW.mk (fun _ => 3) rfl rfl (namesAll.row (pure_cg _) rfl) ⟨.refl _, .refl _, VLe2.slm_of l1, .refl _, .refl _, VLe2.int (by omega), trivial⟩ (haveV.row (pure_cg _) rfl trivial)
  case rest =>
    rintro O ⟨hOl, hO⟩
    clear hMade hM hl hmM
    clear M
    have hmO : (O.map cgA).length = O.length := List.length_map _
    refine VS.weak (txFrz O) ?_
    refine VS.joinN (fun _ : Unit => tx2R O) (fun _ => True) ?loop2 ?fin
    case fin =>
      intro _ _
      refine VS.of_V T_ok mixed rfl ?_
      ((repeat ((conv => whnf); (first | (refine LetN.pre ?_; first | ((conv => arg 1; whnf); refine LetN.mk ?_)) | (refine As.pre ?_; first | refine As.mk rfl ?_ | (refine As.mk ?_ ?_; · decide +kernel) | refine As.mk (andT (nor_self _) rfl) ?_ | refine As.mk (andT (nor_self _) (or_t _)) ?_ | refine As.mk (andT (or_t _) (or_nself _)) ?_ | refine As.mk (andT (or_t _) (or_t _)) ?_ | refine As.mk (andT (nor_self _) (andT (nor_self _) rfl)) ?_ | (refine As.mk ?_ ?_; · ((repeat' (refine andT ?_ ?_)) <;> (first | rfl | assumption | exact decide_eq_true (by omega) | exact decide_eq_true (by dsimp only; omega) | exact decide_eq_true (by simp; omega) | (simp; done))))) | (refine LetV.pre ?_; first | refine LetV.mk (.sc (.int _ _)) rfl ?_ | refine LetV.mk (.sc (.bool _)) rfl ?_ | refine LetV.mk (.sc _) rfl ?_ | refine LetV.mk (.agg _) rfl ?_ | refine LetV.mk (.slm _ _ _ _ _) rfl ?_ | refine LetV.mk (.ro _ _ _) rfl ?_ | refine LetV.mk (.ptr _ _ _ _) rfl ?_ | refine LetV.mk (.clo _ _ _) rfl ?_ | refine LetV.mk (.rp _ _) rfl ?_) | (refine LetI.pre ?_; first | refine LetI.wrap (by omega) (by omega) ?_ | refine LetI.mk _ rfl ?_) | (refine LetB.pre ?_; first | refine LetB.tt rfl ?_ | refine LetB.ff rfl ?_ | refine LetB.tt (by assumption) ?_ | refine LetB.ff (by assumption) ?_ | refine LetB.dect (by omega) ?_ | refine LetB.decf (by omega) ?_ | refine LetB.beqt (by omega) ?_ | refine LetB.beqf (by omega) ?_ | refine LetB.bnet (by omega) ?_ | refine LetB.bnef (by omega) ?_ | refine LetB.mk _ rfl ?_) | (refine Gd.pre ?_; first | refine Gd.run rfl ?_ | refine Gd.pass rfl ?_ | refine Gd.run (by assumption) ?_ | refine Gd.pass (by assumption) ?_ | (refine Gd.run ?_ ?_; · decide +kernel) | (refine Gd.pass ?_ ?_; · decide +kernel) | refine Gd.both ?_) | (refine Br.pre ?_; first | refine Br.tt rfl ?_ | refine Br.ff rfl ?_ | refine Br.tt (by assumption) ?_ | refine Br.ff (by assumption) ?_ | (refine Br.tt ?_ ?_; · decide +kernel) | (refine Br.ff ?_ ?_; · decide +kernel)) | (refine Ck.pre ?_; first | refine Ck.drawn (by kernel_rfl) ?_ | refine Ck.mk rfl ?_) | (refine LetL.pre ?_; first | refine LetL.mk [_] rfl ?_ | refine LetL.mk _ rfl ?_) | refine forceAs.pass ?_ | refine forceEs.pass ?_ | refine forceC.pass ?_))); (try (conv => whnf)))
      exact ⟨_, SW.refl, .inl rfl, ⟨_, rfl, rfl⟩, trivial⟩
    case loop2 =>
      refine VS.of_V T_ok mixed rfl ?_
      ((repeat ((conv => whnf); (first | (refine LetN.pre ?_; first | ((conv => arg 1; whnf); refine LetN.mk ?_)) | (refine As.pre ?_; first | refine As.mk rfl ?_ | (refine As.mk ?_ ?_; · decide +kernel) | refine As.mk (andT (nor_self _) rfl) ?_ | refine As.mk (andT (nor_self _) (or_t _)) ?_ | refine As.mk (andT (or_t _) (or_nself _)) ?_ | refine As.mk (andT (or_t _) (or_t _)) ?_ | refine As.mk (andT (nor_self _) (andT (nor_self _) rfl)) ?_ | (refine As.mk ?_ ?_; · ((repeat' (refine andT ?_ ?_)) <;> (first | rfl | assumption | exact decide_eq_true (by omega) | exact decide_eq_true (by dsimp only; omega) | exact decide_eq_true (by simp; omega) | (simp; done))))) | (refine LetV.pre ?_; first | refine LetV.mk (.sc (.int _ _)) rfl ?_ | refine LetV.mk (.sc (.bool _)) rfl ?_ | refine LetV.mk (.sc _) rfl ?_ | refine LetV.mk (.agg _) rfl ?_ | refine LetV.mk (.slm _ _ _ _ _) rfl ?_ | refine LetV.mk (.ro _ _ _) rfl ?_ | refine LetV.mk (.ptr _ _ _ _) rfl ?_ | refine LetV.mk (.clo _ _ _) rfl ?_ | refine LetV.mk (.rp _ _) rfl ?_) | (refine LetI.pre ?_; first | refine LetI.wrap (by omega) (by omega) ?_ | refine LetI.mk _ rfl ?_) | (refine LetB.pre ?_; first | refine LetB.tt rfl ?_ | refine LetB.ff rfl ?_ | refine LetB.tt (by assumption) ?_ | refine LetB.ff (by assumption) ?_ | refine LetB.dect (by omega) ?_ | refine LetB.decf (by omega) ?_ | refine LetB.beqt (by omega) ?_ | refine LetB.beqf (by omega) ?_ | refine LetB.bnet (by omega) ?_ | refine LetB.bnef (by omega) ?_ | refine LetB.mk _ rfl ?_) | (refine Gd.pre ?_; first | refine Gd.run rfl ?_ | refine Gd.pass rfl ?_ | refine Gd.run (by assumption) ?_ | refine Gd.pass (by assumption) ?_ | (refine Gd.run ?_ ?_; · decide +kernel) | (refine Gd.pass ?_ ?_; · decide +kernel) | refine Gd.both ?_) | (refine Br.pre ?_; first | refine Br.tt rfl ?_ | refine Br.ff rfl ?_ | refine Br.tt (by assumption) ?_ | refine Br.ff (by assumption) ?_ | (refine Br.tt ?_ ?_; · decide +kernel) | (refine Br.ff ?_ ?_; · decide +kernel)) | (refine Ck.pre ?_; first | refine Ck.drawn (by kernel_rfl) ?_ | refine Ck.mk rfl ?_) | (refine LetL.pre ?_; first | refine LetL.mk [_] rfl ?_ | refine LetL.mk _ rfl ?_) | refine forceAs.pass ?_ | refine forceEs.pass ?_ | refine forceC.pass ?_))); (try (conv => whnf)))
      refine LoopN.weak (s1 := tx3S O 0) ?sw4 ?_
      case sw4 => exact SW.mk id rfl rfl rfl ⟨.refl _, .refl _, .refl _, VLe2.int (by rw [hmO]), .refl _, trivial⟩ trivial
      refine LoopN.ind T_ok mixed (S := tx3S O) (fun j => O.length - j) (fun j => j ≤ O.length) (fun _ => rfl) (fun j hj ih => ?_) 0 (Nat.zero_le _)
      by_cases hlt : j < O.length
      case neg =>
        clear ih
        ((repeat ((conv => whnf); (first | (refine LetN.pre ?_; first | ((conv => arg 1; whnf); refine LetN.mk ?_)) | (refine As.pre ?_; first | refine As.mk rfl ?_ | (refine As.mk ?_ ?_; · decide +kernel) | refine As.mk (andT (nor_self _) rfl) ?_ | refine As.mk (andT (nor_self _) (or_t _)) ?_ | refine As.mk (andT (or_t _) (or_nself _)) ?_ | refine As.mk (andT (or_t _) (or_t _)) ?_ | refine As.mk (andT (nor_self _) (andT (nor_self _) rfl)) ?_ | (refine As.mk ?_ ?_; · ((repeat' (refine andT ?_ ?_)) <;> (first | rfl | assumption | exact decide_eq_true (by omega) | exact decide_eq_true (by dsimp only; omega) | exact decide_eq_true (by simp; omega) | (simp; done))))) | (refine LetV.pre ?_; first | refine LetV.mk (.sc (.int _ _)) rfl ?_ | refine LetV.mk (.sc (.bool _)) rfl ?_ | refine LetV.mk (.sc _) rfl ?_ | refine LetV.mk (.agg _) rfl ?_ | refine LetV.mk (.slm _ _ _ _ _) rfl ?_ | refine LetV.mk (.ro _ _ _) rfl ?_ | refine LetV.mk (.ptr _ _ _ _) rfl ?_ | refine LetV.mk (.clo _ _ _) rfl ?_ | refine LetV.mk (.rp _ _) rfl ?_) | (refine LetI.pre ?_; first | refine LetI.wrap (by omega) (by omega) ?_ | refine LetI.mk _ rfl ?_) | (refine LetB.pre ?_; first | refine LetB.tt rfl ?_ | refine LetB.ff rfl ?_ | refine LetB.tt (by assumption) ?_ | refine LetB.ff (by assumption) ?_ | refine LetB.dect (by omega) ?_ | refine LetB.decf (by omega) ?_ | refine LetB.beqt (by omega) ?_ | refine LetB.beqf (by omega) ?_ | refine LetB.bnet (by omega) ?_ | refine LetB.bnef (by omega) ?_ | refine LetB.mk _ rfl ?_) | (refine Gd.pre ?_; first | refine Gd.run rfl ?_ | refine Gd.pass rfl ?_ | refine Gd.run (by assumption) ?_ | refine Gd.pass (by assumption) ?_ | (refine Gd.run ?_ ?_; · decide +kernel) | (refine Gd.pass ?_ ?_; · decide +kernel) | refine Gd.both ?_) | (refine Br.pre ?_; first | refine Br.tt rfl ?_ | refine Br.ff rfl ?_ | refine Br.tt (by assumption) ?_ | refine Br.ff (by assumption) ?_ | (refine Br.tt ?_ ?_; · decide +kernel) | (refine Br.ff ?_ ?_; · decide +kernel)) | (refine Ck.pre ?_; first | refine Ck.drawn (by kernel_rfl) ?_ | refine Ck.mk rfl ?_) | (refine LetL.pre ?_; first | refine LetL.mk [_] rfl ?_ | refine LetL.mk _ rfl ?_) | refine forceAs.pass ?_ | refine forceEs.pass ?_ | refine forceC.pass ?_))); (try (conv => whnf)))
        exact ⟨rfl, (), trivial, SW.mk id rfl rfl rfl ⟨.refl _, .refl _, trivial⟩ trivial⟩
      have hld := cg_ld hlt
      have hca := hO _ (show O.getD j cg0 ∈ O by rw [List.getD_eq_getElem?_getD, List.getElem?_eq_getElem hlt]; exact List.getElem_mem _)
      have hnx := ih (j + 1) hlt (by omega)
      clear ih
      generalize O.getD j cg0 = a at hld hca
      have hTa := TextM_f hca
      ((repeat ((conv => whnf); (first | (refine LetN.pre ?_; first | ((conv => arg 1; whnf); refine LetN.mk ?_)) | (refine As.pre ?_; first | refine As.mk rfl ?_ | (refine As.mk ?_ ?_; · decide +kernel) | refine As.mk (andT (nor_self _) rfl) ?_ | refine As.mk (andT (nor_self _) (or_t _)) ?_ | refine As.mk (andT (or_t _) (or_nself _)) ?_ | refine As.mk (andT (or_t _) (or_t _)) ?_ | refine As.mk (andT (nor_self _) (andT (nor_self _) rfl)) ?_ | (refine As.mk ?_ ?_; · ((repeat' (refine andT ?_ ?_)) <;> (first | rfl | assumption | exact decide_eq_true (by omega) | exact decide_eq_true (by dsimp only; omega) | exact decide_eq_true (by simp; omega) | (simp; done))))) | (refine LetV.pre ?_; first | refine LetV.mk (t := csl) _ hld ?_ | refine LetV.mk (.sc (.int _ _)) rfl ?_ | refine LetV.mk (.sc (.bool _)) rfl ?_ | refine LetV.mk (.sc _) rfl ?_ | refine LetV.mk (.agg _) rfl ?_ | refine LetV.mk (.slm _ _ _ _ _) rfl ?_ | refine LetV.mk (.ro _ _ _) rfl ?_ | refine LetV.mk (.ptr _ _ _ _) rfl ?_ | refine LetV.mk (.clo _ _ _) rfl ?_ | refine LetV.mk (.rp _ _) rfl ?_) | (refine LetI.pre ?_; first | refine LetI.wrap (by omega) (by omega) ?_ | refine LetI.mk _ rfl ?_) | (refine LetB.pre ?_; first | refine LetB.tt rfl ?_ | refine LetB.ff rfl ?_ | refine LetB.tt (by assumption) ?_ | refine LetB.ff (by assumption) ?_ | refine LetB.dect (by omega) ?_ | refine LetB.decf (by omega) ?_ | refine LetB.beqt (by omega) ?_ | refine LetB.beqf (by omega) ?_ | refine LetB.bnet (by omega) ?_ | refine LetB.bnef (by omega) ?_ | refine LetB.mk _ rfl ?_) | (refine Gd.pre ?_; first | refine Gd.run rfl ?_ | refine Gd.pass rfl ?_ | refine Gd.run (by assumption) ?_ | refine Gd.pass (by assumption) ?_ | (refine Gd.run ?_ ?_; · decide +kernel) | (refine Gd.pass ?_ ?_; · decide +kernel) | refine Gd.both ?_) | (refine Br.pre ?_; first | refine Br.tt rfl ?_ | refine Br.ff rfl ?_ | refine Br.tt (by assumption) ?_ | refine Br.ff (by assumption) ?_ | (refine Br.tt ?_ ?_; · decide +kernel) | (refine Br.ff ?_ ?_; · decide +kernel)) | (refine Ck.pre ?_; first | refine Ck.drawn (by kernel_rfl) ?_ | refine Ck.mk rfl ?_) | (refine LetL.pre ?_; first | refine LetL.mk [_] rfl ?_ | refine LetL.mk _ rfl ?_) | refine forceAs.pass ?_ | refine forceEs.pass ?_ | refine forceC.pass ?_))); (try (conv => whnf)))
      refine LoopN.weak (s1 := tx4S O j a 0) ?sw5 ?_
      case sw5 => exact SW.mk (fun i => i + 1) rfl rfl rfl ⟨.refl _, .refl _, .refl _, .refl _, .refl _, .refl _, .refl _, VLe2.int (by rw [hmO]), .refl _, trivial⟩ (haveV.one rfl trivial)
      refine LoopN.ind T_ok mixed (S := tx4S O j a) (fun i => O.length - i) (fun i => i ≤ O.length) (fun _ => rfl) (fun i hi ih => ?_) 0 (Nat.zero_le _)
      by_cases hlt2 : i < O.length
      case neg =>
        clear ih
        ((repeat ((conv => whnf); (first | (refine LetN.pre ?_; first | ((conv => arg 1; whnf); refine LetN.mk ?_)) | (refine As.pre ?_; first | refine As.mk rfl ?_ | (refine As.mk ?_ ?_; · decide +kernel) | refine As.mk (andT (nor_self _) rfl) ?_ | refine As.mk (andT (nor_self _) (or_t _)) ?_ | refine As.mk (andT (or_t _) (or_nself _)) ?_ | refine As.mk (andT (or_t _) (or_t _)) ?_ | refine As.mk (andT (nor_self _) (andT (nor_self _) rfl)) ?_ | (refine As.mk ?_ ?_; · ((repeat' (refine andT ?_ ?_)) <;> (first | rfl | assumption | exact decide_eq_true (by omega) | exact decide_eq_true (by dsimp only; omega) | exact decide_eq_true (by simp; omega) | (simp; done))))) | (refine LetV.pre ?_; first | refine LetV.mk (.sc (.int _ _)) rfl ?_ | refine LetV.mk (.sc (.bool _)) rfl ?_ | refine LetV.mk (.sc _) rfl ?_ | refine LetV.mk (.agg _) rfl ?_ | refine LetV.mk (.slm _ _ _ _ _) rfl ?_ | refine LetV.mk (.ro _ _ _) rfl ?_ | refine LetV.mk (.ptr _ _ _ _) rfl ?_ | refine LetV.mk (.clo _ _ _) rfl ?_ | refine LetV.mk (.rp _ _) rfl ?_) | (refine LetI.pre ?_; first | refine LetI.wrap (by omega) (by omega) ?_ | refine LetI.mk _ rfl ?_) | (refine LetB.pre ?_; first | refine LetB.tt rfl ?_ | refine LetB.ff rfl ?_ | refine LetB.tt (by assumption) ?_ | refine LetB.ff (by assumption) ?_ | refine LetB.dect (by omega) ?_ | refine LetB.decf (by omega) ?_ | refine LetB.beqt (by omega) ?_ | refine LetB.beqf (by omega) ?_ | refine LetB.bnet (by omega) ?_ | refine LetB.bnef (by omega) ?_ | refine LetB.mk _ rfl ?_) | (refine Gd.pre ?_; first | refine Gd.run rfl ?_ | refine Gd.pass rfl ?_ | refine Gd.run (by assumption) ?_ | refine Gd.pass (by assumption) ?_ | (refine Gd.run ?_ ?_; · decide +kernel) | (refine Gd.pass ?_ ?_; · decide +kernel) | refine Gd.both ?_) | (refine Br.pre ?_; first | refine Br.tt rfl ?_ | refine Br.ff rfl ?_ | refine Br.tt (by assumption) ?_ | refine Br.ff (by assumption) ?_ | (refine Br.tt ?_ ?_; · decide +kernel) | (refine Br.ff ?_ ?_; · decide +kernel)) | (refine Ck.pre ?_; first | refine Ck.drawn (by kernel_rfl) ?_ | refine Ck.mk rfl ?_) | (refine LetL.pre ?_; first | refine LetL.mk [_] rfl ?_ | refine LetL.mk _ rfl ?_) | refine forceAs.pass ?_ | refine forceEs.pass ?_ | refine forceC.pass ?_))); (try (conv => whnf)))
        refine LoopN.weak ?sw6 hnx
        case sw6 => exact SW.mk id rfl rfl rfl ⟨.refl _, .refl _, .refl _, .refl _, VLe2.int (by omega), trivial⟩ trivial
      have hld2 := cg_ld hlt2
      have hcb := hO _ (show O.getD i cg0 ∈ O by rw [List.getD_eq_getElem?_getD, List.getElem?_eq_getElem hlt2]; exact List.getElem_mem _)
      have hni := ih (i + 1) hlt2 (by omega)
      clear ih hO
      generalize O.getD i cg0 = b at hld2 hcb
      have hTb := TextM_f hcb
      obtain ⟨b1, hb1⟩ : ∃ b1, b1 = ((textP a).toList == (textP b).toList) := ⟨_, rfl⟩
      have hcon : a = b → textP a = textP b := fun h => by rw [h]
      have hinj : textP a = textP b → a = b := text_inj hca.f.kind hcb.f.kind hca.f.sp hcb.f.sp
      generalize textP a = ta at hTa hb1 hinj hcon
      generalize textP b = tb at hTb hb1 hinj hcon
      have hbr : (b1 != (a.f.kind == b.f.kind && (a.f.student == b.f.student && (a.f.id == b.f.id && (a.f.term == b.f.term && (a.f.n == b.f.n && (a.f.school == b.f.school && (a.f.code.toList == b.f.code.toList && true) && true))))) && (a.gone == b.gone && (a.kept == b.kept && (a.entry == b.entry && true))))) = false := by
        rw [cg_eq, hb1]
        by_cases e : a = b
        · rw [hcon e, decide_eq_true e]; simp
        · rw [decide_eq_false e, str_ne (fun h => e (hinj h))]; rfl
      ((repeat ((conv => whnf); (first | (refine LetN.pre ?_; first | ((conv => arg 1; whnf); refine LetN.mk ?_)) | (refine As.pre ?_; first | refine As.mk rfl ?_ | (refine As.mk ?_ ?_; · decide +kernel) | refine As.mk (andT (nor_self _) rfl) ?_ | refine As.mk (andT (nor_self _) (or_t _)) ?_ | refine As.mk (andT (or_t _) (or_nself _)) ?_ | refine As.mk (andT (or_t _) (or_t _)) ?_ | refine As.mk (andT (nor_self _) (andT (nor_self _) rfl)) ?_ | (refine As.mk ?_ ?_; · ((repeat' (refine andT ?_ ?_)) <;> (first | rfl | assumption | exact decide_eq_true (by omega) | exact decide_eq_true (by dsimp only; omega) | exact decide_eq_true (by simp; omega) | (simp; done))))) | (refine LetV.pre ?_; first | refine LetV.mk (t := csl) _ hld2 ?_ | refine LetV.mk (.sc (.int _ _)) rfl ?_ | refine LetV.mk (.sc (.bool _)) rfl ?_ | refine LetV.mk (.sc _) rfl ?_ | refine LetV.mk (.agg _) rfl ?_ | refine LetV.mk (.slm _ _ _ _ _) rfl ?_ | refine LetV.mk (.ro _ _ _) rfl ?_ | refine LetV.mk (.ptr _ _ _ _) rfl ?_ | refine LetV.mk (.clo _ _ _) rfl ?_ | refine LetV.mk (.rp _ _) rfl ?_) | (refine LetI.pre ?_; first | refine LetI.wrap (by omega) (by omega) ?_ | refine LetI.mk _ rfl ?_) | (refine LetB.pre ?_; first | refine LetB.tt rfl ?_ | refine LetB.ff rfl ?_ | refine LetB.tt (by assumption) ?_ | refine LetB.ff (by assumption) ?_ | refine LetB.mk (o := some .eql) b1 hb1 ?_ | refine LetB.dect (by omega) ?_ | refine LetB.decf (by omega) ?_ | refine LetB.beqt (by omega) ?_ | refine LetB.beqf (by omega) ?_ | refine LetB.bnet (by omega) ?_ | refine LetB.bnef (by omega) ?_ | refine LetB.mk _ rfl ?_) | (refine Gd.pre ?_; first | refine Gd.run rfl ?_ | refine Gd.pass rfl ?_ | refine Gd.run (by assumption) ?_ | refine Gd.pass (by assumption) ?_ | (refine Gd.run ?_ ?_; · decide +kernel) | (refine Gd.pass ?_ ?_; · decide +kernel) | refine Gd.both ?_) | (refine Br.pre ?_; first | refine Br.ff hbr ?_ | refine Br.tt rfl ?_ | refine Br.ff rfl ?_ | refine Br.tt (by assumption) ?_ | refine Br.ff (by assumption) ?_ | (refine Br.tt ?_ ?_; · decide +kernel) | (refine Br.ff ?_ ?_; · decide +kernel)) | (refine Ck.pre ?_; first | refine Ck.drawn (by kernel_rfl) ?_ | refine Ck.mk rfl ?_) | (refine LetL.pre ?_; first | refine LetL.mk [_] rfl ?_ | refine LetL.mk _ rfl ?_) | (refine CallN.pre ?_; first | refine CallN.pure hTa rfl rfl ?_ | refine CallN.pure hTb rfl rfl ?_) | refine forceAs.pass ?_ | refine forceEs.pass ?_ | refine forceC.pass ?_))); (try (conv => whnf)))





      refine LoopN.weak ?sw7 hni
      case sw7 => exact SW.mk id rfl rfl rfl ⟨.refl _, .refl _, .refl _, .refl _, .refl _, .refl _, .refl _, .refl _, VLe2.int (by omega), trivial⟩ (haveV.one rfl trivial)
end En
end Go.Proofs.YtgnakhljdjekbaaDoor
namespace Go.Proofs.YtgnakhljdjekbaaDoor
open Go.Proofs.YtgnakhljdjekbaaDoor.Am
set_option maxRecDepth 100000
namespace En
theorem ll_row (x : List (List Int)) : AV.ro {} 1 (x.map fun l => mkE false [AV.ro {} 1 (l.map fun n => mkE false [int n])]) = .ro {} 1 ((x.map fun l => (({} : Fl), l)).map iA) := by
  congr 1
  rw [List.map_map]
  rfl
theorem texts_row (x : List (List Int)) (k : x.length ≤ maxLen) (kk : ∀ l ∈ x, l.length ≤ maxLen) (y : List Int) (ky : y.length ≤ maxLen) (kyy : ∀ n ∈ y, IntKind.u8.min ≤ n ∧ n ≤ IntKind.u8.max) :
    AFun Tryd.prog 5 0 (Sh.av (.sl false (.sl false (.int .i64))) x ++ Sh.av (.sl false (.int .u8)) y) [] (bool true) [] := by
  have h := textsLaw_f (x.map fun l => (({} : Fl), l)) y (by rw [List.length_map]; exact k) (fun z hz => by
    obtain ⟨l, hl, rfl⟩ := List.mem_map.1 hz
    exact kk l hl) ky kyy
  rw [List.map_map] at h
  exact h
end En
end Go.Proofs.YtgnakhljdjekbaaDoor
namespace Go.Proofs.YtgnakhljdjekbaaDoor
open Go.Proofs.YtgnakhljdjekbaaDoor.Am Go.ChangeShapes Go.WideShapes Go.ChangeAt Go.RowKit
set_option maxRecDepth 100000
/-! What the rows list of package-level variables, as the machine reads it. -/
theorem gWords : Tryd.prog.globalNamed "quadrivium/appeal.words" = some 0 := by kernel_rfl
theorem tWords : (Tryd.prog.globals[0]?).map (·.type) = some 71 := by kernel_rfl
abbrev laidAll : List (String × DataW Unit) := [("math/bits.deBruijn32tab", Rows.laid_math_bits_deBruijn32tab), ("math/bits.deBruijn64tab", Rows.laid_math_bits_deBruijn64tab), ("internal/strconv.uint64pow10", Rows.laid_internal_strconv_uint64pow10), ("quadrivium/appeal.words", Rows.laid_quadrivium_appeal_words)]
/-- The door's own heap meets the condition. -/
theorem door_met (os : Os) (args : Array Value) : laidMetH Tryd.prog laidAll ((World.doorLaid Tryd.prog 4000 os).forCall (fun _ _ => 0) ⟨#[], args, []⟩).memory :=
  laidMetH_of_parts3 (fuel := 8) (laidMet_of_run' 8 (by kernel_rfl) (by kernel_rfl)) (by kernel_rfl) (by kernel_rfl)
def wordsB : List (List UInt8) := [[102, 97, 99, 116], [101, 97, 114, 110, 101, 100], [116, 97, 107, 101, 110], [109, 101, 116], [115, 116, 97, 110, 100, 105, 110, 103], [115, 116, 105, 112, 101, 110, 100], [97, 119, 97, 114, 100], [118, 101, 114, 115, 105, 111, 110]]
theorem glob_of_laid {W : World} (h : laidMetH Tryd.prog laidAll W) : GlobW W := by
  rw [MakeChecks.laidMetH_plain _ _ _ (by kernel_rfl)] at h
  obtain ⟨ps, ⟨g0, t0, cs0, f0, p0, q0, hg0, ht0, hv0, hd0, ⟨g1, t1, cs1, f1, p1, q1, hg1, ht1, hv1, hd1, ⟨g2, t2, cs2, f2, p2, q2, hg2, ht2, hv2, hd2, ⟨g3, t3, cs3, f3, p3, q3, hg3, ht3, hv3, hd3, _, _⟩, _⟩, _⟩, _⟩, _⟩ := h
  clear hg0 ht0 hv0 hd0 hg1 ht1 hv1 hd1 hg2 ht2 hv2 hd2
  obtain rfl := Option.some.inj (gWords.symm.trans hg3)
  obtain rfl := Option.some.inj (tWords.symm.trans ht3)
  obtain ⟨xs, m1, rfl, hx1, hlen, hn, hel⟩ := DataW.trod_array Tryd.underlying71 hd3
  have c9 : Tryd.prog.cellsOf 9 = 1 := by kernel_rfl
  have hmap : xs.map (·.1) = wordsB.map fun l => (.lit (.string l) : DataW Unit) := by
    have := congrArg Prod.fst hx1
    simp only [Rows.laid_quadrivium_appeal_words, DataW.agg.injEq] at this
    exact this.symm
  have hcell : ∀ (i : Nat) (l : List UInt8), wordsB[i]? = some l → cs3[i]? = some (.string ⟨l.toArray⟩) := by
    intro i l hi
    have hlt : i < 8 := (List.getElem?_eq_some_iff.1 hi).1
    have h1 := hel i hlt
    have h2 : (xs.map (·.1))[i]? = some (.lit (.string l)) := by rw [hmap, List.getElem?_map, hi]; rfl
    rw [List.getElem?_map] at h2
    obtain ⟨x, hx, hx2⟩ := Option.map_eq_some_iff.1 h2
    rw [hx] at h1
    obtain ⟨s, e1, e2, _⟩ := DataW.trod_string Tryd.underlying9 h1
    rw [e2] at hx2
    simp only [DataW.lit.injEq, Lit.string.injEq] at hx2
    subst hx2
    rw [c9, Nat.mul_one] at e1
    have e3 : (cs3.toList.drop i)[0]? = some (.string s) := by
      have := congrArg (fun l => l[0]?) e1
      rw [List.getElem?_take] at this
      simpa using this
    rw [List.getElem?_drop, Nat.add_zero, Array.getElem?_toList] at e3
    exact e3
  have hh : ∃ ty fz, W.heap[0]? = some (.cells cs3 ty fz) := by
    simp only [World.var?, gWords, Option.bind_some] at hv3
    split at hv3
    · rename_i cs ty fz he
      injection hv3 with e
      subst e
      exact ⟨ty, fz, he⟩
    · cases hv3
  obtain ⟨ty, fz, hh⟩ := hh
  intro x hx
  have hx' : x = (0, wordsB.map fun l => .string ⟨l.toArray⟩) := List.mem_singleton.1 hx
  subst hx'
  refine ⟨(Array.getElem?_eq_some_iff.1 hh).1, cs3, ty, fz, hh, fun j c hj => ?_⟩
  rw [List.getElem?_map] at hj
  obtain ⟨l, hl, rfl⟩ := Option.map_eq_some_iff.1 hj
  exact ⟨hcell j l hl, rfl⟩
end Go.Proofs.YtgnakhljdjekbaaDoor
