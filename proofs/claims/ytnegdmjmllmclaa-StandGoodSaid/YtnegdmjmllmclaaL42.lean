/- stand: parts of the proof, DstandSI DstandSJ DstandSQ DstandSN. -/
import Derived.Test.YtnegdmjmllmclaaL41
set_option linter.all false
namespace Go.Proofs.Ytnegdmjmllmclaa
open Go.Proofs.Ytnegdmjmllmclaa.Am
set_option maxRecDepth 100000
namespace En
/-! ### The sums of the law -/
abbrev scty : TypeId := 29
abbrev stty : TypeId := 59
def inB (st t : Int) (x : St) (e : E) : Bool := decide (e.kind = 3 ∧ e.id = x.entry ∧ e.student = st ∧ e.on_ / 100 = t)
def inF (s : Sc.Scl) (st t : Int) (x : St) (q : Int × Int) (e : E) : Int × Int := if inB st t x e then crS s q (x, e.credits) else q
def suP (l : List E) (s : Sc.Scl) (st a t : Int) : Int × Int := (atP l a (100 * t + 99)).foldl (fun q x => l.foldl (inF s st t x) q) (0, 0)
abbrev su1 (l : List E) (A : List St) (s : Sc.Scl) (st t : Int) (q : Int × Int) (j : Nat) : Fr := [(0, .ro {} 15 (l.map en)), (2, int st), (4, int t), (6, .ptr 0 3 0 0), (12, int q.1), (13, int q.2), (23, .ro {} 4 (A.map stA)), (24, int A.length), (25, int j)]
abbrev suS (l : List E) (A : List St) (s : Sc.Scl) (st t : Int) : Nat × Int × Int → AS
  | (j, q) => ⟨su1 l A s st t q j, [(0, .row 3 scty [Sc.scA s])], 1⟩
abbrev suT (l : List E) (A : List St) (s : Sc.Scl) (st t : Int) (j : Nat) (x : St) : Nat × Int × Int → AS
  | (k, q) => ⟨su1 l A s st t q j ++ [(15, .ptr 1 4 0 0), (29, .ro {} 15 (l.map en)), (30, int l.length), (31, int k)], [(0, .row 3 scty [Sc.scA s]), (1, .row 4 stty [stA x])], 2⟩
theorem suN1 (ok : Nat → Bool) (h : ok 0 = true) (l : List E) (A : List St) (s : Sc.Scl) (st t : Int) (q : Int × Int) (j : Nat) : frNames ok (su1 l A s st t q j) = true := by
  simp only [frNames, AV.names, namesL_none (pure_en l), namesL_none (pure_st A), h]; rfl
theorem suN2 (ok : Nat → Bool) (h : ok 0 = true) (h1 : ok 1 = true) (l : List E) (A : List St) (s : Sc.Scl) (st t : Int) (q : Int × Int) (j k : Nat) : frNames ok (su1 l A s st t q j ++ [(15, .ptr 1 4 0 0), (29, .ro {} 15 (l.map en)), (30, int l.length), (31, int k)]) = true := by
  simp only [List.cons_append, List.nil_append, frNames, AV.names, namesL_none (pure_en l), namesL_none (pure_st A), h, h1]; rfl
set_option maxHeartbeats 3200000 in
set_option maxRecDepth 100000 in
theorem sums_f (l : List E) (s : Sc.Scl) (st a t : Int) (hl : l.length < 40) (ht : 0 ≤ t ∧ t ≤ 1000) (ho : ∀ e ∈ l, 0 ≤ e.on_ ∧ e.on_ ≤ 1000) : AFun Try.prog 21 0 [.ro {} 15 (l.map en), Sc.scA s, int st, int a, int t] [] (.tup [int (suP l s st a t).1, int (suP l s st a t).2]) [] := by
  refine AFun.of_W T_ok mixed Try.func21 rfl (Nat.le_of_ble_eq_true rfl) rfl ?_
  have hA := At_f l a (100 * t + 99) {} hl
  have hlen := atP_len (l := l) a (100 * t + 99)
  rw [suP]
  generalize atP l a (100 * t + 99) = A at hA hlen ⊢
  have hml : (l.map en).length = l.length := List.length_map _
  have hmA : (A.map stA).length = A.length := List.length_map _
  generalize hR : A.foldl (fun q x => l.foldl (inF s st t x) q) (0, 0) = R
  ((repeat ((conv => whnf); (first | (refine LetN.pre ?_; first | ((conv => arg 1; whnf); refine LetN.mk ?_)) | (refine As.pre ?_; first | refine As.mk rfl ?_) | (refine LetI.pre ?_; first | refine LetI.wrap (by omega) (by omega) ?_ | refine LetI.mk _ rfl ?_) | (refine Ck.pre ?_; first | refine Ck.mk rfl ?_) | (refine CallN.pre ?_; first | refine CallN.pure hA rfl rfl ?_)))); (try (conv => whnf)))
  refine LoopN.weak (s1 := suS l A s st t (0, 0, 0)) ?sw1 ?_
  case sw1 => exact SW.mk id rfl (suN1 _ rfl ..) rfl ⟨.refl _, .refl _, .refl _, .refl _, .refl _, .refl _, VLe2.ro_of rfl, VLe2.int (by rw [hmA]), .refl _, trivial⟩ (haveV.one rfl trivial)
  clear hA
  refine LoopN.ind T_ok mixed (S := suS l A s st t) (fun i => A.length - i.1) (fun i => i.1 ≤ A.length ∧ (A.drop i.1).foldl (fun q x => l.foldl (inF s st t x) q) i.2 = R) (fun _ => rfl) (fun i hi ih => ?_) (0, 0, 0) ⟨Nat.zero_le _, hR⟩
  obtain ⟨j, q⟩ := i
  obtain ⟨h1, h2⟩ := hi
  dsimp only at h1 h2
  by_cases hlt : j < A.length
  case neg =>
    clear ih
    rw [List.drop_of_length_le (by omega)] at h2
    dsimp only [List.foldl_nil] at h2
    subst h2
    ((repeat ((conv => whnf); (first | (refine As.pre ?_; first | refine As.mk rfl ?_) | (refine LetB.pre ?_; first | refine LetB.decf (by omega) ?_) | (refine Br.pre ?_; first | refine Br.ff rfl ?_) | (refine Ck.pre ?_; first | refine Ck.mk rfl ?_)))); (try (conv => whnf)))
    exact ⟨.inl rfl, ⟨_, rfl, rfl⟩, trivial⟩
  have hld := stD hlt
  rw [foldl_drop (fun q x => l.foldl (inF s st t x) q) hlt ⟨0, 0, 0, false⟩] at h2
  generalize A.getD j ⟨0, 0, 0, false⟩ = x at hld h2
  have hnx := fun q' (h : (A.drop (j + 1)).foldl (fun q x => l.foldl (inF s st t x) q) q' = R) => ih (j + 1, q') ⟨by show j + 1 ≤ A.length; omega, h⟩ (by show A.length - (j + 1) < A.length - j; omega)
  clear ih hR
  ((repeat ((conv => whnf); (first | (refine LetN.pre ?_; first | ((conv => arg 1; whnf); refine LetN.mk ?_)) | (refine As.pre ?_; first | refine As.mk rfl ?_ | (refine As.mk ?_ ?_; · ((repeat' (refine andT ?_ ?_)) <;> (first | rfl | assumption | exact decide_eq_true (by omega) | exact decide_eq_true (by dsimp only; omega) | exact decide_eq_true (by simp; omega) | (simp; done))))) | (refine LetV.pre ?_; first | refine LetV.mk (t := 56) _ hld ?_ | refine LetV.mk (.agg _) rfl ?_) | (refine LetI.pre ?_; first | refine LetI.mk _ rfl ?_) | (refine LetB.pre ?_; first | refine LetB.dect (by omega) ?_) | (refine Br.pre ?_; first | refine Br.tt rfl ?_) | (refine Ck.pre ?_; first | refine Ck.mk rfl ?_) | (refine LetL.pre ?_; first | refine LetL.mk [_] rfl ?_)))); (try (conv => whnf)))
  clear hld
  refine LoopN.weak (s1 := suT l A s st t j x (0, q)) ?sw2 ?_
  case sw2 => exact SW.mk id rfl (suN2 _ rfl rfl ..) rfl ⟨.refl _, .refl _, .refl _, .refl _, .refl _, .refl _, .refl _, .refl _, .refl _, .refl _, VLe2.ro_of rfl, VLe2.int (by rw [hml]), .refl _, trivial⟩ (haveV.one rfl (haveV.one rfl trivial))
  refine LoopN.ind T_ok mixed (S := suT l A s st t j x) (fun i => l.length - i.1) (fun i => i.1 ≤ l.length ∧ (A.drop (j + 1)).foldl (fun q x => l.foldl (inF s st t x) q) ((l.drop i.1).foldl (inF s st t x) i.2) = R) (fun _ => rfl) (fun i hi ih => ?_) (0, q) ⟨Nat.zero_le _, h2⟩
  clear h2 q
  obtain ⟨k, q⟩ := i
  obtain ⟨h3, h4⟩ := hi
  dsimp only at h3 h4
  by_cases hk : k < l.length
  case neg =>
    clear ih
    rw [List.drop_of_length_le (by omega)] at h4
    have hnx := hnx q h4
    ((repeat ((conv => whnf); (first | (refine As.pre ?_; first | refine As.mk rfl ?_) | (refine LetI.pre ?_; first | refine LetI.wrap (by omega) (by omega) ?_) | (refine LetB.pre ?_; first | refine LetB.decf (by omega) ?_) | (refine Br.pre ?_; first | refine Br.ff rfl ?_) | (refine Ck.pre ?_; first | refine Ck.mk rfl ?_)))); (try (conv => whnf)))
    refine LoopN.weak ?sw3 hnx
    case sw3 => exact SW.mk id rfl (suN1 _ rfl ..) rfl ⟨.refl _, .refl _, .refl _, .refl _, .refl _, .refl _, .refl _, .refl _, VLe2.int (by omega), trivial⟩ (haveV.one rfl trivial)
  clear hnx
  rw [foldl_drop _ hk e0] at h4
  have hle := tmD hk
  have hoe := ho _ (getD_mem' hk)
  generalize l.getD k e0 = e at hle hoe h4
  have hP := Sc.Passed_f s x.grade
  obtain ⟨d, hd⟩ : ∃ d, d = e.on_ / 100 := ⟨_, rfl⟩
  have hq : d = e.on_.tdiv 100 := by rw [hd, Int.tdiv_eq_ediv_of_nonneg hoe.1]
  have hq2 : d = IntKind.i64.wrap (e.on_.tdiv 100) := by rw [← hq, wrap_id (by omega) (by omega)]
  obtain ⟨q', hq'⟩ : ∃ q', q' = inF s st t x q e := ⟨_, rfl⟩
  rw [← hq'] at h4
  have hnx := ih (k + 1, q') ⟨by show k + 1 ≤ l.length; omega, h4⟩ (by show l.length - (k + 1) < l.length - k; omega)
  clear ih h4
  unfold inF inB at hq'
  rw [← hd] at hq'
  clear hd hoe
  obtain ⟨xe, xb, xg, xv⟩ := x
  obtain ⟨p, f⟩ := q
  by_cases c1 : e.kind = 3
  case neg =>
    rw [decide_eq_false (fun h => c1 h.1), if_neg (by decide)] at hq'
    subst hq'
    ((repeat ((conv => whnf); (first | (refine LetN.pre ?_; first | ((conv => arg 1; whnf); refine LetN.mk ?_)) | (refine As.pre ?_; first | refine As.mk rfl ?_ | (refine As.mk ?_ ?_; · ((repeat' (refine andT ?_ ?_)) <;> (first | rfl | assumption | exact decide_eq_true (by omega) | exact decide_eq_true (by dsimp only; omega) | exact decide_eq_true (by simp; omega) | (simp; done))))) | (refine LetV.pre ?_; first | refine LetV.mk (t := 27) _ hle ?_ | refine LetV.mk (.sc (.int _ _)) rfl ?_ | refine LetV.mk (.agg _) rfl ?_) | (refine LetI.pre ?_; first | refine LetI.wrap (by omega) (by omega) ?_) | (refine LetB.pre ?_; first | refine LetB.dect (by omega) ?_ | refine LetB.bnet (by omega) ?_) | (refine Gd.pre ?_; first | refine Gd.pass rfl ?_) | (refine Br.pre ?_; first | refine Br.tt rfl ?_) | (refine Ck.pre ?_; first | refine Ck.mk rfl ?_) | (refine LetL.pre ?_; first | refine LetL.mk [_] rfl ?_)))); (try (conv => whnf)))






    refine LoopN.weak ?swa hnx
    case swa => exact SW.mk id rfl (suN2 _ rfl rfl ..) rfl ⟨.refl _, .refl _, .refl _, .refl _, .refl _, .refl _, .refl _, .refl _, .refl _, .refl _, .refl _, .refl _, VLe2.int (by omega), trivial⟩ (haveV.one rfl (haveV.one rfl trivial))
  by_cases c2 : e.id = xe
  case neg =>
    rw [decide_eq_false (fun h => c2 h.2.1), if_neg (by decide)] at hq'
    subst hq'
    ((repeat ((conv => whnf); (first | (refine LetN.pre ?_; first | ((conv => arg 1; whnf); refine LetN.mk ?_)) | (refine As.pre ?_; first | refine As.mk rfl ?_ | (refine As.mk ?_ ?_; · ((repeat' (refine andT ?_ ?_)) <;> (first | rfl | assumption | exact decide_eq_true (by omega) | exact decide_eq_true (by dsimp only; omega) | exact decide_eq_true (by simp; omega) | (simp; done))))) | (refine LetV.pre ?_; first | refine LetV.mk (t := 27) _ hle ?_ | refine LetV.mk (.sc (.int _ _)) rfl ?_ | refine LetV.mk (.agg _) rfl ?_) | (refine LetI.pre ?_; first | refine LetI.wrap (by omega) (by omega) ?_) | (refine LetB.pre ?_; first | refine LetB.dect (by omega) ?_ | refine LetB.bnet (by omega) ?_ | refine LetB.bnef (by omega) ?_) | (refine Gd.pre ?_; first | refine Gd.run rfl ?_ | refine Gd.pass rfl ?_) | (refine Br.pre ?_; first | refine Br.tt rfl ?_) | (refine Ck.pre ?_; first | refine Ck.mk rfl ?_) | (refine LetL.pre ?_; first | refine LetL.mk [_] rfl ?_)))); (try (conv => whnf)))






    refine LoopN.weak ?swb hnx
    case swb => exact SW.mk id rfl (suN2 _ rfl rfl ..) rfl ⟨.refl _, .refl _, .refl _, .refl _, .refl _, .refl _, .refl _, .refl _, .refl _, .refl _, .refl _, .refl _, VLe2.int (by omega), trivial⟩ (haveV.one rfl (haveV.one rfl trivial))
  by_cases c3 : e.student = st
  case neg =>
    rw [decide_eq_false (fun h => c3 h.2.2.1), if_neg (by decide)] at hq'
    subst hq'
    ((repeat ((conv => whnf); (first | (refine LetN.pre ?_; first | ((conv => arg 1; whnf); refine LetN.mk ?_)) | (refine As.pre ?_; first | refine As.mk rfl ?_ | (refine As.mk ?_ ?_; · ((repeat' (refine andT ?_ ?_)) <;> (first | rfl | assumption | exact decide_eq_true (by omega) | exact decide_eq_true (by dsimp only; omega) | exact decide_eq_true (by simp; omega) | (simp; done))))) | (refine LetV.pre ?_; first | refine LetV.mk (t := 27) _ hle ?_ | refine LetV.mk (.sc (.int _ _)) rfl ?_ | refine LetV.mk (.agg _) rfl ?_) | (refine LetI.pre ?_; first | refine LetI.wrap (by omega) (by omega) ?_) | (refine LetB.pre ?_; first | refine LetB.dect (by omega) ?_ | refine LetB.bnet (by omega) ?_ | refine LetB.bnef (by omega) ?_) | (refine Gd.pre ?_; first | refine Gd.run rfl ?_ | refine Gd.pass rfl ?_) | (refine Br.pre ?_; first | refine Br.tt rfl ?_) | (refine Ck.pre ?_; first | refine Ck.mk rfl ?_) | (refine LetL.pre ?_; first | refine LetL.mk [_] rfl ?_)))); (try (conv => whnf)))






    refine LoopN.weak ?swc hnx
    case swc => exact SW.mk id rfl (suN2 _ rfl rfl ..) rfl ⟨.refl _, .refl _, .refl _, .refl _, .refl _, .refl _, .refl _, .refl _, .refl _, .refl _, .refl _, .refl _, VLe2.int (by omega), trivial⟩ (haveV.one rfl (haveV.one rfl trivial))
  by_cases c4 : d = t
  case neg =>
    rw [decide_eq_false (fun h => c4 h.2.2.2), if_neg (by decide)] at hq'
    subst hq'
    ((repeat ((conv => whnf); (first | (refine LetN.pre ?_; first | ((conv => arg 1; whnf); refine LetN.mk ?_)) | (refine As.pre ?_; first | refine As.mk rfl ?_ | (refine As.mk ?_ ?_; · ((repeat' (refine andT ?_ ?_)) <;> (first | rfl | assumption | exact decide_eq_true (by omega) | exact decide_eq_true (by dsimp only; omega) | exact decide_eq_true (by simp; omega) | (simp; done))))) | (refine LetV.pre ?_; first | refine LetV.mk (t := 27) _ hle ?_ | refine LetV.mk (.sc (.int _ _)) rfl ?_ | refine LetV.mk (.agg _) rfl ?_) | (refine LetI.pre ?_; first | refine LetI.mk (o := some .quo) d hq2 ?_ | refine LetI.wrap (by omega) (by omega) ?_) | (refine LetB.pre ?_; first | refine LetB.dect (by omega) ?_ | refine LetB.bnet (by omega) ?_ | refine LetB.bnef (by omega) ?_) | (refine Gd.pre ?_; first | refine Gd.run rfl ?_) | (refine Br.pre ?_; first | refine Br.tt rfl ?_) | (refine Ck.pre ?_; first | refine Ck.mk rfl ?_) | (refine LetL.pre ?_; first | refine LetL.mk [_] rfl ?_)))); (try (conv => whnf)))






    refine LoopN.weak ?swd hnx
    case swd => exact SW.mk id rfl (suN2 _ rfl rfl ..) rfl ⟨.refl _, .refl _, .refl _, .refl _, .refl _, .refl _, .refl _, .refl _, .refl _, .refl _, .refl _, .refl _, VLe2.int (by omega), trivial⟩ (haveV.one rfl (haveV.one rfl trivial))
  rw [decide_eq_true ⟨c1, c2, c3, c4⟩, if_pos rfl] at hq'
  cases xv with
  | true =>
    have e1 : crS s (p, f) (⟨xe, xb, xg, true⟩, e.credits) = (p, IntKind.i64.wrap (f + e.credits)) := rfl
    rw [e1] at hq'
    subst hq'
    ((repeat ((conv => whnf); (first | (refine LetN.pre ?_; first | ((conv => arg 1; whnf); refine LetN.mk ?_)) | (refine As.pre ?_; first | refine As.mk rfl ?_ | (refine As.mk ?_ ?_; · ((repeat' (refine andT ?_ ?_)) <;> (first | rfl | assumption | exact decide_eq_true (by omega) | exact decide_eq_true (by dsimp only; omega) | exact decide_eq_true (by simp; omega) | (simp; done))))) | (refine LetV.pre ?_; first | refine LetV.mk (t := 27) _ hle ?_ | refine LetV.mk (.sc (.int _ _)) rfl ?_ | refine LetV.mk (.sc (.bool _)) rfl ?_ | refine LetV.mk (.agg _) rfl ?_) | (refine LetI.pre ?_; first | refine LetI.mk (o := some .quo) d hq2 ?_ | refine LetI.mk (o := some .add) (IntKind.i64.wrap (f + e.credits)) rfl ?_ | refine LetI.wrap (by omega) (by omega) ?_) | (refine LetB.pre ?_; first | refine LetB.dect (by omega) ?_ | refine LetB.bnef (by omega) ?_) | (refine Gd.pre ?_; first | refine Gd.run rfl ?_ | refine Gd.pass rfl ?_) | (refine Br.pre ?_; first | refine Br.tt rfl ?_ | refine Br.ff rfl ?_) | (refine Ck.pre ?_; first | refine Ck.mk rfl ?_) | (refine LetL.pre ?_; first | refine LetL.mk [_] rfl ?_)))); (try (conv => whnf)))






    refine LoopN.weak ?swe hnx
    case swe => exact SW.mk id rfl (suN2 _ rfl rfl ..) rfl ⟨.refl _, .refl _, .refl _, .refl _, .refl _, .refl _, .refl _, .refl _, .refl _, .refl _, .refl _, .refl _, VLe2.int (by omega), trivial⟩ (haveV.one rfl (haveV.one rfl trivial))
  | false =>
    by_cases hr : Sc.rea s xg s.2.2
    · have e1 : crS s (p, f) (⟨xe, xb, xg, false⟩, e.credits) = (IntKind.i64.wrap (p + e.credits), f) := by unfold crS psB; rw [decide_eq_true hr]; rfl
      rw [e1] at hq'
      rw [decide_eq_true hr] at hP
      subst hq'
      ((repeat ((conv => whnf); (first | (refine LetN.pre ?_; first | ((conv => arg 1; whnf); refine LetN.mk ?_)) | (refine As.pre ?_; first | refine As.mk rfl ?_ | (refine As.mk ?_ ?_; · ((repeat' (refine andT ?_ ?_)) <;> (first | rfl | assumption | exact decide_eq_true (by omega) | exact decide_eq_true (by dsimp only; omega) | exact decide_eq_true (by simp; omega) | (simp; done))))) | (refine LetV.pre ?_; first | refine LetV.mk (t := 27) _ hle ?_ | refine LetV.mk (.sc (.int _ _)) rfl ?_ | refine LetV.mk (.sc (.bool _)) rfl ?_ | refine LetV.mk (.agg _) rfl ?_) | (refine LetI.pre ?_; first | refine LetI.mk (o := some .quo) d hq2 ?_ | refine LetI.mk (o := some .add) (IntKind.i64.wrap (p + e.credits)) rfl ?_ | refine LetI.wrap (by omega) (by omega) ?_) | (refine LetB.pre ?_; first | refine LetB.dect (by omega) ?_ | refine LetB.bnef (by omega) ?_) | (refine Gd.pre ?_; first | refine Gd.run rfl ?_) | (refine Br.pre ?_; first | refine Br.tt rfl ?_ | refine Br.ff rfl ?_) | (refine Ck.pre ?_; first | refine Ck.mk rfl ?_) | (refine LetL.pre ?_; first | refine LetL.mk [_] rfl ?_) | (refine CallN.pre ?_; first | refine CallN.pure hP rfl rfl ?_)))); (try (conv => whnf)))






      refine LoopN.weak ?swf hnx
      case swf => exact SW.mk id rfl (suN2 _ rfl rfl ..) rfl ⟨.refl _, .refl _, .refl _, .refl _, .refl _, .refl _, .refl _, .refl _, .refl _, .refl _, .refl _, .refl _, VLe2.int (by omega), trivial⟩ (haveV.one rfl (haveV.one rfl trivial))
    · have e1 : crS s (p, f) (⟨xe, xb, xg, false⟩, e.credits) = (p, IntKind.i64.wrap (f + e.credits)) := by unfold crS psB; rw [decide_eq_false hr]; rfl
      rw [e1] at hq'
      rw [decide_eq_false hr] at hP
      subst hq'
      ((repeat ((conv => whnf); (first | (refine LetN.pre ?_; first | ((conv => arg 1; whnf); refine LetN.mk ?_)) | (refine As.pre ?_; first | refine As.mk rfl ?_ | (refine As.mk ?_ ?_; · ((repeat' (refine andT ?_ ?_)) <;> (first | rfl | assumption | exact decide_eq_true (by omega) | exact decide_eq_true (by dsimp only; omega) | exact decide_eq_true (by simp; omega) | (simp; done))))) | (refine LetV.pre ?_; first | refine LetV.mk (t := 27) _ hle ?_ | refine LetV.mk (.sc (.int _ _)) rfl ?_ | refine LetV.mk (.sc (.bool _)) rfl ?_ | refine LetV.mk (.agg _) rfl ?_) | (refine LetI.pre ?_; first | refine LetI.mk (o := some .quo) d hq2 ?_ | refine LetI.mk (o := some .add) (IntKind.i64.wrap (f + e.credits)) rfl ?_ | refine LetI.wrap (by omega) (by omega) ?_) | (refine LetB.pre ?_; first | refine LetB.dect (by omega) ?_ | refine LetB.bnef (by omega) ?_) | (refine Gd.pre ?_; first | refine Gd.run rfl ?_) | (refine Br.pre ?_; first | refine Br.tt rfl ?_ | refine Br.ff rfl ?_) | (refine Ck.pre ?_; first | refine Ck.mk rfl ?_) | (refine LetL.pre ?_; first | refine LetL.mk [_] rfl ?_) | (refine CallN.pre ?_; first | refine CallN.pure hP rfl rfl ?_)))); (try (conv => whnf)))






      refine LoopN.weak ?swg hnx
      case swg => exact SW.mk id rfl (suN2 _ rfl rfl ..) rfl ⟨.refl _, .refl _, .refl _, .refl _, .refl _, .refl _, .refl _, .refl _, .refl _, .refl _, .refl _, .refl _, VLe2.int (by omega), trivial⟩ (haveV.one rfl (haveV.one rfl trivial))
end En
end Go.Proofs.Ytnegdmjmllmclaa
namespace Go.Proofs.Ytnegdmjmllmclaa
open Go.Proofs.Ytnegdmjmllmclaa.Am
set_option maxRecDepth 100000
namespace En
/-! ### Grades of a term, by entries -/
theorem fidx_find {α : Type} (p : α → Bool) (d : α) : ∀ (l : List α) (k : Nat), (fidx p l k < 0 ∧ l.find? p = none) ∨ ∃ i, i < l.length ∧ fidx p l k = ((k + i : Nat) : Int) ∧ l.find? p = some (l.getD i d)
  | [], _ => .inl ⟨by simp [fidx], rfl⟩
  | x :: l, k => by
    simp only [fidx]
    by_cases h : p x = true
    · rw [if_pos h]
      exact .inr ⟨0, by simp, rfl, by rw [List.find?_cons_of_pos h]; rfl⟩
    · rw [if_neg h, List.find?_cons_of_neg h]
      rcases fidx_find p d l (k + 1) with h1 | ⟨i, h1, h2, h3⟩
      · exact .inl h1
      · exact .inr ⟨i + 1, by simpa using h1, by rw [h2]; omega, by rw [h3]; rfl⟩
theorem gsel_find (l : List E) (st t : Int) (x : St) : gsel l st t x = (l.find? (isG x.entry)).bind fun e => if e.student = st ∧ e.on_ / 100 = t then some (x, e.credits) else none := by
  unfold gsel
  rcases fidx_find (isG x.entry) e0 l 0 with ⟨h1, h2⟩ | ⟨i, h1, h2, h3⟩
  · rw [if_pos h1, h2]; rfl
  · rw [h2, h3, if_neg (by omega)]
    have : ((0 + i : Nat) : Int).toNat = i := by omega
    rw [this]; rfl
theorem inF_none {s : Sc.Scl} {st t : Int} {x : St} : ∀ {l : List E} (q : Int × Int), (∀ e ∈ l, e.id ≠ x.entry) → l.foldl (inF s st t x) q = q
  | [], _, _ => rfl
  | e :: l, q, h => by
    have h1 : inF s st t x q e = q := by
      unfold inF inB
      rw [decide_eq_false (fun hh => h e (List.mem_cons_self ..) hh.2.1), if_neg (by decide)]
    rw [List.foldl_cons, h1]
    exact inF_none q fun e he => h e (List.mem_cons_of_mem _ he)
theorem inF_find {s : Sc.Scl} {st t : Int} {x : St} : ∀ {l : List E} (q : Int × Int), up l → l.foldl (inF s st t x) q = match ((l.find? (isG x.entry)).bind fun e => if e.student = st ∧ e.on_ / 100 = t then some (x, e.credits) else none) with | some y => crS s q y | none => q
  | [], _, _ => rfl
  | e :: l, q, h => by
    obtain ⟨h1, h2⟩ := List.pairwise_cons.1 h
    rw [List.foldl_cons]
    by_cases hg : e.kind = 3 ∧ e.id = x.entry
    · rw [List.find?_cons_of_pos (show isG x.entry e = true from decide_eq_true hg), inF_none _ fun e' he' => by have := h1 e' he'; omega]
      unfold inF inB
      by_cases c : e.student = st ∧ e.on_ / 100 = t
      · rw [decide_eq_true ⟨hg.1, hg.2, c.1, c.2⟩, if_pos rfl]
        show _ = match (if e.student = st ∧ e.on_ / 100 = t then some (x, e.credits) else none) with | some y => crS s q y | none => q
        rw [if_pos c]
      · rw [decide_eq_false (fun hh => c ⟨hh.2.2.1, hh.2.2.2⟩), if_neg (by decide)]
        show _ = match (if e.student = st ∧ e.on_ / 100 = t then some (x, e.credits) else none) with | some y => crS s q y | none => q
        rw [if_neg c]
    · rw [List.find?_cons_of_neg (show ¬ isG x.entry e = true from fun hh => hg (of_decide_eq_true hh))]
      have h1 : inF s st t x q e = q := by
        unfold inF inB
        rw [decide_eq_false (fun hh => hg ⟨hh.1, hh.2.1⟩), if_neg (by decide)]
      rw [h1]
      exact inF_find q h2
theorem suP_eq {l : List E} (h : up l) (s : Sc.Scl) (st a t : Int) : suP l s st a t = crP s (grdP l st a t) := by
  unfold suP crP grdP
  rw [List.foldl_filterMap]
  congr 1
  funext q x
  rw [inF_find q h, gsel_find]
  cases (List.find? (isG x.entry) l).bind fun e => if e.student = st ∧ e.on_ / 100 = t then some (x, e.credits) else none <;> rfl
theorem up_id {l : List E} (h : up l) {a b : E} (ha : a ∈ l) (hb : b ∈ l) (e : a.id = b.id) : a = b := by
  obtain ⟨i, hi, rfl⟩ := List.mem_iff_getElem.1 ha
  obtain ⟨j, hj, rfl⟩ := List.mem_iff_getElem.1 hb
  have hp := List.pairwise_iff_getElem.1 h
  rcases Nat.lt_trichotomy i j with h1 | h1 | h1
  · have := hp i j hi hj h1; omega
  · subst h1; rfl
  · have := hp j i hj hi h1; omega
theorem find_up {l : List E} (h : up l) {g : E} (hg : g ∈ l) (hk : g.kind = 3) : l.find? (isG g.id) = some g := by
  cases hf : l.find? (isG g.id) with
  | none => exact absurd (decide_eq_true ⟨hk, rfl⟩) (List.find?_eq_none.1 hf g hg)
  | some e =>
    have h1 := List.find?_some hf
    have h2 := of_decide_eq_true h1
    rw [up_id h (List.mem_of_find?_eq_some hf) hg h2.2]
/-- The grades of a student and a term that count. -/
def tgB (st a t : Int) (g : E) : Bool := decide (g.kind = 3 ∧ g.day ≤ a ∧ g.on_ ≤ 100 * t + 99 ∧ g.student = st ∧ g.on_ / 100 = t)
theorem grd_up {l : List E} (h : up l) (st a t : Int) : grdP l st a t = (l.filter (tgB st a t)).map fun g => (stS l a (100 * t + 99) g, g.credits) := by
  rw [grdP, atP_up h, List.filterMap_map]
  have : ∀ L : List E, (∀ g ∈ L, g ∈ l) → List.filterMap (gsel l st t ∘ stS l a (100 * t + 99)) (L.filter (grB a (100 * t + 99))) = (L.filter (tgB st a t)).map fun g => (stS l a (100 * t + 99) g, g.credits) := by
    intro L hL
    induction L with
    | nil => rfl
    | cons g L ih =>
      have ih := ih fun x hx => hL x (List.mem_cons_of_mem _ hx)
      by_cases hg : g.kind = 3 ∧ g.day ≤ a ∧ g.on_ ≤ 100 * t + 99
      · rw [List.filter_cons_of_pos (show grB a (100 * t + 99) g = true from decide_eq_true hg), List.filterMap_cons]
        have e : (gsel l st t ∘ stS l a (100 * t + 99)) g = if g.student = st ∧ g.on_ / 100 = t then some (stS l a (100 * t + 99) g, g.credits) else none := by
          show gsel l st t (stS l a (100 * t + 99) g) = _
          rw [gsel_find]
          have : (stS l a (100 * t + 99) g).entry = g.id := rfl
          rw [this, find_up h (hL g (List.mem_cons_self ..)) hg.1]; rfl
        rw [e]
        by_cases c : g.student = st ∧ g.on_ / 100 = t
        · rw [if_pos c, List.filter_cons_of_pos (show tgB st a t g = true from decide_eq_true ⟨hg.1, hg.2.1, hg.2.2, c.1, c.2⟩), List.map_cons, ih]
        · rw [if_neg c, List.filter_cons_of_neg (by unfold tgB; rw [decide_eq_false (fun hh => c hh.2.2.2)]; decide), ih]
      · rw [List.filter_cons_of_neg (show ¬ grB a (100 * t + 99) g = true from fun hh => hg (of_decide_eq_true hh)), List.filter_cons_of_neg (by unfold tgB; rw [decide_eq_false (fun hh => hg ⟨hh.1, hh.2.1, hh.2.2.1⟩)]; decide), ih]
  exact this l fun _ hg => hg
theorem foldl_min_le : ∀ (l : List Int) (x : Int), l.foldl min x ≤ x ∧ (∀ y ∈ l, l.foldl min x ≤ y) ∧ (l.foldl min x = x ∨ l.foldl min x ∈ l)
  | [], x => ⟨Int.le_refl _, fun _ h => absurd h List.not_mem_nil, .inl rfl⟩
  | z :: l, x => by
    obtain ⟨h1, h2, h3⟩ := foldl_min_le l (min x z)
    refine ⟨by rw [List.foldl_cons]; omega, fun y hy => ?_, ?_⟩
    · rw [List.foldl_cons]
      rcases List.mem_cons.1 hy with rfl | hy
      · omega
      · exact h2 y hy
    · rw [List.foldl_cons]
      rcases h3 with h3 | h3
      · rw [h3]
        by_cases hc : x ≤ z
        · left; omega
        · right; exact List.mem_cons.2 (.inl (by omega))
      · right; exact List.mem_cons_of_mem _ h3
theorem foldl_max_ge : ∀ (l : List Int) (x : Int), x ≤ l.foldl max x ∧ (∀ y ∈ l, y ≤ l.foldl max x)
  | [], x => ⟨Int.le_refl _, fun _ h => absurd h List.not_mem_nil⟩
  | z :: l, x => by
    obtain ⟨h1, h2⟩ := foldl_max_ge l (max x z)
    refine ⟨by rw [List.foldl_cons]; omega, fun y hy => ?_⟩
    rw [List.foldl_cons]
    rcases List.mem_cons.1 hy with rfl | hy
    · omega
    · exact h2 y hy
theorem minP_mem {l : List Int} (h : l ≠ []) : minP l ∈ l ∧ ∀ y ∈ l, minP l ≤ y := by
  cases l with
  | nil => exact absurd rfl h
  | cons x l =>
    obtain ⟨h1, h2, h3⟩ := foldl_min_le l x
    refine ⟨?_, fun y hy => ?_⟩
    · rcases h3 with h3 | h3
      · exact List.mem_cons.2 (.inl h3)
      · exact List.mem_cons_of_mem _ h3
    · rcases List.mem_cons.1 hy with rfl | hy
      · exact h1
      · exact h2 y hy
theorem maxP_ge {l : List Int} : ∀ y ∈ l, y ≤ maxP l := by
  cases l with
  | nil => exact fun _ h => absurd h List.not_mem_nil
  | cons x l =>
    obtain ⟨h1, h2⟩ := foldl_max_ge l x
    intro y hy
    rcases List.mem_cons.1 hy with rfl | hy
    · exact h1
    · exact h2 y hy
/-- Terms of entries with days from 0 on. -/
abbrev okO (l : List E) : Prop := ∀ e ∈ l, 0 ≤ e.on_ ∧ e.on_ ≤ 1000
theorem M10.okO {sc day : Int} {l : List E} (h : M10 sc day l) (hd : day ≤ 1000) : okO l := fun e he => by
  have h1 := (h.ok e he).day
  have h2 := (h.ok e he).on
  omega
theorem trm_nn {l : List E} (ho : okO l) {st a x : Int} (hx : x ∈ trmP l st a) : 0 ≤ x ∧ x ≤ 10 := by
  obtain ⟨e, he, rfl⟩ := List.mem_map.1 hx
  have := ho e (List.mem_filter.1 he).1
  omega
theorem grd_nil {l : List E} (h : up l) {st a t : Int} (hx : t ∉ trmP l st a) : grdP l st a t = [] := by
  rw [grd_up h]
  have : l.filter (tgB st a t) = [] := List.filter_eq_nil_iff.2 fun g hg hh => by
    have hh := of_decide_eq_true hh
    exact hx (List.mem_map.2 ⟨g, List.mem_filter.2 ⟨hg, decide_eq_true ⟨hh.1, hh.2.2.2.1, hh.2.1⟩⟩, hh.2.2.2.2⟩)
  rw [this]; rfl
theorem stdL_b (l : List E) (s : Sc.Scl) (st a f : Int) : ∀ k, 0 ≤ stdL l s st a f k ∧ stdL l s st a f k ≤ 3
  | 0 => ⟨Int.le_refl _, Int.le_of_lt (by show (0 : Int) < 3; decide)⟩
  | k + 1 => by
    rw [stdL]; unfold stdS
    split
    · omega
    · split <;> omega
theorem std_skip {l : List E} {s : Sc.Scl} {st a t : Int} (h : trmP l st a = [] ∨ t < minP (trmP l st a) ∨ 100 * t + 99 > a) : stdP l s st a t = 0 := by
  unfold stdP
  rw [if_pos]
  rcases h with h | h | h
  · exact .inl h
  · exact .inr (.inr h)
  · exact .inr (.inl (decide_eq_false fun hh => by omega))
theorem std_go {l : List E} {s : Sc.Scl} {st a t : Int} (ho : okO l) (h : trmP l st a ≠ []) (h1 : minP (trmP l st a) ≤ t) (h2 : 100 * t + 99 ≤ a) (h3 : t ≤ 1000) :
    stdP l s st a t = stdS (crP s (grdP l st a t)) (stdL l s st a (minP (trmP l st a)) (t - minP (trmP l st a)).toNat) := by
  have h0 := (trm_nn ho (minP_mem h).1).1
  unfold stdP
  have hf : fstP l st a = minP (trmP l st a) := by unfold fstP; omega
  rw [if_neg, hf]
  · generalize minP (trmP l st a) = f at h0 h1 ⊢
    have e1 : (t - f + 1).toNat = (t - f).toNat + 1 := by omega
    have e2 : f + ((t - f).toNat : Int) = t := by omega
    rw [e1, stdL, e2]
  · rintro (hh | hh | hh)
    · exact h hh
    · have := of_decide_eq_false hh; omega
    · omega
/-! ### The law of bad terms -/
/-- What the law keeps: the standing before. -/
def badI (l : List E) (s : Sc.Scl) (st a : Int) (t : Int) (b : Int) : Prop :=
  (0 ≤ b ∧ b ≤ 3) ∧ (trmP l st a ≠ [] → (t ≤ minP (trmP l st a) → b = 0) ∧ (minP (trmP l st a) ≤ t → (t = minP (trmP l st a) ∨ 100 * (t - 1) + 99 ≤ a) → b = stdL l s st a (minP (trmP l st a)) (t - minP (trmP l st a)).toNat))
theorem bad0 {l : List E} (s : Sc.Scl) {st a : Int} (ho : okO l) : badI l s st a 0 0 := ⟨by decide, fun h => ⟨fun _ => rfl, fun h1 _ => by
  have := (trm_nn ho (minP_mem h).1).1
  have e : minP (trmP l st a) = 0 := by omega
  rw [e]; rfl⟩⟩
theorem bad_skip {l : List E} {s : Sc.Scl} {st a t b : Int} (h : badI l s st a t b) (hs : trmP l st a = [] ∨ t < minP (trmP l st a) ∨ 100 * t + 99 > a) : badI l s st a (t + 1) b := by
  refine ⟨h.1, fun hn => ⟨fun h1 => (h.2 hn).1 (by omega), fun h1 h2 => ?_⟩⟩
  by_cases hs' : t < minP (trmP l st a)
  · rw [(h.2 hn).1 (by omega)]
    have e : (t + 1 - minP (trmP l st a)).toNat = 0 := by omega
    rw [e]; rfl
  rcases hs with hs | hs | hs
  · exact absurd hs hn
  · exact absurd hs hs'
  · exfalso; omega
theorem bad_go {l : List E} {s : Sc.Scl} {st a t b : Int} (ho : okO l) (h : badI l s st a t b) (hn : trmP l st a ≠ []) (h1 : minP (trmP l st a) ≤ t) (h2 : 100 * t + 99 ≤ a) (h3 : t ≤ 1000) :
    stdP l s st a t = stdS (crP s (grdP l st a t)) b ∧ badI l s st a (t + 1) (stdP l s st a t) := by
  have hb := (h.2 hn).2 h1 (.inr (by omega))
  have e := std_go (s := s) ho hn h1 h2 h3
  rw [← hb] at e
  refine ⟨e, ?_, fun _ => ⟨fun hh => by omega, fun _ _ => ?_⟩⟩
  · rw [e]; unfold stdS
    split
    · omega
    · split <;> omega
  · have e1 : (t + 1 - minP (trmP l st a)).toNat = (t - minP (trmP l st a)).toNat + 1 := by omega
    have e2 : minP (trmP l st a) + ((t - minP (trmP l st a)).toNat : Int) = t := by omega
    rw [e, e1, stdL, e2, hb]
theorem bad_last {l : List E} {s : Sc.Scl} {st a t : Int} (h : up l) (hl : maxP (trmP l st a) < t) : crP s (grdP l st a t) = (0, 0) := by
  rw [grd_nil h]; · rfl
  intro hx
  have := maxP_ge _ hx
  omega
theorem min_le_max {l : List Int} (h : l ≠ []) : minP l ≤ maxP l := maxP_ge _ (minP_mem h).1
end En
end Go.Proofs.Ytnegdmjmllmclaa
namespace Go.Proofs.Ytnegdmjmllmclaa
open Go.Proofs.Ytnegdmjmllmclaa.Am
set_option maxRecDepth 100000
namespace En
/-! ### One grade more -/
theorem lifted_app (R : List E) (e : E) (he : e.kind = 3) (f a o : Int) : liftedP (R ++ [e]) f a o = liftedP R f a o := by
  unfold liftedP
  rw [List.any_append]
  have : ([e].any fun e => decide (e.kind = 6) && decide (e.ref = f) && decide (e.day ≤ a ∧ e.on_ ≤ o)) = false := by
    rw [List.any_cons, decide_eq_false (fun h : e.kind = 6 => by omega)]; rfl
  rw [this, Bool.or_false]
theorem chos_app (R : List E) (e : E) (he : e.kind = 3) (k r : Int) (hk : k ≠ 3) : chos (R ++ [e]) [cOf k, cTo r] = chos R [cOf k, cTo r] := by
  unfold chos
  rw [List.filter_append]
  have : [e].filter (fun e => [cOf k, cTo r].all (·.p e)) = [] := List.filter_eq_nil_iff.2 fun x hx hh => by
    rw [List.mem_singleton.1 hx] at hh
    have := (Bool.and_eq_true _ _ ▸ hh : _ ∧ _).1
    exact hk ((of_decide_eq_true this).symm.trans he)
  rw [this, List.append_nil]
theorem stand_app (R : List E) (e : E) (he : e.kind = 3) (a o : Int) (g : E) : stand (R ++ [e]) a o g = stand R a o g := by
  unfold stand corr voidP
  rw [chos_app R e he 4 _ (by decide), chos_app R e he 5 _ (by decide)]
  have : (fun f : E => !liftedP (R ++ [e]) f.id a o) = fun f => !liftedP R f.id a o := by
    funext f; rw [lifted_app R e he]
  rw [this]
theorem up_app {l : List E} {e : E} (h : up l) (hi : ∀ x ∈ l, x.id < e.id) : up (l ++ [e]) :=
  List.pairwise_append.2 ⟨h, List.pairwise_singleton _ _, fun x hx y hy => by rw [List.mem_singleton.1 hy]; exact hi x hx⟩
theorem stS_app {l : List E} {e : E} (h : up l) (hi : ∀ x ∈ l, x.id < e.id) (he : e.kind = 3) (a o : Int) (g : E) : stS (l ++ [e]) a o g = stS l a o g := by
  show stand (atR (l ++ [e]) a o) a o g = stand (atR l a o) a o g
  rw [atR_up (up_app h hi), atR_up h, List.filter_append]
  by_cases c : cntB a o e = true
  · rw [List.filter_cons_of_pos c]
    exact stand_app _ e he a o g
  · rw [List.filter_cons_of_neg c]
    simp
/-- A grade that nothing refers to. -/
theorem stS_free {l : List E} {e : E} (h : up l) (hr : ∀ x ∈ l, refsK x.kind → x.ref ≠ e.id) (a o : Int) : stS l a o e = ⟨e.id, 0, e.grade, false⟩ := by
  show stand (atR l a o) a o e = _
  rw [atR_up h]
  have hn : ∀ k, refsK k → chos (l.filter (cntB a o)) [cOf k, cTo e.id] = [] := fun k hk => List.filter_eq_nil_iff.2 fun x hx hh => by
    have h1 := (Bool.and_eq_true _ _ ▸ hh : _ ∧ _)
    have h2 := of_decide_eq_true h1.1
    have h3 := (Bool.and_eq_true _ _ ▸ h1.2 : _ ∧ _).1
    exact hr x (List.mem_filter.1 hx).1 (h2 ▸ hk) (of_decide_eq_true h3)
  unfold stand corr voidP
  rw [hn 4 (.inl rfl), hn 5 (.inr (.inl rfl))]
  rfl
theorem M10.mem_ref {sc day : Int} {l : List E} (h : M10 sc day l) : ∀ x ∈ l, refsK x.kind → ∃ y ∈ l, y.id = x.ref ∧ y.student = x.student ∧ y.kind = tgt x.kind ∧ y.on_ ≤ x.on_ := fun x hx hk => by
  obtain ⟨i, hi, rfl⟩ := List.mem_iff_getElem.1 hx
  have e : l.getD i e0 = l[i] := by rw [List.getD_eq_getElem?_getD, List.getElem?_eq_getElem hi]; rfl
  obtain ⟨j, hj, h1, h2, h3, h4⟩ := h.refs i hi (e ▸ hk)
  rw [e] at h1 h2 h3 h4
  exact ⟨l.getD j e0, getD_mem' (by omega), h1, h2, h3, h4⟩
theorem grd_app {l : List E} {e : E} (h : up l) (hi : ∀ x ∈ l, x.id < e.id) (he : e.kind = 3) (hr : ∀ x ∈ l, refsK x.kind → x.ref ≠ e.id) (st a t : Int) :
    grdP (l ++ [e]) st a t = grdP l st a t ++ if tgB st a t e then [(⟨e.id, 0, e.grade, false⟩, e.credits)] else [] := by
  rw [grd_up (up_app h hi), grd_up h, List.filter_append, List.map_append]
  congr 1
  · exact List.map_congr_left fun g _ => by rw [stS_app h hi he]
  · by_cases c : tgB st a t e = true
    · rw [List.filter_cons_of_pos c, if_pos c]
      show [(stS (l ++ [e]) a (100 * t + 99) e, e.credits)] = _
      rw [stS_app h hi he, stS_free h hr]
    · rw [List.filter_cons_of_neg c, if_neg c]; rfl
theorem crP_app (s : Sc.Scl) (L M : List (St × Int)) : crP s (L ++ M) = M.foldl (crS s) (crP s L) := List.foldl_append ..
theorem crF_b (s : Sc.Scl) : ∀ (L : List (St × Int)) (q : Int × Int), (∀ y ∈ L, 0 ≤ y.2 ∧ y.2 ≤ 100) → L.length ≤ 1000 → (0 ≤ q.1 ∧ q.1 + 100 * L.length ≤ 1000000) → (0 ≤ q.2 ∧ q.2 + 100 * L.length ≤ 1000000) →
    (q.1 ≤ (L.foldl (crS s) q).1 ∧ (L.foldl (crS s) q).1 ≤ q.1 + 100 * L.length) ∧ (q.2 ≤ (L.foldl (crS s) q).2 ∧ (L.foldl (crS s) q).2 ≤ q.2 + 100 * L.length)
  | [], q, _, _, _, _ => by simp
  | y :: L, q, h, hl, h1, h2 => by
    have hy := h y (List.mem_cons_self ..)
    rw [List.length_cons] at h1 h2 hl ⊢
    rw [List.foldl_cons]
    have hq : (crS s q y = (q.1 + y.2, q.2) ∨ crS s q y = (q.1, q.2 + y.2)) := by
      unfold crS
      split
      · left; rw [wrap_id (by omega) (by omega)]
      · right; rw [wrap_id (by omega) (by omega)]
    have h3 := crF_b s L (crS s q y) (fun z hz => h z (List.mem_cons_of_mem _ hz)) (by omega)
    rcases hq with hq | hq
    · rw [hq] at h3 ⊢
      have := h3 (by dsimp only; omega) (by dsimp only; omega)
      dsimp only at this
      omega
    · rw [hq] at h3 ⊢
      have := h3 (by dsimp only; omega) (by dsimp only; omega)
      dsimp only at this
      omega
abbrev okC (l : List E) : Prop := ∀ e ∈ l, 0 ≤ e.credits ∧ e.credits ≤ 100
theorem grd_cr {l : List E} (h : up l) (hc : okC l) (st a t : Int) : ∀ y ∈ grdP l st a t, 0 ≤ y.2 ∧ y.2 ≤ 100 := fun y hy => by
  rw [grd_up h] at hy
  obtain ⟨g, hg, rfl⟩ := List.mem_map.1 hy
  exact hc g (List.mem_filter.1 hg).1
theorem cr_b {l : List E} (h : up l) (hc : okC l) (hl : l.length ≤ 1000) (s : Sc.Scl) (st a t : Int) : (0 ≤ (crP s (grdP l st a t)).1 ∧ (crP s (grdP l st a t)).1 ≤ 100000) ∧ (0 ≤ (crP s (grdP l st a t)).2 ∧ (crP s (grdP l st a t)).2 ≤ 100000) := by
  have hg := grd_len l st a t
  have := crF_b s (grdP l st a t) (0, 0) (grd_cr h hc st a t) (by omega) (by dsimp only; omega) (by dsimp only; omega)
  unfold crP
  dsimp only at this
  omega
theorem cr_more {l : List E} {e : E} (h : up l) (hi : ∀ x ∈ l, x.id < e.id) (he : e.kind = 3) (hr : ∀ x ∈ l, refsK x.kind → x.ref ≠ e.id) (hc : okC l) (hl : l.length ≤ 1000) (hec : 0 ≤ e.credits ∧ e.credits ≤ 100) (s : Sc.Scl) (hb : Sc.rea s e.grade s.2.2) (st a t : Int) :
    (crP s (grdP (l ++ [e]) st a t)).2 = (crP s (grdP l st a t)).2 ∧ (crP s (grdP l st a t)).1 ≤ (crP s (grdP (l ++ [e]) st a t)).1 := by
  have hb1 := cr_b h hc hl s st a t
  rw [grd_app h hi he hr, crP_app]
  split
  · rw [List.foldl_cons, List.foldl_nil]
    have : crS s (crP s (grdP l st a t)) (⟨e.id, 0, e.grade, false⟩, e.credits) = (IntKind.i64.wrap ((crP s (grdP l st a t)).1 + e.credits), (crP s (grdP l st a t)).2) := by
      unfold crS psB
      dsimp only
      rw [decide_eq_true hb]; rfl
    rw [this, wrap_id (by omega) (by omega)]
    dsimp only
    omega
  · exact ⟨rfl, Int.le_refl _⟩
/-! ### No standing gets worse -/
theorem minP_app {l : List Int} (h : l ≠ []) (x : Int) : minP (l ++ [x]) = min (minP l) x := by
  cases l with
  | nil => exact absurd rfl h
  | cons y l => show (l ++ [x]).foldl min y = _; rw [List.foldl_append]; rfl
theorem trm_app (l : List E) (e : E) (st a : Int) (h : tmB st a e = true) : trmP (l ++ [e]) st a = trmP l st a ++ [e.on_ / 100] := by
  unfold trmP
  rw [List.filter_append, List.filter_cons_of_pos h, List.map_append]; rfl
theorem stdS_one (q : Int × Int) (x : Int) : 1 ≤ stdS q x := by
  unfold stdS
  split
  · omega
  · split <;> omega
theorem stdS_mono {p p' d x x' : Int} (h : p ≤ p') (hx : x' ≤ x ∨ x' ≤ 1) : stdS (p', d) x' ≤ stdS (p, d) x := by
  have h1 := stdS_one (p, d) x
  unfold stdS at h1 ⊢
  dsimp only at h1 ⊢
  by_cases c : d ≤ p'
  · rw [if_pos c]; exact h1
  · rw [if_neg c, if_neg (show ¬ d ≤ p by omega)]
    by_cases c2 : x' ≥ 2
    · rw [if_pos c2, if_pos (by omega)]; omega
    · rw [if_neg c2]
      by_cases c3 : x ≥ 2
      · rw [if_pos c3]; omega
      · rw [if_neg c3]; omega
theorem std_run {s : Sc.Scl} {st a f f' : Int} {l m : List E} (hcr : ∀ t, (crP s (grdP m st a t)).2 = (crP s (grdP l st a t)).2 ∧ (crP s (grdP l st a t)).1 ≤ (crP s (grdP m st a t)).1) (k0 : Nat) (hf : f = f' + k0) (h0 : stdL m s st a f' k0 ≤ 1) : ∀ k, stdL m s st a f' (k0 + k) ≤ stdL l s st a f k ∨ stdL m s st a f' (k0 + k) ≤ 1
  | 0 => .inr h0
  | k + 1 => by
    left
    have ih := std_run hcr k0 hf h0 k
    have e1 : k0 + (k + 1) = (k0 + k) + 1 := rfl
    rw [e1, stdL, stdL]
    have e2 : f' + ((k0 + k : Nat) : Int) = f + (k : Int) := by omega
    rw [e2]
    have := hcr (f + (k : Int))
    generalize crP s (grdP m st a (f + k)) = q' at this ⊢
    generalize crP s (grdP l st a (f + k)) = q at this ⊢
    obtain ⟨p, d⟩ := q
    obtain ⟨p', d'⟩ := q'
    dsimp only at this
    obtain ⟨rfl, hp⟩ := this
    exact stdS_mono hp ih
theorem std_low {s : Sc.Scl} {st a f' : Int} {m : List E} : ∀ k : Nat, (∀ j, j < k → (crP s (grdP m st a (f' + (j : Nat)))).2 ≤ (crP s (grdP m st a (f' + (j : Nat)))).1) → stdL m s st a f' k ≤ 1
  | 0, _ => by show (0 : Int) ≤ 1; decide
  | k + 1, h => by
    rw [stdL]; unfold stdS
    rw [if_pos (h k (Nat.lt_succ_self k))]
    omega
theorem more_std {l : List E} {e : E} (h : up l) (hi : ∀ x ∈ l, x.id < e.id) (he : e.kind = 3) (hr : ∀ x ∈ l, refsK x.kind → x.ref ≠ e.id) (hc : okC l) (hl : l.length ≤ 1000) (hec : 0 ≤ e.credits ∧ e.credits ≤ 100) (s : Sc.Scl) (hb : Sc.rea s e.grade s.2.2) (ho : okO l) (heo : 0 ≤ e.on_ ∧ e.on_ ≤ 1000) (st a : Int) (htm : tmB st a e = true) (hn : trmP l st a ≠ []) (t : Int) (ht : t ≤ 1000) :
    (minP (trmP l st a) ≤ t → stdP (l ++ [e]) s st a t ≤ stdP l s st a t) ∧ (t < minP (trmP l st a) → stdP (l ++ [e]) s st a t ≤ 1) := by
  have hcr := fun t => cr_more h hi he hr hc hl hec s hb st a t
  have hTm := trm_app l e st a htm
  have hn' : trmP (l ++ [e]) st a ≠ [] := by rw [hTm]; simp
  have hmin : minP (trmP (l ++ [e]) st a) = min (minP (trmP l st a)) (e.on_ / 100) := by rw [hTm, minP_app hn]
  have ho' : okO (l ++ [e]) := fun x hx => by
    rcases List.mem_append.1 hx with hx | hx
    · exact ho x hx
    · rw [List.mem_singleton.1 hx]; exact heo
  have hF0 := (trm_nn ho' (minP_mem hn').1).1
  have hle : minP (trmP (l ++ [e]) st a) ≤ minP (trmP l st a) := by omega
  obtain ⟨k0, hk0⟩ : ∃ k0 : Nat, minP (trmP l st a) = minP (trmP (l ++ [e]) st a) + k0 := ⟨(minP (trmP l st a) - minP (trmP (l ++ [e]) st a)).toNat, by omega⟩
  have hlow : ∀ k : Nat, k ≤ k0 → stdL (l ++ [e]) s st a (minP (trmP (l ++ [e]) st a)) k ≤ 1 := fun k hk => std_low k fun j hj => by
    have h1 := hcr (minP (trmP (l ++ [e]) st a) + (j : Nat))
    have h2 : grdP l st a (minP (trmP (l ++ [e]) st a) + (j : Nat)) = [] := grd_nil h fun hx => by
      have := (minP_mem hn).2 _ hx
      omega
    rw [h2] at h1
    have h3 : crP s [] = (0, 0) := rfl
    rw [h3] at h1
    dsimp only at h1
    omega
  by_cases hend : 100 * t + 99 > a
  · rw [std_skip (.inr (.inr hend)), std_skip (.inr (.inr hend))]
    exact ⟨fun _ => Int.le_refl _, fun _ => by decide⟩
  by_cases ht0 : t < minP (trmP (l ++ [e]) st a)
  · rw [std_skip (l := l ++ [e]) (.inr (.inl ht0))]
    refine ⟨fun hh => by omega, fun _ => by decide⟩
  have hgo' := std_go (s := s) ho' hn' (by omega) (by omega) ht
  obtain ⟨k, hk⟩ : ∃ k : Nat, t = minP (trmP (l ++ [e]) st a) + k := ⟨(t - minP (trmP (l ++ [e]) st a)).toNat, by omega⟩
  have e1 : (t - minP (trmP (l ++ [e]) st a)).toNat = k := by omega
  rw [e1] at hgo'
  have e2 : stdP (l ++ [e]) s st a t = stdL (l ++ [e]) s st a (minP (trmP (l ++ [e]) st a)) (k + 1) := by rw [hgo', stdL, ← hk]
  refine ⟨fun hh => ?_, fun hh => ?_⟩
  · have hgo := std_go (s := s) ho hn hh (by omega) ht
    obtain ⟨j, hj⟩ : ∃ j : Nat, t = minP (trmP l st a) + j := ⟨(t - minP (trmP l st a)).toNat, by omega⟩
    have e3 : (t - minP (trmP l st a)).toNat = j := by omega
    rw [e3] at hgo
    have e4 : stdP l s st a t = stdL l s st a (minP (trmP l st a)) (j + 1) := by rw [hgo, stdL, ← hj]
    have hrun := std_run hcr k0 hk0 (hlow k0 (Nat.le_refl _)) (j + 1)
    have e5 : k0 + (j + 1) = k + 1 := by omega
    rw [e5, ← e2, ← e4] at hrun
    rcases hrun with hrun | hrun
    · exact hrun
    · have : 1 ≤ stdP l s st a t := by rw [hgo]; exact stdS_one _ _
      omega
  · rw [e2]
    exact hlow (k + 1) (by omega)
theorem more_sti {l : List E} {e : E} (h : up l) (hi : ∀ x ∈ l, x.id < e.id) (he : e.kind = 3) (hr : ∀ x ∈ l, refsK x.kind → x.ref ≠ e.id) (hc : okC l) (hl : l.length ≤ 1000) (hec : 0 ≤ e.credits ∧ e.credits ≤ 100) (s : Sc.Scl) (hb : Sc.rea s e.grade s.2.2) (ho : okO l) (heo : 0 ≤ e.on_ ∧ e.on_ ≤ 1000) (st a : Int) (htm : tmB st a e = true) (hn : trmP l st a ≠ []) (t : Int) (ht : t ≤ 1000) :
    stiP l s st a t = true → stiP (l ++ [e]) s st a t = true := fun hh => by
  have hh := of_decide_eq_true hh
  have hcr := cr_more h hi he hr hc hl hec s hb st a t
  have hm := more_std h hi he hr hc hl hec s hb ho heo st a htm hn t ht
  have hge : minP (trmP l st a) ≤ t := by
    by_cases c : minP (trmP l st a) ≤ t
    · exact c
    · have := std_skip (l := l) (s := s) (st := st) (a := a) (t := t) (.inr (.inl (by omega)))
      omega
  have hend : ¬ 100 * t + 99 > a := fun c => by
    have := std_skip (l := l) (s := s) (st := st) (a := a) (t := t) (.inr (.inr c))
    omega
  have h1 := hm.1 hge
  have hTm := trm_app l e st a htm
  have hn' : trmP (l ++ [e]) st a ≠ [] := by rw [hTm]; simp
  have hmin : minP (trmP (l ++ [e]) st a) = min (minP (trmP l st a)) (e.on_ / 100) := by rw [hTm, minP_app hn]
  have ho' : okO (l ++ [e]) := fun x hx => by
    rcases List.mem_append.1 hx with hx | hx
    · exact ho x hx
    · rw [List.mem_singleton.1 hx]; exact heo
  have h2 := std_go (s := s) (t := t) ho' hn' (by omega) (by omega) ht
  have h3 := stdS_one (crP s (grdP (l ++ [e]) st a t)) (stdL (l ++ [e]) s st a (minP (trmP (l ++ [e]) st a)) (t - minP (trmP (l ++ [e]) st a)).toNat)
  rw [← h2] at h3
  exact decide_eq_true ⟨by omega, by omega⟩
end En
end Go.Proofs.Ytnegdmjmllmclaa
namespace Go.Proofs.Ytnegdmjmllmclaa
open Go.Proofs.Ytnegdmjmllmclaa.Am
set_option maxRecDepth 100000
namespace En
/-! ### StandGood -/
abbrev gdB (st : Int) (e : E) : Bool := decide (e.kind = 3 ∧ e.student = st)
abbrev gdE (p : Int) (e : E) : E := { e with grade := p }
def goodP (l : List E) (st p : Int) : List E := (l.filter (gdB st)).map (gdE p)
theorem good_mem {l : List E} {st p : Int} {g : E} (h : g ∈ goodP l st p) : ∃ e ∈ l, (e.kind = 3 ∧ e.student = st) ∧ g = gdE p e := by
  obtain ⟨e, he, rfl⟩ := List.mem_map.1 h
  obtain ⟨h1, h2⟩ := List.mem_filter.1 he
  exact ⟨e, h1, of_decide_eq_true h2, rfl⟩
theorem good_up {l : List E} (h : up l) (st p : Int) : up (goodP l st p) := List.Pairwise.map _ (fun _ _ hh => hh) (up_filter h _)
theorem good_len (l : List E) (st p : Int) : (goodP l st p).length ≤ l.length := by unfold goodP; rw [List.length_map]; exact List.length_filter_le _ _
def gmS (t : Int) (q : Int) (e : E) : Int := if e.on_ / 100 = t then IntKind.i64.wrap (q + e.credits) else q
def gmP (G : List E) (t : Int) : Int := G.foldl (gmS t) 0
theorem crG (s : Sc.Scl) (hb : Sc.rea s s.2.2 s.2.2) (G : List E) (hg : ∀ g ∈ G, g.grade = s.2.2) (L : E → St × Int) (hL : ∀ g ∈ G, L g = (⟨g.id, 0, g.grade, false⟩, g.credits)) (t : Int) : ∀ (q : Int), ((G.filter fun g => decide (g.on_ / 100 = t)).map L).foldl (crS s) (q, 0) = (G.foldl (gmS t) q, 0) := by
  induction G with
  | nil => exact fun _ => rfl
  | cons g G ih =>
    intro q
    have ih := ih (fun x hx => hg x (List.mem_cons_of_mem _ hx)) (fun x hx => hL x (List.mem_cons_of_mem _ hx))
    rw [List.foldl_cons]
    by_cases c : g.on_ / 100 = t
    · rw [List.filter_cons_of_pos (p := fun g : E => decide (g.on_ / 100 = t)) (decide_eq_true c), List.map_cons, List.foldl_cons, hL g (List.mem_cons_self ..)]
      have : crS s (q, 0) (⟨g.id, 0, g.grade, false⟩, g.credits) = (IntKind.i64.wrap (q + g.credits), 0) := by
        unfold crS psB
        dsimp only
        rw [hg g (List.mem_cons_self ..), decide_eq_true hb]; rfl
      rw [this, ih]
      unfold gmS
      rw [if_pos c]
    · rw [List.filter_cons_of_neg (p := fun g : E => decide (g.on_ / 100 = t)) (fun hh => c (of_decide_eq_true hh)), ih]
      unfold gmS
      rw [if_neg c]
theorem good_cr {l : List E} (h : up l) (hd : ∀ e ∈ l, e.day ≤ 900) (s : Sc.Scl) (hb : Sc.rea s s.2.2 s.2.2) (st t : Int) : crP s (grdP (goodP l st s.2.2) st 900 t) = (gmP (goodP l st s.2.2) t, 0) := by
  have hu := good_up h st s.2.2
  rw [grd_up hu]
  have e : (goodP l st s.2.2).filter (tgB st 900 t) = (goodP l st s.2.2).filter fun g => decide (g.on_ / 100 = t) := by
    refine List.filter_congr fun g hg => ?_
    obtain ⟨x, hx, hk, rfl⟩ := good_mem hg
    have h1 := hd x hx
    unfold tgB
    refine decide_eq_decide.2 ⟨fun hh => hh.2.2.2.2, fun hh => ⟨hk.1, h1, ?_, hk.2, hh⟩⟩
    show x.on_ ≤ 100 * t + 99
    have hh : x.on_ / 100 = t := hh
    omega
  rw [e]
  refine crG s hb (goodP l st s.2.2) (fun g hg => ?_) _ (fun g hg => ?_) t 0
  · obtain ⟨x, hx, hk, rfl⟩ := good_mem hg; rfl
  · show (stS (goodP l st s.2.2) 900 (100 * t + 99) g, g.credits) = _
    rw [stS_free hu]
    intro x hx hk
    obtain ⟨y, hy, hk2, rfl⟩ := good_mem hx
    have h3 : (gdE s.2.2 y).kind = 3 := hk2.1
    unfold refsK at hk
    omega
theorem gm_nn {l : List E} (h : up l) (hd : ∀ e ∈ l, e.day ≤ 900) (hc : okC l) (hl : l.length ≤ 1000) (s : Sc.Scl) (hb : Sc.rea s s.2.2 s.2.2) (st t : Int) : 0 ≤ gmP (goodP l st s.2.2) t := by
  have h1 := cr_b (good_up h st s.2.2) (fun g hg => by obtain ⟨x, hx, hk, rfl⟩ := good_mem hg; exact hc x hx) (Nat.le_trans (good_len ..) hl) s st 900 t
  rw [good_cr h hd s hb] at h1
  exact h1.1.1
theorem scl_pass (sc : Int) (h : 1 ≤ sc ∧ sc ≤ 3) : Sc.rea (sclOf sc) (sclOf sc).2.2 (sclOf sc).2.2 := by
  have : sc = 1 ∨ sc = 2 ∨ sc = 3 := by omega
  rcases this with rfl | rfl | rfl <;> exact of_decide_eq_true (by kernel_rfl)
abbrev gdS (l : List E) (s : Sc.Scl) (st : Int) : Nat × List E → AS
  | (k, G) => ⟨[(3, bool true), (4, .ro {} 15 (l.map en)), (5, .ptr 0 3 0 0), (6, int st), (9, .slm {} 1 15 0 G.length), (29, .ro {} 15 (l.map en)), (30, int l.length), (31, int (k : Nat))], [(0, .row 3 scty [Sc.scA s]), (1, .row 15 ety (G.map en))], 2⟩
theorem gdN1 (l : List E) (L : Nat) (st n k : Int) : frNames (fun i => decide (i < 0) || List.contains [0, 1] i) [(3, bool true), (4, .ro {} 15 (l.map en)), (5, .ptr 0 3 0 0), (6, int st), (9, .slm {} 1 15 0 L), (29, .ro {} 15 (l.map en)), (30, int n), (31, int k)] = true := by
  simp only [frNames, AV.names, namesL_none (pure_en l)]; rfl
theorem gdBk (m : List E) (s : Sc.Scl) (ok : Nat → Bool) : namesAll ok [(0, .row 3 scty [Sc.scA s]), (1, .row 15 ety (m.map en))] = true := namesAll.row rfl (namesAll.row (pure_en _) rfl)
abbrev gdA (G : List E) (s : Sc.Scl) (st : Int) : AS := ⟨[(3, bool true), (5, .ptr 0 3 0 0), (6, int st), (9, .slm {} 1 15 0 G.length)], [(0, .row 3 scty [Sc.scA s]), (1, .row 15 ety (G.map en))], 2⟩
abbrev gdT (G : List E) (s : Sc.Scl) (st f : Int) (B : Bool) (t : Nat) : AS := ⟨[(3, bool true), (5, .ptr 0 3 0 0), (6, int st), (9, .slm {} 1 15 0 G.length), (12, int f), (14, bool B), (15, int (t : Nat))], [(0, .row 3 scty [Sc.scA s]), (1, .row 15 ety (G.map en))], 2⟩
abbrev gdU (G : List E) (s : Sc.Scl) (st f : Int) (B : Bool) (t : Nat) (n : Int) : Nat × Int → AS
  | (k, q) => ⟨[(3, bool true), (5, .ptr 0 3 0 0), (6, int st), (9, .slm {} 1 15 0 G.length), (12, int f), (14, bool B), (15, int (t : Nat)), (16, int n), (17, int q), (68, .slm {} 1 15 0 G.length), (69, int G.length), (70, int (k : Nat))], [(0, .row 3 scty [Sc.scA s]), (1, .row 15 ety (G.map en))], 2⟩
set_option maxHeartbeats 3200000 in
set_option maxRecDepth 100000 in
theorem sgood (xs : List Int) (fl : Fl) (hx : xs.length ≤ 9223372036854775807) (q : Int × Int × Int × Int) (h1 : 0 ≤ q.1 ∧ q.1 ≤ 255) (h2 : 0 ≤ q.2.1 ∧ q.2.1 ≤ 255) (h3 : 0 ≤ q.2.2.1 ∧ q.2.2.1 ≤ 65535) (h4 : 0 ≤ q.2.2.2 ∧ q.2.2.2 ≤ 255) :
    AFun Try.prog 7 0 [.agg [.ro fl 1 (xs.map int), u8' q.1, u8' q.2.1, u16 q.2.2.1, u8' q.2.2.2]] [] (bool true) [] := by
  obtain ⟨sc, l, st, a, t0, hsc, ⟨hl, hM⟩, hst, ha, ht0, hmd⟩ := made_f xs fl hx q h1 h2 h3 h4
  clear h1 h2 h3 h4
  have hup : up l := hM.toIds.lt
  have how := hM.okW (by decide)
  have ho := hM.okO (by decide)
  have hd : ∀ e ∈ l, e.day ≤ 900 := fun e he => by have := (hM.ok e he).day; omega
  have hc : okC l := fun x hx => by have := (hM.ok x hx).credits; omega
  have hb := scl_pass sc hsc.2
  clear hM
  generalize sclOf sc = s at hmd hb
  have hml : (l.map en).length = l.length := List.length_map _
  refine AFun.of_VS T_ok Try.func7 rfl (Nat.le_of_ble_eq_true rfl) ?_
  refine VS.cut T_ok mixed rfl ?_
  ((repeat ((conv => whnf); (first | (refine LetN.pre ?_; first | ((conv => arg 1; whnf); refine LetN.mk ?_)) | (refine As.pre ?_; first | refine As.mk rfl ?_) | (refine Ck.pre ?_; first | refine Ck.mk rfl ?_)))); (try (conv => whnf)))
  refine VS.cut T_ok mixed rfl ?_
  ((repeat ((conv => whnf); (first | (refine As.pre ?_; first | refine As.mk rfl ?_) | (refine Ck.pre ?_; first | refine Ck.mk rfl ?_) | (refine CallN.pre ?_; first | refine CallN.pure sanity_f rfl rfl ?_)))); (try (conv => whnf)))
  refine VS.cut T_ok mixed rfl ?_
  ((repeat ((conv => whnf); (first | (refine LetN.pre ?_; first | ((conv => arg 1; whnf); refine LetN.mk ?_)) | (refine As.pre ?_; first | refine As.mk rfl ?_) | (refine LetV.pre ?_; first | refine LetV.mk (.agg _) rfl ?_) | (refine Ck.pre ?_; first | refine Ck.mk rfl ?_) | (refine LetL.pre ?_; first | refine LetL.mk [_] rfl ?_) | (refine CallN.pre ?_; first | refine CallN.pure hmd rfl rfl ?_)))); (try (conv => whnf)))
  refine VS.cut T_ok mixed rfl ?_
  ((repeat ((conv => whnf); (first | (refine As.pre ?_; first | refine As.mk rfl ?_) | (refine Ck.pre ?_; first | refine Ck.mk rfl ?_)))); (try (conv => whnf)))
  refine VS.joinN (fun _ : Unit => gdA (goodP l st s.2.2) s st) (fun _ => True) ?_ ?_
  case refine_1 =>
    refine VS.of_V T_ok mixed rfl ?_
    ((repeat ((conv => whnf); (first | (refine As.pre ?_; first | refine As.mk rfl ?_) | (refine LetI.pre ?_; first | refine LetI.mk _ rfl ?_) | (refine Ck.pre ?_; first | refine Ck.mk rfl ?_)))); (try (conv => whnf)))
    refine LoopN.weak (s1 := gdS l s st (0, [])) ?sw0 ?_
    case sw0 => exact SW.mk (fun i => if i = 0 then 1 else i + 10) rfl (gdN1 ..) (gdBk ..) ⟨.refl _, .refl _, .refl _, .refl _, VLe2.nilslm, .refl _, VLe2.int (by rw [hml]), .refl _, trivial⟩ (haveV.row rfl rfl (haveV.nil (Nat.le_of_ble_eq_true rfl) trivial))
    refine LoopN.ind T_ok mixed (S := gdS l s st) (fun i => l.length - i.1) (fun i => i.1 ≤ l.length ∧ i.2.length ≤ i.1 ∧ i.2 = ((l.take i.1).filter (gdB st)).map (gdE s.2.2)) (fun _ => rfl) (fun i hi ih => ?_) (0, []) ⟨Nat.zero_le _, Nat.le_refl _, rfl⟩
    obtain ⟨k, G⟩ := i
    obtain ⟨g1, g2, g3⟩ := hi
    dsimp only at g1 g2 g3
    by_cases hlt : k < l.length
    case neg =>
      clear ih
      rw [List.take_of_length_le (by omega)] at g3
      have g4 : G = goodP l st s.2.2 := g3
      subst g4
      ((repeat ((conv => whnf); (first | (refine As.pre ?_; first | refine As.mk rfl ?_) | (refine LetB.pre ?_; first | refine LetB.decf (by omega) ?_) | (refine Br.pre ?_; first | refine Br.ff rfl ?_) | (refine Ck.pre ?_; first | refine Ck.mk rfl ?_)))); (try (conv => whnf)))
      exact ⟨rfl, (), trivial, SW.mk id rfl rfl (gdBk ..) ⟨.refl _, .refl _, .refl _, .refl _, trivial⟩ (haveV.row rfl rfl (haveV.row (pure_en _) rfl trivial))⟩
    have hle := tmD hlt
    have htk : ((l.take (k + 1)).filter (gdB st)).map (gdE s.2.2) = G ++ if gdB st (l.getD k e0) = true then [gdE s.2.2 (l.getD k e0)] else [] := by
      rw [List.take_succ_eq_append_getElem hlt, List.filter_append, List.map_append, ← g3, List.getD_eq_getElem?_getD, List.getElem?_eq_getElem hlt]
      congr 1
      by_cases c : gdB st l[k] = true
      · rw [List.filter_cons_of_pos c, show (some l[k]).getD e0 = l[k] from rfl, if_pos c]; rfl
      · rw [List.filter_cons_of_neg c, show (some l[k]).getD e0 = l[k] from rfl, if_neg c]; rfl
    clear g3
    generalize l.getD k e0 = e at hle htk
    have hmG : (G.map en).length = G.length := List.length_map _
    by_cases c1 : e.kind = 3
    · by_cases c2 : e.student = st
      · rw [if_pos (decide_eq_true ⟨c1, c2⟩)] at htk
        have hnx := ih (k + 1, G ++ [gdE s.2.2 e]) ⟨hlt, by simp; omega, htk.symm⟩ (by show l.length - (k + 1) < l.length - k; omega)
        clear ih htk
        have r1 := room_en (n := G.length + 1) (by omega)
        have happ := app_en G (gdE s.2.2 e) G.length rfl
        have hlen : (G ++ [gdE s.2.2 e]).length = G.length + 1 := by simp
        ((repeat ((conv => whnf); (first | (refine LetN.pre ?_; first | ((conv => arg 1; whnf); refine LetN.mk ?_)) | (refine As.pre ?_; first | refine As.mk rfl ?_ | (refine As.mk ?_ ?_; · ((repeat' (refine andT ?_ ?_)) <;> (first | rfl | assumption | exact decide_eq_true (by omega) | exact decide_eq_true (by dsimp only; omega) | exact decide_eq_true (by simp; omega) | (simp; done))))) | (refine LetV.pre ?_; first | refine LetV.mk (t := 27) _ hle ?_ | refine LetV.mk (.sc (.int _ _)) rfl ?_ | refine LetV.mk (.agg _) rfl ?_) | (refine LetI.pre ?_; first | refine LetI.wrap (by omega) (by omega) ?_) | (refine LetB.pre ?_; first | refine LetB.dect (by omega) ?_) | (refine Gd.pre ?_; first | refine Gd.run rfl ?_) | (refine Br.pre ?_; first | refine Br.tt rfl ?_) | (refine Ck.pre ?_; first | refine Ck.mk rfl ?_) | (refine LetL.pre ?_; first | refine LetL.mk (ty := ety) _ happ ?_ | refine LetL.mk [_] rfl ?_)))); (try (conv => whnf)))


        refine LoopN.weak ?sw3 hnx
        case sw3 => exact SW.mk (fun i => if i = 0 then 0 else if i = 1 then 3 else i + 10) rfl (gdN1 ..) (gdBk ..) ⟨.refl _, .refl _, .refl _, .refl _, VLe2.slm_of hlen, .refl _, .refl _, VLe2.int (by omega), trivial⟩ (haveV.row rfl rfl (haveV.row (pure_en _) rfl trivial))
      · rw [if_neg (fun h => c2 (of_decide_eq_true h).2), List.append_nil] at htk
        have hnx := ih (k + 1, G) ⟨hlt, by dsimp only; omega, htk.symm⟩ (by show l.length - (k + 1) < l.length - k; omega)
        clear ih htk
        ((repeat ((conv => whnf); (first | (refine LetN.pre ?_; first | ((conv => arg 1; whnf); refine LetN.mk ?_)) | (refine As.pre ?_; first | refine As.mk rfl ?_ | (refine As.mk ?_ ?_; · ((repeat' (refine andT ?_ ?_)) <;> (first | rfl | assumption | exact decide_eq_true (by omega) | exact decide_eq_true (by dsimp only; omega) | exact decide_eq_true (by simp; omega) | (simp; done))))) | (refine LetV.pre ?_; first | refine LetV.mk (t := 27) _ hle ?_ | refine LetV.mk (.sc (.int _ _)) rfl ?_ | refine LetV.mk (.agg _) rfl ?_) | (refine LetI.pre ?_; first | refine LetI.wrap (by omega) (by omega) ?_) | (refine LetB.pre ?_; first | refine LetB.dect (by omega) ?_ | refine LetB.decf (by omega) ?_) | (refine Gd.pre ?_; first | refine Gd.run rfl ?_) | (refine Br.pre ?_; first | refine Br.tt rfl ?_ | refine Br.ff rfl ?_) | (refine Ck.pre ?_; first | refine Ck.mk rfl ?_) | (refine LetL.pre ?_; first | refine LetL.mk [_] rfl ?_)))); (try (conv => whnf)))

        refine LoopN.weak ?sw1 hnx
        case sw1 => exact SW.mk id rfl (gdN1 ..) (gdBk ..) ⟨.refl _, .refl _, .refl _, .refl _, .refl _, .refl _, .refl _, VLe2.int (by omega), trivial⟩ (haveV.row rfl rfl (haveV.row (pure_en _) rfl trivial))
    · rw [if_neg (fun h => c1 (of_decide_eq_true h).1), List.append_nil] at htk
      have hnx := ih (k + 1, G) ⟨hlt, by dsimp only; omega, htk.symm⟩ (by show l.length - (k + 1) < l.length - k; omega)
      clear ih htk
      ((repeat ((conv => whnf); (first | (refine LetN.pre ?_; first | ((conv => arg 1; whnf); refine LetN.mk ?_)) | (refine As.pre ?_; first | refine As.mk rfl ?_ | (refine As.mk ?_ ?_; · ((repeat' (refine andT ?_ ?_)) <;> (first | rfl | assumption | exact decide_eq_true (by omega) | exact decide_eq_true (by dsimp only; omega) | exact decide_eq_true (by simp; omega) | (simp; done))))) | (refine LetV.pre ?_; first | refine LetV.mk (t := 27) _ hle ?_ | refine LetV.mk (.sc (.int _ _)) rfl ?_ | refine LetV.mk (.agg _) rfl ?_) | (refine LetI.pre ?_; first | refine LetI.wrap (by omega) (by omega) ?_) | (refine LetB.pre ?_; first | refine LetB.dect (by omega) ?_ | refine LetB.decf (by omega) ?_) | (refine Gd.pre ?_; first | refine Gd.pass rfl ?_) | (refine Br.pre ?_; first | refine Br.tt rfl ?_ | refine Br.ff rfl ?_) | (refine Ck.pre ?_; first | refine Ck.mk rfl ?_) | (refine LetL.pre ?_; first | refine LetL.mk [_] rfl ?_)))); (try (conv => whnf)))

      refine LoopN.weak ?sw2 hnx
      case sw2 => exact SW.mk id rfl (gdN1 ..) (gdBk ..) ⟨.refl _, .refl _, .refl _, .refl _, .refl _, .refl _, .refl _, VLe2.int (by omega), trivial⟩ (haveV.row rfl rfl (haveV.row (pure_en _) rfl trivial))
  clear hmd hml
  intro _ _
  have hgl := good_len l st s.2.2
  have gow : ∀ e ∈ goodP l st s.2.2, Dt.okW e.on_ := fun g hg => by obtain ⟨x, hx, hk, rfl⟩ := good_mem hg; exact how x hx
  have goo : okO (goodP l st s.2.2) := fun g hg => by obtain ⟨x, hx, hk, rfl⟩ := good_mem hg; exact ho x hx
  have hcr := fun t => good_cr hup hd s hb st t
  have hnn := fun t => gm_nn hup hd hc (by omega) s hb st t
  clear hup how ho hd hc hb
  generalize goodP l st s.2.2 = G at hgl gow goo hcr hnn ⊢
  have hG : G.length < 40 := by omega
  have hpm := pure_en G
  have hml : G.length = (G.map en).length := (List.length_map _).symm
  have hTm := Terms_f G st 900 {} (by omega) gow
  obtain ⟨f, hf⟩ : ∃ f, f = minP (trmP G st 900) := ⟨_, rfl⟩
  obtain ⟨m, hm⟩ : ∃ m, m = maxP (trmP G st 900) := ⟨_, rfl⟩
  obtain ⟨B, hB⟩ : ∃ B, B = decide (trmP G st 900 ≠ []) := ⟨_, rfl⟩
  rw [← hf, ← hm, ← hB] at hTm
  have hstd : ∀ t : Int, 0 ≤ t → t ≤ 8 → (B = false ∨ t < f → stdP G s st 900 t = 0) ∧ (B = true → f ≤ t → stdP G s st 900 t = 1) := fun t ht0 ht => ⟨fun h => by
    rcases h with h | h
    · rw [h] at hB
      refine std_skip (.inl ?_)
      have := of_decide_eq_false hB.symm
      exact Decidable.of_not_not this
    · exact std_skip (.inr (.inl (by rw [← hf]; exact h))), fun h1 h2 => by
    rw [h1] at hB
    have hn := of_decide_eq_true hB.symm
    rw [std_go goo hn (by rw [← hf]; exact h2) (by omega) (by omega), hcr t]
    unfold stdS
    rw [if_pos (hnn t)]⟩
  have hsti : ∀ t : Int, stiP G s st 900 t = decide (stdP G s st 900 t = 1 ∧ 20 ≤ gmP G t) := fun t => by unfold stiP; rw [hcr t]
  clear hf hm hB hcr hnn
  refine VS.cut T_ok mixed rfl ?_
  ((repeat ((conv => whnf); (first | (refine As.pre ?_; first | refine As.mk rfl ?_) | (refine Ck.pre ?_; first | refine Ck.mk rfl ?_) | (refine CallN.pre ?_; first | refine CallN.lend hTm rfl (.full rfl hpm hml (.same rfl (.same rfl .nil))) ?_)))); (try (conv => whnf)))
  refine VS.of_V T_ok mixed rfl ?_
  ((repeat ((conv => whnf); (first | (refine As.pre ?_; first | refine As.mk rfl ?_) | (refine Ck.pre ?_; first | refine Ck.mk rfl ?_)))); (try (conv => whnf)))
  refine LoopN.weak (s1 := gdT G s st f B 0) ?sw4 ?_
  case sw4 => exact SW.mk id rfl rfl (gdBk ..) ⟨.refl _, .refl _, .refl _, .refl _, .refl _, .refl _, .refl _, trivial⟩ (haveV.row rfl rfl (haveV.row (pure_en _) rfl trivial))
  clear hTm
  refine LoopN.indS (S := gdT G s st f B) (fun t => 9 - t) (fun t => t ≤ 9) (fun t hk ih => ?_) 0 (Nat.zero_le _)
  by_cases hlt : t < 9
  case neg =>
    clear ih
    have : t = 9 := by omega
    subst this
    refine VS.of_V T_ok mixed rfl ?_
    ((repeat ((conv => whnf); (first | (refine As.pre ?_; first | refine As.mk rfl ?_) | (refine LetB.pre ?_; first | refine LetB.ff rfl ?_) | (refine Br.pre ?_; first | refine Br.ff rfl ?_) | (refine Ck.pre ?_; first | refine Ck.mk rfl ?_)))); (try (conv => whnf)))
    exact ⟨⟨[(2, bool true)], [], 0⟩, SW.fr0 (Nat.le_refl _) rfl ⟨.refl _, trivial⟩, .inl rfl, ⟨_, rfl, rfl⟩, trivial⟩
  refine VS.cut T_ok mixed rfl ?_
  ((repeat ((conv => whnf); (first | (refine As.pre ?_; first | refine As.mk rfl ?_) | (refine LetB.pre ?_; first | refine LetB.dect (by omega) ?_) | (refine Br.pre ?_; first | refine Br.tt rfl ?_) | (refine Ck.pre ?_; first | refine Ck.mk rfl ?_)))); (try (conv => whnf)))
  refine VS.joinN (fun _ : Unit => gdT G s st f B t) (fun _ => True) ?_ ?_
  case refine_2 =>
    intro _ _
    refine VS.of_V T_ok mixed rfl ?_
    ((repeat ((conv => whnf); (first | (refine As.pre ?_; first | refine As.mk rfl ?_) | (refine LetI.pre ?_; first | refine LetI.wrap (by omega) (by omega) ?_) | (refine Ck.pre ?_; first | refine Ck.mk rfl ?_)))); (try (conv => whnf)))
    refine LoopN.weak ?sw5 (ih (t + 1) hlt (by omega))
    case sw5 => exact SW.mk id rfl rfl (gdBk ..) ⟨.refl _, .refl _, .refl _, .refl _, .refl _, .refl _, VLe2.int (by omega), trivial⟩ (haveV.row rfl rfl (haveV.row (pure_en _) rfl trivial))
  clear ih
  have hS := Standing_f G s st 900 (t : Nat) hG gow
  have hT := Stipend_f G s st 900 (t : Nat) hG gow
  rw [hsti] at hT
  obtain ⟨hs1, hs2⟩ := hstd (t : Nat) (by omega) (by omega)
  clear hstd hsti gow
  generalize stdP G s st 900 (t : Nat) = n at hS hT hs1 hs2
  refine VS.of_V T_ok mixed rfl ?_
  ((repeat ((conv => whnf); (first | (refine As.pre ?_; first | refine As.mk rfl ?_) | (refine LetV.pre ?_; first | refine LetV.mk (.agg _) rfl ?_) | (refine LetI.pre ?_; first | refine LetI.mk _ rfl ?_) | (refine Ck.pre ?_; first | refine Ck.mk rfl ?_) | (refine CallN.pre ?_; first | refine CallN.lend hS rfl (.full rfl hpm hml (.same rfl (.same rfl (.same rfl (.same rfl .nil))))) ?_)))); (try (conv => whnf)))
  refine LoopN.weak (s1 := gdU G s st f B t n (0, 0)) ?sw6 ?_
  case sw6 => exact SW.mk id rfl rfl (gdBk ..) ⟨.refl _, .refl _, .refl _, .refl _, .refl _, .refl _, .refl _, .refl _, .refl _, .refl _, .refl _, .refl _, trivial⟩ (haveV.row rfl rfl (haveV.row (pure_en _) rfl trivial))
  clear hS
  refine LoopN.ind T_ok mixed (S := gdU G s st f B t n) (fun i => G.length - i.1) (fun i => i.1 ≤ G.length ∧ (G.drop i.1).foldl (gmS (t : Nat)) i.2 = gmP G (t : Nat)) (fun _ => rfl) (fun i hi ih => ?_) (0, 0) ⟨Nat.zero_le _, rfl⟩
  obtain ⟨k, w⟩ := i
  obtain ⟨g1, g2⟩ := hi
  dsimp only at g1 g2
  by_cases hkl : k < G.length
  case neg =>
    clear ih
    rw [List.drop_of_length_le (by omega)] at g2
    dsimp only [List.foldl_nil] at g2
    rw [← g2] at hT
    clear g2
    cases B with
    | false =>
      have hn := hs1 (.inl rfl)
      subst hn
      rw [decide_eq_false (fun h => absurd h.1 (by decide))] at hT
      ((repeat ((conv => whnf); (first | (refine As.pre ?_; first | refine As.mk rfl ?_) | (refine LetV.pre ?_; first | refine LetV.mk (.agg _) rfl ?_) | (refine LetB.pre ?_; first | refine LetB.ff rfl ?_ | refine LetB.decf (by omega) ?_) | (refine Gd.pre ?_; first | refine Gd.run rfl ?_ | refine Gd.pass rfl ?_) | (refine Br.pre ?_; first | refine Br.ff rfl ?_) | (refine Ck.pre ?_; first | refine Ck.mk rfl ?_) | (refine CallN.pre ?_; first | refine CallN.lend hT rfl (.full rfl hpm hml (.same rfl (.same rfl (.same rfl (.same rfl .nil))))) ?_)))); (try (conv => whnf)))

      exact ⟨rfl, (), trivial, SW.mk id rfl rfl (gdBk ..) ⟨.refl _, .refl _, .refl _, .refl _, .refl _, .refl _, .refl _, trivial⟩ (haveV.row rfl rfl (haveV.row (pure_en _) rfl trivial))⟩
    | true =>
      by_cases hft : f ≤ (t : Int)
      · have hn := hs2 rfl hft
        subst hn
        by_cases h20 : 20 ≤ w
        · rw [decide_eq_true ⟨rfl, h20⟩] at hT
          ((repeat ((conv => whnf); (first | (refine As.pre ?_; first | refine As.mk rfl ?_) | (refine LetV.pre ?_; first | refine LetV.mk (.agg _) rfl ?_) | (refine LetI.pre ?_; first | refine LetI.wrap (by omega) (by omega) ?_) | (refine LetB.pre ?_; first | refine LetB.tt rfl ?_ | refine LetB.ff rfl ?_ | refine LetB.dect (by omega) ?_ | refine LetB.decf (by omega) ?_) | (refine Gd.pre ?_; first | refine Gd.run rfl ?_) | (refine Br.pre ?_; first | refine Br.ff rfl ?_) | (refine Ck.pre ?_; first | refine Ck.mk rfl ?_) | (refine CallN.pre ?_; first | refine CallN.lend hT rfl (.full rfl hpm hml (.same rfl (.same rfl (.same rfl (.same rfl .nil))))) ?_)))); (try (conv => whnf)))

          exact ⟨rfl, (), trivial, SW.mk id rfl rfl (gdBk ..) ⟨.refl _, .refl _, .refl _, .refl _, .refl _, .refl _, .refl _, trivial⟩ (haveV.row rfl rfl (haveV.row (pure_en _) rfl trivial))⟩
        · rw [decide_eq_false (fun h => h20 h.2)] at hT
          ((repeat ((conv => whnf); (first | (refine As.pre ?_; first | refine As.mk rfl ?_) | (refine LetV.pre ?_; first | refine LetV.mk (.agg _) rfl ?_) | (refine LetI.pre ?_; first | refine LetI.wrap (by omega) (by omega) ?_) | (refine LetB.pre ?_; first | refine LetB.tt rfl ?_ | refine LetB.ff rfl ?_ | refine LetB.dect (by omega) ?_ | refine LetB.decf (by omega) ?_) | (refine Gd.pre ?_; first | refine Gd.run rfl ?_) | (refine Br.pre ?_; first | refine Br.ff rfl ?_) | (refine Ck.pre ?_; first | refine Ck.mk rfl ?_) | (refine CallN.pre ?_; first | refine CallN.lend hT rfl (.full rfl hpm hml (.same rfl (.same rfl (.same rfl (.same rfl .nil))))) ?_)))); (try (conv => whnf)))

          exact ⟨rfl, (), trivial, SW.mk id rfl rfl (gdBk ..) ⟨.refl _, .refl _, .refl _, .refl _, .refl _, .refl _, .refl _, trivial⟩ (haveV.row rfl rfl (haveV.row (pure_en _) rfl trivial))⟩
      · have hn := hs1 (.inr (by omega))
        subst hn
        rw [decide_eq_false (fun h => absurd h.1 (by decide))] at hT
        ((repeat ((conv => whnf); (first | (refine As.pre ?_; first | refine As.mk rfl ?_) | (refine LetV.pre ?_; first | refine LetV.mk (.agg _) rfl ?_) | (refine LetB.pre ?_; first | refine LetB.ff rfl ?_ | refine LetB.decf (by omega) ?_) | (refine Gd.pre ?_; first | refine Gd.run rfl ?_ | refine Gd.pass rfl ?_) | (refine Br.pre ?_; first | refine Br.ff rfl ?_) | (refine Ck.pre ?_; first | refine Ck.mk rfl ?_) | (refine CallN.pre ?_; first | refine CallN.lend hT rfl (.full rfl hpm hml (.same rfl (.same rfl (.same rfl (.same rfl .nil))))) ?_)))); (try (conv => whnf)))

        exact ⟨rfl, (), trivial, SW.mk id rfl rfl (gdBk ..) ⟨.refl _, .refl _, .refl _, .refl _, .refl _, .refl _, .refl _, trivial⟩ (haveV.row rfl rfl (haveV.row (pure_en _) rfl trivial))⟩
  clear hT hs1 hs2
  rw [foldl_drop (gmS (t : Nat)) hkl e0] at g2
  have hld : en (G.getD k e0) = Am.part true 15 0 15 ((G.map en).getD (0 + k) (.sc undef)) := getD_en hkl
  have hoe := goo _ (getD_mem' hkl)
  generalize G.getD k e0 = e at hld hoe g2
  obtain ⟨d, hd⟩ : ∃ d, d = e.on_ / 100 := ⟨_, rfl⟩
  have hq : d = e.on_.tdiv 100 := by rw [hd, Int.tdiv_eq_ediv_of_nonneg hoe.1]
  have hq2 : d = IntKind.i64.wrap (e.on_.tdiv 100) := by rw [← hq, wrap_id (by omega) (by omega)]
  obtain ⟨w', hw'⟩ : ∃ w', w' = gmS (t : Nat) w e := ⟨_, rfl⟩
  rw [← hw'] at g2
  have hnx := ih (k + 1, w') ⟨hkl, g2⟩ (by show G.length - (k + 1) < G.length - k; omega)
  clear ih g2
  unfold gmS at hw'
  rw [← hd] at hw'
  clear hd hoe
  by_cases c : d = (t : Int)
  · rw [if_pos c] at hw'
    subst hw'
    ((repeat ((conv => whnf); (first | (refine LetN.pre ?_; first | ((conv => arg 1; whnf); refine LetN.mk ?_)) | (refine As.pre ?_; first | refine As.mk rfl ?_ | (refine As.mk ?_ ?_; · ((repeat' (refine andT ?_ ?_)) <;> (first | rfl | assumption | exact decide_eq_true (by omega) | exact decide_eq_true (by dsimp only; omega) | exact decide_eq_true (by simp; omega) | (simp; done))))) | (refine LetV.pre ?_; first | refine LetV.mk (t := ety) _ hld ?_ | refine LetV.mk (.sc (.int _ _)) rfl ?_) | (refine LetI.pre ?_; first | refine LetI.mk (o := some .quo) d hq2 ?_ | refine LetI.mk (o := some .add) (IntKind.i64.wrap (w + e.credits)) rfl ?_ | refine LetI.wrap (by omega) (by omega) ?_) | (refine LetB.pre ?_; first | refine LetB.dect (by omega) ?_) | (refine Br.pre ?_; first | refine Br.tt rfl ?_) | (refine Ck.pre ?_; first | refine Ck.mk rfl ?_) | (refine LetL.pre ?_; first | refine LetL.mk [_] rfl ?_)))); (try (conv => whnf)))




    refine LoopN.weak ?sw7 hnx
    case sw7 => exact SW.mk id rfl rfl (gdBk ..) ⟨.refl _, .refl _, .refl _, .refl _, .refl _, .refl _, .refl _, .refl _, .refl _, .refl _, .refl _, VLe2.int (by omega), trivial⟩ (haveV.row rfl rfl (haveV.row (pure_en _) rfl trivial))
  · rw [if_neg c] at hw'
    subst hw'
    ((repeat ((conv => whnf); (first | (refine LetN.pre ?_; first | ((conv => arg 1; whnf); refine LetN.mk ?_)) | (refine As.pre ?_; first | refine As.mk rfl ?_ | (refine As.mk ?_ ?_; · ((repeat' (refine andT ?_ ?_)) <;> (first | rfl | assumption | exact decide_eq_true (by omega) | exact decide_eq_true (by dsimp only; omega) | exact decide_eq_true (by simp; omega) | (simp; done))))) | (refine LetV.pre ?_; first | refine LetV.mk (t := ety) _ hld ?_ | refine LetV.mk (.sc (.int _ _)) rfl ?_) | (refine LetI.pre ?_; first | refine LetI.mk (o := some .quo) d hq2 ?_ | refine LetI.wrap (by omega) (by omega) ?_) | (refine LetB.pre ?_; first | refine LetB.dect (by omega) ?_ | refine LetB.decf (by omega) ?_) | (refine Br.pre ?_; first | refine Br.tt rfl ?_ | refine Br.ff rfl ?_) | (refine Ck.pre ?_; first | refine Ck.mk rfl ?_) | (refine LetL.pre ?_; first | refine LetL.mk [_] rfl ?_)))); (try (conv => whnf)))



    refine LoopN.weak ?sw8 hnx
    case sw8 => exact SW.mk id rfl rfl (gdBk ..) ⟨.refl _, .refl _, .refl _, .refl _, .refl _, .refl _, .refl _, .refl _, .refl _, .refl _, .refl _, VLe2.int (by omega), trivial⟩ (haveV.row rfl rfl (haveV.row (pure_en _) rfl trivial))
theorem sgood_row (x : List Int × Int × Int × Int × Int) (hx : x.1.length ≤ 9223372036854775807) (h1 : 0 ≤ x.2.1 ∧ x.2.1 ≤ 255) (h2 : 0 ≤ x.2.2.1 ∧ x.2.2.1 ≤ 255) (h3 : 0 ≤ x.2.2.2.1 ∧ x.2.2.2.1 ≤ 65535) (h4 : 0 ≤ x.2.2.2.2 ∧ x.2.2.2.2 ≤ 255) :
    AFun Try.prog 7 0 [.agg [.ro {} 1 (x.1.map int), u8' x.2.1, u8' x.2.2.1, u16 x.2.2.2.1, u8' x.2.2.2.2]] [] (bool true) [] := sgood x.1 {} hx x.2 h1 h2 h3 h4
end En
end Go.Proofs.Ytnegdmjmllmclaa
