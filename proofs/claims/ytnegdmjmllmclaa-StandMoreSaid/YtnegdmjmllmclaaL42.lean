/- stand: parts of the proof, DstandSI DstandSJ DstandSQ DstandSO. -/
import Derived.Test.YtnegdmjmllmclaaL41
set_option linter.all false
namespace Go.Proofs.Ytnegdmjmllmclaa
open Go.Proofs.Ytnegdmjmllmclaa.Am
set_option maxRecDepth 100000
namespace En
/-! ### The sums of the law -/
abbrev scty : TypeId := 29
abbrev stty : TypeId := 59
def inB (st t : Int) (x : St) (e : E) : Bool := decide (e.kind = 3 ∧ e.id = x.entry ∧ e.student = st ∧ e.on_ / 100 = t)
def inF (s : Sc.Scl) (st t : Int) (x : St) (q : Int × Int) (e : E) : Int × Int := if inB st t x e then crS s q (x, e.credits) else q
def suP (l : List E) (s : Sc.Scl) (st a t : Int) : Int × Int := (atP l a (100 * t + 99)).foldl (fun q x => l.foldl (inF s st t x) q) (0, 0)
abbrev su1 (l : List E) (A : List St) (s : Sc.Scl) (st t : Int) (q : Int × Int) (j : Nat) : Fr := [(0, .ro {} 15 (l.map en)), (2, int st), (4, int t), (6, .ptr 0 3 0 0), (12, int q.1), (13, int q.2), (23, .ro {} 4 (A.map stA)), (24, int A.length), (25, int j)]
abbrev suS (l : List E) (A : List St) (s : Sc.Scl) (st t : Int) : Nat × Int × Int → AS
  | (j, q) => ⟨su1 l A s st t q j, [(0, .row 3 scty [Sc.scA s])], 1⟩
abbrev suT (l : List E) (A : List St) (s : Sc.Scl) (st t : Int) (j : Nat) (x : St) : Nat × Int × Int → AS
  | (k, q) => ⟨su1 l A s st t q j ++ [(15, .ptr 1 4 0 0), (29, .ro {} 15 (l.map en)), (30, int l.length), (31, int k)], [(0, .row 3 scty [Sc.scA s]), (1, .row 4 stty [stA x])], 2⟩
theorem suN1 (ok : Nat → Bool) (h : ok 0 = true) (l : List E) (A : List St) (s : Sc.Scl) (st t : Int) (q : Int × Int) (j : Nat) : frNames ok (su1 l A s st t q j) = true := by
  simp only [frNames, AV.names, namesL_none (pure_en l), namesL_none (pure_st A), h]; rfl
theorem suN2 (ok : Nat → Bool) (h : ok 0 = true) (h1 : ok 1 = true) (l : List E) (A : List St) (s : Sc.Scl) (st t : Int) (q : Int × Int) (j k : Nat) : frNames ok (su1 l A s st t q j ++ [(15, .ptr 1 4 0 0), (29, .ro {} 15 (l.map en)), (30, int l.length), (31, int k)]) = true := by
  simp only [List.cons_append, List.nil_append, frNames, AV.names, namesL_none (pure_en l), namesL_none (pure_st A), h, h1]; rfl
set_option maxHeartbeats 3200000 in
set_option maxRecDepth 100000 in
theorem sums_f (l : List E) (s : Sc.Scl) (st a t : Int) (hl : l.length < 40) (ht : 0 ≤ t ∧ t ≤ 1000) (ho : ∀ e ∈ l, 0 ≤ e.on_ ∧ e.on_ ≤ 1000) : AFun Try.prog 21 0 [.ro {} 15 (l.map en), Sc.scA s, int st, int a, int t] [] (.tup [int (suP l s st a t).1, int (suP l s st a t).2]) [] := by
  refine AFun.of_W T_ok mixed Try.func21 rfl (Nat.le_of_ble_eq_true rfl) rfl ?_
  have hA := At_f l a (100 * t + 99) {} hl
  have hlen := atP_len (l := l) a (100 * t + 99)
  rw [suP]
  generalize atP l a (100 * t + 99) = A at hA hlen ⊢
  have hml : (l.map en).length = l.length := List.length_map _
  have hmA : (A.map stA).length = A.length := List.length_map _
  generalize hR : A.foldl (fun q x => l.foldl (inF s st t x) q) (0, 0) = R
  ((repeat ((conv => whnf); (first | (refine LetN.pre ?_; first | ((conv => arg 1; whnf); refine LetN.mk ?_)) | (refine As.pre ?_; first | refine As.mk rfl ?_) | (refine LetI.pre ?_; first | refine LetI.wrap (by omega) (by omega) ?_ | refine LetI.mk _ rfl ?_) | (refine Ck.pre ?_; first | refine Ck.mk rfl ?_) | (refine CallN.pre ?_; first | refine CallN.pure hA rfl rfl ?_)))); (try (conv => whnf)))
  refine LoopN.weak (s1 := suS l A s st t (0, 0, 0)) ?sw1 ?_
  case sw1 => exact SW.mk id rfl (suN1 _ rfl ..) rfl ⟨.refl _, .refl _, .refl _, .refl _, .refl _, .refl _, VLe2.ro_of rfl, VLe2.int (by rw [hmA]), .refl _, trivial⟩ (haveV.one rfl trivial)
  clear hA
  refine LoopN.ind T_ok mixed (S := suS l A s st t) (fun i => A.length - i.1) (fun i => i.1 ≤ A.length ∧ (A.drop i.1).foldl (fun q x => l.foldl (inF s st t x) q) i.2 = R) (fun _ => rfl) (fun i hi ih => ?_) (0, 0, 0) ⟨Nat.zero_le _, hR⟩
  obtain ⟨j, q⟩ := i
  obtain ⟨h1, h2⟩ := hi
  dsimp only at h1 h2
  by_cases hlt : j < A.length
  case neg =>
    clear ih
    rw [List.drop_of_length_le (by omega)] at h2
    dsimp only [List.foldl_nil] at h2
    subst h2
    ((repeat ((conv => whnf); (first | (refine As.pre ?_; first | refine As.mk rfl ?_) | (refine LetB.pre ?_; first | refine LetB.decf (by omega) ?_) | (refine Br.pre ?_; first | refine Br.ff rfl ?_) | (refine Ck.pre ?_; first | refine Ck.mk rfl ?_)))); (try (conv => whnf)))
    exact ⟨.inl rfl, ⟨_, rfl, rfl⟩, trivial⟩
  have hld := stD hlt
  rw [foldl_drop (fun q x => l.foldl (inF s st t x) q) hlt ⟨0, 0, 0, false⟩] at h2
  generalize A.getD j ⟨0, 0, 0, false⟩ = x at hld h2
  have hnx := fun q' (h : (A.drop (j + 1)).foldl (fun q x => l.foldl (inF s st t x) q) q' = R) => ih (j + 1, q') ⟨by show j + 1 ≤ A.length; omega, h⟩ (by show A.length - (j + 1) < A.length - j; omega)
  clear ih hR
  ((repeat ((conv => whnf); (first | (refine LetN.pre ?_; first | ((conv => arg 1; whnf); refine LetN.mk ?_)) | (refine As.pre ?_; first | refine As.mk rfl ?_ | (refine As.mk ?_ ?_; · ((repeat' (refine andT ?_ ?_)) <;> (first | rfl | assumption | exact decide_eq_true (by omega) | exact decide_eq_true (by dsimp only; omega) | exact decide_eq_true (by simp; omega) | (simp; done))))) | (refine LetV.pre ?_; first | refine LetV.mk (t := 56) _ hld ?_ | refine LetV.mk (.agg _) rfl ?_) | (refine LetI.pre ?_; first | refine LetI.mk _ rfl ?_) | (refine LetB.pre ?_; first | refine LetB.dect (by omega) ?_) | (refine Br.pre ?_; first | refine Br.tt rfl ?_) | (refine Ck.pre ?_; first | refine Ck.mk rfl ?_) | (refine LetL.pre ?_; first | refine LetL.mk [_] rfl ?_)))); (try (conv => whnf)))
  clear hld
  refine LoopN.weak (s1 := suT l A s st t j x (0, q)) ?sw2 ?_
  case sw2 => exact SW.mk id rfl (suN2 _ rfl rfl ..) rfl ⟨.refl _, .refl _, .refl _, .refl _, .refl _, .refl _, .refl _, .refl _, .refl _, .refl _, VLe2.ro_of rfl, VLe2.int (by rw [hml]), .refl _, trivial⟩ (haveV.one rfl (haveV.one rfl trivial))
  refine LoopN.ind T_ok mixed (S := suT l A s st t j x) (fun i => l.length - i.1) (fun i => i.1 ≤ l.length ∧ (A.drop (j + 1)).foldl (fun q x => l.foldl (inF s st t x) q) ((l.drop i.1).foldl (inF s st t x) i.2) = R) (fun _ => rfl) (fun i hi ih => ?_) (0, q) ⟨Nat.zero_le _, h2⟩
  clear h2 q
  obtain ⟨k, q⟩ := i
  obtain ⟨h3, h4⟩ := hi
  dsimp only at h3 h4
  by_cases hk : k < l.length
  case neg =>
    clear ih
    rw [List.drop_of_length_le (by omega)] at h4
    have hnx := hnx q h4
    ((repeat ((conv => whnf); (first | (refine As.pre ?_; first | refine As.mk rfl ?_) | (refine LetI.pre ?_; first | refine LetI.wrap (by omega) (by omega) ?_) | (refine LetB.pre ?_; first | refine LetB.decf (by omega) ?_) | (refine Br.pre ?_; first | refine Br.ff rfl ?_) | (refine Ck.pre ?_; first | refine Ck.mk rfl ?_)))); (try (conv => whnf)))
    refine LoopN.weak ?sw3 hnx
    case sw3 => exact SW.mk id rfl (suN1 _ rfl ..) rfl ⟨.refl _, .refl _, .refl _, .refl _, .refl _, .refl _, .refl _, .refl _, VLe2.int (by omega), trivial⟩ (haveV.one rfl trivial)
  clear hnx
  rw [foldl_drop _ hk e0] at h4
  have hle := tmD hk
  have hoe := ho _ (getD_mem' hk)
  generalize l.getD k e0 = e at hle hoe h4
  have hP := Sc.Passed_f s x.grade
  obtain ⟨d, hd⟩ : ∃ d, d = e.on_ / 100 := ⟨_, rfl⟩
  have hq : d = e.on_.tdiv 100 := by rw [hd, Int.tdiv_eq_ediv_of_nonneg hoe.1]
  have hq2 : d = IntKind.i64.wrap (e.on_.tdiv 100) := by rw [← hq, wrap_id (by omega) (by omega)]
  obtain ⟨q', hq'⟩ : ∃ q', q' = inF s st t x q e := ⟨_, rfl⟩
  rw [← hq'] at h4
  have hnx := ih (k + 1, q') ⟨by show k + 1 ≤ l.length; omega, h4⟩ (by show l.length - (k + 1) < l.length - k; omega)
  clear ih h4
  unfold inF inB at hq'
  rw [← hd] at hq'
  clear hd hoe
  obtain ⟨xe, xb, xg, xv⟩ := x
  obtain ⟨p, f⟩ := q
  by_cases c1 : e.kind = 3
  case neg =>
    rw [decide_eq_false (fun h => c1 h.1), if_neg (by decide)] at hq'
    subst hq'
    ((repeat ((conv => whnf); (first | (refine LetN.pre ?_; first | ((conv => arg 1; whnf); refine LetN.mk ?_)) | (refine As.pre ?_; first | refine As.mk rfl ?_ | (refine As.mk ?_ ?_; · ((repeat' (refine andT ?_ ?_)) <;> (first | rfl | assumption | exact decide_eq_true (by omega) | exact decide_eq_true (by dsimp only; omega) | exact decide_eq_true (by simp; omega) | (simp; done))))) | (refine LetV.pre ?_; first | refine LetV.mk (t := 27) _ hle ?_ | refine LetV.mk (.sc (.int _ _)) rfl ?_ | refine LetV.mk (.agg _) rfl ?_) | (refine LetI.pre ?_; first | refine LetI.wrap (by omega) (by omega) ?_) | (refine LetB.pre ?_; first | refine LetB.dect (by omega) ?_ | refine LetB.bnet (by omega) ?_) | (refine Gd.pre ?_; first | refine Gd.pass rfl ?_) | (refine Br.pre ?_; first | refine Br.tt rfl ?_) | (refine Ck.pre ?_; first | refine Ck.mk rfl ?_) | (refine LetL.pre ?_; first | refine LetL.mk [_] rfl ?_)))); (try (conv => whnf)))






    refine LoopN.weak ?swa hnx
    case swa => exact SW.mk id rfl (suN2 _ rfl rfl ..) rfl ⟨.refl _, .refl _, .refl _, .refl _, .refl _, .refl _, .refl _, .refl _, .refl _, .refl _, .refl _, .refl _, VLe2.int (by omega), trivial⟩ (haveV.one rfl (haveV.one rfl trivial))
  by_cases c2 : e.id = xe
  case neg =>
    rw [decide_eq_false (fun h => c2 h.2.1), if_neg (by decide)] at hq'
    subst hq'
    ((repeat ((conv => whnf); (first | (refine LetN.pre ?_; first | ((conv => arg 1; whnf); refine LetN.mk ?_)) | (refine As.pre ?_; first | refine As.mk rfl ?_ | (refine As.mk ?_ ?_; · ((repeat' (refine andT ?_ ?_)) <;> (first | rfl | assumption | exact decide_eq_true (by omega) | exact decide_eq_true (by dsimp only; omega) | exact decide_eq_true (by simp; omega) | (simp; done))))) | (refine LetV.pre ?_; first | refine LetV.mk (t := 27) _ hle ?_ | refine LetV.mk (.sc (.int _ _)) rfl ?_ | refine LetV.mk (.agg _) rfl ?_) | (refine LetI.pre ?_; first | refine LetI.wrap (by omega) (by omega) ?_) | (refine LetB.pre ?_; first | refine LetB.dect (by omega) ?_ | refine LetB.bnet (by omega) ?_ | refine LetB.bnef (by omega) ?_) | (refine Gd.pre ?_; first | refine Gd.run rfl ?_ | refine Gd.pass rfl ?_) | (refine Br.pre ?_; first | refine Br.tt rfl ?_) | (refine Ck.pre ?_; first | refine Ck.mk rfl ?_) | (refine LetL.pre ?_; first | refine LetL.mk [_] rfl ?_)))); (try (conv => whnf)))






    refine LoopN.weak ?swb hnx
    case swb => exact SW.mk id rfl (suN2 _ rfl rfl ..) rfl ⟨.refl _, .refl _, .refl _, .refl _, .refl _, .refl _, .refl _, .refl _, .refl _, .refl _, .refl _, .refl _, VLe2.int (by omega), trivial⟩ (haveV.one rfl (haveV.one rfl trivial))
  by_cases c3 : e.student = st
  case neg =>
    rw [decide_eq_false (fun h => c3 h.2.2.1), if_neg (by decide)] at hq'
    subst hq'
    ((repeat ((conv => whnf); (first | (refine LetN.pre ?_; first | ((conv => arg 1; whnf); refine LetN.mk ?_)) | (refine As.pre ?_; first | refine As.mk rfl ?_ | (refine As.mk ?_ ?_; · ((repeat' (refine andT ?_ ?_)) <;> (first | rfl | assumption | exact decide_eq_true (by omega) | exact decide_eq_true (by dsimp only; omega) | exact decide_eq_true (by simp; omega) | (simp; done))))) | (refine LetV.pre ?_; first | refine LetV.mk (t := 27) _ hle ?_ | refine LetV.mk (.sc (.int _ _)) rfl ?_ | refine LetV.mk (.agg _) rfl ?_) | (refine LetI.pre ?_; first | refine LetI.wrap (by omega) (by omega) ?_) | (refine LetB.pre ?_; first | refine LetB.dect (by omega) ?_ | refine LetB.bnet (by omega) ?_ | refine LetB.bnef (by omega) ?_) | (refine Gd.pre ?_; first | refine Gd.run rfl ?_ | refine Gd.pass rfl ?_) | (refine Br.pre ?_; first | refine Br.tt rfl ?_) | (refine Ck.pre ?_; first | refine Ck.mk rfl ?_) | (refine LetL.pre ?_; first | refine LetL.mk [_] rfl ?_)))); (try (conv => whnf)))






    refine LoopN.weak ?swc hnx
    case swc => exact SW.mk id rfl (suN2 _ rfl rfl ..) rfl ⟨.refl _, .refl _, .refl _, .refl _, .refl _, .refl _, .refl _, .refl _, .refl _, .refl _, .refl _, .refl _, VLe2.int (by omega), trivial⟩ (haveV.one rfl (haveV.one rfl trivial))
  by_cases c4 : d = t
  case neg =>
    rw [decide_eq_false (fun h => c4 h.2.2.2), if_neg (by decide)] at hq'
    subst hq'
    ((repeat ((conv => whnf); (first | (refine LetN.pre ?_; first | ((conv => arg 1; whnf); refine LetN.mk ?_)) | (refine As.pre ?_; first | refine As.mk rfl ?_ | (refine As.mk ?_ ?_; · ((repeat' (refine andT ?_ ?_)) <;> (first | rfl | assumption | exact decide_eq_true (by omega) | exact decide_eq_true (by dsimp only; omega) | exact decide_eq_true (by simp; omega) | (simp; done))))) | (refine LetV.pre ?_; first | refine LetV.mk (t := 27) _ hle ?_ | refine LetV.mk (.sc (.int _ _)) rfl ?_ | refine LetV.mk (.agg _) rfl ?_) | (refine LetI.pre ?_; first | refine LetI.mk (o := some .quo) d hq2 ?_ | refine LetI.wrap (by omega) (by omega) ?_) | (refine LetB.pre ?_; first | refine LetB.dect (by omega) ?_ | refine LetB.bnet (by omega) ?_ | refine LetB.bnef (by omega) ?_) | (refine Gd.pre ?_; first | refine Gd.run rfl ?_) | (refine Br.pre ?_; first | refine Br.tt rfl ?_) | (refine Ck.pre ?_; first | refine Ck.mk rfl ?_) | (refine LetL.pre ?_; first | refine LetL.mk [_] rfl ?_)))); (try (conv => whnf)))






    refine LoopN.weak ?swd hnx
    case swd => exact SW.mk id rfl (suN2 _ rfl rfl ..) rfl ⟨.refl _, .refl _, .refl _, .refl _, .refl _, .refl _, .refl _, .refl _, .refl _, .refl _, .refl _, .refl _, VLe2.int (by omega), trivial⟩ (haveV.one rfl (haveV.one rfl trivial))
  rw [decide_eq_true ⟨c1, c2, c3, c4⟩, if_pos rfl] at hq'
  cases xv with
  | true =>
    have e1 : crS s (p, f) (⟨xe, xb, xg, true⟩, e.credits) = (p, IntKind.i64.wrap (f + e.credits)) := rfl
    rw [e1] at hq'
    subst hq'
    ((repeat ((conv => whnf); (first | (refine LetN.pre ?_; first | ((conv => arg 1; whnf); refine LetN.mk ?_)) | (refine As.pre ?_; first | refine As.mk rfl ?_ | (refine As.mk ?_ ?_; · ((repeat' (refine andT ?_ ?_)) <;> (first | rfl | assumption | exact decide_eq_true (by omega) | exact decide_eq_true (by dsimp only; omega) | exact decide_eq_true (by simp; omega) | (simp; done))))) | (refine LetV.pre ?_; first | refine LetV.mk (t := 27) _ hle ?_ | refine LetV.mk (.sc (.int _ _)) rfl ?_ | refine LetV.mk (.sc (.bool _)) rfl ?_ | refine LetV.mk (.agg _) rfl ?_) | (refine LetI.pre ?_; first | refine LetI.mk (o := some .quo) d hq2 ?_ | refine LetI.mk (o := some .add) (IntKind.i64.wrap (f + e.credits)) rfl ?_ | refine LetI.wrap (by omega) (by omega) ?_) | (refine LetB.pre ?_; first | refine LetB.dect (by omega) ?_ | refine LetB.bnef (by omega) ?_) | (refine Gd.pre ?_; first | refine Gd.run rfl ?_ | refine Gd.pass rfl ?_) | (refine Br.pre ?_; first | refine Br.tt rfl ?_ | refine Br.ff rfl ?_) | (refine Ck.pre ?_; first | refine Ck.mk rfl ?_) | (refine LetL.pre ?_; first | refine LetL.mk [_] rfl ?_)))); (try (conv => whnf)))






    refine LoopN.weak ?swe hnx
    case swe => exact SW.mk id rfl (suN2 _ rfl rfl ..) rfl ⟨.refl _, .refl _, .refl _, .refl _, .refl _, .refl _, .refl _, .refl _, .refl _, .refl _, .refl _, .refl _, VLe2.int (by omega), trivial⟩ (haveV.one rfl (haveV.one rfl trivial))
  | false =>
    by_cases hr : Sc.rea s xg s.2.2
    · have e1 : crS s (p, f) (⟨xe, xb, xg, false⟩, e.credits) = (IntKind.i64.wrap (p + e.credits), f) := by unfold crS psB; rw [decide_eq_true hr]; rfl
      rw [e1] at hq'
      rw [decide_eq_true hr] at hP
      subst hq'
      ((repeat ((conv => whnf); (first | (refine LetN.pre ?_; first | ((conv => arg 1; whnf); refine LetN.mk ?_)) | (refine As.pre ?_; first | refine As.mk rfl ?_ | (refine As.mk ?_ ?_; · ((repeat' (refine andT ?_ ?_)) <;> (first | rfl | assumption | exact decide_eq_true (by omega) | exact decide_eq_true (by dsimp only; omega) | exact decide_eq_true (by simp; omega) | (simp; done))))) | (refine LetV.pre ?_; first | refine LetV.mk (t := 27) _ hle ?_ | refine LetV.mk (.sc (.int _ _)) rfl ?_ | refine LetV.mk (.sc (.bool _)) rfl ?_ | refine LetV.mk (.agg _) rfl ?_) | (refine LetI.pre ?_; first | refine LetI.mk (o := some .quo) d hq2 ?_ | refine LetI.mk (o := some .add) (IntKind.i64.wrap (p + e.credits)) rfl ?_ | refine LetI.wrap (by omega) (by omega) ?_) | (refine LetB.pre ?_; first | refine LetB.dect (by omega) ?_ | refine LetB.bnef (by omega) ?_) | (refine Gd.pre ?_; first | refine Gd.run rfl ?_) | (refine Br.pre ?_; first | refine Br.tt rfl ?_ | refine Br.ff rfl ?_) | (refine Ck.pre ?_; first | refine Ck.mk rfl ?_) | (refine LetL.pre ?_; first | refine LetL.mk [_] rfl ?_) | (refine CallN.pre ?_; first | refine CallN.pure hP rfl rfl ?_)))); (try (conv => whnf)))






      refine LoopN.weak ?swf hnx
      case swf => exact SW.mk id rfl (suN2 _ rfl rfl ..) rfl ⟨.refl _, .refl _, .refl _, .refl _, .refl _, .refl _, .refl _, .refl _, .refl _, .refl _, .refl _, .refl _, VLe2.int (by omega), trivial⟩ (haveV.one rfl (haveV.one rfl trivial))
    · have e1 : crS s (p, f) (⟨xe, xb, xg, false⟩, e.credits) = (p, IntKind.i64.wrap (f + e.credits)) := by unfold crS psB; rw [decide_eq_false hr]; rfl
      rw [e1] at hq'
      rw [decide_eq_false hr] at hP
      subst hq'
      ((repeat ((conv => whnf); (first | (refine LetN.pre ?_; first | ((conv => arg 1; whnf); refine LetN.mk ?_)) | (refine As.pre ?_; first | refine As.mk rfl ?_ | (refine As.mk ?_ ?_; · ((repeat' (refine andT ?_ ?_)) <;> (first | rfl | assumption | exact decide_eq_true (by omega) | exact decide_eq_true (by dsimp only; omega) | exact decide_eq_true (by simp; omega) | (simp; done))))) | (refine LetV.pre ?_; first | refine LetV.mk (t := 27) _ hle ?_ | refine LetV.mk (.sc (.int _ _)) rfl ?_ | refine LetV.mk (.sc (.bool _)) rfl ?_ | refine LetV.mk (.agg _) rfl ?_) | (refine LetI.pre ?_; first | refine LetI.mk (o := some .quo) d hq2 ?_ | refine LetI.mk (o := some .add) (IntKind.i64.wrap (f + e.credits)) rfl ?_ | refine LetI.wrap (by omega) (by omega) ?_) | (refine LetB.pre ?_; first | refine LetB.dect (by omega) ?_ | refine LetB.bnef (by omega) ?_) | (refine Gd.pre ?_; first | refine Gd.run rfl ?_) | (refine Br.pre ?_; first | refine Br.tt rfl ?_ | refine Br.ff rfl ?_) | (refine Ck.pre ?_; first | refine Ck.mk rfl ?_) | (refine LetL.pre ?_; first | refine LetL.mk [_] rfl ?_) | (refine CallN.pre ?_; first | refine CallN.pure hP rfl rfl ?_)))); (try (conv => whnf)))






      refine LoopN.weak ?swg hnx
      case swg => exact SW.mk id rfl (suN2 _ rfl rfl ..) rfl ⟨.refl _, .refl _, .refl _, .refl _, .refl _, .refl _, .refl _, .refl _, .refl _, .refl _, .refl _, .refl _, VLe2.int (by omega), trivial⟩ (haveV.one rfl (haveV.one rfl trivial))
end En
end Go.Proofs.Ytnegdmjmllmclaa
namespace Go.Proofs.Ytnegdmjmllmclaa
open Go.Proofs.Ytnegdmjmllmclaa.Am
set_option maxRecDepth 100000
namespace En
/-! ### Grades of a term, by entries -/
theorem fidx_find {α : Type} (p : α → Bool) (d : α) : ∀ (l : List α) (k : Nat), (fidx p l k < 0 ∧ l.find? p = none) ∨ ∃ i, i < l.length ∧ fidx p l k = ((k + i : Nat) : Int) ∧ l.find? p = some (l.getD i d)
  | [], _ => .inl ⟨by simp [fidx], rfl⟩
  | x :: l, k => by
    simp only [fidx]
    by_cases h : p x = true
    · rw [if_pos h]
      exact .inr ⟨0, by simp, rfl, by rw [List.find?_cons_of_pos h]; rfl⟩
    · rw [if_neg h, List.find?_cons_of_neg h]
      rcases fidx_find p d l (k + 1) with h1 | ⟨i, h1, h2, h3⟩
      · exact .inl h1
      · exact .inr ⟨i + 1, by simpa using h1, by rw [h2]; omega, by rw [h3]; rfl⟩
theorem gsel_find (l : List E) (st t : Int) (x : St) : gsel l st t x = (l.find? (isG x.entry)).bind fun e => if e.student = st ∧ e.on_ / 100 = t then some (x, e.credits) else none := by
  unfold gsel
  rcases fidx_find (isG x.entry) e0 l 0 with ⟨h1, h2⟩ | ⟨i, h1, h2, h3⟩
  · rw [if_pos h1, h2]; rfl
  · rw [h2, h3, if_neg (by omega)]
    have : ((0 + i : Nat) : Int).toNat = i := by omega
    rw [this]; rfl
theorem inF_none {s : Sc.Scl} {st t : Int} {x : St} : ∀ {l : List E} (q : Int × Int), (∀ e ∈ l, e.id ≠ x.entry) → l.foldl (inF s st t x) q = q
  | [], _, _ => rfl
  | e :: l, q, h => by
    have h1 : inF s st t x q e = q := by
      unfold inF inB
      rw [decide_eq_false (fun hh => h e (List.mem_cons_self ..) hh.2.1), if_neg (by decide)]
    rw [List.foldl_cons, h1]
    exact inF_none q fun e he => h e (List.mem_cons_of_mem _ he)
theorem inF_find {s : Sc.Scl} {st t : Int} {x : St} : ∀ {l : List E} (q : Int × Int), up l → l.foldl (inF s st t x) q = match ((l.find? (isG x.entry)).bind fun e => if e.student = st ∧ e.on_ / 100 = t then some (x, e.credits) else none) with | some y => crS s q y | none => q
  | [], _, _ => rfl
  | e :: l, q, h => by
    obtain ⟨h1, h2⟩ := List.pairwise_cons.1 h
    rw [List.foldl_cons]
    by_cases hg : e.kind = 3 ∧ e.id = x.entry
    · rw [List.find?_cons_of_pos (show isG x.entry e = true from decide_eq_true hg), inF_none _ fun e' he' => by have := h1 e' he'; omega]
      unfold inF inB
      by_cases c : e.student = st ∧ e.on_ / 100 = t
      · rw [decide_eq_true ⟨hg.1, hg.2, c.1, c.2⟩, if_pos rfl]
        show _ = match (if e.student = st ∧ e.on_ / 100 = t then some (x, e.credits) else none) with | some y => crS s q y | none => q
        rw [if_pos c]
      · rw [decide_eq_false (fun hh => c ⟨hh.2.2.1, hh.2.2.2⟩), if_neg (by decide)]
        show _ = match (if e.student = st ∧ e.on_ / 100 = t then some (x, e.credits) else none) with | some y => crS s q y | none => q
        rw [if_neg c]
    · rw [List.find?_cons_of_neg (show ¬ isG x.entry e = true from fun hh => hg (of_decide_eq_true hh))]
      have h1 : inF s st t x q e = q := by
        unfold inF inB
        rw [decide_eq_false (fun hh => hg ⟨hh.1, hh.2.1⟩), if_neg (by decide)]
      rw [h1]
      exact inF_find q h2
theorem suP_eq {l : List E} (h : up l) (s : Sc.Scl) (st a t : Int) : suP l s st a t = crP s (grdP l st a t) := by
  unfold suP crP grdP
  rw [List.foldl_filterMap]
  congr 1
  funext q x
  rw [inF_find q h, gsel_find]
  cases (List.find? (isG x.entry) l).bind fun e => if e.student = st ∧ e.on_ / 100 = t then some (x, e.credits) else none <;> rfl
theorem up_id {l : List E} (h : up l) {a b : E} (ha : a ∈ l) (hb : b ∈ l) (e : a.id = b.id) : a = b := by
  obtain ⟨i, hi, rfl⟩ := List.mem_iff_getElem.1 ha
  obtain ⟨j, hj, rfl⟩ := List.mem_iff_getElem.1 hb
  have hp := List.pairwise_iff_getElem.1 h
  rcases Nat.lt_trichotomy i j with h1 | h1 | h1
  · have := hp i j hi hj h1; omega
  · subst h1; rfl
  · have := hp j i hj hi h1; omega
theorem find_up {l : List E} (h : up l) {g : E} (hg : g ∈ l) (hk : g.kind = 3) : l.find? (isG g.id) = some g := by
  cases hf : l.find? (isG g.id) with
  | none => exact absurd (decide_eq_true ⟨hk, rfl⟩) (List.find?_eq_none.1 hf g hg)
  | some e =>
    have h1 := List.find?_some hf
    have h2 := of_decide_eq_true h1
    rw [up_id h (List.mem_of_find?_eq_some hf) hg h2.2]
/-- The grades of a student and a term that count. -/
def tgB (st a t : Int) (g : E) : Bool := decide (g.kind = 3 ∧ g.day ≤ a ∧ g.on_ ≤ 100 * t + 99 ∧ g.student = st ∧ g.on_ / 100 = t)
theorem grd_up {l : List E} (h : up l) (st a t : Int) : grdP l st a t = (l.filter (tgB st a t)).map fun g => (stS l a (100 * t + 99) g, g.credits) := by
  rw [grdP, atP_up h, List.filterMap_map]
  have : ∀ L : List E, (∀ g ∈ L, g ∈ l) → List.filterMap (gsel l st t ∘ stS l a (100 * t + 99)) (L.filter (grB a (100 * t + 99))) = (L.filter (tgB st a t)).map fun g => (stS l a (100 * t + 99) g, g.credits) := by
    intro L hL
    induction L with
    | nil => rfl
    | cons g L ih =>
      have ih := ih fun x hx => hL x (List.mem_cons_of_mem _ hx)
      by_cases hg : g.kind = 3 ∧ g.day ≤ a ∧ g.on_ ≤ 100 * t + 99
      · rw [List.filter_cons_of_pos (show grB a (100 * t + 99) g = true from decide_eq_true hg), List.filterMap_cons]
        have e : (gsel l st t ∘ stS l a (100 * t + 99)) g = if g.student = st ∧ g.on_ / 100 = t then some (stS l a (100 * t + 99) g, g.credits) else none := by
          show gsel l st t (stS l a (100 * t + 99) g) = _
          rw [gsel_find]
          have : (stS l a (100 * t + 99) g).entry = g.id := rfl
          rw [this, find_up h (hL g (List.mem_cons_self ..)) hg.1]; rfl
        rw [e]
        by_cases c : g.student = st ∧ g.on_ / 100 = t
        · rw [if_pos c, List.filter_cons_of_pos (show tgB st a t g = true from decide_eq_true ⟨hg.1, hg.2.1, hg.2.2, c.1, c.2⟩), List.map_cons, ih]
        · rw [if_neg c, List.filter_cons_of_neg (by unfold tgB; rw [decide_eq_false (fun hh => c hh.2.2.2)]; decide), ih]
      · rw [List.filter_cons_of_neg (show ¬ grB a (100 * t + 99) g = true from fun hh => hg (of_decide_eq_true hh)), List.filter_cons_of_neg (by unfold tgB; rw [decide_eq_false (fun hh => hg ⟨hh.1, hh.2.1, hh.2.2.1⟩)]; decide), ih]
  exact this l fun _ hg => hg
theorem foldl_min_le : ∀ (l : List Int) (x : Int), l.foldl min x ≤ x ∧ (∀ y ∈ l, l.foldl min x ≤ y) ∧ (l.foldl min x = x ∨ l.foldl min x ∈ l)
  | [], x => ⟨Int.le_refl _, fun _ h => absurd h List.not_mem_nil, .inl rfl⟩
  | z :: l, x => by
    obtain ⟨h1, h2, h3⟩ := foldl_min_le l (min x z)
    refine ⟨by rw [List.foldl_cons]; omega, fun y hy => ?_, ?_⟩
    · rw [List.foldl_cons]
      rcases List.mem_cons.1 hy with rfl | hy
      · omega
      · exact h2 y hy
    · rw [List.foldl_cons]
      rcases h3 with h3 | h3
      · rw [h3]
        by_cases hc : x ≤ z
        · left; omega
        · right; exact List.mem_cons.2 (.inl (by omega))
      · right; exact List.mem_cons_of_mem _ h3
theorem foldl_max_ge : ∀ (l : List Int) (x : Int), x ≤ l.foldl max x ∧ (∀ y ∈ l, y ≤ l.foldl max x)
  | [], x => ⟨Int.le_refl _, fun _ h => absurd h List.not_mem_nil⟩
  | z :: l, x => by
    obtain ⟨h1, h2⟩ := foldl_max_ge l (max x z)
    refine ⟨by rw [List.foldl_cons]; omega, fun y hy => ?_⟩
    rw [List.foldl_cons]
    rcases List.mem_cons.1 hy with rfl | hy
    · omega
    · exact h2 y hy
theorem minP_mem {l : List Int} (h : l ≠ []) : minP l ∈ l ∧ ∀ y ∈ l, minP l ≤ y := by
  cases l with
  | nil => exact absurd rfl h
  | cons x l =>
    obtain ⟨h1, h2, h3⟩ := foldl_min_le l x
    refine ⟨?_, fun y hy => ?_⟩
    · rcases h3 with h3 | h3
      · exact List.mem_cons.2 (.inl h3)
      · exact List.mem_cons_of_mem _ h3
    · rcases List.mem_cons.1 hy with rfl | hy
      · exact h1
      · exact h2 y hy
theorem maxP_ge {l : List Int} : ∀ y ∈ l, y ≤ maxP l := by
  cases l with
  | nil => exact fun _ h => absurd h List.not_mem_nil
  | cons x l =>
    obtain ⟨h1, h2⟩ := foldl_max_ge l x
    intro y hy
    rcases List.mem_cons.1 hy with rfl | hy
    · exact h1
    · exact h2 y hy
/-- Terms of entries with days from 0 on. -/
abbrev okO (l : List E) : Prop := ∀ e ∈ l, 0 ≤ e.on_ ∧ e.on_ ≤ 1000
theorem M10.okO {sc day : Int} {l : List E} (h : M10 sc day l) (hd : day ≤ 1000) : okO l := fun e he => by
  have h1 := (h.ok e he).day
  have h2 := (h.ok e he).on
  omega
theorem trm_nn {l : List E} (ho : okO l) {st a x : Int} (hx : x ∈ trmP l st a) : 0 ≤ x ∧ x ≤ 10 := by
  obtain ⟨e, he, rfl⟩ := List.mem_map.1 hx
  have := ho e (List.mem_filter.1 he).1
  omega
theorem grd_nil {l : List E} (h : up l) {st a t : Int} (hx : t ∉ trmP l st a) : grdP l st a t = [] := by
  rw [grd_up h]
  have : l.filter (tgB st a t) = [] := List.filter_eq_nil_iff.2 fun g hg hh => by
    have hh := of_decide_eq_true hh
    exact hx (List.mem_map.2 ⟨g, List.mem_filter.2 ⟨hg, decide_eq_true ⟨hh.1, hh.2.2.2.1, hh.2.1⟩⟩, hh.2.2.2.2⟩)
  rw [this]; rfl
theorem stdL_b (l : List E) (s : Sc.Scl) (st a f : Int) : ∀ k, 0 ≤ stdL l s st a f k ∧ stdL l s st a f k ≤ 3
  | 0 => ⟨Int.le_refl _, Int.le_of_lt (by show (0 : Int) < 3; decide)⟩
  | k + 1 => by
    rw [stdL]; unfold stdS
    split
    · omega
    · split <;> omega
theorem std_skip {l : List E} {s : Sc.Scl} {st a t : Int} (h : trmP l st a = [] ∨ t < minP (trmP l st a) ∨ 100 * t + 99 > a) : stdP l s st a t = 0 := by
  unfold stdP
  rw [if_pos]
  rcases h with h | h | h
  · exact .inl h
  · exact .inr (.inr h)
  · exact .inr (.inl (decide_eq_false fun hh => by omega))
theorem std_go {l : List E} {s : Sc.Scl} {st a t : Int} (ho : okO l) (h : trmP l st a ≠ []) (h1 : minP (trmP l st a) ≤ t) (h2 : 100 * t + 99 ≤ a) (h3 : t ≤ 1000) :
    stdP l s st a t = stdS (crP s (grdP l st a t)) (stdL l s st a (minP (trmP l st a)) (t - minP (trmP l st a)).toNat) := by
  have h0 := (trm_nn ho (minP_mem h).1).1
  unfold stdP
  have hf : fstP l st a = minP (trmP l st a) := by unfold fstP; omega
  rw [if_neg, hf]
  · generalize minP (trmP l st a) = f at h0 h1 ⊢
    have e1 : (t - f + 1).toNat = (t - f).toNat + 1 := by omega
    have e2 : f + ((t - f).toNat : Int) = t := by omega
    rw [e1, stdL, e2]
  · rintro (hh | hh | hh)
    · exact h hh
    · have := of_decide_eq_false hh; omega
    · omega
/-! ### The law of bad terms -/
/-- What the law keeps: the standing before. -/
def badI (l : List E) (s : Sc.Scl) (st a : Int) (t : Int) (b : Int) : Prop :=
  (0 ≤ b ∧ b ≤ 3) ∧ (trmP l st a ≠ [] → (t ≤ minP (trmP l st a) → b = 0) ∧ (minP (trmP l st a) ≤ t → (t = minP (trmP l st a) ∨ 100 * (t - 1) + 99 ≤ a) → b = stdL l s st a (minP (trmP l st a)) (t - minP (trmP l st a)).toNat))
theorem bad0 {l : List E} (s : Sc.Scl) {st a : Int} (ho : okO l) : badI l s st a 0 0 := ⟨by decide, fun h => ⟨fun _ => rfl, fun h1 _ => by
  have := (trm_nn ho (minP_mem h).1).1
  have e : minP (trmP l st a) = 0 := by omega
  rw [e]; rfl⟩⟩
theorem bad_skip {l : List E} {s : Sc.Scl} {st a t b : Int} (h : badI l s st a t b) (hs : trmP l st a = [] ∨ t < minP (trmP l st a) ∨ 100 * t + 99 > a) : badI l s st a (t + 1) b := by
  refine ⟨h.1, fun hn => ⟨fun h1 => (h.2 hn).1 (by omega), fun h1 h2 => ?_⟩⟩
  by_cases hs' : t < minP (trmP l st a)
  · rw [(h.2 hn).1 (by omega)]
    have e : (t + 1 - minP (trmP l st a)).toNat = 0 := by omega
    rw [e]; rfl
  rcases hs with hs | hs | hs
  · exact absurd hs hn
  · exact absurd hs hs'
  · exfalso; omega
theorem bad_go {l : List E} {s : Sc.Scl} {st a t b : Int} (ho : okO l) (h : badI l s st a t b) (hn : trmP l st a ≠ []) (h1 : minP (trmP l st a) ≤ t) (h2 : 100 * t + 99 ≤ a) (h3 : t ≤ 1000) :
    stdP l s st a t = stdS (crP s (grdP l st a t)) b ∧ badI l s st a (t + 1) (stdP l s st a t) := by
  have hb := (h.2 hn).2 h1 (.inr (by omega))
  have e := std_go (s := s) ho hn h1 h2 h3
  rw [← hb] at e
  refine ⟨e, ?_, fun _ => ⟨fun hh => by omega, fun _ _ => ?_⟩⟩
  · rw [e]; unfold stdS
    split
    · omega
    · split <;> omega
  · have e1 : (t + 1 - minP (trmP l st a)).toNat = (t - minP (trmP l st a)).toNat + 1 := by omega
    have e2 : minP (trmP l st a) + ((t - minP (trmP l st a)).toNat : Int) = t := by omega
    rw [e, e1, stdL, e2, hb]
theorem bad_last {l : List E} {s : Sc.Scl} {st a t : Int} (h : up l) (hl : maxP (trmP l st a) < t) : crP s (grdP l st a t) = (0, 0) := by
  rw [grd_nil h]; · rfl
  intro hx
  have := maxP_ge _ hx
  omega
theorem min_le_max {l : List Int} (h : l ≠ []) : minP l ≤ maxP l := maxP_ge _ (minP_mem h).1
end En
end Go.Proofs.Ytnegdmjmllmclaa
namespace Go.Proofs.Ytnegdmjmllmclaa
open Go.Proofs.Ytnegdmjmllmclaa.Am
set_option maxRecDepth 100000
namespace En
/-! ### One grade more -/
theorem lifted_app (R : List E) (e : E) (he : e.kind = 3) (f a o : Int) : liftedP (R ++ [e]) f a o = liftedP R f a o := by
  unfold liftedP
  rw [List.any_append]
  have : ([e].any fun e => decide (e.kind = 6) && decide (e.ref = f) && decide (e.day ≤ a ∧ e.on_ ≤ o)) = false := by
    rw [List.any_cons, decide_eq_false (fun h : e.kind = 6 => by omega)]; rfl
  rw [this, Bool.or_false]
theorem chos_app (R : List E) (e : E) (he : e.kind = 3) (k r : Int) (hk : k ≠ 3) : chos (R ++ [e]) [cOf k, cTo r] = chos R [cOf k, cTo r] := by
  unfold chos
  rw [List.filter_append]
  have : [e].filter (fun e => [cOf k, cTo r].all (·.p e)) = [] := List.filter_eq_nil_iff.2 fun x hx hh => by
    rw [List.mem_singleton.1 hx] at hh
    have := (Bool.and_eq_true _ _ ▸ hh : _ ∧ _).1
    exact hk ((of_decide_eq_true this).symm.trans he)
  rw [this, List.append_nil]
theorem stand_app (R : List E) (e : E) (he : e.kind = 3) (a o : Int) (g : E) : stand (R ++ [e]) a o g = stand R a o g := by
  unfold stand corr voidP
  rw [chos_app R e he 4 _ (by decide), chos_app R e he 5 _ (by decide)]
  have : (fun f : E => !liftedP (R ++ [e]) f.id a o) = fun f => !liftedP R f.id a o := by
    funext f; rw [lifted_app R e he]
  rw [this]
theorem up_app {l : List E} {e : E} (h : up l) (hi : ∀ x ∈ l, x.id < e.id) : up (l ++ [e]) :=
  List.pairwise_append.2 ⟨h, List.pairwise_singleton _ _, fun x hx y hy => by rw [List.mem_singleton.1 hy]; exact hi x hx⟩
theorem stS_app {l : List E} {e : E} (h : up l) (hi : ∀ x ∈ l, x.id < e.id) (he : e.kind = 3) (a o : Int) (g : E) : stS (l ++ [e]) a o g = stS l a o g := by
  show stand (atR (l ++ [e]) a o) a o g = stand (atR l a o) a o g
  rw [atR_up (up_app h hi), atR_up h, List.filter_append]
  by_cases c : cntB a o e = true
  · rw [List.filter_cons_of_pos c]
    exact stand_app _ e he a o g
  · rw [List.filter_cons_of_neg c]
    simp
/-- A grade that nothing refers to. -/
theorem stS_free {l : List E} {e : E} (h : up l) (hr : ∀ x ∈ l, refsK x.kind → x.ref ≠ e.id) (a o : Int) : stS l a o e = ⟨e.id, 0, e.grade, false⟩ := by
  show stand (atR l a o) a o e = _
  rw [atR_up h]
  have hn : ∀ k, refsK k → chos (l.filter (cntB a o)) [cOf k, cTo e.id] = [] := fun k hk => List.filter_eq_nil_iff.2 fun x hx hh => by
    have h1 := (Bool.and_eq_true _ _ ▸ hh : _ ∧ _)
    have h2 := of_decide_eq_true h1.1
    have h3 := (Bool.and_eq_true _ _ ▸ h1.2 : _ ∧ _).1
    exact hr x (List.mem_filter.1 hx).1 (h2 ▸ hk) (of_decide_eq_true h3)
  unfold stand corr voidP
  rw [hn 4 (.inl rfl), hn 5 (.inr (.inl rfl))]
  rfl
theorem M10.mem_ref {sc day : Int} {l : List E} (h : M10 sc day l) : ∀ x ∈ l, refsK x.kind → ∃ y ∈ l, y.id = x.ref ∧ y.student = x.student ∧ y.kind = tgt x.kind ∧ y.on_ ≤ x.on_ := fun x hx hk => by
  obtain ⟨i, hi, rfl⟩ := List.mem_iff_getElem.1 hx
  have e : l.getD i e0 = l[i] := by rw [List.getD_eq_getElem?_getD, List.getElem?_eq_getElem hi]; rfl
  obtain ⟨j, hj, h1, h2, h3, h4⟩ := h.refs i hi (e ▸ hk)
  rw [e] at h1 h2 h3 h4
  exact ⟨l.getD j e0, getD_mem' (by omega), h1, h2, h3, h4⟩
theorem grd_app {l : List E} {e : E} (h : up l) (hi : ∀ x ∈ l, x.id < e.id) (he : e.kind = 3) (hr : ∀ x ∈ l, refsK x.kind → x.ref ≠ e.id) (st a t : Int) :
    grdP (l ++ [e]) st a t = grdP l st a t ++ if tgB st a t e then [(⟨e.id, 0, e.grade, false⟩, e.credits)] else [] := by
  rw [grd_up (up_app h hi), grd_up h, List.filter_append, List.map_append]
  congr 1
  · exact List.map_congr_left fun g _ => by rw [stS_app h hi he]
  · by_cases c : tgB st a t e = true
    · rw [List.filter_cons_of_pos c, if_pos c]
      show [(stS (l ++ [e]) a (100 * t + 99) e, e.credits)] = _
      rw [stS_app h hi he, stS_free h hr]
    · rw [List.filter_cons_of_neg c, if_neg c]; rfl
theorem crP_app (s : Sc.Scl) (L M : List (St × Int)) : crP s (L ++ M) = M.foldl (crS s) (crP s L) := List.foldl_append ..
theorem crF_b (s : Sc.Scl) : ∀ (L : List (St × Int)) (q : Int × Int), (∀ y ∈ L, 0 ≤ y.2 ∧ y.2 ≤ 100) → L.length ≤ 1000 → (0 ≤ q.1 ∧ q.1 + 100 * L.length ≤ 1000000) → (0 ≤ q.2 ∧ q.2 + 100 * L.length ≤ 1000000) →
    (q.1 ≤ (L.foldl (crS s) q).1 ∧ (L.foldl (crS s) q).1 ≤ q.1 + 100 * L.length) ∧ (q.2 ≤ (L.foldl (crS s) q).2 ∧ (L.foldl (crS s) q).2 ≤ q.2 + 100 * L.length)
  | [], q, _, _, _, _ => by simp
  | y :: L, q, h, hl, h1, h2 => by
    have hy := h y (List.mem_cons_self ..)
    rw [List.length_cons] at h1 h2 hl ⊢
    rw [List.foldl_cons]
    have hq : (crS s q y = (q.1 + y.2, q.2) ∨ crS s q y = (q.1, q.2 + y.2)) := by
      unfold crS
      split
      · left; rw [wrap_id (by omega) (by omega)]
      · right; rw [wrap_id (by omega) (by omega)]
    have h3 := crF_b s L (crS s q y) (fun z hz => h z (List.mem_cons_of_mem _ hz)) (by omega)
    rcases hq with hq | hq
    · rw [hq] at h3 ⊢
      have := h3 (by dsimp only; omega) (by dsimp only; omega)
      dsimp only at this
      omega
    · rw [hq] at h3 ⊢
      have := h3 (by dsimp only; omega) (by dsimp only; omega)
      dsimp only at this
      omega
abbrev okC (l : List E) : Prop := ∀ e ∈ l, 0 ≤ e.credits ∧ e.credits ≤ 100
theorem grd_cr {l : List E} (h : up l) (hc : okC l) (st a t : Int) : ∀ y ∈ grdP l st a t, 0 ≤ y.2 ∧ y.2 ≤ 100 := fun y hy => by
  rw [grd_up h] at hy
  obtain ⟨g, hg, rfl⟩ := List.mem_map.1 hy
  exact hc g (List.mem_filter.1 hg).1
theorem cr_b {l : List E} (h : up l) (hc : okC l) (hl : l.length ≤ 1000) (s : Sc.Scl) (st a t : Int) : (0 ≤ (crP s (grdP l st a t)).1 ∧ (crP s (grdP l st a t)).1 ≤ 100000) ∧ (0 ≤ (crP s (grdP l st a t)).2 ∧ (crP s (grdP l st a t)).2 ≤ 100000) := by
  have hg := grd_len l st a t
  have := crF_b s (grdP l st a t) (0, 0) (grd_cr h hc st a t) (by omega) (by dsimp only; omega) (by dsimp only; omega)
  unfold crP
  dsimp only at this
  omega
theorem cr_more {l : List E} {e : E} (h : up l) (hi : ∀ x ∈ l, x.id < e.id) (he : e.kind = 3) (hr : ∀ x ∈ l, refsK x.kind → x.ref ≠ e.id) (hc : okC l) (hl : l.length ≤ 1000) (hec : 0 ≤ e.credits ∧ e.credits ≤ 100) (s : Sc.Scl) (hb : Sc.rea s e.grade s.2.2) (st a t : Int) :
    (crP s (grdP (l ++ [e]) st a t)).2 = (crP s (grdP l st a t)).2 ∧ (crP s (grdP l st a t)).1 ≤ (crP s (grdP (l ++ [e]) st a t)).1 := by
  have hb1 := cr_b h hc hl s st a t
  rw [grd_app h hi he hr, crP_app]
  split
  · rw [List.foldl_cons, List.foldl_nil]
    have : crS s (crP s (grdP l st a t)) (⟨e.id, 0, e.grade, false⟩, e.credits) = (IntKind.i64.wrap ((crP s (grdP l st a t)).1 + e.credits), (crP s (grdP l st a t)).2) := by
      unfold crS psB
      dsimp only
      rw [decide_eq_true hb]; rfl
    rw [this, wrap_id (by omega) (by omega)]
    dsimp only
    omega
  · exact ⟨rfl, Int.le_refl _⟩
/-! ### No standing gets worse -/
theorem minP_app {l : List Int} (h : l ≠ []) (x : Int) : minP (l ++ [x]) = min (minP l) x := by
  cases l with
  | nil => exact absurd rfl h
  | cons y l => show (l ++ [x]).foldl min y = _; rw [List.foldl_append]; rfl
theorem trm_app (l : List E) (e : E) (st a : Int) (h : tmB st a e = true) : trmP (l ++ [e]) st a = trmP l st a ++ [e.on_ / 100] := by
  unfold trmP
  rw [List.filter_append, List.filter_cons_of_pos h, List.map_append]; rfl
theorem stdS_one (q : Int × Int) (x : Int) : 1 ≤ stdS q x := by
  unfold stdS
  split
  · omega
  · split <;> omega
theorem stdS_mono {p p' d x x' : Int} (h : p ≤ p') (hx : x' ≤ x ∨ x' ≤ 1) : stdS (p', d) x' ≤ stdS (p, d) x := by
  have h1 := stdS_one (p, d) x
  unfold stdS at h1 ⊢
  dsimp only at h1 ⊢
  by_cases c : d ≤ p'
  · rw [if_pos c]; exact h1
  · rw [if_neg c, if_neg (show ¬ d ≤ p by omega)]
    by_cases c2 : x' ≥ 2
    · rw [if_pos c2, if_pos (by omega)]; omega
    · rw [if_neg c2]
      by_cases c3 : x ≥ 2
      · rw [if_pos c3]; omega
      · rw [if_neg c3]; omega
theorem std_run {s : Sc.Scl} {st a f f' : Int} {l m : List E} (hcr : ∀ t, (crP s (grdP m st a t)).2 = (crP s (grdP l st a t)).2 ∧ (crP s (grdP l st a t)).1 ≤ (crP s (grdP m st a t)).1) (k0 : Nat) (hf : f = f' + k0) (h0 : stdL m s st a f' k0 ≤ 1) : ∀ k, stdL m s st a f' (k0 + k) ≤ stdL l s st a f k ∨ stdL m s st a f' (k0 + k) ≤ 1
  | 0 => .inr h0
  | k + 1 => by
    left
    have ih := std_run hcr k0 hf h0 k
    have e1 : k0 + (k + 1) = (k0 + k) + 1 := rfl
    rw [e1, stdL, stdL]
    have e2 : f' + ((k0 + k : Nat) : Int) = f + (k : Int) := by omega
    rw [e2]
    have := hcr (f + (k : Int))
    generalize crP s (grdP m st a (f + k)) = q' at this ⊢
    generalize crP s (grdP l st a (f + k)) = q at this ⊢
    obtain ⟨p, d⟩ := q
    obtain ⟨p', d'⟩ := q'
    dsimp only at this
    obtain ⟨rfl, hp⟩ := this
    exact stdS_mono hp ih
theorem std_low {s : Sc.Scl} {st a f' : Int} {m : List E} : ∀ k : Nat, (∀ j, j < k → (crP s (grdP m st a (f' + (j : Nat)))).2 ≤ (crP s (grdP m st a (f' + (j : Nat)))).1) → stdL m s st a f' k ≤ 1
  | 0, _ => by show (0 : Int) ≤ 1; decide
  | k + 1, h => by
    rw [stdL]; unfold stdS
    rw [if_pos (h k (Nat.lt_succ_self k))]
    omega
theorem more_std {l : List E} {e : E} (h : up l) (hi : ∀ x ∈ l, x.id < e.id) (he : e.kind = 3) (hr : ∀ x ∈ l, refsK x.kind → x.ref ≠ e.id) (hc : okC l) (hl : l.length ≤ 1000) (hec : 0 ≤ e.credits ∧ e.credits ≤ 100) (s : Sc.Scl) (hb : Sc.rea s e.grade s.2.2) (ho : okO l) (heo : 0 ≤ e.on_ ∧ e.on_ ≤ 1000) (st a : Int) (htm : tmB st a e = true) (hn : trmP l st a ≠ []) (t : Int) (ht : t ≤ 1000) :
    (minP (trmP l st a) ≤ t → stdP (l ++ [e]) s st a t ≤ stdP l s st a t) ∧ (t < minP (trmP l st a) → stdP (l ++ [e]) s st a t ≤ 1) := by
  have hcr := fun t => cr_more h hi he hr hc hl hec s hb st a t
  have hTm := trm_app l e st a htm
  have hn' : trmP (l ++ [e]) st a ≠ [] := by rw [hTm]; simp
  have hmin : minP (trmP (l ++ [e]) st a) = min (minP (trmP l st a)) (e.on_ / 100) := by rw [hTm, minP_app hn]
  have ho' : okO (l ++ [e]) := fun x hx => by
    rcases List.mem_append.1 hx with hx | hx
    · exact ho x hx
    · rw [List.mem_singleton.1 hx]; exact heo
  have hF0 := (trm_nn ho' (minP_mem hn').1).1
  have hle : minP (trmP (l ++ [e]) st a) ≤ minP (trmP l st a) := by omega
  obtain ⟨k0, hk0⟩ : ∃ k0 : Nat, minP (trmP l st a) = minP (trmP (l ++ [e]) st a) + k0 := ⟨(minP (trmP l st a) - minP (trmP (l ++ [e]) st a)).toNat, by omega⟩
  have hlow : ∀ k : Nat, k ≤ k0 → stdL (l ++ [e]) s st a (minP (trmP (l ++ [e]) st a)) k ≤ 1 := fun k hk => std_low k fun j hj => by
    have h1 := hcr (minP (trmP (l ++ [e]) st a) + (j : Nat))
    have h2 : grdP l st a (minP (trmP (l ++ [e]) st a) + (j : Nat)) = [] := grd_nil h fun hx => by
      have := (minP_mem hn).2 _ hx
      omega
    rw [h2] at h1
    have h3 : crP s [] = (0, 0) := rfl
    rw [h3] at h1
    dsimp only at h1
    omega
  by_cases hend : 100 * t + 99 > a
  · rw [std_skip (.inr (.inr hend)), std_skip (.inr (.inr hend))]
    exact ⟨fun _ => Int.le_refl _, fun _ => by decide⟩
  by_cases ht0 : t < minP (trmP (l ++ [e]) st a)
  · rw [std_skip (l := l ++ [e]) (.inr (.inl ht0))]
    refine ⟨fun hh => by omega, fun _ => by decide⟩
  have hgo' := std_go (s := s) ho' hn' (by omega) (by omega) ht
  obtain ⟨k, hk⟩ : ∃ k : Nat, t = minP (trmP (l ++ [e]) st a) + k := ⟨(t - minP (trmP (l ++ [e]) st a)).toNat, by omega⟩
  have e1 : (t - minP (trmP (l ++ [e]) st a)).toNat = k := by omega
  rw [e1] at hgo'
  have e2 : stdP (l ++ [e]) s st a t = stdL (l ++ [e]) s st a (minP (trmP (l ++ [e]) st a)) (k + 1) := by rw [hgo', stdL, ← hk]
  refine ⟨fun hh => ?_, fun hh => ?_⟩
  · have hgo := std_go (s := s) ho hn hh (by omega) ht
    obtain ⟨j, hj⟩ : ∃ j : Nat, t = minP (trmP l st a) + j := ⟨(t - minP (trmP l st a)).toNat, by omega⟩
    have e3 : (t - minP (trmP l st a)).toNat = j := by omega
    rw [e3] at hgo
    have e4 : stdP l s st a t = stdL l s st a (minP (trmP l st a)) (j + 1) := by rw [hgo, stdL, ← hj]
    have hrun := std_run hcr k0 hk0 (hlow k0 (Nat.le_refl _)) (j + 1)
    have e5 : k0 + (j + 1) = k + 1 := by omega
    rw [e5, ← e2, ← e4] at hrun
    rcases hrun with hrun | hrun
    · exact hrun
    · have : 1 ≤ stdP l s st a t := by rw [hgo]; exact stdS_one _ _
      omega
  · rw [e2]
    exact hlow (k + 1) (by omega)
theorem more_sti {l : List E} {e : E} (h : up l) (hi : ∀ x ∈ l, x.id < e.id) (he : e.kind = 3) (hr : ∀ x ∈ l, refsK x.kind → x.ref ≠ e.id) (hc : okC l) (hl : l.length ≤ 1000) (hec : 0 ≤ e.credits ∧ e.credits ≤ 100) (s : Sc.Scl) (hb : Sc.rea s e.grade s.2.2) (ho : okO l) (heo : 0 ≤ e.on_ ∧ e.on_ ≤ 1000) (st a : Int) (htm : tmB st a e = true) (hn : trmP l st a ≠ []) (t : Int) (ht : t ≤ 1000) :
    stiP l s st a t = true → stiP (l ++ [e]) s st a t = true := fun hh => by
  have hh := of_decide_eq_true hh
  have hcr := cr_more h hi he hr hc hl hec s hb st a t
  have hm := more_std h hi he hr hc hl hec s hb ho heo st a htm hn t ht
  have hge : minP (trmP l st a) ≤ t := by
    by_cases c : minP (trmP l st a) ≤ t
    · exact c
    · have := std_skip (l := l) (s := s) (st := st) (a := a) (t := t) (.inr (.inl (by omega)))
      omega
  have hend : ¬ 100 * t + 99 > a := fun c => by
    have := std_skip (l := l) (s := s) (st := st) (a := a) (t := t) (.inr (.inr c))
    omega
  have h1 := hm.1 hge
  have hTm := trm_app l e st a htm
  have hn' : trmP (l ++ [e]) st a ≠ [] := by rw [hTm]; simp
  have hmin : minP (trmP (l ++ [e]) st a) = min (minP (trmP l st a)) (e.on_ / 100) := by rw [hTm, minP_app hn]
  have ho' : okO (l ++ [e]) := fun x hx => by
    rcases List.mem_append.1 hx with hx | hx
    · exact ho x hx
    · rw [List.mem_singleton.1 hx]; exact heo
  have h2 := std_go (s := s) (t := t) ho' hn' (by omega) (by omega) ht
  have h3 := stdS_one (crP s (grdP (l ++ [e]) st a t)) (stdL (l ++ [e]) s st a (minP (trmP (l ++ [e]) st a)) (t - minP (trmP (l ++ [e]) st a)).toNat)
  rw [← h2] at h3
  exact decide_eq_true ⟨by omega, by omega⟩
end En
end Go.Proofs.Ytnegdmjmllmclaa
namespace Go.Proofs.Ytnegdmjmllmclaa
open Go.Proofs.Ytnegdmjmllmclaa.Am
set_option maxRecDepth 100000
namespace En
/-! ### StandMore -/
abbrev moS (l m : List E) (s : Sc.Scl) (st a f : Int) (k : Nat) : AS := ⟨[(7, bool true), (8, .ro {} 15 (l.map en)), (9, .ptr 0 3 0 0), (10, int st), (11, int a), (18, .slm {} 1 15 0 m.length), (19, int f), (22, int (k : Nat))], [(0, .row 3 scty [Sc.scA s]), (1, .row 15 ety (m.map en))], 2⟩
theorem moN (l : List E) (L : Nat) (st a f k : Int) : frNames (fun i => decide (i < 0) || List.contains [0, 1] i) [(7, bool true), (8, .ro {} 15 (l.map en)), (9, .ptr 0 3 0 0), (10, int st), (11, int a), (18, .slm {} 1 15 0 L), (19, int f), (22, int k)] = true := by
  simp only [frNames, AV.names, namesL_none (pure_en l)]; rfl
theorem moB (m : List E) (s : Sc.Scl) (ok : Nat → Bool) : namesAll ok [(0, .row 3 scty [Sc.scA s]), (1, .row 15 ety (m.map en))] = true := namesAll.row rfl (namesAll.row (pure_en _) rfl)
theorem scl_best (sc : Int) (h : 1 ≤ sc ∧ sc ≤ 3) : Sc.rea (sclOf sc) (sclOf sc).2.1 (sclOf sc).2.2 := by
  have : sc = 1 ∨ sc = 2 ∨ sc = 3 := by omega
  rcases this with rfl | rfl | rfl <;> exact of_decide_eq_true (by kernel_rfl)
set_option maxHeartbeats 3200000 in
set_option maxRecDepth 100000 in
theorem smore (xs : List Int) (fl : Fl) (hx : xs.length ≤ 9223372036854775807) (q : Int × Int × Int × Int) (h1 : 0 ≤ q.1 ∧ q.1 ≤ 255) (h2 : 0 ≤ q.2.1 ∧ q.2.1 ≤ 255) (h3 : 0 ≤ q.2.2.1 ∧ q.2.2.1 ≤ 65535) (h4 : 0 ≤ q.2.2.2 ∧ q.2.2.2 ≤ 255) (y z : Int) (hy : 0 ≤ y ∧ y ≤ 255) (hz : 0 ≤ z ∧ z ≤ 255) :
    AFun Try.prog 6 0 [.agg [.ro fl 1 (xs.map int), u8' q.1, u8' q.2.1, u16 q.2.2.1, u8' q.2.2.2], u8' y, u8' z] [] (bool true) [] := by
  obtain ⟨sc, l, st, a, t0, ⟨hsc0, hsc⟩, ⟨hl, hM⟩, hst, ha, ht0, hmd⟩ := made_f xs fl hx q h1 h2 h3 h4
  clear h2 h3 h4
  have b1 := tmod_bound q.1 (m := 3) (by omega)
  have p1 := tmod_pos 3 h1.1
  have b2 := tmod_bound y (m := 8) (by omega)
  have p2 := tmod_pos 8 hy.1
  have b3 := tmod_bound z (m := 30) (by omega)
  have p3 := tmod_pos 30 hz.1
  have w1 : q.1 = IntKind.i64.wrap q.1 := (wrap_id (by omega) (by omega)).symm
  have w2 : y = IntKind.i64.wrap y := (wrap_id (by omega) (by omega)).symm
  have w3 : z = IntKind.i64.wrap z := (wrap_id (by omega) (by omega)).symm
  have hup : up l := hM.toIds.lt
  have how := hM.okW (by decide)
  have ho := hM.okO (by decide)
  have hl40 : l.length < 39 := by omega
  have hi : ∀ x ∈ l, x.id < 500 := fun x hx => by have := hM.toIds.range hx; omega
  have hr : ∀ x ∈ l, refsK x.kind → x.ref ≠ 500 := fun x hx hk => by
    obtain ⟨w, hw, h1, _⟩ := hM.mem_ref x hx hk
    have := hi w hw
    omega
  have hc : okC l := fun x hx => by have := (hM.ok x hx).credits; omega
  have hbest := scl_best sc hsc
  clear hM
  generalize sclOf sc = s at hmd hbest
  obtain ⟨on, hon⟩ : ∃ on, on = 100 * y.tmod 8 + 50 := ⟨_, rfl⟩
  obtain ⟨cr, hcr⟩ : ∃ cr, cr = 1 + z.tmod 30 := ⟨_, rfl⟩
  have hTm := Terms_f l st a {} (by omega) how
  obtain ⟨f, hf⟩ : ∃ f, f = minP (trmP l st a) := ⟨_, rfl⟩
  obtain ⟨m, hm⟩ : ∃ m, m = maxP (trmP l st a) := ⟨_, rfl⟩
  rw [← hf, ← hm] at hTm
  clear hm
  refine AFun.of_W T_ok mixed Try.func6 rfl (Nat.le_of_ble_eq_true rfl) rfl ?_
  by_cases hn : trmP l st a = []
  · rw [decide_eq_false (fun h => h hn)] at hTm
    ((repeat ((conv => whnf); (first | (refine LetN.pre ?_; first | ((conv => arg 1; whnf); refine LetN.mk ?_)) | (refine As.pre ?_; first | refine As.mk rfl ?_) | (refine LetV.pre ?_; first | refine LetV.mk (.agg _) rfl ?_) | (refine LetI.pre ?_; first | refine LetI.mk (o := none) y w2 ?_ | refine LetI.wrap (by omega) (by omega) ?_ | refine LetI.mk _ rfl ?_) | (refine Gd.pre ?_; first | refine Gd.pass rfl ?_) | (refine Br.pre ?_; first | refine Br.tt rfl ?_) | (refine Ck.pre ?_; first | refine Ck.mk rfl ?_) | (refine LetL.pre ?_; first | refine LetL.mk [_] rfl ?_) | (refine CallN.pre ?_; first | refine CallN.pure sanity_f rfl rfl ?_ | refine CallN.pure hmd rfl rfl ?_ | refine CallN.pure hTm rfl rfl ?_)))); (try (conv => whnf)))




    exact ⟨.inl rfl, ⟨_, rfl, rfl⟩, trivial⟩
  rw [decide_eq_true hn] at hTm
  by_cases hoa : on > a
  · ((repeat ((conv => whnf); (first | (refine LetN.pre ?_; first | ((conv => arg 1; whnf); refine LetN.mk ?_)) | (refine As.pre ?_; first | refine As.mk rfl ?_) | (refine LetV.pre ?_; first | refine LetV.mk (.agg _) rfl ?_) | (refine LetI.pre ?_; first | refine LetI.mk (o := none) y w2 ?_ | refine LetI.wrap (by omega) (by omega) ?_ | refine LetI.mk _ rfl ?_) | (refine LetB.pre ?_; first | refine LetB.dect (by omega) ?_) | (refine Gd.pre ?_; first | refine Gd.run rfl ?_) | (refine Br.pre ?_; first | refine Br.tt rfl ?_) | (refine Ck.pre ?_; first | refine Ck.mk rfl ?_) | (refine LetL.pre ?_; first | refine LetL.mk [_] rfl ?_) | (refine CallN.pre ?_; first | refine CallN.pure sanity_f rfl rfl ?_ | refine CallN.pure hmd rfl rfl ?_ | refine CallN.pure hTm rfl rfl ?_)))); (try (conv => whnf)))




    exact ⟨.inl rfl, ⟨_, rfl, rfl⟩, trivial⟩
  obtain ⟨e, he⟩ : ∃ e : E, e = ⟨500, 1 + q.1.tmod 3, st, 3, a, 100 * y.tmod 8 + 50, ⟨#[65, 49]⟩, 1 + z.tmod 30, s.2.1, 0, 0, 0, 0, 0, ⟨#[]⟩⟩ := ⟨_, rfl⟩
  have hso : storables (l.map en) = true := by have h := stor_en l 0 l.length; rw [List.drop_zero, List.take_of_length_le (by simp)] at h; exact h
  have hml : (l.map en).length = l.length := List.length_map _
  have r1 := room_en (n := 0 + (l.map en).length) (by omega)
  have r2 := room_en (n := 0 + (l.map en).length + 1) (by omega)
  have hle : (l ++ [e]).length = l.length + 1 := by simp
  have a0 : l.map en = List.take 0 ([] : List AV) ++ l.map en := rfl
  have a1 : (l ++ [e]).map en = List.take (0 + (l.map en).length) (l.map en) ++ [en ⟨500, 1 + q.1.tmod 3, st, 3, a, 100 * y.tmod 8 + 50, ⟨#[65, 49]⟩, 1 + z.tmod 30, s.2.1, 0, 0, 0, 0, 0, ⟨#[]⟩⟩] := by rw [List.take_of_length_le (by omega), List.map_append, he]; rfl
  ((repeat ((conv => whnf); (first | (refine LetN.pre ?_; first | ((conv => arg 1; whnf); refine LetN.mk ?_)) | (refine As.pre ?_; first | refine As.mk rfl ?_ | (refine As.mk ?_ ?_; · ((repeat' (refine andT ?_ ?_)) <;> (first | rfl | assumption | exact decide_eq_true (by omega) | exact decide_eq_true (by dsimp only; omega) | exact decide_eq_true (by simp; omega) | (simp; done))))) | (refine LetV.pre ?_; first | refine LetV.mk (.sc (.int _ _)) rfl ?_ | refine LetV.mk (.agg _) rfl ?_) | (refine LetI.pre ?_; first | refine LetI.mk (o := none) q.1 w1 ?_ | refine LetI.mk (o := none) y w2 ?_ | refine LetI.mk (o := none) z w3 ?_ | refine LetI.wrap (by omega) (by omega) ?_ | refine LetI.mk _ rfl ?_) | (refine LetB.pre ?_; first | refine LetB.decf (by omega) ?_) | (refine Gd.pre ?_; first | refine Gd.run rfl ?_) | (refine Br.pre ?_; first | refine Br.ff rfl ?_) | (refine Ck.pre ?_; first | refine Ck.drawn (by kernel_rfl) ?_ | refine Ck.mk rfl ?_) | (refine LetL.pre ?_; first | refine LetL.mk (ty := ety) _ a0 ?_ | refine LetL.mk (ty := ety) _ a1 ?_ | refine LetL.mk [_] rfl ?_) | (refine CallN.pre ?_; first | refine CallN.pure sanity_f rfl rfl ?_ | refine CallN.pure hmd rfl rfl ?_ | refine CallN.pure hTm rfl rfl ?_)))); (try (conv => whnf)))











  refine LoopN.weak (s1 := moS l (l ++ [e]) s st a f 0) ?sw0 ?_
  case sw0 => exact SW.mk (fun i => if i = 0 then 1 else if i = 1 then 5 else i + 10) rfl (moN ..) (moB ..) ⟨.refl _, .refl _, .refl _, .refl _, .refl _, VLe2.slm_of (by rw [hle, hml]; show l.length + 1 = 0 + l.length + 1; omega), .refl _, .refl _, trivial⟩ (haveV.row rfl rfl (haveV.row (pure_en _) rfl trivial))
  clear hmd hTm r1 r2 a0 a1 w1 w2 w3
  have ek : e.kind = 3 := by rw [he]
  have ei : e.id = 500 := by rw [he]
  have eo : 0 ≤ e.on_ ∧ e.on_ ≤ 1000 := by rw [he]; dsimp only; omega
  have ec : 0 ≤ e.credits ∧ e.credits ≤ 100 := by rw [he]; dsimp only; omega
  have eb : Sc.rea s e.grade s.2.2 := by rw [he]; exact hbest
  have etm : tmB st a e = true := by rw [he]; exact decide_eq_true ⟨rfl, rfl, Int.le_refl _⟩
  have how' : ∀ x ∈ l ++ [e], Dt.okW x.on_ := fun x hx => by
    rcases List.mem_append.1 hx with hx | hx
    · exact how x hx
    · rw [List.mem_singleton.1 hx]; unfold Dt.okW; omega
  clear he
  rw [← ei] at hi hr
  have hstd := fun t ht => more_std hup hi ek hr hc (by omega) ec s eb ho eo st a etm hn t ht
  have hsti := fun t ht => more_sti hup hi ek hr hc (by omega) ec s eb ho eo st a etm hn t ht
  rw [← hf] at hstd
  have hl40' : l.length < 40 := by omega
  have hl41 : (l ++ [e]).length < 40 := by omega
  clear hi hr hc ek ei eo ec eb etm hup ho hle hf hon hcr hsc0
  have hml1 : (l ++ [e]).length = ((l ++ [e]).map en).length := (List.length_map _).symm
  generalize l ++ [e] = m' at hstd hsti hl41 how' hml1 ⊢
  have hpm := pure_en m'
  refine LoopN.indS (S := moS l m' s st a f) (fun k => 9 - k) (fun k => k ≤ 9) (fun k hk ih => ?_) 0 (Nat.zero_le _)
  by_cases hlt : k < 9
  case neg =>
    clear ih
    have : k = 9 := by omega
    subst this
    refine VS.of_V T_ok mixed rfl ?_
    ((repeat ((conv => whnf); (first | (refine As.pre ?_; first | refine As.mk rfl ?_) | (refine LetB.pre ?_; first | refine LetB.ff rfl ?_) | (refine Br.pre ?_; first | refine Br.ff rfl ?_) | (refine Ck.pre ?_; first | refine Ck.mk rfl ?_)))); (try (conv => whnf)))
    exact ⟨.inl rfl, ⟨_, rfl, rfl⟩, trivial⟩
  refine VS.cut T_ok mixed rfl ?_
  ((repeat ((conv => whnf); (first | (refine As.pre ?_; first | refine As.mk rfl ?_) | (refine LetB.pre ?_; first | refine LetB.dect (by omega) ?_) | (refine Br.pre ?_; first | refine Br.tt rfl ?_) | (refine Ck.pre ?_; first | refine Ck.mk rfl ?_)))); (try (conv => whnf)))
  refine VS.joinN (fun _ : Unit => moS l m' s st a f k) (fun _ => True) ?_ ?_
  case refine_2 =>
    intro _ _
    refine VS.of_V T_ok mixed rfl ?_
    ((repeat ((conv => whnf); (first | (refine As.pre ?_; first | refine As.mk rfl ?_) | (refine LetI.pre ?_; first | refine LetI.wrap (by omega) (by omega) ?_) | (refine Ck.pre ?_; first | refine Ck.mk rfl ?_)))); (try (conv => whnf)))
    refine LoopN.weak ?sw1 (ih (k + 1) hlt (by omega))
    case sw1 => exact SW.mk id rfl (moN ..) (moB ..) ⟨.refl _, .refl _, .refl _, .refl _, .refl _, .refl _, .refl _, VLe2.int (by omega), trivial⟩ (haveV.row rfl rfl (haveV.row (pure_en _) rfl trivial))
  clear ih
  refine VS.of_V T_ok mixed rfl ?_
  have hS := Standing_f l s st a (k : Nat) hl40' how
  have hT := Stipend_f l s st a (k : Nat) hl40' how
  have hS' := Standing_f m' s st a (k : Nat) hl41 how'
  have hT' := Stipend_f m' s st a (k : Nat) hl41 how'
  have hstd := hstd (k : Nat) (by omega)
  have hsti := hsti (k : Nat) (by omega)
  generalize stdP l s st a (k : Nat) = n at hS hstd
  generalize stdP m' s st a (k : Nat) = n' at hS' hstd
  generalize stiP l s st a (k : Nat) = b at hT hsti
  generalize stiP m' s st a (k : Nat) = b' at hT' hsti
  by_cases hkf : f ≤ (k : Int)
  · have h7 := hstd.1 hkf
    clear hstd
    cases b with
    | true =>
      have h8 := hsti rfl
      subst h8
      ((repeat ((conv => whnf); (first | (refine As.pre ?_; first | refine As.mk rfl ?_) | (refine LetV.pre ?_; first | refine LetV.mk (.agg _) rfl ?_) | (refine LetB.pre ?_; first | refine LetB.dect (by omega) ?_ | refine LetB.decf (by omega) ?_) | (refine Gd.pre ?_; first | refine Gd.run rfl ?_ | refine Gd.pass rfl ?_) | (refine Br.pre ?_; first | refine Br.ff rfl ?_) | (refine Ck.pre ?_; first | refine Ck.drawn (by kernel_rfl) ?_ | refine Ck.mk rfl ?_) | (refine CallN.pre ?_; first | refine CallN.pure hS rfl rfl ?_ | refine CallN.pure hT rfl rfl ?_ | refine CallN.lend hS' rfl (.full rfl hpm hml1 (.same rfl (.same rfl (.same rfl (.same rfl .nil))))) ?_ | refine CallN.lend hT' rfl (.full rfl hpm hml1 (.same rfl (.same rfl (.same rfl (.same rfl .nil))))) ?_)))); (try (conv => whnf)))




      exact ⟨rfl, (), trivial, SW.mk id rfl (moN ..) (moB ..) ⟨.refl _, .refl _, .refl _, .refl _, .refl _, .refl _, .refl _, .refl _, trivial⟩ (haveV.row rfl rfl (haveV.row (pure_en _) rfl trivial))⟩
    | false =>
      ((repeat ((conv => whnf); (first | (refine As.pre ?_; first | refine As.mk rfl ?_) | (refine LetV.pre ?_; first | refine LetV.mk (.agg _) rfl ?_) | (refine LetB.pre ?_; first | refine LetB.dect (by omega) ?_ | refine LetB.decf (by omega) ?_) | (refine Gd.pre ?_; first | refine Gd.run rfl ?_ | refine Gd.pass rfl ?_) | (refine Br.pre ?_; first | refine Br.ff rfl ?_) | (refine Ck.pre ?_; first | refine Ck.drawn (by kernel_rfl) ?_ | refine Ck.mk rfl ?_) | (refine CallN.pre ?_; first | refine CallN.pure hS rfl rfl ?_ | refine CallN.pure hT rfl rfl ?_ | refine CallN.lend hS' rfl (.full rfl hpm hml1 (.same rfl (.same rfl (.same rfl (.same rfl .nil))))) ?_)))); (try (conv => whnf)))




      exact ⟨rfl, (), trivial, SW.mk id rfl (moN ..) (moB ..) ⟨.refl _, .refl _, .refl _, .refl _, .refl _, .refl _, .refl _, .refl _, trivial⟩ (haveV.row rfl rfl (haveV.row (pure_en _) rfl trivial))⟩
  · have h7 := hstd.2 (by omega)
    clear hstd
    cases b with
    | true =>
      have h8 := hsti rfl
      subst h8
      ((repeat ((conv => whnf); (first | (refine As.pre ?_; first | refine As.mk rfl ?_) | (refine LetV.pre ?_; first | refine LetV.mk (.agg _) rfl ?_) | (refine LetB.pre ?_; first | refine LetB.dect (by omega) ?_ | refine LetB.decf (by omega) ?_) | (refine Gd.pre ?_; first | refine Gd.run rfl ?_ | refine Gd.pass rfl ?_) | (refine Br.pre ?_; first | refine Br.ff rfl ?_) | (refine Ck.pre ?_; first | refine Ck.drawn (by kernel_rfl) ?_ | refine Ck.mk rfl ?_) | (refine CallN.pre ?_; first | refine CallN.pure hS rfl rfl ?_ | refine CallN.pure hT rfl rfl ?_ | refine CallN.lend hS' rfl (.full rfl hpm hml1 (.same rfl (.same rfl (.same rfl (.same rfl .nil))))) ?_ | refine CallN.lend hT' rfl (.full rfl hpm hml1 (.same rfl (.same rfl (.same rfl (.same rfl .nil))))) ?_)))); (try (conv => whnf)))




      exact ⟨rfl, (), trivial, SW.mk id rfl (moN ..) (moB ..) ⟨.refl _, .refl _, .refl _, .refl _, .refl _, .refl _, .refl _, .refl _, trivial⟩ (haveV.row rfl rfl (haveV.row (pure_en _) rfl trivial))⟩
    | false =>
      ((repeat ((conv => whnf); (first | (refine As.pre ?_; first | refine As.mk rfl ?_) | (refine LetV.pre ?_; first | refine LetV.mk (.agg _) rfl ?_) | (refine LetB.pre ?_; first | refine LetB.dect (by omega) ?_ | refine LetB.decf (by omega) ?_) | (refine Gd.pre ?_; first | refine Gd.run rfl ?_ | refine Gd.pass rfl ?_) | (refine Br.pre ?_; first | refine Br.ff rfl ?_) | (refine Ck.pre ?_; first | refine Ck.drawn (by kernel_rfl) ?_ | refine Ck.mk rfl ?_) | (refine CallN.pre ?_; first | refine CallN.pure hS rfl rfl ?_ | refine CallN.pure hT rfl rfl ?_ | refine CallN.lend hS' rfl (.full rfl hpm hml1 (.same rfl (.same rfl (.same rfl (.same rfl .nil))))) ?_)))); (try (conv => whnf)))




      exact ⟨rfl, (), trivial, SW.mk id rfl (moN ..) (moB ..) ⟨.refl _, .refl _, .refl _, .refl _, .refl _, .refl _, .refl _, .refl _, trivial⟩ (haveV.row rfl rfl (haveV.row (pure_en _) rfl trivial))⟩
theorem smore_row (x : List Int × Int × Int × Int × Int) (hx : x.1.length ≤ 9223372036854775807) (h1 : 0 ≤ x.2.1 ∧ x.2.1 ≤ 255) (h2 : 0 ≤ x.2.2.1 ∧ x.2.2.1 ≤ 255) (h3 : 0 ≤ x.2.2.2.1 ∧ x.2.2.2.1 ≤ 65535) (h4 : 0 ≤ x.2.2.2.2 ∧ x.2.2.2.2 ≤ 255) (y : Int) (hy : 0 ≤ y ∧ y ≤ 255) (z : Int) (hz : 0 ≤ z ∧ z ≤ 255) :
    AFun Try.prog 6 0 [.agg [.ro {} 1 (x.1.map int), u8' x.2.1, u8' x.2.2.1, u16 x.2.2.2.1, u8' x.2.2.2.2], u8' y, u8' z] [] (bool true) [] := smore x.1 {} hx x.2 h1 h2 h3 h4 y z hy hz
end En
end Go.Proofs.Ytnegdmjmllmclaa
