/- stand: parts of the proof, DstandSI DstandSJ DstandSQ DstandSL DstandSV. -/
import Derived.Test.YtnegdmjmllmclaaL41
set_option linter.all false
namespace Go.Proofs.Ytnegdmjmllmclaa
open Go.Proofs.Ytnegdmjmllmclaa.Am
set_option maxRecDepth 100000
namespace En
/-! ### The sums of the law -/
abbrev scty : TypeId := 29
abbrev stty : TypeId := 59
def inB (st t : Int) (x : St) (e : E) : Bool := decide (e.kind = 3 ∧ e.id = x.entry ∧ e.student = st ∧ e.on_ / 100 = t)
def inF (s : Sc.Scl) (st t : Int) (x : St) (q : Int × Int) (e : E) : Int × Int := if inB st t x e then crS s q (x, e.credits) else q
def suP (l : List E) (s : Sc.Scl) (st a t : Int) : Int × Int := (atP l a (100 * t + 99)).foldl (fun q x => l.foldl (inF s st t x) q) (0, 0)
abbrev su1 (l : List E) (A : List St) (s : Sc.Scl) (st t : Int) (q : Int × Int) (j : Nat) : Fr := [(0, .ro {} 15 (l.map en)), (2, int st), (4, int t), (6, .ptr 0 3 0 0), (12, int q.1), (13, int q.2), (23, .ro {} 4 (A.map stA)), (24, int A.length), (25, int j)]
abbrev suS (l : List E) (A : List St) (s : Sc.Scl) (st t : Int) : Nat × Int × Int → AS
  | (j, q) => ⟨su1 l A s st t q j, [(0, .row 3 scty [Sc.scA s])], 1⟩
abbrev suT (l : List E) (A : List St) (s : Sc.Scl) (st t : Int) (j : Nat) (x : St) : Nat × Int × Int → AS
  | (k, q) => ⟨su1 l A s st t q j ++ [(15, .ptr 1 4 0 0), (29, .ro {} 15 (l.map en)), (30, int l.length), (31, int k)], [(0, .row 3 scty [Sc.scA s]), (1, .row 4 stty [stA x])], 2⟩
theorem suN1 (ok : Nat → Bool) (h : ok 0 = true) (l : List E) (A : List St) (s : Sc.Scl) (st t : Int) (q : Int × Int) (j : Nat) : frNames ok (su1 l A s st t q j) = true := by
  simp only [frNames, AV.names, namesL_none (pure_en l), namesL_none (pure_st A), h]; rfl
theorem suN2 (ok : Nat → Bool) (h : ok 0 = true) (h1 : ok 1 = true) (l : List E) (A : List St) (s : Sc.Scl) (st t : Int) (q : Int × Int) (j k : Nat) : frNames ok (su1 l A s st t q j ++ [(15, .ptr 1 4 0 0), (29, .ro {} 15 (l.map en)), (30, int l.length), (31, int k)]) = true := by
  simp only [List.cons_append, List.nil_append, frNames, AV.names, namesL_none (pure_en l), namesL_none (pure_st A), h, h1]; rfl
set_option maxHeartbeats 3200000 in
set_option maxRecDepth 100000 in
theorem sums_f (l : List E) (s : Sc.Scl) (st a t : Int) (hl : l.length < 40) (ht : 0 ≤ t ∧ t ≤ 1000) (ho : ∀ e ∈ l, 0 ≤ e.on_ ∧ e.on_ ≤ 1000) : AFun Try.prog 21 0 [.ro {} 15 (l.map en), Sc.scA s, int st, int a, int t] [] (.tup [int (suP l s st a t).1, int (suP l s st a t).2]) [] := by
  refine AFun.of_W T_ok mixed Try.func21 rfl (Nat.le_of_ble_eq_true rfl) rfl ?_
  have hA := At_f l a (100 * t + 99) {} hl
  have hlen := atP_len (l := l) a (100 * t + 99)
  rw [suP]
  generalize atP l a (100 * t + 99) = A at hA hlen ⊢
  have hml : (l.map en).length = l.length := List.length_map _
  have hmA : (A.map stA).length = A.length := List.length_map _
  generalize hR : A.foldl (fun q x => l.foldl (inF s st t x) q) (0, 0) = R
  ((repeat ((conv => whnf); (first | (refine LetN.pre ?_; first | ((conv => arg 1; whnf); refine LetN.mk ?_)) | (refine As.pre ?_; first | refine As.mk rfl ?_) | (refine LetI.pre ?_; first | refine LetI.wrap (by omega) (by omega) ?_ | refine LetI.mk _ rfl ?_) | (refine Ck.pre ?_; first | refine Ck.mk rfl ?_) | (refine CallN.pre ?_; first | refine CallN.pure hA rfl rfl ?_)))); (try (conv => whnf)))
  refine LoopN.weak (s1 := suS l A s st t (0, 0, 0)) ?sw1 ?_
  case sw1 => exact SW.mk id rfl (suN1 _ rfl ..) rfl ⟨.refl _, .refl _, .refl _, .refl _, .refl _, .refl _, VLe2.ro_of rfl, VLe2.int (by rw [hmA]), .refl _, trivial⟩ (haveV.one rfl trivial)
  clear hA
  refine LoopN.ind T_ok mixed (S := suS l A s st t) (fun i => A.length - i.1) (fun i => i.1 ≤ A.length ∧ (A.drop i.1).foldl (fun q x => l.foldl (inF s st t x) q) i.2 = R) (fun _ => rfl) (fun i hi ih => ?_) (0, 0, 0) ⟨Nat.zero_le _, hR⟩
  obtain ⟨j, q⟩ := i
  obtain ⟨h1, h2⟩ := hi
  dsimp only at h1 h2
  by_cases hlt : j < A.length
  case neg =>
    clear ih
    rw [List.drop_of_length_le (by omega)] at h2
    dsimp only [List.foldl_nil] at h2
    subst h2
    ((repeat ((conv => whnf); (first | (refine As.pre ?_; first | refine As.mk rfl ?_) | (refine LetB.pre ?_; first | refine LetB.decf (by omega) ?_) | (refine Br.pre ?_; first | refine Br.ff rfl ?_) | (refine Ck.pre ?_; first | refine Ck.mk rfl ?_)))); (try (conv => whnf)))
    exact ⟨.inl rfl, ⟨_, rfl, rfl⟩, trivial⟩
  have hld := stD hlt
  rw [foldl_drop (fun q x => l.foldl (inF s st t x) q) hlt ⟨0, 0, 0, false⟩] at h2
  generalize A.getD j ⟨0, 0, 0, false⟩ = x at hld h2
  have hnx := fun q' (h : (A.drop (j + 1)).foldl (fun q x => l.foldl (inF s st t x) q) q' = R) => ih (j + 1, q') ⟨by show j + 1 ≤ A.length; omega, h⟩ (by show A.length - (j + 1) < A.length - j; omega)
  clear ih hR
  ((repeat ((conv => whnf); (first | (refine LetN.pre ?_; first | ((conv => arg 1; whnf); refine LetN.mk ?_)) | (refine As.pre ?_; first | refine As.mk rfl ?_ | (refine As.mk ?_ ?_; · ((repeat' (refine andT ?_ ?_)) <;> (first | rfl | assumption | exact decide_eq_true (by omega) | exact decide_eq_true (by dsimp only; omega) | exact decide_eq_true (by simp; omega) | (simp; done))))) | (refine LetV.pre ?_; first | refine LetV.mk (t := 56) _ hld ?_ | refine LetV.mk (.agg _) rfl ?_) | (refine LetI.pre ?_; first | refine LetI.mk _ rfl ?_) | (refine LetB.pre ?_; first | refine LetB.dect (by omega) ?_) | (refine Br.pre ?_; first | refine Br.tt rfl ?_) | (refine Ck.pre ?_; first | refine Ck.mk rfl ?_) | (refine LetL.pre ?_; first | refine LetL.mk [_] rfl ?_)))); (try (conv => whnf)))
  clear hld
  refine LoopN.weak (s1 := suT l A s st t j x (0, q)) ?sw2 ?_
  case sw2 => exact SW.mk id rfl (suN2 _ rfl rfl ..) rfl ⟨.refl _, .refl _, .refl _, .refl _, .refl _, .refl _, .refl _, .refl _, .refl _, .refl _, VLe2.ro_of rfl, VLe2.int (by rw [hml]), .refl _, trivial⟩ (haveV.one rfl (haveV.one rfl trivial))
  refine LoopN.ind T_ok mixed (S := suT l A s st t j x) (fun i => l.length - i.1) (fun i => i.1 ≤ l.length ∧ (A.drop (j + 1)).foldl (fun q x => l.foldl (inF s st t x) q) ((l.drop i.1).foldl (inF s st t x) i.2) = R) (fun _ => rfl) (fun i hi ih => ?_) (0, q) ⟨Nat.zero_le _, h2⟩
  clear h2 q
  obtain ⟨k, q⟩ := i
  obtain ⟨h3, h4⟩ := hi
  dsimp only at h3 h4
  by_cases hk : k < l.length
  case neg =>
    clear ih
    rw [List.drop_of_length_le (by omega)] at h4
    have hnx := hnx q h4
    ((repeat ((conv => whnf); (first | (refine As.pre ?_; first | refine As.mk rfl ?_) | (refine LetI.pre ?_; first | refine LetI.wrap (by omega) (by omega) ?_) | (refine LetB.pre ?_; first | refine LetB.decf (by omega) ?_) | (refine Br.pre ?_; first | refine Br.ff rfl ?_) | (refine Ck.pre ?_; first | refine Ck.mk rfl ?_)))); (try (conv => whnf)))
    refine LoopN.weak ?sw3 hnx
    case sw3 => exact SW.mk id rfl (suN1 _ rfl ..) rfl ⟨.refl _, .refl _, .refl _, .refl _, .refl _, .refl _, .refl _, .refl _, VLe2.int (by omega), trivial⟩ (haveV.one rfl trivial)
  clear hnx
  rw [foldl_drop _ hk e0] at h4
  have hle := tmD hk
  have hoe := ho _ (getD_mem' hk)
  generalize l.getD k e0 = e at hle hoe h4
  have hP := Sc.Passed_f s x.grade
  obtain ⟨d, hd⟩ : ∃ d, d = e.on_ / 100 := ⟨_, rfl⟩
  have hq : d = e.on_.tdiv 100 := by rw [hd, Int.tdiv_eq_ediv_of_nonneg hoe.1]
  have hq2 : d = IntKind.i64.wrap (e.on_.tdiv 100) := by rw [← hq, wrap_id (by omega) (by omega)]
  obtain ⟨q', hq'⟩ : ∃ q', q' = inF s st t x q e := ⟨_, rfl⟩
  rw [← hq'] at h4
  have hnx := ih (k + 1, q') ⟨by show k + 1 ≤ l.length; omega, h4⟩ (by show l.length - (k + 1) < l.length - k; omega)
  clear ih h4
  unfold inF inB at hq'
  rw [← hd] at hq'
  clear hd hoe
  obtain ⟨xe, xb, xg, xv⟩ := x
  obtain ⟨p, f⟩ := q
  by_cases c1 : e.kind = 3
  case neg =>
    rw [decide_eq_false (fun h => c1 h.1), if_neg (by decide)] at hq'
    subst hq'
    ((repeat ((conv => whnf); (first | (refine LetN.pre ?_; first | ((conv => arg 1; whnf); refine LetN.mk ?_)) | (refine As.pre ?_; first | refine As.mk rfl ?_ | (refine As.mk ?_ ?_; · ((repeat' (refine andT ?_ ?_)) <;> (first | rfl | assumption | exact decide_eq_true (by omega) | exact decide_eq_true (by dsimp only; omega) | exact decide_eq_true (by simp; omega) | (simp; done))))) | (refine LetV.pre ?_; first | refine LetV.mk (t := 27) _ hle ?_ | refine LetV.mk (.sc (.int _ _)) rfl ?_ | refine LetV.mk (.agg _) rfl ?_) | (refine LetI.pre ?_; first | refine LetI.wrap (by omega) (by omega) ?_) | (refine LetB.pre ?_; first | refine LetB.dect (by omega) ?_ | refine LetB.bnet (by omega) ?_) | (refine Gd.pre ?_; first | refine Gd.pass rfl ?_) | (refine Br.pre ?_; first | refine Br.tt rfl ?_) | (refine Ck.pre ?_; first | refine Ck.mk rfl ?_) | (refine LetL.pre ?_; first | refine LetL.mk [_] rfl ?_)))); (try (conv => whnf)))






    refine LoopN.weak ?swa hnx
    case swa => exact SW.mk id rfl (suN2 _ rfl rfl ..) rfl ⟨.refl _, .refl _, .refl _, .refl _, .refl _, .refl _, .refl _, .refl _, .refl _, .refl _, .refl _, .refl _, VLe2.int (by omega), trivial⟩ (haveV.one rfl (haveV.one rfl trivial))
  by_cases c2 : e.id = xe
  case neg =>
    rw [decide_eq_false (fun h => c2 h.2.1), if_neg (by decide)] at hq'
    subst hq'
    ((repeat ((conv => whnf); (first | (refine LetN.pre ?_; first | ((conv => arg 1; whnf); refine LetN.mk ?_)) | (refine As.pre ?_; first | refine As.mk rfl ?_ | (refine As.mk ?_ ?_; · ((repeat' (refine andT ?_ ?_)) <;> (first | rfl | assumption | exact decide_eq_true (by omega) | exact decide_eq_true (by dsimp only; omega) | exact decide_eq_true (by simp; omega) | (simp; done))))) | (refine LetV.pre ?_; first | refine LetV.mk (t := 27) _ hle ?_ | refine LetV.mk (.sc (.int _ _)) rfl ?_ | refine LetV.mk (.agg _) rfl ?_) | (refine LetI.pre ?_; first | refine LetI.wrap (by omega) (by omega) ?_) | (refine LetB.pre ?_; first | refine LetB.dect (by omega) ?_ | refine LetB.bnet (by omega) ?_ | refine LetB.bnef (by omega) ?_) | (refine Gd.pre ?_; first | refine Gd.run rfl ?_ | refine Gd.pass rfl ?_) | (refine Br.pre ?_; first | refine Br.tt rfl ?_) | (refine Ck.pre ?_; first | refine Ck.mk rfl ?_) | (refine LetL.pre ?_; first | refine LetL.mk [_] rfl ?_)))); (try (conv => whnf)))






    refine LoopN.weak ?swb hnx
    case swb => exact SW.mk id rfl (suN2 _ rfl rfl ..) rfl ⟨.refl _, .refl _, .refl _, .refl _, .refl _, .refl _, .refl _, .refl _, .refl _, .refl _, .refl _, .refl _, VLe2.int (by omega), trivial⟩ (haveV.one rfl (haveV.one rfl trivial))
  by_cases c3 : e.student = st
  case neg =>
    rw [decide_eq_false (fun h => c3 h.2.2.1), if_neg (by decide)] at hq'
    subst hq'
    ((repeat ((conv => whnf); (first | (refine LetN.pre ?_; first | ((conv => arg 1; whnf); refine LetN.mk ?_)) | (refine As.pre ?_; first | refine As.mk rfl ?_ | (refine As.mk ?_ ?_; · ((repeat' (refine andT ?_ ?_)) <;> (first | rfl | assumption | exact decide_eq_true (by omega) | exact decide_eq_true (by dsimp only; omega) | exact decide_eq_true (by simp; omega) | (simp; done))))) | (refine LetV.pre ?_; first | refine LetV.mk (t := 27) _ hle ?_ | refine LetV.mk (.sc (.int _ _)) rfl ?_ | refine LetV.mk (.agg _) rfl ?_) | (refine LetI.pre ?_; first | refine LetI.wrap (by omega) (by omega) ?_) | (refine LetB.pre ?_; first | refine LetB.dect (by omega) ?_ | refine LetB.bnet (by omega) ?_ | refine LetB.bnef (by omega) ?_) | (refine Gd.pre ?_; first | refine Gd.run rfl ?_ | refine Gd.pass rfl ?_) | (refine Br.pre ?_; first | refine Br.tt rfl ?_) | (refine Ck.pre ?_; first | refine Ck.mk rfl ?_) | (refine LetL.pre ?_; first | refine LetL.mk [_] rfl ?_)))); (try (conv => whnf)))






    refine LoopN.weak ?swc hnx
    case swc => exact SW.mk id rfl (suN2 _ rfl rfl ..) rfl ⟨.refl _, .refl _, .refl _, .refl _, .refl _, .refl _, .refl _, .refl _, .refl _, .refl _, .refl _, .refl _, VLe2.int (by omega), trivial⟩ (haveV.one rfl (haveV.one rfl trivial))
  by_cases c4 : d = t
  case neg =>
    rw [decide_eq_false (fun h => c4 h.2.2.2), if_neg (by decide)] at hq'
    subst hq'
    ((repeat ((conv => whnf); (first | (refine LetN.pre ?_; first | ((conv => arg 1; whnf); refine LetN.mk ?_)) | (refine As.pre ?_; first | refine As.mk rfl ?_ | (refine As.mk ?_ ?_; · ((repeat' (refine andT ?_ ?_)) <;> (first | rfl | assumption | exact decide_eq_true (by omega) | exact decide_eq_true (by dsimp only; omega) | exact decide_eq_true (by simp; omega) | (simp; done))))) | (refine LetV.pre ?_; first | refine LetV.mk (t := 27) _ hle ?_ | refine LetV.mk (.sc (.int _ _)) rfl ?_ | refine LetV.mk (.agg _) rfl ?_) | (refine LetI.pre ?_; first | refine LetI.mk (o := some .quo) d hq2 ?_ | refine LetI.wrap (by omega) (by omega) ?_) | (refine LetB.pre ?_; first | refine LetB.dect (by omega) ?_ | refine LetB.bnet (by omega) ?_ | refine LetB.bnef (by omega) ?_) | (refine Gd.pre ?_; first | refine Gd.run rfl ?_) | (refine Br.pre ?_; first | refine Br.tt rfl ?_) | (refine Ck.pre ?_; first | refine Ck.mk rfl ?_) | (refine LetL.pre ?_; first | refine LetL.mk [_] rfl ?_)))); (try (conv => whnf)))






    refine LoopN.weak ?swd hnx
    case swd => exact SW.mk id rfl (suN2 _ rfl rfl ..) rfl ⟨.refl _, .refl _, .refl _, .refl _, .refl _, .refl _, .refl _, .refl _, .refl _, .refl _, .refl _, .refl _, VLe2.int (by omega), trivial⟩ (haveV.one rfl (haveV.one rfl trivial))
  rw [decide_eq_true ⟨c1, c2, c3, c4⟩, if_pos rfl] at hq'
  cases xv with
  | true =>
    have e1 : crS s (p, f) (⟨xe, xb, xg, true⟩, e.credits) = (p, IntKind.i64.wrap (f + e.credits)) := rfl
    rw [e1] at hq'
    subst hq'
    ((repeat ((conv => whnf); (first | (refine LetN.pre ?_; first | ((conv => arg 1; whnf); refine LetN.mk ?_)) | (refine As.pre ?_; first | refine As.mk rfl ?_ | (refine As.mk ?_ ?_; · ((repeat' (refine andT ?_ ?_)) <;> (first | rfl | assumption | exact decide_eq_true (by omega) | exact decide_eq_true (by dsimp only; omega) | exact decide_eq_true (by simp; omega) | (simp; done))))) | (refine LetV.pre ?_; first | refine LetV.mk (t := 27) _ hle ?_ | refine LetV.mk (.sc (.int _ _)) rfl ?_ | refine LetV.mk (.sc (.bool _)) rfl ?_ | refine LetV.mk (.agg _) rfl ?_) | (refine LetI.pre ?_; first | refine LetI.mk (o := some .quo) d hq2 ?_ | refine LetI.mk (o := some .add) (IntKind.i64.wrap (f + e.credits)) rfl ?_ | refine LetI.wrap (by omega) (by omega) ?_) | (refine LetB.pre ?_; first | refine LetB.dect (by omega) ?_ | refine LetB.bnef (by omega) ?_) | (refine Gd.pre ?_; first | refine Gd.run rfl ?_ | refine Gd.pass rfl ?_) | (refine Br.pre ?_; first | refine Br.tt rfl ?_ | refine Br.ff rfl ?_) | (refine Ck.pre ?_; first | refine Ck.mk rfl ?_) | (refine LetL.pre ?_; first | refine LetL.mk [_] rfl ?_)))); (try (conv => whnf)))






    refine LoopN.weak ?swe hnx
    case swe => exact SW.mk id rfl (suN2 _ rfl rfl ..) rfl ⟨.refl _, .refl _, .refl _, .refl _, .refl _, .refl _, .refl _, .refl _, .refl _, .refl _, .refl _, .refl _, VLe2.int (by omega), trivial⟩ (haveV.one rfl (haveV.one rfl trivial))
  | false =>
    by_cases hr : Sc.rea s xg s.2.2
    · have e1 : crS s (p, f) (⟨xe, xb, xg, false⟩, e.credits) = (IntKind.i64.wrap (p + e.credits), f) := by unfold crS psB; rw [decide_eq_true hr]; rfl
      rw [e1] at hq'
      rw [decide_eq_true hr] at hP
      subst hq'
      ((repeat ((conv => whnf); (first | (refine LetN.pre ?_; first | ((conv => arg 1; whnf); refine LetN.mk ?_)) | (refine As.pre ?_; first | refine As.mk rfl ?_ | (refine As.mk ?_ ?_; · ((repeat' (refine andT ?_ ?_)) <;> (first | rfl | assumption | exact decide_eq_true (by omega) | exact decide_eq_true (by dsimp only; omega) | exact decide_eq_true (by simp; omega) | (simp; done))))) | (refine LetV.pre ?_; first | refine LetV.mk (t := 27) _ hle ?_ | refine LetV.mk (.sc (.int _ _)) rfl ?_ | refine LetV.mk (.sc (.bool _)) rfl ?_ | refine LetV.mk (.agg _) rfl ?_) | (refine LetI.pre ?_; first | refine LetI.mk (o := some .quo) d hq2 ?_ | refine LetI.mk (o := some .add) (IntKind.i64.wrap (p + e.credits)) rfl ?_ | refine LetI.wrap (by omega) (by omega) ?_) | (refine LetB.pre ?_; first | refine LetB.dect (by omega) ?_ | refine LetB.bnef (by omega) ?_) | (refine Gd.pre ?_; first | refine Gd.run rfl ?_) | (refine Br.pre ?_; first | refine Br.tt rfl ?_ | refine Br.ff rfl ?_) | (refine Ck.pre ?_; first | refine Ck.mk rfl ?_) | (refine LetL.pre ?_; first | refine LetL.mk [_] rfl ?_) | (refine CallN.pre ?_; first | refine CallN.pure hP rfl rfl ?_)))); (try (conv => whnf)))






      refine LoopN.weak ?swf hnx
      case swf => exact SW.mk id rfl (suN2 _ rfl rfl ..) rfl ⟨.refl _, .refl _, .refl _, .refl _, .refl _, .refl _, .refl _, .refl _, .refl _, .refl _, .refl _, .refl _, VLe2.int (by omega), trivial⟩ (haveV.one rfl (haveV.one rfl trivial))
    · have e1 : crS s (p, f) (⟨xe, xb, xg, false⟩, e.credits) = (p, IntKind.i64.wrap (f + e.credits)) := by unfold crS psB; rw [decide_eq_false hr]; rfl
      rw [e1] at hq'
      rw [decide_eq_false hr] at hP
      subst hq'
      ((repeat ((conv => whnf); (first | (refine LetN.pre ?_; first | ((conv => arg 1; whnf); refine LetN.mk ?_)) | (refine As.pre ?_; first | refine As.mk rfl ?_ | (refine As.mk ?_ ?_; · ((repeat' (refine andT ?_ ?_)) <;> (first | rfl | assumption | exact decide_eq_true (by omega) | exact decide_eq_true (by dsimp only; omega) | exact decide_eq_true (by simp; omega) | (simp; done))))) | (refine LetV.pre ?_; first | refine LetV.mk (t := 27) _ hle ?_ | refine LetV.mk (.sc (.int _ _)) rfl ?_ | refine LetV.mk (.sc (.bool _)) rfl ?_ | refine LetV.mk (.agg _) rfl ?_) | (refine LetI.pre ?_; first | refine LetI.mk (o := some .quo) d hq2 ?_ | refine LetI.mk (o := some .add) (IntKind.i64.wrap (f + e.credits)) rfl ?_ | refine LetI.wrap (by omega) (by omega) ?_) | (refine LetB.pre ?_; first | refine LetB.dect (by omega) ?_ | refine LetB.bnef (by omega) ?_) | (refine Gd.pre ?_; first | refine Gd.run rfl ?_) | (refine Br.pre ?_; first | refine Br.tt rfl ?_ | refine Br.ff rfl ?_) | (refine Ck.pre ?_; first | refine Ck.mk rfl ?_) | (refine LetL.pre ?_; first | refine LetL.mk [_] rfl ?_) | (refine CallN.pre ?_; first | refine CallN.pure hP rfl rfl ?_)))); (try (conv => whnf)))






      refine LoopN.weak ?swg hnx
      case swg => exact SW.mk id rfl (suN2 _ rfl rfl ..) rfl ⟨.refl _, .refl _, .refl _, .refl _, .refl _, .refl _, .refl _, .refl _, .refl _, .refl _, .refl _, .refl _, VLe2.int (by omega), trivial⟩ (haveV.one rfl (haveV.one rfl trivial))
end En
end Go.Proofs.Ytnegdmjmllmclaa
namespace Go.Proofs.Ytnegdmjmllmclaa
open Go.Proofs.Ytnegdmjmllmclaa.Am
set_option maxRecDepth 100000
namespace En
/-! ### Grades of a term, by entries -/
theorem fidx_find {α : Type} (p : α → Bool) (d : α) : ∀ (l : List α) (k : Nat), (fidx p l k < 0 ∧ l.find? p = none) ∨ ∃ i, i < l.length ∧ fidx p l k = ((k + i : Nat) : Int) ∧ l.find? p = some (l.getD i d)
  | [], _ => .inl ⟨by simp [fidx], rfl⟩
  | x :: l, k => by
    simp only [fidx]
    by_cases h : p x = true
    · rw [if_pos h]
      exact .inr ⟨0, by simp, rfl, by rw [List.find?_cons_of_pos h]; rfl⟩
    · rw [if_neg h, List.find?_cons_of_neg h]
      rcases fidx_find p d l (k + 1) with h1 | ⟨i, h1, h2, h3⟩
      · exact .inl h1
      · exact .inr ⟨i + 1, by simpa using h1, by rw [h2]; omega, by rw [h3]; rfl⟩
theorem gsel_find (l : List E) (st t : Int) (x : St) : gsel l st t x = (l.find? (isG x.entry)).bind fun e => if e.student = st ∧ e.on_ / 100 = t then some (x, e.credits) else none := by
  unfold gsel
  rcases fidx_find (isG x.entry) e0 l 0 with ⟨h1, h2⟩ | ⟨i, h1, h2, h3⟩
  · rw [if_pos h1, h2]; rfl
  · rw [h2, h3, if_neg (by omega)]
    have : ((0 + i : Nat) : Int).toNat = i := by omega
    rw [this]; rfl
theorem inF_none {s : Sc.Scl} {st t : Int} {x : St} : ∀ {l : List E} (q : Int × Int), (∀ e ∈ l, e.id ≠ x.entry) → l.foldl (inF s st t x) q = q
  | [], _, _ => rfl
  | e :: l, q, h => by
    have h1 : inF s st t x q e = q := by
      unfold inF inB
      rw [decide_eq_false (fun hh => h e (List.mem_cons_self ..) hh.2.1), if_neg (by decide)]
    rw [List.foldl_cons, h1]
    exact inF_none q fun e he => h e (List.mem_cons_of_mem _ he)
theorem inF_find {s : Sc.Scl} {st t : Int} {x : St} : ∀ {l : List E} (q : Int × Int), up l → l.foldl (inF s st t x) q = match ((l.find? (isG x.entry)).bind fun e => if e.student = st ∧ e.on_ / 100 = t then some (x, e.credits) else none) with | some y => crS s q y | none => q
  | [], _, _ => rfl
  | e :: l, q, h => by
    obtain ⟨h1, h2⟩ := List.pairwise_cons.1 h
    rw [List.foldl_cons]
    by_cases hg : e.kind = 3 ∧ e.id = x.entry
    · rw [List.find?_cons_of_pos (show isG x.entry e = true from decide_eq_true hg), inF_none _ fun e' he' => by have := h1 e' he'; omega]
      unfold inF inB
      by_cases c : e.student = st ∧ e.on_ / 100 = t
      · rw [decide_eq_true ⟨hg.1, hg.2, c.1, c.2⟩, if_pos rfl]
        show _ = match (if e.student = st ∧ e.on_ / 100 = t then some (x, e.credits) else none) with | some y => crS s q y | none => q
        rw [if_pos c]
      · rw [decide_eq_false (fun hh => c ⟨hh.2.2.1, hh.2.2.2⟩), if_neg (by decide)]
        show _ = match (if e.student = st ∧ e.on_ / 100 = t then some (x, e.credits) else none) with | some y => crS s q y | none => q
        rw [if_neg c]
    · rw [List.find?_cons_of_neg (show ¬ isG x.entry e = true from fun hh => hg (of_decide_eq_true hh))]
      have h1 : inF s st t x q e = q := by
        unfold inF inB
        rw [decide_eq_false (fun hh => hg ⟨hh.1, hh.2.1⟩), if_neg (by decide)]
      rw [h1]
      exact inF_find q h2
theorem suP_eq {l : List E} (h : up l) (s : Sc.Scl) (st a t : Int) : suP l s st a t = crP s (grdP l st a t) := by
  unfold suP crP grdP
  rw [List.foldl_filterMap]
  congr 1
  funext q x
  rw [inF_find q h, gsel_find]
  cases (List.find? (isG x.entry) l).bind fun e => if e.student = st ∧ e.on_ / 100 = t then some (x, e.credits) else none <;> rfl
theorem up_id {l : List E} (h : up l) {a b : E} (ha : a ∈ l) (hb : b ∈ l) (e : a.id = b.id) : a = b := by
  obtain ⟨i, hi, rfl⟩ := List.mem_iff_getElem.1 ha
  obtain ⟨j, hj, rfl⟩ := List.mem_iff_getElem.1 hb
  have hp := List.pairwise_iff_getElem.1 h
  rcases Nat.lt_trichotomy i j with h1 | h1 | h1
  · have := hp i j hi hj h1; omega
  · subst h1; rfl
  · have := hp j i hj hi h1; omega
theorem find_up {l : List E} (h : up l) {g : E} (hg : g ∈ l) (hk : g.kind = 3) : l.find? (isG g.id) = some g := by
  cases hf : l.find? (isG g.id) with
  | none => exact absurd (decide_eq_true ⟨hk, rfl⟩) (List.find?_eq_none.1 hf g hg)
  | some e =>
    have h1 := List.find?_some hf
    have h2 := of_decide_eq_true h1
    rw [up_id h (List.mem_of_find?_eq_some hf) hg h2.2]
/-- The grades of a student and a term that count. -/
def tgB (st a t : Int) (g : E) : Bool := decide (g.kind = 3 ∧ g.day ≤ a ∧ g.on_ ≤ 100 * t + 99 ∧ g.student = st ∧ g.on_ / 100 = t)
theorem grd_up {l : List E} (h : up l) (st a t : Int) : grdP l st a t = (l.filter (tgB st a t)).map fun g => (stS l a (100 * t + 99) g, g.credits) := by
  rw [grdP, atP_up h, List.filterMap_map]
  have : ∀ L : List E, (∀ g ∈ L, g ∈ l) → List.filterMap (gsel l st t ∘ stS l a (100 * t + 99)) (L.filter (grB a (100 * t + 99))) = (L.filter (tgB st a t)).map fun g => (stS l a (100 * t + 99) g, g.credits) := by
    intro L hL
    induction L with
    | nil => rfl
    | cons g L ih =>
      have ih := ih fun x hx => hL x (List.mem_cons_of_mem _ hx)
      by_cases hg : g.kind = 3 ∧ g.day ≤ a ∧ g.on_ ≤ 100 * t + 99
      · rw [List.filter_cons_of_pos (show grB a (100 * t + 99) g = true from decide_eq_true hg), List.filterMap_cons]
        have e : (gsel l st t ∘ stS l a (100 * t + 99)) g = if g.student = st ∧ g.on_ / 100 = t then some (stS l a (100 * t + 99) g, g.credits) else none := by
          show gsel l st t (stS l a (100 * t + 99) g) = _
          rw [gsel_find]
          have : (stS l a (100 * t + 99) g).entry = g.id := rfl
          rw [this, find_up h (hL g (List.mem_cons_self ..)) hg.1]; rfl
        rw [e]
        by_cases c : g.student = st ∧ g.on_ / 100 = t
        · rw [if_pos c, List.filter_cons_of_pos (show tgB st a t g = true from decide_eq_true ⟨hg.1, hg.2.1, hg.2.2, c.1, c.2⟩), List.map_cons, ih]
        · rw [if_neg c, List.filter_cons_of_neg (by unfold tgB; rw [decide_eq_false (fun hh => c hh.2.2.2)]; decide), ih]
      · rw [List.filter_cons_of_neg (show ¬ grB a (100 * t + 99) g = true from fun hh => hg (of_decide_eq_true hh)), List.filter_cons_of_neg (by unfold tgB; rw [decide_eq_false (fun hh => hg ⟨hh.1, hh.2.1, hh.2.2.1⟩)]; decide), ih]
  exact this l fun _ hg => hg
theorem foldl_min_le : ∀ (l : List Int) (x : Int), l.foldl min x ≤ x ∧ (∀ y ∈ l, l.foldl min x ≤ y) ∧ (l.foldl min x = x ∨ l.foldl min x ∈ l)
  | [], x => ⟨Int.le_refl _, fun _ h => absurd h List.not_mem_nil, .inl rfl⟩
  | z :: l, x => by
    obtain ⟨h1, h2, h3⟩ := foldl_min_le l (min x z)
    refine ⟨by rw [List.foldl_cons]; omega, fun y hy => ?_, ?_⟩
    · rw [List.foldl_cons]
      rcases List.mem_cons.1 hy with rfl | hy
      · omega
      · exact h2 y hy
    · rw [List.foldl_cons]
      rcases h3 with h3 | h3
      · rw [h3]
        by_cases hc : x ≤ z
        · left; omega
        · right; exact List.mem_cons.2 (.inl (by omega))
      · right; exact List.mem_cons_of_mem _ h3
theorem foldl_max_ge : ∀ (l : List Int) (x : Int), x ≤ l.foldl max x ∧ (∀ y ∈ l, y ≤ l.foldl max x)
  | [], x => ⟨Int.le_refl _, fun _ h => absurd h List.not_mem_nil⟩
  | z :: l, x => by
    obtain ⟨h1, h2⟩ := foldl_max_ge l (max x z)
    refine ⟨by rw [List.foldl_cons]; omega, fun y hy => ?_⟩
    rw [List.foldl_cons]
    rcases List.mem_cons.1 hy with rfl | hy
    · omega
    · exact h2 y hy
theorem minP_mem {l : List Int} (h : l ≠ []) : minP l ∈ l ∧ ∀ y ∈ l, minP l ≤ y := by
  cases l with
  | nil => exact absurd rfl h
  | cons x l =>
    obtain ⟨h1, h2, h3⟩ := foldl_min_le l x
    refine ⟨?_, fun y hy => ?_⟩
    · rcases h3 with h3 | h3
      · exact List.mem_cons.2 (.inl h3)
      · exact List.mem_cons_of_mem _ h3
    · rcases List.mem_cons.1 hy with rfl | hy
      · exact h1
      · exact h2 y hy
theorem maxP_ge {l : List Int} : ∀ y ∈ l, y ≤ maxP l := by
  cases l with
  | nil => exact fun _ h => absurd h List.not_mem_nil
  | cons x l =>
    obtain ⟨h1, h2⟩ := foldl_max_ge l x
    intro y hy
    rcases List.mem_cons.1 hy with rfl | hy
    · exact h1
    · exact h2 y hy
/-- Terms of entries with days from 0 on. -/
abbrev okO (l : List E) : Prop := ∀ e ∈ l, 0 ≤ e.on_ ∧ e.on_ ≤ 1000
theorem M10.okO {sc day : Int} {l : List E} (h : M10 sc day l) (hd : day ≤ 1000) : okO l := fun e he => by
  have h1 := (h.ok e he).day
  have h2 := (h.ok e he).on
  omega
theorem trm_nn {l : List E} (ho : okO l) {st a x : Int} (hx : x ∈ trmP l st a) : 0 ≤ x ∧ x ≤ 10 := by
  obtain ⟨e, he, rfl⟩ := List.mem_map.1 hx
  have := ho e (List.mem_filter.1 he).1
  omega
theorem grd_nil {l : List E} (h : up l) {st a t : Int} (hx : t ∉ trmP l st a) : grdP l st a t = [] := by
  rw [grd_up h]
  have : l.filter (tgB st a t) = [] := List.filter_eq_nil_iff.2 fun g hg hh => by
    have hh := of_decide_eq_true hh
    exact hx (List.mem_map.2 ⟨g, List.mem_filter.2 ⟨hg, decide_eq_true ⟨hh.1, hh.2.2.2.1, hh.2.1⟩⟩, hh.2.2.2.2⟩)
  rw [this]; rfl
theorem stdL_b (l : List E) (s : Sc.Scl) (st a f : Int) : ∀ k, 0 ≤ stdL l s st a f k ∧ stdL l s st a f k ≤ 3
  | 0 => ⟨Int.le_refl _, Int.le_of_lt (by show (0 : Int) < 3; decide)⟩
  | k + 1 => by
    rw [stdL]; unfold stdS
    split
    · omega
    · split <;> omega
theorem std_skip {l : List E} {s : Sc.Scl} {st a t : Int} (h : trmP l st a = [] ∨ t < minP (trmP l st a) ∨ 100 * t + 99 > a) : stdP l s st a t = 0 := by
  unfold stdP
  rw [if_pos]
  rcases h with h | h | h
  · exact .inl h
  · exact .inr (.inr h)
  · exact .inr (.inl (decide_eq_false fun hh => by omega))
theorem std_go {l : List E} {s : Sc.Scl} {st a t : Int} (ho : okO l) (h : trmP l st a ≠ []) (h1 : minP (trmP l st a) ≤ t) (h2 : 100 * t + 99 ≤ a) (h3 : t ≤ 1000) :
    stdP l s st a t = stdS (crP s (grdP l st a t)) (stdL l s st a (minP (trmP l st a)) (t - minP (trmP l st a)).toNat) := by
  have h0 := (trm_nn ho (minP_mem h).1).1
  unfold stdP
  have hf : fstP l st a = minP (trmP l st a) := by unfold fstP; omega
  rw [if_neg, hf]
  · generalize minP (trmP l st a) = f at h0 h1 ⊢
    have e1 : (t - f + 1).toNat = (t - f).toNat + 1 := by omega
    have e2 : f + ((t - f).toNat : Int) = t := by omega
    rw [e1, stdL, e2]
  · rintro (hh | hh | hh)
    · exact h hh
    · have := of_decide_eq_false hh; omega
    · omega
/-! ### The law of bad terms -/
/-- What the law keeps: the standing before. -/
def badI (l : List E) (s : Sc.Scl) (st a : Int) (t : Int) (b : Int) : Prop :=
  (0 ≤ b ∧ b ≤ 3) ∧ (trmP l st a ≠ [] → (t ≤ minP (trmP l st a) → b = 0) ∧ (minP (trmP l st a) ≤ t → (t = minP (trmP l st a) ∨ 100 * (t - 1) + 99 ≤ a) → b = stdL l s st a (minP (trmP l st a)) (t - minP (trmP l st a)).toNat))
theorem bad0 {l : List E} (s : Sc.Scl) {st a : Int} (ho : okO l) : badI l s st a 0 0 := ⟨by decide, fun h => ⟨fun _ => rfl, fun h1 _ => by
  have := (trm_nn ho (minP_mem h).1).1
  have e : minP (trmP l st a) = 0 := by omega
  rw [e]; rfl⟩⟩
theorem bad_skip {l : List E} {s : Sc.Scl} {st a t b : Int} (h : badI l s st a t b) (hs : trmP l st a = [] ∨ t < minP (trmP l st a) ∨ 100 * t + 99 > a) : badI l s st a (t + 1) b := by
  refine ⟨h.1, fun hn => ⟨fun h1 => (h.2 hn).1 (by omega), fun h1 h2 => ?_⟩⟩
  by_cases hs' : t < minP (trmP l st a)
  · rw [(h.2 hn).1 (by omega)]
    have e : (t + 1 - minP (trmP l st a)).toNat = 0 := by omega
    rw [e]; rfl
  rcases hs with hs | hs | hs
  · exact absurd hs hn
  · exact absurd hs hs'
  · exfalso; omega
theorem bad_go {l : List E} {s : Sc.Scl} {st a t b : Int} (ho : okO l) (h : badI l s st a t b) (hn : trmP l st a ≠ []) (h1 : minP (trmP l st a) ≤ t) (h2 : 100 * t + 99 ≤ a) (h3 : t ≤ 1000) :
    stdP l s st a t = stdS (crP s (grdP l st a t)) b ∧ badI l s st a (t + 1) (stdP l s st a t) := by
  have hb := (h.2 hn).2 h1 (.inr (by omega))
  have e := std_go (s := s) ho hn h1 h2 h3
  rw [← hb] at e
  refine ⟨e, ?_, fun _ => ⟨fun hh => by omega, fun _ _ => ?_⟩⟩
  · rw [e]; unfold stdS
    split
    · omega
    · split <;> omega
  · have e1 : (t + 1 - minP (trmP l st a)).toNat = (t - minP (trmP l st a)).toNat + 1 := by omega
    have e2 : minP (trmP l st a) + ((t - minP (trmP l st a)).toNat : Int) = t := by omega
    rw [e, e1, stdL, e2, hb]
theorem bad_last {l : List E} {s : Sc.Scl} {st a t : Int} (h : up l) (hl : maxP (trmP l st a) < t) : crP s (grdP l st a t) = (0, 0) := by
  rw [grd_nil h]; · rfl
  intro hx
  have := maxP_ge _ hx
  omega
theorem min_le_max {l : List Int} (h : l ≠ []) : minP l ≤ maxP l := maxP_ge _ (minP_mem h).1
end En
end Go.Proofs.Ytnegdmjmllmclaa
namespace Go.Proofs.Ytnegdmjmllmclaa
open Go.Proofs.Ytnegdmjmllmclaa.Am
set_option maxRecDepth 100000
namespace En
/-! ### One grade more -/
theorem lifted_app (R : List E) (e : E) (he : e.kind = 3) (f a o : Int) : liftedP (R ++ [e]) f a o = liftedP R f a o := by
  unfold liftedP
  rw [List.any_append]
  have : ([e].any fun e => decide (e.kind = 6) && decide (e.ref = f) && decide (e.day ≤ a ∧ e.on_ ≤ o)) = false := by
    rw [List.any_cons, decide_eq_false (fun h : e.kind = 6 => by omega)]; rfl
  rw [this, Bool.or_false]
theorem chos_app (R : List E) (e : E) (he : e.kind = 3) (k r : Int) (hk : k ≠ 3) : chos (R ++ [e]) [cOf k, cTo r] = chos R [cOf k, cTo r] := by
  unfold chos
  rw [List.filter_append]
  have : [e].filter (fun e => [cOf k, cTo r].all (·.p e)) = [] := List.filter_eq_nil_iff.2 fun x hx hh => by
    rw [List.mem_singleton.1 hx] at hh
    have := (Bool.and_eq_true _ _ ▸ hh : _ ∧ _).1
    exact hk ((of_decide_eq_true this).symm.trans he)
  rw [this, List.append_nil]
theorem stand_app (R : List E) (e : E) (he : e.kind = 3) (a o : Int) (g : E) : stand (R ++ [e]) a o g = stand R a o g := by
  unfold stand corr voidP
  rw [chos_app R e he 4 _ (by decide), chos_app R e he 5 _ (by decide)]
  have : (fun f : E => !liftedP (R ++ [e]) f.id a o) = fun f => !liftedP R f.id a o := by
    funext f; rw [lifted_app R e he]
  rw [this]
theorem up_app {l : List E} {e : E} (h : up l) (hi : ∀ x ∈ l, x.id < e.id) : up (l ++ [e]) :=
  List.pairwise_append.2 ⟨h, List.pairwise_singleton _ _, fun x hx y hy => by rw [List.mem_singleton.1 hy]; exact hi x hx⟩
theorem stS_app {l : List E} {e : E} (h : up l) (hi : ∀ x ∈ l, x.id < e.id) (he : e.kind = 3) (a o : Int) (g : E) : stS (l ++ [e]) a o g = stS l a o g := by
  show stand (atR (l ++ [e]) a o) a o g = stand (atR l a o) a o g
  rw [atR_up (up_app h hi), atR_up h, List.filter_append]
  by_cases c : cntB a o e = true
  · rw [List.filter_cons_of_pos c]
    exact stand_app _ e he a o g
  · rw [List.filter_cons_of_neg c]
    simp
/-- A grade that nothing refers to. -/
theorem stS_free {l : List E} {e : E} (h : up l) (hr : ∀ x ∈ l, refsK x.kind → x.ref ≠ e.id) (a o : Int) : stS l a o e = ⟨e.id, 0, e.grade, false⟩ := by
  show stand (atR l a o) a o e = _
  rw [atR_up h]
  have hn : ∀ k, refsK k → chos (l.filter (cntB a o)) [cOf k, cTo e.id] = [] := fun k hk => List.filter_eq_nil_iff.2 fun x hx hh => by
    have h1 := (Bool.and_eq_true _ _ ▸ hh : _ ∧ _)
    have h2 := of_decide_eq_true h1.1
    have h3 := (Bool.and_eq_true _ _ ▸ h1.2 : _ ∧ _).1
    exact hr x (List.mem_filter.1 hx).1 (h2 ▸ hk) (of_decide_eq_true h3)
  unfold stand corr voidP
  rw [hn 4 (.inl rfl), hn 5 (.inr (.inl rfl))]
  rfl
theorem M10.mem_ref {sc day : Int} {l : List E} (h : M10 sc day l) : ∀ x ∈ l, refsK x.kind → ∃ y ∈ l, y.id = x.ref ∧ y.student = x.student ∧ y.kind = tgt x.kind ∧ y.on_ ≤ x.on_ := fun x hx hk => by
  obtain ⟨i, hi, rfl⟩ := List.mem_iff_getElem.1 hx
  have e : l.getD i e0 = l[i] := by rw [List.getD_eq_getElem?_getD, List.getElem?_eq_getElem hi]; rfl
  obtain ⟨j, hj, h1, h2, h3, h4⟩ := h.refs i hi (e ▸ hk)
  rw [e] at h1 h2 h3 h4
  exact ⟨l.getD j e0, getD_mem' (by omega), h1, h2, h3, h4⟩
theorem grd_app {l : List E} {e : E} (h : up l) (hi : ∀ x ∈ l, x.id < e.id) (he : e.kind = 3) (hr : ∀ x ∈ l, refsK x.kind → x.ref ≠ e.id) (st a t : Int) :
    grdP (l ++ [e]) st a t = grdP l st a t ++ if tgB st a t e then [(⟨e.id, 0, e.grade, false⟩, e.credits)] else [] := by
  rw [grd_up (up_app h hi), grd_up h, List.filter_append, List.map_append]
  congr 1
  · exact List.map_congr_left fun g _ => by rw [stS_app h hi he]
  · by_cases c : tgB st a t e = true
    · rw [List.filter_cons_of_pos c, if_pos c]
      show [(stS (l ++ [e]) a (100 * t + 99) e, e.credits)] = _
      rw [stS_app h hi he, stS_free h hr]
    · rw [List.filter_cons_of_neg c, if_neg c]; rfl
theorem crP_app (s : Sc.Scl) (L M : List (St × Int)) : crP s (L ++ M) = M.foldl (crS s) (crP s L) := List.foldl_append ..
theorem crF_b (s : Sc.Scl) : ∀ (L : List (St × Int)) (q : Int × Int), (∀ y ∈ L, 0 ≤ y.2 ∧ y.2 ≤ 100) → L.length ≤ 1000 → (0 ≤ q.1 ∧ q.1 + 100 * L.length ≤ 1000000) → (0 ≤ q.2 ∧ q.2 + 100 * L.length ≤ 1000000) →
    (q.1 ≤ (L.foldl (crS s) q).1 ∧ (L.foldl (crS s) q).1 ≤ q.1 + 100 * L.length) ∧ (q.2 ≤ (L.foldl (crS s) q).2 ∧ (L.foldl (crS s) q).2 ≤ q.2 + 100 * L.length)
  | [], q, _, _, _, _ => by simp
  | y :: L, q, h, hl, h1, h2 => by
    have hy := h y (List.mem_cons_self ..)
    rw [List.length_cons] at h1 h2 hl ⊢
    rw [List.foldl_cons]
    have hq : (crS s q y = (q.1 + y.2, q.2) ∨ crS s q y = (q.1, q.2 + y.2)) := by
      unfold crS
      split
      · left; rw [wrap_id (by omega) (by omega)]
      · right; rw [wrap_id (by omega) (by omega)]
    have h3 := crF_b s L (crS s q y) (fun z hz => h z (List.mem_cons_of_mem _ hz)) (by omega)
    rcases hq with hq | hq
    · rw [hq] at h3 ⊢
      have := h3 (by dsimp only; omega) (by dsimp only; omega)
      dsimp only at this
      omega
    · rw [hq] at h3 ⊢
      have := h3 (by dsimp only; omega) (by dsimp only; omega)
      dsimp only at this
      omega
abbrev okC (l : List E) : Prop := ∀ e ∈ l, 0 ≤ e.credits ∧ e.credits ≤ 100
theorem grd_cr {l : List E} (h : up l) (hc : okC l) (st a t : Int) : ∀ y ∈ grdP l st a t, 0 ≤ y.2 ∧ y.2 ≤ 100 := fun y hy => by
  rw [grd_up h] at hy
  obtain ⟨g, hg, rfl⟩ := List.mem_map.1 hy
  exact hc g (List.mem_filter.1 hg).1
theorem cr_b {l : List E} (h : up l) (hc : okC l) (hl : l.length ≤ 1000) (s : Sc.Scl) (st a t : Int) : (0 ≤ (crP s (grdP l st a t)).1 ∧ (crP s (grdP l st a t)).1 ≤ 100000) ∧ (0 ≤ (crP s (grdP l st a t)).2 ∧ (crP s (grdP l st a t)).2 ≤ 100000) := by
  have hg := grd_len l st a t
  have := crF_b s (grdP l st a t) (0, 0) (grd_cr h hc st a t) (by omega) (by dsimp only; omega) (by dsimp only; omega)
  unfold crP
  dsimp only at this
  omega
theorem cr_more {l : List E} {e : E} (h : up l) (hi : ∀ x ∈ l, x.id < e.id) (he : e.kind = 3) (hr : ∀ x ∈ l, refsK x.kind → x.ref ≠ e.id) (hc : okC l) (hl : l.length ≤ 1000) (hec : 0 ≤ e.credits ∧ e.credits ≤ 100) (s : Sc.Scl) (hb : Sc.rea s e.grade s.2.2) (st a t : Int) :
    (crP s (grdP (l ++ [e]) st a t)).2 = (crP s (grdP l st a t)).2 ∧ (crP s (grdP l st a t)).1 ≤ (crP s (grdP (l ++ [e]) st a t)).1 := by
  have hb1 := cr_b h hc hl s st a t
  rw [grd_app h hi he hr, crP_app]
  split
  · rw [List.foldl_cons, List.foldl_nil]
    have : crS s (crP s (grdP l st a t)) (⟨e.id, 0, e.grade, false⟩, e.credits) = (IntKind.i64.wrap ((crP s (grdP l st a t)).1 + e.credits), (crP s (grdP l st a t)).2) := by
      unfold crS psB
      dsimp only
      rw [decide_eq_true hb]; rfl
    rw [this, wrap_id (by omega) (by omega)]
    dsimp only
    omega
  · exact ⟨rfl, Int.le_refl _⟩
/-! ### No standing gets worse -/
theorem minP_app {l : List Int} (h : l ≠ []) (x : Int) : minP (l ++ [x]) = min (minP l) x := by
  cases l with
  | nil => exact absurd rfl h
  | cons y l => show (l ++ [x]).foldl min y = _; rw [List.foldl_append]; rfl
theorem trm_app (l : List E) (e : E) (st a : Int) (h : tmB st a e = true) : trmP (l ++ [e]) st a = trmP l st a ++ [e.on_ / 100] := by
  unfold trmP
  rw [List.filter_append, List.filter_cons_of_pos h, List.map_append]; rfl
theorem stdS_one (q : Int × Int) (x : Int) : 1 ≤ stdS q x := by
  unfold stdS
  split
  · omega
  · split <;> omega
theorem stdS_mono {p p' d x x' : Int} (h : p ≤ p') (hx : x' ≤ x ∨ x' ≤ 1) : stdS (p', d) x' ≤ stdS (p, d) x := by
  have h1 := stdS_one (p, d) x
  unfold stdS at h1 ⊢
  dsimp only at h1 ⊢
  by_cases c : d ≤ p'
  · rw [if_pos c]; exact h1
  · rw [if_neg c, if_neg (show ¬ d ≤ p by omega)]
    by_cases c2 : x' ≥ 2
    · rw [if_pos c2, if_pos (by omega)]; omega
    · rw [if_neg c2]
      by_cases c3 : x ≥ 2
      · rw [if_pos c3]; omega
      · rw [if_neg c3]; omega
theorem std_run {s : Sc.Scl} {st a f f' : Int} {l m : List E} (hcr : ∀ t, (crP s (grdP m st a t)).2 = (crP s (grdP l st a t)).2 ∧ (crP s (grdP l st a t)).1 ≤ (crP s (grdP m st a t)).1) (k0 : Nat) (hf : f = f' + k0) (h0 : stdL m s st a f' k0 ≤ 1) : ∀ k, stdL m s st a f' (k0 + k) ≤ stdL l s st a f k ∨ stdL m s st a f' (k0 + k) ≤ 1
  | 0 => .inr h0
  | k + 1 => by
    left
    have ih := std_run hcr k0 hf h0 k
    have e1 : k0 + (k + 1) = (k0 + k) + 1 := rfl
    rw [e1, stdL, stdL]
    have e2 : f' + ((k0 + k : Nat) : Int) = f + (k : Int) := by omega
    rw [e2]
    have := hcr (f + (k : Int))
    generalize crP s (grdP m st a (f + k)) = q' at this ⊢
    generalize crP s (grdP l st a (f + k)) = q at this ⊢
    obtain ⟨p, d⟩ := q
    obtain ⟨p', d'⟩ := q'
    dsimp only at this
    obtain ⟨rfl, hp⟩ := this
    exact stdS_mono hp ih
theorem std_low {s : Sc.Scl} {st a f' : Int} {m : List E} : ∀ k : Nat, (∀ j, j < k → (crP s (grdP m st a (f' + (j : Nat)))).2 ≤ (crP s (grdP m st a (f' + (j : Nat)))).1) → stdL m s st a f' k ≤ 1
  | 0, _ => by show (0 : Int) ≤ 1; decide
  | k + 1, h => by
    rw [stdL]; unfold stdS
    rw [if_pos (h k (Nat.lt_succ_self k))]
    omega
theorem more_std {l : List E} {e : E} (h : up l) (hi : ∀ x ∈ l, x.id < e.id) (he : e.kind = 3) (hr : ∀ x ∈ l, refsK x.kind → x.ref ≠ e.id) (hc : okC l) (hl : l.length ≤ 1000) (hec : 0 ≤ e.credits ∧ e.credits ≤ 100) (s : Sc.Scl) (hb : Sc.rea s e.grade s.2.2) (ho : okO l) (heo : 0 ≤ e.on_ ∧ e.on_ ≤ 1000) (st a : Int) (htm : tmB st a e = true) (hn : trmP l st a ≠ []) (t : Int) (ht : t ≤ 1000) :
    (minP (trmP l st a) ≤ t → stdP (l ++ [e]) s st a t ≤ stdP l s st a t) ∧ (t < minP (trmP l st a) → stdP (l ++ [e]) s st a t ≤ 1) := by
  have hcr := fun t => cr_more h hi he hr hc hl hec s hb st a t
  have hTm := trm_app l e st a htm
  have hn' : trmP (l ++ [e]) st a ≠ [] := by rw [hTm]; simp
  have hmin : minP (trmP (l ++ [e]) st a) = min (minP (trmP l st a)) (e.on_ / 100) := by rw [hTm, minP_app hn]
  have ho' : okO (l ++ [e]) := fun x hx => by
    rcases List.mem_append.1 hx with hx | hx
    · exact ho x hx
    · rw [List.mem_singleton.1 hx]; exact heo
  have hF0 := (trm_nn ho' (minP_mem hn').1).1
  have hle : minP (trmP (l ++ [e]) st a) ≤ minP (trmP l st a) := by omega
  obtain ⟨k0, hk0⟩ : ∃ k0 : Nat, minP (trmP l st a) = minP (trmP (l ++ [e]) st a) + k0 := ⟨(minP (trmP l st a) - minP (trmP (l ++ [e]) st a)).toNat, by omega⟩
  have hlow : ∀ k : Nat, k ≤ k0 → stdL (l ++ [e]) s st a (minP (trmP (l ++ [e]) st a)) k ≤ 1 := fun k hk => std_low k fun j hj => by
    have h1 := hcr (minP (trmP (l ++ [e]) st a) + (j : Nat))
    have h2 : grdP l st a (minP (trmP (l ++ [e]) st a) + (j : Nat)) = [] := grd_nil h fun hx => by
      have := (minP_mem hn).2 _ hx
      omega
    rw [h2] at h1
    have h3 : crP s [] = (0, 0) := rfl
    rw [h3] at h1
    dsimp only at h1
    omega
  by_cases hend : 100 * t + 99 > a
  · rw [std_skip (.inr (.inr hend)), std_skip (.inr (.inr hend))]
    exact ⟨fun _ => Int.le_refl _, fun _ => by decide⟩
  by_cases ht0 : t < minP (trmP (l ++ [e]) st a)
  · rw [std_skip (l := l ++ [e]) (.inr (.inl ht0))]
    refine ⟨fun hh => by omega, fun _ => by decide⟩
  have hgo' := std_go (s := s) ho' hn' (by omega) (by omega) ht
  obtain ⟨k, hk⟩ : ∃ k : Nat, t = minP (trmP (l ++ [e]) st a) + k := ⟨(t - minP (trmP (l ++ [e]) st a)).toNat, by omega⟩
  have e1 : (t - minP (trmP (l ++ [e]) st a)).toNat = k := by omega
  rw [e1] at hgo'
  have e2 : stdP (l ++ [e]) s st a t = stdL (l ++ [e]) s st a (minP (trmP (l ++ [e]) st a)) (k + 1) := by rw [hgo', stdL, ← hk]
  refine ⟨fun hh => ?_, fun hh => ?_⟩
  · have hgo := std_go (s := s) ho hn hh (by omega) ht
    obtain ⟨j, hj⟩ : ∃ j : Nat, t = minP (trmP l st a) + j := ⟨(t - minP (trmP l st a)).toNat, by omega⟩
    have e3 : (t - minP (trmP l st a)).toNat = j := by omega
    rw [e3] at hgo
    have e4 : stdP l s st a t = stdL l s st a (minP (trmP l st a)) (j + 1) := by rw [hgo, stdL, ← hj]
    have hrun := std_run hcr k0 hk0 (hlow k0 (Nat.le_refl _)) (j + 1)
    have e5 : k0 + (j + 1) = k + 1 := by omega
    rw [e5, ← e2, ← e4] at hrun
    rcases hrun with hrun | hrun
    · exact hrun
    · have : 1 ≤ stdP l s st a t := by rw [hgo]; exact stdS_one _ _
      omega
  · rw [e2]
    exact hlow (k + 1) (by omega)
theorem more_sti {l : List E} {e : E} (h : up l) (hi : ∀ x ∈ l, x.id < e.id) (he : e.kind = 3) (hr : ∀ x ∈ l, refsK x.kind → x.ref ≠ e.id) (hc : okC l) (hl : l.length ≤ 1000) (hec : 0 ≤ e.credits ∧ e.credits ≤ 100) (s : Sc.Scl) (hb : Sc.rea s e.grade s.2.2) (ho : okO l) (heo : 0 ≤ e.on_ ∧ e.on_ ≤ 1000) (st a : Int) (htm : tmB st a e = true) (hn : trmP l st a ≠ []) (t : Int) (ht : t ≤ 1000) :
    stiP l s st a t = true → stiP (l ++ [e]) s st a t = true := fun hh => by
  have hh := of_decide_eq_true hh
  have hcr := cr_more h hi he hr hc hl hec s hb st a t
  have hm := more_std h hi he hr hc hl hec s hb ho heo st a htm hn t ht
  have hge : minP (trmP l st a) ≤ t := by
    by_cases c : minP (trmP l st a) ≤ t
    · exact c
    · have := std_skip (l := l) (s := s) (st := st) (a := a) (t := t) (.inr (.inl (by omega)))
      omega
  have hend : ¬ 100 * t + 99 > a := fun c => by
    have := std_skip (l := l) (s := s) (st := st) (a := a) (t := t) (.inr (.inr c))
    omega
  have h1 := hm.1 hge
  have hTm := trm_app l e st a htm
  have hn' : trmP (l ++ [e]) st a ≠ [] := by rw [hTm]; simp
  have hmin : minP (trmP (l ++ [e]) st a) = min (minP (trmP l st a)) (e.on_ / 100) := by rw [hTm, minP_app hn]
  have ho' : okO (l ++ [e]) := fun x hx => by
    rcases List.mem_append.1 hx with hx | hx
    · exact ho x hx
    · rw [List.mem_singleton.1 hx]; exact heo
  have h2 := std_go (s := s) (t := t) ho' hn' (by omega) (by omega) ht
  have h3 := stdS_one (crP s (grdP (l ++ [e]) st a t)) (stdL (l ++ [e]) s st a (minP (trmP (l ++ [e]) st a)) (t - minP (trmP (l ++ [e]) st a)).toNat)
  rw [← h2] at h3
  exact decide_eq_true ⟨by omega, by omega⟩
end En
end Go.Proofs.Ytnegdmjmllmclaa
namespace Go.Proofs.Ytnegdmjmllmclaa
open Go.Proofs.Ytnegdmjmllmclaa.Am
set_option maxRecDepth 100000
namespace En
/-! ### The mean, by entries -/
def inM (st t : Int) (x : St) (q : List Int × List Int) (e : E) : List Int × List Int := if inB st t x e then meS q (x, e.credits) else q
theorem inM_none {st t : Int} {x : St} : ∀ {l : List E} (q : List Int × List Int), (∀ e ∈ l, e.id ≠ x.entry) → l.foldl (inM st t x) q = q
  | [], _, _ => rfl
  | e :: l, q, h => by
    have h1 : inM st t x q e = q := by
      unfold inM inB
      rw [decide_eq_false (fun hh => h e (List.mem_cons_self ..) hh.2.1), if_neg (by decide)]
    rw [List.foldl_cons, h1]
    exact inM_none q fun e he => h e (List.mem_cons_of_mem _ he)
theorem inM_find {st t : Int} {x : St} : ∀ {l : List E} (q : List Int × List Int), up l → l.foldl (inM st t x) q = match ((l.find? (isG x.entry)).bind fun e => if e.student = st ∧ e.on_ / 100 = t then some (x, e.credits) else none) with | some y => meS q y | none => q
  | [], _, _ => rfl
  | e :: l, q, h => by
    obtain ⟨h1, h2⟩ := List.pairwise_cons.1 h
    rw [List.foldl_cons]
    by_cases hg : e.kind = 3 ∧ e.id = x.entry
    · rw [List.find?_cons_of_pos (show isG x.entry e = true from decide_eq_true hg), inM_none _ fun e' he' => by have := h1 e' he'; omega]
      unfold inM inB
      by_cases c : e.student = st ∧ e.on_ / 100 = t
      · rw [decide_eq_true ⟨hg.1, hg.2, c.1, c.2⟩, if_pos rfl]
        show _ = match (if e.student = st ∧ e.on_ / 100 = t then some (x, e.credits) else none) with | some y => meS q y | none => q
        rw [if_pos c]
      · rw [decide_eq_false (fun hh => c ⟨hh.2.2.1, hh.2.2.2⟩), if_neg (by decide)]
        show _ = match (if e.student = st ∧ e.on_ / 100 = t then some (x, e.credits) else none) with | some y => meS q y | none => q
        rw [if_neg c]
    · rw [List.find?_cons_of_neg (show ¬ isG x.entry e = true from fun hh => hg (of_decide_eq_true hh))]
      have h1 : inM st t x q e = q := by
        unfold inM inB
        rw [decide_eq_false (fun hh => hg ⟨hh.1, hh.2.1⟩), if_neg (by decide)]
      rw [h1]
      exact inM_find q h2
def mmP (l : List E) (st a t : Int) : List Int × List Int := (atP l a (100 * t + 99)).foldl (fun q x => l.foldl (inM st t x) q) ([], [])
theorem mmP_eq {l : List E} (h : up l) (st a t : Int) : mmP l st a t = meP (grdP l st a t) := by
  unfold mmP meP grdP
  rw [List.foldl_filterMap]
  congr 1
  funext q x
  rw [inM_find q h, gsel_find]
  cases (List.find? (isG x.entry) l).bind fun e => if e.student = st ∧ e.on_ / 100 = t then some (x, e.credits) else none <;> rfl
theorem meP_eq (L : List (St × Int)) : ∀ q : List Int × List Int, L.foldl meS q = (q.1 ++ (L.filter fun y => !y.1.void).map (·.1.grade), q.2 ++ (L.filter fun y => !y.1.void).map (·.2)) := by
  induction L with
  | nil => intro q; simp
  | cons y L ih =>
    intro q
    rw [List.foldl_cons, ih]
    unfold meS
    cases hv : y.1.void with
    | true => rw [if_pos rfl, List.filter_cons_of_neg (by rw [hv]; decide)]
    | false =>
      rw [if_neg (by decide), List.filter_cons_of_pos (by rw [hv]; rfl)]
      simp
theorem corr_fold : ∀ (L : List E) (x : Int × Int × Int × Bool), (L.foldl stepC x).2.1 = x.2.1 ∨ ∃ c ∈ L, (L.foldl stepC x).2.1 = c.grade
  | [], _ => .inl rfl
  | c :: L, x => by
    rw [List.foldl_cons]
    rcases corr_fold L (stepC x c) with h | ⟨d, hd, h⟩
    · have : (stepC x c).2.1 = x.2.1 ∨ (stepC x c).2.1 = c.grade := by
        unfold stepC
        split
        · exact .inr rfl
        · exact .inl rfl
      rcases this with h2 | h2
      · exact .inl (h.trans h2)
      · exact .inr ⟨c, List.mem_cons_self .., h.trans h2⟩
    · exact .inr ⟨d, List.mem_cons_of_mem _ hd, h⟩
theorem stS_grade {l : List E} (h : up l) (hg : ∀ e ∈ l, 0 ≤ e.grade ∧ e.grade ≤ 100) (a o : Int) {g : E} (hgl : g ∈ l) : 0 ≤ (stS l a o g).grade ∧ (stS l a o g).grade ≤ 100 := by
  show 0 ≤ (corr (atR l a o) g).2.1 ∧ (corr (atR l a o) g).2.1 ≤ 100
  unfold corr
  rcases corr_fold (chos (atR l a o) [cOf 4, cTo g.id]) (0, g.grade, 0, false) with h1 | ⟨c, hc, h1⟩
  · rw [h1]; exact hg g hgl
  · rw [h1]
    have := (List.mem_filter.1 hc).1
    rw [atR_up h] at this
    exact hg c (List.mem_filter.1 this).1
theorem grd_ok {l : List E} (h : up l) (hg : ∀ e ∈ l, 0 ≤ e.grade ∧ e.grade ≤ 100) (hk : ∀ e ∈ l, e.kind = 3 → 1 ≤ e.credits ∧ e.credits ≤ 60) (st a t : Int) : ∀ y ∈ grdP l st a t, (0 ≤ y.1.grade ∧ y.1.grade ≤ 100) ∧ 1 ≤ y.2 ∧ y.2 ≤ 60 := fun y hy => by
  rw [grd_up h] at hy
  obtain ⟨g, hgm, rfl⟩ := List.mem_map.1 hy
  obtain ⟨h1, h2⟩ := List.mem_filter.1 hgm
  exact ⟨stS_grade h hg _ _ h1, hk g h1 (of_decide_eq_true h2).1⟩
/-- What is known of the grades and credits of a term. -/
structure MeOk (gs cs : List Int) : Prop where
  len : gs.length = cs.length
  short : gs.length ≤ 100
  ok : ∀ i, i < gs.length → (0 ≤ gs.getD i 0 ∧ gs.getD i 0 ≤ 100) ∧ 1 ≤ cs.getD i 0 ∧ cs.getD i 0 ≤ 60
theorem me_ok {l : List E} (h : up l) (hg : ∀ e ∈ l, 0 ≤ e.grade ∧ e.grade ≤ 100) (hk : ∀ e ∈ l, e.kind = 3 → 1 ≤ e.credits ∧ e.credits ≤ 60) (hl : l.length ≤ 100) (st a t : Int) : MeOk (meP (grdP l st a t)).1 (meP (grdP l st a t)).2 := by
  have ho := grd_ok h hg hk st a t
  have hn := grd_len l st a t
  generalize grdP l st a t = L at ho hn
  rw [meP, meP_eq]
  simp only [List.nil_append]
  have ho' : ∀ y ∈ L.filter fun y => !y.1.void, (0 ≤ y.1.grade ∧ y.1.grade ≤ 100) ∧ 1 ≤ y.2 ∧ y.2 ≤ 60 := fun y hy => ho y (List.mem_filter.1 hy).1
  have hn' : (L.filter fun y => !y.1.void).length ≤ 100 := Nat.le_trans (List.length_filter_le _ _) (by omega)
  generalize (L.filter fun y => !y.1.void) = M at ho' hn'
  refine ⟨by simp, by simpa using hn', fun i hi => ?_⟩
  rw [List.length_map] at hi
  have := ho' _ (List.getElem_mem hi)
  simpa [List.getD_eq_getElem?_getD, List.getElem?_map, List.getElem?_eq_getElem hi] using this
theorem MeOk.okL {gs cs : List Int} (h : MeOk gs cs) : Sc.okL gs cs gs.length := fun i hi => by
  have := h.ok i hi
  show (-1000 ≤ gs.getD i 0 ∧ gs.getD i 0 ≤ 1000) ∧ 1 ≤ cs.getD i 0 ∧ cs.getD i 0 ≤ 60
  omega
theorem mean_lo {gs cs : List Int} (lo hi : Int) : ∀ k : Nat, (∀ i, i < k → (lo ≤ Sc.gd gs i ∧ Sc.gd gs i ≤ hi) ∧ 0 ≤ Sc.gd cs i) → lo * Sc.sD cs k ≤ Sc.sN gs cs k ∧ Sc.sN gs cs k ≤ hi * Sc.sD cs k
  | 0, _ => by simp [Sc.sN, Sc.sD, Sc.ps]
  | k + 1, h => by
    have ih := mean_lo (gs := gs) (cs := cs) lo hi k fun i hi => h i (by omega)
    have h1 := h k (Nat.lt_succ_self k)
    have e1 : Sc.sN gs cs (k + 1) = Sc.sN gs cs k + Sc.gd gs k * Sc.gd cs k := rfl
    have e2 : Sc.sD cs (k + 1) = Sc.sD cs k + Sc.gd cs k := rfl
    rw [e1, e2, Int.mul_add, Int.mul_add]
    have a1 := Int.mul_le_mul_of_nonneg_right h1.1.1 h1.2
    have a2 := Int.mul_le_mul_of_nonneg_right h1.1.2 h1.2
    omega
theorem rat_spec (N D : Int) (hD : 0 < D) : ∃ g : Int, 0 < g ∧ N = g * (Sc.rat N D).1 ∧ D = g * (Sc.rat N D).2 := by
  have hg : 0 < Nat.gcd N.natAbs D.natAbs := Nat.gcd_pos_of_pos_right _ (by omega)
  have a1 : Nat.gcd N.natAbs D.natAbs * Sc.ofN N D = N.natAbs := Nat.mul_div_cancel' (Nat.gcd_dvd_left _ _)
  have a2 : Nat.gcd N.natAbs D.natAbs * Sc.ofD N D = D.natAbs := Nat.mul_div_cancel' (Nat.gcd_dvd_right _ _)
  refine ⟨(Nat.gcd N.natAbs D.natAbs : Nat), by omega, ?_, ?_⟩
  · unfold Sc.rat
    have b1 : ((Nat.gcd N.natAbs D.natAbs : Nat) : Int) * (Sc.ofN N D : Nat) = N.natAbs := by rw [← Int.natCast_mul, a1]
    rw [decide_eq_false (show ¬ D < 0 by omega)]
    by_cases c : N < 0
    · rw [decide_eq_true c]
      dsimp only
      rw [if_pos (by decide)]
      rw [Int.mul_sub, b1, Int.mul_zero]
      omega
    · rw [decide_eq_false c]
      dsimp only
      rw [if_neg (by decide)]
      rw [b1]
      omega
  · unfold Sc.rat
    dsimp only
    rw [← Int.natCast_mul, a2]
    omega
/-- The mean of a term with grades. -/
theorem mean_ok {gs cs : List Int} (h : MeOk gs cs) (h0 : gs ≠ []) : ∃ n d : Int, Sc.mv gs cs = ((n, d), 0) ∧ (0 ≤ d ∧ d ≤ 6000) ∧ minP gs * d ≤ n ∧ n ≤ maxP gs * d := by
  have hl : 0 < gs.length := List.length_pos_iff.2 h0
  have hm := Sc.mv_ok (gs := gs) (cs := cs) (by have := h.len; omega) (by have := h.short; omega) h.okL
  have hs := Sc.sums_b gs cs gs.length h.okL
  have hb := mean_lo (gs := gs) (cs := cs) (minP gs) (maxP gs) gs.length fun i hi => by
    have h1 := h.ok i hi
    have h2 : gs.getD i 0 ∈ gs := by
      rw [List.getD_eq_getElem?_getD, List.getElem?_eq_getElem hi]; exact List.getElem_mem hi
    exact ⟨⟨(minP_mem h0).2 _ h2, maxP_ge _ h2⟩, by show 0 ≤ cs.getD i 0; omega⟩
  have hD : 0 < Sc.sD cs gs.length := by omega
  obtain ⟨g, hg, e1, e2⟩ := rat_spec (Sc.sN gs cs gs.length) (Sc.sD cs gs.length) hD
  refine ⟨(Sc.rat (Sc.sN gs cs gs.length) (Sc.sD cs gs.length)).1, (Sc.rat (Sc.sN gs cs gs.length) (Sc.sD cs gs.length)).2, hm, ?_, ?_, ?_⟩
  · have h1 : 0 ≤ (Sc.rat (Sc.sN gs cs gs.length) (Sc.sD cs gs.length)).2 := Int.natCast_nonneg _
    refine ⟨h1, ?_⟩
    have h2 := h.short
    have h3 := Int.mul_le_mul_of_nonneg_right (show 1 ≤ g by omega) h1
    rw [← e2, Int.one_mul] at h3
    omega
  · have h1 := hb.1
    rw [e1] at h1
    have h2 : g * (minP gs * (Sc.rat (Sc.sN gs cs gs.length) (Sc.sD cs gs.length)).2) ≤ g * (Sc.rat (Sc.sN gs cs gs.length) (Sc.sD cs gs.length)).1 := by
      rw [← Int.mul_assoc, Int.mul_comm g, Int.mul_assoc, ← e2]; rw [← e1] at h1 ⊢; exact h1
    exact Int.le_of_mul_le_mul_left h2 hg
  · have h1 := hb.2
    have h2 : g * (Sc.rat (Sc.sN gs cs gs.length) (Sc.sD cs gs.length)).1 ≤ g * (maxP gs * (Sc.rat (Sc.sN gs cs gs.length) (Sc.sD cs gs.length)).2) := by
      rw [← Int.mul_assoc g, Int.mul_comm g (maxP gs), Int.mul_assoc, ← e2, ← e1]; exact h1
    exact Int.le_of_mul_le_mul_left h2 hg
theorem ext_b {gs cs : List Int} (h : MeOk gs cs) (h0 : gs ≠ []) : (0 ≤ minP gs ∧ minP gs ≤ 100) ∧ 0 ≤ maxP gs ∧ maxP gs ≤ 100 := by
  have key : ∀ y ∈ gs, 0 ≤ y ∧ y ≤ 100 := fun y hy => by
    obtain ⟨i, hi, rfl⟩ := List.mem_iff_getElem.1 hy
    have := (h.ok i hi).1
    rwa [List.getD_eq_getElem?_getD, List.getElem?_eq_getElem hi] at this
  refine ⟨key _ (minP_mem h0).1, ?_⟩
  cases gs with
  | nil => exact absurd rfl h0
  | cons x gs =>
    have h1 := (foldl_max_ge gs x).1
    have h2 := key x (List.mem_cons_self ..)
    refine ⟨by show 0 ≤ gs.foldl max x; omega, ?_⟩
    show gs.foldl max x ≤ 100
    have : ∀ (L : List Int) (y : Int), (∀ z ∈ L, z ≤ 100) → y ≤ 100 → L.foldl max y ≤ 100 := by
      intro L
      induction L with
      | nil => exact fun _ _ h => h
      | cons z L ih => exact fun y hz hy => ih (max y z) (fun w hw => hz w (List.mem_cons_of_mem _ hw)) (by have := hz z (List.mem_cons_self ..); omega)
    exact this gs x (fun z hz => (key z (List.mem_cons_of_mem _ hz)).2) h2.2
end En
end Go.Proofs.Ytnegdmjmllmclaa
namespace Go.Proofs.Ytnegdmjmllmclaa
open Go.Proofs.Ytnegdmjmllmclaa.Am
set_option maxRecDepth 100000
namespace En
/-! ### StandMeans -/
abbrev mnR (n d : Int) (p f : List Int) : AH := [(0, .row 2 raty [.agg [int n, int d]]), (1, .row 1 3 (p.map int)), (2, .row 1 3 (f.map int))]
abbrev mnB (l : List E) (st a t : Int) (ok : Bool) (P F : Nat) (L : Fr) : Fr := (3, bool true) :: (4, .ro {} 15 (l.map en)) :: (6, int st) :: (7, int a) :: (8, int t) :: (9, .ptr 0 2 0 0) :: (10, bool ok) :: (11, .slm {} 1 1 0 P) :: (12, .slm {} 2 1 0 F) :: L
abbrev mnA (l : List E) (st a t n d : Int) (ok : Bool) (q : List Int × List Int) : AS := ⟨mnB l st a t ok q.1.length q.2.length [], mnR n d q.1 q.2, 3⟩
abbrev mnS (l : List E) (A : List St) (st a t n d : Int) (ok : Bool) : Nat × List Int × List Int → AS
  | (j, p, f) => ⟨mnB l st a t ok p.length f.length [(46, .ro {} 4 (A.map stA)), (47, int A.length), (48, int (j : Nat))], mnR n d p f, 3⟩
abbrev mnT (l : List E) (A : List St) (st a t n d : Int) (ok : Bool) (j : Nat) (x : St) : Nat × List Int × List Int → AS
  | (k, p, f) => ⟨mnB l st a t ok p.length f.length [(46, .ro {} 4 (A.map stA)), (47, int A.length), (48, int (j : Nat)), (14, .ptr 3 4 0 0), (52, .ro {} 15 (l.map en)), (53, int l.length), (54, int (k : Nat))], mnR n d p f ++ [(3, .row 4 stty [stA x])], 4⟩
theorem mnN (ok' : Nat → Bool) (h0 : ok' 0 = true) (h1 : ok' 1 = true) (h2 : ok' 2 = true) (l : List E) (st a t : Int) (ok : Bool) (P F : Nat) (L : Fr) (hL : frNames ok' L = true) : frNames ok' (mnB l st a t ok P F L) = true := by
  simp only [frNames, AV.names, namesL_none (pure_en l), h0, h1, h2, hL]; rfl
theorem mnN1 (ok' : Nat → Bool) (A : List St) (m j : Int) : frNames ok' [(46, .ro {} 4 (A.map stA)), (47, int m), (48, int j)] = true := by
  simp only [frNames, AV.names, namesL_none (pure_st A)]; rfl
theorem mnN2 (ok' : Nat → Bool) (h3 : ok' 3 = true) (l : List E) (A : List St) (m j r k : Int) : frNames ok' [(46, .ro {} 4 (A.map stA)), (47, int m), (48, int j), (14, .ptr 3 4 0 0), (52, .ro {} 15 (l.map en)), (53, int r), (54, int k)] = true := by
  simp only [frNames, AV.names, namesL_none (pure_st A), namesL_none (pure_en l), h3]; rfl
theorem mnH (ok' : Nat → Bool) (n d : Int) (p f : List Int) : namesAll ok' (mnR n d p f) = true := namesAll.row rfl (namesAll.row (pure_int _) (namesAll.row (pure_int _) rfl))
theorem mnH2 (ok' : Nat → Bool) (n d : Int) (p f : List Int) (x : St) : namesAll ok' (mnR n d p f ++ [(3, .row 4 stty [stA x])]) = true := namesAll.row rfl (namesAll.row (pure_int _) (namesAll.row (pure_int _) (namesAll.row rfl rfl)))
def ro56 : Nat → Nat | 1 => 5 | 2 => 6 | 0 => 0 | 3 => 3 | i => i + 10
theorem fold0 {p : List Int} (g : Int → Int → Int) (hg : ∀ x, g x x = x) (x : Int) : (x :: p).foldl g x = p.foldl g x := by
  rw [List.foldl_cons, hg]
abbrev mnU (p : List Int) (n d : Int) : Nat × Int × Int → AS
  | (k, lo, hi) => ⟨[(3, bool true), (9, .ptr 0 2 0 0), (10, bool true), (17, .ptr 2 2 0 0), (18, int 0), (19, int lo), (20, int hi), (130, .slm {} 1 1 0 p.length), (131, int p.length), (132, int (k : Nat))], [(0, .row 2 raty [.agg [int n, int d]]), (1, .row 1 3 (p.map int)), (2, .row 2 raty [.agg [int n, int d]])], 3⟩
abbrev mnV (n d lo hi : Int) : AS := ⟨[(3, bool true), (9, .ptr 0 2 0 0), (10, bool true), (17, .ptr 2 2 0 0), (18, int 0), (19, int lo), (20, int hi)], [(0, .row 2 raty [.agg [int n, int d]]), (2, .row 2 raty [.agg [int n, int d]])], 3⟩
set_option maxHeartbeats 3200000 in
set_option maxRecDepth 100000 in
theorem smeans (xs : List Int) (fl : Fl) (hx : xs.length ≤ 9223372036854775807) (q : Int × Int × Int × Int) (h1 : 0 ≤ q.1 ∧ q.1 ≤ 255) (h2 : 0 ≤ q.2.1 ∧ q.2.1 ≤ 255) (h3 : 0 ≤ q.2.2.1 ∧ q.2.2.1 ≤ 65535) (h4 : 0 ≤ q.2.2.2 ∧ q.2.2.2 ≤ 255) :
    AFun Try.prog 8 0 [.agg [.ro fl 1 (xs.map int), u8' q.1, u8' q.2.1, u16 q.2.2.1, u8' q.2.2.2]] [] (bool true) [] := by
  obtain ⟨sc, l, st, a, t, hsc, ⟨hl, hM⟩, hst, ha, ht, hmd⟩ := made_f xs fl hx q h1 h2 h3 h4
  clear h1 h2 h3 h4
  have hup : up l := hM.toIds.lt
  have how := hM.okW (by decide)
  have ho := hM.okO (by decide)
  have hme := me_ok hup (fun e he => (hM.ok e he).grade) (fun e he hk => by have h1 := (hM.ok e he).credits; have h2 := ((hM.ok e he).k3 hk).1; omega) (by omega) st a t
  have hmm := mmP_eq hup st a t
  have hMe := Means_f l (sclOf sc) st a t (by omega) how
  clear hM how
  unfold menP at hMe
  rw [← hmm] at hme hMe
  clear hmm hup
  generalize sclOf sc = s at hmd hMe
  have hml : (l.map en).length = l.length := List.length_map _
  have hA := At_f l a (100 * t + 99) {} (by omega)
  have hlen := atP_len (l := l) a (100 * t + 99)
  unfold mmP at hme hMe
  generalize atP l a (100 * t + 99) = A at hA hlen hme hMe
  have hmA : (A.map stA).length = A.length := List.length_map _
  obtain ⟨R, hR⟩ : ∃ R, R = A.foldl (fun q x => l.foldl (inM st t x) q) ([], []) := ⟨_, rfl⟩
  rw [← hR] at hme hMe
  obtain ⟨v, hv⟩ : ∃ v, v = (if endP t a = true ∧ (Sc.mv R.1 R.2).2 = 0 then ((Sc.mv R.1 R.2).1, true) else ((0, 0), false)) := ⟨_, rfl⟩
  rw [← hv] at hMe
  obtain ⟨⟨n, d⟩, ok⟩ := v
  dsimp only at hMe
  refine AFun.of_VS T_ok Try.func8 rfl (Nat.le_of_ble_eq_true rfl) ?_
  refine VS.cut T_ok mixed rfl ?_
  ((repeat ((conv => whnf); (first | (refine LetN.pre ?_; first | ((conv => arg 1; whnf); refine LetN.mk ?_)) | (refine As.pre ?_; first | refine As.mk rfl ?_) | (refine Ck.pre ?_; first | refine Ck.mk rfl ?_)))); (try (conv => whnf)))
  refine VS.cut T_ok mixed rfl ?_
  ((repeat ((conv => whnf); (first | (refine As.pre ?_; first | refine As.mk rfl ?_) | (refine Ck.pre ?_; first | refine Ck.mk rfl ?_) | (refine CallN.pre ?_; first | refine CallN.pure sanity_f rfl rfl ?_)))); (try (conv => whnf)))
  refine VS.cut T_ok mixed rfl ?_
  ((repeat ((conv => whnf); (first | (refine LetN.pre ?_; first | ((conv => arg 1; whnf); refine LetN.mk ?_)) | (refine As.pre ?_; first | refine As.mk rfl ?_) | (refine LetV.pre ?_; first | refine LetV.mk (.agg _) rfl ?_) | (refine Ck.pre ?_; first | refine Ck.mk rfl ?_) | (refine LetL.pre ?_; first | refine LetL.mk [_] rfl ?_) | (refine CallN.pre ?_; first | refine CallN.pure hmd rfl rfl ?_)))); (try (conv => whnf)))
  refine VS.cut T_ok mixed rfl ?_
  ((repeat ((conv => whnf); (first | (refine LetN.pre ?_; first | ((conv => arg 1; whnf); refine LetN.mk ?_)) | (refine As.pre ?_; first | refine As.mk rfl ?_) | (refine LetV.pre ?_; first | refine LetV.mk (.agg _) rfl ?_) | (refine Ck.pre ?_; first | refine Ck.mk rfl ?_) | (refine LetL.pre ?_; first | refine LetL.mk [_] rfl ?_) | (refine CallN.pre ?_; first | refine CallN.pure hMe rfl rfl ?_)))); (try (conv => whnf)))
  refine VS.cut T_ok mixed rfl ?_
  ((repeat ((conv => whnf); (first | (refine As.pre ?_; first | refine As.mk rfl ?_) | (refine Ck.pre ?_; first | refine Ck.mk rfl ?_)))); (try (conv => whnf)))
  clear hmd hMe
  refine VS.joinN (fun _ : Unit => mnA l st a t n d ok R) (fun _ => True) ?_ ?_
  case refine_1 =>
    clear hv hme
    refine VS.of_V T_ok mixed rfl ?_
    ((repeat ((conv => whnf); (first | (refine As.pre ?_; first | refine As.mk rfl ?_) | (refine LetI.pre ?_; first | refine LetI.wrap (by omega) (by omega) ?_ | refine LetI.mk _ rfl ?_) | (refine Ck.pre ?_; first | refine Ck.mk rfl ?_) | (refine CallN.pre ?_; first | refine CallN.pure hA rfl rfl ?_)))); (try (conv => whnf)))
    clear hA
    refine LoopN.weak (s1 := mnS l A st a t n d ok (0, [], [])) ?sw0 ?_
    case sw0 => exact SW.mk (fun i => if i = 0 then 2 else i + 10) rfl (mnN _ rfl rfl rfl _ _ _ _ _ _ _ _ (mnN1 ..)) (mnH ..) ⟨.refl _, .refl _, .refl _, .refl _, .refl _, .refl _, .refl _, VLe2.nilslm, VLe2.nilslm, .refl _, VLe2.int (by rw [hmA]), .refl _, trivial⟩ (haveV.row rfl rfl (haveV.nil (Nat.le_of_ble_eq_true rfl) (haveV.nil (Nat.le_of_ble_eq_true rfl) trivial)))
    refine LoopN.ind T_ok mixed (S := mnS l A st a t n d ok) (fun i => A.length - i.1) (fun i => (i.1 ≤ A.length ∧ i.2.1.length ≤ 40 * i.1 ∧ i.2.2.length ≤ 40 * i.1) ∧ (A.drop i.1).foldl (fun q x => l.foldl (inM st t x) q) i.2 = R) (fun _ => rfl) (fun i hi ih => ?_) (0, [], []) ⟨⟨Nat.zero_le _, Nat.le_refl _, Nat.le_refl _⟩, hR.symm⟩
    clear hR
    obtain ⟨j, p, f⟩ := i
    obtain ⟨⟨h1, h1p, h1f⟩, h2⟩ := hi
    dsimp only at h1 h1p h1f h2
    by_cases hlt : j < A.length
    case neg =>
      clear ih
      rw [List.drop_of_length_le (by omega)] at h2
      have h2 : (p, f) = R := h2
      subst h2
      ((repeat ((conv => whnf); (first | (refine As.pre ?_; first | refine As.mk rfl ?_) | (refine LetB.pre ?_; first | refine LetB.decf (by omega) ?_) | (refine Br.pre ?_; first | refine Br.ff rfl ?_) | (refine Ck.pre ?_; first | refine Ck.mk rfl ?_)))); (try (conv => whnf)))
      exact ⟨rfl, (), trivial, SW.mk id rfl (mnN _ rfl rfl rfl _ _ _ _ _ _ _ _ rfl) (mnH ..) ⟨.refl _, .refl _, .refl _, .refl _, .refl _, .refl _, .refl _, .refl _, .refl _, trivial⟩ (haveV.row rfl rfl (haveV.row (pure_int _) rfl (haveV.row (pure_int _) rfl trivial)))⟩
    have hld := stD hlt
    rw [foldl_drop (fun q x => l.foldl (inM st t x) q) hlt ⟨0, 0, 0, false⟩] at h2
    generalize A.getD j ⟨0, 0, 0, false⟩ = x at hld h2
    have hnx := fun q' (hb : q'.1.length ≤ 40 * (j + 1) ∧ q'.2.length ≤ 40 * (j + 1)) (h : (A.drop (j + 1)).foldl (fun q x => l.foldl (inM st t x) q) q' = R) => ih (j + 1, q') ⟨⟨hlt, hb.1, hb.2⟩, h⟩ (by show A.length - (j + 1) < A.length - j; omega)
    clear ih
    ((repeat ((conv => whnf); (first | (refine LetN.pre ?_; first | ((conv => arg 1; whnf); refine LetN.mk ?_)) | (refine As.pre ?_; first | refine As.mk rfl ?_ | (refine As.mk ?_ ?_; · ((repeat' (refine andT ?_ ?_)) <;> (first | rfl | assumption | exact decide_eq_true (by omega) | exact decide_eq_true (by dsimp only; omega) | exact decide_eq_true (by simp; omega) | (simp; done))))) | (refine LetV.pre ?_; first | refine LetV.mk (t := 56) _ hld ?_ | refine LetV.mk (.agg _) rfl ?_) | (refine LetI.pre ?_; first | refine LetI.mk _ rfl ?_) | (refine LetB.pre ?_; first | refine LetB.dect (by omega) ?_) | (refine Br.pre ?_; first | refine Br.tt rfl ?_) | (refine Ck.pre ?_; first | refine Ck.mk rfl ?_) | (refine LetL.pre ?_; first | refine LetL.mk [_] rfl ?_)))); (try (conv => whnf)))
    clear hld
    refine LoopN.weak (s1 := mnT l A st a t n d ok j x (0, p, f)) ?sw1 ?_
    case sw1 => exact SW.mk id rfl (mnN _ rfl rfl rfl _ _ _ _ _ _ _ _ (mnN2 _ rfl ..)) (mnH2 ..) ⟨.refl _, .refl _, .refl _, .refl _, .refl _, .refl _, .refl _, .refl _, .refl _, .refl _, .refl _, .refl _, .refl _, VLe2.ro_of rfl, VLe2.int (by rw [hml]), .refl _, trivial⟩ (haveV.row rfl rfl (haveV.row (pure_int _) rfl (haveV.row (pure_int _) rfl (haveV.row rfl rfl trivial))))
    refine LoopN.ind T_ok mixed (S := mnT l A st a t n d ok j x) (fun i => l.length - i.1) (fun i => (i.1 ≤ l.length ∧ i.2.1.length ≤ 40 * j + i.1 ∧ i.2.2.length ≤ 40 * j + i.1) ∧ (A.drop (j + 1)).foldl (fun q x => l.foldl (inM st t x) q) ((l.drop i.1).foldl (inM st t x) i.2) = R) (fun _ => rfl) (fun i hi ih => ?_) (0, p, f) ⟨⟨Nat.zero_le _, h1p, h1f⟩, h2⟩
    clear h2 h1p h1f p f
    obtain ⟨k, p, f⟩ := i
    obtain ⟨⟨h3, h3p, h3f⟩, h4⟩ := hi
    dsimp only at h3 h3p h3f h4
    by_cases hk : k < l.length
    case neg =>
      clear ih
      rw [List.drop_of_length_le (by omega)] at h4
      have hnx := hnx (p, f) ⟨by dsimp only; omega, by dsimp only; omega⟩ h4
      ((repeat ((conv => whnf); (first | (refine As.pre ?_; first | refine As.mk rfl ?_) | (refine LetI.pre ?_; first | refine LetI.wrap (by omega) (by omega) ?_) | (refine LetB.pre ?_; first | refine LetB.decf (by omega) ?_) | (refine Br.pre ?_; first | refine Br.ff rfl ?_) | (refine Ck.pre ?_; first | refine Ck.mk rfl ?_)))); (try (conv => whnf)))
      refine LoopN.weak ?sw2 hnx
      case sw2 => exact SW.mk id rfl (mnN _ rfl rfl rfl _ _ _ _ _ _ _ _ (mnN1 ..)) (mnH ..) ⟨.refl _, .refl _, .refl _, .refl _, .refl _, .refl _, .refl _, .refl _, .refl _, .refl _, .refl _, VLe2.int (by omega), trivial⟩ (haveV.row rfl rfl (haveV.row (pure_int _) rfl (haveV.row (pure_int _) rfl trivial)))
    clear hnx
    rw [foldl_drop _ hk e0] at h4
    have hle := tmD hk
    have hoe := ho _ (getD_mem' hk)
    generalize l.getD k e0 = e at hle hoe h4
    obtain ⟨c, hc⟩ : ∃ c, c = e.on_ / 100 := ⟨_, rfl⟩
    have hq : c = e.on_.tdiv 100 := by rw [hc, Int.tdiv_eq_ediv_of_nonneg hoe.1]
    have hq2 : c = IntKind.i64.wrap (e.on_.tdiv 100) := by rw [← hq, wrap_id (by omega) (by omega)]
    obtain ⟨q', hq'⟩ : ∃ q', q' = inM st t x (p, f) e := ⟨_, rfl⟩
    rw [← hq'] at h4
    have hnx := fun hb => ih (k + 1, q') ⟨⟨hk, hb⟩, h4⟩ (by show l.length - (k + 1) < l.length - k; omega)
    clear ih h4
    unfold inM inB at hq'
    rw [← hc] at hq'
    clear hc hoe
    obtain ⟨xe, xb, xg, xv⟩ := x
    by_cases c1 : e.kind = 3
    case neg =>
      rw [decide_eq_false (fun h => c1 h.1), if_neg (by decide)] at hq'
      subst hq'
      have hnx := hnx ⟨by dsimp only; omega, by dsimp only; omega⟩
      ((repeat ((conv => whnf); (first | (refine LetN.pre ?_; first | ((conv => arg 1; whnf); refine LetN.mk ?_)) | (refine As.pre ?_; first | refine As.mk rfl ?_ | (refine As.mk ?_ ?_; · ((repeat' (refine andT ?_ ?_)) <;> (first | rfl | assumption | exact decide_eq_true (by omega) | exact decide_eq_true (by dsimp only; omega) | exact decide_eq_true (by simp; omega) | (simp; done))))) | (refine LetV.pre ?_; first | refine LetV.mk (t := 27) _ hle ?_ | refine LetV.mk (.sc (.int _ _)) rfl ?_ | refine LetV.mk (.agg _) rfl ?_) | (refine LetI.pre ?_; first | refine LetI.wrap (by omega) (by omega) ?_) | (refine LetB.pre ?_; first | refine LetB.dect (by omega) ?_ | refine LetB.decf (by omega) ?_) | (refine Gd.pre ?_; first | refine Gd.pass rfl ?_) | (refine Br.pre ?_; first | refine Br.tt rfl ?_ | refine Br.ff rfl ?_) | (refine Ck.pre ?_; first | refine Ck.mk rfl ?_) | (refine LetL.pre ?_; first | refine LetL.mk [_] rfl ?_)))); (try (conv => whnf)))



      refine LoopN.weak ?swa hnx
      case swa => exact SW.mk id rfl (mnN _ rfl rfl rfl _ _ _ _ _ _ _ _ (mnN2 _ rfl ..)) (mnH2 ..) ⟨.refl _, .refl _, .refl _, .refl _, .refl _, .refl _, .refl _, .refl _, .refl _, .refl _, .refl _, .refl _, .refl _, .refl _, .refl _, VLe2.int (by omega), trivial⟩ (haveV.row rfl rfl (haveV.row (pure_int _) rfl (haveV.row (pure_int _) rfl (haveV.row rfl rfl trivial))))
    by_cases c2 : e.id = xe
    case neg =>
      rw [decide_eq_false (fun h => c2 h.2.1), if_neg (by decide)] at hq'
      subst hq'
      have hnx := hnx ⟨by dsimp only; omega, by dsimp only; omega⟩
      ((repeat ((conv => whnf); (first | (refine LetN.pre ?_; first | ((conv => arg 1; whnf); refine LetN.mk ?_)) | (refine As.pre ?_; first | refine As.mk rfl ?_ | (refine As.mk ?_ ?_; · ((repeat' (refine andT ?_ ?_)) <;> (first | rfl | assumption | exact decide_eq_true (by omega) | exact decide_eq_true (by dsimp only; omega) | exact decide_eq_true (by simp; omega) | (simp; done))))) | (refine LetV.pre ?_; first | refine LetV.mk (t := 27) _ hle ?_ | refine LetV.mk (.sc (.int _ _)) rfl ?_ | refine LetV.mk (.agg _) rfl ?_) | (refine LetI.pre ?_; first | refine LetI.wrap (by omega) (by omega) ?_) | (refine LetB.pre ?_; first | refine LetB.dect (by omega) ?_ | refine LetB.decf (by omega) ?_) | (refine Gd.pre ?_; first | refine Gd.run rfl ?_ | refine Gd.pass rfl ?_) | (refine Br.pre ?_; first | refine Br.tt rfl ?_ | refine Br.ff rfl ?_) | (refine Ck.pre ?_; first | refine Ck.mk rfl ?_) | (refine LetL.pre ?_; first | refine LetL.mk [_] rfl ?_)))); (try (conv => whnf)))



      refine LoopN.weak ?swb hnx
      case swb => exact SW.mk id rfl (mnN _ rfl rfl rfl _ _ _ _ _ _ _ _ (mnN2 _ rfl ..)) (mnH2 ..) ⟨.refl _, .refl _, .refl _, .refl _, .refl _, .refl _, .refl _, .refl _, .refl _, .refl _, .refl _, .refl _, .refl _, .refl _, .refl _, VLe2.int (by omega), trivial⟩ (haveV.row rfl rfl (haveV.row (pure_int _) rfl (haveV.row (pure_int _) rfl (haveV.row rfl rfl trivial))))
    by_cases c3 : e.student = st
    case neg =>
      rw [decide_eq_false (fun h => c3 h.2.2.1), if_neg (by decide)] at hq'
      subst hq'
      have hnx := hnx ⟨by dsimp only; omega, by dsimp only; omega⟩
      ((repeat ((conv => whnf); (first | (refine LetN.pre ?_; first | ((conv => arg 1; whnf); refine LetN.mk ?_)) | (refine As.pre ?_; first | refine As.mk rfl ?_ | (refine As.mk ?_ ?_; · ((repeat' (refine andT ?_ ?_)) <;> (first | rfl | assumption | exact decide_eq_true (by omega) | exact decide_eq_true (by dsimp only; omega) | exact decide_eq_true (by simp; omega) | (simp; done))))) | (refine LetV.pre ?_; first | refine LetV.mk (t := 27) _ hle ?_ | refine LetV.mk (.sc (.int _ _)) rfl ?_ | refine LetV.mk (.agg _) rfl ?_) | (refine LetI.pre ?_; first | refine LetI.wrap (by omega) (by omega) ?_) | (refine LetB.pre ?_; first | refine LetB.dect (by omega) ?_ | refine LetB.decf (by omega) ?_) | (refine Gd.pre ?_; first | refine Gd.run rfl ?_ | refine Gd.pass rfl ?_) | (refine Br.pre ?_; first | refine Br.tt rfl ?_ | refine Br.ff rfl ?_) | (refine Ck.pre ?_; first | refine Ck.mk rfl ?_) | (refine LetL.pre ?_; first | refine LetL.mk [_] rfl ?_)))); (try (conv => whnf)))



      refine LoopN.weak ?swc hnx
      case swc => exact SW.mk id rfl (mnN _ rfl rfl rfl _ _ _ _ _ _ _ _ (mnN2 _ rfl ..)) (mnH2 ..) ⟨.refl _, .refl _, .refl _, .refl _, .refl _, .refl _, .refl _, .refl _, .refl _, .refl _, .refl _, .refl _, .refl _, .refl _, .refl _, VLe2.int (by omega), trivial⟩ (haveV.row rfl rfl (haveV.row (pure_int _) rfl (haveV.row (pure_int _) rfl (haveV.row rfl rfl trivial))))
    by_cases c4 : c = t
    case neg =>
      rw [decide_eq_false (fun h => c4 h.2.2.2), if_neg (by decide)] at hq'
      subst hq'
      have hnx := hnx ⟨by dsimp only; omega, by dsimp only; omega⟩
      ((repeat ((conv => whnf); (first | (refine LetN.pre ?_; first | ((conv => arg 1; whnf); refine LetN.mk ?_)) | (refine As.pre ?_; first | refine As.mk rfl ?_ | (refine As.mk ?_ ?_; · ((repeat' (refine andT ?_ ?_)) <;> (first | rfl | assumption | exact decide_eq_true (by omega) | exact decide_eq_true (by dsimp only; omega) | exact decide_eq_true (by simp; omega) | (simp; done))))) | (refine LetV.pre ?_; first | refine LetV.mk (t := 27) _ hle ?_ | refine LetV.mk (.sc (.int _ _)) rfl ?_ | refine LetV.mk (.agg _) rfl ?_) | (refine LetI.pre ?_; first | refine LetI.mk (o := some .quo) c hq2 ?_ | refine LetI.wrap (by omega) (by omega) ?_) | (refine LetB.pre ?_; first | refine LetB.dect (by omega) ?_ | refine LetB.decf (by omega) ?_) | (refine Gd.pre ?_; first | refine Gd.run rfl ?_ | refine Gd.pass rfl ?_) | (refine Br.pre ?_; first | refine Br.tt rfl ?_ | refine Br.ff rfl ?_) | (refine Ck.pre ?_; first | refine Ck.mk rfl ?_) | (refine LetL.pre ?_; first | refine LetL.mk [_] rfl ?_)))); (try (conv => whnf)))



      refine LoopN.weak ?swd hnx
      case swd => exact SW.mk id rfl (mnN _ rfl rfl rfl _ _ _ _ _ _ _ _ (mnN2 _ rfl ..)) (mnH2 ..) ⟨.refl _, .refl _, .refl _, .refl _, .refl _, .refl _, .refl _, .refl _, .refl _, .refl _, .refl _, .refl _, .refl _, .refl _, .refl _, VLe2.int (by omega), trivial⟩ (haveV.row rfl rfl (haveV.row (pure_int _) rfl (haveV.row (pure_int _) rfl (haveV.row rfl rfl trivial))))
    rw [decide_eq_true ⟨c1, c2, c3, c4⟩, if_pos rfl] at hq'
    cases xv with
    | true =>
      have e1 : meS (p, f) (⟨xe, xb, xg, true⟩, e.credits) = (p, f) := rfl
      rw [e1] at hq'
      subst hq'
      have hnx := hnx ⟨by dsimp only; omega, by dsimp only; omega⟩
      ((repeat ((conv => whnf); (first | (refine LetN.pre ?_; first | ((conv => arg 1; whnf); refine LetN.mk ?_)) | (refine As.pre ?_; first | refine As.mk rfl ?_ | (refine As.mk ?_ ?_; · ((repeat' (refine andT ?_ ?_)) <;> (first | rfl | assumption | exact decide_eq_true (by omega) | exact decide_eq_true (by dsimp only; omega) | exact decide_eq_true (by simp; omega) | (simp; done))))) | (refine LetV.pre ?_; first | refine LetV.mk (t := 27) _ hle ?_ | refine LetV.mk (.sc (.int _ _)) rfl ?_ | refine LetV.mk (.sc (.bool _)) rfl ?_ | refine LetV.mk (.agg _) rfl ?_) | (refine LetI.pre ?_; first | refine LetI.mk (o := some .quo) c hq2 ?_ | refine LetI.wrap (by omega) (by omega) ?_) | (refine LetB.pre ?_; first | refine LetB.dect (by omega) ?_) | (refine Gd.pre ?_; first | refine Gd.run rfl ?_) | (refine Br.pre ?_; first | refine Br.tt rfl ?_ | refine Br.ff rfl ?_) | (refine Ck.pre ?_; first | refine Ck.mk rfl ?_) | (refine LetL.pre ?_; first | refine LetL.mk [_] rfl ?_)))); (try (conv => whnf)))



      refine LoopN.weak ?swe hnx
      case swe => exact SW.mk id rfl (mnN _ rfl rfl rfl _ _ _ _ _ _ _ _ (mnN2 _ rfl ..)) (mnH2 ..) ⟨.refl _, .refl _, .refl _, .refl _, .refl _, .refl _, .refl _, .refl _, .refl _, .refl _, .refl _, .refl _, .refl _, .refl _, .refl _, VLe2.int (by omega), trivial⟩ (haveV.row rfl rfl (haveV.row (pure_int _) rfl (haveV.row (pure_int _) rfl (haveV.row rfl rfl trivial))))
    | false =>
      have e1 : meS (p, f) (⟨xe, xb, xg, false⟩, e.credits) = (p ++ [xg], f ++ [e.credits]) := rfl
      rw [e1] at hq'
      subst hq'
      have l1 : (p ++ [xg]).length = p.length + 1 := by simp
      have l2 : (f ++ [e.credits]).length = f.length + 1 := by simp
      have hnx := hnx ⟨by dsimp only; omega, by dsimp only; omega⟩
      have r1 := room_int (n := p.length + 1) (by omega)
      have r2 := room_int (n := f.length + 1) (by omega)
      have a1 := app_intL p xg p.length rfl
      have a2 := app_intL f e.credits f.length rfl
      ((repeat ((conv => whnf); (first | (refine LetN.pre ?_; first | ((conv => arg 1; whnf); refine LetN.mk ?_)) | (refine As.pre ?_; first | refine As.mk rfl ?_ | (refine As.mk ?_ ?_; · ((repeat' (refine andT ?_ ?_)) <;> (first | rfl | assumption | exact decide_eq_true (by omega) | exact decide_eq_true (by dsimp only; omega) | exact decide_eq_true (by simp; omega) | (simp; done))))) | (refine LetV.pre ?_; first | refine LetV.mk (t := 27) _ hle ?_ | refine LetV.mk (.sc (.int _ _)) rfl ?_ | refine LetV.mk (.sc (.bool _)) rfl ?_ | refine LetV.mk (.agg _) rfl ?_) | (refine LetI.pre ?_; first | refine LetI.mk (o := some .quo) c hq2 ?_ | refine LetI.wrap (by omega) (by omega) ?_) | (refine LetB.pre ?_; first | refine LetB.dect (by omega) ?_) | (refine Gd.pre ?_; first | refine Gd.run rfl ?_) | (refine Br.pre ?_; first | refine Br.tt rfl ?_) | (refine Ck.pre ?_; first | refine Ck.drawn (by kernel_rfl) ?_ | refine Ck.mk rfl ?_) | (refine LetL.pre ?_; first | refine LetL.mk (ty := 3) _ a1 ?_ | refine LetL.mk (ty := 3) _ a2 ?_ | refine LetL.mk [_] rfl ?_)))); (try (conv => whnf)))





      refine LoopN.weak ?swf hnx
      case swf => exact SW.mk ro56 rfl (mnN _ rfl rfl rfl _ _ _ _ _ _ _ _ (mnN2 _ rfl ..)) (mnH2 ..) ⟨.refl _, .refl _, .refl _, .refl _, .refl _, .refl _, .refl _, VLe2.slm_of l1, VLe2.slm_of l2, .refl _, .refl _, .refl _, .refl _, .refl _, .refl _, VLe2.int (by omega), trivial⟩ (haveV.row rfl rfl (haveV.row (pure_int _) rfl (haveV.row (pure_int _) rfl (haveV.row rfl rfl trivial))))
  intro _ _
  clear hR hA hml hmA hlen ho
  obtain ⟨p, f⟩ := R
  dsimp only at hme hv
  refine VS.weak (s1 := ⟨mnB l st a t ok p.length f.length [], mnR n d p f, 3⟩) SW.refl ?_
  by_cases h0 : p = []
  · subst h0
    have hmv : Sc.mv [] f = ((0, 0), 1) := Sc.mv_ne (.inr rfl)
    rw [hmv, if_neg (fun h => absurd h.2 (by decide))] at hv
    injection hv with hv1 hv2
    injection hv1 with hv1 hv3
    subst hv1 hv2 hv3
    refine VS.of_V T_ok mixed rfl ?_
    ((repeat ((conv => whnf); (first | (refine As.pre ?_; first | refine As.mk rfl ?_) | (refine LetV.pre ?_; first | refine LetV.mk (.agg _) rfl ?_) | (refine LetI.pre ?_; first | refine LetI.mk _ rfl ?_) | (refine LetB.pre ?_; first | refine LetB.tt rfl ?_) | (refine Gd.pre ?_; first | refine Gd.run rfl ?_ | refine Gd.pass rfl ?_) | (refine Br.pre ?_; first | refine Br.tt rfl ?_) | (refine Ck.pre ?_; first | refine Ck.mk rfl ?_)))); (try (conv => whnf)))
    exact ⟨⟨[(2, bool true)], [], 0⟩, SW.fr0 (Nat.le_refl _) rfl ⟨.refl _, trivial⟩, .inl rfl, ⟨_, rfl, rfl⟩, trivial⟩
  have hpl : 0 < p.length := List.length_pos_iff.2 h0
  have hps := hme.short
  by_cases hend : 100 * t + 99 > a
  · rw [if_neg (fun h => by have := of_decide_eq_true h.1; omega)] at hv
    injection hv with hv1 hv2
    injection hv1 with hv1 hv3
    subst hv1 hv2 hv3
    refine VS.of_V T_ok mixed rfl ?_
    ((repeat ((conv => whnf); (first | (refine As.pre ?_; first | refine As.mk rfl ?_) | (refine LetV.pre ?_; first | refine LetV.mk (.agg _) rfl ?_) | (refine LetI.pre ?_; first | refine LetI.wrap (by omega) (by omega) ?_ | refine LetI.mk _ rfl ?_) | (refine LetB.pre ?_; first | refine LetB.tt rfl ?_ | refine LetB.dect (by omega) ?_ | refine LetB.decf (by omega) ?_) | (refine Gd.pre ?_; first | refine Gd.run rfl ?_) | (refine Br.pre ?_; first | refine Br.tt rfl ?_) | (refine Ck.pre ?_; first | refine Ck.mk rfl ?_)))); (try (conv => whnf)))
    exact ⟨⟨[(2, bool true)], [], 0⟩, SW.fr0 (Nat.le_refl _) rfl ⟨.refl _, trivial⟩, .inl rfl, ⟨_, rfl, rfl⟩, trivial⟩
  obtain ⟨n', d', hmv, hd, hlo, hhi⟩ := mean_ok hme h0
  have hex := ext_b hme h0
  have hM' := Sc.Mean_f p f {} {} (by omega) (by have := hme.len; omega)
  rw [hmv] at hM'
  rw [hmv, if_pos ⟨decide_eq_true ⟨by omega, by omega, by omega⟩, rfl⟩] at hv
  injection hv with hv1 hv2
  injection hv1 with hv1 hv3
  subst hv1 hv2 hv3
  dsimp only at hM'
  clear hmv hme
  obtain ⟨lo, hlo0⟩ : ∃ lo, lo = minP p := ⟨_, rfl⟩
  obtain ⟨hi, hhi0⟩ : ∃ hi, hi = maxP p := ⟨_, rfl⟩
  rw [← hlo0] at hlo hex
  rw [← hhi0] at hhi hex
  have m1 : 0 ≤ lo * d ∧ lo * d ≤ 600000 := by
    have a1 := Int.mul_nonneg hex.1.1 hd.1
    have a2 := Int.mul_le_mul_of_nonneg_right hex.1.2 hd.1
    omega
  have m2 : 0 ≤ hi * d ∧ hi * d ≤ 600000 := by
    have a1 := Int.mul_nonneg hex.2.1 hd.1
    have a2 := Int.mul_le_mul_of_nonneg_right hex.2.2 hd.1
    omega
  have n1 := pure_int p
  have n2 := pure_int f
  have k1 : p.length = (p.map int).length := (List.length_map _).symm
  have k2 : f.length = (f.map int).length := (List.length_map _).symm
  refine VS.cut T_ok mixed rfl ?_
  ((repeat ((conv => whnf); (first | (refine As.pre ?_; first | refine As.mk rfl ?_) | (refine LetI.pre ?_; first | refine LetI.wrap (by omega) (by omega) ?_ | refine LetI.mk _ rfl ?_) | (refine LetB.pre ?_; first | refine LetB.decf (by omega) ?_) | (refine Gd.pre ?_; first | refine Gd.run rfl ?_) | (refine Br.pre ?_; first | refine Br.ff rfl ?_) | (refine Ck.pre ?_; first | refine Ck.mk rfl ?_)))); (try (conv => whnf)))
  refine VS.cut T_ok mixed rfl ?_
  ((repeat ((conv => whnf); (first | (refine LetN.pre ?_; first | ((conv => arg 1; whnf); refine LetN.mk ?_)) | (refine As.pre ?_; first | refine As.mk rfl ?_) | (refine Ck.pre ?_; first | refine Ck.mk rfl ?_) | (refine LetL.pre ?_; first | refine LetL.mk [_] rfl ?_) | (refine CallN.pre ?_; first | refine CallN.lend hM' rfl (.full rfl n1 k1 (.full rfl n2 k2 .nil)) ?_)))); (try (conv => whnf)))
  clear hM'
  obtain ⟨x, p', rfl⟩ : ∃ x p', p = x :: p' := by
    cases p with
    | nil => exact absurd rfl h0
    | cons x p' => exact ⟨_, _, rfl⟩
  refine VS.cut T_ok mixed rfl ?_
  ((repeat ((conv => whnf); (first | (refine As.pre ?_; first | refine As.mk rfl ?_ | (refine As.mk ?_ ?_; · ((repeat' (refine andT ?_ ?_)) <;> (first | rfl | assumption | exact decide_eq_true (by omega) | exact decide_eq_true (by dsimp only; omega) | exact decide_eq_true (by simp; omega) | (simp; done))))) | (refine LetV.pre ?_; first | refine LetV.mk (.sc (.int _ _)) rfl ?_) | (refine Ck.pre ?_; first | refine Ck.drawn (by kernel_rfl) ?_ | refine Ck.mk rfl ?_)))); (try (conv => whnf)))
  refine VS.joinN (fun _ : Unit => mnV n d lo hi) (fun _ => True) ?_ ?_
  case refine_1 =>
    have hl0 : (x :: p').foldl min x = lo := by rw [hlo0]; exact fold0 min (fun x => by omega) x
    have hh0 : (x :: p').foldl max x = hi := by rw [hhi0]; exact fold0 max (fun x => by omega) x
    clear hlo hhi hlo0 hhi0 m1 m2 h0 hend
    generalize hP : x :: p' = P at n1 k1 hps hpl hl0 hh0 ⊢
    refine VS.of_V T_ok mixed rfl ?_
    ((repeat ((conv => whnf); (first | (refine As.pre ?_; first | refine As.mk rfl ?_) | (refine LetI.pre ?_; first | refine LetI.mk _ rfl ?_) | (refine Ck.pre ?_; first | refine Ck.mk rfl ?_)))); (try (conv => whnf)))
    refine LoopN.weak (s1 := mnU P n d (0, x, x)) ?swg ?_
    case swg => exact SW.mk (fun i => if i = 2 then 3 else i) rfl rfl (namesAll.row rfl (namesAll.row (pure_int _) (namesAll.row rfl rfl))) ⟨.refl _, .refl _, .refl _, .refl _, .refl _, .refl _, .refl _, .refl _, .refl _, .refl _, trivial⟩ (haveV.row rfl rfl (haveV.row (pure_int _) rfl (haveV.row rfl rfl trivial)))
    clear hP
    refine LoopN.ind T_ok mixed (S := mnU P n d) (fun i => P.length - i.1) (fun i => i.1 ≤ P.length ∧ (P.drop i.1).foldl min i.2.1 = lo ∧ (P.drop i.1).foldl max i.2.2 = hi) (fun _ => rfl) (fun i hi' ih => ?_) (0, x, x) ⟨Nat.zero_le _, hl0, hh0⟩
    clear hl0 hh0
    obtain ⟨k, u, v⟩ := i
    obtain ⟨g1, g2, g3⟩ := hi'
    dsimp only at g1 g2 g3
    by_cases hk : k < P.length
    case neg =>
      clear ih
      rw [List.drop_of_length_le (by omega)] at g2 g3
      dsimp only [List.foldl_nil] at g2 g3
      subst g2 g3
      ((repeat ((conv => whnf); (first | (refine As.pre ?_; first | refine As.mk rfl ?_) | (refine LetB.pre ?_; first | refine LetB.decf (by omega) ?_) | (refine Br.pre ?_; first | refine Br.ff rfl ?_) | (refine Ck.pre ?_; first | refine Ck.mk rfl ?_)))); (try (conv => whnf)))
      exact ⟨rfl, (), trivial, SW.mk id rfl rfl rfl ⟨.refl _, .refl _, .refl _, .refl _, .refl _, .refl _, .refl _, trivial⟩ (haveV.row rfl rfl (haveV.row rfl rfl trivial))⟩
    rw [foldl_drop _ hk 0] at g2 g3
    have hv : int (P.getD k 0) = Am.part false 1 0 1 ((P.map int).getD (0 + k) (.sc undef)) := by
      rw [Nat.zero_add, ← mapD (f := int) (0 : Int) hk]; rfl
    have hv2 : int (P.getD k 0) = (P.map int).getD (0 + k) (.sc undef) := by rw [Nat.zero_add]; exact mapD 0 hk
    generalize P.getD k 0 = y at hv hv2 g2 g3
    obtain ⟨u', hu'⟩ : ∃ u', u' = min u y := ⟨_, rfl⟩
    obtain ⟨v', hv'⟩ : ∃ v', v' = max v y := ⟨_, rfl⟩
    rw [← hu'] at g2
    rw [← hv'] at g3
    have hnx := ih (k + 1, u', v') ⟨hk, g2, g3⟩ (by show P.length - (k + 1) < P.length - k; omega)
    clear ih g2 g3
    ((repeat ((conv => whnf); (first | (refine As.pre ?_; first | refine As.mk rfl ?_ | (refine As.mk ?_ ?_; · ((repeat' (refine andT ?_ ?_)) <;> (first | rfl | assumption | exact decide_eq_true (by omega) | exact decide_eq_true (by dsimp only; omega) | exact decide_eq_true (by simp; omega) | (simp; done))))) | (refine LetV.pre ?_; first | refine LetV.mk (t := 3) _ hv ?_) | (refine LetI.pre ?_; first | refine LetI.mk (o := none) u' hu' ?_ | refine LetI.mk (o := none) v' hv' ?_ | refine LetI.wrap (by omega) (by omega) ?_) | (refine LetB.pre ?_; first | refine LetB.dect (by omega) ?_) | (refine Br.pre ?_; first | refine Br.tt rfl ?_) | (refine Ck.pre ?_; first | refine Ck.mk rfl ?_)))); (try (conv => whnf)))




    refine LoopN.weak ?swh hnx
    case swh => exact SW.mk id rfl rfl (namesAll.row rfl (namesAll.row (pure_int _) (namesAll.row rfl rfl))) ⟨.refl _, .refl _, .refl _, .refl _, .refl _, .refl _, .refl _, .refl _, .refl _, VLe2.int (by omega), trivial⟩ (haveV.row rfl rfl (haveV.row (pure_int _) rfl (haveV.row rfl rfl trivial)))
  intro _ _
  have hre : (n == n && (d == d && true)) = true := by simp
  refine VS.of_V T_ok mixed rfl ?_
  ((repeat ((conv => whnf); (first | (refine As.pre ?_; first | refine As.mk rfl ?_) | (refine LetV.pre ?_; first | refine LetV.mk (.sc (.int _ _)) rfl ?_ | refine LetV.mk (.agg _) rfl ?_) | (refine LetI.pre ?_; first | refine LetI.wrap (by omega) (by omega) ?_) | (refine LetB.pre ?_; first | refine LetB.tt rfl ?_ | refine LetB.tt (by assumption) ?_ | refine LetB.dect (by omega) ?_) | (refine Gd.pre ?_; first | refine Gd.run rfl ?_) | (refine Ck.pre ?_; first | refine Ck.mk rfl ?_)))); (try (conv => whnf)))
  exact ⟨⟨[(2, bool true)], [], 0⟩, SW.fr0 (Nat.le_refl _) rfl ⟨.refl _, trivial⟩, .inl rfl, ⟨_, rfl, rfl⟩, trivial⟩
theorem smeans_row (x : List Int × Int × Int × Int × Int) (hx : x.1.length ≤ 9223372036854775807) (h1 : 0 ≤ x.2.1 ∧ x.2.1 ≤ 255) (h2 : 0 ≤ x.2.2.1 ∧ x.2.2.1 ≤ 255) (h3 : 0 ≤ x.2.2.2.1 ∧ x.2.2.2.1 ≤ 65535) (h4 : 0 ≤ x.2.2.2.2 ∧ x.2.2.2.2 ≤ 255) :
    AFun Try.prog 8 0 [.agg [.ro {} 1 (x.1.map int), u8' x.2.1, u8' x.2.2.1, u16 x.2.2.2.1, u8' x.2.2.2.2]] [] (bool true) [] := smeans x.1 {} hx x.2 h1 h2 h3 h4
end En
end Go.Proofs.Ytnegdmjmllmclaa
