/- stand: parts of the proof, DstandSI DstandSJ DstandSQ DstandSW DstandSP. -/
import Derived.Test.YtnegdmjmllmclaaL41
set_option linter.all false
namespace Go.Proofs.Ytnegdmjmllmclaa
open Go.Proofs.Ytnegdmjmllmclaa.Am
set_option maxRecDepth 100000
namespace En
/-! ### The sums of the law -/
abbrev scty : TypeId := 29
abbrev stty : TypeId := 59
def inB (st t : Int) (x : St) (e : E) : Bool := decide (e.kind = 3 ∧ e.id = x.entry ∧ e.student = st ∧ e.on_ / 100 = t)
def inF (s : Sc.Scl) (st t : Int) (x : St) (q : Int × Int) (e : E) : Int × Int := if inB st t x e then crS s q (x, e.credits) else q
def suP (l : List E) (s : Sc.Scl) (st a t : Int) : Int × Int := (atP l a (100 * t + 99)).foldl (fun q x => l.foldl (inF s st t x) q) (0, 0)
abbrev su1 (l : List E) (A : List St) (s : Sc.Scl) (st t : Int) (q : Int × Int) (j : Nat) : Fr := [(0, .ro {} 15 (l.map en)), (2, int st), (4, int t), (6, .ptr 0 3 0 0), (12, int q.1), (13, int q.2), (23, .ro {} 4 (A.map stA)), (24, int A.length), (25, int j)]
abbrev suS (l : List E) (A : List St) (s : Sc.Scl) (st t : Int) : Nat × Int × Int → AS
  | (j, q) => ⟨su1 l A s st t q j, [(0, .row 3 scty [Sc.scA s])], 1⟩
abbrev suT (l : List E) (A : List St) (s : Sc.Scl) (st t : Int) (j : Nat) (x : St) : Nat × Int × Int → AS
  | (k, q) => ⟨su1 l A s st t q j ++ [(15, .ptr 1 4 0 0), (29, .ro {} 15 (l.map en)), (30, int l.length), (31, int k)], [(0, .row 3 scty [Sc.scA s]), (1, .row 4 stty [stA x])], 2⟩
theorem suN1 (ok : Nat → Bool) (h : ok 0 = true) (l : List E) (A : List St) (s : Sc.Scl) (st t : Int) (q : Int × Int) (j : Nat) : frNames ok (su1 l A s st t q j) = true := by
  simp only [frNames, AV.names, namesL_none (pure_en l), namesL_none (pure_st A), h]; rfl
theorem suN2 (ok : Nat → Bool) (h : ok 0 = true) (h1 : ok 1 = true) (l : List E) (A : List St) (s : Sc.Scl) (st t : Int) (q : Int × Int) (j k : Nat) : frNames ok (su1 l A s st t q j ++ [(15, .ptr 1 4 0 0), (29, .ro {} 15 (l.map en)), (30, int l.length), (31, int k)]) = true := by
  simp only [List.cons_append, List.nil_append, frNames, AV.names, namesL_none (pure_en l), namesL_none (pure_st A), h, h1]; rfl
set_option maxHeartbeats 3200000 in
set_option maxRecDepth 100000 in
theorem sums_f (l : List E) (s : Sc.Scl) (st a t : Int) (hl : l.length < 40) (ht : 0 ≤ t ∧ t ≤ 1000) (ho : ∀ e ∈ l, 0 ≤ e.on_ ∧ e.on_ ≤ 1000) : AFun Try.prog 21 0 [.ro {} 15 (l.map en), Sc.scA s, int st, int a, int t] [] (.tup [int (suP l s st a t).1, int (suP l s st a t).2]) [] := by
  refine AFun.of_W T_ok mixed Try.func21 rfl (Nat.le_of_ble_eq_true rfl) rfl ?_
  have hA := At_f l a (100 * t + 99) {} hl
  have hlen := atP_len (l := l) a (100 * t + 99)
  rw [suP]
  generalize atP l a (100 * t + 99) = A at hA hlen ⊢
  have hml : (l.map en).length = l.length := List.length_map _
  have hmA : (A.map stA).length = A.length := List.length_map _
  generalize hR : A.foldl (fun q x => l.foldl (inF s st t x) q) (0, 0) = R
  ((repeat ((conv => whnf); (first | (refine LetN.pre ?_; first | ((conv => arg 1; whnf); refine LetN.mk ?_)) | (refine As.pre ?_; first | refine As.mk rfl ?_) | (refine LetI.pre ?_; first | refine LetI.wrap (by omega) (by omega) ?_ | refine LetI.mk _ rfl ?_) | (refine Ck.pre ?_; first | refine Ck.mk rfl ?_) | (refine CallN.pre ?_; first | refine CallN.pure hA rfl rfl ?_)))); (try (conv => whnf)))
  refine LoopN.weak (s1 := suS l A s st t (0, 0, 0)) ?sw1 ?_
  case sw1 => exact SW.mk id rfl (suN1 _ rfl ..) rfl ⟨.refl _, .refl _, .refl _, .refl _, .refl _, .refl _, VLe2.ro_of rfl, VLe2.int (by rw [hmA]), .refl _, trivial⟩ (haveV.one rfl trivial)
  clear hA
  refine LoopN.ind T_ok mixed (S := suS l A s st t) (fun i => A.length - i.1) (fun i => i.1 ≤ A.length ∧ (A.drop i.1).foldl (fun q x => l.foldl (inF s st t x) q) i.2 = R) (fun _ => rfl) (fun i hi ih => ?_) (0, 0, 0) ⟨Nat.zero_le _, hR⟩
  obtain ⟨j, q⟩ := i
  obtain ⟨h1, h2⟩ := hi
  dsimp only at h1 h2
  by_cases hlt : j < A.length
  case neg =>
    clear ih
    rw [List.drop_of_length_le (by omega)] at h2
    dsimp only [List.foldl_nil] at h2
    subst h2
    ((repeat ((conv => whnf); (first | (refine As.pre ?_; first | refine As.mk rfl ?_) | (refine LetB.pre ?_; first | refine LetB.decf (by omega) ?_) | (refine Br.pre ?_; first | refine Br.ff rfl ?_) | (refine Ck.pre ?_; first | refine Ck.mk rfl ?_)))); (try (conv => whnf)))
    exact ⟨.inl rfl, ⟨_, rfl, rfl⟩, trivial⟩
  have hld := stD hlt
  rw [foldl_drop (fun q x => l.foldl (inF s st t x) q) hlt ⟨0, 0, 0, false⟩] at h2
  generalize A.getD j ⟨0, 0, 0, false⟩ = x at hld h2
  have hnx := fun q' (h : (A.drop (j + 1)).foldl (fun q x => l.foldl (inF s st t x) q) q' = R) => ih (j + 1, q') ⟨by show j + 1 ≤ A.length; omega, h⟩ (by show A.length - (j + 1) < A.length - j; omega)
  clear ih hR
  ((repeat ((conv => whnf); (first | (refine LetN.pre ?_; first | ((conv => arg 1; whnf); refine LetN.mk ?_)) | (refine As.pre ?_; first | refine As.mk rfl ?_ | (refine As.mk ?_ ?_; · ((repeat' (refine andT ?_ ?_)) <;> (first | rfl | assumption | exact decide_eq_true (by omega) | exact decide_eq_true (by dsimp only; omega) | exact decide_eq_true (by simp; omega) | (simp; done))))) | (refine LetV.pre ?_; first | refine LetV.mk (t := 56) _ hld ?_ | refine LetV.mk (.agg _) rfl ?_) | (refine LetI.pre ?_; first | refine LetI.mk _ rfl ?_) | (refine LetB.pre ?_; first | refine LetB.dect (by omega) ?_) | (refine Br.pre ?_; first | refine Br.tt rfl ?_) | (refine Ck.pre ?_; first | refine Ck.mk rfl ?_) | (refine LetL.pre ?_; first | refine LetL.mk [_] rfl ?_)))); (try (conv => whnf)))
  clear hld
  refine LoopN.weak (s1 := suT l A s st t j x (0, q)) ?sw2 ?_
  case sw2 => exact SW.mk id rfl (suN2 _ rfl rfl ..) rfl ⟨.refl _, .refl _, .refl _, .refl _, .refl _, .refl _, .refl _, .refl _, .refl _, .refl _, VLe2.ro_of rfl, VLe2.int (by rw [hml]), .refl _, trivial⟩ (haveV.one rfl (haveV.one rfl trivial))
  refine LoopN.ind T_ok mixed (S := suT l A s st t j x) (fun i => l.length - i.1) (fun i => i.1 ≤ l.length ∧ (A.drop (j + 1)).foldl (fun q x => l.foldl (inF s st t x) q) ((l.drop i.1).foldl (inF s st t x) i.2) = R) (fun _ => rfl) (fun i hi ih => ?_) (0, q) ⟨Nat.zero_le _, h2⟩
  clear h2 q
  obtain ⟨k, q⟩ := i
  obtain ⟨h3, h4⟩ := hi
  dsimp only at h3 h4
  by_cases hk : k < l.length
  case neg =>
    clear ih
    rw [List.drop_of_length_le (by omega)] at h4
    have hnx := hnx q h4
    ((repeat ((conv => whnf); (first | (refine As.pre ?_; first | refine As.mk rfl ?_) | (refine LetI.pre ?_; first | refine LetI.wrap (by omega) (by omega) ?_) | (refine LetB.pre ?_; first | refine LetB.decf (by omega) ?_) | (refine Br.pre ?_; first | refine Br.ff rfl ?_) | (refine Ck.pre ?_; first | refine Ck.mk rfl ?_)))); (try (conv => whnf)))
    refine LoopN.weak ?sw3 hnx
    case sw3 => exact SW.mk id rfl (suN1 _ rfl ..) rfl ⟨.refl _, .refl _, .refl _, .refl _, .refl _, .refl _, .refl _, .refl _, VLe2.int (by omega), trivial⟩ (haveV.one rfl trivial)
  clear hnx
  rw [foldl_drop _ hk e0] at h4
  have hle := tmD hk
  have hoe := ho _ (getD_mem' hk)
  generalize l.getD k e0 = e at hle hoe h4
  have hP := Sc.Passed_f s x.grade
  obtain ⟨d, hd⟩ : ∃ d, d = e.on_ / 100 := ⟨_, rfl⟩
  have hq : d = e.on_.tdiv 100 := by rw [hd, Int.tdiv_eq_ediv_of_nonneg hoe.1]
  have hq2 : d = IntKind.i64.wrap (e.on_.tdiv 100) := by rw [← hq, wrap_id (by omega) (by omega)]
  obtain ⟨q', hq'⟩ : ∃ q', q' = inF s st t x q e := ⟨_, rfl⟩
  rw [← hq'] at h4
  have hnx := ih (k + 1, q') ⟨by show k + 1 ≤ l.length; omega, h4⟩ (by show l.length - (k + 1) < l.length - k; omega)
  clear ih h4
  unfold inF inB at hq'
  rw [← hd] at hq'
  clear hd hoe
  obtain ⟨xe, xb, xg, xv⟩ := x
  obtain ⟨p, f⟩ := q
  by_cases c1 : e.kind = 3
  case neg =>
    rw [decide_eq_false (fun h => c1 h.1), if_neg (by decide)] at hq'
    subst hq'
    ((repeat ((conv => whnf); (first | (refine LetN.pre ?_; first | ((conv => arg 1; whnf); refine LetN.mk ?_)) | (refine As.pre ?_; first | refine As.mk rfl ?_ | (refine As.mk ?_ ?_; · ((repeat' (refine andT ?_ ?_)) <;> (first | rfl | assumption | exact decide_eq_true (by omega) | exact decide_eq_true (by dsimp only; omega) | exact decide_eq_true (by simp; omega) | (simp; done))))) | (refine LetV.pre ?_; first | refine LetV.mk (t := 27) _ hle ?_ | refine LetV.mk (.sc (.int _ _)) rfl ?_ | refine LetV.mk (.agg _) rfl ?_) | (refine LetI.pre ?_; first | refine LetI.wrap (by omega) (by omega) ?_) | (refine LetB.pre ?_; first | refine LetB.dect (by omega) ?_ | refine LetB.bnet (by omega) ?_) | (refine Gd.pre ?_; first | refine Gd.pass rfl ?_) | (refine Br.pre ?_; first | refine Br.tt rfl ?_) | (refine Ck.pre ?_; first | refine Ck.mk rfl ?_) | (refine LetL.pre ?_; first | refine LetL.mk [_] rfl ?_)))); (try (conv => whnf)))






    refine LoopN.weak ?swa hnx
    case swa => exact SW.mk id rfl (suN2 _ rfl rfl ..) rfl ⟨.refl _, .refl _, .refl _, .refl _, .refl _, .refl _, .refl _, .refl _, .refl _, .refl _, .refl _, .refl _, VLe2.int (by omega), trivial⟩ (haveV.one rfl (haveV.one rfl trivial))
  by_cases c2 : e.id = xe
  case neg =>
    rw [decide_eq_false (fun h => c2 h.2.1), if_neg (by decide)] at hq'
    subst hq'
    ((repeat ((conv => whnf); (first | (refine LetN.pre ?_; first | ((conv => arg 1; whnf); refine LetN.mk ?_)) | (refine As.pre ?_; first | refine As.mk rfl ?_ | (refine As.mk ?_ ?_; · ((repeat' (refine andT ?_ ?_)) <;> (first | rfl | assumption | exact decide_eq_true (by omega) | exact decide_eq_true (by dsimp only; omega) | exact decide_eq_true (by simp; omega) | (simp; done))))) | (refine LetV.pre ?_; first | refine LetV.mk (t := 27) _ hle ?_ | refine LetV.mk (.sc (.int _ _)) rfl ?_ | refine LetV.mk (.agg _) rfl ?_) | (refine LetI.pre ?_; first | refine LetI.wrap (by omega) (by omega) ?_) | (refine LetB.pre ?_; first | refine LetB.dect (by omega) ?_ | refine LetB.bnet (by omega) ?_ | refine LetB.bnef (by omega) ?_) | (refine Gd.pre ?_; first | refine Gd.run rfl ?_ | refine Gd.pass rfl ?_) | (refine Br.pre ?_; first | refine Br.tt rfl ?_) | (refine Ck.pre ?_; first | refine Ck.mk rfl ?_) | (refine LetL.pre ?_; first | refine LetL.mk [_] rfl ?_)))); (try (conv => whnf)))






    refine LoopN.weak ?swb hnx
    case swb => exact SW.mk id rfl (suN2 _ rfl rfl ..) rfl ⟨.refl _, .refl _, .refl _, .refl _, .refl _, .refl _, .refl _, .refl _, .refl _, .refl _, .refl _, .refl _, VLe2.int (by omega), trivial⟩ (haveV.one rfl (haveV.one rfl trivial))
  by_cases c3 : e.student = st
  case neg =>
    rw [decide_eq_false (fun h => c3 h.2.2.1), if_neg (by decide)] at hq'
    subst hq'
    ((repeat ((conv => whnf); (first | (refine LetN.pre ?_; first | ((conv => arg 1; whnf); refine LetN.mk ?_)) | (refine As.pre ?_; first | refine As.mk rfl ?_ | (refine As.mk ?_ ?_; · ((repeat' (refine andT ?_ ?_)) <;> (first | rfl | assumption | exact decide_eq_true (by omega) | exact decide_eq_true (by dsimp only; omega) | exact decide_eq_true (by simp; omega) | (simp; done))))) | (refine LetV.pre ?_; first | refine LetV.mk (t := 27) _ hle ?_ | refine LetV.mk (.sc (.int _ _)) rfl ?_ | refine LetV.mk (.agg _) rfl ?_) | (refine LetI.pre ?_; first | refine LetI.wrap (by omega) (by omega) ?_) | (refine LetB.pre ?_; first | refine LetB.dect (by omega) ?_ | refine LetB.bnet (by omega) ?_ | refine LetB.bnef (by omega) ?_) | (refine Gd.pre ?_; first | refine Gd.run rfl ?_ | refine Gd.pass rfl ?_) | (refine Br.pre ?_; first | refine Br.tt rfl ?_) | (refine Ck.pre ?_; first | refine Ck.mk rfl ?_) | (refine LetL.pre ?_; first | refine LetL.mk [_] rfl ?_)))); (try (conv => whnf)))






    refine LoopN.weak ?swc hnx
    case swc => exact SW.mk id rfl (suN2 _ rfl rfl ..) rfl ⟨.refl _, .refl _, .refl _, .refl _, .refl _, .refl _, .refl _, .refl _, .refl _, .refl _, .refl _, .refl _, VLe2.int (by omega), trivial⟩ (haveV.one rfl (haveV.one rfl trivial))
  by_cases c4 : d = t
  case neg =>
    rw [decide_eq_false (fun h => c4 h.2.2.2), if_neg (by decide)] at hq'
    subst hq'
    ((repeat ((conv => whnf); (first | (refine LetN.pre ?_; first | ((conv => arg 1; whnf); refine LetN.mk ?_)) | (refine As.pre ?_; first | refine As.mk rfl ?_ | (refine As.mk ?_ ?_; · ((repeat' (refine andT ?_ ?_)) <;> (first | rfl | assumption | exact decide_eq_true (by omega) | exact decide_eq_true (by dsimp only; omega) | exact decide_eq_true (by simp; omega) | (simp; done))))) | (refine LetV.pre ?_; first | refine LetV.mk (t := 27) _ hle ?_ | refine LetV.mk (.sc (.int _ _)) rfl ?_ | refine LetV.mk (.agg _) rfl ?_) | (refine LetI.pre ?_; first | refine LetI.mk (o := some .quo) d hq2 ?_ | refine LetI.wrap (by omega) (by omega) ?_) | (refine LetB.pre ?_; first | refine LetB.dect (by omega) ?_ | refine LetB.bnet (by omega) ?_ | refine LetB.bnef (by omega) ?_) | (refine Gd.pre ?_; first | refine Gd.run rfl ?_) | (refine Br.pre ?_; first | refine Br.tt rfl ?_) | (refine Ck.pre ?_; first | refine Ck.mk rfl ?_) | (refine LetL.pre ?_; first | refine LetL.mk [_] rfl ?_)))); (try (conv => whnf)))






    refine LoopN.weak ?swd hnx
    case swd => exact SW.mk id rfl (suN2 _ rfl rfl ..) rfl ⟨.refl _, .refl _, .refl _, .refl _, .refl _, .refl _, .refl _, .refl _, .refl _, .refl _, .refl _, .refl _, VLe2.int (by omega), trivial⟩ (haveV.one rfl (haveV.one rfl trivial))
  rw [decide_eq_true ⟨c1, c2, c3, c4⟩, if_pos rfl] at hq'
  cases xv with
  | true =>
    have e1 : crS s (p, f) (⟨xe, xb, xg, true⟩, e.credits) = (p, IntKind.i64.wrap (f + e.credits)) := rfl
    rw [e1] at hq'
    subst hq'
    ((repeat ((conv => whnf); (first | (refine LetN.pre ?_; first | ((conv => arg 1; whnf); refine LetN.mk ?_)) | (refine As.pre ?_; first | refine As.mk rfl ?_ | (refine As.mk ?_ ?_; · ((repeat' (refine andT ?_ ?_)) <;> (first | rfl | assumption | exact decide_eq_true (by omega) | exact decide_eq_true (by dsimp only; omega) | exact decide_eq_true (by simp; omega) | (simp; done))))) | (refine LetV.pre ?_; first | refine LetV.mk (t := 27) _ hle ?_ | refine LetV.mk (.sc (.int _ _)) rfl ?_ | refine LetV.mk (.sc (.bool _)) rfl ?_ | refine LetV.mk (.agg _) rfl ?_) | (refine LetI.pre ?_; first | refine LetI.mk (o := some .quo) d hq2 ?_ | refine LetI.mk (o := some .add) (IntKind.i64.wrap (f + e.credits)) rfl ?_ | refine LetI.wrap (by omega) (by omega) ?_) | (refine LetB.pre ?_; first | refine LetB.dect (by omega) ?_ | refine LetB.bnef (by omega) ?_) | (refine Gd.pre ?_; first | refine Gd.run rfl ?_ | refine Gd.pass rfl ?_) | (refine Br.pre ?_; first | refine Br.tt rfl ?_ | refine Br.ff rfl ?_) | (refine Ck.pre ?_; first | refine Ck.mk rfl ?_) | (refine LetL.pre ?_; first | refine LetL.mk [_] rfl ?_)))); (try (conv => whnf)))






    refine LoopN.weak ?swe hnx
    case swe => exact SW.mk id rfl (suN2 _ rfl rfl ..) rfl ⟨.refl _, .refl _, .refl _, .refl _, .refl _, .refl _, .refl _, .refl _, .refl _, .refl _, .refl _, .refl _, VLe2.int (by omega), trivial⟩ (haveV.one rfl (haveV.one rfl trivial))
  | false =>
    by_cases hr : Sc.rea s xg s.2.2
    · have e1 : crS s (p, f) (⟨xe, xb, xg, false⟩, e.credits) = (IntKind.i64.wrap (p + e.credits), f) := by unfold crS psB; rw [decide_eq_true hr]; rfl
      rw [e1] at hq'
      rw [decide_eq_true hr] at hP
      subst hq'
      ((repeat ((conv => whnf); (first | (refine LetN.pre ?_; first | ((conv => arg 1; whnf); refine LetN.mk ?_)) | (refine As.pre ?_; first | refine As.mk rfl ?_ | (refine As.mk ?_ ?_; · ((repeat' (refine andT ?_ ?_)) <;> (first | rfl | assumption | exact decide_eq_true (by omega) | exact decide_eq_true (by dsimp only; omega) | exact decide_eq_true (by simp; omega) | (simp; done))))) | (refine LetV.pre ?_; first | refine LetV.mk (t := 27) _ hle ?_ | refine LetV.mk (.sc (.int _ _)) rfl ?_ | refine LetV.mk (.sc (.bool _)) rfl ?_ | refine LetV.mk (.agg _) rfl ?_) | (refine LetI.pre ?_; first | refine LetI.mk (o := some .quo) d hq2 ?_ | refine LetI.mk (o := some .add) (IntKind.i64.wrap (p + e.credits)) rfl ?_ | refine LetI.wrap (by omega) (by omega) ?_) | (refine LetB.pre ?_; first | refine LetB.dect (by omega) ?_ | refine LetB.bnef (by omega) ?_) | (refine Gd.pre ?_; first | refine Gd.run rfl ?_) | (refine Br.pre ?_; first | refine Br.tt rfl ?_ | refine Br.ff rfl ?_) | (refine Ck.pre ?_; first | refine Ck.mk rfl ?_) | (refine LetL.pre ?_; first | refine LetL.mk [_] rfl ?_) | (refine CallN.pre ?_; first | refine CallN.pure hP rfl rfl ?_)))); (try (conv => whnf)))






      refine LoopN.weak ?swf hnx
      case swf => exact SW.mk id rfl (suN2 _ rfl rfl ..) rfl ⟨.refl _, .refl _, .refl _, .refl _, .refl _, .refl _, .refl _, .refl _, .refl _, .refl _, .refl _, .refl _, VLe2.int (by omega), trivial⟩ (haveV.one rfl (haveV.one rfl trivial))
    · have e1 : crS s (p, f) (⟨xe, xb, xg, false⟩, e.credits) = (p, IntKind.i64.wrap (f + e.credits)) := by unfold crS psB; rw [decide_eq_false hr]; rfl
      rw [e1] at hq'
      rw [decide_eq_false hr] at hP
      subst hq'
      ((repeat ((conv => whnf); (first | (refine LetN.pre ?_; first | ((conv => arg 1; whnf); refine LetN.mk ?_)) | (refine As.pre ?_; first | refine As.mk rfl ?_ | (refine As.mk ?_ ?_; · ((repeat' (refine andT ?_ ?_)) <;> (first | rfl | assumption | exact decide_eq_true (by omega) | exact decide_eq_true (by dsimp only; omega) | exact decide_eq_true (by simp; omega) | (simp; done))))) | (refine LetV.pre ?_; first | refine LetV.mk (t := 27) _ hle ?_ | refine LetV.mk (.sc (.int _ _)) rfl ?_ | refine LetV.mk (.sc (.bool _)) rfl ?_ | refine LetV.mk (.agg _) rfl ?_) | (refine LetI.pre ?_; first | refine LetI.mk (o := some .quo) d hq2 ?_ | refine LetI.mk (o := some .add) (IntKind.i64.wrap (f + e.credits)) rfl ?_ | refine LetI.wrap (by omega) (by omega) ?_) | (refine LetB.pre ?_; first | refine LetB.dect (by omega) ?_ | refine LetB.bnef (by omega) ?_) | (refine Gd.pre ?_; first | refine Gd.run rfl ?_) | (refine Br.pre ?_; first | refine Br.tt rfl ?_ | refine Br.ff rfl ?_) | (refine Ck.pre ?_; first | refine Ck.mk rfl ?_) | (refine LetL.pre ?_; first | refine LetL.mk [_] rfl ?_) | (refine CallN.pre ?_; first | refine CallN.pure hP rfl rfl ?_)))); (try (conv => whnf)))






      refine LoopN.weak ?swg hnx
      case swg => exact SW.mk id rfl (suN2 _ rfl rfl ..) rfl ⟨.refl _, .refl _, .refl _, .refl _, .refl _, .refl _, .refl _, .refl _, .refl _, .refl _, .refl _, .refl _, VLe2.int (by omega), trivial⟩ (haveV.one rfl (haveV.one rfl trivial))
end En
end Go.Proofs.Ytnegdmjmllmclaa
namespace Go.Proofs.Ytnegdmjmllmclaa
open Go.Proofs.Ytnegdmjmllmclaa.Am
set_option maxRecDepth 100000
namespace En
/-! ### Grades of a term, by entries -/
theorem fidx_find {α : Type} (p : α → Bool) (d : α) : ∀ (l : List α) (k : Nat), (fidx p l k < 0 ∧ l.find? p = none) ∨ ∃ i, i < l.length ∧ fidx p l k = ((k + i : Nat) : Int) ∧ l.find? p = some (l.getD i d)
  | [], _ => .inl ⟨by simp [fidx], rfl⟩
  | x :: l, k => by
    simp only [fidx]
    by_cases h : p x = true
    · rw [if_pos h]
      exact .inr ⟨0, by simp, rfl, by rw [List.find?_cons_of_pos h]; rfl⟩
    · rw [if_neg h, List.find?_cons_of_neg h]
      rcases fidx_find p d l (k + 1) with h1 | ⟨i, h1, h2, h3⟩
      · exact .inl h1
      · exact .inr ⟨i + 1, by simpa using h1, by rw [h2]; omega, by rw [h3]; rfl⟩
theorem gsel_find (l : List E) (st t : Int) (x : St) : gsel l st t x = (l.find? (isG x.entry)).bind fun e => if e.student = st ∧ e.on_ / 100 = t then some (x, e.credits) else none := by
  unfold gsel
  rcases fidx_find (isG x.entry) e0 l 0 with ⟨h1, h2⟩ | ⟨i, h1, h2, h3⟩
  · rw [if_pos h1, h2]; rfl
  · rw [h2, h3, if_neg (by omega)]
    have : ((0 + i : Nat) : Int).toNat = i := by omega
    rw [this]; rfl
theorem inF_none {s : Sc.Scl} {st t : Int} {x : St} : ∀ {l : List E} (q : Int × Int), (∀ e ∈ l, e.id ≠ x.entry) → l.foldl (inF s st t x) q = q
  | [], _, _ => rfl
  | e :: l, q, h => by
    have h1 : inF s st t x q e = q := by
      unfold inF inB
      rw [decide_eq_false (fun hh => h e (List.mem_cons_self ..) hh.2.1), if_neg (by decide)]
    rw [List.foldl_cons, h1]
    exact inF_none q fun e he => h e (List.mem_cons_of_mem _ he)
theorem inF_find {s : Sc.Scl} {st t : Int} {x : St} : ∀ {l : List E} (q : Int × Int), up l → l.foldl (inF s st t x) q = match ((l.find? (isG x.entry)).bind fun e => if e.student = st ∧ e.on_ / 100 = t then some (x, e.credits) else none) with | some y => crS s q y | none => q
  | [], _, _ => rfl
  | e :: l, q, h => by
    obtain ⟨h1, h2⟩ := List.pairwise_cons.1 h
    rw [List.foldl_cons]
    by_cases hg : e.kind = 3 ∧ e.id = x.entry
    · rw [List.find?_cons_of_pos (show isG x.entry e = true from decide_eq_true hg), inF_none _ fun e' he' => by have := h1 e' he'; omega]
      unfold inF inB
      by_cases c : e.student = st ∧ e.on_ / 100 = t
      · rw [decide_eq_true ⟨hg.1, hg.2, c.1, c.2⟩, if_pos rfl]
        show _ = match (if e.student = st ∧ e.on_ / 100 = t then some (x, e.credits) else none) with | some y => crS s q y | none => q
        rw [if_pos c]
      · rw [decide_eq_false (fun hh => c ⟨hh.2.2.1, hh.2.2.2⟩), if_neg (by decide)]
        show _ = match (if e.student = st ∧ e.on_ / 100 = t then some (x, e.credits) else none) with | some y => crS s q y | none => q
        rw [if_neg c]
    · rw [List.find?_cons_of_neg (show ¬ isG x.entry e = true from fun hh => hg (of_decide_eq_true hh))]
      have h1 : inF s st t x q e = q := by
        unfold inF inB
        rw [decide_eq_false (fun hh => hg ⟨hh.1, hh.2.1⟩), if_neg (by decide)]
      rw [h1]
      exact inF_find q h2
theorem suP_eq {l : List E} (h : up l) (s : Sc.Scl) (st a t : Int) : suP l s st a t = crP s (grdP l st a t) := by
  unfold suP crP grdP
  rw [List.foldl_filterMap]
  congr 1
  funext q x
  rw [inF_find q h, gsel_find]
  cases (List.find? (isG x.entry) l).bind fun e => if e.student = st ∧ e.on_ / 100 = t then some (x, e.credits) else none <;> rfl
theorem up_id {l : List E} (h : up l) {a b : E} (ha : a ∈ l) (hb : b ∈ l) (e : a.id = b.id) : a = b := by
  obtain ⟨i, hi, rfl⟩ := List.mem_iff_getElem.1 ha
  obtain ⟨j, hj, rfl⟩ := List.mem_iff_getElem.1 hb
  have hp := List.pairwise_iff_getElem.1 h
  rcases Nat.lt_trichotomy i j with h1 | h1 | h1
  · have := hp i j hi hj h1; omega
  · subst h1; rfl
  · have := hp j i hj hi h1; omega
theorem find_up {l : List E} (h : up l) {g : E} (hg : g ∈ l) (hk : g.kind = 3) : l.find? (isG g.id) = some g := by
  cases hf : l.find? (isG g.id) with
  | none => exact absurd (decide_eq_true ⟨hk, rfl⟩) (List.find?_eq_none.1 hf g hg)
  | some e =>
    have h1 := List.find?_some hf
    have h2 := of_decide_eq_true h1
    rw [up_id h (List.mem_of_find?_eq_some hf) hg h2.2]
/-- The grades of a student and a term that count. -/
def tgB (st a t : Int) (g : E) : Bool := decide (g.kind = 3 ∧ g.day ≤ a ∧ g.on_ ≤ 100 * t + 99 ∧ g.student = st ∧ g.on_ / 100 = t)
theorem grd_up {l : List E} (h : up l) (st a t : Int) : grdP l st a t = (l.filter (tgB st a t)).map fun g => (stS l a (100 * t + 99) g, g.credits) := by
  rw [grdP, atP_up h, List.filterMap_map]
  have : ∀ L : List E, (∀ g ∈ L, g ∈ l) → List.filterMap (gsel l st t ∘ stS l a (100 * t + 99)) (L.filter (grB a (100 * t + 99))) = (L.filter (tgB st a t)).map fun g => (stS l a (100 * t + 99) g, g.credits) := by
    intro L hL
    induction L with
    | nil => rfl
    | cons g L ih =>
      have ih := ih fun x hx => hL x (List.mem_cons_of_mem _ hx)
      by_cases hg : g.kind = 3 ∧ g.day ≤ a ∧ g.on_ ≤ 100 * t + 99
      · rw [List.filter_cons_of_pos (show grB a (100 * t + 99) g = true from decide_eq_true hg), List.filterMap_cons]
        have e : (gsel l st t ∘ stS l a (100 * t + 99)) g = if g.student = st ∧ g.on_ / 100 = t then some (stS l a (100 * t + 99) g, g.credits) else none := by
          show gsel l st t (stS l a (100 * t + 99) g) = _
          rw [gsel_find]
          have : (stS l a (100 * t + 99) g).entry = g.id := rfl
          rw [this, find_up h (hL g (List.mem_cons_self ..)) hg.1]; rfl
        rw [e]
        by_cases c : g.student = st ∧ g.on_ / 100 = t
        · rw [if_pos c, List.filter_cons_of_pos (show tgB st a t g = true from decide_eq_true ⟨hg.1, hg.2.1, hg.2.2, c.1, c.2⟩), List.map_cons, ih]
        · rw [if_neg c, List.filter_cons_of_neg (by unfold tgB; rw [decide_eq_false (fun hh => c hh.2.2.2)]; decide), ih]
      · rw [List.filter_cons_of_neg (show ¬ grB a (100 * t + 99) g = true from fun hh => hg (of_decide_eq_true hh)), List.filter_cons_of_neg (by unfold tgB; rw [decide_eq_false (fun hh => hg ⟨hh.1, hh.2.1, hh.2.2.1⟩)]; decide), ih]
  exact this l fun _ hg => hg
theorem foldl_min_le : ∀ (l : List Int) (x : Int), l.foldl min x ≤ x ∧ (∀ y ∈ l, l.foldl min x ≤ y) ∧ (l.foldl min x = x ∨ l.foldl min x ∈ l)
  | [], x => ⟨Int.le_refl _, fun _ h => absurd h List.not_mem_nil, .inl rfl⟩
  | z :: l, x => by
    obtain ⟨h1, h2, h3⟩ := foldl_min_le l (min x z)
    refine ⟨by rw [List.foldl_cons]; omega, fun y hy => ?_, ?_⟩
    · rw [List.foldl_cons]
      rcases List.mem_cons.1 hy with rfl | hy
      · omega
      · exact h2 y hy
    · rw [List.foldl_cons]
      rcases h3 with h3 | h3
      · rw [h3]
        by_cases hc : x ≤ z
        · left; omega
        · right; exact List.mem_cons.2 (.inl (by omega))
      · right; exact List.mem_cons_of_mem _ h3
theorem foldl_max_ge : ∀ (l : List Int) (x : Int), x ≤ l.foldl max x ∧ (∀ y ∈ l, y ≤ l.foldl max x)
  | [], x => ⟨Int.le_refl _, fun _ h => absurd h List.not_mem_nil⟩
  | z :: l, x => by
    obtain ⟨h1, h2⟩ := foldl_max_ge l (max x z)
    refine ⟨by rw [List.foldl_cons]; omega, fun y hy => ?_⟩
    rw [List.foldl_cons]
    rcases List.mem_cons.1 hy with rfl | hy
    · omega
    · exact h2 y hy
theorem minP_mem {l : List Int} (h : l ≠ []) : minP l ∈ l ∧ ∀ y ∈ l, minP l ≤ y := by
  cases l with
  | nil => exact absurd rfl h
  | cons x l =>
    obtain ⟨h1, h2, h3⟩ := foldl_min_le l x
    refine ⟨?_, fun y hy => ?_⟩
    · rcases h3 with h3 | h3
      · exact List.mem_cons.2 (.inl h3)
      · exact List.mem_cons_of_mem _ h3
    · rcases List.mem_cons.1 hy with rfl | hy
      · exact h1
      · exact h2 y hy
theorem maxP_ge {l : List Int} : ∀ y ∈ l, y ≤ maxP l := by
  cases l with
  | nil => exact fun _ h => absurd h List.not_mem_nil
  | cons x l =>
    obtain ⟨h1, h2⟩ := foldl_max_ge l x
    intro y hy
    rcases List.mem_cons.1 hy with rfl | hy
    · exact h1
    · exact h2 y hy
/-- Terms of entries with days from 0 on. -/
abbrev okO (l : List E) : Prop := ∀ e ∈ l, 0 ≤ e.on_ ∧ e.on_ ≤ 1000
theorem M10.okO {sc day : Int} {l : List E} (h : M10 sc day l) (hd : day ≤ 1000) : okO l := fun e he => by
  have h1 := (h.ok e he).day
  have h2 := (h.ok e he).on
  omega
theorem trm_nn {l : List E} (ho : okO l) {st a x : Int} (hx : x ∈ trmP l st a) : 0 ≤ x ∧ x ≤ 10 := by
  obtain ⟨e, he, rfl⟩ := List.mem_map.1 hx
  have := ho e (List.mem_filter.1 he).1
  omega
theorem grd_nil {l : List E} (h : up l) {st a t : Int} (hx : t ∉ trmP l st a) : grdP l st a t = [] := by
  rw [grd_up h]
  have : l.filter (tgB st a t) = [] := List.filter_eq_nil_iff.2 fun g hg hh => by
    have hh := of_decide_eq_true hh
    exact hx (List.mem_map.2 ⟨g, List.mem_filter.2 ⟨hg, decide_eq_true ⟨hh.1, hh.2.2.2.1, hh.2.1⟩⟩, hh.2.2.2.2⟩)
  rw [this]; rfl
theorem stdL_b (l : List E) (s : Sc.Scl) (st a f : Int) : ∀ k, 0 ≤ stdL l s st a f k ∧ stdL l s st a f k ≤ 3
  | 0 => ⟨Int.le_refl _, Int.le_of_lt (by show (0 : Int) < 3; decide)⟩
  | k + 1 => by
    rw [stdL]; unfold stdS
    split
    · omega
    · split <;> omega
theorem std_skip {l : List E} {s : Sc.Scl} {st a t : Int} (h : trmP l st a = [] ∨ t < minP (trmP l st a) ∨ 100 * t + 99 > a) : stdP l s st a t = 0 := by
  unfold stdP
  rw [if_pos]
  rcases h with h | h | h
  · exact .inl h
  · exact .inr (.inr h)
  · exact .inr (.inl (decide_eq_false fun hh => by omega))
theorem std_go {l : List E} {s : Sc.Scl} {st a t : Int} (ho : okO l) (h : trmP l st a ≠ []) (h1 : minP (trmP l st a) ≤ t) (h2 : 100 * t + 99 ≤ a) (h3 : t ≤ 1000) :
    stdP l s st a t = stdS (crP s (grdP l st a t)) (stdL l s st a (minP (trmP l st a)) (t - minP (trmP l st a)).toNat) := by
  have h0 := (trm_nn ho (minP_mem h).1).1
  unfold stdP
  have hf : fstP l st a = minP (trmP l st a) := by unfold fstP; omega
  rw [if_neg, hf]
  · generalize minP (trmP l st a) = f at h0 h1 ⊢
    have e1 : (t - f + 1).toNat = (t - f).toNat + 1 := by omega
    have e2 : f + ((t - f).toNat : Int) = t := by omega
    rw [e1, stdL, e2]
  · rintro (hh | hh | hh)
    · exact h hh
    · have := of_decide_eq_false hh; omega
    · omega
/-! ### The law of bad terms -/
/-- What the law keeps: the standing before. -/
def badI (l : List E) (s : Sc.Scl) (st a : Int) (t : Int) (b : Int) : Prop :=
  (0 ≤ b ∧ b ≤ 3) ∧ (trmP l st a ≠ [] → (t ≤ minP (trmP l st a) → b = 0) ∧ (minP (trmP l st a) ≤ t → (t = minP (trmP l st a) ∨ 100 * (t - 1) + 99 ≤ a) → b = stdL l s st a (minP (trmP l st a)) (t - minP (trmP l st a)).toNat))
theorem bad0 {l : List E} (s : Sc.Scl) {st a : Int} (ho : okO l) : badI l s st a 0 0 := ⟨by decide, fun h => ⟨fun _ => rfl, fun h1 _ => by
  have := (trm_nn ho (minP_mem h).1).1
  have e : minP (trmP l st a) = 0 := by omega
  rw [e]; rfl⟩⟩
theorem bad_skip {l : List E} {s : Sc.Scl} {st a t b : Int} (h : badI l s st a t b) (hs : trmP l st a = [] ∨ t < minP (trmP l st a) ∨ 100 * t + 99 > a) : badI l s st a (t + 1) b := by
  refine ⟨h.1, fun hn => ⟨fun h1 => (h.2 hn).1 (by omega), fun h1 h2 => ?_⟩⟩
  by_cases hs' : t < minP (trmP l st a)
  · rw [(h.2 hn).1 (by omega)]
    have e : (t + 1 - minP (trmP l st a)).toNat = 0 := by omega
    rw [e]; rfl
  rcases hs with hs | hs | hs
  · exact absurd hs hn
  · exact absurd hs hs'
  · exfalso; omega
theorem bad_go {l : List E} {s : Sc.Scl} {st a t b : Int} (ho : okO l) (h : badI l s st a t b) (hn : trmP l st a ≠ []) (h1 : minP (trmP l st a) ≤ t) (h2 : 100 * t + 99 ≤ a) (h3 : t ≤ 1000) :
    stdP l s st a t = stdS (crP s (grdP l st a t)) b ∧ badI l s st a (t + 1) (stdP l s st a t) := by
  have hb := (h.2 hn).2 h1 (.inr (by omega))
  have e := std_go (s := s) ho hn h1 h2 h3
  rw [← hb] at e
  refine ⟨e, ?_, fun _ => ⟨fun hh => by omega, fun _ _ => ?_⟩⟩
  · rw [e]; unfold stdS
    split
    · omega
    · split <;> omega
  · have e1 : (t + 1 - minP (trmP l st a)).toNat = (t - minP (trmP l st a)).toNat + 1 := by omega
    have e2 : minP (trmP l st a) + ((t - minP (trmP l st a)).toNat : Int) = t := by omega
    rw [e, e1, stdL, e2, hb]
theorem bad_last {l : List E} {s : Sc.Scl} {st a t : Int} (h : up l) (hl : maxP (trmP l st a) < t) : crP s (grdP l st a t) = (0, 0) := by
  rw [grd_nil h]; · rfl
  intro hx
  have := maxP_ge _ hx
  omega
theorem min_le_max {l : List Int} (h : l ≠ []) : minP l ≤ maxP l := maxP_ge _ (minP_mem h).1
end En
end Go.Proofs.Ytnegdmjmllmclaa
namespace Go.Proofs.Ytnegdmjmllmclaa
open Go.Proofs.Ytnegdmjmllmclaa.Am
set_option maxRecDepth 100000
namespace En
/-! ### One grade more -/
theorem lifted_app (R : List E) (e : E) (he : e.kind = 3) (f a o : Int) : liftedP (R ++ [e]) f a o = liftedP R f a o := by
  unfold liftedP
  rw [List.any_append]
  have : ([e].any fun e => decide (e.kind = 6) && decide (e.ref = f) && decide (e.day ≤ a ∧ e.on_ ≤ o)) = false := by
    rw [List.any_cons, decide_eq_false (fun h : e.kind = 6 => by omega)]; rfl
  rw [this, Bool.or_false]
theorem chos_app (R : List E) (e : E) (he : e.kind = 3) (k r : Int) (hk : k ≠ 3) : chos (R ++ [e]) [cOf k, cTo r] = chos R [cOf k, cTo r] := by
  unfold chos
  rw [List.filter_append]
  have : [e].filter (fun e => [cOf k, cTo r].all (·.p e)) = [] := List.filter_eq_nil_iff.2 fun x hx hh => by
    rw [List.mem_singleton.1 hx] at hh
    have := (Bool.and_eq_true _ _ ▸ hh : _ ∧ _).1
    exact hk ((of_decide_eq_true this).symm.trans he)
  rw [this, List.append_nil]
theorem stand_app (R : List E) (e : E) (he : e.kind = 3) (a o : Int) (g : E) : stand (R ++ [e]) a o g = stand R a o g := by
  unfold stand corr voidP
  rw [chos_app R e he 4 _ (by decide), chos_app R e he 5 _ (by decide)]
  have : (fun f : E => !liftedP (R ++ [e]) f.id a o) = fun f => !liftedP R f.id a o := by
    funext f; rw [lifted_app R e he]
  rw [this]
theorem up_app {l : List E} {e : E} (h : up l) (hi : ∀ x ∈ l, x.id < e.id) : up (l ++ [e]) :=
  List.pairwise_append.2 ⟨h, List.pairwise_singleton _ _, fun x hx y hy => by rw [List.mem_singleton.1 hy]; exact hi x hx⟩
theorem stS_app {l : List E} {e : E} (h : up l) (hi : ∀ x ∈ l, x.id < e.id) (he : e.kind = 3) (a o : Int) (g : E) : stS (l ++ [e]) a o g = stS l a o g := by
  show stand (atR (l ++ [e]) a o) a o g = stand (atR l a o) a o g
  rw [atR_up (up_app h hi), atR_up h, List.filter_append]
  by_cases c : cntB a o e = true
  · rw [List.filter_cons_of_pos c]
    exact stand_app _ e he a o g
  · rw [List.filter_cons_of_neg c]
    simp
/-- A grade that nothing refers to. -/
theorem stS_free {l : List E} {e : E} (h : up l) (hr : ∀ x ∈ l, refsK x.kind → x.ref ≠ e.id) (a o : Int) : stS l a o e = ⟨e.id, 0, e.grade, false⟩ := by
  show stand (atR l a o) a o e = _
  rw [atR_up h]
  have hn : ∀ k, refsK k → chos (l.filter (cntB a o)) [cOf k, cTo e.id] = [] := fun k hk => List.filter_eq_nil_iff.2 fun x hx hh => by
    have h1 := (Bool.and_eq_true _ _ ▸ hh : _ ∧ _)
    have h2 := of_decide_eq_true h1.1
    have h3 := (Bool.and_eq_true _ _ ▸ h1.2 : _ ∧ _).1
    exact hr x (List.mem_filter.1 hx).1 (h2 ▸ hk) (of_decide_eq_true h3)
  unfold stand corr voidP
  rw [hn 4 (.inl rfl), hn 5 (.inr (.inl rfl))]
  rfl
theorem M10.mem_ref {sc day : Int} {l : List E} (h : M10 sc day l) : ∀ x ∈ l, refsK x.kind → ∃ y ∈ l, y.id = x.ref ∧ y.student = x.student ∧ y.kind = tgt x.kind ∧ y.on_ ≤ x.on_ := fun x hx hk => by
  obtain ⟨i, hi, rfl⟩ := List.mem_iff_getElem.1 hx
  have e : l.getD i e0 = l[i] := by rw [List.getD_eq_getElem?_getD, List.getElem?_eq_getElem hi]; rfl
  obtain ⟨j, hj, h1, h2, h3, h4⟩ := h.refs i hi (e ▸ hk)
  rw [e] at h1 h2 h3 h4
  exact ⟨l.getD j e0, getD_mem' (by omega), h1, h2, h3, h4⟩
theorem grd_app {l : List E} {e : E} (h : up l) (hi : ∀ x ∈ l, x.id < e.id) (he : e.kind = 3) (hr : ∀ x ∈ l, refsK x.kind → x.ref ≠ e.id) (st a t : Int) :
    grdP (l ++ [e]) st a t = grdP l st a t ++ if tgB st a t e then [(⟨e.id, 0, e.grade, false⟩, e.credits)] else [] := by
  rw [grd_up (up_app h hi), grd_up h, List.filter_append, List.map_append]
  congr 1
  · exact List.map_congr_left fun g _ => by rw [stS_app h hi he]
  · by_cases c : tgB st a t e = true
    · rw [List.filter_cons_of_pos c, if_pos c]
      show [(stS (l ++ [e]) a (100 * t + 99) e, e.credits)] = _
      rw [stS_app h hi he, stS_free h hr]
    · rw [List.filter_cons_of_neg c, if_neg c]; rfl
theorem crP_app (s : Sc.Scl) (L M : List (St × Int)) : crP s (L ++ M) = M.foldl (crS s) (crP s L) := List.foldl_append ..
theorem crF_b (s : Sc.Scl) : ∀ (L : List (St × Int)) (q : Int × Int), (∀ y ∈ L, 0 ≤ y.2 ∧ y.2 ≤ 100) → L.length ≤ 1000 → (0 ≤ q.1 ∧ q.1 + 100 * L.length ≤ 1000000) → (0 ≤ q.2 ∧ q.2 + 100 * L.length ≤ 1000000) →
    (q.1 ≤ (L.foldl (crS s) q).1 ∧ (L.foldl (crS s) q).1 ≤ q.1 + 100 * L.length) ∧ (q.2 ≤ (L.foldl (crS s) q).2 ∧ (L.foldl (crS s) q).2 ≤ q.2 + 100 * L.length)
  | [], q, _, _, _, _ => by simp
  | y :: L, q, h, hl, h1, h2 => by
    have hy := h y (List.mem_cons_self ..)
    rw [List.length_cons] at h1 h2 hl ⊢
    rw [List.foldl_cons]
    have hq : (crS s q y = (q.1 + y.2, q.2) ∨ crS s q y = (q.1, q.2 + y.2)) := by
      unfold crS
      split
      · left; rw [wrap_id (by omega) (by omega)]
      · right; rw [wrap_id (by omega) (by omega)]
    have h3 := crF_b s L (crS s q y) (fun z hz => h z (List.mem_cons_of_mem _ hz)) (by omega)
    rcases hq with hq | hq
    · rw [hq] at h3 ⊢
      have := h3 (by dsimp only; omega) (by dsimp only; omega)
      dsimp only at this
      omega
    · rw [hq] at h3 ⊢
      have := h3 (by dsimp only; omega) (by dsimp only; omega)
      dsimp only at this
      omega
abbrev okC (l : List E) : Prop := ∀ e ∈ l, 0 ≤ e.credits ∧ e.credits ≤ 100
theorem grd_cr {l : List E} (h : up l) (hc : okC l) (st a t : Int) : ∀ y ∈ grdP l st a t, 0 ≤ y.2 ∧ y.2 ≤ 100 := fun y hy => by
  rw [grd_up h] at hy
  obtain ⟨g, hg, rfl⟩ := List.mem_map.1 hy
  exact hc g (List.mem_filter.1 hg).1
theorem cr_b {l : List E} (h : up l) (hc : okC l) (hl : l.length ≤ 1000) (s : Sc.Scl) (st a t : Int) : (0 ≤ (crP s (grdP l st a t)).1 ∧ (crP s (grdP l st a t)).1 ≤ 100000) ∧ (0 ≤ (crP s (grdP l st a t)).2 ∧ (crP s (grdP l st a t)).2 ≤ 100000) := by
  have hg := grd_len l st a t
  have := crF_b s (grdP l st a t) (0, 0) (grd_cr h hc st a t) (by omega) (by dsimp only; omega) (by dsimp only; omega)
  unfold crP
  dsimp only at this
  omega
theorem cr_more {l : List E} {e : E} (h : up l) (hi : ∀ x ∈ l, x.id < e.id) (he : e.kind = 3) (hr : ∀ x ∈ l, refsK x.kind → x.ref ≠ e.id) (hc : okC l) (hl : l.length ≤ 1000) (hec : 0 ≤ e.credits ∧ e.credits ≤ 100) (s : Sc.Scl) (hb : Sc.rea s e.grade s.2.2) (st a t : Int) :
    (crP s (grdP (l ++ [e]) st a t)).2 = (crP s (grdP l st a t)).2 ∧ (crP s (grdP l st a t)).1 ≤ (crP s (grdP (l ++ [e]) st a t)).1 := by
  have hb1 := cr_b h hc hl s st a t
  rw [grd_app h hi he hr, crP_app]
  split
  · rw [List.foldl_cons, List.foldl_nil]
    have : crS s (crP s (grdP l st a t)) (⟨e.id, 0, e.grade, false⟩, e.credits) = (IntKind.i64.wrap ((crP s (grdP l st a t)).1 + e.credits), (crP s (grdP l st a t)).2) := by
      unfold crS psB
      dsimp only
      rw [decide_eq_true hb]; rfl
    rw [this, wrap_id (by omega) (by omega)]
    dsimp only
    omega
  · exact ⟨rfl, Int.le_refl _⟩
/-! ### No standing gets worse -/
theorem minP_app {l : List Int} (h : l ≠ []) (x : Int) : minP (l ++ [x]) = min (minP l) x := by
  cases l with
  | nil => exact absurd rfl h
  | cons y l => show (l ++ [x]).foldl min y = _; rw [List.foldl_append]; rfl
theorem trm_app (l : List E) (e : E) (st a : Int) (h : tmB st a e = true) : trmP (l ++ [e]) st a = trmP l st a ++ [e.on_ / 100] := by
  unfold trmP
  rw [List.filter_append, List.filter_cons_of_pos h, List.map_append]; rfl
theorem stdS_one (q : Int × Int) (x : Int) : 1 ≤ stdS q x := by
  unfold stdS
  split
  · omega
  · split <;> omega
theorem stdS_mono {p p' d x x' : Int} (h : p ≤ p') (hx : x' ≤ x ∨ x' ≤ 1) : stdS (p', d) x' ≤ stdS (p, d) x := by
  have h1 := stdS_one (p, d) x
  unfold stdS at h1 ⊢
  dsimp only at h1 ⊢
  by_cases c : d ≤ p'
  · rw [if_pos c]; exact h1
  · rw [if_neg c, if_neg (show ¬ d ≤ p by omega)]
    by_cases c2 : x' ≥ 2
    · rw [if_pos c2, if_pos (by omega)]; omega
    · rw [if_neg c2]
      by_cases c3 : x ≥ 2
      · rw [if_pos c3]; omega
      · rw [if_neg c3]; omega
theorem std_run {s : Sc.Scl} {st a f f' : Int} {l m : List E} (hcr : ∀ t, (crP s (grdP m st a t)).2 = (crP s (grdP l st a t)).2 ∧ (crP s (grdP l st a t)).1 ≤ (crP s (grdP m st a t)).1) (k0 : Nat) (hf : f = f' + k0) (h0 : stdL m s st a f' k0 ≤ 1) : ∀ k, stdL m s st a f' (k0 + k) ≤ stdL l s st a f k ∨ stdL m s st a f' (k0 + k) ≤ 1
  | 0 => .inr h0
  | k + 1 => by
    left
    have ih := std_run hcr k0 hf h0 k
    have e1 : k0 + (k + 1) = (k0 + k) + 1 := rfl
    rw [e1, stdL, stdL]
    have e2 : f' + ((k0 + k : Nat) : Int) = f + (k : Int) := by omega
    rw [e2]
    have := hcr (f + (k : Int))
    generalize crP s (grdP m st a (f + k)) = q' at this ⊢
    generalize crP s (grdP l st a (f + k)) = q at this ⊢
    obtain ⟨p, d⟩ := q
    obtain ⟨p', d'⟩ := q'
    dsimp only at this
    obtain ⟨rfl, hp⟩ := this
    exact stdS_mono hp ih
theorem std_low {s : Sc.Scl} {st a f' : Int} {m : List E} : ∀ k : Nat, (∀ j, j < k → (crP s (grdP m st a (f' + (j : Nat)))).2 ≤ (crP s (grdP m st a (f' + (j : Nat)))).1) → stdL m s st a f' k ≤ 1
  | 0, _ => by show (0 : Int) ≤ 1; decide
  | k + 1, h => by
    rw [stdL]; unfold stdS
    rw [if_pos (h k (Nat.lt_succ_self k))]
    omega
theorem more_std {l : List E} {e : E} (h : up l) (hi : ∀ x ∈ l, x.id < e.id) (he : e.kind = 3) (hr : ∀ x ∈ l, refsK x.kind → x.ref ≠ e.id) (hc : okC l) (hl : l.length ≤ 1000) (hec : 0 ≤ e.credits ∧ e.credits ≤ 100) (s : Sc.Scl) (hb : Sc.rea s e.grade s.2.2) (ho : okO l) (heo : 0 ≤ e.on_ ∧ e.on_ ≤ 1000) (st a : Int) (htm : tmB st a e = true) (hn : trmP l st a ≠ []) (t : Int) (ht : t ≤ 1000) :
    (minP (trmP l st a) ≤ t → stdP (l ++ [e]) s st a t ≤ stdP l s st a t) ∧ (t < minP (trmP l st a) → stdP (l ++ [e]) s st a t ≤ 1) := by
  have hcr := fun t => cr_more h hi he hr hc hl hec s hb st a t
  have hTm := trm_app l e st a htm
  have hn' : trmP (l ++ [e]) st a ≠ [] := by rw [hTm]; simp
  have hmin : minP (trmP (l ++ [e]) st a) = min (minP (trmP l st a)) (e.on_ / 100) := by rw [hTm, minP_app hn]
  have ho' : okO (l ++ [e]) := fun x hx => by
    rcases List.mem_append.1 hx with hx | hx
    · exact ho x hx
    · rw [List.mem_singleton.1 hx]; exact heo
  have hF0 := (trm_nn ho' (minP_mem hn').1).1
  have hle : minP (trmP (l ++ [e]) st a) ≤ minP (trmP l st a) := by omega
  obtain ⟨k0, hk0⟩ : ∃ k0 : Nat, minP (trmP l st a) = minP (trmP (l ++ [e]) st a) + k0 := ⟨(minP (trmP l st a) - minP (trmP (l ++ [e]) st a)).toNat, by omega⟩
  have hlow : ∀ k : Nat, k ≤ k0 → stdL (l ++ [e]) s st a (minP (trmP (l ++ [e]) st a)) k ≤ 1 := fun k hk => std_low k fun j hj => by
    have h1 := hcr (minP (trmP (l ++ [e]) st a) + (j : Nat))
    have h2 : grdP l st a (minP (trmP (l ++ [e]) st a) + (j : Nat)) = [] := grd_nil h fun hx => by
      have := (minP_mem hn).2 _ hx
      omega
    rw [h2] at h1
    have h3 : crP s [] = (0, 0) := rfl
    rw [h3] at h1
    dsimp only at h1
    omega
  by_cases hend : 100 * t + 99 > a
  · rw [std_skip (.inr (.inr hend)), std_skip (.inr (.inr hend))]
    exact ⟨fun _ => Int.le_refl _, fun _ => by decide⟩
  by_cases ht0 : t < minP (trmP (l ++ [e]) st a)
  · rw [std_skip (l := l ++ [e]) (.inr (.inl ht0))]
    refine ⟨fun hh => by omega, fun _ => by decide⟩
  have hgo' := std_go (s := s) ho' hn' (by omega) (by omega) ht
  obtain ⟨k, hk⟩ : ∃ k : Nat, t = minP (trmP (l ++ [e]) st a) + k := ⟨(t - minP (trmP (l ++ [e]) st a)).toNat, by omega⟩
  have e1 : (t - minP (trmP (l ++ [e]) st a)).toNat = k := by omega
  rw [e1] at hgo'
  have e2 : stdP (l ++ [e]) s st a t = stdL (l ++ [e]) s st a (minP (trmP (l ++ [e]) st a)) (k + 1) := by rw [hgo', stdL, ← hk]
  refine ⟨fun hh => ?_, fun hh => ?_⟩
  · have hgo := std_go (s := s) ho hn hh (by omega) ht
    obtain ⟨j, hj⟩ : ∃ j : Nat, t = minP (trmP l st a) + j := ⟨(t - minP (trmP l st a)).toNat, by omega⟩
    have e3 : (t - minP (trmP l st a)).toNat = j := by omega
    rw [e3] at hgo
    have e4 : stdP l s st a t = stdL l s st a (minP (trmP l st a)) (j + 1) := by rw [hgo, stdL, ← hj]
    have hrun := std_run hcr k0 hk0 (hlow k0 (Nat.le_refl _)) (j + 1)
    have e5 : k0 + (j + 1) = k + 1 := by omega
    rw [e5, ← e2, ← e4] at hrun
    rcases hrun with hrun | hrun
    · exact hrun
    · have : 1 ≤ stdP l s st a t := by rw [hgo]; exact stdS_one _ _
      omega
  · rw [e2]
    exact hlow (k + 1) (by omega)
theorem more_sti {l : List E} {e : E} (h : up l) (hi : ∀ x ∈ l, x.id < e.id) (he : e.kind = 3) (hr : ∀ x ∈ l, refsK x.kind → x.ref ≠ e.id) (hc : okC l) (hl : l.length ≤ 1000) (hec : 0 ≤ e.credits ∧ e.credits ≤ 100) (s : Sc.Scl) (hb : Sc.rea s e.grade s.2.2) (ho : okO l) (heo : 0 ≤ e.on_ ∧ e.on_ ≤ 1000) (st a : Int) (htm : tmB st a e = true) (hn : trmP l st a ≠ []) (t : Int) (ht : t ≤ 1000) :
    stiP l s st a t = true → stiP (l ++ [e]) s st a t = true := fun hh => by
  have hh := of_decide_eq_true hh
  have hcr := cr_more h hi he hr hc hl hec s hb st a t
  have hm := more_std h hi he hr hc hl hec s hb ho heo st a htm hn t ht
  have hge : minP (trmP l st a) ≤ t := by
    by_cases c : minP (trmP l st a) ≤ t
    · exact c
    · have := std_skip (l := l) (s := s) (st := st) (a := a) (t := t) (.inr (.inl (by omega)))
      omega
  have hend : ¬ 100 * t + 99 > a := fun c => by
    have := std_skip (l := l) (s := s) (st := st) (a := a) (t := t) (.inr (.inr c))
    omega
  have h1 := hm.1 hge
  have hTm := trm_app l e st a htm
  have hn' : trmP (l ++ [e]) st a ≠ [] := by rw [hTm]; simp
  have hmin : minP (trmP (l ++ [e]) st a) = min (minP (trmP l st a)) (e.on_ / 100) := by rw [hTm, minP_app hn]
  have ho' : okO (l ++ [e]) := fun x hx => by
    rcases List.mem_append.1 hx with hx | hx
    · exact ho x hx
    · rw [List.mem_singleton.1 hx]; exact heo
  have h2 := std_go (s := s) (t := t) ho' hn' (by omega) (by omega) ht
  have h3 := stdS_one (crP s (grdP (l ++ [e]) st a t)) (stdL (l ++ [e]) s st a (minP (trmP (l ++ [e]) st a)) (t - minP (trmP (l ++ [e]) st a)).toNat)
  rw [← h2] at h3
  exact decide_eq_true ⟨by omega, by omega⟩
end En
end Go.Proofs.Ytnegdmjmllmclaa
namespace Go.Proofs.Ytnegdmjmllmclaa
open Go.Proofs.Ytnegdmjmllmclaa.Am
set_option maxRecDepth 100000
namespace En
/-! ### What plays no part -/
/-- Two lists agree on the terms up to t. -/
structure Alike (X l : List E) (st a t : Int) : Prop where
  grd : ∀ u, u ≤ t → grdP X st a u = grdP l st a u
  out : (trmP X st a = [] ∨ minP (trmP X st a) > t) ↔ (trmP l st a = [] ∨ minP (trmP l st a) > t)
  mn : ¬ (trmP l st a = [] ∨ minP (trmP l st a) > t) → minP (trmP X st a) = minP (trmP l st a)
theorem stdL_alike {X l : List E} {st a t : Int} (h : Alike X l st a t) (s : Sc.Scl) (f : Int) : ∀ k : Nat, f + k ≤ t + 1 → stdL X s st a f k = stdL l s st a f k
  | 0, _ => rfl
  | k + 1, hk => by
    rw [stdL, stdL, stdL_alike h s f k (by omega), h.grd (f + k) (by omega)]
theorem std_alike {X l : List E} {st a t : Int} (h : Alike X l st a t) (s : Sc.Scl) : stdP X s st a t = stdP l s st a t := by
  unfold stdP fstP
  by_cases c : trmP l st a = [] ∨ minP (trmP l st a) > t
  · have c' := h.out.2 c
    rw [if_pos (by rcases c' with c' | c'; exact .inl c'; exact .inr (.inr c')), if_pos (by rcases c with c | c; exact .inl c; exact .inr (.inr c))]
  · have c' : ¬ (trmP X st a = [] ∨ minP (trmP X st a) > t) := fun hh => c (h.out.1 hh)
    rw [h.mn c]
    by_cases he : endP t a = false
    · rw [if_pos (.inr (.inl he)), if_pos (.inr (.inl he))]
    · have ht : 0 ≤ t := by
        have : endP t a = true := by simpa using he
        exact (of_decide_eq_true this).1
      rw [if_neg (by rintro (hh | hh | hh); exact c' (.inl hh); exact he hh; exact c (.inr hh)), if_neg (by rintro (hh | hh | hh); exact c (.inl hh); exact he hh; exact c (.inr hh))]
      refine stdL_alike h s _ _ ?_
      have : ¬ minP (trmP l st a) > t := fun hh => c (.inr hh)
      omega
theorem sti_alike {X l : List E} {st a t : Int} (h : Alike X l st a t) (s : Sc.Scl) : stiP X s st a t = stiP l s st a t := by
  unfold stiP
  rw [std_alike h s, h.grd t (Int.le_refl _)]
theorem men_alike {X l : List E} {st a t : Int} (h : Alike X l st a t) : menP X st a t = menP l st a t := by
  unfold menP
  rw [h.grd t (Int.le_refl _)]
theorem filter_imp {α : Type} {p c : α → Bool} {l : List α} (h : ∀ x ∈ l, p x = true → c x = true) : (l.filter c).filter p = l.filter p := by
  rw [List.filter_filter]
  refine List.filter_congr fun x hx => ?_
  cases hp : p x with
  | false => rfl
  | true => rw [h x hx hp]; rfl
abbrev ownB (st : Int) (e : E) : Bool := decide (e.student = st)
abbrev knoB (a : Int) (e : E) : Bool := decide (e.day ≤ a)
abbrev earB (t : Int) (e : E) : Bool := decide (e.on_ ≤ 100 * t + 99)
theorem stS_cnt {l : List E} (h : up l) (c : E → Bool) (a o : Int) (hc : ∀ x ∈ l, cntB a o x = true → c x = true) (g : E) : stS (l.filter c) a o g = stS l a o g := by
  show stand (atR (l.filter c) a o) a o g = stand (atR l a o) a o g
  rw [atR_up (up_filter h c), atR_up h, filter_imp hc]
theorem known_alike {l : List E} (h : up l) (st a t : Int) : Alike (l.filter (knoB a)) l st a t := by
  have e : trmP (l.filter (knoB a)) st a = trmP l st a := by
    unfold trmP
    rw [filter_imp fun x _ hx => decide_eq_true (of_decide_eq_true hx).2.2]
  refine ⟨fun u _ => ?_, by rw [e], fun _ => by rw [e]⟩
  rw [grd_up (up_filter h _), grd_up h, filter_imp fun x _ hx => decide_eq_true (of_decide_eq_true hx).2.1]
  exact List.map_congr_left fun g _ => by rw [stS_cnt h _ _ _ fun x _ hx => decide_eq_true (of_decide_eq_true hx).1]
theorem early_alike {l : List E} (h : up l) (st a t : Int) : Alike (l.filter (earB t)) l st a t := by
  have e : trmP (l.filter (earB t)) st a = (trmP l st a).filter fun x => decide (x ≤ t) := by
    unfold trmP
    rw [List.filter_map, List.filter_filter, List.filter_filter]
    congr 1
    refine List.filter_congr fun x _ => ?_
    have : earB t x = ((fun x : Int => decide (x ≤ t)) ∘ fun e : E => e.on_ / 100) x := decide_eq_decide.2 ⟨fun hh => by show x.on_ / 100 ≤ t; omega, fun hh => by have hh : x.on_ / 100 ≤ t := hh; omega⟩
    rw [this, Bool.and_comm]
  have hm : ¬ (trmP l st a = [] ∨ minP (trmP l st a) > t) → (trmP (l.filter (earB t)) st a ≠ [] ∧ minP (trmP (l.filter (earB t)) st a) = minP (trmP l st a)) := fun c => by
    have hn : trmP l st a ≠ [] := fun hh => c (.inl hh)
    obtain ⟨m1, m2⟩ := minP_mem hn
    have hmem : minP (trmP l st a) ∈ trmP (l.filter (earB t)) st a := by
      rw [e]
      have : ¬ minP (trmP l st a) > t := fun hh => c (.inr hh)
      exact List.mem_filter.2 ⟨m1, decide_eq_true (by omega)⟩
    have hn' : trmP (l.filter (earB t)) st a ≠ [] := fun hh => by rw [hh] at hmem; exact absurd hmem List.not_mem_nil
    obtain ⟨k1, k2⟩ := minP_mem hn'
    refine ⟨hn', ?_⟩
    have a1 := k2 _ hmem
    rw [e] at k1
    have a2 := m2 _ (List.mem_filter.1 k1).1
    rw [← e] at a2
    omega
  refine ⟨fun u hu => ?_, ⟨fun hh => ?_, fun hh => ?_⟩, fun c => (hm c).2⟩
  · rw [grd_up (up_filter h _), grd_up h, filter_imp fun x _ hx => decide_eq_true (by have := (of_decide_eq_true hx).2.2.1; omega)]
    exact List.map_congr_left fun g _ => by rw [stS_cnt h _ _ _ fun x _ hx => decide_eq_true (by have := (of_decide_eq_true hx).2; omega)]
  · refine Decidable.by_contra fun c => ?_
    obtain ⟨c1, c2⟩ := hm c
    rcases hh with hh | hh
    · exact c1 hh
    · exact c (.inr (by omega))
  · left
    rw [e]
    refine List.filter_eq_nil_iff.2 fun x hx hxt => ?_
    rcases hh with hh | hh
    · rw [hh] at hx; exact absurd hx List.not_mem_nil
    · have a1 := of_decide_eq_true hxt
      have hn : trmP l st a ≠ [] := fun h0 => by rw [h0] at hx; exact absurd hx List.not_mem_nil
      have a2 := (minP_mem hn).2 _ hx
      omega
theorem any_mem {α : Type} {p q : α → Bool} : ∀ {L : List α}, (∀ x ∈ L, p x = q x) → L.any p = L.any q
  | [], _ => rfl
  | x :: L, h => by rw [List.any_cons, List.any_cons, h x (List.mem_cons_self ..), any_mem fun y hy => h y (List.mem_cons_of_mem _ hy)]
theorem own_alike {l : List E} (h : up l) (hr : ∀ x ∈ l, refsK x.kind → ∃ y ∈ l, y.id = x.ref ∧ y.student = x.student ∧ y.kind = tgt x.kind ∧ y.on_ ≤ x.on_) (st a t : Int) : Alike (l.filter (ownB st)) l st a t := by
  have e : trmP (l.filter (ownB st)) st a = trmP l st a := by
    unfold trmP
    rw [filter_imp fun x _ hx => decide_eq_true (of_decide_eq_true hx).2.1]
  refine ⟨fun u _ => ?_, by rw [e], fun _ => by rw [e]⟩
  rw [grd_up (up_filter h _), grd_up h, filter_imp fun x _ hx => decide_eq_true (of_decide_eq_true hx).2.2.2.1]
  refine List.map_congr_left fun g hg => ?_
  obtain ⟨hgl, hgt⟩ := List.mem_filter.1 hg
  have hgs := (of_decide_eq_true hgt).2.2.2.1
  have hst : ∀ x ∈ l, refsK x.kind → ∀ y ∈ l, y.student = st → x.ref = y.id → x.student = st := fun x hx hk y hy hys hxy => by
    obtain ⟨z, hz, z1, z2, _⟩ := hr x hx hk
    have : z = y := up_id h hz hy (by omega)
    rw [← z2, this, hys]
  have key : stS (l.filter (ownB st)) a (100 * u + 99) g = stS l a (100 * u + 99) g := by
    show stand (atR (l.filter (ownB st)) a (100 * u + 99)) a (100 * u + 99) g = stand (atR l a (100 * u + 99)) a (100 * u + 99) g
    rw [atR_up (up_filter h _), atR_up h]
    have ec : (l.filter (ownB st)).filter (cntB a (100 * u + 99)) = (l.filter (cntB a (100 * u + 99))).filter (ownB st) := by
      rw [List.filter_filter, List.filter_filter]
      exact List.filter_congr fun x _ => Bool.and_comm ..
    rw [ec]
    have hR : ∀ x ∈ l.filter (cntB a (100 * u + 99)), x ∈ l := fun x hx => (List.mem_filter.1 hx).1
    generalize l.filter (cntB a (100 * u + 99)) = R at hR
    have hch : ∀ k, refsK k → chos (R.filter (ownB st)) [cOf k, cTo g.id] = chos R [cOf k, cTo g.id] := fun k hk => filter_imp fun x hx hh => by
      have h1 := (Bool.and_eq_true _ _ ▸ hh : _ ∧ _)
      have h2 := of_decide_eq_true h1.1
      have h3 := of_decide_eq_true (Bool.and_eq_true _ _ ▸ h1.2 : _ ∧ _).1
      exact decide_eq_true (hst x (hR x hx) (h2 ▸ hk) g hgl hgs h3)
    unfold stand corr voidP
    rw [hch 4 (.inl rfl), hch 5 (.inr (.inl rfl))]
    congr 1
    refine any_mem fun f hf => ?_
    obtain ⟨f1, f2⟩ := List.mem_filter.1 hf
    have h1 := (Bool.and_eq_true _ _ ▸ f2 : _ ∧ _)
    have h2 := of_decide_eq_true h1.1
    have h3 := of_decide_eq_true (Bool.and_eq_true _ _ ▸ h1.2 : _ ∧ _).1
    have hfs : f.student = st := hst f (hR f f1) (h2 ▸ .inr (.inl rfl)) g hgl hgs h3
    congr 1
    unfold liftedP
    rw [List.any_filter]
    refine any_mem fun x hx => ?_
    cases hk : decide (x.kind = 6) with
    | false => simp
    | true =>
      cases hf6 : decide (x.ref = f.id) with
      | false => simp
      | true =>
        have h6 := of_decide_eq_true hk
        have := hst x (hR x hx) (h6 ▸ .inr (.inr (.inl rfl))) f (hR f f1) hfs (of_decide_eq_true hf6)
        rw [show ownB st x = true from decide_eq_true this]
        simp
  rw [key]
end En
end Go.Proofs.Ytnegdmjmllmclaa
namespace Go.Proofs.Ytnegdmjmllmclaa
open Go.Proofs.Ytnegdmjmllmclaa.Am
set_option maxRecDepth 100000
namespace En
/-! ### StandApart -/
abbrev apB (l : List E) (st a t : Int) (n1 n2 n3 : Nat) (L : Fr) : Fr := (3, bool true) :: (4, .ro {} 15 (l.map en)) :: (5, .ptr 0 3 0 0) :: (6, int st) :: (7, int a) :: (8, int t) :: (9, .slm {} 1 15 0 n1) :: (10, .slm {} 2 15 0 n2) :: (11, .slm {} 3 15 0 n3) :: L
abbrev apH (s : Sc.Scl) (G1 G2 G3 : List E) (H : AH) : AH := (0, .row 3 scty [Sc.scA s]) :: (1, .row 15 ety (G1.map en)) :: (2, .row 15 ety (G2.map en)) :: (3, .row 15 ety (G3.map en)) :: H
abbrev apS (l : List E) (s : Sc.Scl) (st a t : Int) : Nat × List E × List E × List E → AS
  | (k, G1, G2, G3) => ⟨apB l st a t G1.length G2.length G3.length [(31, .ro {} 15 (l.map en)), (32, int l.length), (33, int (k : Nat))], apH s G1 G2 G3 [], 4⟩
abbrev apM (l : List E) (s : Sc.Scl) (st a t : Int) (k : Nat) (e : E) (G1 G2 G3 : List E) : AS := ⟨apB l st a t G1.length G2.length G3.length [(13, .ptr 4 15 0 0), (31, .ro {} 15 (l.map en)), (32, int l.length), (33, int (k : Nat))], apH s G1 G2 G3 [(4, .row 15 ety [en e])], 5⟩
abbrev apA (l : List E) (s : Sc.Scl) (st a t : Int) (G1 G2 G3 : List E) : AS := ⟨apB l st a t G1.length G2.length G3.length [], apH s G1 G2 G3 [], 4⟩
theorem apN (ok : Nat → Bool) (h0 : ok 0 = true) (h1 : ok 1 = true) (h2 : ok 2 = true) (h3 : ok 3 = true) (l : List E) (st a t : Int) (n1 n2 n3 : Nat) (L : Fr) (hL : frNames ok L = true) : frNames ok (apB l st a t n1 n2 n3 L) = true := by
  simp only [frNames, AV.names, namesL_none (pure_en l), h0, h1, h2, h3, hL]; rfl
theorem apN1 (ok : Nat → Bool) (l : List E) (m k : Int) : frNames ok [(31, .ro {} 15 (l.map en)), (32, int m), (33, int k)] = true := by
  simp only [frNames, AV.names, namesL_none (pure_en l)]; rfl
theorem apN2 (ok : Nat → Bool) (h : ok 4 = true) (l : List E) (m k : Int) : frNames ok [(13, .ptr 4 15 0 0), (31, .ro {} 15 (l.map en)), (32, int m), (33, int k)] = true := by
  simp only [frNames, AV.names, namesL_none (pure_en l), h]; rfl
theorem apK (ok : Nat → Bool) (s : Sc.Scl) (G1 G2 G3 : List E) (H : AH) (h : namesAll ok H = true) : namesAll ok (apH s G1 G2 G3 H) = true := namesAll.row rfl (namesAll.row (pure_en _) (namesAll.row (pure_en _) (namesAll.row (pure_en _) h)))
theorem apV {ρ : Nat → Nat} {Hc : AH} {nx : Nat} {s : Sc.Scl} {G1 G2 G3 : List E} {H : AH} (h0 : Hc.get (ρ 0) = some (.row 3 scty [Sc.scA s])) (h1 : Hc.get (ρ 1) = some (.row 15 ety (G1.map en))) (h2 : Hc.get (ρ 2) = some (.row 15 ety (G2.map en))) (h3 : Hc.get (ρ 3) = some (.row 15 ety (G3.map en))) (k : haveV ρ Hc nx H) : haveV ρ Hc nx (apH s G1 G2 G3 H) := haveV.row rfl h0 (haveV.row (pure_en _) h1 (haveV.row (pure_en _) h2 (haveV.row (pure_en _) h3 k)))
def apq (c : E → Bool) (G : List E) (e : E) : List E := if c e then G ++ [e] else G
abbrev apL (s : Sc.Scl) (st a t n0 n d : Int) (b0 ok : Bool) (G1 G2 G3 : List E) (k : Nat) : AS := ⟨[(3, bool true), (5, .ptr 0 3 0 0), (6, int st), (7, int a), (8, int t), (14, int n0), (15, bool b0), (16, .ptr 4 2 0 0), (17, bool ok), (88, .slm {} 5 1 0 3), (89, int 3), (90, int (k : Nat))], apH s G1 G2 G3 [(4, .row 2 raty [.agg [int n, int d]]), (5, .row 1 27 [.slm {} 1 15 0 G1.length, .slm {} 2 15 0 G2.length, .slm {} 3 15 0 G3.length])], 6⟩
theorem apq_take (c : E → Bool) (l : List E) {k : Nat} (h : k < l.length) : apq c ((l.take k).filter c) (l.getD k e0) = (l.take (k + 1)).filter c := by
  rw [List.take_succ_eq_append_getElem h, List.filter_append, List.getD_eq_getElem?_getD, List.getElem?_eq_getElem h]
  unfold apq
  show (if c l[k] = true then _ else _) = _
  by_cases hc : c l[k] = true
  · rw [if_pos hc, List.filter_cons_of_pos hc]; rfl
  · rw [if_neg hc, List.filter_cons_of_neg hc]; simp
def rq1 : Nat → Nat | 1 => 5 | 0 => 0 | 2 => 2 | 3 => 3 | 4 => 4 | i => i + 10
def rq2 : Nat → Nat | 2 => 5 | 0 => 0 | 1 => 1 | 3 => 3 | 4 => 4 | i => i + 10
def rq3 : Nat → Nat | 3 => 5 | 0 => 0 | 1 => 1 | 2 => 2 | 4 => 4 | i => i + 10
def rq0 : Nat → Nat | 0 => 1 | i => i + 10
set_option maxHeartbeats 3200000 in
set_option maxRecDepth 100000 in
theorem sapart (xs : List Int) (fl : Fl) (hx : xs.length ≤ 9223372036854775807) (q : Int × Int × Int × Int) (h1 : 0 ≤ q.1 ∧ q.1 ≤ 255) (h2 : 0 ≤ q.2.1 ∧ q.2.1 ≤ 255) (h3 : 0 ≤ q.2.2.1 ∧ q.2.2.1 ≤ 65535) (h4 : 0 ≤ q.2.2.2 ∧ q.2.2.2 ≤ 255) :
    AFun Try.prog 5 0 [.agg [.ro fl 1 (xs.map int), u8' q.1, u8' q.2.1, u16 q.2.2.1, u8' q.2.2.2]] [] (bool true) [] := by
  obtain ⟨sc, l, st, a, t, hsc, ⟨hl, hM⟩, hst, ha, ht, hmd⟩ := made_f xs fl hx q h1 h2 h3 h4
  clear h1 h2 h3 h4
  have hup : up l := hM.toIds.lt
  have how := hM.okW (by decide)
  have a1 := own_alike hup hM.mem_ref st a t
  have a2 := known_alike hup st a t
  have a3 := early_alike hup st a t
  clear hM
  generalize sclOf sc = s at hmd
  have hml : (l.map en).length = l.length := List.length_map _
  have hS := Standing_f l s st a t (by omega) how
  have hT := Stipend_f l s st a t (by omega) how
  have hE := Means_f l s st a t (by omega) how
  have fS := fun (X : List E) (h : Alike X l st a t) (hX : X.length < 40) (ho : ∀ e ∈ X, Dt.okW e.on_) => std_alike h s ▸ Standing_f X s st a t hX ho
  have fT := fun (X : List E) (h : Alike X l st a t) (hX : X.length < 40) (ho : ∀ e ∈ X, Dt.okW e.on_) => sti_alike h s ▸ Stipend_f X s st a t hX ho
  have fE := fun (X : List E) (h : Alike X l st a t) (hX : X.length < 40) (ho : ∀ e ∈ X, Dt.okW e.on_) => men_alike h ▸ Means_f X s st a t hX ho
  have fo := fun (c : E → Bool) => (fun e he => how e (List.mem_filter.1 he).1 : ∀ e ∈ l.filter c, Dt.okW e.on_)
  have fl' := fun (c : E → Bool) => (Nat.lt_of_le_of_lt (List.length_filter_le c l) (by omega) : (l.filter c).length < 40)
  have S1 := fS _ a1 (fl' _) (fo _)
  have S2 := fS _ a2 (fl' _) (fo _)
  have S3 := fS _ a3 (fl' _) (fo _)
  have T1 := fT _ a1 (fl' _) (fo _)
  have T2 := fT _ a2 (fl' _) (fo _)
  have T3 := fT _ a3 (fl' _) (fo _)
  have E1 := fE _ a1 (fl' _) (fo _)
  have E2 := fE _ a2 (fl' _) (fo _)
  have E3 := fE _ a3 (fl' _) (fo _)
  clear fS fT fE fo fl' a1 a2 a3 hup how
  generalize stdP l s st a t = n0 at hS S1 S2 S3
  generalize stiP l s st a t = b0 at hT T1 T2 T3
  generalize menP l st a t = m0 at hE E1 E2 E3
  obtain ⟨⟨n, d⟩, ok⟩ := m0
  dsimp only at hE E1 E2 E3
  refine AFun.of_VS T_ok Try.func5 rfl (Nat.le_of_ble_eq_true rfl) ?_
  refine VS.cut T_ok mixed rfl ?_
  ((repeat ((conv => whnf); (first | (refine LetN.pre ?_; first | ((conv => arg 1; whnf); refine LetN.mk ?_)) | (refine As.pre ?_; first | refine As.mk rfl ?_) | (refine Ck.pre ?_; first | refine Ck.mk rfl ?_)))); (try (conv => whnf)))
  refine VS.cut T_ok mixed rfl ?_
  ((repeat ((conv => whnf); (first | (refine As.pre ?_; first | refine As.mk rfl ?_) | (refine Ck.pre ?_; first | refine Ck.mk rfl ?_) | (refine CallN.pre ?_; first | refine CallN.pure sanity_f rfl rfl ?_)))); (try (conv => whnf)))
  refine VS.cut T_ok mixed rfl ?_
  ((repeat ((conv => whnf); (first | (refine LetN.pre ?_; first | ((conv => arg 1; whnf); refine LetN.mk ?_)) | (refine As.pre ?_; first | refine As.mk rfl ?_) | (refine LetV.pre ?_; first | refine LetV.mk (.agg _) rfl ?_) | (refine Ck.pre ?_; first | refine Ck.mk rfl ?_) | (refine LetL.pre ?_; first | refine LetL.mk [_] rfl ?_) | (refine CallN.pre ?_; first | refine CallN.pure hmd rfl rfl ?_)))); (try (conv => whnf)))
  refine VS.cut T_ok mixed rfl ?_
  ((repeat ((conv => whnf); (first | (refine As.pre ?_; first | refine As.mk rfl ?_) | (refine Ck.pre ?_; first | refine Ck.mk rfl ?_)))); (try (conv => whnf)))
  clear hmd
  refine VS.joinN (fun _ : Unit => apA l s st a t (l.filter (ownB st)) (l.filter (knoB a)) (l.filter (earB t))) (fun _ => True) ?_ ?_
  case refine_1 =>
    clear hS hT hE S1 S2 S3 T1 T2 T3 E1 E2 E3
    refine VS.cut T_ok mixed rfl ?_
    ((repeat ((conv => whnf); (first | (refine As.pre ?_; first | refine As.mk rfl ?_) | (refine LetI.pre ?_; first | refine LetI.mk _ rfl ?_) | (refine Ck.pre ?_; first | refine Ck.mk rfl ?_)))); (try (conv => whnf)))
    refine VS.block (VS.loop ?_)
    refine LoopN.weak (s1 := apS l s st a t (0, [], [], [])) ?sw0 ?_
    case sw0 => exact SW.mk rq0 rfl (apN _ rfl rfl rfl rfl _ _ _ _ _ _ _ _ (apN1 ..)) (apK _ _ _ _ _ _ rfl) ⟨.refl _, .refl _, .refl _, .refl _, .refl _, .refl _, VLe2.nilslm, VLe2.nilslm, VLe2.nilslm, .refl _, VLe2.int (by rw [hml]), .refl _, trivial⟩ (haveV.row rfl rfl (haveV.nil (Nat.le_of_ble_eq_true rfl) (haveV.nil (Nat.le_of_ble_eq_true rfl) (haveV.nil (Nat.le_of_ble_eq_true rfl) trivial))))
    refine LoopN.indS (S := apS l s st a t) (fun i => l.length - i.1) (fun i => i.1 ≤ l.length ∧ i.2.1 = (l.take i.1).filter (ownB st) ∧ i.2.2.1 = (l.take i.1).filter (knoB a) ∧ i.2.2.2 = (l.take i.1).filter (earB t)) (fun i hi ih => ?_) (0, [], [], []) ⟨Nat.zero_le _, rfl, rfl, rfl⟩
    obtain ⟨k, G1, G2, G3⟩ := i
    obtain ⟨g0, g1, g2, g3⟩ := hi
    dsimp only at g0 g1 g2 g3
    by_cases hk : k < l.length
    case neg =>
      clear ih
      rw [List.take_of_length_le (by omega)] at g1 g2 g3
      subst g1 g2 g3
      refine VS.of_V T_ok mixed rfl ?_
      ((repeat ((conv => whnf); (first | (refine As.pre ?_; first | refine As.mk rfl ?_) | (refine LetB.pre ?_; first | refine LetB.decf (by omega) ?_) | (refine Br.pre ?_; first | refine Br.ff rfl ?_) | (refine Ck.pre ?_; first | refine Ck.mk rfl ?_)))); (try (conv => whnf)))
      exact ⟨rfl, (), trivial, SW.mk id rfl (apN _ rfl rfl rfl rfl _ _ _ _ _ _ _ _ rfl) (apK _ _ _ _ _ _ rfl) ⟨.refl _, .refl _, .refl _, .refl _, .refl _, .refl _, .refl _, .refl _, .refl _, trivial⟩ (apV rfl rfl rfl rfl trivial)⟩
    have hle := tmD hk
    have q1 := apq_take (ownB st) l hk
    have q2 := apq_take (knoB a) l hk
    have q3 := apq_take (earB t) l hk
    rw [← g1] at q1
    rw [← g2] at q2
    rw [← g3] at q3
    have z1 : G1.length ≤ 1000 := by rw [g1]; exact Nat.le_trans (List.length_filter_le _ _) (by rw [List.length_take]; omega)
    have z2 : G2.length ≤ 1000 := by rw [g2]; exact Nat.le_trans (List.length_filter_le _ _) (by rw [List.length_take]; omega)
    have z3 : G3.length ≤ 1000 := by rw [g3]; exact Nat.le_trans (List.length_filter_le _ _) (by rw [List.length_take]; omega)
    clear g1 g2 g3
    generalize l.getD k e0 = e at hle q1 q2 q3
    have hnx := ih (k + 1, apq (ownB st) G1 e, apq (knoB a) G2 e, apq (earB t) G3 e) ⟨hk, q1, q2, q3⟩ (by show l.length - (k + 1) < l.length - k; omega)
    clear ih q1 q2 q3
    refine VS.cut T_ok mixed rfl ?_
    ((repeat ((conv => whnf); (first | (refine As.pre ?_; first | refine As.mk rfl ?_) | (refine LetB.pre ?_; first | refine LetB.dect (by omega) ?_) | (refine Ck.pre ?_; first | refine Ck.mk rfl ?_)))); (try (conv => whnf)))
    refine VS.cut T_ok mixed rfl ?_
    ((repeat ((conv => whnf); (first | (refine Br.pre ?_; first | refine Br.tt rfl ?_) | (refine Ck.pre ?_; first | refine Ck.mk rfl ?_)))); (try (conv => whnf)))
    refine VS.joinN (fun _ : Unit => apS l s st a t (k, apq (ownB st) G1 e, apq (knoB a) G2 e, apq (earB t) G3 e)) (fun _ => True) ?_ ?_
    case refine_2 =>
      intro _ _
      refine VS.of_V T_ok mixed rfl ?_
      ((repeat ((conv => whnf); (first | (refine As.pre ?_; first | refine As.mk rfl ?_) | (refine LetI.pre ?_; first | refine LetI.wrap (by omega) (by omega) ?_) | (refine Ck.pre ?_; first | refine Ck.mk rfl ?_)))); (try (conv => whnf)))
      refine LoopN.weak ?sw1 hnx
      case sw1 => exact SW.mk id rfl (apN _ rfl rfl rfl rfl _ _ _ _ _ _ _ _ (apN1 ..)) (apK _ _ _ _ _ _ rfl) ⟨.refl _, .refl _, .refl _, .refl _, .refl _, .refl _, .refl _, .refl _, .refl _, .refl _, .refl _, VLe2.int (by omega), trivial⟩ (apV rfl rfl rfl rfl trivial)
    clear hnx
    refine VS.block ?_
    refine VS.cut T_ok mixed rfl ?_
    ((repeat ((conv => whnf); (first | (refine LetN.pre ?_; first | ((conv => arg 1; whnf); refine LetN.mk ?_)) | (refine As.pre ?_; first | refine As.mk rfl ?_ | (refine As.mk ?_ ?_; · ((repeat' (refine andT ?_ ?_)) <;> (first | rfl | assumption | exact decide_eq_true (by omega) | exact decide_eq_true (by dsimp only; omega) | exact decide_eq_true (by simp; omega) | (simp; done))))) | (refine LetV.pre ?_; first | refine LetV.mk (t := 27) _ hle ?_ | refine LetV.mk (.agg _) rfl ?_) | (refine Ck.pre ?_; first | refine Ck.mk rfl ?_) | (refine LetL.pre ?_; first | refine LetL.mk [_] rfl ?_)))); (try (conv => whnf)))
    refine VS.weak (s1 := apM l s st a t k e G1 G2 G3) ?sw2 ?_
    case sw2 => exact SW.mk id rfl (apN _ rfl rfl rfl rfl _ _ _ _ _ _ _ _ (apN2 _ rfl ..)) (apK _ _ _ _ _ _ (namesAll.row rfl rfl)) ⟨.refl _, .refl _, .refl _, .refl _, .refl _, .refl _, .refl _, .refl _, .refl _, .refl _, .refl _, .refl _, .refl _, trivial⟩ (apV rfl rfl rfl rfl (haveV.row rfl rfl trivial))
    clear hle
    refine VS.joinN (fun _ : Unit => apM l s st a t k e (apq (ownB st) G1 e) G2 G3) (fun _ => True) ?_ ?_
    case refine_1 =>
      refine VS.of_V T_ok mixed rfl ?_
      by_cases c : e.student = st
      · have hq : apq (ownB st) G1 e = G1 ++ [e] := if_pos (decide_eq_true c)
        rw [hq]
        have hl1 : (G1 ++ [e]).length = G1.length + 1 := by simp
        have r1 := room_en (n := G1.length + 1) (by omega)
        have happ := app_en G1 e G1.length rfl
        ((repeat ((conv => whnf); (first | (refine LetN.pre ?_; first | ((conv => arg 1; whnf); refine LetN.mk ?_)) | (refine As.pre ?_; first | refine As.mk rfl ?_ | (refine As.mk ?_ ?_; · ((repeat' (refine andT ?_ ?_)) <;> (first | rfl | assumption | exact decide_eq_true (by omega) | exact decide_eq_true (by dsimp only; omega) | exact decide_eq_true (by simp; omega) | (simp; done))))) | (refine LetV.pre ?_; first | refine LetV.mk (.sc (.int _ _)) rfl ?_ | refine LetV.mk (.agg _) rfl ?_) | (refine LetB.pre ?_; first | refine LetB.dect (by omega) ?_) | (refine Br.pre ?_; first | refine Br.tt rfl ?_) | (refine Ck.pre ?_; first | refine Ck.mk rfl ?_) | (refine LetL.pre ?_; first | refine LetL.mk (ty := ety) _ happ ?_)))); (try (conv => whnf)))
        exact ⟨rfl, (), trivial, SW.mk rq1 rfl (apN _ rfl rfl rfl rfl _ _ _ _ _ _ _ _ (apN2 _ rfl ..)) (apK _ _ _ _ _ _ (namesAll.row rfl rfl)) ⟨.refl _, .refl _, .refl _, .refl _, .refl _, .refl _, VLe2.slm_of hl1, .refl _, .refl _, .refl _, .refl _, .refl _, .refl _, trivial⟩ (apV rfl rfl rfl rfl (haveV.row rfl rfl trivial))⟩
      · have hq : apq (ownB st) G1 e = G1 := if_neg (fun h => c (of_decide_eq_true h))
        rw [hq]
        ((repeat ((conv => whnf); (first | (refine As.pre ?_; first | refine As.mk rfl ?_) | (refine LetV.pre ?_; first | refine LetV.mk (.sc (.int _ _)) rfl ?_) | (refine LetB.pre ?_; first | refine LetB.decf (by omega) ?_) | (refine Br.pre ?_; first | refine Br.ff rfl ?_) | (refine Ck.pre ?_; first | refine Ck.mk rfl ?_)))); (try (conv => whnf)))
        exact ⟨rfl, (), trivial, SW.mk id rfl (apN _ rfl rfl rfl rfl _ _ _ _ _ _ _ _ (apN2 _ rfl ..)) (apK _ _ _ _ _ _ (namesAll.row rfl rfl)) ⟨.refl _, .refl _, .refl _, .refl _, .refl _, .refl _, .refl _, .refl _, .refl _, .refl _, .refl _, .refl _, .refl _, trivial⟩ (apV rfl rfl rfl rfl (haveV.row rfl rfl trivial))⟩
    intro _ _
    refine VS.joinN (fun _ : Unit => apM l s st a t k e (apq (ownB st) G1 e) (apq (knoB a) G2 e) G3) (fun _ => True) ?_ ?_
    case refine_1 =>
      refine VS.of_V T_ok mixed rfl ?_
      generalize apq (ownB st) G1 e = Y1
      by_cases c : e.day ≤ a
      · have hq : apq (knoB a) G2 e = G2 ++ [e] := if_pos (decide_eq_true c)
        rw [hq]
        have hl1 : (G2 ++ [e]).length = G2.length + 1 := by simp
        have r1 := room_en (n := G2.length + 1) (by omega)
        have happ := app_en G2 e G2.length rfl
        ((repeat ((conv => whnf); (first | (refine LetN.pre ?_; first | ((conv => arg 1; whnf); refine LetN.mk ?_)) | (refine As.pre ?_; first | refine As.mk rfl ?_ | (refine As.mk ?_ ?_; · ((repeat' (refine andT ?_ ?_)) <;> (first | rfl | assumption | exact decide_eq_true (by omega) | exact decide_eq_true (by dsimp only; omega) | exact decide_eq_true (by simp; omega) | (simp; done))))) | (refine LetV.pre ?_; first | refine LetV.mk (.sc (.int _ _)) rfl ?_ | refine LetV.mk (.agg _) rfl ?_) | (refine LetB.pre ?_; first | refine LetB.dect (by omega) ?_) | (refine Br.pre ?_; first | refine Br.tt rfl ?_) | (refine Ck.pre ?_; first | refine Ck.mk rfl ?_) | (refine LetL.pre ?_; first | refine LetL.mk (ty := ety) _ happ ?_)))); (try (conv => whnf)))
        exact ⟨rfl, (), trivial, SW.mk rq2 rfl (apN _ rfl rfl rfl rfl _ _ _ _ _ _ _ _ (apN2 _ rfl ..)) (apK _ _ _ _ _ _ (namesAll.row rfl rfl)) ⟨.refl _, .refl _, .refl _, .refl _, .refl _, .refl _, .refl _, VLe2.slm_of hl1, .refl _, .refl _, .refl _, .refl _, .refl _, trivial⟩ (apV rfl rfl rfl rfl (haveV.row rfl rfl trivial))⟩
      · have hq : apq (knoB a) G2 e = G2 := if_neg (fun h => c (of_decide_eq_true h))
        rw [hq]
        ((repeat ((conv => whnf); (first | (refine As.pre ?_; first | refine As.mk rfl ?_) | (refine LetV.pre ?_; first | refine LetV.mk (.sc (.int _ _)) rfl ?_) | (refine LetB.pre ?_; first | refine LetB.decf (by omega) ?_) | (refine Br.pre ?_; first | refine Br.ff rfl ?_) | (refine Ck.pre ?_; first | refine Ck.mk rfl ?_)))); (try (conv => whnf)))
        exact ⟨rfl, (), trivial, SW.mk id rfl (apN _ rfl rfl rfl rfl _ _ _ _ _ _ _ _ (apN2 _ rfl ..)) (apK _ _ _ _ _ _ (namesAll.row rfl rfl)) ⟨.refl _, .refl _, .refl _, .refl _, .refl _, .refl _, .refl _, .refl _, .refl _, .refl _, .refl _, .refl _, .refl _, trivial⟩ (apV rfl rfl rfl rfl (haveV.row rfl rfl trivial))⟩
    intro _ _
    refine VS.of_V T_ok mixed rfl ?_
    generalize apq (ownB st) G1 e = Y1
    generalize apq (knoB a) G2 e = Y2
    by_cases c : e.on_ ≤ 100 * t + 99
    · have hq : apq (earB t) G3 e = G3 ++ [e] := if_pos (decide_eq_true c)
      rw [hq]
      have hl1 : (G3 ++ [e]).length = G3.length + 1 := by simp
      have r1 := room_en (n := G3.length + 1) (by omega)
      have happ := app_en G3 e G3.length rfl
      ((repeat ((conv => whnf); (first | (refine LetN.pre ?_; first | ((conv => arg 1; whnf); refine LetN.mk ?_)) | (refine As.pre ?_; first | refine As.mk rfl ?_ | (refine As.mk ?_ ?_; · ((repeat' (refine andT ?_ ?_)) <;> (first | rfl | assumption | exact decide_eq_true (by omega) | exact decide_eq_true (by dsimp only; omega) | exact decide_eq_true (by simp; omega) | (simp; done))))) | (refine LetV.pre ?_; first | refine LetV.mk (.sc (.int _ _)) rfl ?_ | refine LetV.mk (.agg _) rfl ?_) | (refine LetI.pre ?_; first | refine LetI.wrap (by omega) (by omega) ?_) | (refine LetB.pre ?_; first | refine LetB.dect (by omega) ?_) | (refine Br.pre ?_; first | refine Br.tt rfl ?_) | (refine Ck.pre ?_; first | refine Ck.mk rfl ?_) | (refine LetL.pre ?_; first | refine LetL.mk (ty := ety) _ happ ?_)))); (try (conv => whnf)))
      exact ⟨rfl, (), trivial, SW.mk rq3 rfl (apN _ rfl rfl rfl rfl _ _ _ _ _ _ _ _ (apN1 ..)) (apK _ _ _ _ _ _ rfl) ⟨.refl _, .refl _, .refl _, .refl _, .refl _, .refl _, .refl _, .refl _, VLe2.slm_of hl1, .refl _, .refl _, .refl _, trivial⟩ (apV rfl rfl rfl rfl trivial)⟩
    · have hq : apq (earB t) G3 e = G3 := if_neg (fun h => c (of_decide_eq_true h))
      rw [hq]
      ((repeat ((conv => whnf); (first | (refine As.pre ?_; first | refine As.mk rfl ?_) | (refine LetV.pre ?_; first | refine LetV.mk (.sc (.int _ _)) rfl ?_) | (refine LetI.pre ?_; first | refine LetI.wrap (by omega) (by omega) ?_) | (refine LetB.pre ?_; first | refine LetB.decf (by omega) ?_) | (refine Br.pre ?_; first | refine Br.ff rfl ?_) | (refine Ck.pre ?_; first | refine Ck.mk rfl ?_)))); (try (conv => whnf)))
      exact ⟨rfl, (), trivial, SW.mk id rfl (apN _ rfl rfl rfl rfl _ _ _ _ _ _ _ _ (apN1 ..)) (apK _ _ _ _ _ _ rfl) ⟨.refl _, .refl _, .refl _, .refl _, .refl _, .refl _, .refl _, .refl _, .refl _, .refl _, .refl _, .refl _, trivial⟩ (apV rfl rfl rfl rfl trivial)⟩
  intro _ _
  clear hml
  generalize l.filter (ownB st) = G1 at S1 T1 E1 ⊢
  generalize l.filter (knoB a) = G2 at S2 T2 E2 ⊢
  generalize l.filter (earB t) = G3 at S3 T3 E3 ⊢
  refine VS.cut T_ok mixed rfl ?_
  ((repeat ((conv => whnf); (first | (refine As.pre ?_; first | refine As.mk rfl ?_) | (refine LetV.pre ?_; first | refine LetV.mk (.agg _) rfl ?_) | (refine Ck.pre ?_; first | refine Ck.drawn (by kernel_rfl) ?_ | refine Ck.mk rfl ?_) | (refine CallN.pre ?_; first | refine CallN.pure hS rfl rfl ?_ | refine CallN.pure hT rfl rfl ?_)))); (try (conv => whnf)))
  refine VS.cut T_ok mixed rfl ?_
  ((repeat ((conv => whnf); (first | (refine LetN.pre ?_; first | ((conv => arg 1; whnf); refine LetN.mk ?_)) | (refine As.pre ?_; first | refine As.mk rfl ?_) | (refine LetV.pre ?_; first | refine LetV.mk (.agg _) rfl ?_) | (refine Ck.pre ?_; first | refine Ck.mk rfl ?_) | (refine LetL.pre ?_; first | refine LetL.mk [_] rfl ?_) | (refine CallN.pre ?_; first | refine CallN.pure hE rfl rfl ?_)))); (try (conv => whnf)))
  clear hS hT hE
  have hbb : (b0 != b0) = false := by simp
  have hok : (ok != ok) = false := by simp
  have hne : (!(n == n && (d == d && true))) = false := by simp
  have p1 := pure_en G1
  have p2 := pure_en G2
  have p3 := pure_en G3
  have k1 : G1.length = (G1.map en).length := (List.length_map _).symm
  have k2 : G2.length = (G2.map en).length := (List.length_map _).symm
  have k3 : G3.length = (G3.map en).length := (List.length_map _).symm
  refine VS.of_V T_ok mixed rfl ?_
  ((repeat ((conv => whnf); (first | (refine LetN.pre ?_; first | ((conv => arg 1; whnf); refine LetN.mk ?_)) | (refine As.pre ?_; first | refine As.mk rfl ?_) | (refine LetI.pre ?_; first | refine LetI.mk _ rfl ?_) | (refine Ck.pre ?_; first | refine Ck.mk rfl ?_)))); (try (conv => whnf)))
  refine LoopN.weak (s1 := apL s st a t n0 n d b0 ok G1 G2 G3 0) ?sw3 ?_
  case sw3 => exact SW.mk id rfl rfl (apK _ _ _ _ _ _ rfl) ⟨.refl _, .refl _, .refl _, .refl _, .refl _, .refl _, .refl _, .refl _, .refl _, VLe2.slm_of rfl, .refl _, .refl _, trivial⟩ (apV rfl rfl rfl rfl (haveV.row rfl rfl (haveV.one rfl trivial)))
  refine LoopN.roundS ?_
  refine VS.of_V T_ok mixed rfl ?_
  ((repeat ((conv => whnf); (first | (refine LetN.pre ?_; first | ((conv => arg 1; whnf); refine LetN.mk ?_)) | (refine As.pre ?_; first | refine As.mk rfl ?_) | (refine LetV.pre ?_; first | refine LetV.mk (.agg _) rfl ?_ | refine LetV.mk (.slm _ _ _ _ _) rfl ?_) | (refine LetI.pre ?_; first | refine LetI.wrap (by omega) (by omega) ?_) | (refine LetB.pre ?_; first | refine LetB.tt rfl ?_ | refine LetB.ff (by assumption) ?_ | refine LetB.bnef (by omega) ?_) | (refine Gd.pre ?_; first | refine Gd.run rfl ?_) | (refine Br.pre ?_; first | refine Br.tt rfl ?_ | refine Br.ff rfl ?_) | (refine Ck.pre ?_; first | refine Ck.mk rfl ?_) | (refine LetL.pre ?_; first | refine LetL.mk [_] rfl ?_) | (refine CallN.pre ?_; first | refine CallN.lend E1 rfl (.full rfl p1 k1 (.same rfl (.same rfl (.same rfl (.same rfl .nil))))) ?_ | refine CallN.lend S1 rfl (.full rfl p1 k1 (.same rfl (.same rfl (.same rfl (.same rfl .nil))))) ?_ | refine CallN.lend T1 rfl (.full rfl p1 k1 (.same rfl (.same rfl (.same rfl (.same rfl .nil))))) ?_)))); (try (conv => whnf)))






  clear E1 S1 T1
  refine LoopN.weak (s1 := apL s st a t n0 n d b0 ok G1 G2 G3 1) ?swr0 ?_
  case swr0 => exact SW.mk id rfl rfl (apK _ _ _ _ _ _ rfl) ⟨.refl _, .refl _, .refl _, .refl _, .refl _, .refl _, .refl _, .refl _, .refl _, .refl _, .refl _, .refl _, trivial⟩ (apV rfl rfl rfl rfl (haveV.row rfl rfl (haveV.one rfl trivial)))
  refine LoopN.roundS ?_
  refine VS.of_V T_ok mixed rfl ?_
  ((repeat ((conv => whnf); (first | (refine LetN.pre ?_; first | ((conv => arg 1; whnf); refine LetN.mk ?_)) | (refine As.pre ?_; first | refine As.mk rfl ?_) | (refine LetV.pre ?_; first | refine LetV.mk (.agg _) rfl ?_ | refine LetV.mk (.slm _ _ _ _ _) rfl ?_) | (refine LetI.pre ?_; first | refine LetI.wrap (by omega) (by omega) ?_) | (refine LetB.pre ?_; first | refine LetB.tt rfl ?_ | refine LetB.ff (by assumption) ?_ | refine LetB.bnef (by omega) ?_) | (refine Gd.pre ?_; first | refine Gd.run rfl ?_) | (refine Br.pre ?_; first | refine Br.tt rfl ?_ | refine Br.ff rfl ?_) | (refine Ck.pre ?_; first | refine Ck.mk rfl ?_) | (refine LetL.pre ?_; first | refine LetL.mk [_] rfl ?_) | (refine CallN.pre ?_; first | refine CallN.lend E2 rfl (.full rfl p2 k2 (.same rfl (.same rfl (.same rfl (.same rfl .nil))))) ?_ | refine CallN.lend S2 rfl (.full rfl p2 k2 (.same rfl (.same rfl (.same rfl (.same rfl .nil))))) ?_ | refine CallN.lend T2 rfl (.full rfl p2 k2 (.same rfl (.same rfl (.same rfl (.same rfl .nil))))) ?_)))); (try (conv => whnf)))






  clear E2 S2 T2
  refine LoopN.weak (s1 := apL s st a t n0 n d b0 ok G1 G2 G3 2) ?swr1 ?_
  case swr1 => exact SW.mk id rfl rfl (apK _ _ _ _ _ _ rfl) ⟨.refl _, .refl _, .refl _, .refl _, .refl _, .refl _, .refl _, .refl _, .refl _, .refl _, .refl _, .refl _, trivial⟩ (apV rfl rfl rfl rfl (haveV.row rfl rfl (haveV.one rfl trivial)))
  refine LoopN.roundS ?_
  refine VS.of_V T_ok mixed rfl ?_
  ((repeat ((conv => whnf); (first | (refine LetN.pre ?_; first | ((conv => arg 1; whnf); refine LetN.mk ?_)) | (refine As.pre ?_; first | refine As.mk rfl ?_) | (refine LetV.pre ?_; first | refine LetV.mk (.agg _) rfl ?_ | refine LetV.mk (.slm _ _ _ _ _) rfl ?_) | (refine LetI.pre ?_; first | refine LetI.wrap (by omega) (by omega) ?_) | (refine LetB.pre ?_; first | refine LetB.tt rfl ?_ | refine LetB.ff (by assumption) ?_ | refine LetB.bnef (by omega) ?_) | (refine Gd.pre ?_; first | refine Gd.run rfl ?_) | (refine Br.pre ?_; first | refine Br.tt rfl ?_ | refine Br.ff rfl ?_) | (refine Ck.pre ?_; first | refine Ck.mk rfl ?_) | (refine LetL.pre ?_; first | refine LetL.mk [_] rfl ?_) | (refine CallN.pre ?_; first | refine CallN.lend E3 rfl (.full rfl p3 k3 (.same rfl (.same rfl (.same rfl (.same rfl .nil))))) ?_ | refine CallN.lend S3 rfl (.full rfl p3 k3 (.same rfl (.same rfl (.same rfl (.same rfl .nil))))) ?_ | refine CallN.lend T3 rfl (.full rfl p3 k3 (.same rfl (.same rfl (.same rfl (.same rfl .nil))))) ?_)))); (try (conv => whnf)))






  clear E3 S3 T3
  refine LoopN.weak (s1 := apL s st a t n0 n d b0 ok G1 G2 G3 3) ?swr2 ?_
  case swr2 => exact SW.mk id rfl rfl (apK _ _ _ _ _ _ rfl) ⟨.refl _, .refl _, .refl _, .refl _, .refl _, .refl _, .refl _, .refl _, .refl _, .refl _, .refl _, .refl _, trivial⟩ (apV rfl rfl rfl rfl (haveV.row rfl rfl (haveV.one rfl trivial)))
  refine LoopN.roundS ?_
  refine VS.of_V T_ok mixed rfl ?_
  ((repeat ((conv => whnf); (first | (refine As.pre ?_; first | refine As.mk rfl ?_) | (refine LetB.pre ?_; first | refine LetB.ff rfl ?_) | (refine Br.pre ?_; first | refine Br.ff rfl ?_) | (refine Ck.pre ?_; first | refine Ck.mk rfl ?_)))); (try (conv => whnf)))
  exact ⟨⟨[(2, bool true)], [], 0⟩, SW.fr0 (Nat.le_refl _) rfl ⟨.refl _, trivial⟩, .inl rfl, ⟨_, rfl, rfl⟩, trivial⟩
theorem sapart_row (x : List Int × Int × Int × Int × Int) (hx : x.1.length ≤ 9223372036854775807) (h1 : 0 ≤ x.2.1 ∧ x.2.1 ≤ 255) (h2 : 0 ≤ x.2.2.1 ∧ x.2.2.1 ≤ 255) (h3 : 0 ≤ x.2.2.2.1 ∧ x.2.2.2.1 ≤ 65535) (h4 : 0 ≤ x.2.2.2.2 ∧ x.2.2.2.2 ≤ 255) :
    AFun Try.prog 5 0 [.agg [.ro {} 1 (x.1.map int), u8' x.2.1, u8' x.2.2.1, u16 x.2.2.2.1, u8' x.2.2.2.2]] [] (bool true) [] := sapart x.1 {} hx x.2 h1 h2 h3 h4
end En
end Go.Proofs.Ytnegdmjmllmclaa
