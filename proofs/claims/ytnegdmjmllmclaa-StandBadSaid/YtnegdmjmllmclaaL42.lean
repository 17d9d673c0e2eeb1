/- stand: parts of the proof, DstandSI DstandSJ DstandSK. -/
import Derived.Test.YtnegdmjmllmclaaL41
set_option linter.all false
namespace Go.Proofs.Ytnegdmjmllmclaa
open Go.Proofs.Ytnegdmjmllmclaa.Am
set_option maxRecDepth 100000
namespace En
/-! ### The sums of the law -/
abbrev scty : TypeId := 29
abbrev stty : TypeId := 59
def inB (st t : Int) (x : St) (e : E) : Bool := decide (e.kind = 3 ∧ e.id = x.entry ∧ e.student = st ∧ e.on_ / 100 = t)
def inF (s : Sc.Scl) (st t : Int) (x : St) (q : Int × Int) (e : E) : Int × Int := if inB st t x e then crS s q (x, e.credits) else q
def suP (l : List E) (s : Sc.Scl) (st a t : Int) : Int × Int := (atP l a (100 * t + 99)).foldl (fun q x => l.foldl (inF s st t x) q) (0, 0)
abbrev su1 (l : List E) (A : List St) (s : Sc.Scl) (st t : Int) (q : Int × Int) (j : Nat) : Fr := [(0, .ro {} 15 (l.map en)), (2, int st), (4, int t), (6, .ptr 0 3 0 0), (12, int q.1), (13, int q.2), (23, .ro {} 4 (A.map stA)), (24, int A.length), (25, int j)]
abbrev suS (l : List E) (A : List St) (s : Sc.Scl) (st t : Int) : Nat × Int × Int → AS
  | (j, q) => ⟨su1 l A s st t q j, [(0, .row 3 scty [Sc.scA s])], 1⟩
abbrev suT (l : List E) (A : List St) (s : Sc.Scl) (st t : Int) (j : Nat) (x : St) : Nat × Int × Int → AS
  | (k, q) => ⟨su1 l A s st t q j ++ [(15, .ptr 1 4 0 0), (29, .ro {} 15 (l.map en)), (30, int l.length), (31, int k)], [(0, .row 3 scty [Sc.scA s]), (1, .row 4 stty [stA x])], 2⟩
theorem suN1 (ok : Nat → Bool) (h : ok 0 = true) (l : List E) (A : List St) (s : Sc.Scl) (st t : Int) (q : Int × Int) (j : Nat) : frNames ok (su1 l A s st t q j) = true := by
  simp only [frNames, AV.names, namesL_none (pure_en l), namesL_none (pure_st A), h]; rfl
theorem suN2 (ok : Nat → Bool) (h : ok 0 = true) (h1 : ok 1 = true) (l : List E) (A : List St) (s : Sc.Scl) (st t : Int) (q : Int × Int) (j k : Nat) : frNames ok (su1 l A s st t q j ++ [(15, .ptr 1 4 0 0), (29, .ro {} 15 (l.map en)), (30, int l.length), (31, int k)]) = true := by
  simp only [List.cons_append, List.nil_append, frNames, AV.names, namesL_none (pure_en l), namesL_none (pure_st A), h, h1]; rfl
set_option maxHeartbeats 3200000 in
set_option maxRecDepth 100000 in
theorem sums_f (l : List E) (s : Sc.Scl) (st a t : Int) (hl : l.length < 40) (ht : 0 ≤ t ∧ t ≤ 1000) (ho : ∀ e ∈ l, 0 ≤ e.on_ ∧ e.on_ ≤ 1000) : AFun Try.prog 21 0 [.ro {} 15 (l.map en), Sc.scA s, int st, int a, int t] [] (.tup [int (suP l s st a t).1, int (suP l s st a t).2]) [] := by
  refine AFun.of_W T_ok mixed Try.func21 rfl (Nat.le_of_ble_eq_true rfl) rfl ?_
  have hA := At_f l a (100 * t + 99) {} hl
  have hlen := atP_len (l := l) a (100 * t + 99)
  rw [suP]
  generalize atP l a (100 * t + 99) = A at hA hlen ⊢
  have hml : (l.map en).length = l.length := List.length_map _
  have hmA : (A.map stA).length = A.length := List.length_map _
  generalize hR : A.foldl (fun q x => l.foldl (inF s st t x) q) (0, 0) = R
  ((repeat ((conv => whnf); (first | (refine LetN.pre ?_; first | ((conv => arg 1; whnf); refine LetN.mk ?_)) | (refine As.pre ?_; first | refine As.mk rfl ?_) | (refine LetI.pre ?_; first | refine LetI.wrap (by omega) (by omega) ?_ | refine LetI.mk _ rfl ?_) | (refine Ck.pre ?_; first | refine Ck.mk rfl ?_) | (refine CallN.pre ?_; first | refine CallN.pure hA rfl rfl ?_)))); (try (conv => whnf)))
  refine LoopN.weak (s1 := suS l A s st t (0, 0, 0)) ?sw1 ?_
  case sw1 => exact SW.mk id rfl (suN1 _ rfl ..) rfl ⟨.refl _, .refl _, .refl _, .refl _, .refl _, .refl _, VLe2.ro_of rfl, VLe2.int (by rw [hmA]), .refl _, trivial⟩ (haveV.one rfl trivial)
  clear hA
  refine LoopN.ind T_ok mixed (S := suS l A s st t) (fun i => A.length - i.1) (fun i => i.1 ≤ A.length ∧ (A.drop i.1).foldl (fun q x => l.foldl (inF s st t x) q) i.2 = R) (fun _ => rfl) (fun i hi ih => ?_) (0, 0, 0) ⟨Nat.zero_le _, hR⟩
  obtain ⟨j, q⟩ := i
  obtain ⟨h1, h2⟩ := hi
  dsimp only at h1 h2
  by_cases hlt : j < A.length
  case neg =>
    clear ih
    rw [List.drop_of_length_le (by omega)] at h2
    dsimp only [List.foldl_nil] at h2
    subst h2
    ((repeat ((conv => whnf); (first | (refine As.pre ?_; first | refine As.mk rfl ?_) | (refine LetB.pre ?_; first | refine LetB.decf (by omega) ?_) | (refine Br.pre ?_; first | refine Br.ff rfl ?_) | (refine Ck.pre ?_; first | refine Ck.mk rfl ?_)))); (try (conv => whnf)))
    exact ⟨.inl rfl, ⟨_, rfl, rfl⟩, trivial⟩
  have hld := stD hlt
  rw [foldl_drop (fun q x => l.foldl (inF s st t x) q) hlt ⟨0, 0, 0, false⟩] at h2
  generalize A.getD j ⟨0, 0, 0, false⟩ = x at hld h2
  have hnx := fun q' (h : (A.drop (j + 1)).foldl (fun q x => l.foldl (inF s st t x) q) q' = R) => ih (j + 1, q') ⟨by show j + 1 ≤ A.length; omega, h⟩ (by show A.length - (j + 1) < A.length - j; omega)
  clear ih hR
  ((repeat ((conv => whnf); (first | (refine LetN.pre ?_; first | ((conv => arg 1; whnf); refine LetN.mk ?_)) | (refine As.pre ?_; first | refine As.mk rfl ?_ | (refine As.mk ?_ ?_; · ((repeat' (refine andT ?_ ?_)) <;> (first | rfl | assumption | exact decide_eq_true (by omega) | exact decide_eq_true (by dsimp only; omega) | exact decide_eq_true (by simp; omega) | (simp; done))))) | (refine LetV.pre ?_; first | refine LetV.mk (t := 56) _ hld ?_ | refine LetV.mk (.agg _) rfl ?_) | (refine LetI.pre ?_; first | refine LetI.mk _ rfl ?_) | (refine LetB.pre ?_; first | refine LetB.dect (by omega) ?_) | (refine Br.pre ?_; first | refine Br.tt rfl ?_) | (refine Ck.pre ?_; first | refine Ck.mk rfl ?_) | (refine LetL.pre ?_; first | refine LetL.mk [_] rfl ?_)))); (try (conv => whnf)))
  clear hld
  refine LoopN.weak (s1 := suT l A s st t j x (0, q)) ?sw2 ?_
  case sw2 => exact SW.mk id rfl (suN2 _ rfl rfl ..) rfl ⟨.refl _, .refl _, .refl _, .refl _, .refl _, .refl _, .refl _, .refl _, .refl _, .refl _, VLe2.ro_of rfl, VLe2.int (by rw [hml]), .refl _, trivial⟩ (haveV.one rfl (haveV.one rfl trivial))
  refine LoopN.ind T_ok mixed (S := suT l A s st t j x) (fun i => l.length - i.1) (fun i => i.1 ≤ l.length ∧ (A.drop (j + 1)).foldl (fun q x => l.foldl (inF s st t x) q) ((l.drop i.1).foldl (inF s st t x) i.2) = R) (fun _ => rfl) (fun i hi ih => ?_) (0, q) ⟨Nat.zero_le _, h2⟩
  clear h2 q
  obtain ⟨k, q⟩ := i
  obtain ⟨h3, h4⟩ := hi
  dsimp only at h3 h4
  by_cases hk : k < l.length
  case neg =>
    clear ih
    rw [List.drop_of_length_le (by omega)] at h4
    have hnx := hnx q h4
    ((repeat ((conv => whnf); (first | (refine As.pre ?_; first | refine As.mk rfl ?_) | (refine LetI.pre ?_; first | refine LetI.wrap (by omega) (by omega) ?_) | (refine LetB.pre ?_; first | refine LetB.decf (by omega) ?_) | (refine Br.pre ?_; first | refine Br.ff rfl ?_) | (refine Ck.pre ?_; first | refine Ck.mk rfl ?_)))); (try (conv => whnf)))
    refine LoopN.weak ?sw3 hnx
    case sw3 => exact SW.mk id rfl (suN1 _ rfl ..) rfl ⟨.refl _, .refl _, .refl _, .refl _, .refl _, .refl _, .refl _, .refl _, VLe2.int (by omega), trivial⟩ (haveV.one rfl trivial)
  clear hnx
  rw [foldl_drop _ hk e0] at h4
  have hle := tmD hk
  have hoe := ho _ (getD_mem' hk)
  generalize l.getD k e0 = e at hle hoe h4
  have hP := Sc.Passed_f s x.grade
  obtain ⟨d, hd⟩ : ∃ d, d = e.on_ / 100 := ⟨_, rfl⟩
  have hq : d = e.on_.tdiv 100 := by rw [hd, Int.tdiv_eq_ediv_of_nonneg hoe.1]
  have hq2 : d = IntKind.i64.wrap (e.on_.tdiv 100) := by rw [← hq, wrap_id (by omega) (by omega)]
  obtain ⟨q', hq'⟩ : ∃ q', q' = inF s st t x q e := ⟨_, rfl⟩
  rw [← hq'] at h4
  have hnx := ih (k + 1, q') ⟨by show k + 1 ≤ l.length; omega, h4⟩ (by show l.length - (k + 1) < l.length - k; omega)
  clear ih h4
  unfold inF inB at hq'
  rw [← hd] at hq'
  clear hd hoe
  obtain ⟨xe, xb, xg, xv⟩ := x
  obtain ⟨p, f⟩ := q
  by_cases c1 : e.kind = 3
  case neg =>
    rw [decide_eq_false (fun h => c1 h.1), if_neg (by decide)] at hq'
    subst hq'
    ((repeat ((conv => whnf); (first | (refine LetN.pre ?_; first | ((conv => arg 1; whnf); refine LetN.mk ?_)) | (refine As.pre ?_; first | refine As.mk rfl ?_ | (refine As.mk ?_ ?_; · ((repeat' (refine andT ?_ ?_)) <;> (first | rfl | assumption | exact decide_eq_true (by omega) | exact decide_eq_true (by dsimp only; omega) | exact decide_eq_true (by simp; omega) | (simp; done))))) | (refine LetV.pre ?_; first | refine LetV.mk (t := 27) _ hle ?_ | refine LetV.mk (.sc (.int _ _)) rfl ?_ | refine LetV.mk (.agg _) rfl ?_) | (refine LetI.pre ?_; first | refine LetI.wrap (by omega) (by omega) ?_) | (refine LetB.pre ?_; first | refine LetB.dect (by omega) ?_ | refine LetB.bnet (by omega) ?_) | (refine Gd.pre ?_; first | refine Gd.pass rfl ?_) | (refine Br.pre ?_; first | refine Br.tt rfl ?_) | (refine Ck.pre ?_; first | refine Ck.mk rfl ?_) | (refine LetL.pre ?_; first | refine LetL.mk [_] rfl ?_)))); (try (conv => whnf)))






    refine LoopN.weak ?swa hnx
    case swa => exact SW.mk id rfl (suN2 _ rfl rfl ..) rfl ⟨.refl _, .refl _, .refl _, .refl _, .refl _, .refl _, .refl _, .refl _, .refl _, .refl _, .refl _, .refl _, VLe2.int (by omega), trivial⟩ (haveV.one rfl (haveV.one rfl trivial))
  by_cases c2 : e.id = xe
  case neg =>
    rw [decide_eq_false (fun h => c2 h.2.1), if_neg (by decide)] at hq'
    subst hq'
    ((repeat ((conv => whnf); (first | (refine LetN.pre ?_; first | ((conv => arg 1; whnf); refine LetN.mk ?_)) | (refine As.pre ?_; first | refine As.mk rfl ?_ | (refine As.mk ?_ ?_; · ((repeat' (refine andT ?_ ?_)) <;> (first | rfl | assumption | exact decide_eq_true (by omega) | exact decide_eq_true (by dsimp only; omega) | exact decide_eq_true (by simp; omega) | (simp; done))))) | (refine LetV.pre ?_; first | refine LetV.mk (t := 27) _ hle ?_ | refine LetV.mk (.sc (.int _ _)) rfl ?_ | refine LetV.mk (.agg _) rfl ?_) | (refine LetI.pre ?_; first | refine LetI.wrap (by omega) (by omega) ?_) | (refine LetB.pre ?_; first | refine LetB.dect (by omega) ?_ | refine LetB.bnet (by omega) ?_ | refine LetB.bnef (by omega) ?_) | (refine Gd.pre ?_; first | refine Gd.run rfl ?_ | refine Gd.pass rfl ?_) | (refine Br.pre ?_; first | refine Br.tt rfl ?_) | (refine Ck.pre ?_; first | refine Ck.mk rfl ?_) | (refine LetL.pre ?_; first | refine LetL.mk [_] rfl ?_)))); (try (conv => whnf)))






    refine LoopN.weak ?swb hnx
    case swb => exact SW.mk id rfl (suN2 _ rfl rfl ..) rfl ⟨.refl _, .refl _, .refl _, .refl _, .refl _, .refl _, .refl _, .refl _, .refl _, .refl _, .refl _, .refl _, VLe2.int (by omega), trivial⟩ (haveV.one rfl (haveV.one rfl trivial))
  by_cases c3 : e.student = st
  case neg =>
    rw [decide_eq_false (fun h => c3 h.2.2.1), if_neg (by decide)] at hq'
    subst hq'
    ((repeat ((conv => whnf); (first | (refine LetN.pre ?_; first | ((conv => arg 1; whnf); refine LetN.mk ?_)) | (refine As.pre ?_; first | refine As.mk rfl ?_ | (refine As.mk ?_ ?_; · ((repeat' (refine andT ?_ ?_)) <;> (first | rfl | assumption | exact decide_eq_true (by omega) | exact decide_eq_true (by dsimp only; omega) | exact decide_eq_true (by simp; omega) | (simp; done))))) | (refine LetV.pre ?_; first | refine LetV.mk (t := 27) _ hle ?_ | refine LetV.mk (.sc (.int _ _)) rfl ?_ | refine LetV.mk (.agg _) rfl ?_) | (refine LetI.pre ?_; first | refine LetI.wrap (by omega) (by omega) ?_) | (refine LetB.pre ?_; first | refine LetB.dect (by omega) ?_ | refine LetB.bnet (by omega) ?_ | refine LetB.bnef (by omega) ?_) | (refine Gd.pre ?_; first | refine Gd.run rfl ?_ | refine Gd.pass rfl ?_) | (refine Br.pre ?_; first | refine Br.tt rfl ?_) | (refine Ck.pre ?_; first | refine Ck.mk rfl ?_) | (refine LetL.pre ?_; first | refine LetL.mk [_] rfl ?_)))); (try (conv => whnf)))






    refine LoopN.weak ?swc hnx
    case swc => exact SW.mk id rfl (suN2 _ rfl rfl ..) rfl ⟨.refl _, .refl _, .refl _, .refl _, .refl _, .refl _, .refl _, .refl _, .refl _, .refl _, .refl _, .refl _, VLe2.int (by omega), trivial⟩ (haveV.one rfl (haveV.one rfl trivial))
  by_cases c4 : d = t
  case neg =>
    rw [decide_eq_false (fun h => c4 h.2.2.2), if_neg (by decide)] at hq'
    subst hq'
    ((repeat ((conv => whnf); (first | (refine LetN.pre ?_; first | ((conv => arg 1; whnf); refine LetN.mk ?_)) | (refine As.pre ?_; first | refine As.mk rfl ?_ | (refine As.mk ?_ ?_; · ((repeat' (refine andT ?_ ?_)) <;> (first | rfl | assumption | exact decide_eq_true (by omega) | exact decide_eq_true (by dsimp only; omega) | exact decide_eq_true (by simp; omega) | (simp; done))))) | (refine LetV.pre ?_; first | refine LetV.mk (t := 27) _ hle ?_ | refine LetV.mk (.sc (.int _ _)) rfl ?_ | refine LetV.mk (.agg _) rfl ?_) | (refine LetI.pre ?_; first | refine LetI.mk (o := some .quo) d hq2 ?_ | refine LetI.wrap (by omega) (by omega) ?_) | (refine LetB.pre ?_; first | refine LetB.dect (by omega) ?_ | refine LetB.bnet (by omega) ?_ | refine LetB.bnef (by omega) ?_) | (refine Gd.pre ?_; first | refine Gd.run rfl ?_) | (refine Br.pre ?_; first | refine Br.tt rfl ?_) | (refine Ck.pre ?_; first | refine Ck.mk rfl ?_) | (refine LetL.pre ?_; first | refine LetL.mk [_] rfl ?_)))); (try (conv => whnf)))






    refine LoopN.weak ?swd hnx
    case swd => exact SW.mk id rfl (suN2 _ rfl rfl ..) rfl ⟨.refl _, .refl _, .refl _, .refl _, .refl _, .refl _, .refl _, .refl _, .refl _, .refl _, .refl _, .refl _, VLe2.int (by omega), trivial⟩ (haveV.one rfl (haveV.one rfl trivial))
  rw [decide_eq_true ⟨c1, c2, c3, c4⟩, if_pos rfl] at hq'
  cases xv with
  | true =>
    have e1 : crS s (p, f) (⟨xe, xb, xg, true⟩, e.credits) = (p, IntKind.i64.wrap (f + e.credits)) := rfl
    rw [e1] at hq'
    subst hq'
    ((repeat ((conv => whnf); (first | (refine LetN.pre ?_; first | ((conv => arg 1; whnf); refine LetN.mk ?_)) | (refine As.pre ?_; first | refine As.mk rfl ?_ | (refine As.mk ?_ ?_; · ((repeat' (refine andT ?_ ?_)) <;> (first | rfl | assumption | exact decide_eq_true (by omega) | exact decide_eq_true (by dsimp only; omega) | exact decide_eq_true (by simp; omega) | (simp; done))))) | (refine LetV.pre ?_; first | refine LetV.mk (t := 27) _ hle ?_ | refine LetV.mk (.sc (.int _ _)) rfl ?_ | refine LetV.mk (.sc (.bool _)) rfl ?_ | refine LetV.mk (.agg _) rfl ?_) | (refine LetI.pre ?_; first | refine LetI.mk (o := some .quo) d hq2 ?_ | refine LetI.mk (o := some .add) (IntKind.i64.wrap (f + e.credits)) rfl ?_ | refine LetI.wrap (by omega) (by omega) ?_) | (refine LetB.pre ?_; first | refine LetB.dect (by omega) ?_ | refine LetB.bnef (by omega) ?_) | (refine Gd.pre ?_; first | refine Gd.run rfl ?_ | refine Gd.pass rfl ?_) | (refine Br.pre ?_; first | refine Br.tt rfl ?_ | refine Br.ff rfl ?_) | (refine Ck.pre ?_; first | refine Ck.mk rfl ?_) | (refine LetL.pre ?_; first | refine LetL.mk [_] rfl ?_)))); (try (conv => whnf)))






    refine LoopN.weak ?swe hnx
    case swe => exact SW.mk id rfl (suN2 _ rfl rfl ..) rfl ⟨.refl _, .refl _, .refl _, .refl _, .refl _, .refl _, .refl _, .refl _, .refl _, .refl _, .refl _, .refl _, VLe2.int (by omega), trivial⟩ (haveV.one rfl (haveV.one rfl trivial))
  | false =>
    by_cases hr : Sc.rea s xg s.2.2
    · have e1 : crS s (p, f) (⟨xe, xb, xg, false⟩, e.credits) = (IntKind.i64.wrap (p + e.credits), f) := by unfold crS psB; rw [decide_eq_true hr]; rfl
      rw [e1] at hq'
      rw [decide_eq_true hr] at hP
      subst hq'
      ((repeat ((conv => whnf); (first | (refine LetN.pre ?_; first | ((conv => arg 1; whnf); refine LetN.mk ?_)) | (refine As.pre ?_; first | refine As.mk rfl ?_ | (refine As.mk ?_ ?_; · ((repeat' (refine andT ?_ ?_)) <;> (first | rfl | assumption | exact decide_eq_true (by omega) | exact decide_eq_true (by dsimp only; omega) | exact decide_eq_true (by simp; omega) | (simp; done))))) | (refine LetV.pre ?_; first | refine LetV.mk (t := 27) _ hle ?_ | refine LetV.mk (.sc (.int _ _)) rfl ?_ | refine LetV.mk (.sc (.bool _)) rfl ?_ | refine LetV.mk (.agg _) rfl ?_) | (refine LetI.pre ?_; first | refine LetI.mk (o := some .quo) d hq2 ?_ | refine LetI.mk (o := some .add) (IntKind.i64.wrap (p + e.credits)) rfl ?_ | refine LetI.wrap (by omega) (by omega) ?_) | (refine LetB.pre ?_; first | refine LetB.dect (by omega) ?_ | refine LetB.bnef (by omega) ?_) | (refine Gd.pre ?_; first | refine Gd.run rfl ?_) | (refine Br.pre ?_; first | refine Br.tt rfl ?_ | refine Br.ff rfl ?_) | (refine Ck.pre ?_; first | refine Ck.mk rfl ?_) | (refine LetL.pre ?_; first | refine LetL.mk [_] rfl ?_) | (refine CallN.pre ?_; first | refine CallN.pure hP rfl rfl ?_)))); (try (conv => whnf)))






      refine LoopN.weak ?swf hnx
      case swf => exact SW.mk id rfl (suN2 _ rfl rfl ..) rfl ⟨.refl _, .refl _, .refl _, .refl _, .refl _, .refl _, .refl _, .refl _, .refl _, .refl _, .refl _, .refl _, VLe2.int (by omega), trivial⟩ (haveV.one rfl (haveV.one rfl trivial))
    · have e1 : crS s (p, f) (⟨xe, xb, xg, false⟩, e.credits) = (p, IntKind.i64.wrap (f + e.credits)) := by unfold crS psB; rw [decide_eq_false hr]; rfl
      rw [e1] at hq'
      rw [decide_eq_false hr] at hP
      subst hq'
      ((repeat ((conv => whnf); (first | (refine LetN.pre ?_; first | ((conv => arg 1; whnf); refine LetN.mk ?_)) | (refine As.pre ?_; first | refine As.mk rfl ?_ | (refine As.mk ?_ ?_; · ((repeat' (refine andT ?_ ?_)) <;> (first | rfl | assumption | exact decide_eq_true (by omega) | exact decide_eq_true (by dsimp only; omega) | exact decide_eq_true (by simp; omega) | (simp; done))))) | (refine LetV.pre ?_; first | refine LetV.mk (t := 27) _ hle ?_ | refine LetV.mk (.sc (.int _ _)) rfl ?_ | refine LetV.mk (.sc (.bool _)) rfl ?_ | refine LetV.mk (.agg _) rfl ?_) | (refine LetI.pre ?_; first | refine LetI.mk (o := some .quo) d hq2 ?_ | refine LetI.mk (o := some .add) (IntKind.i64.wrap (f + e.credits)) rfl ?_ | refine LetI.wrap (by omega) (by omega) ?_) | (refine LetB.pre ?_; first | refine LetB.dect (by omega) ?_ | refine LetB.bnef (by omega) ?_) | (refine Gd.pre ?_; first | refine Gd.run rfl ?_) | (refine Br.pre ?_; first | refine Br.tt rfl ?_ | refine Br.ff rfl ?_) | (refine Ck.pre ?_; first | refine Ck.mk rfl ?_) | (refine LetL.pre ?_; first | refine LetL.mk [_] rfl ?_) | (refine CallN.pre ?_; first | refine CallN.pure hP rfl rfl ?_)))); (try (conv => whnf)))






      refine LoopN.weak ?swg hnx
      case swg => exact SW.mk id rfl (suN2 _ rfl rfl ..) rfl ⟨.refl _, .refl _, .refl _, .refl _, .refl _, .refl _, .refl _, .refl _, .refl _, .refl _, .refl _, .refl _, VLe2.int (by omega), trivial⟩ (haveV.one rfl (haveV.one rfl trivial))
end En
end Go.Proofs.Ytnegdmjmllmclaa
namespace Go.Proofs.Ytnegdmjmllmclaa
open Go.Proofs.Ytnegdmjmllmclaa.Am
set_option maxRecDepth 100000
namespace En
/-! ### Grades of a term, by entries -/
theorem fidx_find {α : Type} (p : α → Bool) (d : α) : ∀ (l : List α) (k : Nat), (fidx p l k < 0 ∧ l.find? p = none) ∨ ∃ i, i < l.length ∧ fidx p l k = ((k + i : Nat) : Int) ∧ l.find? p = some (l.getD i d)
  | [], _ => .inl ⟨by simp [fidx], rfl⟩
  | x :: l, k => by
    simp only [fidx]
    by_cases h : p x = true
    · rw [if_pos h]
      exact .inr ⟨0, by simp, rfl, by rw [List.find?_cons_of_pos h]; rfl⟩
    · rw [if_neg h, List.find?_cons_of_neg h]
      rcases fidx_find p d l (k + 1) with h1 | ⟨i, h1, h2, h3⟩
      · exact .inl h1
      · exact .inr ⟨i + 1, by simpa using h1, by rw [h2]; omega, by rw [h3]; rfl⟩
theorem gsel_find (l : List E) (st t : Int) (x : St) : gsel l st t x = (l.find? (isG x.entry)).bind fun e => if e.student = st ∧ e.on_ / 100 = t then some (x, e.credits) else none := by
  unfold gsel
  rcases fidx_find (isG x.entry) e0 l 0 with ⟨h1, h2⟩ | ⟨i, h1, h2, h3⟩
  · rw [if_pos h1, h2]; rfl
  · rw [h2, h3, if_neg (by omega)]
    have : ((0 + i : Nat) : Int).toNat = i := by omega
    rw [this]; rfl
theorem inF_none {s : Sc.Scl} {st t : Int} {x : St} : ∀ {l : List E} (q : Int × Int), (∀ e ∈ l, e.id ≠ x.entry) → l.foldl (inF s st t x) q = q
  | [], _, _ => rfl
  | e :: l, q, h => by
    have h1 : inF s st t x q e = q := by
      unfold inF inB
      rw [decide_eq_false (fun hh => h e (List.mem_cons_self ..) hh.2.1), if_neg (by decide)]
    rw [List.foldl_cons, h1]
    exact inF_none q fun e he => h e (List.mem_cons_of_mem _ he)
theorem inF_find {s : Sc.Scl} {st t : Int} {x : St} : ∀ {l : List E} (q : Int × Int), up l → l.foldl (inF s st t x) q = match ((l.find? (isG x.entry)).bind fun e => if e.student = st ∧ e.on_ / 100 = t then some (x, e.credits) else none) with | some y => crS s q y | none => q
  | [], _, _ => rfl
  | e :: l, q, h => by
    obtain ⟨h1, h2⟩ := List.pairwise_cons.1 h
    rw [List.foldl_cons]
    by_cases hg : e.kind = 3 ∧ e.id = x.entry
    · rw [List.find?_cons_of_pos (show isG x.entry e = true from decide_eq_true hg), inF_none _ fun e' he' => by have := h1 e' he'; omega]
      unfold inF inB
      by_cases c : e.student = st ∧ e.on_ / 100 = t
      · rw [decide_eq_true ⟨hg.1, hg.2, c.1, c.2⟩, if_pos rfl]
        show _ = match (if e.student = st ∧ e.on_ / 100 = t then some (x, e.credits) else none) with | some y => crS s q y | none => q
        rw [if_pos c]
      · rw [decide_eq_false (fun hh => c ⟨hh.2.2.1, hh.2.2.2⟩), if_neg (by decide)]
        show _ = match (if e.student = st ∧ e.on_ / 100 = t then some (x, e.credits) else none) with | some y => crS s q y | none => q
        rw [if_neg c]
    · rw [List.find?_cons_of_neg (show ¬ isG x.entry e = true from fun hh => hg (of_decide_eq_true hh))]
      have h1 : inF s st t x q e = q := by
        unfold inF inB
        rw [decide_eq_false (fun hh => hg ⟨hh.1, hh.2.1⟩), if_neg (by decide)]
      rw [h1]
      exact inF_find q h2
theorem suP_eq {l : List E} (h : up l) (s : Sc.Scl) (st a t : Int) : suP l s st a t = crP s (grdP l st a t) := by
  unfold suP crP grdP
  rw [List.foldl_filterMap]
  congr 1
  funext q x
  rw [inF_find q h, gsel_find]
  cases (List.find? (isG x.entry) l).bind fun e => if e.student = st ∧ e.on_ / 100 = t then some (x, e.credits) else none <;> rfl
theorem up_id {l : List E} (h : up l) {a b : E} (ha : a ∈ l) (hb : b ∈ l) (e : a.id = b.id) : a = b := by
  obtain ⟨i, hi, rfl⟩ := List.mem_iff_getElem.1 ha
  obtain ⟨j, hj, rfl⟩ := List.mem_iff_getElem.1 hb
  have hp := List.pairwise_iff_getElem.1 h
  rcases Nat.lt_trichotomy i j with h1 | h1 | h1
  · have := hp i j hi hj h1; omega
  · subst h1; rfl
  · have := hp j i hj hi h1; omega
theorem find_up {l : List E} (h : up l) {g : E} (hg : g ∈ l) (hk : g.kind = 3) : l.find? (isG g.id) = some g := by
  cases hf : l.find? (isG g.id) with
  | none => exact absurd (decide_eq_true ⟨hk, rfl⟩) (List.find?_eq_none.1 hf g hg)
  | some e =>
    have h1 := List.find?_some hf
    have h2 := of_decide_eq_true h1
    rw [up_id h (List.mem_of_find?_eq_some hf) hg h2.2]
/-- The grades of a student and a term that count. -/
def tgB (st a t : Int) (g : E) : Bool := decide (g.kind = 3 ∧ g.day ≤ a ∧ g.on_ ≤ 100 * t + 99 ∧ g.student = st ∧ g.on_ / 100 = t)
theorem grd_up {l : List E} (h : up l) (st a t : Int) : grdP l st a t = (l.filter (tgB st a t)).map fun g => (stS l a (100 * t + 99) g, g.credits) := by
  rw [grdP, atP_up h, List.filterMap_map]
  have : ∀ L : List E, (∀ g ∈ L, g ∈ l) → List.filterMap (gsel l st t ∘ stS l a (100 * t + 99)) (L.filter (grB a (100 * t + 99))) = (L.filter (tgB st a t)).map fun g => (stS l a (100 * t + 99) g, g.credits) := by
    intro L hL
    induction L with
    | nil => rfl
    | cons g L ih =>
      have ih := ih fun x hx => hL x (List.mem_cons_of_mem _ hx)
      by_cases hg : g.kind = 3 ∧ g.day ≤ a ∧ g.on_ ≤ 100 * t + 99
      · rw [List.filter_cons_of_pos (show grB a (100 * t + 99) g = true from decide_eq_true hg), List.filterMap_cons]
        have e : (gsel l st t ∘ stS l a (100 * t + 99)) g = if g.student = st ∧ g.on_ / 100 = t then some (stS l a (100 * t + 99) g, g.credits) else none := by
          show gsel l st t (stS l a (100 * t + 99) g) = _
          rw [gsel_find]
          have : (stS l a (100 * t + 99) g).entry = g.id := rfl
          rw [this, find_up h (hL g (List.mem_cons_self ..)) hg.1]; rfl
        rw [e]
        by_cases c : g.student = st ∧ g.on_ / 100 = t
        · rw [if_pos c, List.filter_cons_of_pos (show tgB st a t g = true from decide_eq_true ⟨hg.1, hg.2.1, hg.2.2, c.1, c.2⟩), List.map_cons, ih]
        · rw [if_neg c, List.filter_cons_of_neg (by unfold tgB; rw [decide_eq_false (fun hh => c hh.2.2.2)]; decide), ih]
      · rw [List.filter_cons_of_neg (show ¬ grB a (100 * t + 99) g = true from fun hh => hg (of_decide_eq_true hh)), List.filter_cons_of_neg (by unfold tgB; rw [decide_eq_false (fun hh => hg ⟨hh.1, hh.2.1, hh.2.2.1⟩)]; decide), ih]
  exact this l fun _ hg => hg
theorem foldl_min_le : ∀ (l : List Int) (x : Int), l.foldl min x ≤ x ∧ (∀ y ∈ l, l.foldl min x ≤ y) ∧ (l.foldl min x = x ∨ l.foldl min x ∈ l)
  | [], x => ⟨Int.le_refl _, fun _ h => absurd h List.not_mem_nil, .inl rfl⟩
  | z :: l, x => by
    obtain ⟨h1, h2, h3⟩ := foldl_min_le l (min x z)
    refine ⟨by rw [List.foldl_cons]; omega, fun y hy => ?_, ?_⟩
    · rw [List.foldl_cons]
      rcases List.mem_cons.1 hy with rfl | hy
      · omega
      · exact h2 y hy
    · rw [List.foldl_cons]
      rcases h3 with h3 | h3
      · rw [h3]
        by_cases hc : x ≤ z
        · left; omega
        · right; exact List.mem_cons.2 (.inl (by omega))
      · right; exact List.mem_cons_of_mem _ h3
theorem foldl_max_ge : ∀ (l : List Int) (x : Int), x ≤ l.foldl max x ∧ (∀ y ∈ l, y ≤ l.foldl max x)
  | [], x => ⟨Int.le_refl _, fun _ h => absurd h List.not_mem_nil⟩
  | z :: l, x => by
    obtain ⟨h1, h2⟩ := foldl_max_ge l (max x z)
    refine ⟨by rw [List.foldl_cons]; omega, fun y hy => ?_⟩
    rw [List.foldl_cons]
    rcases List.mem_cons.1 hy with rfl | hy
    · omega
    · exact h2 y hy
theorem minP_mem {l : List Int} (h : l ≠ []) : minP l ∈ l ∧ ∀ y ∈ l, minP l ≤ y := by
  cases l with
  | nil => exact absurd rfl h
  | cons x l =>
    obtain ⟨h1, h2, h3⟩ := foldl_min_le l x
    refine ⟨?_, fun y hy => ?_⟩
    · rcases h3 with h3 | h3
      · exact List.mem_cons.2 (.inl h3)
      · exact List.mem_cons_of_mem _ h3
    · rcases List.mem_cons.1 hy with rfl | hy
      · exact h1
      · exact h2 y hy
theorem maxP_ge {l : List Int} : ∀ y ∈ l, y ≤ maxP l := by
  cases l with
  | nil => exact fun _ h => absurd h List.not_mem_nil
  | cons x l =>
    obtain ⟨h1, h2⟩ := foldl_max_ge l x
    intro y hy
    rcases List.mem_cons.1 hy with rfl | hy
    · exact h1
    · exact h2 y hy
/-- Terms of entries with days from 0 on. -/
abbrev okO (l : List E) : Prop := ∀ e ∈ l, 0 ≤ e.on_ ∧ e.on_ ≤ 1000
theorem M10.okO {sc day : Int} {l : List E} (h : M10 sc day l) (hd : day ≤ 1000) : okO l := fun e he => by
  have h1 := (h.ok e he).day
  have h2 := (h.ok e he).on
  omega
theorem trm_nn {l : List E} (ho : okO l) {st a x : Int} (hx : x ∈ trmP l st a) : 0 ≤ x ∧ x ≤ 10 := by
  obtain ⟨e, he, rfl⟩ := List.mem_map.1 hx
  have := ho e (List.mem_filter.1 he).1
  omega
theorem grd_nil {l : List E} (h : up l) {st a t : Int} (hx : t ∉ trmP l st a) : grdP l st a t = [] := by
  rw [grd_up h]
  have : l.filter (tgB st a t) = [] := List.filter_eq_nil_iff.2 fun g hg hh => by
    have hh := of_decide_eq_true hh
    exact hx (List.mem_map.2 ⟨g, List.mem_filter.2 ⟨hg, decide_eq_true ⟨hh.1, hh.2.2.2.1, hh.2.1⟩⟩, hh.2.2.2.2⟩)
  rw [this]; rfl
theorem stdL_b (l : List E) (s : Sc.Scl) (st a f : Int) : ∀ k, 0 ≤ stdL l s st a f k ∧ stdL l s st a f k ≤ 3
  | 0 => ⟨Int.le_refl _, Int.le_of_lt (by show (0 : Int) < 3; decide)⟩
  | k + 1 => by
    rw [stdL]; unfold stdS
    split
    · omega
    · split <;> omega
theorem std_skip {l : List E} {s : Sc.Scl} {st a t : Int} (h : trmP l st a = [] ∨ t < minP (trmP l st a) ∨ 100 * t + 99 > a) : stdP l s st a t = 0 := by
  unfold stdP
  rw [if_pos]
  rcases h with h | h | h
  · exact .inl h
  · exact .inr (.inr h)
  · exact .inr (.inl (decide_eq_false fun hh => by omega))
theorem std_go {l : List E} {s : Sc.Scl} {st a t : Int} (ho : okO l) (h : trmP l st a ≠ []) (h1 : minP (trmP l st a) ≤ t) (h2 : 100 * t + 99 ≤ a) (h3 : t ≤ 1000) :
    stdP l s st a t = stdS (crP s (grdP l st a t)) (stdL l s st a (minP (trmP l st a)) (t - minP (trmP l st a)).toNat) := by
  have h0 := (trm_nn ho (minP_mem h).1).1
  unfold stdP
  have hf : fstP l st a = minP (trmP l st a) := by unfold fstP; omega
  rw [if_neg, hf]
  · generalize minP (trmP l st a) = f at h0 h1 ⊢
    have e1 : (t - f + 1).toNat = (t - f).toNat + 1 := by omega
    have e2 : f + ((t - f).toNat : Int) = t := by omega
    rw [e1, stdL, e2]
  · rintro (hh | hh | hh)
    · exact h hh
    · have := of_decide_eq_false hh; omega
    · omega
/-! ### The law of bad terms -/
/-- What the law keeps: the standing before. -/
def badI (l : List E) (s : Sc.Scl) (st a : Int) (t : Int) (b : Int) : Prop :=
  (0 ≤ b ∧ b ≤ 3) ∧ (trmP l st a ≠ [] → (t ≤ minP (trmP l st a) → b = 0) ∧ (minP (trmP l st a) ≤ t → (t = minP (trmP l st a) ∨ 100 * (t - 1) + 99 ≤ a) → b = stdL l s st a (minP (trmP l st a)) (t - minP (trmP l st a)).toNat))
theorem bad0 {l : List E} (s : Sc.Scl) {st a : Int} (ho : okO l) : badI l s st a 0 0 := ⟨by decide, fun h => ⟨fun _ => rfl, fun h1 _ => by
  have := (trm_nn ho (minP_mem h).1).1
  have e : minP (trmP l st a) = 0 := by omega
  rw [e]; rfl⟩⟩
theorem bad_skip {l : List E} {s : Sc.Scl} {st a t b : Int} (h : badI l s st a t b) (hs : trmP l st a = [] ∨ t < minP (trmP l st a) ∨ 100 * t + 99 > a) : badI l s st a (t + 1) b := by
  refine ⟨h.1, fun hn => ⟨fun h1 => (h.2 hn).1 (by omega), fun h1 h2 => ?_⟩⟩
  by_cases hs' : t < minP (trmP l st a)
  · rw [(h.2 hn).1 (by omega)]
    have e : (t + 1 - minP (trmP l st a)).toNat = 0 := by omega
    rw [e]; rfl
  rcases hs with hs | hs | hs
  · exact absurd hs hn
  · exact absurd hs hs'
  · exfalso; omega
theorem bad_go {l : List E} {s : Sc.Scl} {st a t b : Int} (ho : okO l) (h : badI l s st a t b) (hn : trmP l st a ≠ []) (h1 : minP (trmP l st a) ≤ t) (h2 : 100 * t + 99 ≤ a) (h3 : t ≤ 1000) :
    stdP l s st a t = stdS (crP s (grdP l st a t)) b ∧ badI l s st a (t + 1) (stdP l s st a t) := by
  have hb := (h.2 hn).2 h1 (.inr (by omega))
  have e := std_go (s := s) ho hn h1 h2 h3
  rw [← hb] at e
  refine ⟨e, ?_, fun _ => ⟨fun hh => by omega, fun _ _ => ?_⟩⟩
  · rw [e]; unfold stdS
    split
    · omega
    · split <;> omega
  · have e1 : (t + 1 - minP (trmP l st a)).toNat = (t - minP (trmP l st a)).toNat + 1 := by omega
    have e2 : minP (trmP l st a) + ((t - minP (trmP l st a)).toNat : Int) = t := by omega
    rw [e, e1, stdL, e2, hb]
theorem bad_last {l : List E} {s : Sc.Scl} {st a t : Int} (h : up l) (hl : maxP (trmP l st a) < t) : crP s (grdP l st a t) = (0, 0) := by
  rw [grd_nil h]; · rfl
  intro hx
  have := maxP_ge _ hx
  omega
theorem min_le_max {l : List Int} (h : l ≠ []) : minP l ≤ maxP l := maxP_ge _ (minP_mem h).1
end En
end Go.Proofs.Ytnegdmjmllmclaa
namespace Go.Proofs.Ytnegdmjmllmclaa
open Go.Proofs.Ytnegdmjmllmclaa.Am
set_option maxRecDepth 100000
namespace En
/-! ### StandBad -/
abbrev bdS (l : List E) (s : Sc.Scl) (st a f m : Int) (B : Bool) : Nat × Int → AS
  | (k, b) => ⟨[(3, bool true), (4, .ro {} 15 (l.map en)), (5, .ptr 0 3 0 0), (6, int st), (7, int a), (9, int f), (10, int m), (11, bool B), (12, int b), (13, int (k : Nat))], [(0, .row 3 scty [Sc.scA s])], 1⟩
theorem bdN (l : List E) (st a f m b t : Int) (B : Bool) : frNames (fun i => decide (i < 0) || List.contains [0] i) [(3, bool true), (4, .ro {} 15 (l.map en)), (5, .ptr 0 3 0 0), (6, int st), (7, int a), (9, int f), (10, int m), (11, bool B), (12, int b), (13, int t)] = true := by
  simp only [frNames, AV.names, namesL_none (pure_en l)]; rfl
set_option maxHeartbeats 3200000 in
set_option maxRecDepth 100000 in
theorem sbad (xs : List Int) (fl : Fl) (hx : xs.length ≤ 9223372036854775807) (q : Int × Int × Int × Int) (h1 : 0 ≤ q.1 ∧ q.1 ≤ 255) (h2 : 0 ≤ q.2.1 ∧ q.2.1 ≤ 255) (h3 : 0 ≤ q.2.2.1 ∧ q.2.2.1 ≤ 65535) (h4 : 0 ≤ q.2.2.2 ∧ q.2.2.2 ≤ 255) :
    AFun Try.prog 4 0 [.agg [.ro fl 1 (xs.map int), u8' q.1, u8' q.2.1, u16 q.2.2.1, u8' q.2.2.2]] [] (bool true) [] := by
  obtain ⟨sc, l, st, a, t0, hsc, ⟨hl, hM⟩, hst, ha, ht0, hmd⟩ := made_f xs fl hx q h1 h2 h3 h4
  clear h1 h2 h3 h4
  have hup : up l := hM.toIds.lt
  have how := hM.okW (by decide)
  have ho := hM.okO (by decide)
  have hl40 : l.length < 40 := by omega
  clear hM
  generalize sclOf sc = s at hmd
  refine AFun.of_W T_ok mixed Try.func4 rfl (Nat.le_of_ble_eq_true rfl) rfl ?_
  have hTm := Terms_f l st a {} (by omega) how
  obtain ⟨f, hf⟩ : ∃ f, f = minP (trmP l st a) := ⟨_, rfl⟩
  obtain ⟨m, hm⟩ : ∃ m, m = maxP (trmP l st a) := ⟨_, rfl⟩
  obtain ⟨B, hB⟩ : ∃ B, B = decide (trmP l st a ≠ []) := ⟨_, rfl⟩
  rw [← hf, ← hm, ← hB] at hTm
  have hfr : 0 ≤ f ∧ f ≤ 10 := by
    by_cases hn : trmP l st a = []
    · rw [hf, hn]; decide
    · rw [hf]; exact trm_nn ho (minP_mem hn).1
  ((repeat ((conv => whnf); (first | (refine LetN.pre ?_; first | ((conv => arg 1; whnf); refine LetN.mk ?_)) | (refine As.pre ?_; first | refine As.mk rfl ?_) | (refine LetV.pre ?_; first | refine LetV.mk (.agg _) rfl ?_) | (refine Ck.pre ?_; first | refine Ck.mk rfl ?_) | (refine LetL.pre ?_; first | refine LetL.mk [_] rfl ?_) | (refine CallN.pre ?_; first | refine CallN.pure sanity_f rfl rfl ?_ | refine CallN.pure hmd rfl rfl ?_ | refine CallN.pure hTm rfl rfl ?_)))); (try (conv => whnf)))



  refine LoopN.weak (s1 := bdS l s st a f m B (0, 0)) ?sw0 ?_
  case sw0 => exact SW.mk (fun _ => 1) rfl (bdN ..) rfl ⟨.refl _, .refl _, .refl _, .refl _, .refl _, .refl _, .refl _, .refl _, .refl _, .refl _, trivial⟩ (haveV.row rfl rfl trivial)
  clear hmd hTm
  refine LoopN.indS (S := bdS l s st a f m B) (fun i => 9 - i.1) (fun i => i.1 ≤ 9 ∧ badI l s st a (i.1 : Nat) i.2) (fun i hi ih => ?_) (0, 0) ⟨Nat.zero_le _, bad0 s ho⟩
  obtain ⟨k, b⟩ := i
  obtain ⟨h1, h2⟩ := hi
  dsimp only at h1 h2
  by_cases hlt : k < 9
  case neg =>
    clear ih h2
    have hk : k = 9 := by omega
    subst hk
    cases B with
    | false =>
      refine VS.of_V T_ok mixed rfl ?_
      ((repeat ((conv => whnf); (first | (refine As.pre ?_; first | refine As.mk rfl ?_) | (refine LetB.pre ?_; first | refine LetB.ff rfl ?_) | (refine Gd.pre ?_; first | refine Gd.run rfl ?_ | refine Gd.pass rfl ?_) | (refine Br.pre ?_; first | refine Br.ff rfl ?_) | (refine Ck.pre ?_; first | refine Ck.mk rfl ?_)))); (try (conv => whnf)))
      exact ⟨.inl rfl, ⟨_, rfl, rfl⟩, trivial⟩
    | true =>
      have hn := of_decide_eq_true hB.symm
      have hfm : f ≤ m := by rw [hf, hm]; exact min_le_max hn
      refine VS.of_V T_ok mixed rfl ?_
      ((repeat ((conv => whnf); (first | (refine As.pre ?_; first | refine As.mk rfl ?_) | (refine LetB.pre ?_; first | refine LetB.ff rfl ?_ | refine LetB.dect (by omega) ?_) | (refine Gd.pre ?_; first | refine Gd.run rfl ?_) | (refine Br.pre ?_; first | refine Br.ff rfl ?_) | (refine Ck.pre ?_; first | refine Ck.mk rfl ?_)))); (try (conv => whnf)))
      exact ⟨.inl rfl, ⟨_, rfl, rfl⟩, trivial⟩
  refine VS.cut T_ok mixed rfl ?_
  ((repeat ((conv => whnf); (first | (refine As.pre ?_; first | refine As.mk rfl ?_) | (refine LetB.pre ?_; first | refine LetB.dect (by omega) ?_) | (refine Br.pre ?_; first | refine Br.tt rfl ?_) | (refine Ck.pre ?_; first | refine Ck.mk rfl ?_)))); (try (conv => whnf)))
  refine VS.joinN (fun b' => bdS l s st a f m B (k, b')) (fun b' => badI l s st a ((k + 1 : Nat) : Int) b') ?_ ?_
  case refine_2 =>
    intro b' hb'
    refine VS.of_V T_ok mixed rfl ?_
    ((repeat ((conv => whnf); (first | (refine As.pre ?_; first | refine As.mk rfl ?_) | (refine LetI.pre ?_; first | refine LetI.wrap (by omega) (by omega) ?_) | (refine Ck.pre ?_; first | refine Ck.mk rfl ?_)))); (try (conv => whnf)))
    refine LoopN.weak ?sw1 (ih (k + 1, b') ⟨hlt, hb'⟩ (by show 9 - (k + 1) < 9 - k; omega))
    case sw1 => exact SW.mk id rfl (bdN ..) rfl ⟨.refl _, .refl _, .refl _, .refl _, .refl _, .refl _, .refl _, .refl _, .refl _, VLe2.int (by omega), trivial⟩ (haveV.row rfl rfl trivial)
  clear ih
  refine VS.of_V T_ok mixed rfl ?_
  have hS := Standing_f l s st a (k : Nat) hl40 how
  have hT := Stipend_f l s st a (k : Nat) hl40 how
  unfold stiP at hT
  by_cases hn : trmP l st a = []
  · rw [decide_eq_false (fun h => h hn)] at hB
    subst hB
    have hz := std_skip (l := l) (s := s) (st := st) (a := a) (t := ((k : Nat) : Int)) (.inl hn)
    rw [hz] at hS hT
    rw [decide_eq_false (fun h => absurd h.1 (by decide))] at hT
    have hb' : badI l s st a ((k + 1 : Nat) : Int) b := by rw [Int.natCast_succ]; exact bad_skip h2 (.inl hn)
    clear h2 hz ho hup
    ((repeat ((conv => whnf); (first | (refine As.pre ?_; first | refine As.mk rfl ?_) | (refine LetV.pre ?_; first | refine LetV.mk (.agg _) rfl ?_) | (refine LetB.pre ?_; first | refine LetB.ff rfl ?_) | (refine Gd.pre ?_; first | refine Gd.run rfl ?_ | refine Gd.pass rfl ?_) | (refine Br.pre ?_; first | refine Br.tt rfl ?_ | refine Br.ff rfl ?_) | (refine Ck.pre ?_; first | refine Ck.mk rfl ?_) | (refine CallN.pre ?_; first | refine CallN.pure hS rfl rfl ?_ | refine CallN.pure hT rfl rfl ?_)))); (try (conv => whnf)))


    exact ⟨rfl, b, hb', SW.mk id rfl (bdN ..) rfl ⟨.refl _, .refl _, .refl _, .refl _, .refl _, .refl _, .refl _, .refl _, .refl _, .refl _, trivial⟩ (haveV.row rfl rfl trivial)⟩
  rw [decide_eq_true hn] at hB
  subst hB
  by_cases c1 : (k : Int) < f
  · have c1' := c1
    rw [hf] at c1'
    have hz := std_skip (l := l) (s := s) (st := st) (a := a) (t := ((k : Nat) : Int)) (.inr (.inl c1'))
    rw [hz] at hS hT
    rw [decide_eq_false (fun h => absurd h.1 (by decide))] at hT
    have hb' : badI l s st a ((k + 1 : Nat) : Int) b := by rw [Int.natCast_succ]; exact bad_skip h2 (.inr (.inl c1'))
    clear h2 hz ho hup
    ((repeat ((conv => whnf); (first | (refine As.pre ?_; first | refine As.mk rfl ?_) | (refine LetV.pre ?_; first | refine LetV.mk (.agg _) rfl ?_) | (refine LetB.pre ?_; first | refine LetB.ff rfl ?_ | refine LetB.dect (by omega) ?_) | (refine Gd.pre ?_; first | refine Gd.run rfl ?_ | refine Gd.pass rfl ?_) | (refine Br.pre ?_; first | refine Br.tt rfl ?_ | refine Br.ff rfl ?_) | (refine Ck.pre ?_; first | refine Ck.mk rfl ?_) | (refine CallN.pre ?_; first | refine CallN.pure hS rfl rfl ?_ | refine CallN.pure hT rfl rfl ?_)))); (try (conv => whnf)))


    exact ⟨rfl, b, hb', SW.mk id rfl (bdN ..) rfl ⟨.refl _, .refl _, .refl _, .refl _, .refl _, .refl _, .refl _, .refl _, .refl _, .refl _, trivial⟩ (haveV.row rfl rfl trivial)⟩
  by_cases c2 : 100 * (k : Int) + 99 > a
  · skip
    have hz := std_skip (l := l) (s := s) (st := st) (a := a) (t := ((k : Nat) : Int)) (.inr (.inr c2))
    rw [hz] at hS hT
    rw [decide_eq_false (fun h => absurd h.1 (by decide))] at hT
    have hb' : badI l s st a ((k + 1 : Nat) : Int) b := by rw [Int.natCast_succ]; exact bad_skip h2 (.inr (.inr c2))
    clear h2 hz ho hup
    ((repeat ((conv => whnf); (first | (refine As.pre ?_; first | refine As.mk rfl ?_) | (refine LetV.pre ?_; first | refine LetV.mk (.agg _) rfl ?_) | (refine LetI.pre ?_; first | refine LetI.wrap (by omega) (by omega) ?_) | (refine LetB.pre ?_; first | refine LetB.ff rfl ?_ | refine LetB.dect (by omega) ?_ | refine LetB.decf (by omega) ?_) | (refine Gd.pre ?_; first | refine Gd.run rfl ?_) | (refine Br.pre ?_; first | refine Br.tt rfl ?_ | refine Br.ff rfl ?_) | (refine Ck.pre ?_; first | refine Ck.mk rfl ?_) | (refine CallN.pre ?_; first | refine CallN.pure hS rfl rfl ?_ | refine CallN.pure hT rfl rfl ?_)))); (try (conv => whnf)))


    exact ⟨rfl, b, hb', SW.mk id rfl (bdN ..) rfl ⟨.refl _, .refl _, .refl _, .refl _, .refl _, .refl _, .refl _, .refl _, .refl _, .refl _, trivial⟩ (haveV.row rfl rfl trivial)⟩
  obtain ⟨hz, hz2⟩ := bad_go (s := s) ho h2 hn (by rw [← hf]; omega) (by omega) (by omega)
  have hU := sums_f l s st a (k : Nat) hl40 (by omega) ho
  rw [suP_eq hup] at hU
  have hlast : m < (k : Int) → crP s (grdP l st a (k : Nat)) = (0, 0) := fun h => bad_last hup (by rw [← hm]; exact h)
  rw [← Int.natCast_succ] at hz2
  obtain ⟨hb0, hb3⟩ := h2.1
  clear h2
  generalize crP s (grdP l st a (k : Nat)) = g at hU hT hz hlast
  obtain ⟨p, d⟩ := g
  generalize stdP l s st a (k : Nat) = n at hS hT hz hz2
  have hb' := hz2
  clear hz2 ho hup how
  unfold stdS at hz
  dsimp only at hz hT hU
  by_cases hc : d ≤ p
  · rw [if_pos hc] at hz
    subst hz
    clear hlast
    by_cases h20 : 20 ≤ p
    · rw [decide_eq_true ⟨rfl, h20⟩] at hT
      by_cases hlm : (k : Int) > m
      · skip
        ((repeat ((conv => whnf); (first | (refine As.pre ?_; first | refine As.mk rfl ?_) | (refine LetV.pre ?_; first | refine LetV.mk (.agg _) rfl ?_) | (refine LetI.pre ?_; first | refine LetI.wrap (by omega) (by omega) ?_) | (refine LetB.pre ?_; first | refine LetB.tt rfl ?_ | refine LetB.ff rfl ?_ | refine LetB.dect (by omega) ?_ | refine LetB.decf (by omega) ?_) | (refine Gd.pre ?_; first | refine Gd.run rfl ?_) | (refine Br.pre ?_; first | refine Br.ff rfl ?_) | (refine Ck.pre ?_; first | refine Ck.mk rfl ?_) | (refine CallN.pre ?_; first | refine CallN.pure hS rfl rfl ?_ | refine CallN.pure hT rfl rfl ?_ | refine CallN.pure hU rfl rfl ?_)))); (try (conv => whnf)))



        exact ⟨rfl, 1, hb', SW.mk id rfl (bdN ..) rfl ⟨.refl _, .refl _, .refl _, .refl _, .refl _, .refl _, .refl _, .refl _, .refl _, .refl _, trivial⟩ (haveV.row rfl rfl trivial)⟩
      · skip
        ((repeat ((conv => whnf); (first | (refine As.pre ?_; first | refine As.mk rfl ?_) | (refine LetV.pre ?_; first | refine LetV.mk (.agg _) rfl ?_) | (refine LetI.pre ?_; first | refine LetI.wrap (by omega) (by omega) ?_) | (refine LetB.pre ?_; first | refine LetB.tt rfl ?_ | refine LetB.ff rfl ?_ | refine LetB.dect (by omega) ?_ | refine LetB.decf (by omega) ?_) | (refine Gd.pre ?_; first | refine Gd.run rfl ?_ | refine Gd.pass rfl ?_) | (refine Br.pre ?_; first | refine Br.ff rfl ?_) | (refine Ck.pre ?_; first | refine Ck.mk rfl ?_) | (refine CallN.pre ?_; first | refine CallN.pure hS rfl rfl ?_ | refine CallN.pure hT rfl rfl ?_ | refine CallN.pure hU rfl rfl ?_)))); (try (conv => whnf)))



        exact ⟨rfl, 1, hb', SW.mk id rfl (bdN ..) rfl ⟨.refl _, .refl _, .refl _, .refl _, .refl _, .refl _, .refl _, .refl _, .refl _, .refl _, trivial⟩ (haveV.row rfl rfl trivial)⟩
    rw [decide_eq_false (fun h => h20 h.2)] at hT
    by_cases hlm : (k : Int) > m
    · skip
      ((repeat ((conv => whnf); (first | (refine As.pre ?_; first | refine As.mk rfl ?_) | (refine LetV.pre ?_; first | refine LetV.mk (.agg _) rfl ?_) | (refine LetI.pre ?_; first | refine LetI.wrap (by omega) (by omega) ?_) | (refine LetB.pre ?_; first | refine LetB.tt rfl ?_ | refine LetB.ff rfl ?_ | refine LetB.dect (by omega) ?_ | refine LetB.decf (by omega) ?_) | (refine Gd.pre ?_; first | refine Gd.run rfl ?_) | (refine Br.pre ?_; first | refine Br.ff rfl ?_) | (refine Ck.pre ?_; first | refine Ck.mk rfl ?_) | (refine CallN.pre ?_; first | refine CallN.pure hS rfl rfl ?_ | refine CallN.pure hT rfl rfl ?_ | refine CallN.pure hU rfl rfl ?_)))); (try (conv => whnf)))



      exact ⟨rfl, 1, hb', SW.mk id rfl (bdN ..) rfl ⟨.refl _, .refl _, .refl _, .refl _, .refl _, .refl _, .refl _, .refl _, .refl _, .refl _, trivial⟩ (haveV.row rfl rfl trivial)⟩
    · skip
      ((repeat ((conv => whnf); (first | (refine As.pre ?_; first | refine As.mk rfl ?_) | (refine LetV.pre ?_; first | refine LetV.mk (.agg _) rfl ?_) | (refine LetI.pre ?_; first | refine LetI.wrap (by omega) (by omega) ?_) | (refine LetB.pre ?_; first | refine LetB.tt rfl ?_ | refine LetB.ff rfl ?_ | refine LetB.decf (by omega) ?_) | (refine Gd.pre ?_; first | refine Gd.run rfl ?_ | refine Gd.pass rfl ?_) | (refine Br.pre ?_; first | refine Br.ff rfl ?_) | (refine Ck.pre ?_; first | refine Ck.mk rfl ?_) | (refine CallN.pre ?_; first | refine CallN.pure hS rfl rfl ?_ | refine CallN.pure hT rfl rfl ?_ | refine CallN.pure hU rfl rfl ?_)))); (try (conv => whnf)))



      exact ⟨rfl, 1, hb', SW.mk id rfl (bdN ..) rfl ⟨.refl _, .refl _, .refl _, .refl _, .refl _, .refl _, .refl _, .refl _, .refl _, .refl _, trivial⟩ (haveV.row rfl rfl trivial)⟩
  rw [if_neg hc] at hz
  have hlm : ¬ m < (k : Int) := fun h => by
    have := hlast h
    injection this with e1 e2
    omega
  clear hlast
  obtain ⟨u, hu⟩ : ∃ u : Int, u = max 2 (b + 1) := ⟨_, rfl⟩
  obtain ⟨v, hv⟩ : ∃ v : Int, v = min u 3 := ⟨_, rfl⟩
  by_cases hw : b ≥ 2
  · rw [if_pos hw] at hz
    subst hz
    rw [decide_eq_false (fun h => absurd h.1 (by decide))] at hT
    have hv3 : v = 3 := by omega
    ((repeat ((conv => whnf); (first | (refine As.pre ?_; first | refine As.mk rfl ?_) | (refine LetV.pre ?_; first | refine LetV.mk (.agg _) rfl ?_) | (refine LetI.pre ?_; first | refine LetI.mk (o := none) u hu ?_ | refine LetI.mk (o := none) v hv ?_ | refine LetI.wrap (by omega) (by omega) ?_) | (refine LetB.pre ?_; first | refine LetB.ff rfl ?_ | refine LetB.dect (by omega) ?_ | refine LetB.decf (by omega) ?_ | refine LetB.bnef (by omega) ?_) | (refine Gd.pre ?_; first | refine Gd.run rfl ?_ | refine Gd.pass rfl ?_) | (refine Br.pre ?_; first | refine Br.tt rfl ?_ | refine Br.ff rfl ?_) | (refine Ck.pre ?_; first | refine Ck.mk rfl ?_) | (refine CallN.pre ?_; first | refine CallN.pure hS rfl rfl ?_ | refine CallN.pure hT rfl rfl ?_ | refine CallN.pure hU rfl rfl ?_)))); (try (conv => whnf)))





    exact ⟨rfl, 3, hb', SW.mk id rfl (bdN ..) rfl ⟨.refl _, .refl _, .refl _, .refl _, .refl _, .refl _, .refl _, .refl _, .refl _, .refl _, trivial⟩ (haveV.row rfl rfl trivial)⟩
  · rw [if_neg hw] at hz
    subst hz
    rw [decide_eq_false (fun h => absurd h.1 (by decide))] at hT
    have hv2 : v = 2 := by omega
    ((repeat ((conv => whnf); (first | (refine As.pre ?_; first | refine As.mk rfl ?_) | (refine LetV.pre ?_; first | refine LetV.mk (.agg _) rfl ?_) | (refine LetI.pre ?_; first | refine LetI.mk (o := none) u hu ?_ | refine LetI.mk (o := none) v hv ?_ | refine LetI.wrap (by omega) (by omega) ?_) | (refine LetB.pre ?_; first | refine LetB.ff rfl ?_ | refine LetB.dect (by omega) ?_ | refine LetB.decf (by omega) ?_ | refine LetB.bnef (by omega) ?_) | (refine Gd.pre ?_; first | refine Gd.run rfl ?_ | refine Gd.pass rfl ?_) | (refine Br.pre ?_; first | refine Br.tt rfl ?_ | refine Br.ff rfl ?_) | (refine Ck.pre ?_; first | refine Ck.mk rfl ?_) | (refine CallN.pre ?_; first | refine CallN.pure hS rfl rfl ?_ | refine CallN.pure hT rfl rfl ?_ | refine CallN.pure hU rfl rfl ?_)))); (try (conv => whnf)))





    exact ⟨rfl, 2, hb', SW.mk id rfl (bdN ..) rfl ⟨.refl _, .refl _, .refl _, .refl _, .refl _, .refl _, .refl _, .refl _, .refl _, .refl _, trivial⟩ (haveV.row rfl rfl trivial)⟩
theorem sbad_row (x : List Int × Int × Int × Int × Int) (hx : x.1.length ≤ 9223372036854775807) (h1 : 0 ≤ x.2.1 ∧ x.2.1 ≤ 255) (h2 : 0 ≤ x.2.2.1 ∧ x.2.2.1 ≤ 255) (h3 : 0 ≤ x.2.2.2.1 ∧ x.2.2.2.1 ≤ 65535) (h4 : 0 ≤ x.2.2.2.2 ∧ x.2.2.2.2 ≤ 255) :
    AFun Try.prog 4 0 [.agg [.ro {} 1 (x.1.map int), u8' x.2.1, u8' x.2.2.1, u16 x.2.2.2.1, u8' x.2.2.2.2]] [] (bool true) [] := sbad x.1 {} hx x.2 h1 h2 h3 h4
end En
end Go.Proofs.Ytnegdmjmllmclaa
