/- appealZD: parts of the proof, DappealZDFQ DappealZDFR DappealZDFS DappealZDFT DappealZDTM DappealZDSA DappealZDJF DappealZDJG. -/
import Derived.Test.YtgnakhljdjekbaaGreatDoorL43
import Derived.Test.YtgnakhljdjekbaaGreatDoorL35
import Derived.Test.YtgnakhljdjekbaaGreatDoorAmFZ
set_option linter.all false
namespace Go.Proofs.YtgnakhljdjekbaaGreatDoor
open Go.Proofs.YtgnakhljdjekbaaGreatDoor.Am
set_option maxRecDepth 100000
namespace En
open Classical
/-! ### The reference's Check of an entry -/
theorem between_f (n a b : Int) : AFun Tryz.prog 113 0 [int n, int a, int b] [] (bool (decide (¬ (n < a ∨ b < n)))) [] := by
  refine AFun.of_W T_ok mixed Tryz.func113 rfl (Nat.le_of_ble_eq_true rfl) rfl ?_
  repeat' ((conv => whnf); (first | (refine As.pre ?_; first | refine As.mk rfl ?_) | (refine LetB.pre ?_; first | (refine LetB.dec (fun _ => ?_) (fun _ => ?_))) | (refine Gd.pre ?_; first | refine Gd.run rfl ?_ | refine Gd.pass rfl ?_) | (refine Ck.pre ?_; first | refine Ck.mk rfl ?_)))
  all_goals (refine ⟨by first | exact .inl rfl | exact .inr rfl, ⟨_, rfl, congrArg (fun b => Go.Proofs.YtgnakhljdjekbaaGreatDoor.Am.AV.sc (Go.Value.bool b)) (by first | exact (decide_eq_true (by omega)).symm | exact (decide_eq_false (by omega)).symm | exact Bool.eq_iff_iff.2 (by simp only [decide_eq_true_eq, decide_eq_false_iff_not]; omega) | rfl)⟩, trivial⟩)
/-- An entry with the fields of its kind alone. -/
def plainE (e : E) : E :=
  if e.kind = 1 ∨ e.kind = 8 then { e with course := ⟨#[]⟩, credits := 0, grade := 0, ref := 0, frm := 0, version := 0 }
  else if e.kind = 2 then { e with course := ⟨#[]⟩, credits := 0, grade := 0, ref := 0, frm := 0 }
  else if e.kind = 3 then { e with ref := 0, frm := 0, programme := 0, version := 0 }
  else if e.kind = 4 then { e with course := ⟨#[]⟩, credits := 0, frm := 0, programme := 0, version := 0 }
  else if e.kind = 5 ∨ e.kind = 6 ∨ e.kind = 9 then { e with course := ⟨#[]⟩, credits := 0, grade := 0, frm := 0, programme := 0, version := 0 }
  else if e.kind = 7 then { e with course := ⟨#[]⟩, credits := 0, grade := 0, ref := 0, programme := 0, version := 0 }
  else { e with course := ⟨#[]⟩, credits := 0, grade := 0, ref := 0, frm := 0, programme := 0, version := 0 }
theorem plain_f (e : E) : AFun Tryz.prog 114 0 [en e] [] (en (plainE e)) [] := by
  refine AFun.of_W T_ok mixed Tryz.func114 rfl (Nat.le_of_ble_eq_true rfl) rfl ?_
  unfold plainE
  repeat' ((conv => whnf); (first | (refine LetN.pre ?_; first | ((conv => arg 1; whnf); refine LetN.mk ?_)) | (refine As.pre ?_; first | refine As.mk rfl ?_) | (refine LetV.pre ?_; first | refine LetV.mk (.sc (.int _ _)) rfl ?_ | refine LetV.mk (.sc _) rfl ?_ | refine LetV.mk (.agg _) rfl ?_) | (refine LetB.pre ?_; first | (refine LetB.dec (fun _ => ?_) (fun _ => ?_))) | (refine Br.pre ?_; first | refine Br.tt rfl ?_ | refine Br.ff rfl ?_) | (refine Ck.pre ?_; first | refine Ck.mk rfl ?_) | (refine LetL.pre ?_; first | refine LetL.mk [_] rfl ?_)))
  all_goals
    refine ⟨.inl rfl, ⟨_, rfl, ?_⟩, trivial⟩
    first
      | (rw [if_pos (by omega)]; rfl)
      | (rw [if_neg (by omega), if_pos (by omega)]; rfl)
      | (rw [if_neg (by omega), if_neg (by omega), if_pos (by omega)]; rfl)
      | (rw [if_neg (by omega), if_neg (by omega), if_neg (by omega), if_pos (by omega)]; rfl)
      | (rw [if_neg (by omega), if_neg (by omega), if_neg (by omega), if_neg (by omega), if_pos (by omega)]; rfl)
      | (rw [if_neg (by omega), if_neg (by omega), if_neg (by omega), if_neg (by omega), if_neg (by omega), if_pos (by omega)]; rfl)
      | (rw [if_neg (by omega), if_neg (by omega), if_neg (by omega), if_neg (by omega), if_neg (by omega), if_neg (by omega)]; rfl)
theorem plain_only (e : E) (hk : e.kind = 1 ∨ e.kind = 2 ∨ e.kind = 3 ∨ e.kind = 4 ∨ e.kind = 5 ∨ e.kind = 6 ∨ e.kind = 7 ∨ e.kind = 8 ∨ e.kind = 9) : enB (plainE e) e = onlyF e.kind (fillB e) := by
  have z : ∀ n : Int, (0 == n) = !(n != 0) := by
    intro n
    by_cases h : n = 0
    · subst h; rfl
    · rw [beq_eq_false_iff_ne.2 (Ne.symm h), bne_iff_ne.2 h]; rfl
  have zs : ∀ s : ByteArray, ((⟨#[]⟩ : ByteArray).toList == s.toList) = !(!(s.toList == (⟨#[]⟩ : ByteArray).toList)) := by
    intro s
    rw [Bool.not_not, Bool.eq_iff_iff, beq_iff_eq, beq_iff_eq]
    exact ⟨fun h => h.symm, fun h => h.symm⟩
  obtain ⟨id, school, student, kind, day, on_, course, credits, grade, ref, frm, programme, version, key, mark⟩ := e
  simp only at hk
  generalize hc : (!(course.toList == (⟨#[]⟩ : ByteArray).toList)) = c
  generalize hcr : (credits != 0) = cr
  generalize hg : (grade != 0) = g
  generalize hr : (ref != 0) = r
  generalize hf : (frm != 0) = f
  generalize hp : (programme != 0) = p
  generalize hv : (version != 0) = v
  have ec : (course.toList == course.toList) = true := beq_self_eq_true _
  have em : (mark.toList == mark.toList) = true := beq_self_eq_true _
  have zc := zs course
  rw [hc] at zc
  have zcr := z credits; rw [hcr] at zcr
  have zg := z grade; rw [hg] at zg
  have zr := z ref; rw [hr] at zr
  have zf := z frm; rw [hf] at zf
  have zp := z programme; rw [hp] at zp
  have zv := z version; rw [hv] at zv
  rcases hk with h | h | h | h | h | h | h | h | h <;> subst h
  · show ((id == id) && ((school == school) && ((student == student) && (((1 : Int) == 1) && ((day == day) && ((on_ == on_) && (((⟨#[]⟩ : ByteArray).toList == course.toList) && (((0 : Int) == credits) && (((0 : Int) == grade) && (((0 : Int) == ref) && (((0 : Int) == frm) && ((programme == programme) && (((0 : Int) == version) && ((key == key) && ((mark.toList == mark.toList) && true))))))))))))))) = onlyF 1 [!(course.toList == (⟨#[]⟩ : ByteArray).toList), credits != 0, grade != 0, ref != 0, frm != 0, programme != 0, version != 0]
    rw [hc, hcr, hg, hr, hf, hp, hv]
    simp only [zc, zcr, zg, zr, zf, zp, zv, ec, em, beq_self_eq_true, Bool.true_and, Bool.and_true]
    clear hc hcr hg hr hf hp hv zc zcr zg zr zf zp zv
    revert c cr g r f p v
    decide
  · show ((id == id) && ((school == school) && ((student == student) && (((2 : Int) == 2) && ((day == day) && ((on_ == on_) && (((⟨#[]⟩ : ByteArray).toList == course.toList) && (((0 : Int) == credits) && (((0 : Int) == grade) && (((0 : Int) == ref) && (((0 : Int) == frm) && ((programme == programme) && ((version == version) && ((key == key) && ((mark.toList == mark.toList) && true))))))))))))))) = onlyF 2 [!(course.toList == (⟨#[]⟩ : ByteArray).toList), credits != 0, grade != 0, ref != 0, frm != 0, programme != 0, version != 0]
    rw [hc, hcr, hg, hr, hf, hp, hv]
    simp only [zc, zcr, zg, zr, zf, zp, zv, ec, em, beq_self_eq_true, Bool.true_and, Bool.and_true]
    clear hc hcr hg hr hf hp hv zc zcr zg zr zf zp zv
    revert c cr g r f p v
    decide
  · show ((id == id) && ((school == school) && ((student == student) && (((3 : Int) == 3) && ((day == day) && ((on_ == on_) && ((course.toList == course.toList) && ((credits == credits) && ((grade == grade) && (((0 : Int) == ref) && (((0 : Int) == frm) && (((0 : Int) == programme) && (((0 : Int) == version) && ((key == key) && ((mark.toList == mark.toList) && true))))))))))))))) = onlyF 3 [!(course.toList == (⟨#[]⟩ : ByteArray).toList), credits != 0, grade != 0, ref != 0, frm != 0, programme != 0, version != 0]
    rw [hc, hcr, hg, hr, hf, hp, hv]
    simp only [zc, zcr, zg, zr, zf, zp, zv, ec, em, beq_self_eq_true, Bool.true_and, Bool.and_true]
    clear hc hcr hg hr hf hp hv zc zcr zg zr zf zp zv
    revert c cr g r f p v
    decide
  · show ((id == id) && ((school == school) && ((student == student) && (((4 : Int) == 4) && ((day == day) && ((on_ == on_) && (((⟨#[]⟩ : ByteArray).toList == course.toList) && (((0 : Int) == credits) && ((grade == grade) && ((ref == ref) && (((0 : Int) == frm) && (((0 : Int) == programme) && (((0 : Int) == version) && ((key == key) && ((mark.toList == mark.toList) && true))))))))))))))) = onlyF 4 [!(course.toList == (⟨#[]⟩ : ByteArray).toList), credits != 0, grade != 0, ref != 0, frm != 0, programme != 0, version != 0]
    rw [hc, hcr, hg, hr, hf, hp, hv]
    simp only [zc, zcr, zg, zr, zf, zp, zv, ec, em, beq_self_eq_true, Bool.true_and, Bool.and_true]
    clear hc hcr hg hr hf hp hv zc zcr zg zr zf zp zv
    revert c cr g r f p v
    decide
  · show ((id == id) && ((school == school) && ((student == student) && (((5 : Int) == 5) && ((day == day) && ((on_ == on_) && (((⟨#[]⟩ : ByteArray).toList == course.toList) && (((0 : Int) == credits) && (((0 : Int) == grade) && ((ref == ref) && (((0 : Int) == frm) && (((0 : Int) == programme) && (((0 : Int) == version) && ((key == key) && ((mark.toList == mark.toList) && true))))))))))))))) = onlyF 5 [!(course.toList == (⟨#[]⟩ : ByteArray).toList), credits != 0, grade != 0, ref != 0, frm != 0, programme != 0, version != 0]
    rw [hc, hcr, hg, hr, hf, hp, hv]
    simp only [zc, zcr, zg, zr, zf, zp, zv, ec, em, beq_self_eq_true, Bool.true_and, Bool.and_true]
    clear hc hcr hg hr hf hp hv zc zcr zg zr zf zp zv
    revert c cr g r f p v
    decide
  · show ((id == id) && ((school == school) && ((student == student) && (((6 : Int) == 6) && ((day == day) && ((on_ == on_) && (((⟨#[]⟩ : ByteArray).toList == course.toList) && (((0 : Int) == credits) && (((0 : Int) == grade) && ((ref == ref) && (((0 : Int) == frm) && (((0 : Int) == programme) && (((0 : Int) == version) && ((key == key) && ((mark.toList == mark.toList) && true))))))))))))))) = onlyF 6 [!(course.toList == (⟨#[]⟩ : ByteArray).toList), credits != 0, grade != 0, ref != 0, frm != 0, programme != 0, version != 0]
    rw [hc, hcr, hg, hr, hf, hp, hv]
    simp only [zc, zcr, zg, zr, zf, zp, zv, ec, em, beq_self_eq_true, Bool.true_and, Bool.and_true]
    clear hc hcr hg hr hf hp hv zc zcr zg zr zf zp zv
    revert c cr g r f p v
    decide
  · show ((id == id) && ((school == school) && ((student == student) && (((7 : Int) == 7) && ((day == day) && ((on_ == on_) && (((⟨#[]⟩ : ByteArray).toList == course.toList) && (((0 : Int) == credits) && (((0 : Int) == grade) && (((0 : Int) == ref) && ((frm == frm) && (((0 : Int) == programme) && (((0 : Int) == version) && ((key == key) && ((mark.toList == mark.toList) && true))))))))))))))) = onlyF 7 [!(course.toList == (⟨#[]⟩ : ByteArray).toList), credits != 0, grade != 0, ref != 0, frm != 0, programme != 0, version != 0]
    rw [hc, hcr, hg, hr, hf, hp, hv]
    simp only [zc, zcr, zg, zr, zf, zp, zv, ec, em, beq_self_eq_true, Bool.true_and, Bool.and_true]
    clear hc hcr hg hr hf hp hv zc zcr zg zr zf zp zv
    revert c cr g r f p v
    decide
  · show ((id == id) && ((school == school) && ((student == student) && (((8 : Int) == 8) && ((day == day) && ((on_ == on_) && (((⟨#[]⟩ : ByteArray).toList == course.toList) && (((0 : Int) == credits) && (((0 : Int) == grade) && (((0 : Int) == ref) && (((0 : Int) == frm) && ((programme == programme) && (((0 : Int) == version) && ((key == key) && ((mark.toList == mark.toList) && true))))))))))))))) = onlyF 8 [!(course.toList == (⟨#[]⟩ : ByteArray).toList), credits != 0, grade != 0, ref != 0, frm != 0, programme != 0, version != 0]
    rw [hc, hcr, hg, hr, hf, hp, hv]
    simp only [zc, zcr, zg, zr, zf, zp, zv, ec, em, beq_self_eq_true, Bool.true_and, Bool.and_true]
    clear hc hcr hg hr hf hp hv zc zcr zg zr zf zp zv
    revert c cr g r f p v
    decide
  · show ((id == id) && ((school == school) && ((student == student) && (((9 : Int) == 9) && ((day == day) && ((on_ == on_) && (((⟨#[]⟩ : ByteArray).toList == course.toList) && (((0 : Int) == credits) && (((0 : Int) == grade) && ((ref == ref) && (((0 : Int) == frm) && (((0 : Int) == programme) && (((0 : Int) == version) && ((key == key) && ((mark.toList == mark.toList) && true))))))))))))))) = onlyF 9 [!(course.toList == (⟨#[]⟩ : ByteArray).toList), credits != 0, grade != 0, ref != 0, frm != 0, programme != 0, version != 0]
    rw [hc, hcr, hg, hr, hf, hp, hv]
    simp only [zc, zcr, zg, zr, zf, zp, zv, ec, em, beq_self_eq_true, Bool.true_and, Bool.and_true]
    clear hc hcr hg hr hf hp hv zc zcr zg zr zf zp zv
    revert c cr g r f p v
    decide
theorem fields1 (e : E) (hs : e.course.size ≤ 9223372036854775806) (hk : e.kind = 1) : AFun Tryz.prog 115 0 [en e] [] (int (fldE (decide (okCode e.course)) e)) [] := by
  have hc := rCode_f e.course hs
  generalize decide (okCode e.course) = oc at hc ⊢
  refine AFun.of_W T_ok mixed Tryz.func115 rfl (Nat.le_of_ble_eq_true rfl) rfl ?_
  by_cases hp : e.programme < 1
  · ((repeat ((conv => whnf); (first | (refine LetN.pre ?_; first | ((conv => arg 1; whnf); refine LetN.mk ?_)) | (refine As.pre ?_; first | refine As.mk rfl ?_) | (refine LetV.pre ?_; first | refine LetV.mk (.sc (.int _ _)) rfl ?_ | refine LetV.mk (.sc _) rfl ?_) | (refine LetB.pre ?_; first | refine LetB.dect (by omega) ?_ | refine LetB.decf (by omega) ?_) | (refine Br.pre ?_; first | refine Br.tt rfl ?_ | refine Br.ff rfl ?_) | (refine Ck.pre ?_; first | refine Ck.mk rfl ?_) | (refine CallN.pre ?_; first | refine CallN.pure hc rfl rfl ?_ | refine CallN.pure (between_f _ _ _) rfl rfl ?_)))); (try (conv => whnf)))




    refine ⟨.inl rfl, ⟨_, rfl, congrArg int ?_⟩, trivial⟩
    simp [fldE, hk, *]
  · ((repeat ((conv => whnf); (first | (refine LetN.pre ?_; first | ((conv => arg 1; whnf); refine LetN.mk ?_)) | (refine As.pre ?_; first | refine As.mk rfl ?_) | (refine LetV.pre ?_; first | refine LetV.mk (.sc (.int _ _)) rfl ?_ | refine LetV.mk (.sc _) rfl ?_) | (refine LetB.pre ?_; first | refine LetB.dect (by omega) ?_ | refine LetB.decf (by omega) ?_) | (refine Gd.pre ?_; first | refine Gd.run rfl ?_ | refine Gd.pass rfl ?_) | (refine Br.pre ?_; first | refine Br.tt rfl ?_ | refine Br.ff rfl ?_) | (refine Ck.pre ?_; first | refine Ck.mk rfl ?_) | (refine CallN.pre ?_; first | refine CallN.pure hc rfl rfl ?_ | refine CallN.pure (between_f _ _ _) rfl rfl ?_)))); (try (conv => whnf)))




    refine ⟨.inl rfl, ⟨_, rfl, congrArg int ?_⟩, trivial⟩
    simp [fldE, hk, *]
theorem fields2 (e : E) (hs : e.course.size ≤ 9223372036854775806) (hk : e.kind = 2) : AFun Tryz.prog 115 0 [en e] [] (int (fldE (decide (okCode e.course)) e)) [] := by
  have hc := rCode_f e.course hs
  generalize decide (okCode e.course) = oc at hc ⊢
  refine AFun.of_W T_ok mixed Tryz.func115 rfl (Nat.le_of_ble_eq_true rfl) rfl ?_
  by_cases hp : e.programme < 1
  · ((repeat ((conv => whnf); (first | (refine LetN.pre ?_; first | ((conv => arg 1; whnf); refine LetN.mk ?_)) | (refine As.pre ?_; first | refine As.mk rfl ?_) | (refine LetV.pre ?_; first | refine LetV.mk (.sc (.int _ _)) rfl ?_ | refine LetV.mk (.sc _) rfl ?_) | (refine LetB.pre ?_; first | refine LetB.dect (by omega) ?_ | refine LetB.decf (by omega) ?_) | (refine Gd.pre ?_; first | refine Gd.pass rfl ?_) | (refine Br.pre ?_; first | refine Br.tt rfl ?_ | refine Br.ff rfl ?_) | (refine Ck.pre ?_; first | refine Ck.mk rfl ?_) | (refine CallN.pre ?_; first | refine CallN.pure hc rfl rfl ?_ | refine CallN.pure (between_f _ _ _) rfl rfl ?_)))); (try (conv => whnf)))




    refine ⟨.inl rfl, ⟨_, rfl, congrArg int ?_⟩, trivial⟩
    simp [fldE, hk, *]
  · by_cases hv : e.version < 1
    · ((repeat ((conv => whnf); (first | (refine LetN.pre ?_; first | ((conv => arg 1; whnf); refine LetN.mk ?_)) | (refine As.pre ?_; first | refine As.mk rfl ?_) | (refine LetV.pre ?_; first | refine LetV.mk (.sc (.int _ _)) rfl ?_ | refine LetV.mk (.sc _) rfl ?_) | (refine LetB.pre ?_; first | refine LetB.dect (by omega) ?_ | refine LetB.decf (by omega) ?_) | (refine Gd.pre ?_; first | refine Gd.run rfl ?_) | (refine Br.pre ?_; first | refine Br.tt rfl ?_ | refine Br.ff rfl ?_) | (refine Ck.pre ?_; first | refine Ck.mk rfl ?_) | (refine CallN.pre ?_; first | refine CallN.pure hc rfl rfl ?_ | refine CallN.pure (between_f _ _ _) rfl rfl ?_)))); (try (conv => whnf)))




      refine ⟨.inl rfl, ⟨_, rfl, congrArg int ?_⟩, trivial⟩
      simp [fldE, hk, *]
    · ((repeat ((conv => whnf); (first | (refine LetN.pre ?_; first | ((conv => arg 1; whnf); refine LetN.mk ?_)) | (refine As.pre ?_; first | refine As.mk rfl ?_) | (refine LetV.pre ?_; first | refine LetV.mk (.sc (.int _ _)) rfl ?_ | refine LetV.mk (.sc _) rfl ?_) | (refine LetB.pre ?_; first | refine LetB.dect (by omega) ?_ | refine LetB.decf (by omega) ?_) | (refine Gd.pre ?_; first | refine Gd.run rfl ?_ | refine Gd.pass rfl ?_) | (refine Br.pre ?_; first | refine Br.tt rfl ?_ | refine Br.ff rfl ?_) | (refine Ck.pre ?_; first | refine Ck.mk rfl ?_) | (refine CallN.pre ?_; first | refine CallN.pure hc rfl rfl ?_ | refine CallN.pure (between_f _ _ _) rfl rfl ?_)))); (try (conv => whnf)))




      refine ⟨.inl rfl, ⟨_, rfl, congrArg int ?_⟩, trivial⟩
      simp [fldE, hk, *]
theorem fields3 (e : E) (hs : e.course.size ≤ 9223372036854775806) (hk : e.kind = 3) : AFun Tryz.prog 115 0 [en e] [] (int (fldE (decide (okCode e.course)) e)) [] := by
  have hc := rCode_f e.course hs
  generalize decide (okCode e.course) = oc at hc ⊢
  refine AFun.of_W T_ok mixed Tryz.func115 rfl (Nat.le_of_ble_eq_true rfl) rfl ?_
  cases oc with
  | false =>
    ((repeat ((conv => whnf); (first | (refine LetN.pre ?_; first | ((conv => arg 1; whnf); refine LetN.mk ?_)) | (refine As.pre ?_; first | refine As.mk rfl ?_) | (refine LetV.pre ?_; first | refine LetV.mk (.sc (.int _ _)) rfl ?_ | refine LetV.mk (.sc _) rfl ?_) | (refine LetB.pre ?_; first | refine LetB.dect (by omega) ?_) | (refine Br.pre ?_; first | refine Br.tt rfl ?_) | (refine Ck.pre ?_; first | refine Ck.mk rfl ?_) | (refine CallN.pre ?_; first | refine CallN.pure hc rfl rfl ?_ | refine CallN.pure (between_f _ _ _) rfl rfl ?_)))); (try (conv => whnf)))




    refine ⟨.inl rfl, ⟨_, rfl, congrArg int ?_⟩, trivial⟩
    simp [fldE, hk, *]
  | true =>
    by_cases hcr : e.credits < 1 ∨ 60 < e.credits
    · ((repeat ((conv => whnf); (first | (refine LetN.pre ?_; first | ((conv => arg 1; whnf); refine LetN.mk ?_)) | (refine As.pre ?_; first | refine As.mk rfl ?_) | (refine LetV.pre ?_; first | refine LetV.mk (.sc (.int _ _)) rfl ?_ | refine LetV.mk (.sc _) rfl ?_) | (refine LetB.pre ?_; first | refine LetB.dect (by omega) ?_) | (refine Gd.pre ?_; first | refine Gd.pass rfl ?_) | (refine Br.pre ?_; first | refine Br.tt rfl ?_ | refine Br.ff rfl ?_) | (refine Ck.pre ?_; first | refine Ck.mk rfl ?_) | (refine CallN.pre ?_; first | refine CallN.pure hc rfl rfl ?_ | refine CallN.decf (between_f _ _ _) rfl (not_not_intro (by assumption)) ?_ | refine CallN.pure (between_f _ _ _) rfl rfl ?_)))); (try (conv => whnf)))




      refine ⟨.inl rfl, ⟨_, rfl, congrArg int ?_⟩, trivial⟩
      simp [fldE, hk, *]
    · by_cases hg : e.grade < -1000 ∨ 1000 < e.grade
      · ((repeat ((conv => whnf); (first | (refine LetN.pre ?_; first | ((conv => arg 1; whnf); refine LetN.mk ?_)) | (refine As.pre ?_; first | refine As.mk rfl ?_) | (refine LetV.pre ?_; first | refine LetV.mk (.sc (.int _ _)) rfl ?_ | refine LetV.mk (.sc _) rfl ?_) | (refine LetB.pre ?_; first | refine LetB.dect (by omega) ?_) | (refine Gd.pre ?_; first | refine Gd.run rfl ?_) | (refine Br.pre ?_; first | refine Br.tt rfl ?_ | refine Br.ff rfl ?_) | (refine Ck.pre ?_; first | refine Ck.mk rfl ?_) | (refine CallN.pre ?_; first | refine CallN.pure hc rfl rfl ?_ | refine CallN.dect (between_f _ _ _) rfl (by assumption) ?_ | refine CallN.decf (between_f _ _ _) rfl (not_not_intro (by assumption)) ?_)))); (try (conv => whnf)))




        refine ⟨.inl rfl, ⟨_, rfl, congrArg int ?_⟩, trivial⟩
        simp [fldE, hk, *]
      · ((repeat ((conv => whnf); (first | (refine LetN.pre ?_; first | ((conv => arg 1; whnf); refine LetN.mk ?_)) | (refine As.pre ?_; first | refine As.mk rfl ?_) | (refine LetV.pre ?_; first | refine LetV.mk (.sc (.int _ _)) rfl ?_ | refine LetV.mk (.sc _) rfl ?_) | (refine LetB.pre ?_; first | refine LetB.dect (by omega) ?_ | refine LetB.decf (by omega) ?_) | (refine Gd.pre ?_; first | refine Gd.run rfl ?_ | refine Gd.pass rfl ?_) | (refine Br.pre ?_; first | refine Br.tt rfl ?_ | refine Br.ff rfl ?_) | (refine Ck.pre ?_; first | refine Ck.mk rfl ?_) | (refine CallN.pre ?_; first | refine CallN.pure hc rfl rfl ?_ | refine CallN.dect (between_f _ _ _) rfl (by assumption) ?_)))); (try (conv => whnf)))




        refine ⟨.inl rfl, ⟨_, rfl, congrArg int ?_⟩, trivial⟩
        simp [fldE, hk, *]
theorem fields4 (e : E) (hs : e.course.size ≤ 9223372036854775806) (hk : e.kind = 4) : AFun Tryz.prog 115 0 [en e] [] (int (fldE (decide (okCode e.course)) e)) [] := by
  have hc := rCode_f e.course hs
  generalize decide (okCode e.course) = oc at hc ⊢
  refine AFun.of_W T_ok mixed Tryz.func115 rfl (Nat.le_of_ble_eq_true rfl) rfl ?_
  by_cases hg : e.grade < -1000 ∨ 1000 < e.grade
  · ((repeat ((conv => whnf); (first | (refine LetN.pre ?_; first | ((conv => arg 1; whnf); refine LetN.mk ?_)) | (refine As.pre ?_; first | refine As.mk rfl ?_) | (refine LetV.pre ?_; first | refine LetV.mk (.sc (.int _ _)) rfl ?_ | refine LetV.mk (.sc _) rfl ?_) | (refine LetB.pre ?_; first | refine LetB.dect (by omega) ?_ | refine LetB.decf (by omega) ?_) | (refine Br.pre ?_; first | refine Br.tt rfl ?_ | refine Br.ff rfl ?_) | (refine Ck.pre ?_; first | refine Ck.mk rfl ?_) | (refine CallN.pre ?_; first | refine CallN.pure hc rfl rfl ?_ | refine CallN.decf (between_f _ _ _) rfl (not_not_intro (by assumption)) ?_)))); (try (conv => whnf)))




    refine ⟨.inl rfl, ⟨_, rfl, congrArg int ?_⟩, trivial⟩
    simp [fldE, hk, *]
  · by_cases hr : e.ref < 1 ∨ 899999 < e.ref
    · ((repeat ((conv => whnf); (first | (refine LetN.pre ?_; first | ((conv => arg 1; whnf); refine LetN.mk ?_)) | (refine As.pre ?_; first | refine As.mk rfl ?_) | (refine LetV.pre ?_; first | refine LetV.mk (.sc (.int _ _)) rfl ?_ | refine LetV.mk (.sc _) rfl ?_) | (refine LetB.pre ?_; first | refine LetB.dect (by omega) ?_ | refine LetB.decf (by omega) ?_) | (refine Gd.pre ?_; first | refine Gd.run rfl ?_ | refine Gd.pass rfl ?_) | (refine Br.pre ?_; first | refine Br.tt rfl ?_ | refine Br.ff rfl ?_) | (refine Ck.pre ?_; first | refine Ck.mk rfl ?_) | (refine CallN.pre ?_; first | refine CallN.pure hc rfl rfl ?_ | refine CallN.dect (between_f _ _ _) rfl (by assumption) ?_ | refine CallN.decf (between_f _ _ _) rfl (not_not_intro (by assumption)) ?_)))); (try (conv => whnf)))




      refine ⟨.inl rfl, ⟨_, rfl, congrArg int ?_⟩, trivial⟩
      simp [fldE, hk, *]
    · by_cases hri : e.ref = e.id
      · ((repeat ((conv => whnf); (first | (refine LetN.pre ?_; first | ((conv => arg 1; whnf); refine LetN.mk ?_)) | (refine As.pre ?_; first | refine As.mk rfl ?_) | (refine LetV.pre ?_; first | refine LetV.mk (.sc (.int _ _)) rfl ?_ | refine LetV.mk (.sc _) rfl ?_) | (refine LetB.pre ?_; first | refine LetB.dect (by omega) ?_ | refine LetB.decf (by omega) ?_) | (refine Gd.pre ?_; first | refine Gd.run rfl ?_ | refine Gd.pass rfl ?_) | (refine Br.pre ?_; first | refine Br.tt rfl ?_ | refine Br.ff rfl ?_) | (refine Ck.pre ?_; first | refine Ck.mk rfl ?_) | (refine CallN.pre ?_; first | refine CallN.pure hc rfl rfl ?_ | refine CallN.dect (between_f _ _ _) rfl (by assumption) ?_)))); (try (conv => whnf)))




        refine ⟨.inl rfl, ⟨_, rfl, congrArg int ?_⟩, trivial⟩
        simp [fldE, hk, *]
      · ((repeat ((conv => whnf); (first | (refine LetN.pre ?_; first | ((conv => arg 1; whnf); refine LetN.mk ?_)) | (refine As.pre ?_; first | refine As.mk rfl ?_) | (refine LetV.pre ?_; first | refine LetV.mk (.sc (.int _ _)) rfl ?_ | refine LetV.mk (.sc _) rfl ?_) | (refine LetB.pre ?_; first | refine LetB.dect (by omega) ?_ | refine LetB.decf (by omega) ?_) | (refine Gd.pre ?_; first | refine Gd.run rfl ?_ | refine Gd.pass rfl ?_) | (refine Br.pre ?_; first | refine Br.tt rfl ?_ | refine Br.ff rfl ?_) | (refine Ck.pre ?_; first | refine Ck.mk rfl ?_) | (refine CallN.pre ?_; first | refine CallN.pure hc rfl rfl ?_ | refine CallN.dect (between_f _ _ _) rfl (by assumption) ?_)))); (try (conv => whnf)))




        refine ⟨.inl rfl, ⟨_, rfl, congrArg int ?_⟩, trivial⟩
        simp [fldE, hk, *]
theorem fields5 (e : E) (hs : e.course.size ≤ 9223372036854775806) (hk : e.kind = 5) : AFun Tryz.prog 115 0 [en e] [] (int (fldE (decide (okCode e.course)) e)) [] := by
  have hc := rCode_f e.course hs
  generalize decide (okCode e.course) = oc at hc ⊢
  refine AFun.of_W T_ok mixed Tryz.func115 rfl (Nat.le_of_ble_eq_true rfl) rfl ?_
  by_cases hr : e.ref < 1 ∨ 899999 < e.ref
  · ((repeat ((conv => whnf); (first | (refine LetN.pre ?_; first | ((conv => arg 1; whnf); refine LetN.mk ?_)) | (refine As.pre ?_; first | refine As.mk rfl ?_) | (refine LetV.pre ?_; first | refine LetV.mk (.sc (.int _ _)) rfl ?_ | refine LetV.mk (.sc _) rfl ?_) | (refine LetB.pre ?_; first | refine LetB.dect (by omega) ?_ | refine LetB.decf (by omega) ?_) | (refine Gd.pre ?_; first | refine Gd.run rfl ?_ | refine Gd.pass rfl ?_) | (refine Br.pre ?_; first | refine Br.tt rfl ?_ | refine Br.ff rfl ?_) | (refine Ck.pre ?_; first | refine Ck.mk rfl ?_) | (refine CallN.pre ?_; first | refine CallN.pure hc rfl rfl ?_ | refine CallN.decf (between_f _ _ _) rfl (not_not_intro (by assumption)) ?_ | refine CallN.pure (between_f _ _ _) rfl rfl ?_)))); (try (conv => whnf)))




    refine ⟨.inl rfl, ⟨_, rfl, congrArg int ?_⟩, trivial⟩
    simp [fldE, hk, *]
  · by_cases hri : e.ref = e.id
    · ((repeat ((conv => whnf); (first | (refine LetN.pre ?_; first | ((conv => arg 1; whnf); refine LetN.mk ?_)) | (refine As.pre ?_; first | refine As.mk rfl ?_) | (refine LetV.pre ?_; first | refine LetV.mk (.sc (.int _ _)) rfl ?_ | refine LetV.mk (.sc _) rfl ?_) | (refine LetB.pre ?_; first | refine LetB.dect (by omega) ?_ | refine LetB.decf (by omega) ?_) | (refine Gd.pre ?_; first | refine Gd.run rfl ?_ | refine Gd.pass rfl ?_) | (refine Br.pre ?_; first | refine Br.tt rfl ?_ | refine Br.ff rfl ?_) | (refine Ck.pre ?_; first | refine Ck.mk rfl ?_) | (refine CallN.pre ?_; first | refine CallN.pure hc rfl rfl ?_ | refine CallN.dect (between_f _ _ _) rfl (by assumption) ?_ | refine CallN.pure (between_f _ _ _) rfl rfl ?_)))); (try (conv => whnf)))




      refine ⟨.inl rfl, ⟨_, rfl, congrArg int ?_⟩, trivial⟩
      simp [fldE, hk, *]
    · ((repeat ((conv => whnf); (first | (refine LetN.pre ?_; first | ((conv => arg 1; whnf); refine LetN.mk ?_)) | (refine As.pre ?_; first | refine As.mk rfl ?_) | (refine LetV.pre ?_; first | refine LetV.mk (.sc (.int _ _)) rfl ?_ | refine LetV.mk (.sc _) rfl ?_) | (refine LetB.pre ?_; first | refine LetB.dect (by omega) ?_ | refine LetB.decf (by omega) ?_) | (refine Gd.pre ?_; first | refine Gd.run rfl ?_ | refine Gd.pass rfl ?_) | (refine Br.pre ?_; first | refine Br.ff rfl ?_) | (refine Ck.pre ?_; first | refine Ck.mk rfl ?_) | (refine CallN.pre ?_; first | refine CallN.pure hc rfl rfl ?_ | refine CallN.dect (between_f _ _ _) rfl (by assumption) ?_ | refine CallN.pure (between_f _ _ _) rfl rfl ?_)))); (try (conv => whnf)))




      refine ⟨.inl rfl, ⟨_, rfl, congrArg int ?_⟩, trivial⟩
      simp [fldE, hk, *]
theorem fields6 (e : E) (hs : e.course.size ≤ 9223372036854775806) (hk : e.kind = 6) : AFun Tryz.prog 115 0 [en e] [] (int (fldE (decide (okCode e.course)) e)) [] := by
  have hc := rCode_f e.course hs
  generalize decide (okCode e.course) = oc at hc ⊢
  refine AFun.of_W T_ok mixed Tryz.func115 rfl (Nat.le_of_ble_eq_true rfl) rfl ?_
  by_cases hr : e.ref < 1 ∨ 899999 < e.ref
  · ((repeat ((conv => whnf); (first | (refine LetN.pre ?_; first | ((conv => arg 1; whnf); refine LetN.mk ?_)) | (refine As.pre ?_; first | refine As.mk rfl ?_) | (refine LetV.pre ?_; first | refine LetV.mk (.sc (.int _ _)) rfl ?_ | refine LetV.mk (.sc _) rfl ?_) | (refine LetB.pre ?_; first | refine LetB.dect (by omega) ?_ | refine LetB.decf (by omega) ?_) | (refine Gd.pre ?_; first | refine Gd.run rfl ?_ | refine Gd.pass rfl ?_) | (refine Br.pre ?_; first | refine Br.tt rfl ?_ | refine Br.ff rfl ?_) | (refine Ck.pre ?_; first | refine Ck.mk rfl ?_) | (refine CallN.pre ?_; first | refine CallN.pure hc rfl rfl ?_ | refine CallN.decf (between_f _ _ _) rfl (not_not_intro (by assumption)) ?_ | refine CallN.pure (between_f _ _ _) rfl rfl ?_)))); (try (conv => whnf)))




    refine ⟨.inl rfl, ⟨_, rfl, congrArg int ?_⟩, trivial⟩
    simp [fldE, hk, *]
  · by_cases hri : e.ref = e.id
    · ((repeat ((conv => whnf); (first | (refine LetN.pre ?_; first | ((conv => arg 1; whnf); refine LetN.mk ?_)) | (refine As.pre ?_; first | refine As.mk rfl ?_) | (refine LetV.pre ?_; first | refine LetV.mk (.sc (.int _ _)) rfl ?_ | refine LetV.mk (.sc _) rfl ?_) | (refine LetB.pre ?_; first | refine LetB.dect (by omega) ?_ | refine LetB.decf (by omega) ?_) | (refine Gd.pre ?_; first | refine Gd.run rfl ?_ | refine Gd.pass rfl ?_) | (refine Br.pre ?_; first | refine Br.tt rfl ?_ | refine Br.ff rfl ?_) | (refine Ck.pre ?_; first | refine Ck.mk rfl ?_) | (refine CallN.pre ?_; first | refine CallN.pure hc rfl rfl ?_ | refine CallN.dect (between_f _ _ _) rfl (by assumption) ?_ | refine CallN.pure (between_f _ _ _) rfl rfl ?_)))); (try (conv => whnf)))




      refine ⟨.inl rfl, ⟨_, rfl, congrArg int ?_⟩, trivial⟩
      simp [fldE, hk, *]
    · ((repeat ((conv => whnf); (first | (refine LetN.pre ?_; first | ((conv => arg 1; whnf); refine LetN.mk ?_)) | (refine As.pre ?_; first | refine As.mk rfl ?_) | (refine LetV.pre ?_; first | refine LetV.mk (.sc (.int _ _)) rfl ?_ | refine LetV.mk (.sc _) rfl ?_) | (refine LetB.pre ?_; first | refine LetB.dect (by omega) ?_ | refine LetB.decf (by omega) ?_) | (refine Gd.pre ?_; first | refine Gd.run rfl ?_ | refine Gd.pass rfl ?_) | (refine Br.pre ?_; first | refine Br.ff rfl ?_) | (refine Ck.pre ?_; first | refine Ck.mk rfl ?_) | (refine CallN.pre ?_; first | refine CallN.pure hc rfl rfl ?_ | refine CallN.dect (between_f _ _ _) rfl (by assumption) ?_ | refine CallN.pure (between_f _ _ _) rfl rfl ?_)))); (try (conv => whnf)))




      refine ⟨.inl rfl, ⟨_, rfl, congrArg int ?_⟩, trivial⟩
      simp [fldE, hk, *]
theorem fields7 (e : E) (hs : e.course.size ≤ 9223372036854775806) (hk : e.kind = 7) : AFun Tryz.prog 115 0 [en e] [] (int (fldE (decide (okCode e.course)) e)) [] := by
  have hc := rCode_f e.course hs
  generalize decide (okCode e.course) = oc at hc ⊢
  refine AFun.of_W T_ok mixed Tryz.func115 rfl (Nat.le_of_ble_eq_true rfl) rfl ?_
  by_cases hf : e.frm < 1 ∨ 8 < e.frm
  · ((repeat ((conv => whnf); (first | (refine LetN.pre ?_; first | ((conv => arg 1; whnf); refine LetN.mk ?_)) | (refine As.pre ?_; first | refine As.mk rfl ?_) | (refine LetV.pre ?_; first | refine LetV.mk (.sc (.int _ _)) rfl ?_ | refine LetV.mk (.sc _) rfl ?_) | (refine LetB.pre ?_; first | refine LetB.dect (by omega) ?_ | refine LetB.decf (by omega) ?_) | (refine Gd.pre ?_; first | refine Gd.pass rfl ?_) | (refine Br.pre ?_; first | refine Br.tt rfl ?_ | refine Br.ff rfl ?_) | (refine Ck.pre ?_; first | refine Ck.mk rfl ?_) | (refine CallN.pre ?_; first | refine CallN.pure hc rfl rfl ?_ | refine CallN.decf (between_f _ _ _) rfl (not_not_intro (by assumption)) ?_ | refine CallN.pure (between_f _ _ _) rfl rfl ?_)))); (try (conv => whnf)))




    refine ⟨.inl rfl, ⟨_, rfl, congrArg int ?_⟩, trivial⟩
    simp [fldE, hk, *]
  · by_cases hfs : e.frm = e.school
    · ((repeat ((conv => whnf); (first | (refine LetN.pre ?_; first | ((conv => arg 1; whnf); refine LetN.mk ?_)) | (refine As.pre ?_; first | refine As.mk rfl ?_) | (refine LetV.pre ?_; first | refine LetV.mk (.sc (.int _ _)) rfl ?_ | refine LetV.mk (.sc _) rfl ?_) | (refine LetB.pre ?_; first | refine LetB.dect (by omega) ?_ | refine LetB.decf (by omega) ?_) | (refine Gd.pre ?_; first | refine Gd.run rfl ?_) | (refine Br.pre ?_; first | refine Br.tt rfl ?_ | refine Br.ff rfl ?_) | (refine Ck.pre ?_; first | refine Ck.mk rfl ?_) | (refine CallN.pre ?_; first | refine CallN.pure hc rfl rfl ?_ | refine CallN.dect (between_f _ _ _) rfl (by assumption) ?_ | refine CallN.pure (between_f _ _ _) rfl rfl ?_)))); (try (conv => whnf)))




      refine ⟨.inl rfl, ⟨_, rfl, congrArg int ?_⟩, trivial⟩
      simp [fldE, hk, *]
    · ((repeat ((conv => whnf); (first | (refine LetN.pre ?_; first | ((conv => arg 1; whnf); refine LetN.mk ?_)) | (refine As.pre ?_; first | refine As.mk rfl ?_) | (refine LetV.pre ?_; first | refine LetV.mk (.sc (.int _ _)) rfl ?_ | refine LetV.mk (.sc _) rfl ?_) | (refine LetB.pre ?_; first | refine LetB.dect (by omega) ?_ | refine LetB.decf (by omega) ?_) | (refine Gd.pre ?_; first | refine Gd.run rfl ?_ | refine Gd.pass rfl ?_) | (refine Br.pre ?_; first | refine Br.tt rfl ?_ | refine Br.ff rfl ?_) | (refine Ck.pre ?_; first | refine Ck.mk rfl ?_) | (refine CallN.pre ?_; first | refine CallN.pure hc rfl rfl ?_ | refine CallN.dect (between_f _ _ _) rfl (by assumption) ?_ | refine CallN.pure (between_f _ _ _) rfl rfl ?_)))); (try (conv => whnf)))




      refine ⟨.inl rfl, ⟨_, rfl, congrArg int ?_⟩, trivial⟩
      simp [fldE, hk, *]
theorem fields8 (e : E) (hs : e.course.size ≤ 9223372036854775806) (hk : e.kind = 8) : AFun Tryz.prog 115 0 [en e] [] (int (fldE (decide (okCode e.course)) e)) [] := by
  have hc := rCode_f e.course hs
  generalize decide (okCode e.course) = oc at hc ⊢
  refine AFun.of_W T_ok mixed Tryz.func115 rfl (Nat.le_of_ble_eq_true rfl) rfl ?_
  by_cases hp : e.programme < 1
  · ((repeat ((conv => whnf); (first | (refine LetN.pre ?_; first | ((conv => arg 1; whnf); refine LetN.mk ?_)) | (refine As.pre ?_; first | refine As.mk rfl ?_) | (refine LetV.pre ?_; first | refine LetV.mk (.sc (.int _ _)) rfl ?_ | refine LetV.mk (.sc _) rfl ?_) | (refine LetB.pre ?_; first | refine LetB.dect (by omega) ?_ | refine LetB.decf (by omega) ?_) | (refine Br.pre ?_; first | refine Br.tt rfl ?_ | refine Br.ff rfl ?_) | (refine Ck.pre ?_; first | refine Ck.mk rfl ?_) | (refine CallN.pre ?_; first | refine CallN.pure hc rfl rfl ?_ | refine CallN.pure (between_f _ _ _) rfl rfl ?_)))); (try (conv => whnf)))




    refine ⟨.inl rfl, ⟨_, rfl, congrArg int ?_⟩, trivial⟩
    simp [fldE, hk, *]
  · ((repeat ((conv => whnf); (first | (refine LetN.pre ?_; first | ((conv => arg 1; whnf); refine LetN.mk ?_)) | (refine As.pre ?_; first | refine As.mk rfl ?_) | (refine LetV.pre ?_; first | refine LetV.mk (.sc (.int _ _)) rfl ?_ | refine LetV.mk (.sc _) rfl ?_) | (refine LetB.pre ?_; first | refine LetB.dect (by omega) ?_ | refine LetB.decf (by omega) ?_) | (refine Gd.pre ?_; first | refine Gd.run rfl ?_ | refine Gd.pass rfl ?_) | (refine Br.pre ?_; first | refine Br.tt rfl ?_ | refine Br.ff rfl ?_) | (refine Ck.pre ?_; first | refine Ck.mk rfl ?_) | (refine CallN.pre ?_; first | refine CallN.pure hc rfl rfl ?_ | refine CallN.pure (between_f _ _ _) rfl rfl ?_)))); (try (conv => whnf)))




    refine ⟨.inl rfl, ⟨_, rfl, congrArg int ?_⟩, trivial⟩
    simp [fldE, hk, *]
theorem fields9 (e : E) (hs : e.course.size ≤ 9223372036854775806) (hk : e.kind = 9) : AFun Tryz.prog 115 0 [en e] [] (int (fldE (decide (okCode e.course)) e)) [] := by
  have hc := rCode_f e.course hs
  generalize decide (okCode e.course) = oc at hc ⊢
  refine AFun.of_W T_ok mixed Tryz.func115 rfl (Nat.le_of_ble_eq_true rfl) rfl ?_
  by_cases hr : e.ref < 1 ∨ 899999 < e.ref
  · ((repeat ((conv => whnf); (first | (refine LetN.pre ?_; first | ((conv => arg 1; whnf); refine LetN.mk ?_)) | (refine As.pre ?_; first | refine As.mk rfl ?_) | (refine LetV.pre ?_; first | refine LetV.mk (.sc (.int _ _)) rfl ?_ | refine LetV.mk (.sc _) rfl ?_) | (refine LetB.pre ?_; first | refine LetB.dect (by omega) ?_ | refine LetB.decf (by omega) ?_) | (refine Gd.pre ?_; first | refine Gd.run rfl ?_ | refine Gd.pass rfl ?_) | (refine Br.pre ?_; first | refine Br.tt rfl ?_ | refine Br.ff rfl ?_) | (refine Ck.pre ?_; first | refine Ck.mk rfl ?_) | (refine CallN.pre ?_; first | refine CallN.pure hc rfl rfl ?_ | refine CallN.decf (between_f _ _ _) rfl (not_not_intro (by assumption)) ?_ | refine CallN.pure (between_f _ _ _) rfl rfl ?_)))); (try (conv => whnf)))




    refine ⟨.inl rfl, ⟨_, rfl, congrArg int ?_⟩, trivial⟩
    simp [fldE, hk, *]
  · by_cases hri : e.ref = e.id
    · ((repeat ((conv => whnf); (first | (refine LetN.pre ?_; first | ((conv => arg 1; whnf); refine LetN.mk ?_)) | (refine As.pre ?_; first | refine As.mk rfl ?_) | (refine LetV.pre ?_; first | refine LetV.mk (.sc (.int _ _)) rfl ?_ | refine LetV.mk (.sc _) rfl ?_) | (refine LetB.pre ?_; first | refine LetB.dect (by omega) ?_ | refine LetB.decf (by omega) ?_) | (refine Gd.pre ?_; first | refine Gd.run rfl ?_) | (refine Br.pre ?_; first | refine Br.tt rfl ?_ | refine Br.ff rfl ?_) | (refine Ck.pre ?_; first | refine Ck.mk rfl ?_) | (refine CallN.pre ?_; first | refine CallN.pure hc rfl rfl ?_ | refine CallN.dect (between_f _ _ _) rfl (by assumption) ?_ | refine CallN.pure (between_f _ _ _) rfl rfl ?_)))); (try (conv => whnf)))




      refine ⟨.inl rfl, ⟨_, rfl, congrArg int ?_⟩, trivial⟩
      simp [fldE, hk, *]
    · ((repeat ((conv => whnf); (first | (refine LetN.pre ?_; first | ((conv => arg 1; whnf); refine LetN.mk ?_)) | (refine As.pre ?_; first | refine As.mk rfl ?_) | (refine LetV.pre ?_; first | refine LetV.mk (.sc (.int _ _)) rfl ?_ | refine LetV.mk (.sc _) rfl ?_) | (refine LetB.pre ?_; first | refine LetB.dect (by omega) ?_ | refine LetB.decf (by omega) ?_) | (refine Gd.pre ?_; first | refine Gd.run rfl ?_) | (refine Br.pre ?_; first | refine Br.ff rfl ?_) | (refine Ck.pre ?_; first | refine Ck.mk rfl ?_) | (refine CallN.pre ?_; first | refine CallN.pure hc rfl rfl ?_ | refine CallN.dect (between_f _ _ _) rfl (by assumption) ?_ | refine CallN.pure (between_f _ _ _) rfl rfl ?_)))); (try (conv => whnf)))




      refine ⟨.inl rfl, ⟨_, rfl, congrArg int ?_⟩, trivial⟩
      simp [fldE, hk, *]
theorem fields_f (e : E) (hs : e.course.size ≤ 9223372036854775806) (hk : e.kind = 1 ∨ e.kind = 2 ∨ e.kind = 3 ∨ e.kind = 4 ∨ e.kind = 5 ∨ e.kind = 6 ∨ e.kind = 7 ∨ e.kind = 8 ∨ e.kind = 9) : AFun Tryz.prog 115 0 [en e] [] (int (fldE (decide (okCode e.course)) e)) [] := by
  rcases hk with h | h | h | h | h | h | h | h | h
  · exact fields1 e hs h
  · exact fields2 e hs h
  · exact fields3 e hs h
  · exact fields4 e hs h
  · exact fields5 e hs h
  · exact fields6 e hs h
  · exact fields7 e hs h
  · exact fields8 e hs h
  · exact fields9 e hs h
/-- The reference's Check of an entry. -/
theorem rCheck_f (e : E) (hs : e.course.size ≤ 9223372036854775806) : AFun Tryz.prog 88 0 [en e] [] (int (entE e)) [] := by
  have hpl := plain_f e
  have hpo := plain_only e
  have hfi := fields_f e hs
  unfold entE
  refine AFun.of_W T_ok mixed Tryz.func88 rfl (Nat.le_of_ble_eq_true rfl) rfl ?_
  by_cases a1 : e.id < 1 ∨ 899999 < e.id
  case pos =>
    ((repeat ((conv => whnf); (first | (refine LetN.pre ?_; first | ((conv => arg 1; whnf); refine LetN.mk ?_)) | (refine As.pre ?_; first | refine As.mk rfl ?_) | (refine LetV.pre ?_; first | refine LetV.mk (.sc (.int _ _)) rfl ?_) | (refine Gd.pre ?_; first | refine Gd.pass rfl ?_) | (refine Br.pre ?_; first | refine Br.tt rfl ?_) | (refine Ck.pre ?_; first | refine Ck.mk rfl ?_) | (refine CallN.pre ?_; first | refine CallN.decf (between_f _ _ _) rfl (not_not_intro (by assumption)) ?_)))); (try (conv => whnf)))




    exact ⟨.inl rfl, ⟨_, rfl, congrArg int (entX_arg (.inl a1)).symm⟩, trivial⟩
  by_cases a2 : e.school < 1 ∨ 8 < e.school
  case pos =>
    ((repeat ((conv => whnf); (first | (refine LetN.pre ?_; first | ((conv => arg 1; whnf); refine LetN.mk ?_)) | (refine As.pre ?_; first | refine As.mk rfl ?_) | (refine LetV.pre ?_; first | refine LetV.mk (.sc (.int _ _)) rfl ?_) | (refine Gd.pre ?_; first | refine Gd.run rfl ?_ | refine Gd.pass rfl ?_) | (refine Br.pre ?_; first | refine Br.tt rfl ?_) | (refine Ck.pre ?_; first | refine Ck.mk rfl ?_) | (refine CallN.pre ?_; first | refine CallN.dect (between_f _ _ _) rfl (by assumption) ?_ | refine CallN.decf (between_f _ _ _) rfl (not_not_intro (by assumption)) ?_)))); (try (conv => whnf)))




    exact ⟨.inl rfl, ⟨_, rfl, congrArg int (entX_arg (.inr (.inl a2))).symm⟩, trivial⟩
  by_cases a3 : e.student < 1 ∨ 999999 < e.student
  case pos =>
    ((repeat ((conv => whnf); (first | (refine LetN.pre ?_; first | ((conv => arg 1; whnf); refine LetN.mk ?_)) | (refine As.pre ?_; first | refine As.mk rfl ?_) | (refine LetV.pre ?_; first | refine LetV.mk (.sc (.int _ _)) rfl ?_) | (refine Gd.pre ?_; first | refine Gd.run rfl ?_) | (refine Br.pre ?_; first | refine Br.tt rfl ?_) | (refine Ck.pre ?_; first | refine Ck.mk rfl ?_) | (refine CallN.pre ?_; first | refine CallN.dect (between_f _ _ _) rfl (by assumption) ?_ | refine CallN.decf (between_f _ _ _) rfl (not_not_intro (by assumption)) ?_)))); (try (conv => whnf)))




    exact ⟨.inl rfl, ⟨_, rfl, congrArg int (entX_arg (.inr (.inr a3))).symm⟩, trivial⟩
  have hA : ¬ ((e.id < 1 ∨ 899999 < e.id) ∨ (e.school < 1 ∨ 8 < e.school) ∨ (e.student < 1 ∨ 999999 < e.student)) := by rintro (h | h | h) <;> contradiction
  by_cases a4 : e.kind < 1 ∨ 9 < e.kind
  case pos =>
    ((repeat ((conv => whnf); (first | (refine LetN.pre ?_; first | ((conv => arg 1; whnf); refine LetN.mk ?_)) | (refine As.pre ?_; first | refine As.mk rfl ?_) | (refine LetV.pre ?_; first | refine LetV.mk (.sc (.int _ _)) rfl ?_) | (refine Gd.pre ?_; first | refine Gd.run rfl ?_ | refine Gd.pass rfl ?_) | (refine Br.pre ?_; first | refine Br.tt rfl ?_ | refine Br.ff rfl ?_) | (refine Ck.pre ?_; first | refine Ck.drawn (by kernel_rfl) ?_ | refine Ck.mk rfl ?_) | (refine CallN.pre ?_; first | refine CallN.dect (between_f _ _ _) rfl (by assumption) ?_ | refine CallN.decf (between_f _ _ _) rfl (not_not_intro (by assumption)) ?_)))); (try (conv => whnf)))




    exact ⟨.inl rfl, ⟨_, rfl, congrArg int (entX_kind hA (.inl a4)).symm⟩, trivial⟩
  replace hpo := hpo (by omega)
  replace hfi := hfi (by omega)
  generalize onlyF e.kind (fillB e) = on at hpo ⊢
  cases on with
  | false =>
    have hb : (!enB (plainE e) e) = true := by rw [hpo]; rfl
    clear hpo
    generalize plainE e = q at hpl hb
    ((repeat ((conv => whnf); (first | (refine LetN.pre ?_; first | ((conv => arg 1; whnf); refine LetN.mk ?_)) | (refine As.pre ?_; first | refine As.mk rfl ?_) | (refine LetV.pre ?_; first | refine LetV.mk (.sc (.int _ _)) rfl ?_ | refine LetV.mk (.agg _) rfl ?_) | (refine LetB.pre ?_; first | refine LetB.tt (by assumption) ?_) | (refine Gd.pre ?_; first | refine Gd.run rfl ?_) | (refine Br.pre ?_; first | refine Br.tt rfl ?_ | refine Br.ff rfl ?_) | (refine Ck.pre ?_; first | refine Ck.drawn (by kernel_rfl) ?_ | refine Ck.mk rfl ?_) | (refine CallN.pre ?_; first | refine CallN.pure hpl rfl rfl ?_ | refine CallN.dect (between_f _ _ _) rfl (by assumption) ?_)))); (try (conv => whnf)))






    exact ⟨.inl rfl, ⟨_, rfl, congrArg int (entX_kind hA (.inr rfl)).symm⟩, trivial⟩
  | true =>
    have hb : (!enB (plainE e) e) = false := by rw [hpo]; rfl
    clear hpo
    generalize plainE e = q at hpl hb
    by_cases d1 : e.day < 0 ∨ 100000 < e.day
    case pos =>
      ((repeat ((conv => whnf); (first | (refine LetN.pre ?_; first | ((conv => arg 1; whnf); refine LetN.mk ?_)) | (refine As.pre ?_; first | refine As.mk rfl ?_) | (refine LetV.pre ?_; first | refine LetV.mk (.sc (.int _ _)) rfl ?_ | refine LetV.mk (.agg _) rfl ?_) | (refine LetB.pre ?_; first | refine LetB.ff (by assumption) ?_) | (refine Gd.pre ?_; first | refine Gd.run rfl ?_ | refine Gd.pass rfl ?_) | (refine Br.pre ?_; first | refine Br.tt rfl ?_ | refine Br.ff rfl ?_) | (refine Ck.pre ?_; first | refine Ck.drawn (by kernel_rfl) ?_ | refine Ck.mk rfl ?_) | (refine CallN.pre ?_; first | refine CallN.pure hpl rfl rfl ?_ | refine CallN.dect (between_f _ _ _) rfl (by assumption) ?_ | refine CallN.decf (between_f _ _ _) rfl (not_not_intro (by assumption)) ?_)))); (try (conv => whnf)))






      exact ⟨.inl rfl, ⟨_, rfl, congrArg int (entX_date hA a4 rfl (.inl d1)).symm⟩, trivial⟩
    by_cases d2 : e.on_ < 0 ∨ 100000 < e.on_
    case pos =>
      ((repeat ((conv => whnf); (first | (refine LetN.pre ?_; first | ((conv => arg 1; whnf); refine LetN.mk ?_)) | (refine As.pre ?_; first | refine As.mk rfl ?_) | (refine LetV.pre ?_; first | refine LetV.mk (.sc (.int _ _)) rfl ?_ | refine LetV.mk (.agg _) rfl ?_) | (refine LetB.pre ?_; first | refine LetB.ff (by assumption) ?_) | (refine Gd.pre ?_; first | refine Gd.run rfl ?_ | refine Gd.pass rfl ?_) | (refine Br.pre ?_; first | refine Br.tt rfl ?_ | refine Br.ff rfl ?_) | (refine Ck.pre ?_; first | refine Ck.drawn (by kernel_rfl) ?_ | refine Ck.mk rfl ?_) | (refine CallN.pre ?_; first | refine CallN.pure hpl rfl rfl ?_ | refine CallN.dect (between_f _ _ _) rfl (by assumption) ?_ | refine CallN.decf (between_f _ _ _) rfl (not_not_intro (by assumption)) ?_)))); (try (conv => whnf)))






      exact ⟨.inl rfl, ⟨_, rfl, congrArg int (entX_date hA a4 rfl (.inr (by omega))).symm⟩, trivial⟩
    by_cases d3 : e.day < e.on_
    case pos =>
      ((repeat ((conv => whnf); (first | (refine LetN.pre ?_; first | ((conv => arg 1; whnf); refine LetN.mk ?_)) | (refine As.pre ?_; first | refine As.mk rfl ?_) | (refine LetV.pre ?_; first | refine LetV.mk (.sc (.int _ _)) rfl ?_ | refine LetV.mk (.agg _) rfl ?_) | (refine LetB.pre ?_; first | refine LetB.ff (by assumption) ?_ | refine LetB.dect (by omega) ?_) | (refine Gd.pre ?_; first | refine Gd.run rfl ?_) | (refine Br.pre ?_; first | refine Br.tt rfl ?_ | refine Br.ff rfl ?_) | (refine Ck.pre ?_; first | refine Ck.drawn (by kernel_rfl) ?_ | refine Ck.mk rfl ?_) | (refine CallN.pre ?_; first | refine CallN.pure hpl rfl rfl ?_ | refine CallN.dect (between_f _ _ _) rfl (by assumption) ?_)))); (try (conv => whnf)))






      exact ⟨.inl rfl, ⟨_, rfl, congrArg int (entX_date hA a4 rfl (.inr (by omega))).symm⟩, trivial⟩
    have hD : ¬ ((e.day < 0 ∨ 100000 < e.day) ∨ (e.on_ < 0 ∨ e.day < e.on_)) := by omega
    ((repeat ((conv => whnf); (first | (refine LetN.pre ?_; first | ((conv => arg 1; whnf); refine LetN.mk ?_)) | (refine As.pre ?_; first | refine As.mk rfl ?_) | (refine LetV.pre ?_; first | refine LetV.mk (.sc (.int _ _)) rfl ?_ | refine LetV.mk (.agg _) rfl ?_) | (refine LetB.pre ?_; first | refine LetB.ff (by assumption) ?_ | refine LetB.decf (by omega) ?_) | (refine Gd.pre ?_; first | refine Gd.run rfl ?_) | (refine Br.pre ?_; first | refine Br.ff rfl ?_) | (refine Ck.pre ?_; first | refine Ck.drawn (by kernel_rfl) ?_ | refine Ck.mk rfl ?_) | (refine CallN.pre ?_; first | refine CallN.pure hpl rfl rfl ?_ | refine CallN.pure hfi rfl rfl ?_ | refine CallN.dect (between_f _ _ _) rfl (by assumption) ?_)))); (try (conv => whnf)))






    exact ⟨.inl rfl, ⟨_, rfl, congrArg int (entX_fld hA a4 rfl hD).symm⟩, trivial⟩
end En
end Go.Proofs.YtgnakhljdjekbaaGreatDoor
namespace Go.Proofs.YtgnakhljdjekbaaGreatDoor
open Go.Proofs.YtgnakhljdjekbaaGreatDoor.Am
set_option maxRecDepth 100000
namespace En
open Classical
/-! ### Check of entries -/
theorem IndexE_f {c : Cd} (hc : c.Ok) (l : List E) (fl : Fl) (hl : l.length ≤ 100000) : AFun Tryz.prog 66 0 [.ro fl 15 (l.map en), c.av] [] (int (fidx c.p l 0)) [] := by
  refine AFun.of_W T_ok mixed Tryz.func66 rfl (Nat.le_of_ble_eq_true rfl) rfl ?_
  generalize hR : fidx c.p l 0 = R
  ((repeat ((conv => whnf); (first | (refine As.pre ?_; first | refine As.mk rfl ?_) | (refine LetI.pre ?_; first | refine LetI.mk _ rfl ?_) | (refine Ck.pre ?_; first | refine Ck.mk rfl ?_)))); (try (conv => whnf)))
  have hm : (l.map en).length = l.length := List.length_map _
  have hcn : frNames (fun i => decide (i < 0) || List.contains [] i) [(0, .ro fl 15 (l.map en)), (1, c.av), (6, .ro fl 15 (l.map en)), (7, int l.length), (8, int (0 : Nat))] = true := by
    simp only [frNames, List.all_cons, AV.names, AV.namesL, namesL_none hc.pure]; rfl
  refine LoopN.weak (s1 := ⟨[(0, .ro fl 15 (l.map en)), (1, c.av), (6, .ro fl 15 (l.map en)), (7, int l.length), (8, int (0 : Nat))], [], 0⟩) (SW.fr0 (Nat.le_refl _) hcn ⟨.refl _, VLe2.of_eq (ren_id _), .refl _, VLe2.int (by rw [hm]), .refl _, trivial⟩) ?_
  refine LoopN.ind T_ok mixed (S := fun k : Nat => ⟨[(0, .ro fl 15 (l.map en)), (1, c.av), (6, .ro fl 15 (l.map en)), (7, int l.length), (8, int k)], [], 0⟩) (fun k => l.length - k) (fun k => k ≤ l.length ∧ R = fidx c.p (l.drop k) k) (fun _ => rfl) (fun k hk ih => ?_) 0 ⟨Nat.zero_le _, hR.symm⟩
  obtain ⟨h1, h2⟩ := hk
  by_cases hlt : k < l.length
  case neg =>
    rw [fidx_end hlt] at h2
    rw [h2]
    clear ih
    ((repeat ((conv => whnf); (first | (refine As.pre ?_; first | refine As.mk rfl ?_) | (refine LetB.pre ?_; first | refine LetB.decf (by omega) ?_) | (refine Br.pre ?_; first | refine Br.ff rfl ?_) | (refine Ck.pre ?_; first | refine Ck.mk rfl ?_)))); (try (conv => whnf)))
    exact ⟨.inl rfl, ⟨_, rfl, rfl⟩, trivial⟩
  case pos =>
    rw [fidx_drop hlt e0] at h2
    have hld : en (l.getD k e0) = (l.map en).getD k (.sc undef) := mapD e0 hlt
    generalize l.getD k e0 = e at hld h2
    have hck := hc.run e
    cases hp : c.p e with
    | false =>
      rw [hp] at hck h2
      simp only [Bool.false_eq_true, if_false] at h2
      ((repeat ((conv => whnf); (first | (refine As.pre ?_; first | refine As.mk rfl ?_ | (refine As.mk ?_ ?_; · ((repeat' (refine andT ?_ ?_)) <;> (first | rfl | assumption | exact decide_eq_true (by omega) | exact decide_eq_true (by dsimp only; omega) | exact decide_eq_true (by simp; omega) | (simp; done))))) | (refine LetV.pre ?_; first | refine LetV.mk (t := 33) _ hld ?_ | refine LetV.mk (.agg _) rfl ?_) | (refine LetI.pre ?_; first | refine LetI.wrap (by omega) (by omega) ?_) | (refine LetB.pre ?_; first | refine LetB.dect (by omega) ?_) | (refine Br.pre ?_; first | refine Br.tt rfl ?_ | refine Br.ff rfl ?_) | (refine Ck.pre ?_; first | refine Ck.mk rfl ?_ | refine Ck.mk hc.call ?_) | (refine CallN.pre ?_; first | refine CallN.pure hck (hc.names e) rfl ?_) | refine forceAs.pass ?_))); (try (conv => whnf)))



      refine LoopN.weak ?_ (ih (k + 1) ⟨by omega, h2⟩ (by omega))
      refine SW.fr0 (Nat.le_refl _) ?_ ⟨.refl _, VLe2.of_eq (ren_id _), .refl _, .refl _, VLe2.int (by omega), trivial⟩
      exact hcn
    | true =>
      rw [hp] at hck h2
      simp only [if_true] at h2
      rw [h2]
      clear ih
      ((repeat ((conv => whnf); (first | (refine As.pre ?_; first | refine As.mk rfl ?_ | (refine As.mk ?_ ?_; · ((repeat' (refine andT ?_ ?_)) <;> (first | rfl | assumption | exact decide_eq_true (by omega) | exact decide_eq_true (by dsimp only; omega) | exact decide_eq_true (by simp; omega) | (simp; done))))) | (refine LetV.pre ?_; first | refine LetV.mk (t := 33) _ hld ?_ | refine LetV.mk (.agg _) rfl ?_) | (refine LetB.pre ?_; first | refine LetB.dect (by omega) ?_) | (refine Br.pre ?_; first | refine Br.tt rfl ?_) | (refine Ck.pre ?_; first | refine Ck.mk rfl ?_ | refine Ck.mk hc.call ?_) | (refine CallN.pre ?_; first | refine CallN.pure hck (hc.names e) rfl ?_) | refine forceAs.pass ?_))); (try (conv => whnf)))



      exact ⟨.inl rfl, ⟨_, rfl, rfl⟩, trivial⟩
theorem ContainsE_f {c : Cd} (hc : c.Ok) (l : List E) (fl : Fl) (hl : l.length ≤ 100000) : AFun Tryz.prog 40 0 [.ro fl 15 (l.map en), c.av] [] (bool (l.any c.p)) [] := by
  refine AFun.of_W T_ok mixed Tryz.func40 rfl (Nat.le_of_ble_eq_true rfl) rfl ?_
  have hi := IndexE_f hc l fl hl
  have hk := fidx_nonneg (p := c.p) l 0
  generalize fidx c.p l 0 = r at hi hk
  have hb : decide (r ≥ 0) = l.any c.p := Bool.eq_iff_iff.2 (by simp only [decide_eq_true_eq]; exact hk)
  have hn : AV.namesL (fun _ => false) [.ro fl 15 (l.map en), c.av] = true := by
    simp only [AV.namesL, AV.names, hc.pure]; rfl
  ((repeat ((conv => whnf); (first | (refine As.pre ?_; first | refine As.mk rfl ?_) | (refine LetB.pre ?_; first | refine LetB.mk _ hb.symm ?_) | (refine Ck.pre ?_; first | refine Ck.mk rfl ?_) | (refine CallN.pre ?_; first | refine CallN.pure hi hn rfl ?_) | refine forceAs.pass ?_))); (try (conv => whnf)))


  exact ⟨.inl rfl, ⟨_, rfl, rfl⟩, trivial⟩
theorem check1_f (x e : E) : AFun Tryz.prog 85 0 [en x, .rp (en e) 0] [] (bool (decide (x.id = e.id))) [] := by
  refine AFun.of_W T_ok mixed Tryz.func85 rfl (Nat.le_of_ble_eq_true rfl) rfl ?_
  repeat' ((conv => whnf); (first | (refine LetN.pre ?_; first | ((conv => arg 1; whnf); refine LetN.mk ?_)) | (refine As.pre ?_; first | refine As.mk rfl ?_) | (refine LetV.pre ?_; first | refine LetV.mk (.sc (.int _ _)) rfl ?_) | (refine LetB.pre ?_; first | (refine LetB.dec (fun _ => ?_) (fun _ => ?_))) | (refine Ck.pre ?_; first | refine Ck.mk rfl ?_)))
  all_goals (refine ⟨by first | exact .inl rfl | exact .inr rfl, ⟨_, rfl, congrArg (fun b => Go.Proofs.YtgnakhljdjekbaaGreatDoor.Am.AV.sc (Go.Value.bool b)) (by first | exact (decide_eq_true (by omega)).symm | exact (decide_eq_false (by omega)).symm | exact Bool.eq_iff_iff.2 (by simp only [decide_eq_true_eq, decide_eq_false_iff_not]; omega) | rfl)⟩, trivial⟩)
theorem check2_f (x e : E) (kd : Int) : AFun Tryz.prog 87 0 [en x, .rp (en e) 0, .rp (int kd) 0] [] (bool (decide (x.id = e.ref ∧ x.kind = kd ∧ x.student = e.student))) [] := by
  refine AFun.of_W T_ok mixed Tryz.func87 rfl (Nat.le_of_ble_eq_true rfl) rfl ?_
  repeat' ((conv => whnf); (first | (refine LetN.pre ?_; first | ((conv => arg 1; whnf); refine LetN.mk ?_)) | (refine As.pre ?_; first | refine As.mk rfl ?_) | (refine LetV.pre ?_; first | refine LetV.mk (.sc (.int _ _)) rfl ?_) | (refine LetB.pre ?_; first | (refine LetB.dec (fun _ => ?_) (fun _ => ?_))) | (refine Gd.pre ?_; first | refine Gd.run rfl ?_ | refine Gd.pass rfl ?_) | (refine Ck.pre ?_; first | refine Ck.mk rfl ?_)))
  all_goals (refine ⟨by first | exact .inl rfl | exact .inr rfl, ⟨_, rfl, congrArg (fun b => Go.Proofs.YtgnakhljdjekbaaGreatDoor.Am.AV.sc (Go.Value.bool b)) (by first | exact (decide_eq_true (by omega)).symm | exact (decide_eq_false (by omega)).symm | exact Bool.eq_iff_iff.2 (by simp only [decide_eq_true_eq, decide_eq_false_iff_not]; omega) | rfl)⟩, trivial⟩)
abbrev cSame (e : E) : Cd := ⟨85, [.rp (en e) 0], fun x => decide (x.id = e.id)⟩
abbrev cRef (e : E) (kd : Int) : Cd := ⟨87, [.rp (en e) 0, .rp (int kd) 0], fun x => decide (x.id = e.ref ∧ x.kind = kd ∧ x.student = e.student)⟩
theorem cSame_ok (e : E) : (cSame e).Ok := ⟨fun x => check1_f x e, by kernel_rfl, rfl⟩
theorem cRef_ok (e : E) (kd : Int) : (cRef e kd).Ok := ⟨fun x => check2_f x e kd, by kernel_rfl, rfl⟩
theorem targets_f : AFun Tryz.prog 86 0 [] [] (.mp 0) [(0, .map 4 [(.int .i64 4, int 3), (.int .i64 5, int 3), (.int .i64 6, int 5), (.int .i64 9, int 8)])] :=
  AFun.of_evF T_ok mixed 20 0 [] [(0, some (.map 4 [(.int .i64 4, int 3), (.int .i64 5, int 3), (.int .i64 6, int 5), (.int .i64 9, int 8)]))] (by kernel_rfl) rfl rfl
def tgt (k : Int) : Int := if k = 4 ∨ k = 5 then 3 else if k = 6 then 5 else if k = 9 then 8 else 0
theorem target_f (k : Int) : AFun Tryz.prog 89 0 [int k] [] (int (tgt k)) [] := by
  refine AFun.of_W T_ok mixed Tryz.func89 rfl (Nat.le_of_ble_eq_true rfl) rfl ?_
  unfold tgt
  repeat' ((conv => whnf); (first | (refine As.pre ?_; first | refine As.mk rfl ?_) | (refine LetB.pre ?_; first | (refine LetB.dec (fun _ => ?_) (fun _ => ?_))) | (refine Br.pre ?_; first | refine Br.tt rfl ?_ | refine Br.ff rfl ?_) | (refine Ck.pre ?_; first | refine Ck.mk rfl ?_)))
  all_goals
    refine ⟨.inl rfl, ⟨_, rfl, congrArg int ?_⟩, trivial⟩
    repeat' split
    all_goals first | rfl | (exfalso; omega)
end En
end Go.Proofs.YtgnakhljdjekbaaGreatDoor
namespace Go.Proofs.YtgnakhljdjekbaaGreatDoor
open Go.Proofs.YtgnakhljdjekbaaGreatDoor.Am
set_option maxRecDepth 100000
namespace En
open Classical
noncomputable def oneE (b : List E) (e : E) : Int :=
  if entE e ≠ 0 then entE e
  else if b ≠ [] ∧ (b.getD 0 e0).school ≠ e.school then 22
  else if b.any (fun x => decide (x.id = e.id)) = true then 6
  else if b ≠ [] ∧ e.day < (b.getD (b.length - 1) e0).day then 7
  else if tgt e.kind = 0 then 0
  else if fidx (cRef e (tgt e.kind)).p b 0 < 0 then 21
  else if e.on_ < (b.getD (fidx (cRef e (tgt e.kind)).p b 0).toNat e0).on_ then 23
  else 0
theorem entE_kind {e : E} (h : entE e = 0) : 1 ≤ e.kind ∧ e.kind ≤ 9 := by
  unfold entE entX at h
  split at h
  · cases h
  · split at h
    · cases h
    · rename_i h2
      omega
theorem key_int {n : Int} (h : -9223372036854775808 ≤ n ∧ n ≤ 9223372036854775807) : keyB Tryz.prog 3 (.int .i64 n) = true := by
  have hu : Tryz.prog.underlying 3 = some (.int .i64) := TT.Ok.int T_ok (t := 3) rfl rfl
  have hw : (Lit.int .i64 n).wf = true := by
    simp only [Lit.wf, Bool.and_eq_true, decide_eq_true_eq]
    exact h
  unfold keyB keyOf
  simp [hu, mapKey, hw]
theorem fidx_range {α : Type} (p : α → Bool) : ∀ (l : List α) (k : Nat), fidx p l k < (k + l.length : Nat) ∧ -1 ≤ fidx p l k
  | [], k => by simp only [fidx]; omega
  | a :: l, k => by
    unfold fidx
    have := fidx_range p l (k + 1)
    simp only [List.length_cons]
    split <;> omega
abbrev tkv : List (Value × AV) := [(.int .i64 4, int 3), (.int .i64 5, int 3), (.int .i64 6, int 5), (.int .i64 9, int 8)]
theorem tgt_none {k : Int} (h : tgt k = 0) : findOk tkv (.int .i64 k) none := by
  intro x hx
  unfold tgt at h
  simp only [List.mem_cons, List.not_mem_nil, or_false] at hx
  rcases hx with rfl | rfl | rfl | rfl <;>
    (intro he
     simp only [Value.int.injEq, true_and] at he
     subst he
     simp at h)
theorem tgt_some {k : Int} (h : tgt k ≠ 0) : ∃ ix, findOk tkv (.int .i64 k) (some ix) ∧ (AV.tup [int (tgt k), .sc (.bool true)]) = .tup [kvAt tkv ix, .sc (.bool true)] := by
  unfold tgt at h ⊢
  by_cases h4 : k = 4
  · subst h4; exact ⟨0, ⟨int 3, rfl⟩, rfl⟩
  by_cases h5 : k = 5
  · subst h5; exact ⟨1, ⟨int 3, rfl⟩, rfl⟩
  by_cases h6 : k = 6
  · subst h6; exact ⟨2, ⟨int 5, rfl⟩, rfl⟩
  by_cases h9 : k = 9
  · subst h9; exact ⟨3, ⟨int 8, rfl⟩, rfl⟩
  · exfalso
    rw [if_neg (by omega), if_neg (by omega), if_neg (by omega)] at h
    exact h rfl
theorem key_kind {k : Int} (h : 1 ≤ k ∧ k ≤ 9) : (keyB Tryz.prog 3 (.int .i64 k) && tkv.all fun x => keyB Tryz.prog 3 x.1) = true := by
  simp only [List.all_cons, List.all_nil, Bool.and_true, Bool.and_eq_true]
  exact ⟨key_int (by omega), key_int (by omega), key_int (by omega), key_int (by omega), key_int (by omega)⟩
theorem one_tail {b : List E} {e : E} (h0 : entE e = 0) (h1 : ¬ (b ≠ [] ∧ (b.getD 0 e0).school ≠ e.school)) (h2 : b.any (fun x => decide (x.id = e.id)) = false) (h3 : ¬ (b ≠ [] ∧ e.day < (b.getD (b.length - 1) e0).day)) :
    oneE b e = if tgt e.kind = 0 then 0 else if fidx (cRef e (tgt e.kind)).p b 0 < 0 then 21 else if e.on_ < (b.getD (fidx (cRef e (tgt e.kind)).p b 0).toNat e0).on_ then 23 else 0 := by
  unfold oneE
  rw [if_neg (by rw [h0]; simp), if_neg h1, if_neg (by rw [h2]; simp), if_neg h3]
set_option maxHeartbeats 3200000 in
set_option maxRecDepth 100000 in
theorem check_f (b : List E) (e : E) (fl : Fl) (hl : b.length ≤ 100000) : AFun Tryz.prog 65 0 [en e, .ro fl 15 (b.map en)] [] (int (oneE b e)) [] := by
  have hC := Check_f e
  refine AFun.of_W T_ok mixed Tryz.func65 rfl (Nat.le_of_ble_eq_true rfl) rfl ?_
  by_cases hE : entE e = 0
  case neg =>
    rw [show oneE b e = entE e from if_pos hE]
    generalize entE e = z at hC hE ⊢
    ((repeat ((conv => whnf); (first | (refine LetN.pre ?_; first | ((conv => arg 1; whnf); refine LetN.mk ?_)) | (refine As.pre ?_; first | refine As.mk rfl ?_) | (refine LetV.pre ?_; first | refine LetV.mk (.agg _) rfl ?_) | (refine LetB.pre ?_; first | refine LetB.bnet (by omega) ?_) | (refine Br.pre ?_; first | refine Br.tt rfl ?_) | (refine Ck.pre ?_; first | refine Ck.mk rfl ?_) | (refine CallN.pre ?_; first | refine CallN.pure hC rfl rfl ?_)))); (try (conv => whnf)))

    exact ⟨.inl rfl, ⟨_, rfl, rfl⟩, trivial⟩
  have hky := key_kind (entE_kind hE)
  have hm : (b.map en).length = b.length := List.length_map _
  rw [hE] at hC
  by_cases hb : b.length = 0
  case pos =>
    have hbn : b = [] := List.length_eq_zero_iff.1 hb
    have hs : ¬ (b ≠ [] ∧ (b.getD 0 e0).school ≠ e.school) := fun h => h.1 hbn
    have ha : b.any (fun x => decide (x.id = e.id)) = false := by rw [hbn]; rfl
    have hd : ¬ (b ≠ [] ∧ e.day < (b.getD (b.length - 1) e0).day) := fun h => h.1 hbn
    by_cases ht : tgt e.kind = 0
    case pos =>
      have hno : findOk tkv (.int .i64 e.kind) none := tgt_none ht
      ((repeat ((conv => whnf); (first | (refine LetN.pre ?_; first | ((conv => arg 1; whnf); refine LetN.mk ?_)) | (refine As.pre ?_; first | refine As.mk rfl ?_ | refine As.mk hky ?_) | (refine LetV.pre ?_; first | refine LetV.mk (t := 61) (.tup [int 0, .sc (.bool false)]) rfl ?_ | refine LetV.mk (.sc (.int _ _)) rfl ?_ | refine LetV.mk (.agg _) rfl ?_) | (refine LetI.pre ?_; first | refine LetI.mk _ rfl ?_) | (refine LetB.pre ?_; first | refine LetB.ff rfl ?_ | refine LetB.decf (by omega) ?_) | (refine Br.pre ?_; first | refine Br.tt rfl ?_ | refine Br.ff rfl ?_) | (refine Ck.pre ?_; first | refine Ck.drawn (by kernel_rfl) ?_ | refine Ck.mk rfl ?_) | (refine LetL.pre ?_; first | refine LetL.mk [_] rfl ?_) | (refine CallN.pre ?_; first | refine CallN.pure hC rfl rfl ?_ | refine CallN.own (fun _ => 7) targets_f (CallOk.mk' rfl rfl rfl rfl rfl rfl trivial) ?_) | (refine FindN.mk none hno ?_)))); (try (conv => whnf)))





      exact ⟨.inl rfl, ⟨_, rfl, congrArg int ((one_tail hE hs ha hd).trans (if_pos ht)).symm⟩, trivial⟩
    obtain ⟨ix, hfi, hkv⟩ := tgt_some ht
    rw [one_tail hE hs ha hd, if_neg ht]
    generalize hkd : tgt e.kind = kd at hkv
    have hI := fun kd => IndexE_f (cRef_ok e kd) b fl hl
    replace hI := hI kd
    have hrr := fidx_range (cRef e kd).p b 0
    generalize fidx (cRef e kd).p b 0 = r at hI hrr ⊢
    have hr : r < 0 := by omega
    ((repeat ((conv => whnf); (first | (refine LetN.pre ?_; first | ((conv => arg 1; whnf); refine LetN.mk ?_)) | (refine As.pre ?_; first | refine As.mk rfl ?_ | refine As.mk hky ?_) | (refine LetV.pre ?_; first | refine LetV.mk (t := 61) (.tup [int kd, .sc (.bool true)]) hkv ?_ | refine LetV.mk (.sc (.int _ _)) rfl ?_ | refine LetV.mk (.agg _) rfl ?_) | (refine LetI.pre ?_; first | refine LetI.mk _ rfl ?_) | (refine LetB.pre ?_; first | refine LetB.ff rfl ?_ | refine LetB.dect (by omega) ?_ | refine LetB.decf (by omega) ?_) | (refine Br.pre ?_; first | refine Br.tt rfl ?_ | refine Br.ff rfl ?_) | (refine Ck.pre ?_; first | refine Ck.drawn (by kernel_rfl) ?_ | refine Ck.mk rfl ?_) | (refine LetL.pre ?_; first | refine LetL.mk [_] rfl ?_) | (refine CallN.pre ?_; first | refine CallN.pure hC rfl rfl ?_ | refine CallN.own (fun _ => 7) targets_f (CallOk.mk' rfl rfl rfl rfl rfl rfl trivial) ?_ | refine CallN.lend hI rfl (.same rfl (.clo (.ptr rfl rfl rfl (.ptr rfl rfl rfl .nil)) .nil)) ?_) | (refine FindN.mk (some ix) hfi ?_)))); (try (conv => whnf)))






    exact ⟨.inl rfl, ⟨_, rfl, congrArg int (if_pos hr).symm⟩, trivial⟩
  have hbn : b ≠ [] := fun h => hb (by rw [h]; rfl)
  have hld0 : en (b.getD 0 e0) = (b.map en).getD 0 (.sc undef) := mapD e0 (by omega)
  have hldl : en (b.getD (b.length - 1) e0) = (b.map en).getD (b.length - 1) (.sc undef) := mapD e0 (by omega)
  have hsub : ((b.length - 1 : Nat) : Int) = IntKind.i64.wrap (((b.map en).length : Int) - 1) := by
    rw [hm, wrap_id (by omega) (by omega)]; omega
  have hA := ContainsE_f (cSame_ok e) b fl hl
  simp only at hA
  by_cases s1 : (b.getD 0 e0).school ≠ e.school
  case pos =>
    rw [show oneE b e = 22 from (if_neg (by rw [hE]; simp)).trans (if_pos ⟨hbn, s1⟩)]
    generalize b.getD 0 e0 = x0 at hld0 s1
    ((repeat ((conv => whnf); (first | (refine LetN.pre ?_; first | ((conv => arg 1; whnf); refine LetN.mk ?_)) | (refine As.pre ?_; first | refine As.mk rfl ?_ | (refine As.mk ?_ ?_; · ((repeat' (refine andT ?_ ?_)) <;> (first | rfl | assumption | exact decide_eq_true (by omega) | exact decide_eq_true (by dsimp only; omega) | exact decide_eq_true (by simp; omega) | (simp; done))))) | (refine LetV.pre ?_; first | refine LetV.mk (t := 33) _ hld0 ?_ | refine LetV.mk (.sc (.int _ _)) rfl ?_ | refine LetV.mk (.agg _) rfl ?_) | (refine LetI.pre ?_; first | refine LetI.mk _ rfl ?_) | (refine LetB.pre ?_; first | refine LetB.ff rfl ?_ | refine LetB.dect (by omega) ?_ | refine LetB.bnet (by omega) ?_) | (refine Br.pre ?_; first | refine Br.tt rfl ?_ | refine Br.ff rfl ?_) | (refine Ck.pre ?_; first | refine Ck.drawn (by kernel_rfl) ?_ | refine Ck.mk rfl ?_) | (refine CallN.pre ?_; first | refine CallN.pure hC rfl rfl ?_)))); (try (conv => whnf)))


    exact ⟨.inl rfl, ⟨_, rfl, rfl⟩, trivial⟩
  have hs : ¬ (b ≠ [] ∧ (b.getD 0 e0).school ≠ e.school) := fun h => s1 h.2
  cases ha : b.any (fun x => decide (x.id = e.id)) with
  | true =>
    rw [show oneE b e = 6 from (if_neg (by rw [hE]; simp)).trans ((if_neg hs).trans (if_pos ha))]
    rw [ha] at hA
    clear hs
    generalize b.getD 0 e0 = x0 at hld0 s1
    replace s1 : x0.school = e.school := Classical.not_not.1 s1
    ((repeat ((conv => whnf); (first | (refine LetN.pre ?_; first | ((conv => arg 1; whnf); refine LetN.mk ?_)) | (refine As.pre ?_; first | refine As.mk rfl ?_ | (refine As.mk ?_ ?_; · ((repeat' (refine andT ?_ ?_)) <;> (first | rfl | assumption | exact decide_eq_true (by omega) | exact decide_eq_true (by dsimp only; omega) | exact decide_eq_true (by simp; omega) | (simp; done))))) | (refine LetV.pre ?_; first | refine LetV.mk (t := 33) _ hld0 ?_ | refine LetV.mk (.sc (.int _ _)) rfl ?_ | refine LetV.mk (.agg _) rfl ?_) | (refine LetI.pre ?_; first | refine LetI.mk _ rfl ?_) | (refine LetB.pre ?_; first | refine LetB.ff rfl ?_ | refine LetB.dect (by omega) ?_ | refine LetB.bnef (by omega) ?_) | (refine Br.pre ?_; first | refine Br.tt rfl ?_ | refine Br.ff rfl ?_) | (refine Ck.pre ?_; first | refine Ck.drawn (by kernel_rfl) ?_ | refine Ck.mk rfl ?_) | (refine CallN.pre ?_; first | refine CallN.pure hC rfl rfl ?_ | refine CallN.lend hA rfl (.same rfl (.clo (.ptr rfl rfl rfl .nil) .nil)) ?_)))); (try (conv => whnf)))



    exact ⟨.inl rfl, ⟨_, rfl, rfl⟩, trivial⟩
  | false =>
    rw [ha] at hA
    by_cases s2 : e.day < (b.getD (b.length - 1) e0).day
    case pos =>
      rw [show oneE b e = 7 from (if_neg (by rw [hE]; simp)).trans ((if_neg hs).trans ((if_neg (by rw [ha]; simp)).trans (if_pos ⟨hbn, s2⟩)))]
      clear hs
      generalize b.getD 0 e0 = x0 at hld0 s1
      generalize b.getD (b.length - 1) e0 = xl at hldl s2
      replace s1 : x0.school = e.school := Classical.not_not.1 s1
      ((repeat ((conv => whnf); (first | (refine LetN.pre ?_; first | ((conv => arg 1; whnf); refine LetN.mk ?_)) | (refine As.pre ?_; first | refine As.mk rfl ?_ | (refine As.mk ?_ ?_; · ((repeat' (refine andT ?_ ?_)) <;> (first | rfl | assumption | exact decide_eq_true (by omega) | exact decide_eq_true (by dsimp only; omega) | exact decide_eq_true (by simp; omega) | (simp; done))))) | (refine LetV.pre ?_; first | refine LetV.mk (t := 33) _ hld0 ?_ | refine LetV.mk (t := 33) _ hldl ?_ | refine LetV.mk (.sc (.int _ _)) rfl ?_ | refine LetV.mk (.agg _) rfl ?_) | (refine LetI.pre ?_; first | refine LetI.mk (o := some .sub) ((b.length - 1 : Nat) : Int) hsub ?_ | refine LetI.mk _ rfl ?_) | (refine LetB.pre ?_; first | refine LetB.ff rfl ?_ | refine LetB.dect (by omega) ?_ | refine LetB.bnef (by omega) ?_) | (refine Br.pre ?_; first | refine Br.tt rfl ?_ | refine Br.ff rfl ?_) | (refine Ck.pre ?_; first | refine Ck.drawn (by kernel_rfl) ?_ | refine Ck.mk rfl ?_) | (refine CallN.pre ?_; first | refine CallN.pure hC rfl rfl ?_ | refine CallN.lend hA rfl (.same rfl (.clo (.ptr rfl rfl rfl .nil) .nil)) ?_)))); (try (conv => whnf)))





      exact ⟨.inl rfl, ⟨_, rfl, rfl⟩, trivial⟩
    have hd : ¬ (b ≠ [] ∧ e.day < (b.getD (b.length - 1) e0).day) := fun h => s2 h.2
    have s1' : (b.getD 0 e0).school = e.school := Classical.not_not.1 s1
    clear s1
    by_cases ht : tgt e.kind = 0
    case pos =>
      have hno : findOk tkv (.int .i64 e.kind) none := tgt_none ht
      ((repeat ((conv => whnf); (first | (refine LetN.pre ?_; first | ((conv => arg 1; whnf); refine LetN.mk ?_)) | (refine As.pre ?_; first | refine As.mk rfl ?_ | refine As.mk hky ?_ | (refine As.mk ?_ ?_; · ((repeat' (refine andT ?_ ?_)) <;> (first | rfl | assumption | exact decide_eq_true (by omega) | exact decide_eq_true (by dsimp only; omega) | exact decide_eq_true (by simp; omega) | (simp; done))))) | (refine LetV.pre ?_; first | refine LetV.mk (t := 33) _ hld0 ?_ | refine LetV.mk (t := 33) _ hldl ?_ | refine LetV.mk (t := 61) (.tup [int 0, .sc (.bool false)]) rfl ?_ | refine LetV.mk (.sc (.int _ _)) rfl ?_ | refine LetV.mk (.agg _) rfl ?_) | (refine LetI.pre ?_; first | refine LetI.mk (o := some .sub) ((b.length - 1 : Nat) : Int) hsub ?_ | refine LetI.mk _ rfl ?_) | (refine LetB.pre ?_; first | refine LetB.ff rfl ?_ | refine LetB.dect (by omega) ?_ | refine LetB.decf (by omega) ?_ | refine LetB.bnef (by omega) ?_) | (refine Br.pre ?_; first | refine Br.tt rfl ?_ | refine Br.ff rfl ?_) | (refine Ck.pre ?_; first | refine Ck.drawn (by kernel_rfl) ?_ | refine Ck.mk rfl ?_) | (refine LetL.pre ?_; first | refine LetL.mk [_] rfl ?_) | (refine CallN.pre ?_; first | refine CallN.pure hC rfl rfl ?_ | refine CallN.own (fun _ => 7) targets_f (CallOk.mk' rfl rfl rfl rfl rfl rfl trivial) ?_ | refine CallN.lend hA rfl (.same rfl (.clo (.ptr rfl rfl rfl .nil) .nil)) ?_) | (refine FindN.mk none hno ?_)))); (try (conv => whnf)))









      exact ⟨.inl rfl, ⟨_, rfl, congrArg int ((one_tail hE hs ha hd).trans (if_pos ht)).symm⟩, trivial⟩
    obtain ⟨ix, hfi, hkv⟩ := tgt_some ht
    rw [one_tail hE hs ha hd, if_neg ht]
    generalize hkd : tgt e.kind = kd at hkv
    have hI := fun kd => IndexE_f (cRef_ok e kd) b fl hl
    replace hI := hI kd
    have hrr := fidx_range (cRef e kd).p b 0
    generalize fidx (cRef e kd).p b 0 = r at hI hrr ⊢
    by_cases hr : r < 0
    case pos =>
      ((repeat ((conv => whnf); (first | (refine LetN.pre ?_; first | ((conv => arg 1; whnf); refine LetN.mk ?_)) | (refine As.pre ?_; first | refine As.mk rfl ?_ | refine As.mk hky ?_ | (refine As.mk ?_ ?_; · ((repeat' (refine andT ?_ ?_)) <;> (first | rfl | assumption | exact decide_eq_true (by omega) | exact decide_eq_true (by dsimp only; omega) | exact decide_eq_true (by simp; omega) | (simp; done))))) | (refine LetV.pre ?_; first | refine LetV.mk (t := 33) _ hld0 ?_ | refine LetV.mk (t := 33) _ hldl ?_ | refine LetV.mk (t := 61) (.tup [int kd, .sc (.bool true)]) hkv ?_ | refine LetV.mk (.sc (.int _ _)) rfl ?_ | refine LetV.mk (.agg _) rfl ?_) | (refine LetI.pre ?_; first | refine LetI.mk (o := some .sub) ((b.length - 1 : Nat) : Int) hsub ?_ | refine LetI.mk _ rfl ?_) | (refine LetB.pre ?_; first | refine LetB.ff rfl ?_ | refine LetB.dect (by omega) ?_ | refine LetB.decf (by omega) ?_ | refine LetB.bnef (by omega) ?_) | (refine Br.pre ?_; first | refine Br.tt rfl ?_ | refine Br.ff rfl ?_) | (refine Ck.pre ?_; first | refine Ck.drawn (by kernel_rfl) ?_ | refine Ck.mk rfl ?_) | (refine LetL.pre ?_; first | refine LetL.mk [_] rfl ?_) | (refine CallN.pre ?_; first | refine CallN.pure hC rfl rfl ?_ | refine CallN.own (fun _ => 7) targets_f (CallOk.mk' rfl rfl rfl rfl rfl rfl trivial) ?_ | refine CallN.lend hA rfl (.same rfl (.clo (.ptr rfl rfl rfl .nil) .nil)) ?_ | refine CallN.lend hI rfl (.same rfl (.clo (.ptr rfl rfl rfl (.ptr rfl rfl rfl .nil)) .nil)) ?_) | (refine FindN.mk (some ix) hfi ?_)))); (try (conv => whnf)))










      exact ⟨.inl rfl, ⟨_, rfl, congrArg int (if_pos hr).symm⟩, trivial⟩
    have hrl : r.toNat < b.length := by omega
    have hldi : en (b.getD r.toNat e0) = (b.map en).getD r.toNat (.sc undef) := mapD e0 hrl
    generalize hxi : b.getD r.toNat e0 = xi at hldi ⊢
    by_cases ho : e.on_ < xi.on_
    case pos =>
      ((repeat ((conv => whnf); (first | (refine LetN.pre ?_; first | ((conv => arg 1; whnf); refine LetN.mk ?_)) | (refine As.pre ?_; first | refine As.mk rfl ?_ | refine As.mk hky ?_ | (refine As.mk ?_ ?_; · ((repeat' (refine andT ?_ ?_)) <;> (first | rfl | assumption | exact decide_eq_true (by omega) | exact decide_eq_true (by dsimp only; omega) | exact decide_eq_true (by simp; omega) | (simp; done))))) | (refine LetV.pre ?_; first | refine LetV.mk (t := 33) _ hld0 ?_ | refine LetV.mk (t := 33) _ hldl ?_ | refine LetV.mk (t := 33) _ hldi ?_ | refine LetV.mk (t := 61) (.tup [int kd, .sc (.bool true)]) hkv ?_ | refine LetV.mk (.sc (.int _ _)) rfl ?_ | refine LetV.mk (.agg _) rfl ?_) | (refine LetI.pre ?_; first | refine LetI.mk (o := some .sub) ((b.length - 1 : Nat) : Int) hsub ?_ | refine LetI.mk _ rfl ?_) | (refine LetB.pre ?_; first | refine LetB.ff rfl ?_ | refine LetB.dect (by omega) ?_ | refine LetB.decf (by omega) ?_ | refine LetB.bnef (by omega) ?_) | (refine Br.pre ?_; first | refine Br.tt rfl ?_ | refine Br.ff rfl ?_) | (refine Ck.pre ?_; first | refine Ck.drawn (by kernel_rfl) ?_ | refine Ck.mk rfl ?_) | (refine LetL.pre ?_; first | refine LetL.mk [_] rfl ?_) | (refine CallN.pre ?_; first | refine CallN.pure hC rfl rfl ?_ | refine CallN.own (fun _ => 7) targets_f (CallOk.mk' rfl rfl rfl rfl rfl rfl trivial) ?_ | refine CallN.lend hA rfl (.same rfl (.clo (.ptr rfl rfl rfl .nil) .nil)) ?_ | refine CallN.lend hI rfl (.same rfl (.clo (.ptr rfl rfl rfl (.ptr rfl rfl rfl .nil)) .nil)) ?_) | (refine FindN.mk (some ix) hfi ?_)))); (try (conv => whnf)))











      exact ⟨.inl rfl, ⟨_, rfl, congrArg int ((if_neg hr).trans (if_pos ho)).symm⟩, trivial⟩
    ((repeat ((conv => whnf); (first | (refine LetN.pre ?_; first | ((conv => arg 1; whnf); refine LetN.mk ?_)) | (refine As.pre ?_; first | refine As.mk rfl ?_ | refine As.mk hky ?_ | (refine As.mk ?_ ?_; · ((repeat' (refine andT ?_ ?_)) <;> (first | rfl | assumption | exact decide_eq_true (by omega) | exact decide_eq_true (by dsimp only; omega) | exact decide_eq_true (by simp; omega) | (simp; done))))) | (refine LetV.pre ?_; first | refine LetV.mk (t := 33) _ hld0 ?_ | refine LetV.mk (t := 33) _ hldl ?_ | refine LetV.mk (t := 33) _ hldi ?_ | refine LetV.mk (t := 61) (.tup [int kd, .sc (.bool true)]) hkv ?_ | refine LetV.mk (.sc (.int _ _)) rfl ?_ | refine LetV.mk (.agg _) rfl ?_) | (refine LetI.pre ?_; first | refine LetI.mk (o := some .sub) ((b.length - 1 : Nat) : Int) hsub ?_ | refine LetI.mk _ rfl ?_) | (refine LetB.pre ?_; first | refine LetB.ff rfl ?_ | refine LetB.dect (by omega) ?_ | refine LetB.decf (by omega) ?_ | refine LetB.bnef (by omega) ?_) | (refine Br.pre ?_; first | refine Br.tt rfl ?_ | refine Br.ff rfl ?_) | (refine Ck.pre ?_; first | refine Ck.drawn (by kernel_rfl) ?_ | refine Ck.mk rfl ?_) | (refine LetL.pre ?_; first | refine LetL.mk [_] rfl ?_) | (refine CallN.pre ?_; first | refine CallN.pure hC rfl rfl ?_ | refine CallN.own (fun _ => 7) targets_f (CallOk.mk' rfl rfl rfl rfl rfl rfl trivial) ?_ | refine CallN.lend hA rfl (.same rfl (.clo (.ptr rfl rfl rfl .nil) .nil)) ?_ | refine CallN.lend hI rfl (.same rfl (.clo (.ptr rfl rfl rfl (.ptr rfl rfl rfl .nil)) .nil)) ?_) | (refine FindN.mk (some ix) hfi ?_)))); (try (conv => whnf)))











    exact ⟨.inl rfl, ⟨_, rfl, congrArg int ((if_neg hr).trans (if_neg ho)).symm⟩, trivial⟩
end En
end Go.Proofs.YtgnakhljdjekbaaGreatDoor
namespace Go.Proofs.YtgnakhljdjekbaaGreatDoor
open Go.Proofs.YtgnakhljdjekbaaGreatDoor.Am
set_option maxRecDepth 100000
namespace En
open Classical
set_option maxHeartbeats 3200000 in
set_option maxRecDepth 100000 in
theorem one_f (b : List E) (e : E) (fl : Fl) (hl : b.length ≤ 100000) (hs0 : e.course.size ≤ 9223372036854775806) : AFun Tryz.prog 67 0 [en e, .ro fl 15 (b.map en)] [] (int (oneE b e)) [] := by
  have hC := rCheck_f e hs0
  have hT := target_f e.kind
  refine AFun.of_W T_ok mixed Tryz.func67 rfl (Nat.le_of_ble_eq_true rfl) rfl ?_
  by_cases hE : entE e = 0
  case neg =>
    rw [show oneE b e = entE e from if_pos hE]
    generalize entE e = z at hC hE ⊢
    ((repeat ((conv => whnf); (first | (refine LetN.pre ?_; first | ((conv => arg 1; whnf); refine LetN.mk ?_)) | (refine As.pre ?_; first | refine As.mk rfl ?_) | (refine LetV.pre ?_; first | refine LetV.mk (.agg _) rfl ?_) | (refine LetB.pre ?_; first | refine LetB.bnet (by omega) ?_) | (refine Br.pre ?_; first | refine Br.tt rfl ?_) | (refine Ck.pre ?_; first | refine Ck.mk rfl ?_) | (refine CallN.pre ?_; first | refine CallN.pure hC rfl rfl ?_)))); (try (conv => whnf)))
    exact ⟨.inl rfl, ⟨_, rfl, rfl⟩, trivial⟩
  have hm : (b.map en).length = b.length := List.length_map _
  rw [hE] at hC
  have hld0 : 0 < b.length → en (b.getD 0 e0) = (b.map en).getD 0 (.sc undef) := fun h => mapD e0 h
  have hldl : 0 < b.length → en (b.getD (b.length - 1) e0) = (b.map en).getD (b.length - 1) (.sc undef) := fun h => mapD e0 (by omega)
  have hsub : 0 < b.length → ((b.length - 1 : Nat) : Int) = IntKind.i64.wrap (((b.map en).length : Int) - 1) := by
    intro h
    rw [hm, wrap_id (by omega) (by omega)]; omega
  by_cases hs : b ≠ [] ∧ (b.getD 0 e0).school ≠ e.school
  case pos =>
    have hb : 0 < b.length := List.length_pos_iff.2 hs.1
    rw [show oneE b e = 22 from (if_neg (by rw [hE]; simp)).trans (if_pos hs)]
    have h0 := hld0 hb
    have s1 := hs.2
    clear hs hld0 hldl hsub
    generalize b.getD 0 e0 = x0 at h0 s1
    ((repeat ((conv => whnf); (first | (refine LetN.pre ?_; first | ((conv => arg 1; whnf); refine LetN.mk ?_)) | (refine As.pre ?_; first | refine As.mk rfl ?_ | (refine As.mk ?_ ?_; · ((repeat' (refine andT ?_ ?_)) <;> (first | rfl | assumption | exact decide_eq_true (by omega) | exact decide_eq_true (by dsimp only; omega) | exact decide_eq_true (by simp; omega) | (simp; done))))) | (refine LetV.pre ?_; first | refine LetV.mk (t := 33) _ h0 ?_ | refine LetV.mk (.sc (.int _ _)) rfl ?_ | refine LetV.mk (.agg _) rfl ?_) | (refine LetI.pre ?_; first | refine LetI.mk _ rfl ?_) | (refine LetB.pre ?_; first | refine LetB.ff rfl ?_ | refine LetB.dect (by omega) ?_ | refine LetB.bnet (by omega) ?_) | (refine Gd.pre ?_; first | refine Gd.run rfl ?_) | (refine Br.pre ?_; first | refine Br.tt rfl ?_ | refine Br.ff rfl ?_) | (refine Ck.pre ?_; first | refine Ck.drawn (by kernel_rfl) ?_ | refine Ck.mk rfl ?_) | (refine CallN.pre ?_; first | refine CallN.pure hC rfl rfl ?_)))); (try (conv => whnf)))
    exact ⟨.inl rfl, ⟨_, rfl, rfl⟩, trivial⟩
  generalize hR : oneE b e = R
  have hany : ∀ v, b.any (fun x => decide (x.id = e.id)) = v → R = if v = true then 6 else if b ≠ [] ∧ e.day < (b.getD (b.length - 1) e0).day then 7
      else if tgt e.kind = 0 then 0 else if fidx (cRef e (tgt e.kind)).p b 0 < 0 then 21 else if e.on_ < (b.getD (fidx (cRef e (tgt e.kind)).p b 0).toNat e0).on_ then 23 else 0 := by
    intro v hv
    rw [← hR]
    unfold oneE
    rw [if_neg (by rw [hE]; simp), if_neg hs, hv]
  clear hR
  by_cases hb : b.length = 0
  case pos =>
    have hbn : b = [] := List.length_eq_zero_iff.1 hb
    subst hbn
    have hR := hany false rfl
    simp only [Bool.false_eq_true, if_false, ne_eq, not_true_eq_false, false_and] at hR
    clear hany hs hld0 hldl hsub
    generalize tgt e.kind = kd at hT hR
    by_cases ht : kd = 0
    · rw [if_pos ht] at hR
      subst hR
      ((repeat ((conv => whnf); (first | (refine LetN.pre ?_; first | ((conv => arg 1; whnf); refine LetN.mk ?_)) | (refine As.pre ?_; first | refine As.mk rfl ?_) | (refine LetV.pre ?_; first | refine LetV.mk (.agg _) rfl ?_) | (refine LetI.pre ?_; first | refine LetI.mk _ rfl ?_) | (refine LetB.pre ?_; first | refine LetB.ff rfl ?_) | (refine Gd.pre ?_; first | refine Gd.pass rfl ?_) | (refine Br.pre ?_; first | refine Br.ff rfl ?_) | (refine Ck.pre ?_; first | refine Ck.drawn (by kernel_rfl) ?_ | refine Ck.mk rfl ?_) | (refine CallN.pre ?_; first | refine CallN.pure hC rfl rfl ?_)))); (try (conv => whnf)))
      refine LoopN.round T_ok mixed rfl ?_
      ((repeat ((conv => whnf); (first | (refine As.pre ?_; first | refine As.mk rfl ?_) | (refine LetV.pre ?_; first | refine LetV.mk (.sc (.int _ _)) rfl ?_) | (refine LetI.pre ?_; first | refine LetI.mk _ rfl ?_) | (refine LetB.pre ?_; first | refine LetB.ff rfl ?_ | refine LetB.dect (by omega) ?_) | (refine Gd.pre ?_; first | refine Gd.pass rfl ?_) | (refine Br.pre ?_; first | refine Br.tt rfl ?_ | refine Br.ff rfl ?_) | (refine Ck.pre ?_; first | refine Ck.drawn (by kernel_rfl) ?_ | refine Ck.mk rfl ?_) | (refine CallN.pre ?_; first | refine CallN.pure hT rfl rfl ?_)))); (try (conv => whnf)))
      exact ⟨.inl rfl, ⟨_, rfl, rfl⟩, trivial⟩
    · rw [if_neg ht, if_pos (show fidx (cRef e kd).p [] 0 < 0 by simp [fidx])] at hR
      subst hR
      ((repeat ((conv => whnf); (first | (refine LetN.pre ?_; first | ((conv => arg 1; whnf); refine LetN.mk ?_)) | (refine As.pre ?_; first | refine As.mk rfl ?_) | (refine LetV.pre ?_; first | refine LetV.mk (.agg _) rfl ?_) | (refine LetI.pre ?_; first | refine LetI.mk _ rfl ?_) | (refine LetB.pre ?_; first | refine LetB.ff rfl ?_) | (refine Gd.pre ?_; first | refine Gd.pass rfl ?_) | (refine Br.pre ?_; first | refine Br.ff rfl ?_) | (refine Ck.pre ?_; first | refine Ck.drawn (by kernel_rfl) ?_ | refine Ck.mk rfl ?_) | (refine CallN.pre ?_; first | refine CallN.pure hC rfl rfl ?_)))); (try (conv => whnf)))
      refine LoopN.round T_ok mixed rfl ?_
      ((repeat ((conv => whnf); (first | (refine As.pre ?_; first | refine As.mk rfl ?_) | (refine LetV.pre ?_; first | refine LetV.mk (.sc (.int _ _)) rfl ?_) | (refine LetI.pre ?_; first | refine LetI.mk _ rfl ?_) | (refine LetB.pre ?_; first | refine LetB.ff rfl ?_ | refine LetB.decf (by omega) ?_) | (refine Gd.pre ?_; first | refine Gd.pass rfl ?_) | (refine Br.pre ?_; first | refine Br.ff rfl ?_) | (refine Ck.pre ?_; first | refine Ck.drawn (by kernel_rfl) ?_ | refine Ck.mk rfl ?_) | (refine CallN.pre ?_; first | refine CallN.pure hT rfl rfl ?_)))); (try (conv => whnf)))
      refine LoopN.round T_ok mixed rfl ?_
      ((repeat ((conv => whnf); (first | (refine As.pre ?_; first | refine As.mk rfl ?_) | (refine LetI.pre ?_; first | refine LetI.mk _ rfl ?_) | (refine LetB.pre ?_; first | refine LetB.ff rfl ?_) | (refine Br.pre ?_; first | refine Br.ff rfl ?_) | (refine Ck.pre ?_; first | refine Ck.mk rfl ?_)))); (try (conv => whnf)))
      exact ⟨.inl rfl, ⟨_, rfl, rfl⟩, trivial⟩
  have hb0 : 0 < b.length := by omega
  replace hld0 := hld0 hb0
  replace hldl := hldl hb0
  replace hsub := hsub hb0
  have hbn : b ≠ [] := List.length_pos_iff.1 hb0
  have s1 : (b.getD 0 e0).school = e.school := by
    by_cases h : (b.getD 0 e0).school = e.school
    · exact h
    · exact absurd ⟨hbn, h⟩ hs
  clear hs
  generalize hx0 : b.getD 0 e0 = x0 at hld0 s1
  clear hx0
  ((repeat ((conv => whnf); (first | (refine LetN.pre ?_; first | ((conv => arg 1; whnf); refine LetN.mk ?_)) | (refine As.pre ?_; first | refine As.mk rfl ?_ | (refine As.mk ?_ ?_; · ((repeat' (refine andT ?_ ?_)) <;> (first | rfl | assumption | exact decide_eq_true (by omega) | exact decide_eq_true (by dsimp only; omega) | exact decide_eq_true (by simp; omega) | (simp; done))))) | (refine LetV.pre ?_; first | refine LetV.mk (t := 33) _ hld0 ?_ | refine LetV.mk (.sc (.int _ _)) rfl ?_ | refine LetV.mk (.agg _) rfl ?_) | (refine LetI.pre ?_; first | refine LetI.mk _ rfl ?_) | (refine LetB.pre ?_; first | refine LetB.ff rfl ?_ | refine LetB.dect (by omega) ?_ | refine LetB.bnef (by omega) ?_) | (refine Gd.pre ?_; first | refine Gd.run rfl ?_) | (refine Br.pre ?_; first | refine Br.ff rfl ?_) | (refine Ck.pre ?_; first | refine Ck.drawn (by kernel_rfl) ?_ | refine Ck.mk rfl ?_) | (refine CallN.pre ?_; first | refine CallN.pure hC rfl rfl ?_)))); (try (conv => whnf)))
  refine LoopN.weak (s1 := ⟨[(1, .ro fl 15 (b.map en)), (2, .ptr 0 15 0 0), (6, int (0 : Nat))], [(0, .row 15 ety [en e])], 1⟩) ?sw1 ?_
  case sw1 => exact SW.mk id rfl rfl rfl ⟨.refl _, .refl _, .refl _, trivial⟩ (haveV.row rfl rfl trivial)
  generalize hY : b.any (fun x => decide (x.id = e.id)) = Y
  refine LoopN.ind T_ok mixed (S := fun k : Nat => ⟨[(1, .ro fl 15 (b.map en)), (2, .ptr 0 15 0 0), (6, int k)], [(0, .row 15 ety [en e])], 1⟩) (fun k => b.length - k) (fun k => k ≤ b.length ∧ Y = (b.drop k).any (fun x => decide (x.id = e.id))) (fun _ => rfl) (fun k hk ih => ?_) 0 ⟨Nat.zero_le _, hY.symm⟩
  obtain ⟨h1, h2⟩ := hk
  by_cases hlt : k < b.length
  case pos =>
    have hld : en (b.getD k e0) = (b.map en).getD k (.sc undef) := mapD e0 hlt
    rw [any_drop _ hlt e0] at h2
    generalize b.getD k e0 = x at hld h2
    by_cases hx : x.id = e.id
    · rw [decide_eq_true hx, Bool.true_or] at h2
      have hR := hany Y hY
      rw [h2, if_pos rfl] at hR
      subst hR
      clear ih hany
      ((repeat ((conv => whnf); (first | (refine As.pre ?_; first | refine As.mk rfl ?_ | (refine As.mk ?_ ?_; · ((repeat' (refine andT ?_ ?_)) <;> (first | rfl | assumption | exact decide_eq_true (by omega) | exact decide_eq_true (by dsimp only; omega) | exact decide_eq_true (by simp; omega) | (simp; done))))) | (refine LetV.pre ?_; first | refine LetV.mk (t := 33) _ hld ?_ | refine LetV.mk (.sc (.int _ _)) rfl ?_) | (refine LetI.pre ?_; first | refine LetI.mk _ rfl ?_) | (refine LetB.pre ?_; first | refine LetB.dect (by omega) ?_) | (refine Br.pre ?_; first | refine Br.tt rfl ?_) | (refine Ck.pre ?_; first | refine Ck.drawn (by kernel_rfl) ?_ | refine Ck.mk rfl ?_)))); (try (conv => whnf)))
      exact ⟨.inl rfl, ⟨_, rfl, rfl⟩, trivial⟩
    · rw [decide_eq_false hx, Bool.false_or] at h2
      have next := ih (k + 1) ⟨by omega, h2⟩ (by omega)
      clear ih hany
      ((repeat ((conv => whnf); (first | (refine As.pre ?_; first | refine As.mk rfl ?_ | (refine As.mk ?_ ?_; · ((repeat' (refine andT ?_ ?_)) <;> (first | rfl | assumption | exact decide_eq_true (by omega) | exact decide_eq_true (by dsimp only; omega) | exact decide_eq_true (by simp; omega) | (simp; done))))) | (refine LetV.pre ?_; first | refine LetV.mk (t := 33) _ hld ?_ | refine LetV.mk (.sc (.int _ _)) rfl ?_) | (refine LetI.pre ?_; first | refine LetI.wrap (by omega) (by omega) ?_ | refine LetI.mk _ rfl ?_) | (refine LetB.pre ?_; first | refine LetB.dect (by omega) ?_ | refine LetB.decf (by omega) ?_) | (refine Br.pre ?_; first | refine Br.tt rfl ?_ | refine Br.ff rfl ?_) | (refine Ck.pre ?_; first | refine Ck.drawn (by kernel_rfl) ?_ | refine Ck.mk rfl ?_)))); (try (conv => whnf)))
      refine LoopN.weak ?sw2 next
      case sw2 => exact SW.mk id rfl rfl rfl ⟨.refl _, .refl _, VLe2.int (by omega), trivial⟩ (haveV.row rfl rfl trivial)
  clear ih
  rw [List.drop_eq_nil_of_le (by omega), List.any_nil] at h2
  have hR := hany Y hY
  rw [h2] at hR
  simp only [Bool.false_eq_true, if_false] at hR
  clear hany hY h2
  by_cases s2 : e.day < (b.getD (b.length - 1) e0).day
  case pos =>
    rw [if_pos ⟨hbn, s2⟩] at hR
    subst hR
    generalize b.getD (b.length - 1) e0 = xl at hldl s2
    ((repeat ((conv => whnf); (first | (refine As.pre ?_; first | refine As.mk rfl ?_ | (refine As.mk ?_ ?_; · ((repeat' (refine andT ?_ ?_)) <;> (first | rfl | assumption | exact decide_eq_true (by omega) | exact decide_eq_true (by dsimp only; omega) | exact decide_eq_true (by simp; omega) | (simp; done))))) | (refine LetV.pre ?_; first | refine LetV.mk (t := 33) _ hldl ?_ | refine LetV.mk (.sc (.int _ _)) rfl ?_) | (refine LetI.pre ?_; first | refine LetI.mk (o := some .sub) ((b.length - 1 : Nat) : Int) hsub ?_ | refine LetI.mk _ rfl ?_) | (refine LetB.pre ?_; first | refine LetB.dect (by omega) ?_ | refine LetB.decf (by omega) ?_) | (refine Gd.pre ?_; first | refine Gd.run rfl ?_) | (refine Br.pre ?_; first | refine Br.tt rfl ?_ | refine Br.ff rfl ?_) | (refine Ck.pre ?_; first | refine Ck.drawn (by kernel_rfl) ?_ | refine Ck.mk rfl ?_)))); (try (conv => whnf)))


    exact ⟨.inl rfl, ⟨_, rfl, rfl⟩, trivial⟩
  rw [if_neg fun h => s2 h.2] at hR
  generalize b.getD (b.length - 1) e0 = xl at hldl s2
  generalize tgt e.kind = kd at hT hR
  by_cases ht : kd = 0
  case pos =>
    rw [if_pos ht] at hR
    subst hR
    ((repeat ((conv => whnf); (first | (refine As.pre ?_; first | refine As.mk rfl ?_ | (refine As.mk ?_ ?_; · ((repeat' (refine andT ?_ ?_)) <;> (first | rfl | assumption | exact decide_eq_true (by omega) | exact decide_eq_true (by dsimp only; omega) | exact decide_eq_true (by simp; omega) | (simp; done))))) | (refine LetV.pre ?_; first | refine LetV.mk (t := 33) _ hldl ?_ | refine LetV.mk (.sc (.int _ _)) rfl ?_) | (refine LetI.pre ?_; first | refine LetI.mk (o := some .sub) ((b.length - 1 : Nat) : Int) hsub ?_ | refine LetI.mk _ rfl ?_) | (refine LetB.pre ?_; first | refine LetB.dect (by omega) ?_ | refine LetB.decf (by omega) ?_) | (refine Gd.pre ?_; first | refine Gd.run rfl ?_) | (refine Br.pre ?_; first | refine Br.tt rfl ?_ | refine Br.ff rfl ?_) | (refine Ck.pre ?_; first | refine Ck.drawn (by kernel_rfl) ?_ | refine Ck.mk rfl ?_) | (refine CallN.pre ?_; first | refine CallN.pure hT rfl rfl ?_)))); (try (conv => whnf)))



    exact ⟨.inl rfl, ⟨_, rfl, rfl⟩, trivial⟩
  rw [if_neg ht] at hR
  ((repeat ((conv => whnf); (first | (refine As.pre ?_; first | refine As.mk rfl ?_ | (refine As.mk ?_ ?_; · ((repeat' (refine andT ?_ ?_)) <;> (first | rfl | assumption | exact decide_eq_true (by omega) | exact decide_eq_true (by dsimp only; omega) | exact decide_eq_true (by simp; omega) | (simp; done))))) | (refine LetV.pre ?_; first | refine LetV.mk (t := 33) _ hldl ?_ | refine LetV.mk (.sc (.int _ _)) rfl ?_) | (refine LetI.pre ?_; first | refine LetI.mk (o := some .sub) ((b.length - 1 : Nat) : Int) hsub ?_ | refine LetI.mk _ rfl ?_) | (refine LetB.pre ?_; first | refine LetB.dect (by omega) ?_ | refine LetB.decf (by omega) ?_) | (refine Gd.pre ?_; first | refine Gd.run rfl ?_) | (refine Br.pre ?_; first | refine Br.ff rfl ?_) | (refine Ck.pre ?_; first | refine Ck.drawn (by kernel_rfl) ?_ | refine Ck.mk rfl ?_) | (refine CallN.pre ?_; first | refine CallN.pure hT rfl rfl ?_)))); (try (conv => whnf)))



  clear hld0 hldl hsub hC hT
  refine LoopN.weak (s1 := ⟨[(1, .ro fl 15 (b.map en)), (2, .ptr 0 15 0 0), (7, int kd), (8, int (0 : Nat))], [(0, .row 15 ety [en e])], 1⟩) ?sw3 ?_
  case sw3 => exact SW.mk id rfl rfl rfl ⟨.refl _, .refl _, .refl _, .refl _, trivial⟩ (haveV.row rfl rfl trivial)
  refine LoopN.ind T_ok mixed (S := fun k : Nat => ⟨[(1, .ro fl 15 (b.map en)), (2, .ptr 0 15 0 0), (7, int kd), (8, int k)], [(0, .row 15 ety [en e])], 1⟩) (fun k => b.length - k) (fun k => k ≤ b.length ∧ fidx (cRef e kd).p b 0 = fidx (cRef e kd).p (b.drop k) k) (fun _ => rfl) (fun k hk ih => ?_) 0 ⟨Nat.zero_le _, rfl⟩
  obtain ⟨g1, g2⟩ := hk
  by_cases hlk : k < b.length
  case neg =>
    rw [fidx_end hlk] at g2
    rw [g2, if_pos (by omega)] at hR
    subst hR
    clear ih
    ((repeat ((conv => whnf); (first | (refine As.pre ?_; first | refine As.mk rfl ?_) | (refine LetI.pre ?_; first | refine LetI.mk _ rfl ?_) | (refine LetB.pre ?_; first | refine LetB.decf (by omega) ?_) | (refine Br.pre ?_; first | refine Br.ff rfl ?_) | (refine Ck.pre ?_; first | refine Ck.mk rfl ?_)))); (try (conv => whnf)))
    exact ⟨.inl rfl, ⟨_, rfl, rfl⟩, trivial⟩
  have hld : en (b.getD k e0) = (b.map en).getD k (.sc undef) := mapD e0 hlk
  rw [fidx_drop hlk e0] at g2
  by_cases hp : (b.getD k e0).id = e.ref ∧ (b.getD k e0).kind = kd ∧ (b.getD k e0).student = e.student
  case pos =>
    rw [if_pos (decide_eq_true hp)] at g2
    rw [g2, if_neg (by omega), Int.toNat_natCast] at hR
    generalize b.getD k e0 = x at hld hp hR
    obtain ⟨p1, p2, p3⟩ := hp
    clear ih
    by_cases ho : e.on_ < x.on_
    · rw [if_pos ho] at hR
      subst hR
      ((repeat ((conv => whnf); (first | (refine LetN.pre ?_; first | ((conv => arg 1; whnf); refine LetN.mk ?_)) | (refine As.pre ?_; first | refine As.mk rfl ?_ | (refine As.mk ?_ ?_; · ((repeat' (refine andT ?_ ?_)) <;> (first | rfl | assumption | exact decide_eq_true (by omega) | exact decide_eq_true (by dsimp only; omega) | exact decide_eq_true (by simp; omega) | (simp; done))))) | (refine LetV.pre ?_; first | refine LetV.mk (t := 33) _ hld ?_ | refine LetV.mk (.sc (.int _ _)) rfl ?_ | refine LetV.mk (.agg _) rfl ?_) | (refine LetI.pre ?_; first | refine LetI.mk _ rfl ?_) | (refine LetB.pre ?_; first | refine LetB.dect (by omega) ?_) | (refine Gd.pre ?_; first | refine Gd.run rfl ?_) | (refine Br.pre ?_; first | refine Br.tt rfl ?_) | (refine Ck.pre ?_; first | refine Ck.mk rfl ?_) | (refine LetL.pre ?_; first | refine LetL.mk [_] rfl ?_)))); (try (conv => whnf)))
      exact ⟨.inl rfl, ⟨_, rfl, rfl⟩, trivial⟩
    · rw [if_neg ho] at hR
      subst hR
      ((repeat ((conv => whnf); (first | (refine LetN.pre ?_; first | ((conv => arg 1; whnf); refine LetN.mk ?_)) | (refine As.pre ?_; first | refine As.mk rfl ?_ | (refine As.mk ?_ ?_; · ((repeat' (refine andT ?_ ?_)) <;> (first | rfl | assumption | exact decide_eq_true (by omega) | exact decide_eq_true (by dsimp only; omega) | exact decide_eq_true (by simp; omega) | (simp; done))))) | (refine LetV.pre ?_; first | refine LetV.mk (t := 33) _ hld ?_ | refine LetV.mk (.sc (.int _ _)) rfl ?_ | refine LetV.mk (.agg _) rfl ?_) | (refine LetI.pre ?_; first | refine LetI.mk _ rfl ?_) | (refine LetB.pre ?_; first | refine LetB.dect (by omega) ?_ | refine LetB.decf (by omega) ?_) | (refine Gd.pre ?_; first | refine Gd.run rfl ?_) | (refine Br.pre ?_; first | refine Br.tt rfl ?_ | refine Br.ff rfl ?_) | (refine Ck.pre ?_; first | refine Ck.mk rfl ?_) | (refine LetL.pre ?_; first | refine LetL.mk [_] rfl ?_)))); (try (conv => whnf)))
      exact ⟨.inl rfl, ⟨_, rfl, rfl⟩, trivial⟩
  case neg =>
    rw [if_neg (by simpa using hp)] at g2
    have next := ih (k + 1) ⟨by omega, g2⟩ (by omega)
    clear ih hR
    generalize b.getD k e0 = x at hld hp
    by_cases p1 : x.id = e.ref
    case neg =>
      ((repeat ((conv => whnf); (first | (refine LetN.pre ?_; first | ((conv => arg 1; whnf); refine LetN.mk ?_)) | (refine As.pre ?_; first | refine As.mk rfl ?_ | (refine As.mk ?_ ?_; · ((repeat' (refine andT ?_ ?_)) <;> (first | rfl | assumption | exact decide_eq_true (by omega) | exact decide_eq_true (by dsimp only; omega) | exact decide_eq_true (by simp; omega) | (simp; done))))) | (refine LetV.pre ?_; first | refine LetV.mk (t := 33) _ hld ?_ | refine LetV.mk (.sc (.int _ _)) rfl ?_ | refine LetV.mk (.agg _) rfl ?_) | (refine LetI.pre ?_; first | refine LetI.wrap (by omega) (by omega) ?_ | refine LetI.mk _ rfl ?_) | (refine LetB.pre ?_; first | refine LetB.dect (by omega) ?_ | refine LetB.decf (by omega) ?_) | (refine Gd.pre ?_; first | refine Gd.pass rfl ?_) | (refine Br.pre ?_; first | refine Br.tt rfl ?_ | refine Br.ff rfl ?_) | (refine Ck.pre ?_; first | refine Ck.mk rfl ?_) | (refine LetL.pre ?_; first | refine LetL.mk [_] rfl ?_)))); (try (conv => whnf)))
      refine LoopN.weak ?sw4 next
      case sw4 => exact SW.mk id rfl rfl rfl ⟨.refl _, .refl _, .refl _, VLe2.int (by omega), trivial⟩ (haveV.row rfl rfl trivial)
    by_cases p2 : x.kind = kd
    case neg =>
      ((repeat ((conv => whnf); (first | (refine LetN.pre ?_; first | ((conv => arg 1; whnf); refine LetN.mk ?_)) | (refine As.pre ?_; first | refine As.mk rfl ?_ | (refine As.mk ?_ ?_; · ((repeat' (refine andT ?_ ?_)) <;> (first | rfl | assumption | exact decide_eq_true (by omega) | exact decide_eq_true (by dsimp only; omega) | exact decide_eq_true (by simp; omega) | (simp; done))))) | (refine LetV.pre ?_; first | refine LetV.mk (t := 33) _ hld ?_ | refine LetV.mk (.sc (.int _ _)) rfl ?_ | refine LetV.mk (.agg _) rfl ?_) | (refine LetI.pre ?_; first | refine LetI.wrap (by omega) (by omega) ?_ | refine LetI.mk _ rfl ?_) | (refine LetB.pre ?_; first | refine LetB.dect (by omega) ?_ | refine LetB.decf (by omega) ?_) | (refine Gd.pre ?_; first | refine Gd.run rfl ?_ | refine Gd.pass rfl ?_) | (refine Br.pre ?_; first | refine Br.tt rfl ?_ | refine Br.ff rfl ?_) | (refine Ck.pre ?_; first | refine Ck.mk rfl ?_) | (refine LetL.pre ?_; first | refine LetL.mk [_] rfl ?_)))); (try (conv => whnf)))
      refine LoopN.weak ?sw5 next
      case sw5 => exact SW.mk id rfl rfl rfl ⟨.refl _, .refl _, .refl _, VLe2.int (by omega), trivial⟩ (haveV.row rfl rfl trivial)
    have p3 : x.student ≠ e.student := fun h => hp ⟨p1, p2, h⟩
    ((repeat ((conv => whnf); (first | (refine LetN.pre ?_; first | ((conv => arg 1; whnf); refine LetN.mk ?_)) | (refine As.pre ?_; first | refine As.mk rfl ?_ | (refine As.mk ?_ ?_; · ((repeat' (refine andT ?_ ?_)) <;> (first | rfl | assumption | exact decide_eq_true (by omega) | exact decide_eq_true (by dsimp only; omega) | exact decide_eq_true (by simp; omega) | (simp; done))))) | (refine LetV.pre ?_; first | refine LetV.mk (t := 33) _ hld ?_ | refine LetV.mk (.sc (.int _ _)) rfl ?_ | refine LetV.mk (.agg _) rfl ?_) | (refine LetI.pre ?_; first | refine LetI.wrap (by omega) (by omega) ?_ | refine LetI.mk _ rfl ?_) | (refine LetB.pre ?_; first | refine LetB.dect (by omega) ?_ | refine LetB.decf (by omega) ?_) | (refine Gd.pre ?_; first | refine Gd.run rfl ?_) | (refine Br.pre ?_; first | refine Br.tt rfl ?_ | refine Br.ff rfl ?_) | (refine Ck.pre ?_; first | refine Ck.mk rfl ?_) | (refine LetL.pre ?_; first | refine LetL.mk [_] rfl ?_)))); (try (conv => whnf)))
    refine LoopN.weak ?sw6 next
    case sw6 => exact SW.mk id rfl rfl rfl ⟨.refl _, .refl _, .refl _, VLe2.int (by omega), trivial⟩ (haveV.row rfl rfl trivial)
/-- What Check says of entries. -/
noncomputable def chkL : List E → List E → Int
  | _, [] => 0
  | b, e :: r => if oneE b e = 0 then chkL (b ++ [e]) r else oneE b e
noncomputable def chkE (l : List E) : Int := if 2000 < l.length then 2 else chkL [] l
theorem chkL_step {l : List E} {k : Nat} (h : k < l.length) : chkL (l.take k) (l.drop k) = if oneE (l.take k) (l.getD k e0) = 0 then chkL (l.take (k + 1)) (l.drop (k + 1)) else oneE (l.take k) (l.getD k e0) := by
  rw [List.drop_eq_getElem_cons h, chkL, List.take_succ_eq_append_getElem h, List.getD_eq_getElem?_getD, List.getElem?_eq_getElem h]; rfl
theorem take_en2 (l : List E) (k : Nat) : ((l.map en).drop (0 : Int).toNat).take ((k : Int).toNat - (0 : Int).toNat) = (l.take k).map en := by
  simp [List.map_take]
theorem Check_l (l : List E) (fl : Fl) : AFun Tryz.prog 38 0 [.ro fl 15 (l.map en)] [] (int (chkE l)) [] := by
  refine AFun.of_W T_ok mixed Tryz.func38 rfl (Nat.le_of_ble_eq_true rfl) rfl ?_
  have hm : (l.map en).length = l.length := List.length_map _
  unfold chkE
  by_cases hlen : 2000 < l.length
  · rw [if_pos hlen]
    ((repeat ((conv => whnf); (first | (refine As.pre ?_; first | refine As.mk rfl ?_) | (refine LetI.pre ?_; first | refine LetI.mk _ rfl ?_) | (refine LetB.pre ?_; first | refine LetB.dect (by omega) ?_) | (refine Br.pre ?_; first | refine Br.tt rfl ?_) | (refine Ck.pre ?_; first | refine Ck.mk rfl ?_)))); (try (conv => whnf)))
    exact ⟨.inl rfl, ⟨_, rfl, rfl⟩, trivial⟩
  rw [if_neg hlen]
  generalize hX : chkL [] l = X
  ((repeat ((conv => whnf); (first | (refine As.pre ?_; first | refine As.mk rfl ?_) | (refine LetI.pre ?_; first | refine LetI.mk _ rfl ?_) | (refine LetB.pre ?_; first | refine LetB.decf (by omega) ?_) | (refine Br.pre ?_; first | refine Br.ff rfl ?_) | (refine Ck.pre ?_; first | refine Ck.mk rfl ?_)))); (try (conv => whnf)))
  refine LoopN.weak (s1 := ⟨[(0, .ro fl 15 (l.map en)), (9, .ro fl 15 (l.map en)), (10, int l.length), (11, int (0 : Nat))], [], 0⟩) (SW.fr0 (Nat.le_refl _) rfl ⟨.refl _, .refl _, VLe2.int (by rw [hm]), .refl _, trivial⟩) ?_
  refine LoopN.ind T_ok mixed (S := fun k : Nat => ⟨[(0, .ro fl 15 (l.map en)), (9, .ro fl 15 (l.map en)), (10, int l.length), (11, int k)], [], 0⟩) (fun k => l.length - k) (fun k => k ≤ l.length ∧ X = chkL (l.take k) (l.drop k)) (fun _ => rfl) (fun k hk ih => ?_) 0 ⟨Nat.zero_le _, hX.symm⟩
  obtain ⟨h1, h2⟩ := hk
  by_cases hlt : k < l.length
  case neg =>
    rw [List.drop_eq_nil_of_le (by omega)] at h2
    rw [h2]
    clear ih
    ((repeat ((conv => whnf); (first | (refine As.pre ?_; first | refine As.mk rfl ?_) | (refine LetB.pre ?_; first | refine LetB.decf (by omega) ?_) | (refine Br.pre ?_; first | refine Br.ff rfl ?_) | (refine Ck.pre ?_; first | refine Ck.mk rfl ?_)))); (try (conv => whnf)))
    exact ⟨.inl rfl, ⟨_, rfl, rfl⟩, trivial⟩
  have hld : en (l.getD k e0) = (l.map en).getD k (.sc undef) := mapD e0 hlt
  rw [chkL_step hlt] at h2
  have hck := fun fl' => check_f (l.take k) (l.getD k e0) fl' (by simp; omega)
  have next : X = chkL (l.take (k + 1)) (l.drop (k + 1)) → LoopN Tryz.prog 0 Tryz.f38.ntmps _ ⟨[(0, .ro fl 15 (l.map en)), (9, .ro fl 15 (l.map en)), (10, int l.length), (11, int (k + 1 : Nat))], [], 0⟩ _ := fun h => ih (k + 1) ⟨by omega, h⟩ (by omega)
  clear ih
  have htk : (l.take k).map en = ((l.map en).drop (0 : Int).toNat).take ((k : Int).toNat - (0 : Int).toNat) := (take_en2 l k).symm
  generalize oneE (l.take k) (l.getD k e0) = z at hck h2
  generalize l.getD k e0 = e at hld hck
  by_cases hz : z = 0
  · rw [if_pos hz] at h2
    ((repeat ((conv => whnf); (first | (refine LetN.pre ?_; first | ((conv => arg 1; whnf); refine LetN.mk ?_)) | (refine As.pre ?_; first | refine As.mk rfl ?_ | (refine As.mk ?_ ?_; · ((repeat' (refine andT ?_ ?_)) <;> (first | rfl | assumption | exact decide_eq_true (by omega) | exact decide_eq_true (by dsimp only; omega) | exact decide_eq_true (by simp; omega) | (simp; done))))) | (refine LetV.pre ?_; first | refine LetV.mk (t := 33) _ hld ?_ | refine LetV.mk (t := 33) (.ro _ 15 ((l.take k).map en)) (congrArg (AV.ro _ 15) htk) ?_ | refine LetV.mk (.agg _) rfl ?_) | (refine LetI.pre ?_; first | refine LetI.wrap (by omega) (by omega) ?_) | (refine LetB.pre ?_; first | refine LetB.dect (by omega) ?_ | refine LetB.bnef (by omega) ?_) | (refine Br.pre ?_; first | refine Br.tt rfl ?_ | refine Br.ff rfl ?_) | (refine Ck.pre ?_; first | refine Ck.drawn (by kernel_rfl) ?_ | refine Ck.mk rfl ?_) | (refine LetL.pre ?_; first | refine LetL.mk [_] rfl ?_) | (refine CallN.pre ?_; first | refine CallN.pure (hck _) rfl rfl ?_)))); (try (conv => whnf)))



    refine LoopN.weak ?_ (next h2)
    exact SW.mk id rfl rfl rfl ⟨.refl _, .refl _, .refl _, VLe2.int (by omega), trivial⟩ trivial
  · rw [if_neg hz] at h2
    rw [h2]
    ((repeat ((conv => whnf); (first | (refine LetN.pre ?_; first | ((conv => arg 1; whnf); refine LetN.mk ?_)) | (refine As.pre ?_; first | refine As.mk rfl ?_ | (refine As.mk ?_ ?_; · ((repeat' (refine andT ?_ ?_)) <;> (first | rfl | assumption | exact decide_eq_true (by omega) | exact decide_eq_true (by dsimp only; omega) | exact decide_eq_true (by simp; omega) | (simp; done))))) | (refine LetV.pre ?_; first | refine LetV.mk (t := 33) _ hld ?_ | refine LetV.mk (t := 33) (.ro _ 15 ((l.take k).map en)) (congrArg (AV.ro _ 15) htk) ?_ | refine LetV.mk (.agg _) rfl ?_) | (refine LetB.pre ?_; first | refine LetB.dect (by omega) ?_ | refine LetB.bnet (by omega) ?_) | (refine Br.pre ?_; first | refine Br.tt rfl ?_) | (refine Ck.pre ?_; first | refine Ck.drawn (by kernel_rfl) ?_ | refine Ck.mk rfl ?_) | (refine LetL.pre ?_; first | refine LetL.mk [_] rfl ?_) | (refine CallN.pre ?_; first | refine CallN.pure (hck _) rfl rfl ?_)))); (try (conv => whnf)))



    exact ⟨.inl rfl, ⟨_, rfl, rfl⟩, trivial⟩
theorem rCheck_l (l : List E) (fl : Fl) (hs : ∀ e ∈ l, e.course.size ≤ 9223372036854775806) : AFun Tryz.prog 42 0 [.ro fl 15 (l.map en)] [] (int (chkE l)) [] := by
  refine AFun.of_W T_ok mixed Tryz.func42 rfl (Nat.le_of_ble_eq_true rfl) rfl ?_
  have hm : (l.map en).length = l.length := List.length_map _
  unfold chkE
  by_cases hlen : 2000 < l.length
  · rw [if_pos hlen]
    ((repeat ((conv => whnf); (first | (refine As.pre ?_; first | refine As.mk rfl ?_) | (refine LetI.pre ?_; first | refine LetI.mk _ rfl ?_) | (refine LetB.pre ?_; first | refine LetB.dect (by omega) ?_) | (refine Br.pre ?_; first | refine Br.tt rfl ?_) | (refine Ck.pre ?_; first | refine Ck.mk rfl ?_)))); (try (conv => whnf)))
    exact ⟨.inl rfl, ⟨_, rfl, rfl⟩, trivial⟩
  rw [if_neg hlen]
  generalize hX : chkL [] l = X
  ((repeat ((conv => whnf); (first | (refine As.pre ?_; first | refine As.mk rfl ?_) | (refine LetI.pre ?_; first | refine LetI.mk _ rfl ?_) | (refine LetB.pre ?_; first | refine LetB.decf (by omega) ?_) | (refine Br.pre ?_; first | refine Br.ff rfl ?_) | (refine Ck.pre ?_; first | refine Ck.mk rfl ?_)))); (try (conv => whnf)))
  refine LoopN.weak (s1 := ⟨[(0, .ro fl 15 (l.map en)), (3, int (0 : Nat))], [], 0⟩) (SW.fr0 (Nat.le_refl _) rfl ⟨.refl _, .refl _, trivial⟩) ?_
  refine LoopN.ind T_ok mixed (S := fun k : Nat => ⟨[(0, .ro fl 15 (l.map en)), (3, int k)], [], 0⟩) (fun k => l.length - k) (fun k => k ≤ l.length ∧ X = chkL (l.take k) (l.drop k)) (fun _ => rfl) (fun k hk ih => ?_) 0 ⟨Nat.zero_le _, hX.symm⟩
  obtain ⟨h1, h2⟩ := hk
  by_cases hlt : k < l.length
  case neg =>
    rw [List.drop_eq_nil_of_le (by omega)] at h2
    rw [h2]
    clear ih
    ((repeat ((conv => whnf); (first | (refine As.pre ?_; first | refine As.mk rfl ?_) | (refine LetI.pre ?_; first | refine LetI.mk _ rfl ?_) | (refine LetB.pre ?_; first | refine LetB.decf (by omega) ?_) | (refine Br.pre ?_; first | refine Br.ff rfl ?_) | (refine Ck.pre ?_; first | refine Ck.mk rfl ?_)))); (try (conv => whnf)))
    exact ⟨.inl rfl, ⟨_, rfl, rfl⟩, trivial⟩
  have hld : en (l.getD k e0) = (l.map en).getD k (.sc undef) := mapD e0 hlt
  rw [chkL_step hlt] at h2
  have hin : l.getD k e0 ∈ l := by
    rw [List.getD_eq_getElem?_getD, List.getElem?_eq_getElem hlt]
    exact List.getElem_mem _
  have hck := fun fl' => one_f (l.take k) (l.getD k e0) fl' (by simp; omega) (hs _ hin)
  have next : X = chkL (l.take (k + 1)) (l.drop (k + 1)) → LoopN Tryz.prog 0 Tryz.f42.ntmps _ ⟨[(0, .ro fl 15 (l.map en)), (3, int (k + 1 : Nat))], [], 0⟩ _ := fun h => ih (k + 1) ⟨by omega, h⟩ (by omega)
  clear ih hin
  have htk : (l.take k).map en = ((l.map en).drop (0 : Int).toNat).take ((k : Int).toNat - (0 : Int).toNat) := (take_en2 l k).symm
  generalize oneE (l.take k) (l.getD k e0) = z at hck h2
  generalize l.getD k e0 = e at hld hck
  by_cases hz : z = 0
  · rw [if_pos hz] at h2
    ((repeat ((conv => whnf); (first | (refine As.pre ?_; first | refine As.mk rfl ?_ | (refine As.mk ?_ ?_; · ((repeat' (refine andT ?_ ?_)) <;> (first | rfl | assumption | exact decide_eq_true (by omega) | exact decide_eq_true (by dsimp only; omega) | exact decide_eq_true (by simp; omega) | (simp; done))))) | (refine LetV.pre ?_; first | refine LetV.mk (t := 33) _ hld ?_ | refine LetV.mk (t := 33) (.ro _ 15 ((l.take k).map en)) (congrArg (AV.ro _ 15) htk) ?_ | refine LetV.mk (.agg _) rfl ?_) | (refine LetI.pre ?_; first | refine LetI.wrap (by omega) (by omega) ?_ | refine LetI.mk _ rfl ?_) | (refine LetB.pre ?_; first | refine LetB.dect (by omega) ?_ | refine LetB.bnef (by omega) ?_) | (refine Br.pre ?_; first | refine Br.tt rfl ?_ | refine Br.ff rfl ?_) | (refine Ck.pre ?_; first | refine Ck.drawn (by kernel_rfl) ?_ | refine Ck.mk rfl ?_) | (refine CallN.pre ?_; first | refine CallN.pure (hck _) rfl rfl ?_)))); (try (conv => whnf)))



    refine LoopN.weak ?_ (next h2)
    exact SW.mk id rfl rfl rfl ⟨.refl _, VLe2.int (by omega), trivial⟩ trivial
  · rw [if_neg hz] at h2
    rw [h2]
    ((repeat ((conv => whnf); (first | (refine As.pre ?_; first | refine As.mk rfl ?_ | (refine As.mk ?_ ?_; · ((repeat' (refine andT ?_ ?_)) <;> (first | rfl | assumption | exact decide_eq_true (by omega) | exact decide_eq_true (by dsimp only; omega) | exact decide_eq_true (by simp; omega) | (simp; done))))) | (refine LetV.pre ?_; first | refine LetV.mk (t := 33) _ hld ?_ | refine LetV.mk (t := 33) (.ro _ 15 ((l.take k).map en)) (congrArg (AV.ro _ 15) htk) ?_ | refine LetV.mk (.agg _) rfl ?_) | (refine LetI.pre ?_; first | refine LetI.mk _ rfl ?_) | (refine LetB.pre ?_; first | refine LetB.dect (by omega) ?_ | refine LetB.bnet (by omega) ?_) | (refine Br.pre ?_; first | refine Br.tt rfl ?_) | (refine Ck.pre ?_; first | refine Ck.drawn (by kernel_rfl) ?_ | refine Ck.mk rfl ?_) | (refine CallN.pre ?_; first | refine CallN.pure (hck _) rfl rfl ?_)))); (try (conv => whnf)))



    exact ⟨.inl rfl, ⟨_, rfl, rfl⟩, trivial⟩
end En
end Go.Proofs.YtgnakhljdjekbaaGreatDoor
namespace Go.Proofs.YtgnakhljdjekbaaGreatDoor
open Go.Proofs.YtgnakhljdjekbaaGreatDoor.Am
set_option maxRecDepth 100000
namespace En
/-! ### Whether an entry may come -/
noncomputable def mayP (l : List E) (e : E) : Int :=
  if chkE l ≠ 0 then chkE l else if chkE (l ++ [e]) ≠ 0 then chkE (l ++ [e]) else
    if (e.kind = 6 ∨ e.kind = 9) ∧ l.any (fun x => decide (x.kind = e.kind ∧ x.ref = e.ref)) = true then 6 else 0
theorem may1_f (x e : E) : AFun Tryz.prog 41 0 [en x, .rp (en e) 0] [] (bool (decide (x.kind = e.kind ∧ x.ref = e.ref))) [] := by
  refine AFun.of_W T_ok mixed Tryz.func41 rfl (Nat.le_of_ble_eq_true rfl) rfl ?_
  by_cases h1 : x.kind = e.kind <;> by_cases h2 : x.ref = e.ref
  · rw [decide_eq_true ⟨h1, h2⟩]
    ((repeat ((conv => whnf); (first | (refine LetN.pre ?_; first | ((conv => arg 1; whnf); refine LetN.mk ?_)) | (refine As.pre ?_; first | refine As.mk rfl ?_) | (refine LetV.pre ?_; first | refine LetV.mk (.sc (.int _ _)) rfl ?_) | (refine LetB.pre ?_; first | refine LetB.dect (by omega) ?_) | (refine Gd.pre ?_; first | refine Gd.run rfl ?_) | (refine Ck.pre ?_; first | refine Ck.mk rfl ?_)))); (try (conv => whnf)))
    exact ⟨.inl rfl, ⟨_, rfl, rfl⟩, trivial⟩
  · rw [decide_eq_false (fun h => h2 h.2)]
    ((repeat ((conv => whnf); (first | (refine LetN.pre ?_; first | ((conv => arg 1; whnf); refine LetN.mk ?_)) | (refine As.pre ?_; first | refine As.mk rfl ?_) | (refine LetV.pre ?_; first | refine LetV.mk (.sc (.int _ _)) rfl ?_) | (refine LetB.pre ?_; first | refine LetB.dect (by omega) ?_ | refine LetB.decf (by omega) ?_) | (refine Gd.pre ?_; first | refine Gd.run rfl ?_) | (refine Ck.pre ?_; first | refine Ck.mk rfl ?_)))); (try (conv => whnf)))
    exact ⟨.inl rfl, ⟨_, rfl, rfl⟩, trivial⟩
  · rw [decide_eq_false (fun h => h1 h.1)]
    ((repeat ((conv => whnf); (first | (refine LetN.pre ?_; first | ((conv => arg 1; whnf); refine LetN.mk ?_)) | (refine As.pre ?_; first | refine As.mk rfl ?_) | (refine LetV.pre ?_; first | refine LetV.mk (.sc (.int _ _)) rfl ?_) | (refine LetB.pre ?_; first | refine LetB.decf (by omega) ?_) | (refine Gd.pre ?_; first | refine Gd.pass rfl ?_) | (refine Ck.pre ?_; first | refine Ck.mk rfl ?_)))); (try (conv => whnf)))
    exact ⟨.inl rfl, ⟨_, rfl, rfl⟩, trivial⟩
  · rw [decide_eq_false (fun h => h1 h.1)]
    ((repeat ((conv => whnf); (first | (refine LetN.pre ?_; first | ((conv => arg 1; whnf); refine LetN.mk ?_)) | (refine As.pre ?_; first | refine As.mk rfl ?_) | (refine LetV.pre ?_; first | refine LetV.mk (.sc (.int _ _)) rfl ?_) | (refine LetB.pre ?_; first | refine LetB.decf (by omega) ?_) | (refine Gd.pre ?_; first | refine Gd.pass rfl ?_) | (refine Ck.pre ?_; first | refine Ck.mk rfl ?_)))); (try (conv => whnf)))
    exact ⟨.inl rfl, ⟨_, rfl, rfl⟩, trivial⟩
abbrev cMay (e : E) : Cd := ⟨41, [.rp (en e) 0], fun x => decide (x.kind = e.kind ∧ x.ref = e.ref)⟩
theorem cMay_ok (e : E) : (cMay e).Ok := ⟨fun x => may1_f x e, by kernel_rfl, rfl⟩
theorem ClipE_f (l : List E) (fl : Fl) (hl : l.length ≤ 100000) : AFun Tryz.prog 39 0 [.ro fl 15 (l.map en)] [] (.ro ⟨true, fl.nn⟩ 15 (l.map en)) [] := by
  have hm : (l.map en).length = l.length := List.length_map _
  refine AFun.of_S T_ok mixed Tryz.func39 rfl (Nat.le_of_ble_eq_true rfl) rfl ?_
  have ht : l.map en = ((l.map en).drop 0).take ((l.map en).length - 0) := by rw [List.drop_zero, Nat.sub_zero, List.take_length]
  ((repeat ((conv => whnf); (first | (refine As.pre ?_; first | refine As.mk rfl ?_ | (refine As.mk ?_ ?_; · ((repeat' (refine andT ?_ ?_)) <;> (first | rfl | assumption | exact decide_eq_true (by omega) | exact decide_eq_true (by dsimp only; omega) | exact decide_eq_true (by simp; omega) | (simp; done))))) | (refine LetV.pre ?_; first | refine LetV.mk (.ro _ _ _) rfl ?_) | (refine LetI.pre ?_; first | refine LetI.mk _ rfl ?_) | (refine Ck.pre ?_; first | refine Ck.mk rfl ?_)))); (try (conv => whnf)))
  exact ⟨⟨[(2, .ro ⟨true, fl.nn⟩ 15 (l.map en))], [], 0⟩, SW.mk id rfl rfl rfl ⟨.of_eq (congrArg (AV.ro ⟨true, fl.nn⟩ 15) ht), trivial⟩ trivial, .inl rfl, ⟨_, rfl, rfl⟩, trivial⟩
theorem app_en2 (l : List E) (e : E) : (l ++ [e]).map en = l.map en ++ [en e] := by rw [List.map_append]; rfl
set_option maxHeartbeats 1600000 in
set_option maxRecDepth 100000 in
theorem May_f (l : List E) (e : E) (fl : Fl) (hl : l.length ≤ 1000) : AFun Tryz.prog 22 0 [.ro fl 15 (l.map en), en e] [] (int (mayP l e)) [] := by
  refine AFun.of_W T_ok mixed Tryz.func22 rfl (Nat.le_of_ble_eq_true rfl) rfl ?_
  have hm : (l.map en).length = l.length := List.length_map _
  have hC := Check_l l fl
  have hP := ClipE_f l fl (by omega)
  have hD := fun fl' => Check_l (l ++ [e]) fl'
  have hE := ContainsE_f (cMay_ok e) l fl (by omega)
  have hs := stor_en l
  have r1 := room_en (n := l.length + 1) (by omega)
  have a1 := app_en2 l e
  have n1 := pure_en (l ++ [e])
  have m1 : (l.map en).length + 1 = ((l ++ [e]).map en).length := by simp
  unfold mayP
  generalize chkE l = c at hC ⊢
  by_cases hc : c = 0
  case neg =>
    rw [if_pos hc]
    ((repeat ((conv => whnf); (first | (refine LetN.pre ?_; first | ((conv => arg 1; whnf); refine LetN.mk ?_)) | (refine As.pre ?_; first | refine As.mk rfl ?_) | (refine LetB.pre ?_; first | refine LetB.bnet (by omega) ?_) | (refine Br.pre ?_; first | refine Br.tt rfl ?_) | (refine Ck.pre ?_; first | refine Ck.mk rfl ?_) | (refine CallN.pre ?_; first | refine CallN.pure hC rfl rfl ?_)))); (try (conv => whnf)))
    exact ⟨.inl rfl, ⟨_, rfl, rfl⟩, trivial⟩
  subst hc
  rw [if_neg (fun h => h rfl)]
  generalize chkE (l ++ [e]) = d at hD ⊢
  by_cases hd : d = 0
  case neg =>
    rw [if_pos hd]
    ((repeat ((conv => whnf); (first | (refine LetN.pre ?_; first | ((conv => arg 1; whnf); refine LetN.mk ?_)) | (refine As.pre ?_; first | refine As.mk rfl ?_ | (refine As.mk ?_ ?_; · ((repeat' (refine andT ?_ ?_)) <;> (first | rfl | assumption | exact decide_eq_true (by omega) | exact decide_eq_true (by dsimp only; omega) | exact decide_eq_true (by simp; omega) | (simp; done))))) | (refine LetV.pre ?_; first | refine LetV.mk (.agg _) rfl ?_) | (refine LetB.pre ?_; first | refine LetB.ff rfl ?_ | refine LetB.bnet (by omega) ?_) | (refine Br.pre ?_; first | refine Br.tt rfl ?_ | refine Br.ff rfl ?_) | (refine Ck.pre ?_; first | refine Ck.drawn (by kernel_rfl) ?_ | refine Ck.mk rfl ?_) | (refine LetL.pre ?_; first | refine LetL.mk (ty := 25) _ a1 ?_) | (refine CallN.pre ?_; first | refine CallN.pure hC rfl rfl ?_ | refine CallN.pure hP rfl rfl ?_ | refine CallN.lend (hD _) rfl (.full rfl n1 m1 .nil) ?_)))); (try (conv => whnf)))





    exact ⟨.inl rfl, ⟨_, rfl, rfl⟩, trivial⟩
  subst hd
  rw [if_neg (fun h => h rfl)]
  have hp : (cMay e).p = fun x => decide (x.kind = e.kind ∧ x.ref = e.ref) := rfl
  rw [hp] at hE
  generalize l.any (fun x => decide (x.kind = e.kind ∧ x.ref = e.ref)) = b at hE ⊢
  by_cases h6 : e.kind = 6
  · cases b with
    | true =>
      rw [if_pos ⟨.inl h6, rfl⟩]
      ((repeat ((conv => whnf); (first | (refine LetN.pre ?_; first | ((conv => arg 1; whnf); refine LetN.mk ?_)) | (refine As.pre ?_; first | refine As.mk rfl ?_ | (refine As.mk ?_ ?_; · ((repeat' (refine andT ?_ ?_)) <;> (first | rfl | assumption | exact decide_eq_true (by omega) | exact decide_eq_true (by dsimp only; omega) | exact decide_eq_true (by simp; omega) | (simp; done))))) | (refine LetV.pre ?_; first | refine LetV.mk (.sc (.int _ _)) rfl ?_ | refine LetV.mk (.agg _) rfl ?_) | (refine LetB.pre ?_; first | refine LetB.ff rfl ?_ | refine LetB.dect (by omega) ?_) | (refine Gd.pre ?_; first | refine Gd.run rfl ?_ | refine Gd.pass rfl ?_) | (refine Br.pre ?_; first | refine Br.tt rfl ?_ | refine Br.ff rfl ?_) | (refine Ck.pre ?_; first | refine Ck.drawn (by kernel_rfl) ?_ | refine Ck.mk rfl ?_) | (refine LetL.pre ?_; first | refine LetL.mk (ty := 25) _ a1 ?_) | (refine CallN.pre ?_; first | refine CallN.pure hC rfl rfl ?_ | refine CallN.pure hP rfl rfl ?_ | refine CallN.lend (hD _) rfl (.full rfl n1 m1 .nil) ?_ | refine CallN.lend hE rfl (.same rfl (.clo (.ptr rfl rfl rfl .nil) .nil)) ?_)))); (try (conv => whnf)))





      exact ⟨.inl rfl, ⟨_, rfl, rfl⟩, trivial⟩
    | false =>
      rw [if_neg (fun h => by cases h.2)]
      ((repeat ((conv => whnf); (first | (refine LetN.pre ?_; first | ((conv => arg 1; whnf); refine LetN.mk ?_)) | (refine As.pre ?_; first | refine As.mk rfl ?_ | (refine As.mk ?_ ?_; · ((repeat' (refine andT ?_ ?_)) <;> (first | rfl | assumption | exact decide_eq_true (by omega) | exact decide_eq_true (by dsimp only; omega) | exact decide_eq_true (by simp; omega) | (simp; done))))) | (refine LetV.pre ?_; first | refine LetV.mk (.sc (.int _ _)) rfl ?_ | refine LetV.mk (.agg _) rfl ?_) | (refine LetB.pre ?_; first | refine LetB.ff rfl ?_ | refine LetB.dect (by omega) ?_) | (refine Gd.pre ?_; first | refine Gd.run rfl ?_ | refine Gd.pass rfl ?_) | (refine Br.pre ?_; first | refine Br.ff rfl ?_) | (refine Ck.pre ?_; first | refine Ck.drawn (by kernel_rfl) ?_ | refine Ck.mk rfl ?_) | (refine LetL.pre ?_; first | refine LetL.mk (ty := 25) _ a1 ?_) | (refine CallN.pre ?_; first | refine CallN.pure hC rfl rfl ?_ | refine CallN.pure hP rfl rfl ?_ | refine CallN.lend (hD _) rfl (.full rfl n1 m1 .nil) ?_ | refine CallN.lend hE rfl (.same rfl (.clo (.ptr rfl rfl rfl .nil) .nil)) ?_)))); (try (conv => whnf)))





      exact ⟨.inl rfl, ⟨_, rfl, rfl⟩, trivial⟩
  by_cases h9 : e.kind = 9
  · cases b with
    | true =>
      rw [if_pos ⟨.inr h9, rfl⟩]
      ((repeat ((conv => whnf); (first | (refine LetN.pre ?_; first | ((conv => arg 1; whnf); refine LetN.mk ?_)) | (refine As.pre ?_; first | refine As.mk rfl ?_ | (refine As.mk ?_ ?_; · ((repeat' (refine andT ?_ ?_)) <;> (first | rfl | assumption | exact decide_eq_true (by omega) | exact decide_eq_true (by dsimp only; omega) | exact decide_eq_true (by simp; omega) | (simp; done))))) | (refine LetV.pre ?_; first | refine LetV.mk (.sc (.int _ _)) rfl ?_ | refine LetV.mk (.agg _) rfl ?_) | (refine LetB.pre ?_; first | refine LetB.ff rfl ?_ | refine LetB.dect (by omega) ?_ | refine LetB.decf (by omega) ?_) | (refine Gd.pre ?_; first | refine Gd.run rfl ?_) | (refine Br.pre ?_; first | refine Br.tt rfl ?_ | refine Br.ff rfl ?_) | (refine Ck.pre ?_; first | refine Ck.drawn (by kernel_rfl) ?_ | refine Ck.mk rfl ?_) | (refine LetL.pre ?_; first | refine LetL.mk (ty := 25) _ a1 ?_) | (refine CallN.pre ?_; first | refine CallN.pure hC rfl rfl ?_ | refine CallN.pure hP rfl rfl ?_ | refine CallN.lend (hD _) rfl (.full rfl n1 m1 .nil) ?_ | refine CallN.lend hE rfl (.same rfl (.clo (.ptr rfl rfl rfl .nil) .nil)) ?_)))); (try (conv => whnf)))





      exact ⟨.inl rfl, ⟨_, rfl, rfl⟩, trivial⟩
    | false =>
      rw [if_neg (fun h => by cases h.2)]
      ((repeat ((conv => whnf); (first | (refine LetN.pre ?_; first | ((conv => arg 1; whnf); refine LetN.mk ?_)) | (refine As.pre ?_; first | refine As.mk rfl ?_ | (refine As.mk ?_ ?_; · ((repeat' (refine andT ?_ ?_)) <;> (first | rfl | assumption | exact decide_eq_true (by omega) | exact decide_eq_true (by dsimp only; omega) | exact decide_eq_true (by simp; omega) | (simp; done))))) | (refine LetV.pre ?_; first | refine LetV.mk (.sc (.int _ _)) rfl ?_ | refine LetV.mk (.agg _) rfl ?_) | (refine LetB.pre ?_; first | refine LetB.ff rfl ?_ | refine LetB.dect (by omega) ?_ | refine LetB.decf (by omega) ?_) | (refine Gd.pre ?_; first | refine Gd.run rfl ?_) | (refine Br.pre ?_; first | refine Br.ff rfl ?_) | (refine Ck.pre ?_; first | refine Ck.drawn (by kernel_rfl) ?_ | refine Ck.mk rfl ?_) | (refine LetL.pre ?_; first | refine LetL.mk (ty := 25) _ a1 ?_) | (refine CallN.pre ?_; first | refine CallN.pure hC rfl rfl ?_ | refine CallN.pure hP rfl rfl ?_ | refine CallN.lend (hD _) rfl (.full rfl n1 m1 .nil) ?_ | refine CallN.lend hE rfl (.same rfl (.clo (.ptr rfl rfl rfl .nil) .nil)) ?_)))); (try (conv => whnf)))





      exact ⟨.inl rfl, ⟨_, rfl, rfl⟩, trivial⟩
  rw [if_neg (fun h => h.1.elim h6 h9)]
  ((repeat ((conv => whnf); (first | (refine LetN.pre ?_; first | ((conv => arg 1; whnf); refine LetN.mk ?_)) | (refine As.pre ?_; first | refine As.mk rfl ?_ | (refine As.mk ?_ ?_; · ((repeat' (refine andT ?_ ?_)) <;> (first | rfl | assumption | exact decide_eq_true (by omega) | exact decide_eq_true (by dsimp only; omega) | exact decide_eq_true (by simp; omega) | (simp; done))))) | (refine LetV.pre ?_; first | refine LetV.mk (.sc (.int _ _)) rfl ?_ | refine LetV.mk (.agg _) rfl ?_) | (refine LetB.pre ?_; first | refine LetB.ff rfl ?_ | refine LetB.decf (by omega) ?_) | (refine Gd.pre ?_; first | refine Gd.run rfl ?_ | refine Gd.pass rfl ?_) | (refine Br.pre ?_; first | refine Br.ff rfl ?_) | (refine Ck.pre ?_; first | refine Ck.drawn (by kernel_rfl) ?_ | refine Ck.mk rfl ?_) | (refine LetL.pre ?_; first | refine LetL.mk (ty := 25) _ a1 ?_) | (refine CallN.pre ?_; first | refine CallN.pure hC rfl rfl ?_ | refine CallN.pure hP rfl rfl ?_ | refine CallN.lend (hD _) rfl (.full rfl n1 m1 .nil) ?_)))); (try (conv => whnf)))





  exact ⟨.inl rfl, ⟨_, rfl, rfl⟩, trivial⟩
end En
end Go.Proofs.YtgnakhljdjekbaaGreatDoor
namespace Go.Proofs.YtgnakhljdjekbaaGreatDoor
open Go.Proofs.YtgnakhljdjekbaaGreatDoor.Am
set_option maxRecDepth 100000
namespace Sc
abbrev int (a : Int) : AV := .sc (.int .i64 a)
abbrev bool (b : Bool) : AV := .sc (.bool b)
abbrev Scl := Int × Int × Int
abbrev scA (s : Scl) : AV := .agg [int s.1, int s.2.1, int s.2.2]
def lim (n a b : Int) : Int := max (min a b) (min n (max a b))
theorem lim_spec (n a b : Int) : lim n a b = max (min a b) (min n (max a b)) := rfl
/-- A scale is right. -/
abbrev okS (s : Scl) : Prop := (-1000 ≤ s.1 ∧ s.1 ≤ 1000) ∧ (-1000 ≤ s.2.1 ∧ s.2.1 ≤ 1000) ∧ s.1 ≠ s.2.1 ∧ min s.1 s.2.1 ≤ s.2.2 ∧ s.2.2 ≤ max s.1 s.2.1
def chk (s : Scl) : Int := if okS s then 0 else 10
theorem chk_spec (s : Scl) : (chk s = 0 ∧ okS s) ∨ (chk s = 10 ∧ ¬ okS s) := by
  unfold chk; split
  · exact .inl ⟨rfl, by assumption⟩
  · exact .inr ⟨rfl, by assumption⟩
/-- A grade lies on a scale. -/
abbrev onS (s : Scl) (g : Int) : Prop := okS s ∧ min s.1 s.2.1 ≤ g ∧ g ≤ max s.1 s.2.1
abbrev rgt (s : Scl) (g : Int) : Bool := decide (onS s g)
/-- A grade reaches another. -/
abbrev rea (s : Scl) (g m : Int) : Prop := onS s g ∧ (g = m ∨ (m < g ↔ s.1 < s.2.1))
end Sc
end Go.Proofs.YtgnakhljdjekbaaGreatDoor
namespace Go.Proofs.YtgnakhljdjekbaaGreatDoor
open Go.Proofs.YtgnakhljdjekbaaGreatDoor.Am
set_option maxRecDepth 100000
namespace En
/-! ### Numbers that are drawn -/
abbrev dty : TypeId := 69
abbrev drawB (fl : Fl) (xs : List Int) (at_ : Nat) : Blk := .row 2 dty [.agg [.ro fl 1 (xs.map int), int at_]]
def dv (xs : List Int) (at_ : Nat) (most : Int) : Int := if at_ < xs.length then ((xs.getD at_ 0).tmod most + most).tmod most else 0
def da (xs : List Int) (at_ : Nat) : Nat := if at_ < xs.length then at_ + 1 else at_
theorem dv_range (xs : List Int) (at_ : Nat) {most : Int} (h : 0 < most) : 0 ≤ dv xs at_ most ∧ dv xs at_ most < most := by
  unfold dv
  split
  · have h1 := tmod_bound (xs.getD at_ 0) h
    rw [Int.tmod_eq_emod_of_nonneg (by omega)]
    exact ⟨Int.emod_nonneg _ (by omega), Int.emod_lt_of_pos _ h⟩
  · omega
theorem da_le {xs : List Int} {at_ : Nat} (h : at_ ≤ xs.length) : da xs at_ ≤ xs.length := by
  unfold da; split <;> omega
theorem Mod_f (x m : Int) (h : 0 < m ∧ m ≤ 1000000) : AFun Tryz.prog 8 0 [int x, int m] [] (int ((x.tmod m + m).tmod m)) [] := by
  refine AFun.of_W T_ok mixed Tryz.func8 rfl (Nat.le_of_ble_eq_true rfl) rfl ?_
  have hnz : (m != 0) = true := by simp; omega
  have hb := tmod_bound x h.1
  ((repeat ((conv => whnf); (first | (refine As.pre ?_; first | refine As.mk rfl ?_ | refine As.mk hnz ?_) | (refine LetI.pre ?_; first | refine LetI.wrap (by omega) (by omega) ?_ | refine LetI.mk _ rfl ?_) | (refine Ck.pre ?_; first | refine Ck.mk rfl ?_)))); (try (conv => whnf)))
  exact ⟨.inl rfl, ⟨_, rfl, rfl⟩, trivial⟩
theorem Next_f (fl : Fl) (xs : List Int) (at_ : Nat) (most : Int) (hl : xs.length ≤ 9223372036854775807) (ha : at_ ≤ xs.length) (hm : 0 < most ∧ most ≤ 1000000) :
    AFun Tryz.prog 27 1 [.ptr 0 2 0 0, int most] [(0, drawB fl xs at_)] (int (dv xs at_ most)) [(0, drawB fl xs (da xs at_))] := by
  refine AFun.of_W T_ok mixed Tryz.func27 rfl (Nat.le_of_ble_eq_true rfl) rfl ?_
  have hml : (xs.map int).length = xs.length := List.length_map _
  have hnz : (most != 0) = true := by simp; omega
  unfold dv da
  by_cases hlt : at_ < xs.length
  · rw [if_pos hlt, if_pos hlt]
    have hld : int (xs.getD at_ 0) = (xs.map int).getD at_ (.sc undef) := mapD 0 hlt
    have hld2 : int (xs.getD at_ 0) = (xs.map int).getD ((at_ : Int) + 1 - 1).toNat (.sc undef) := by rw [show ((at_ : Int) + 1 - 1).toNat = at_ by omega]; exact hld
    generalize xs.getD at_ 0 = x at hld hld2 ⊢
    have hM := Mod_f x most hm
    ((repeat ((conv => whnf); (first | (refine LetN.pre ?_; first | ((conv => arg 1; whnf); refine LetN.mk ?_)) | (refine As.pre ?_; first | refine As.mk rfl ?_ | (refine As.mk ?_ ?_; · ((repeat' (refine andT ?_ ?_)) <;> (first | rfl | assumption | exact decide_eq_true (by omega) | exact decide_eq_true (by dsimp only; omega) | exact decide_eq_true (by simp; omega) | (simp; done))))) | (refine LetV.pre ?_; first | refine LetV.mk (t := 43) _ hld2 ?_ | refine LetV.mk (.sc (.int _ _)) rfl ?_ | refine LetV.mk (.ro _ _ _) rfl ?_) | (refine LetI.pre ?_; first | refine LetI.wrap (by omega) (by omega) ?_ | refine LetI.mk _ rfl ?_) | (refine LetB.pre ?_; first | refine LetB.decf (by omega) ?_) | (refine Br.pre ?_; first | refine Br.ff rfl ?_) | (refine Ck.pre ?_; first | refine Ck.drawn (by kernel_rfl) ?_ | refine Ck.mk rfl ?_) | (refine LetL.pre ?_; first | refine LetL.mk [_] rfl ?_) | (refine CallN.pre ?_; first | refine CallN.pure hM rfl rfl ?_)))); (try (conv => whnf)))



    exact ⟨.inl rfl, ⟨_, rfl, rfl⟩, rfl, trivial⟩
  · rw [if_neg hlt, if_neg hlt]
    ((repeat ((conv => whnf); (first | (refine As.pre ?_; first | refine As.mk rfl ?_) | (refine LetV.pre ?_; first | refine LetV.mk (.sc (.int _ _)) rfl ?_ | refine LetV.mk (.ro _ _ _) rfl ?_) | (refine LetI.pre ?_; first | refine LetI.mk _ rfl ?_) | (refine LetB.pre ?_; first | refine LetB.dect (by omega) ?_) | (refine Br.pre ?_; first | refine Br.tt rfl ?_) | (refine Ck.pre ?_; first | refine Ck.drawn (by kernel_rfl) ?_ | refine Ck.mk rfl ?_)))); (try (conv => whnf)))
    exact ⟨.inl rfl, ⟨_, rfl, rfl⟩, rfl, trivial⟩
def codesL : List ByteArray := [⟨#[65, 49]⟩, ⟨#[66, 49]⟩, ⟨#[66, 50]⟩, ⟨#[67, 49]⟩, ⟨#[68, 49]⟩, ⟨#[69, 57]⟩]
theorem Codes_f : AFun Tryz.prog 28 0 [] [] (.ro ⟨true, true⟩ 1 (codesL.map str)) [] := AFun.of_ev T_ok mixed 20 (by kernel_rfl)
abbrev iA (x : Fl × List Int) : AV := .ro x.1 1 (x.2.map int)
abbrev L0 : Fl × List Int := ({}, [])
theorem codes_get (n : Int) (h : 0 ≤ n ∧ n < 6) : ∃ s : ByteArray, s.size ≤ 2 ∧ str s = (codesL.map str).getD n.toNat (.sc undef) := by
  obtain ⟨m, rfl⟩ : ∃ m : Nat, n = m := ⟨n.toNat, by omega⟩
  have : m = 0 ∨ m = 1 ∨ m = 2 ∨ m = 3 ∨ m = 4 ∨ m = 5 := by omega
  rcases this with rfl | rfl | rfl | rfl | rfl | rfl <;> exact ⟨_, by decide, rfl⟩
theorem made_next (fl : Fl) (xs : List Int) (hl : xs.length ≤ 9223372036854775807) (at_ : Nat) (most : Int) (ha : at_ ≤ xs.length) (hm : 0 < most ∧ most ≤ 1000000) : ∃ v a, (0 ≤ v ∧ v < most) ∧ a ≤ xs.length ∧
    AFun Tryz.prog 27 1 [.ptr 0 2 0 0, int most] [(0, drawB fl xs at_)] (int v) [(0, drawB fl xs a)] :=
  ⟨_, _, dv_range xs at_ hm.1, da_le ha, Next_f fl xs at_ most hl ha hm⟩
theorem AFun.of_SE {P : Program} {T : TT} (hT : T.Ok P) {p : Nat} (hm : P.follows .mixedOrders = true) {f : FuncId} {fn : Func} {c : Code} {vs : List AV} {H : AH} {α : Type} {I : α → Prop} {v : α → AV} {H' : α → AH} (hf : P.funcs[f]? = some fn) (hb : fn.body = some c) (hn : vs.length ≤ fn.ntmps) (hB : H.all (fun x => decide (x.1 < p)) = true)
    (h : V P T p fn.ntmps c ⟨argFr vs 0, H, p⟩ (fun e s => ∃ x, I x ∧ FinS T fn p (v x) (H' x) e s)) : ∃ x, I x ∧ AFun P f p vs H (v x) (H' x) := by
  obtain ⟨e, s', h1, _, x, hI, s2, hw, he, ⟨rv, hr, hv⟩, hH⟩ := V_sound hT hm c _ _ h (HB.of_all hB)
  exact ⟨x, hI, (AFun.of_body hT hf hb hn he (h1.post hw) hr hv rfl).forget hH.get⟩
end En
end Go.Proofs.YtgnakhljdjekbaaGreatDoor
namespace Go.Proofs.YtgnakhljdjekbaaGreatDoor
open Go.Proofs.YtgnakhljdjekbaaGreatDoor.Am
set_option maxRecDepth 100000
namespace En
/-! ### Made entries (of the chapter 10) -/
def onP (l : List E) (id : Int) : Int := match l.find? (fun e => decide (e.id = id)) with
  | some e => e.on_
  | none => 0
theorem onP_drop {l : List E} {k : Nat} (id : Int) (h : k < l.length) : onP (l.drop k) id = if (l.getD k e0).id = id then (l.getD k e0).on_ else onP (l.drop (k + 1)) id := by
  rw [List.drop_eq_getElem_cons h, onP, List.find?_cons, List.getD_eq_getElem?_getD, List.getElem?_eq_getElem h]
  simp only [Option.getD_some]
  by_cases hc : l[k].id = id
  · rw [decide_eq_true hc, if_pos hc]
  · rw [decide_eq_false hc, if_neg hc]; rfl
theorem ld_en {l : List E} {k : Nat} (h : k < l.length) : en (l.getD k e0) = (l.map en).getD k (.sc undef) := mapD e0 h
set_option maxRecDepth 100000 in
theorem on_f (l : List E) (id : Int) (fl : Fl) (hl : l.length ≤ 1000) : AFun Tryz.prog 64 0 [.ro fl 15 (l.map en), int id] [] (int (onP l id)) [] := by
  refine AFun.of_W T_ok mixed Tryz.func64 rfl (Nat.le_of_ble_eq_true rfl) rfl ?_
  have hm : (l.map en).length = l.length := List.length_map _
  ((repeat ((conv => whnf); (first | (refine As.pre ?_; first | refine As.mk rfl ?_) | (refine Ck.pre ?_; first | refine Ck.mk rfl ?_)))); (try (conv => whnf)))
  refine LoopN.weak (s1 := ⟨[(0, .ro fl 15 (l.map en)), (1, int id), (5, int (0 : Nat))], [], 0⟩) (SW.fr0 (Nat.le_refl _) rfl ⟨.refl _, .refl _, .refl _, trivial⟩) ?_
  refine LoopN.ind T_ok mixed (S := fun k : Nat => ⟨[(0, .ro fl 15 (l.map en)), (1, int id), (5, int k)], [], 0⟩) (fun k => l.length - k) (fun k => k ≤ l.length ∧ onP l id = onP (l.drop k) id) (fun _ => rfl) (fun k hk ih => ?_) 0 ⟨Nat.zero_le _, rfl⟩
  obtain ⟨h1, h2⟩ := hk
  by_cases hlt : k < l.length
  case neg =>
    rw [List.drop_eq_nil_of_le (by omega)] at h2
    rw [h2]
    clear ih
    ((repeat ((conv => whnf); (first | (refine As.pre ?_; first | refine As.mk rfl ?_) | (refine LetI.pre ?_; first | refine LetI.mk _ rfl ?_) | (refine LetB.pre ?_; first | refine LetB.decf (by omega) ?_) | (refine Br.pre ?_; first | refine Br.ff rfl ?_) | (refine Ck.pre ?_; first | refine Ck.mk rfl ?_)))); (try (conv => whnf)))
    exact ⟨.inl rfl, ⟨_, rfl, rfl⟩, trivial⟩
  have hld := ld_en hlt
  rw [onP_drop id hlt] at h2
  generalize l.getD k e0 = e at hld h2
  by_cases hc : e.id = id
  · rw [if_pos hc] at h2
    rw [h2]
    clear ih
    ((repeat ((conv => whnf); (first | (refine As.pre ?_; first | refine As.mk rfl ?_ | (refine As.mk ?_ ?_; · ((repeat' (refine andT ?_ ?_)) <;> (first | rfl | assumption | exact decide_eq_true (by omega) | exact decide_eq_true (by dsimp only; omega) | exact decide_eq_true (by simp; omega) | (simp; done))))) | (refine LetV.pre ?_; first | refine LetV.mk (t := 33) _ hld ?_ | refine LetV.mk (.sc (.int _ _)) rfl ?_) | (refine LetI.pre ?_; first | refine LetI.mk _ rfl ?_) | (refine LetB.pre ?_; first | refine LetB.dect (by omega) ?_) | (refine Br.pre ?_; first | refine Br.tt rfl ?_) | (refine Ck.pre ?_; first | refine Ck.mk rfl ?_)))); (try (conv => whnf)))
    exact ⟨.inl rfl, ⟨_, rfl, rfl⟩, trivial⟩
  · rw [if_neg hc] at h2
    have hnx := ih (k + 1) ⟨by omega, h2⟩ (by omega)
    clear ih
    ((repeat ((conv => whnf); (first | (refine As.pre ?_; first | refine As.mk rfl ?_ | (refine As.mk ?_ ?_; · ((repeat' (refine andT ?_ ?_)) <;> (first | rfl | assumption | exact decide_eq_true (by omega) | exact decide_eq_true (by dsimp only; omega) | exact decide_eq_true (by simp; omega) | (simp; done))))) | (refine LetV.pre ?_; first | refine LetV.mk (t := 33) _ hld ?_ | refine LetV.mk (.sc (.int _ _)) rfl ?_) | (refine LetI.pre ?_; first | refine LetI.wrap (by omega) (by omega) ?_ | refine LetI.mk _ rfl ?_) | (refine LetB.pre ?_; first | refine LetB.dect (by omega) ?_ | refine LetB.decf (by omega) ?_) | (refine Br.pre ?_; first | refine Br.tt rfl ?_ | refine Br.ff rfl ?_) | (refine Ck.pre ?_; first | refine Ck.mk rfl ?_)))); (try (conv => whnf)))
    refine LoopN.weak ?_ hnx
    exact SW.fr0 (Nat.le_refl _) rfl ⟨.refl _, .refl _, VLe2.int (by omega), trivial⟩
abbrev pkS (l : List E) (fl : Fl) (st kd n : Int) : Nat × List Int → AS
  | (k, ids) => ⟨[(0, .ro fl 15 (l.map en)), (1, int st), (2, int kd), (3, int n), (9, .slm {} 0 1 0 ids.length), (10, int k)], [(0, .row 1 3 (ids.map int))], 1⟩
theorem room_int {n : Nat} (h : n ≤ 1000000) : room n 8 = true := by
  simp only [room, Bool.and_eq_true, decide_eq_true_eq]
  exact ⟨by omega, rfl⟩
theorem pure_int : ∀ l : List Int, AV.namesL (fun _ => false) (l.map int) = true
  | [] => rfl
  | p :: l => by simp only [List.map_cons, AV.namesL, pure_int l]; rfl
theorem app_intL (l : List Int) (e : Int) (n : Nat) (h : n = l.length) : (l ++ [e]).map int = (l.map int).take n ++ [int e] := by rw [List.take_of_length_le (by simp [h]), List.map_append]; rfl
set_option maxHeartbeats 1600000 in
set_option maxRecDepth 100000 in
/-- The Id of one of the entries of a student and a kind, or 0. -/
theorem pick_f (l : List E) (st kd n : Int) (fl : Fl) (hl : l.length ≤ 1000) (hn : 0 ≤ n) : ∃ r : Int, (r = 0 ∧ (∀ e ∈ l, ¬(e.student = st ∧ e.kind = kd)) ∨ ∃ e ∈ l, e.student = st ∧ e.kind = kd ∧ e.id = r) ∧
    AFun Tryz.prog 63 0 [.ro fl 15 (l.map en), int st, int kd, int n] [] (int r) [] := by
  refine AFun.of_SE T_ok mixed (H' := fun _ => []) (v := fun r : Int => int r) Tryz.func63 rfl (Nat.le_of_ble_eq_true rfl) rfl ?_
  have hm : (l.map en).length = l.length := List.length_map _
  ((repeat ((conv => whnf); (first | (refine As.pre ?_; first | refine As.mk rfl ?_) | (refine Ck.pre ?_; first | refine Ck.mk rfl ?_)))); (try (conv => whnf)))
  refine LoopN.weak (s1 := pkS l fl st kd n (0, [])) ?sw1 ?_
  case sw1 => exact SW.mk id rfl rfl rfl ⟨.refl _, .refl _, .refl _, .refl _, VLe2.nilslm, .refl _, trivial⟩ (haveV.nil (Nat.le_of_ble_eq_true rfl) trivial)
  refine LoopN.ind T_ok mixed (S := pkS l fl st kd n) (fun i => l.length - i.1) (fun i => i.1 ≤ l.length ∧ i.2.length ≤ i.1 ∧ (∀ r ∈ i.2, ∃ e ∈ l, e.student = st ∧ e.kind = kd ∧ e.id = r) ∧ (i.2 = [] → ∀ e ∈ l.take i.1, ¬(e.student = st ∧ e.kind = kd))) (fun _ => rfl) (fun i hi ih => ?_) (0, []) ⟨Nat.zero_le _, Nat.zero_le _, fun _ h => absurd h List.not_mem_nil, fun _ _ h => absurd h List.not_mem_nil⟩
  obtain ⟨k, ids⟩ := i
  obtain ⟨h1, h2, h3, h4⟩ := hi
  simp only at h1 h2 h3 h4
  have hmi : (ids.map int).length = ids.length := List.length_map _
  by_cases hlt : k < l.length
  case neg =>
    clear ih
    rw [List.take_of_length_le (by omega)] at h4
    by_cases h0 : ids.length = 0
    · have hnil : ids = [] := List.eq_nil_of_length_eq_zero h0
      subst hnil
      ((repeat ((conv => whnf); (first | (refine As.pre ?_; first | refine As.mk rfl ?_) | (refine LetI.pre ?_; first | refine LetI.mk _ rfl ?_) | (refine LetB.pre ?_; first | refine LetB.tt rfl ?_ | refine LetB.decf (by omega) ?_) | (refine Br.pre ?_; first | refine Br.tt rfl ?_ | refine Br.ff rfl ?_) | (refine Ck.pre ?_; first | refine Ck.mk rfl ?_)))); (try (conv => whnf)))
      exact ⟨0, .inl ⟨rfl, h4 rfl⟩, ⟨[(8, int 0)], [], 1⟩, SW.mk id rfl rfl rfl ⟨.refl _, trivial⟩ trivial, .inl rfl, ⟨_, rfl, rfl⟩, trivial⟩
    obtain ⟨j, hj, hjj⟩ : ∃ j : Nat, j < ids.length ∧ (j : Int) = n.tmod (ids.length : Int) := by
      have a1 := Int.tmod_nonneg (ids.length : Int) hn
      have a2 := Int.tmod_lt_of_pos n (b := (ids.length : Int)) (by omega)
      exact ⟨(n.tmod (ids.length : Int)).toNat, by omega, by omega⟩
    have hnz : ((ids.length : Int) != 0) = true := bne_iff_ne.2 (by omega)
    have hv : int (ids.getD j 0) = Am.part false 1 0 1 ((ids.map int).getD (0 + j) (.sc undef)) := by
      rw [Nat.zero_add, ← mapD (f := int) (0 : Int) hj]; rfl
    have hv2 : int (ids.getD j 0) = (ids.map int).getD (0 + j) (.sc undef) := by rw [Nat.zero_add]; exact mapD 0 hj
    have hr := h3 (ids.getD j 0) (by rw [List.getD_eq_getElem?_getD, List.getElem?_eq_getElem hj]; exact List.getElem_mem _)
    generalize ids.getD j 0 = r at hv hv2 hr
    clear h3 h4
    ((repeat ((conv => whnf); (first | (refine As.pre ?_; first | refine As.mk rfl ?_ | refine As.mk hnz ?_ | (refine As.mk ?_ ?_; · ((repeat' (refine andT ?_ ?_)) <;> (first | rfl | assumption | exact decide_eq_true (by omega) | exact decide_eq_true (by dsimp only; omega) | exact decide_eq_true (by simp; omega) | (simp; done))))) | (refine LetV.pre ?_; first | refine LetV.mk (t := 3) _ hv ?_) | (refine LetI.pre ?_; first | refine LetI.mk (o := some .rem) (j : Int) hjj ?_ | refine LetI.mk _ rfl ?_) | (refine LetB.pre ?_; first | refine LetB.decf (by omega) ?_) | (refine Br.pre ?_; first | refine Br.ff rfl ?_) | (refine Ck.pre ?_; first | refine Ck.mk rfl ?_)))); (try (conv => whnf)))




    exact ⟨r, .inr hr, ⟨[(8, int r)], [], 1⟩, SW.mk id rfl rfl rfl ⟨.refl _, trivial⟩ trivial, .inl rfl, ⟨_, rfl, rfl⟩, trivial⟩
  have hld := ld_en hlt
  have hmem := getD_mem' hlt
  have htk : ∀ x, x ∈ l.take (k + 1) → x ∈ l.take k ∨ x = l.getD k e0 := fun x hx => by
    rw [List.take_succ_eq_append_getElem hlt] at hx
    rcases List.mem_append.1 hx with h | h
    · exact .inl h
    · rw [List.mem_singleton.1 h, List.getD_eq_getElem?_getD, List.getElem?_eq_getElem hlt]; exact .inr rfl
  generalize l.getD k e0 = e at hld hmem htk
  by_cases hs : e.student = st
  · by_cases hk : e.kind = kd
    · have hr := room_int (n := ids.length + 1) (by omega)
      have happ := app_intL ids e.id ids.length rfl
      have hnx := ih (k + 1, ids ++ [e.id]) ⟨by omega, by simp; omega, fun r hr => by
        rcases List.mem_append.1 hr with h | h
        · exact h3 r h
        · exact ⟨e, hmem, hs, hk, (List.mem_singleton.1 h).symm⟩, fun h => by simp at h⟩ (by show l.length - (k + 1) < l.length - k; omega)
      clear ih h3 h4 htk
      ((repeat ((conv => whnf); (first | (refine LetN.pre ?_; first | ((conv => arg 1; whnf); refine LetN.mk ?_)) | (refine As.pre ?_; first | refine As.mk rfl ?_ | (refine As.mk ?_ ?_; · ((repeat' (refine andT ?_ ?_)) <;> (first | rfl | assumption | exact decide_eq_true (by omega) | exact decide_eq_true (by dsimp only; omega) | exact decide_eq_true (by simp; omega) | (simp; done))))) | (refine LetV.pre ?_; first | refine LetV.mk (t := 33) _ hld ?_ | refine LetV.mk (.sc (.int _ _)) rfl ?_) | (refine LetI.pre ?_; first | refine LetI.wrap (by omega) (by omega) ?_ | refine LetI.mk _ rfl ?_) | (refine LetB.pre ?_; first | refine LetB.dect (by omega) ?_) | (refine Gd.pre ?_; first | refine Gd.run rfl ?_) | (refine Br.pre ?_; first | refine Br.tt rfl ?_) | (refine Ck.pre ?_; first | refine Ck.mk rfl ?_) | (refine LetL.pre ?_; first | refine LetL.mk (ty := 3) _ happ ?_)))); (try (conv => whnf)))


      refine LoopN.weak ?sw2 hnx
      case sw2 => exact SW.mk (fun _ => 1) rfl rfl (namesAll.row (pure_int _) rfl) ⟨.refl _, .refl _, .refl _, .refl _, VLe2.slm_of (by simp), VLe2.int (by omega), trivial⟩ (haveV.row (pure_int _) rfl trivial)
    · have hnx := ih (k + 1, ids) ⟨by omega, by show ids.length ≤ k + 1; omega, h3, fun h x hx hh => by
        rcases htk x hx with hc | hc
        · exact h4 h x hc hh
        · rw [hc] at hh; exact hk hh.2⟩ (by show l.length - (k + 1) < l.length - k; omega)
      clear ih h3 h4 htk
      ((repeat ((conv => whnf); (first | (refine As.pre ?_; first | refine As.mk rfl ?_ | (refine As.mk ?_ ?_; · ((repeat' (refine andT ?_ ?_)) <;> (first | rfl | assumption | exact decide_eq_true (by omega) | exact decide_eq_true (by dsimp only; omega) | exact decide_eq_true (by simp; omega) | (simp; done))))) | (refine LetV.pre ?_; first | refine LetV.mk (t := 33) _ hld ?_ | refine LetV.mk (.sc (.int _ _)) rfl ?_) | (refine LetI.pre ?_; first | refine LetI.wrap (by omega) (by omega) ?_ | refine LetI.mk _ rfl ?_) | (refine LetB.pre ?_; first | refine LetB.dect (by omega) ?_ | refine LetB.decf (by omega) ?_) | (refine Gd.pre ?_; first | refine Gd.run rfl ?_) | (refine Br.pre ?_; first | refine Br.tt rfl ?_ | refine Br.ff rfl ?_) | (refine Ck.pre ?_; first | refine Ck.mk rfl ?_)))); (try (conv => whnf)))
      refine LoopN.weak ?sw3 hnx
      case sw3 => exact SW.mk id rfl rfl (namesAll.row (pure_int _) rfl) ⟨.refl _, .refl _, .refl _, .refl _, .refl _, VLe2.int (by omega), trivial⟩ (haveV.row (pure_int _) rfl trivial)
  · have hnx := ih (k + 1, ids) ⟨by omega, by show ids.length ≤ k + 1; omega, h3, fun h x hx hh => by
      rcases htk x hx with hc | hc
      · exact h4 h x hc hh
      · rw [hc] at hh; exact hs hh.1⟩ (by show l.length - (k + 1) < l.length - k; omega)
    clear ih h3 h4 htk
    ((repeat ((conv => whnf); (first | (refine As.pre ?_; first | refine As.mk rfl ?_ | (refine As.mk ?_ ?_; · ((repeat' (refine andT ?_ ?_)) <;> (first | rfl | assumption | exact decide_eq_true (by omega) | exact decide_eq_true (by dsimp only; omega) | exact decide_eq_true (by simp; omega) | (simp; done))))) | (refine LetV.pre ?_; first | refine LetV.mk (t := 33) _ hld ?_ | refine LetV.mk (.sc (.int _ _)) rfl ?_) | (refine LetI.pre ?_; first | refine LetI.wrap (by omega) (by omega) ?_ | refine LetI.mk _ rfl ?_) | (refine LetB.pre ?_; first | refine LetB.dect (by omega) ?_ | refine LetB.decf (by omega) ?_) | (refine Gd.pre ?_; first | refine Gd.pass rfl ?_) | (refine Br.pre ?_; first | refine Br.tt rfl ?_ | refine Br.ff rfl ?_) | (refine Ck.pre ?_; first | refine Ck.mk rfl ?_)))); (try (conv => whnf)))
    refine LoopN.weak ?sw4 hnx
    case sw4 => exact SW.mk id rfl rfl (namesAll.row (pure_int _) rfl) ⟨.refl _, .refl _, .refl _, .refl _, .refl _, VLe2.int (by omega), trivial⟩ (haveV.row (pure_int _) rfl trivial)
end En
end Go.Proofs.YtgnakhljdjekbaaGreatDoor
