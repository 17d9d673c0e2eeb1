/- The statement DateNothing: for every input the law returns true and each argument reads as it did; no condition. -/
import Derived.Test.YtcpnlcgpgljlbaaJ
import Derived.Test.YtcpnlcgpgljlbaaO
import Derived.Lib.SmallJoins
namespace Go.Proofs.Ytcpnlcgpgljlbaa.dateNothing
open Go.ChangeShapes Go.WideShapes Go.ChangeAt Go.RowKit
set_option linter.unusedVariables false

theorem own : ownKnob Try.prog.godebug = none := by kernel_rfl
theorem laidOut : laidOutB Try.prog = true := by kernel_rfl

set_option maxRecDepth 100000 in
theorem lifted (os : Os) (started : os.Started) (H : Type) (enc : TypeId × Value → H) :
    ReturnsInHanded {} Try.checked os 9 .any (Rows.dateNothingSpec.pre6 enc Try.prog Try.f9 Rows.dateNothingRow.domain false) (Rows.dateNothingSpec.post enc Try.prog Try.f9 false true false false) := by
  refine returnsInHanded_of_change (C := Try.checked) own started (by kernel_rfl) Try.func9
    (ChangeSpec.witness6 (enc := enc) (C := Try.checked) false ⟨#[], #[.agg #[.bool false, .int .i64 0, .int .i64 0, .int .i64 0, .int .i64 0], .int .i64 0], []⟩ 8 (by kernel_rfl) (by kernel_rfl) (by kernel_rfl) (by kernel_rfl)) ?_
  intro W base args ds gs before hval0 hW hcnd _
  have hval : ∀ (j : Nat) t v, Try.f9.params[j]? = some t → args[j]? = some v → Value.okWide Try.prog W .any base t v := hval0
  have hW' := hW
  obtain ⟨p, q, hA0, hV, rfl, hfz, hnd⟩ := hW
  have hA : DataW.TrodAll enc Try.prog W 0 (fun _ => true) true Try.f9.params.toList args.toList ds p := hA0
  rw [Try.params9] at hA hval
  obtain ⟨v0, vs0, d0, ds0, p0, q0, hargs, rfl, rfl, h0, r0⟩ := trodAll_cons hA
  obtain ⟨v1, vs1, d1, ds1, p1, q1, rfl, rfl, rfl, h1, r1⟩ := trodAll_cons r0
  obtain ⟨rfl, rfl, rfl⟩ := trodAll_nil r1
  obtain rfl : args = #[v0, v1] := by cases args; simp_all
  obtain ⟨rfl, rfl⟩ := trodVars_none hV
  clear hA0 hval0
  simp only [List.append_nil] at hW'
  obtain ⟨cs0, rfl, hz0⟩ := okWide_struct Try.underlying41 (hval 0 41 v0 rfl rfl)
  obtain ⟨n0, hn0⟩ := h0
  have hf0 := fitT_of_trod n0 _ _ _ hn0
  rw [show Try.prog.cellsOf 41 = 5 from by kernel_rfl] at hz0
  obtain ⟨o0, o1, o2, o3, o4, eo, q0, q1, q2, q3⟩ := op_fit hf0
  obtain rfl : cs0 = #[.bool o0, .int .i64 o1, .int .i64 o2, .int .i64 o3, .int .i64 o4] := by cases cs0; simp [Value.cells] at eo; simp [eo]
  obtain ⟨sv, rfl, rfl, rfl, ws⟩ := open_int Try.underlying3 (hval 1 3 v1 rfl rfl) h1
  refine (nothing_walk o0 o1 o2 o3 o4 sv W).mono fun e W' ⟨he, hg⟩ => ?_
  subst he
  exact ⟨_, rfl, law_post (tb := 4) hW' rfl (by kernel_rfl) Try.underlying4 rfl laidOut (by rw [Try.params9]; intro t ht; simp at ht; rcases ht with rfl | rfl <;> exact ⟨by kernel_rfl, of_decide_eq_true (by kernel_rfl)⟩) hg⟩

theorem over : Rows.dateNothingRow.holds Try.pinned (OpenSpec.ofChange Rows.dateNothingSpec) :=
  OpenClaim.holds_of_wide 9 Try.f9 rfl rfl rfl rfl rfl rfl rfl ⟨rfl, rfl, rfl, rfl, rfl⟩ rfl rfl rfl rfl rfl (by kernel_rfl) Try.func9 (by kernel_rfl)
    (of_decide_eq_true (by kernel_rfl)) (by unfold Func.isWrapper; first | (rw [if_pos (by decide +kernel)]; kernel_rfl) | (rw [if_neg (by decide +kernel)]; exact ⟨rfl, rfl⟩))
    (fun os started H enc _ => lifted os started H enc)

theorem proved : Rows.DateNothingSaid := over
end Go.Proofs.Ytcpnlcgpgljlbaa.dateNothing
