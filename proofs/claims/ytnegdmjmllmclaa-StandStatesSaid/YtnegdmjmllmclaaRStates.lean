/- The statement StandStates: for every input the law returns true and each argument reads as it did; no condition. -/
import Derived.Test.YtnegdmjmllmclaaL44
import Derived.Test.YtnegdmjmllmclaaAmRX
set_option linter.all false
namespace Go.Proofs.Ytnegdmjmllmclaa.standStates
open Go.ChangeShapes Go.WideShapes Go.ChangeAt Go.RowKit Go.Proofs.Ytnegdmjmllmclaa.Am
set_option linter.unusedVariables false

theorem own : ownKnob Try.prog.godebug = none := by kernel_rfl
theorem laidOut : laidOutB Try.prog = true := by kernel_rfl

set_option maxRecDepth 100000 in
theorem lifted (os : Os) (started : os.Started) (H : Type) (enc : TypeId × Value → H) :
    ReturnsInHanded {} Try.checked os 3 .any (Rows.standStatesSpec.pre6 enc Try.prog Try.f3 Rows.standStatesRow.domain false) (Rows.standStatesSpec.post enc Try.prog Try.f3 false true false false) := by
  refine returnsInHanded_of_change (C := Try.checked) own started (by kernel_rfl) Try.func3
    (ChangeSpec.witness6 (enc := enc) (C := Try.checked) false ⟨#[], #[.agg #[.slice none 0 0, .int .u8 0, .int .u8 0, .int .u16 0, .int .u8 0], .agg #[.int .i64 0, .int .i64 0, .int .i64 0], .agg #[.slice none 0 0, .int .i64 0, .int .i64 0, .int .i64 0, .int .i64 0, .int .i64 0, .int .i64 0]], []⟩ 8 (by kernel_rfl) (by kernel_rfl) (by kernel_rfl) (by kernel_rfl)) ?_
  intro W base args ds gs before hval0 hW hcnd _
  have hval : ∀ (j : Nat) t v, Try.f3.params[j]? = some t → args[j]? = some v → Value.okWide Try.prog W .any base t v := hval0
  have hW' := hW
  obtain ⟨p, q, hA0, hV, rfl, hfz, hnd⟩ := hW
  have hA : DataW.TrodAll enc Try.prog W 0 (fun _ => true) true Try.f3.params.toList args.toList ds p := hA0
  rw [Try.params3] at hA hval
  obtain ⟨v0, vs0, d0, ds0, p0, q0, hargs, rfl, rfl, h0, r0⟩ := trodAll_cons hA
  obtain ⟨v1, vs1, d1, ds1, p1, q1, rfl, rfl, rfl, h1, r1⟩ := trodAll_cons r0
  obtain ⟨v2, vs2, d2, ds2, p2, q2, rfl, rfl, rfl, h2, r2⟩ := trodAll_cons r1
  obtain ⟨rfl, rfl, rfl⟩ := trodAll_nil r2
  obtain rfl : args = #[v0, v1, v2] := by cases args; simp_all
  obtain ⟨rfl, rfl⟩ := trodVars_none hV
  clear hA0 hval0
  simp only [List.append_nil] at hW'
  obtain ⟨x0, k0, c0⟩ := arg_law T_ok 20 (s := .pair (.sl false (.int .i64)) (.pair (.int .u8) (.pair (.int .u8) (.pair (.int .u16) (.int .u8))))) (by kernel_rfl) (ti := (T.get 25).getD default) (by kernel_rfl) (by kernel_rfl) (hval 0 25 v0 rfl rfl) h0
  obtain ⟨x1, k1, c1⟩ := arg_law T_ok 20 (s := .pair (.int .i64) (.pair (.int .i64) (.int .i64))) (by kernel_rfl) (ti := (T.get 26).getD default) (by kernel_rfl) (by kernel_rfl) (hval 1 26 v1 rfl rfl) h1
  obtain ⟨x2, k2, c2⟩ := arg_law T_ok 20 (s := .pair (.sl true (.pair (.int .i64) (.pair (.int .i64) (.pair (.int .i64) (.pair (.int .i64) (.pair (.int .i64) (.pair (.int .i64) (.pair .str (.pair (.int .i64) (.pair (.int .i64) (.pair (.int .i64) (.pair (.int .i64) (.pair (.int .i64) (.pair (.int .i64) (.pair (.int .i64) .str))))))))))))))) (.pair (.pair (.int .i64) (.pair (.int .i64) (.int .i64))) (.pair (.int .i64) (.pair (.int .i64) (.int .i64))))) (by kernel_rfl) (ti := (T.get 31).getD default) (by kernel_rfl) (by kernel_rfl) (hval 2 31 v2 rfl rfl) h2
  refine (AFun.row (En.sstates_row x0 k0.1.1 ⟨k0.2.1.1, k0.2.1.2⟩ ⟨k0.2.2.1.1, k0.2.2.1.2⟩ ⟨k0.2.2.2.1.1, k0.2.2.2.1.2⟩ ⟨k0.2.2.2.2.1, k0.2.2.2.2.2⟩ x1 x2 k2.1.1 (fun e he => ⟨(k2.1.2 e he).2.2.2.2.2.1.1, (k2.1.2 e he).2.2.2.2.2.1.2⟩)) ((CellsCv.one c0).append ((CellsCv.one c1).append (CellsCv.one c2)))).mono fun e W' ⟨he, hg⟩ => ?_
  subst he
  exact ⟨_, rfl, law_post (tb := 4) hW' rfl (by kernel_rfl) Try.underlying4 rfl laidOut (by rw [Try.params3]; intro t ht; simp at ht; rcases ht with rfl | rfl | rfl <;> exact ⟨by kernel_rfl, of_decide_eq_true (by kernel_rfl)⟩) hg⟩

theorem over : Rows.standStatesRow.holds Try.pinned (OpenSpec.ofChange Rows.standStatesSpec) :=
  OpenClaim.holds_of_wide 3 Try.f3 rfl rfl rfl rfl rfl rfl rfl ⟨rfl, rfl, rfl, rfl, rfl⟩ rfl rfl rfl rfl rfl (by kernel_rfl) Try.func3 (by kernel_rfl)
    (of_decide_eq_true (by kernel_rfl)) (by unfold Func.isWrapper; first | (rw [if_pos (by decide +kernel)]; kernel_rfl) | (rw [if_neg (by decide +kernel)]; exact ⟨rfl, rfl⟩))
    (fun os started H enc _ => lifted os started H enc)

theorem proved : Rows.StandStatesSaid := over
end Go.Proofs.Ytnegdmjmllmclaa.standStates
