/- The statement PublishPrefix: for every input the law returns true and each argument reads as it did; no condition. -/
import Derived.Test.YtjnmbmdplchfkaaL46
import Derived.Test.YtjnmbmdplchfkaaAmRX
set_option linter.all false
namespace Go.Proofs.Ytjnmbmdplchfkaa.publishPrefix
open Go.ChangeShapes Go.WideShapes Go.ChangeAt Go.RowKit Go.Proofs.Ytjnmbmdplchfkaa.Am
set_option linter.unusedVariables false

theorem own : ownKnob Try.prog.godebug = none := by kernel_rfl
theorem laidOut : laidOutB Try.prog = true := by kernel_rfl

set_option maxRecDepth 100000 in
theorem lifted (os : Os) (started : os.Started) (H : Type) (enc : TypeId × Value → H) :
    ReturnsInHanded {} Try.checked os 4 .any (Rows.publishPrefixSpec.pre6 enc Try.prog Try.f4 Rows.publishPrefixRow.domain false) (Rows.publishPrefixSpec.post enc Try.prog Try.f4 false true false false) := by
  refine returnsInHanded_of_change (C := Try.checked) own started (by kernel_rfl) Try.func4
    (ChangeSpec.witness6 (enc := enc) (C := Try.checked) false ⟨#[], #[.agg #[.slice none 0 0, .slice none 0 0, .int .u8 0, .int .u8 0, .int .u16 0, .int .u16 0], .int .u8 0], []⟩ 8 (by kernel_rfl) (by kernel_rfl) (by kernel_rfl) (by kernel_rfl)) ?_
  intro W base args ds gs before hval0 hW hcnd _
  have hval : ∀ (j : Nat) t v, Try.f4.params[j]? = some t → args[j]? = some v → Value.okWide Try.prog W .any base t v := hval0
  have hW' := hW
  obtain ⟨p, q, hA0, hV, rfl, hfz, hnd⟩ := hW
  have hA : DataW.TrodAll enc Try.prog W 0 (fun _ => true) true Try.f4.params.toList args.toList ds p := hA0
  rw [Try.params4] at hA hval
  obtain ⟨v0, vs0, d0, ds0, p0, q0, hargs, rfl, rfl, h0, r0⟩ := trodAll_cons hA
  obtain ⟨v1, vs1, d1, ds1, p1, q1, rfl, rfl, rfl, h1, r1⟩ := trodAll_cons r0
  obtain ⟨rfl, rfl, rfl⟩ := trodAll_nil r1
  obtain rfl : args = #[v0, v1] := by cases args; simp_all
  obtain ⟨rfl, rfl⟩ := trodVars_none hV
  clear hA0 hval0
  simp only [List.append_nil] at hW'
  obtain ⟨x0, k0, c0⟩ := arg_law T_ok 20 (s := .pair (.sl false (.sl false (.int .i64))) (.pair (.sl false (.sl false (.int .i64))) (.pair (.int .u8) (.pair (.int .u8) (.pair (.int .u16) (.int .u16)))))) (by kernel_rfl) (ti := (T.get 25).getD default) (by kernel_rfl) (by kernel_rfl) (hval 0 25 v0 rfl rfl) h0
  obtain ⟨x1, k1, c1⟩ := arg_law T_ok 20 (s := .int .u8) (by kernel_rfl) (ti := (T.get 5).getD default) (by kernel_rfl) (by kernel_rfl) (hval 1 5 v1 rfl rfl) h1
  refine (AFun.row (Pb.prefix_row x0 ⟨k0.1.1, (fun l hl => (k0.1.2 l hl).1), k0.2.1.1, (fun l hl => (k0.2.1.2 l hl).1), ⟨k0.2.2.1.1, k0.2.2.1.2⟩, ⟨k0.2.2.2.1.1, k0.2.2.2.1.2⟩, ⟨k0.2.2.2.2.1.1, k0.2.2.2.2.1.2⟩, ⟨k0.2.2.2.2.2.1, k0.2.2.2.2.2.2⟩⟩ x1 ⟨k1.1, k1.2⟩) ((CellsCv.one c0).append (CellsCv.one c1))).mono fun e W' ⟨he, hg⟩ => ?_
  subst he
  exact ⟨_, rfl, law_post (tb := 4) hW' rfl (by kernel_rfl) Try.underlying4 rfl laidOut (by rw [Try.params4]; intro t ht; simp at ht; rcases ht with rfl | rfl <;> exact ⟨by kernel_rfl, of_decide_eq_true (by kernel_rfl)⟩) hg⟩

theorem over : Rows.publishPrefixRow.holds Try.pinned (OpenSpec.ofChange Rows.publishPrefixSpec) :=
  OpenClaim.holds_of_wide 4 Try.f4 rfl rfl rfl rfl rfl rfl rfl ⟨rfl, rfl, rfl, rfl, rfl⟩ rfl rfl rfl rfl rfl (by kernel_rfl) Try.func4 (by kernel_rfl)
    (of_decide_eq_true (by kernel_rfl)) (by unfold Func.isWrapper; first | (rw [if_pos (by decide +kernel)]; kernel_rfl) | (rw [if_neg (by decide +kernel)]; exact ⟨rfl, rfl⟩))
    (fun os started H enc _ => lifted os started H enc)

theorem proved : Rows.PublishPrefixSaid := over
end Go.Proofs.Ytjnmbmdplchfkaa.publishPrefix
