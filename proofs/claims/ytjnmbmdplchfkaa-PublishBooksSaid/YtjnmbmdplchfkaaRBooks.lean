/- The statement PublishBooks: for every input the law returns true and each argument reads as it did; no condition. -/
import Derived.Test.YtjnmbmdplchfkaaL47
import Derived.Test.YtjnmbmdplchfkaaAmRX
set_option linter.all false
namespace Go.Proofs.Ytjnmbmdplchfkaa.publishBooks
open Go.ChangeShapes Go.WideShapes Go.ChangeAt Go.RowKit Go.Proofs.Ytjnmbmdplchfkaa.Am
set_option linter.unusedVariables false

theorem own : ownKnob Try.prog.godebug = none := by kernel_rfl
theorem laidOut : laidOutB Try.prog = true := by kernel_rfl

set_option maxRecDepth 100000 in
theorem lifted (os : Os) (started : os.Started) (H : Type) (enc : TypeId × Value → H) :
    ReturnsInHanded {} Try.checked os 5 .any (Rows.publishBooksSpec.pre6 enc Try.prog Try.f5 Rows.publishBooksRow.domain false) (Rows.publishBooksSpec.post enc Try.prog Try.f5 false true false false) := by
  refine returnsInHanded_of_change (C := Try.checked) own started (by kernel_rfl) Try.func5
    (ChangeSpec.witness6 (enc := enc) (C := Try.checked) false ⟨#[], #[.slice none 0 0, .agg #[.int .i64 0, .int .i64 0, .int .i64 0, .int .i64 0, .int .i64 0, .int .i64 0], .slice none 0 0, .int .u8 0], []⟩ 8 (by kernel_rfl) (by kernel_rfl) (by kernel_rfl) (by kernel_rfl)) ?_
  intro W base args ds gs before hval0 hW hcnd _
  have hval : ∀ (j : Nat) t v, Try.f5.params[j]? = some t → args[j]? = some v → Value.okWide Try.prog W .any base t v := hval0
  have hW' := hW
  obtain ⟨p, q, hA0, hV, rfl, hfz, hnd⟩ := hW
  have hA : DataW.TrodAll enc Try.prog W 0 (fun _ => true) true Try.f5.params.toList args.toList ds p := hA0
  rw [Try.params5] at hA hval
  obtain ⟨v0, vs0, d0, ds0, p0, q0, hargs, rfl, rfl, h0, r0⟩ := trodAll_cons hA
  obtain ⟨v1, vs1, d1, ds1, p1, q1, rfl, rfl, rfl, h1, r1⟩ := trodAll_cons r0
  obtain ⟨v2, vs2, d2, ds2, p2, q2, rfl, rfl, rfl, h2, r2⟩ := trodAll_cons r1
  obtain ⟨v3, vs3, d3, ds3, p3, q3, rfl, rfl, rfl, h3, r3⟩ := trodAll_cons r2
  obtain ⟨rfl, rfl, rfl⟩ := trodAll_nil r3
  obtain rfl : args = #[v0, v1, v2, v3] := by cases args; simp_all
  obtain ⟨rfl, rfl⟩ := trodVars_none hV
  clear hA0 hval0
  simp only [List.append_nil] at hW'
  obtain ⟨x0, k0, c0⟩ := arg_law T_ok 20 (s := .sl false (.sl false (.int .i64))) (by kernel_rfl) (ti := (T.get 22).getD default) (by kernel_rfl) (by kernel_rfl) (hval 0 22 v0 rfl rfl) h0
  obtain ⟨x1, k1, c1⟩ := arg_law T_ok 20 (s := .pair (.pair (.int .i64) (.pair (.int .i64) (.int .i64))) (.pair (.int .i64) (.pair (.int .i64) (.int .i64)))) (by kernel_rfl) (ti := (T.get 52).getD default) (by kernel_rfl) (by kernel_rfl) (hval 1 52 v1 rfl rfl) h1
  obtain ⟨x2, k2, c2⟩ := arg_law T_ok 20 (s := .sl false (.int .i64)) (by kernel_rfl) (ti := (T.get 26).getD default) (by kernel_rfl) (by kernel_rfl) (hval 2 26 v2 rfl rfl) h2
  obtain ⟨x3, k3, c3⟩ := arg_law T_ok 20 (s := .int .u8) (by kernel_rfl) (ti := (T.get 5).getD default) (by kernel_rfl) (by kernel_rfl) (hval 3 5 v3 rfl rfl) h3
  refine (AFun.row (Pb.books_row x0 k0.1 (fun l hl => (k0.2 l hl).1) x1 x2 k2.1 x3 ⟨k3.1, k3.2⟩) ((CellsCv.one c0).append ((CellsCv.one c1).append ((CellsCv.one c2).append (CellsCv.one c3))))).mono fun e W' ⟨he, hg⟩ => ?_
  subst he
  exact ⟨_, rfl, law_post (tb := 4) hW' rfl (by kernel_rfl) Try.underlying4 rfl laidOut (by rw [Try.params5]; intro t ht; simp at ht; rcases ht with rfl | rfl | rfl | rfl <;> exact ⟨by kernel_rfl, of_decide_eq_true (by kernel_rfl)⟩) hg⟩

theorem over : Rows.publishBooksRow.holds Try.pinned (OpenSpec.ofChange Rows.publishBooksSpec) :=
  OpenClaim.holds_of_wide 5 Try.f5 rfl rfl rfl rfl rfl rfl rfl ⟨rfl, rfl, rfl, rfl, rfl⟩ rfl rfl rfl rfl rfl (by kernel_rfl) Try.func5 (by kernel_rfl)
    (of_decide_eq_true (by kernel_rfl)) (by unfold Func.isWrapper; first | (rw [if_pos (by decide +kernel)]; kernel_rfl) | (rw [if_neg (by decide +kernel)]; exact ⟨rfl, rfl⟩))
    (fun os started H enc _ => lifted os started H enc)

theorem proved : Rows.PublishBooksSaid := over
end Go.Proofs.Ytjnmbmdplchfkaa.publishBooks
