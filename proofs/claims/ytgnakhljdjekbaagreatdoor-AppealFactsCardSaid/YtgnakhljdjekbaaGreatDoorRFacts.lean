/- The card of AppealFacts: for every input the law returns true and each argument reads as it did; the listed package-level variables read as the program's text lays them (the card ties them). -/
import Derived.Test.YtgnakhljdjekbaaGreatDoorL49
import Derived.Test.YtgnakhljdjekbaaGreatDoorL47
import Derived.Test.YtgnakhljdjekbaaGreatDoorAmRX
import Derived.Test.YtgnakhljdjekbaaGreatDoorTie
import Derived.Test.YtgnakhljdjekbaaGreatDoorCards
import Derived.SevenTiedAt
set_option linter.all false
namespace Go.Proofs.YtgnakhljdjekbaaGreatDoor.appealFacts
open Go.ChangeShapes Go.WideShapes Go.ChangeAt Go.RowKit Go.Proofs.YtgnakhljdjekbaaGreatDoor.Am
set_option linter.unusedVariables false

theorem own : ownKnob Tryz.prog.godebug = none := by kernel_rfl
theorem laidOut : laidOutB Tryz.prog = true := by kernel_rfl

set_option maxRecDepth 100000 in
theorem lifted (os : Os) (started : os.Started) (H : Type) (enc : TypeId × Value → H) :
    ReturnsInHanded {} Tryz.checked os 3 .any (fun w args => (Rows.appealFactsSpec.pre enc Tryz.prog Tryz.f3 [] false w args ∧ laidMetH Tryz.prog laidAll w) ∧ sizedMet enc Tryz.prog Tryz.f3 (OpenSpec.ofChange Rows.appealFactsSpec) false w args)
      (Rows.appealFactsSpec.post enc Tryz.prog Tryz.f3 false true false false) := by
  refine returnsInHanded_of_change_and (C := Tryz.checked) (X := fun w _ => laidMetH Tryz.prog laidAll w) (fun _ _ _ hh h => h.of_heap hh) own started (by kernel_rfl) Tryz.func3
    (ChangeSpec.witness_shaped (enc := enc) (C := Tryz.checked) (os := os) (X := fun w _ => laidMetH Tryz.prog laidAll w) false (World.doorLaid Tryz.prog 4000 os) #[.slice none 0 0, .slice none 0 0, .slice none 0 0, .agg #[.int .i64 0, .int .i64 0, .int .i64 0, .int .i64 0, .int .i64 0, .int .i64 0, .string ⟨#[]⟩, .int .i64 0, .int .i64 0, .int .i64 0, .int .i64 0, .int .i64 0, .int .i64 0, .int .i64 0, .string ⟨#[]⟩]] 8 rfl (World.shaped_of_RefB (by kernel_rfl) (by kernel_rfl)) (by kernel_rfl) (by kernel_rfl) (by kernel_rfl) (door_met os _)) ?_
  intro W base args ds gs before hval0 hW _ _ hL _
  have hval : ∀ (j : Nat) t v, Tryz.f3.params[j]? = some t → args[j]? = some v → Value.okWide Tryz.prog W .any base t v := hval0
  have hW' := hW
  obtain ⟨p, q, hA0, hV, rfl, hfz, hnd⟩ := hW
  have hA : DataW.TrodAll enc Tryz.prog W 0 (fun _ => true) true Tryz.f3.params.toList args.toList ds p := hA0
  rw [Tryz.params3] at hA hval
  obtain ⟨v0, vs0, d0, ds0, p0, q0, hargs, rfl, rfl, h0, r0⟩ := trodAll_cons hA
  obtain ⟨v1, vs1, d1, ds1, p1, q1, rfl, rfl, rfl, h1, r1⟩ := trodAll_cons r0
  obtain ⟨v2, vs2, d2, ds2, p2, q2, rfl, rfl, rfl, h2, r2⟩ := trodAll_cons r1
  obtain ⟨v3, vs3, d3, ds3, p3, q3, rfl, rfl, rfl, h3, r3⟩ := trodAll_cons r2
  obtain ⟨rfl, rfl, rfl⟩ := trodAll_nil r3
  obtain rfl : args = #[v0, v1, v2, v3] := by cases args; simp_all
  obtain ⟨rfl, rfl⟩ := trodVars_none hV
  clear hA0 hval0
  simp only [List.append_nil] at hW'
  obtain ⟨x0, k0, c0⟩ := arg_law T_ok 20 (s := .sl false (.sl false (.int .i64))) (by kernel_rfl) (ti := (T.get 22).getD default) (by kernel_rfl) (by kernel_rfl) (hval 0 22 v0 rfl rfl) h0
  obtain ⟨x1, k1, c1⟩ := arg_law T_ok 20 (s := .sl false (.sl false (.int .i64))) (by kernel_rfl) (ti := (T.get 22).getD default) (by kernel_rfl) (by kernel_rfl) (hval 1 22 v1 rfl rfl) h1
  obtain ⟨x2, k2, c2⟩ := arg_law T_ok 20 (s := .sl true (.pair (.int .i64) (.pair (.int .i64) (.pair (.int .i64) (.pair (.int .i64) (.pair (.int .i64) (.pair (.int .i64) .str))))))) (by kernel_rfl) (ti := (T.get 23).getD default) (by kernel_rfl) (by kernel_rfl) (hval 2 23 v2 rfl rfl) h2
  obtain ⟨x3, k3, c3⟩ := arg_law T_ok 20 (s := .pair (.int .i64) (.pair (.int .i64) (.pair (.int .i64) (.pair (.int .i64) (.pair (.int .i64) (.pair (.int .i64) (.pair .str (.pair (.int .i64) (.pair (.int .i64) (.pair (.int .i64) (.pair (.int .i64) (.pair (.int .i64) (.pair (.int .i64) (.pair (.int .i64) .str)))))))))))))) (by kernel_rfl) (ti := (T.get 25).getD default) (by kernel_rfl) (by kernel_rfl) (hval 3 25 v3 rfl rfl) h3
  refine (AFun.row (En.facts_row x0 k0.1 (fun l hl => (k0.2 l hl).1) x1 k1.1 (fun l hl => (k1.2 l hl).1) x2 k2.1 k2.2 x3 k3.1) ((CellsCv.one c0).append ((CellsCv.one c1).append ((CellsCv.one c2).append (CellsCv.one c3)))) (glob_of_laid hL)).mono fun e W' ⟨he, hg⟩ => ?_
  subst he
  exact ⟨_, rfl, law_post (tb := 4) hW' rfl (by kernel_rfl) Tryz.underlying4 rfl laidOut (by rw [Tryz.params3]; intro t ht; simp at ht; rcases ht with rfl | rfl | rfl <;> exact ⟨by kernel_rfl, of_decide_eq_true (by kernel_rfl)⟩) hg⟩

theorem over : Rows.AppealFactsSaid :=
  OpenClaim.holds_of_wide 3 Tryz.f3 rfl rfl rfl rfl rfl rfl rfl ⟨rfl, rfl, rfl, rfl, rfl⟩ rfl rfl rfl rfl rfl (by kernel_rfl) Tryz.func3 (by kernel_rfl)
    (of_decide_eq_true (by kernel_rfl)) (by unfold Func.isWrapper; first | (rw [if_pos (by decide +kernel)]; kernel_rfl) | (rw [if_neg (by decide +kernel)]; exact ⟨rfl, rfl⟩))
    (fun os started H enc _ => lifted os started H enc)

theorem proved : Rows.AppealFactsCardSaid :=
  Claim7.holds_tied_plain_at .later [] [.data, .data, .data, .data] true (true, "fbda761d6ce63e6ea68ea0d2b565c7a52d3391d343a4179d14dc567f05c41bcf") false
    over (fun _ h => by cases h) (by kernel_rfl) (fun _ h => by cases h) appealFacts_row_tie rfl ⟨rfl, rfl⟩ (by kernel_rfl) rfl
    (fun f fn hf hfn => by
      obtain rfl : f = 3 := Option.some.inj ((show Tryz.prog.funcNamed "quadrivium/quadriviumlaw24.AppealFacts" = some 3 by kernel_rfl).symm.trans hf) |>.symm
      obtain rfl : fn = Tryz.f3 := (Option.some.inj (Tryz.func3.symm.trans hfn)).symm
      refine ⟨by kernel_rfl, fun j t ht => ?_⟩
      rw [Tryz.params3] at ht
      match j, ht with
      | 0, ht =>
        have e : 22 = t := by simpa using ht
        subst e
        exact (show Tryz.prog.wantsStandIn 22 = false by kernel_rfl)
      | 1, ht =>
        have e : 22 = t := by simpa using ht
        subst e
        exact (show Tryz.prog.wantsStandIn 22 = false by kernel_rfl)
      | 2, ht =>
        have e : 23 = t := by simpa using ht
        subst e
        exact (show Tryz.prog.wantsStandIn 23 = false by kernel_rfl)
      | 3, ht =>
        have e : 25 = t := by simpa using ht
        subst e
        exact (show Tryz.prog.wantsStandIn 25 = false by kernel_rfl)
      | j + 4, ht => simp at ht)
    (by kernel_rfl)
end Go.Proofs.YtgnakhljdjekbaaGreatDoor.appealFacts
