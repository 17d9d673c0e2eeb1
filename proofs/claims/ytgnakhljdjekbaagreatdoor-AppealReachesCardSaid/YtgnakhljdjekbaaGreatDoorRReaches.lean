/- The card of AppealReaches: for every input the law returns true and each argument reads as it did; the listed package-level variables read as the program's text lays them (the card ties them). -/
import Derived.Test.YtgnakhljdjekbaaGreatDoorL50
import Derived.Test.YtgnakhljdjekbaaGreatDoorAmRX
import Derived.Test.YtgnakhljdjekbaaGreatDoorTie
import Derived.Test.YtgnakhljdjekbaaGreatDoorCards
import Derived.SevenTiedAt
set_option linter.all false
namespace Go.Proofs.YtgnakhljdjekbaaGreatDoor.appealReaches
open Go.ChangeShapes Go.WideShapes Go.ChangeAt Go.RowKit Go.Proofs.YtgnakhljdjekbaaGreatDoor.Am
set_option linter.unusedVariables false

theorem own : ownKnob Tryz.prog.godebug = none := by kernel_rfl
theorem laidOut : laidOutB Tryz.prog = true := by kernel_rfl

set_option maxRecDepth 100000 in
theorem lifted (os : Os) (started : os.Started) (H : Type) (enc : TypeId × Value → H) :
    ReturnsInHanded {} Tryz.checked os 5 .any (fun w args => (Rows.appealReachesSpec.pre enc Tryz.prog Tryz.f5 [] false w args ∧ laidMetH Tryz.prog laidAll w) ∧ sizedMet enc Tryz.prog Tryz.f5 (OpenSpec.ofChange Rows.appealReachesSpec) false w args)
      (Rows.appealReachesSpec.post enc Tryz.prog Tryz.f5 false true false false) := by
  refine returnsInHanded_of_change_and (C := Tryz.checked) (X := fun w _ => laidMetH Tryz.prog laidAll w) (fun _ _ _ hh h => h.of_heap hh) own started (by kernel_rfl) Tryz.func5
    (ChangeSpec.witness_shaped (enc := enc) (C := Tryz.checked) (os := os) (X := fun w _ => laidMetH Tryz.prog laidAll w) false (World.doorLaid Tryz.prog 4000 os) #[.agg #[.slice none 0 0, .int .u8 0, .int .u8 0, .int .i64 0, .int .i64 0], .agg #[.int .u16 0, .int .u16 0]] 8 rfl (World.shaped_of_RefB (by kernel_rfl) (by kernel_rfl)) (by kernel_rfl) (by kernel_rfl) (by kernel_rfl) (door_met os _)) ?_
  intro W base args ds gs before hval0 hW _ _ hL _
  have hval : ∀ (j : Nat) t v, Tryz.f5.params[j]? = some t → args[j]? = some v → Value.okWide Tryz.prog W .any base t v := hval0
  have hW' := hW
  obtain ⟨p, q, hA0, hV, rfl, hfz, hnd⟩ := hW
  have hA : DataW.TrodAll enc Tryz.prog W 0 (fun _ => true) true Tryz.f5.params.toList args.toList ds p := hA0
  rw [Tryz.params5] at hA hval
  obtain ⟨v0, vs0, d0, ds0, p0, q0, hargs, rfl, rfl, h0, r0⟩ := trodAll_cons hA
  obtain ⟨v1, vs1, d1, ds1, p1, q1, rfl, rfl, rfl, h1, r1⟩ := trodAll_cons r0
  obtain ⟨rfl, rfl, rfl⟩ := trodAll_nil r1
  obtain rfl : args = #[v0, v1] := by cases args; simp_all
  obtain ⟨rfl, rfl⟩ := trodVars_none hV
  clear hA0 hval0
  simp only [List.append_nil] at hW'
  obtain ⟨x0, k0, c0⟩ := arg_law T_ok 20 (s := .pair (.sl false (.int .i64)) (.pair (.int .u8) (.pair (.int .u8) (.pair (.int .i64) (.int .i64))))) (by kernel_rfl) (ti := (T.get 46).getD default) (by kernel_rfl) (by kernel_rfl) (hval 0 46 v0 rfl rfl) h0
  obtain ⟨x1, k1, c1⟩ := arg_law T_ok 20 (s := .pair (.int .u16) (.int .u16)) (by kernel_rfl) (ti := (T.get 58).getD default) (by kernel_rfl) (by kernel_rfl) (hval 1 58 v1 rfl rfl) h1
  refine (AFun.row (En.reaches_row x0 k0.1.1 ⟨k0.2.1.1, k0.2.1.2⟩ k0.2.2.1 x1 k1.1 k1.2) ((CellsCv.one c0).append (CellsCv.one c1)) (glob_of_laid hL)).mono fun e W' ⟨he, hg⟩ => ?_
  subst he
  exact ⟨_, rfl, law_post (tb := 4) hW' rfl (by kernel_rfl) Tryz.underlying4 rfl laidOut (by rw [Tryz.params5]; intro t ht; simp at ht; rcases ht with rfl | rfl <;> exact ⟨by kernel_rfl, of_decide_eq_true (by kernel_rfl)⟩) hg⟩

theorem over : Rows.AppealReachesSaid :=
  OpenClaim.holds_of_wide 5 Tryz.f5 rfl rfl rfl rfl rfl rfl rfl ⟨rfl, rfl, rfl, rfl, rfl⟩ rfl rfl rfl rfl rfl (by kernel_rfl) Tryz.func5 (by kernel_rfl)
    (of_decide_eq_true (by kernel_rfl)) (by unfold Func.isWrapper; first | (rw [if_pos (by decide +kernel)]; kernel_rfl) | (rw [if_neg (by decide +kernel)]; exact ⟨rfl, rfl⟩))
    (fun os started H enc _ => lifted os started H enc)

theorem proved : Rows.AppealReachesCardSaid :=
  Claim7.holds_tied_plain_at .later [] [.data, .data, .data, .data] true (true, "fbda761d6ce63e6ea68ea0d2b565c7a52d3391d343a4179d14dc567f05c41bcf") false
    over (fun _ h => by cases h) (by kernel_rfl) (fun _ h => by cases h) appealReaches_row_tie rfl ⟨rfl, rfl⟩ (by kernel_rfl) rfl
    (fun f fn hf hfn => by
      obtain rfl : f = 5 := Option.some.inj ((show Tryz.prog.funcNamed "quadrivium/quadriviumlaw24.AppealReaches" = some 5 by kernel_rfl).symm.trans hf) |>.symm
      obtain rfl : fn = Tryz.f5 := (Option.some.inj (Tryz.func5.symm.trans hfn)).symm
      refine ⟨by kernel_rfl, fun j t ht => ?_⟩
      rw [Tryz.params5] at ht
      match j, ht with
      | 0, ht =>
        have e : 46 = t := by simpa using ht
        subst e
        exact (show Tryz.prog.wantsStandIn 46 = false by kernel_rfl)
      | 1, ht =>
        have e : 58 = t := by simpa using ht
        subst e
        exact (show Tryz.prog.wantsStandIn 58 = false by kernel_rfl)
      | j + 2, ht => simp at ht)
    (by kernel_rfl)
end Go.Proofs.YtgnakhljdjekbaaGreatDoor.appealReaches
