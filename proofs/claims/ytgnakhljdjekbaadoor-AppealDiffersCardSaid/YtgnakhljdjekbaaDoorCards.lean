/-
  DERIVED. GIVEN WITH THE SEED: THE CARDS: each row of YtgnakhljdjekbaaDoorRows.lean that lists a variable, with what it lists TIED to the program's text (the seventh form; the later family's looks); each row that meets fmt, with fmt's text TOLD by the authors' own Lean function (tested against real Go, not proved from fmt's source: count such statements apart). THE CARD IS WHAT COUNTS. Prove the row's statement (the work); the ties are given (YtgnakhljdjekbaaDoorTie.lean); close each card by the builder's one call (the guide's Derived/Test/ToyasCard.lean, 'card_holds'). Laid BY PROGRAM, IN A SANDBOX (cutbox-door.mjs). By AI agents, Wed Nov 11 2026. No macro, syntax, notation, axiom, sorry.
-/
import Derived.Test.YtgnakhljdjekbaaDoorRows
import GoSem.ClaimSeven
namespace Go.Proofs.YtgnakhljdjekbaaDoor
namespace Rows

/-- THE TIED CARD OF 'quadriviumlaw24.AppealDiffers'. -/
def appealDiffersCard : Claim7 := { stood := { row := appealDiffersRow, standIns := [], harness := (true, "d2283ed909fc58d6de0aee42ab0a0e0b4b8e57b720179dd82dd979512a3a92e1"), looks := false }, kinds := [], alts := [], laidByText := true, laidKinds := [.data, .data, .data, .data], laidTests := true, laidLooks := .later }
def AppealDiffersCardSaid : Prop := Claim7.holds Tryd.pinned (.plain (OpenSpec.ofChange appealDiffersSpec)) appealDiffersCard

/-- THE TIED CARD OF 'quadriviumlaw24.AppealLists'. -/
def appealListsCard : Claim7 := { stood := { row := appealListsRow, standIns := [], harness := (true, "d2283ed909fc58d6de0aee42ab0a0e0b4b8e57b720179dd82dd979512a3a92e1"), looks := false }, kinds := [], alts := [], laidByText := true, laidKinds := [.data, .data, .data, .data], laidTests := true, laidLooks := .later }
def AppealListsCardSaid : Prop := Claim7.holds Tryd.pinned (.plain (OpenSpec.ofChange appealListsSpec)) appealListsCard

/-- THE TIED CARD OF 'quadriviumlaw24.AppealTexts'. -/
def appealTextsCard : Claim7 := { stood := { row := appealTextsRow, standIns := [], harness := (true, "d2283ed909fc58d6de0aee42ab0a0e0b4b8e57b720179dd82dd979512a3a92e1"), looks := false }, kinds := [], alts := [], laidByText := true, laidKinds := [.data, .data, .data, .data], laidTests := true, laidLooks := .later }
def AppealTextsCardSaid : Prop := Claim7.holds Tryd.pinned (.plain (OpenSpec.ofChange appealTextsSpec)) appealTextsCard

/-- THE SECOND FORM's CARD OF 'quadriviumlaw24.AppealDiffers'. -/
def appealDiffersUptoCard : Claim7 := { stood := { row := appealDiffersUptoRow, standIns := [], harness := (true, "d2283ed909fc58d6de0aee42ab0a0e0b4b8e57b720179dd82dd979512a3a92e1"), looks := false }, kinds := [], alts := [], laidByText := true, laidKinds := [.data, .data, .data, .data], laidTests := true, laidLooks := .later }
def AppealDiffersUptoCardSaid : Prop := Claim7.holds Tryd.pinned (.plain (OpenSpec.upto appealDiffersSpec)) appealDiffersUptoCard

/-- THE SECOND FORM's CARD OF 'quadriviumlaw24.AppealLists'. -/
def appealListsUptoCard : Claim7 := { stood := { row := appealListsUptoRow, standIns := [], harness := (true, "d2283ed909fc58d6de0aee42ab0a0e0b4b8e57b720179dd82dd979512a3a92e1"), looks := false }, kinds := [], alts := [], laidByText := true, laidKinds := [.data, .data, .data, .data], laidTests := true, laidLooks := .later }
def AppealListsUptoCardSaid : Prop := Claim7.holds Tryd.pinned (.plain (OpenSpec.upto appealListsSpec)) appealListsUptoCard

/-- THE SECOND FORM's CARD OF 'quadriviumlaw24.AppealTexts'. -/
def appealTextsUptoCard : Claim7 := { stood := { row := appealTextsUptoRow, standIns := [], harness := (true, "d2283ed909fc58d6de0aee42ab0a0e0b4b8e57b720179dd82dd979512a3a92e1"), looks := false }, kinds := [], alts := [], laidByText := true, laidKinds := [.data, .data, .data, .data], laidTests := true, laidLooks := .later }
def AppealTextsUptoCardSaid : Prop := Claim7.holds Tryd.pinned (.plain (OpenSpec.upto appealTextsSpec)) appealTextsUptoCard
end Rows
end Go.Proofs.YtgnakhljdjekbaaDoor
