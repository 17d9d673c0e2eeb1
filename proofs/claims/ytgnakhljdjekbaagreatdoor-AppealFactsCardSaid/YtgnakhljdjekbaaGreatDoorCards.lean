/-
  DERIVED. GIVEN WITH THE SEED: THE CARDS: each row of YtgnakhljdjekbaaGreatDoorRows.lean that lists a variable, with what it lists TIED to the program's text (the seventh form; the later family's looks); each row that meets fmt, with fmt's text TOLD by the authors' own Lean function (tested against real Go, not proved from fmt's source: count such statements apart). THE CARD IS WHAT COUNTS. Prove the row's statement (the work); the ties are given (YtgnakhljdjekbaaGreatDoorTie.lean); close each card by the builder's one call (the guide's Derived/Test/ToyasCard.lean, 'card_holds'). Laid BY PROGRAM, IN A SANDBOX (cutbox-door.mjs). By AI agents, Wed Nov 11 2026. No macro, syntax, notation, axiom, sorry.
-/
import Derived.Test.YtgnakhljdjekbaaGreatDoorRows
import GoSem.ClaimSeven
namespace Go.Proofs.YtgnakhljdjekbaaGreatDoor
namespace Rows

/-- THE TIED CARD OF 'quadriviumlaw24.AppealFacts'. -/
def appealFactsCard : Claim7 := { stood := { row := appealFactsRow, standIns := [], harness := (true, "fbda761d6ce63e6ea68ea0d2b565c7a52d3391d343a4179d14dc567f05c41bcf"), looks := false }, kinds := [], alts := [], laidByText := true, laidKinds := [.data, .data, .data, .data], laidTests := true, laidLooks := .later }
def AppealFactsCardSaid : Prop := Claim7.holds Tryz.pinned (.plain (OpenSpec.ofChange appealFactsSpec)) appealFactsCard

/-- THE TIED CARD OF 'quadriviumlaw24.AppealMay'. -/
def appealMayCard : Claim7 := { stood := { row := appealMayRow, standIns := [], harness := (true, "fbda761d6ce63e6ea68ea0d2b565c7a52d3391d343a4179d14dc567f05c41bcf"), looks := false }, kinds := [], alts := [], laidByText := true, laidKinds := [.data, .data, .data, .data], laidTests := true, laidLooks := .later }
def AppealMayCardSaid : Prop := Claim7.holds Tryz.pinned (.plain (OpenSpec.ofChange appealMaySpec)) appealMayCard

/-- THE TIED CARD OF 'quadriviumlaw24.AppealReaches'. -/
def appealReachesCard : Claim7 := { stood := { row := appealReachesRow, standIns := [], harness := (true, "fbda761d6ce63e6ea68ea0d2b565c7a52d3391d343a4179d14dc567f05c41bcf"), looks := false }, kinds := [], alts := [], laidByText := true, laidKinds := [.data, .data, .data, .data], laidTests := true, laidLooks := .later }
def AppealReachesCardSaid : Prop := Claim7.holds Tryz.pinned (.plain (OpenSpec.ofChange appealReachesSpec)) appealReachesCard

/-- THE SECOND FORM's CARD OF 'quadriviumlaw24.AppealFacts'. -/
def appealFactsUptoCard : Claim7 := { stood := { row := appealFactsUptoRow, standIns := [], harness := (true, "fbda761d6ce63e6ea68ea0d2b565c7a52d3391d343a4179d14dc567f05c41bcf"), looks := false }, kinds := [], alts := [], laidByText := true, laidKinds := [.data, .data, .data, .data], laidTests := true, laidLooks := .later }
def AppealFactsUptoCardSaid : Prop := Claim7.holds Tryz.pinned (.plain (OpenSpec.upto appealFactsSpec)) appealFactsUptoCard

/-- THE SECOND FORM's CARD OF 'quadriviumlaw24.AppealMay'. -/
def appealMayUptoCard : Claim7 := { stood := { row := appealMayUptoRow, standIns := [], harness := (true, "fbda761d6ce63e6ea68ea0d2b565c7a52d3391d343a4179d14dc567f05c41bcf"), looks := false }, kinds := [], alts := [], laidByText := true, laidKinds := [.data, .data, .data, .data], laidTests := true, laidLooks := .later }
def AppealMayUptoCardSaid : Prop := Claim7.holds Tryz.pinned (.plain (OpenSpec.upto appealMaySpec)) appealMayUptoCard

/-- THE SECOND FORM's CARD OF 'quadriviumlaw24.AppealReaches'. -/
def appealReachesUptoCard : Claim7 := { stood := { row := appealReachesUptoRow, standIns := [], harness := (true, "fbda761d6ce63e6ea68ea0d2b565c7a52d3391d343a4179d14dc567f05c41bcf"), looks := false }, kinds := [], alts := [], laidByText := true, laidKinds := [.data, .data, .data, .data], laidTests := true, laidLooks := .later }
def AppealReachesUptoCardSaid : Prop := Claim7.holds Tryz.pinned (.plain (OpenSpec.upto appealReachesSpec)) appealReachesUptoCard
end Rows
end Go.Proofs.YtgnakhljdjekbaaGreatDoor
