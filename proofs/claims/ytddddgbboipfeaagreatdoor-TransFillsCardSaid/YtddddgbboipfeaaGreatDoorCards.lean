/-
  DERIVED. GIVEN WITH THE SEED: THE CARDS: each row of YtddddgbboipfeaaGreatDoorRows.lean that lists a variable, with what it lists TIED to the program's text (the seventh form; the later family's looks); each row that meets fmt, with fmt's text TOLD by the authors' own Lean function (tested against real Go, not proved from fmt's source: count such statements apart). THE CARD IS WHAT COUNTS. Prove the row's statement (the work); the ties are given (YtddddgbboipfeaaGreatDoorTie.lean); close each card by the builder's one call (the guide's Derived/Test/ToyasCard.lean, 'card_holds'). Laid BY PROGRAM, IN A SANDBOX (cutbox-door.mjs). By AI agents, Wed Nov 11 2026. No macro, syntax, notation, axiom, sorry.
-/
import Derived.Test.YtddddgbboipfeaaGreatDoorRows
import GoSem.ClaimSeven
namespace Go.Proofs.YtddddgbboipfeaaGreatDoor
namespace Rows

/-- THE TIED CARD OF 'cabochonlaw11.TransFills'. -/
def transFillsCard : Claim7 := { stood := { row := transFillsRow, standIns := [], harness := (true, "f1d14d5699c92b8ceb60f6a92a7411c26ddb8460d97632ee85c71cf89fbaf931"), looks := false }, kinds := [], alts := [], laidByText := true, laidKinds := [.data, .data, .data], laidTests := true, laidLooks := .later }
def TransFillsCardSaid : Prop := Claim7.holds Tryz.pinned (.plain (OpenSpec.ofChange transFillsSpec)) transFillsCard

/-- THE SECOND FORM's CARD OF 'cabochonlaw11.TransFills'. -/
def transFillsUptoCard : Claim7 := { stood := { row := transFillsUptoRow, standIns := [], harness := (true, "f1d14d5699c92b8ceb60f6a92a7411c26ddb8460d97632ee85c71cf89fbaf931"), looks := false }, kinds := [], alts := [], laidByText := true, laidKinds := [.data, .data, .data], laidTests := true, laidLooks := .later }
def TransFillsUptoCardSaid : Prop := Claim7.holds Tryz.pinned (.plain (OpenSpec.upto transFillsSpec)) transFillsUptoCard
end Rows
end Go.Proofs.YtddddgbboipfeaaGreatDoor
