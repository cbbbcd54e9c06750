/-
  DERIVED. GIVEN WITH THE SEED: THE CARDS: each row of YtelkpflpgpdkdaaGreatDoorRows.lean that lists a variable, with what it lists TIED to the program's text (the seventh form; the later family's looks); each row that meets fmt, with fmt's text TOLD by the authors' own Lean function (tested against real Go, not proved from fmt's source: count such statements apart). THE CARD IS WHAT COUNTS. Prove the row's statement (the work); the ties are given (YtelkpflpgpdkdaaGreatDoorTie.lean); close each card by the builder's one call (the guide's Derived/Test/ToyasCard.lean, 'card_holds'). Laid BY PROGRAM, IN A SANDBOX (cutbox-door.mjs). By AI agents, Wed Nov 11 2026. No macro, syntax, notation, axiom, sorry.
-/
import Derived.Test.YtelkpflpgpdkdaaGreatDoorRows
import GoSem.ClaimSeven
namespace Go.Proofs.YtelkpflpgpdkdaaGreatDoor
namespace Rows

/-- THE TIED CARD OF 'cabochonlaw22.StageOrder'. -/
def stageOrderCard : Claim7 := { stood := { row := stageOrderRow, standIns := [], harness := (true, "f8e45dcdca0f8d28e01e47bde2c6edfe48f67cfed5d21cc202f21a1aa7860c78"), looks := false }, kinds := [], alts := [], laidByText := true, laidKinds := [.data, .data, .data], laidTests := true, laidLooks := .later }
def StageOrderCardSaid : Prop := Claim7.holds Tryz.pinned (.plain (OpenSpec.ofChange stageOrderSpec)) stageOrderCard

/-- THE TIED CARD OF 'cabochonlaw22.StagePlans'. -/
def stagePlansCard : Claim7 := { stood := { row := stagePlansRow, standIns := [], harness := (true, "f8e45dcdca0f8d28e01e47bde2c6edfe48f67cfed5d21cc202f21a1aa7860c78"), looks := false }, kinds := [], alts := [], laidByText := true, laidKinds := [.data, .data, .data], laidTests := true, laidLooks := .later }
def StagePlansCardSaid : Prop := Claim7.holds Tryz.pinned (.plain (OpenSpec.ofChange stagePlansSpec)) stagePlansCard

/-- THE SECOND FORM's CARD OF 'cabochonlaw22.StageOrder'. -/
def stageOrderUptoCard : Claim7 := { stood := { row := stageOrderUptoRow, standIns := [], harness := (true, "f8e45dcdca0f8d28e01e47bde2c6edfe48f67cfed5d21cc202f21a1aa7860c78"), looks := false }, kinds := [], alts := [], laidByText := true, laidKinds := [.data, .data, .data], laidTests := true, laidLooks := .later }
def StageOrderUptoCardSaid : Prop := Claim7.holds Tryz.pinned (.plain (OpenSpec.upto stageOrderSpec)) stageOrderUptoCard

/-- THE SECOND FORM's CARD OF 'cabochonlaw22.StagePlans'. -/
def stagePlansUptoCard : Claim7 := { stood := { row := stagePlansUptoRow, standIns := [], harness := (true, "f8e45dcdca0f8d28e01e47bde2c6edfe48f67cfed5d21cc202f21a1aa7860c78"), looks := false }, kinds := [], alts := [], laidByText := true, laidKinds := [.data, .data, .data], laidTests := true, laidLooks := .later }
def StagePlansUptoCardSaid : Prop := Claim7.holds Tryz.pinned (.plain (OpenSpec.upto stagePlansSpec)) stagePlansUptoCard
end Rows
end Go.Proofs.YtelkpflpgpdkdaaGreatDoor
