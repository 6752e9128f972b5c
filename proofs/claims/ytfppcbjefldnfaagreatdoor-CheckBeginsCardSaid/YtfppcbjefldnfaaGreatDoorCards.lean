/-
  DERIVED. GIVEN WITH THE SEED: THE CARDS: each row of YtfppcbjefldnfaaGreatDoorRows.lean that lists a variable, with what it lists TIED to the program's text (the seventh form; the later family's looks); each row that meets fmt, with fmt's text TOLD by the authors' own Lean function (tested against real Go, not proved from fmt's source: count such statements apart). THE CARD IS WHAT COUNTS. Prove the row's statement (the work); the ties are given (YtfppcbjefldnfaaGreatDoorTie.lean); close each card by the builder's one call (the guide's Derived/Test/ToyasCard.lean, 'card_holds'). Laid BY PROGRAM, IN A SANDBOX (cutbox-door.mjs). By AI agents, Wed Nov 11 2026. No macro, syntax, notation, axiom, sorry.
-/
import Derived.Test.YtfppcbjefldnfaaGreatDoorRows
import GoSem.ClaimSeven
namespace Go.Proofs.YtfppcbjefldnfaaGreatDoor
namespace Rows

/-- THE TIED CARD OF 'becketlaw21.CheckMore'. -/
def checkMoreCard : Claim7 := { stood := { row := checkMoreRow, standIns := [], harness := (true, "4b79512f454ae31fc14df59e1d54d01fe0bfe20258559dbfd3c9ace845a8ceb4"), looks := true }, kinds := [], alts := [], laidByText := true, laidKinds := [.data, .pinned], laidTests := true, laidLooks := .later }
def CheckMoreCardSaid : Prop := Claim7.holds Tryz.pinned (.plain (OpenSpec.ofChange checkMoreSpec)) checkMoreCard

/-- THE TIED CARD OF 'becketlaw21.CheckBegins'. -/
def checkBeginsCard : Claim7 := { stood := { row := checkBeginsRow, standIns := [], harness := (true, "4b79512f454ae31fc14df59e1d54d01fe0bfe20258559dbfd3c9ace845a8ceb4"), looks := true }, kinds := [], alts := [], laidByText := true, laidKinds := [.data, .pinned], laidTests := true, laidLooks := .later }
def CheckBeginsCardSaid : Prop := Claim7.holds Tryz.pinned (.plain (OpenSpec.ofChange checkBeginsSpec)) checkBeginsCard

/-- THE TIED CARD OF 'becketlaw10.ImageAlike'. -/
def imageAlikeCard : Claim7 := { stood := { row := imageAlikeRow, standIns := [], harness := (true, "4b79512f454ae31fc14df59e1d54d01fe0bfe20258559dbfd3c9ace845a8ceb4"), looks := true }, kinds := [], alts := [], laidByText := true, laidKinds := [.data, .pinned], laidTests := true, laidLooks := .later }
def ImageAlikeCardSaid : Prop := Claim7.holds Tryz.pinned (.plain (OpenSpec.ofChange imageAlikeSpec)) imageAlikeCard

/-- THE SECOND FORM's CARD OF 'becketlaw21.CheckMore'. -/
def checkMoreUptoCard : Claim7 := { stood := { row := checkMoreUptoRow, standIns := [], harness := (true, "4b79512f454ae31fc14df59e1d54d01fe0bfe20258559dbfd3c9ace845a8ceb4"), looks := true }, kinds := [], alts := [], laidByText := true, laidKinds := [.data, .pinned], laidTests := true, laidLooks := .later }
def CheckMoreUptoCardSaid : Prop := Claim7.holds Tryz.pinned (.plain (OpenSpec.upto checkMoreSpec)) checkMoreUptoCard

/-- THE SECOND FORM's CARD OF 'becketlaw21.CheckBegins'. -/
def checkBeginsUptoCard : Claim7 := { stood := { row := checkBeginsUptoRow, standIns := [], harness := (true, "4b79512f454ae31fc14df59e1d54d01fe0bfe20258559dbfd3c9ace845a8ceb4"), looks := true }, kinds := [], alts := [], laidByText := true, laidKinds := [.data, .pinned], laidTests := true, laidLooks := .later }
def CheckBeginsUptoCardSaid : Prop := Claim7.holds Tryz.pinned (.plain (OpenSpec.upto checkBeginsSpec)) checkBeginsUptoCard

/-- THE SECOND FORM's CARD OF 'becketlaw10.ImageAlike'. -/
def imageAlikeUptoCard : Claim7 := { stood := { row := imageAlikeUptoRow, standIns := [], harness := (true, "4b79512f454ae31fc14df59e1d54d01fe0bfe20258559dbfd3c9ace845a8ceb4"), looks := true }, kinds := [], alts := [], laidByText := true, laidKinds := [.data, .pinned], laidTests := true, laidLooks := .later }
def ImageAlikeUptoCardSaid : Prop := Claim7.holds Tryz.pinned (.plain (OpenSpec.upto imageAlikeSpec)) imageAlikeUptoCard
end Rows
end Go.Proofs.YtfppcbjefldnfaaGreatDoor
