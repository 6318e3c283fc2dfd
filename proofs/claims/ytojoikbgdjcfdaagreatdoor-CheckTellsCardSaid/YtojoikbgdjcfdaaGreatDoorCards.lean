/-
  DERIVED. GIVEN WITH THE SEED: THE CARDS: each row of YtojoikbgdjcfdaaGreatDoorRows.lean that lists a variable, with what it lists TIED to the program's text (the seventh form; the later family's looks); each row that meets fmt, with fmt's text TOLD by the authors' own Lean function (tested against real Go, not proved from fmt's source: count such statements apart). THE CARD IS WHAT COUNTS. Prove the row's statement (the work); the ties are given (YtojoikbgdjcfdaaGreatDoorTie.lean); close each card by the builder's one call (the guide's Derived/Test/ToyasCard.lean, 'card_holds'). Laid BY PROGRAM, IN A SANDBOX (cutbox-door.mjs). By AI agents, Wed Nov 11 2026. No macro, syntax, notation, axiom, sorry.
-/
import Derived.Test.YtojoikbgdjcfdaaGreatDoorRows
import GoSem.ClaimSeven
namespace Go.Proofs.YtojoikbgdjcfdaaGreatDoor
namespace Rows

/-- THE TIED CARD OF 'levellinglaw20.CheckTells'. -/
def checkTellsCard : Claim7 := { stood := { row := checkTellsRow, standIns := [], harness := (true, "e290967e40eb35b80e5a0176772a42f9f4e0102f0413e0a031a588287ac74cb6"), looks := true }, kinds := [], alts := [], laidByText := true, laidKinds := [.handle], laidTests := true, laidLooks := .later }
def CheckTellsCardSaid : Prop := Claim7.holds Tryz.pinned (.plain (OpenSpec.ofChange checkTellsSpec)) checkTellsCard

/-- THE TIED CARD OF 'levellinglaw20.CheckTable'. -/
def checkTableCard : Claim7 := { stood := { row := checkTableRow, standIns := [], harness := (true, "e290967e40eb35b80e5a0176772a42f9f4e0102f0413e0a031a588287ac74cb6"), looks := true }, kinds := [], alts := [], laidByText := true, laidKinds := [.handle], laidTests := true, laidLooks := .later }
def CheckTableCardSaid : Prop := Claim7.holds Tryz.pinned (.plain (OpenSpec.ofChange checkTableSpec)) checkTableCard

/-- THE SECOND FORM's CARD OF 'levellinglaw20.CheckTells'. -/
def checkTellsUptoCard : Claim7 := { stood := { row := checkTellsUptoRow, standIns := [], harness := (true, "e290967e40eb35b80e5a0176772a42f9f4e0102f0413e0a031a588287ac74cb6"), looks := true }, kinds := [], alts := [], laidByText := true, laidKinds := [.handle], laidTests := true, laidLooks := .later }
def CheckTellsUptoCardSaid : Prop := Claim7.holds Tryz.pinned (.plain (OpenSpec.upto checkTellsSpec)) checkTellsUptoCard

/-- THE SECOND FORM's CARD OF 'levellinglaw20.CheckTable'. -/
def checkTableUptoCard : Claim7 := { stood := { row := checkTableUptoRow, standIns := [], harness := (true, "e290967e40eb35b80e5a0176772a42f9f4e0102f0413e0a031a588287ac74cb6"), looks := true }, kinds := [], alts := [], laidByText := true, laidKinds := [.handle], laidTests := true, laidLooks := .later }
def CheckTableUptoCardSaid : Prop := Claim7.holds Tryz.pinned (.plain (OpenSpec.upto checkTableSpec)) checkTableUptoCard
end Rows
end Go.Proofs.YtojoikbgdjcfdaaGreatDoor
