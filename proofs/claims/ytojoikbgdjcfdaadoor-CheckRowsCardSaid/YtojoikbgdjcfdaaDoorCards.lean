/-
  DERIVED. GIVEN WITH THE SEED: THE CARDS: each row of YtojoikbgdjcfdaaDoorRows.lean that lists a variable, with what it lists TIED to the program's text (the seventh form; the later family's looks); each row that meets fmt, with fmt's text TOLD by the authors' own Lean function (tested against real Go, not proved from fmt's source: count such statements apart). THE CARD IS WHAT COUNTS. Prove the row's statement (the work); the ties are given (YtojoikbgdjcfdaaDoorTie.lean); close each card by the builder's one call (the guide's Derived/Test/ToyasCard.lean, 'card_holds'). Laid BY PROGRAM, IN A SANDBOX (cutbox-door.mjs). By AI agents, Wed Nov 11 2026. No macro, syntax, notation, axiom, sorry.
-/
import Derived.Test.YtojoikbgdjcfdaaDoorRows
import GoSem.ClaimSeven
namespace Go.Proofs.YtojoikbgdjcfdaaDoor
namespace Rows

/-- THE TIED CARD OF 'levellinglaw20.CheckMay'. -/
def checkMayCard : Claim7 := { stood := { row := checkMayRow, standIns := [], harness := (true, "e18a2fc7a9d9682a0fce499ea6757c7576c753c010a4d2038e7775e814b0ebb4"), looks := true }, kinds := [], alts := [], laidByText := true, laidKinds := [.handle], laidTests := true, laidLooks := .later }
def CheckMayCardSaid : Prop := Claim7.holds Tryd.pinned (.plain (OpenSpec.ofChange checkMaySpec)) checkMayCard

/-- THE TIED CARD OF 'levellinglaw20.CheckRows'. -/
def checkRowsCard : Claim7 := { stood := { row := checkRowsRow, standIns := [], harness := (true, "e18a2fc7a9d9682a0fce499ea6757c7576c753c010a4d2038e7775e814b0ebb4"), looks := true }, kinds := [], alts := [], laidByText := true, laidKinds := [.handle], laidTests := true, laidLooks := .later }
def CheckRowsCardSaid : Prop := Claim7.holds Tryd.pinned (.plain (OpenSpec.ofChange checkRowsSpec)) checkRowsCard

/-- THE TIED CARD OF 'levellinglaw20.CheckMerges'. -/
def checkMergesCard : Claim7 := { stood := { row := checkMergesRow, standIns := [], harness := (true, "e18a2fc7a9d9682a0fce499ea6757c7576c753c010a4d2038e7775e814b0ebb4"), looks := true }, kinds := [], alts := [], laidByText := true, laidKinds := [.handle], laidTests := true, laidLooks := .later }
def CheckMergesCardSaid : Prop := Claim7.holds Tryd.pinned (.plain (OpenSpec.ofChange checkMergesSpec)) checkMergesCard

/-- THE TIED CARD OF 'levellinglaw20.CheckParts'. -/
def checkPartsCard : Claim7 := { stood := { row := checkPartsRow, standIns := [], harness := (true, "e18a2fc7a9d9682a0fce499ea6757c7576c753c010a4d2038e7775e814b0ebb4"), looks := true }, kinds := [], alts := [], laidByText := true, laidKinds := [.handle], laidTests := true, laidLooks := .later }
def CheckPartsCardSaid : Prop := Claim7.holds Tryd.pinned (.plain (OpenSpec.ofChange checkPartsSpec)) checkPartsCard

/-- THE SECOND FORM's CARD OF 'levellinglaw20.CheckMay'. -/
def checkMayUptoCard : Claim7 := { stood := { row := checkMayUptoRow, standIns := [], harness := (true, "e18a2fc7a9d9682a0fce499ea6757c7576c753c010a4d2038e7775e814b0ebb4"), looks := true }, kinds := [], alts := [], laidByText := true, laidKinds := [.handle], laidTests := true, laidLooks := .later }
def CheckMayUptoCardSaid : Prop := Claim7.holds Tryd.pinned (.plain (OpenSpec.upto checkMaySpec)) checkMayUptoCard

/-- THE SECOND FORM's CARD OF 'levellinglaw20.CheckRows'. -/
def checkRowsUptoCard : Claim7 := { stood := { row := checkRowsUptoRow, standIns := [], harness := (true, "e18a2fc7a9d9682a0fce499ea6757c7576c753c010a4d2038e7775e814b0ebb4"), looks := true }, kinds := [], alts := [], laidByText := true, laidKinds := [.handle], laidTests := true, laidLooks := .later }
def CheckRowsUptoCardSaid : Prop := Claim7.holds Tryd.pinned (.plain (OpenSpec.upto checkRowsSpec)) checkRowsUptoCard

/-- THE SECOND FORM's CARD OF 'levellinglaw20.CheckMerges'. -/
def checkMergesUptoCard : Claim7 := { stood := { row := checkMergesUptoRow, standIns := [], harness := (true, "e18a2fc7a9d9682a0fce499ea6757c7576c753c010a4d2038e7775e814b0ebb4"), looks := true }, kinds := [], alts := [], laidByText := true, laidKinds := [.handle], laidTests := true, laidLooks := .later }
def CheckMergesUptoCardSaid : Prop := Claim7.holds Tryd.pinned (.plain (OpenSpec.upto checkMergesSpec)) checkMergesUptoCard

/-- THE SECOND FORM's CARD OF 'levellinglaw20.CheckParts'. -/
def checkPartsUptoCard : Claim7 := { stood := { row := checkPartsUptoRow, standIns := [], harness := (true, "e18a2fc7a9d9682a0fce499ea6757c7576c753c010a4d2038e7775e814b0ebb4"), looks := true }, kinds := [], alts := [], laidByText := true, laidKinds := [.handle], laidTests := true, laidLooks := .later }
def CheckPartsUptoCardSaid : Prop := Claim7.holds Tryd.pinned (.plain (OpenSpec.upto checkPartsSpec)) checkPartsUptoCard
end Rows
end Go.Proofs.YtojoikbgdjcfdaaDoor
