/-
  DERIVED. GIVEN WITH THE SEED: THE CARDS: each row of YtgnkmahdcomjcaaGreatDoorRows.lean that lists a variable, with what it lists TIED to the program's text (the seventh form; the later family's looks); each row that meets fmt, with fmt's text TOLD by the authors' own Lean function (tested against real Go, not proved from fmt's source: count such statements apart). THE CARD IS WHAT COUNTS. Prove the row's statement (the work); the ties are given (YtgnkmahdcomjcaaGreatDoorTie.lean); close each card by the builder's one call (the guide's Derived/Test/ToyasCard.lean, 'card_holds'). Laid BY PROGRAM, IN A SANDBOX (cutbox-door.mjs). By AI agents, Wed Nov 11 2026. No macro, syntax, notation, axiom, sorry.
-/
import Derived.Test.YtgnkmahdcomjcaaGreatDoorRows
import GoSem.ClaimSeven
namespace Go.Proofs.YtgnkmahdcomjcaaGreatDoor
namespace Rows

/-- THE TIED CARD OF 'dynamolaw11.CheckWrong'. -/
def checkWrongCard : Claim7 := { stood := { row := checkWrongRow, standIns := [], harness := (true, "2d6681ad05b437cb0d5cbf9b05decc72387cee5631fe409e3b0d65692266b791"), looks := true }, kinds := [], alts := [], laidByText := true, laidKinds := [.handle], laidTests := true, laidLooks := .later }
def CheckWrongCardSaid : Prop := Claim7.holds Tryz.pinned (.plain (OpenSpec.ofChange checkWrongSpec)) checkWrongCard

/-- THE TIED CARD OF 'dynamolaw11.CheckParts'. -/
def checkPartsCard : Claim7 := { stood := { row := checkPartsRow, standIns := [], harness := (true, "2d6681ad05b437cb0d5cbf9b05decc72387cee5631fe409e3b0d65692266b791"), looks := true }, kinds := [], alts := [], laidByText := true, laidKinds := [.handle], laidTests := true, laidLooks := .later }
def CheckPartsCardSaid : Prop := Claim7.holds Tryz.pinned (.plain (OpenSpec.ofChange checkPartsSpec)) checkPartsCard

/-- THE TIED CARD OF 'dynamolaw11.CheckWhole'. -/
def checkWholeCard : Claim7 := { stood := { row := checkWholeRow, standIns := [], harness := (true, "2d6681ad05b437cb0d5cbf9b05decc72387cee5631fe409e3b0d65692266b791"), looks := true }, kinds := [], alts := [], laidByText := true, laidKinds := [.handle], laidTests := true, laidLooks := .later }
def CheckWholeCardSaid : Prop := Claim7.holds Tryz.pinned (.plain (OpenSpec.ofChange checkWholeSpec)) checkWholeCard

/-- THE TIED CARD OF 'dynamolaw13.LedOnes'. -/
def ledOnesCard : Claim7 := { stood := { row := ledOnesRow, standIns := [], harness := (true, "2d6681ad05b437cb0d5cbf9b05decc72387cee5631fe409e3b0d65692266b791"), looks := true }, kinds := [], alts := [], laidByText := true, laidKinds := [.handle], laidTests := true, laidLooks := .later }
def LedOnesCardSaid : Prop := Claim7.holds Tryz.pinned (.plain (OpenSpec.ofChange ledOnesSpec)) ledOnesCard

/-- THE TIED CARD OF 'dynamolaw13.LedAgain'. -/
def ledAgainCard : Claim7 := { stood := { row := ledAgainRow, standIns := [], harness := (true, "2d6681ad05b437cb0d5cbf9b05decc72387cee5631fe409e3b0d65692266b791"), looks := true }, kinds := [], alts := [], laidByText := true, laidKinds := [.handle], laidTests := true, laidLooks := .later }
def LedAgainCardSaid : Prop := Claim7.holds Tryz.pinned (.plain (OpenSpec.ofChange ledAgainSpec)) ledAgainCard

/-- THE TIED CARD OF 'dynamolaw13.LedRefuses'. -/
def ledRefusesCard : Claim7 := { stood := { row := ledRefusesRow, standIns := [], harness := (true, "2d6681ad05b437cb0d5cbf9b05decc72387cee5631fe409e3b0d65692266b791"), looks := true }, kinds := [], alts := [], laidByText := true, laidKinds := [.handle], laidTests := true, laidLooks := .later }
def LedRefusesCardSaid : Prop := Claim7.holds Tryz.pinned (.plain (OpenSpec.ofChange ledRefusesSpec)) ledRefusesCard

/-- THE TIED CARD OF 'dynamolaw13.LedTorn'. -/
def ledTornCard : Claim7 := { stood := { row := ledTornRow, standIns := [], harness := (true, "2d6681ad05b437cb0d5cbf9b05decc72387cee5631fe409e3b0d65692266b791"), looks := true }, kinds := [], alts := [], laidByText := true, laidKinds := [.handle], laidTests := true, laidLooks := .later }
def LedTornCardSaid : Prop := Claim7.holds Tryz.pinned (.plain (OpenSpec.ofChange ledTornSpec)) ledTornCard

/-- THE TIED CARD OF 'dynamolaw13.LedLasts'. -/
def ledLastsCard : Claim7 := { stood := { row := ledLastsRow, standIns := [], harness := (true, "2d6681ad05b437cb0d5cbf9b05decc72387cee5631fe409e3b0d65692266b791"), looks := true }, kinds := [], alts := [], laidByText := true, laidKinds := [.handle], laidTests := true, laidLooks := .later }
def LedLastsCardSaid : Prop := Claim7.holds Tryz.pinned (.plain (OpenSpec.ofChange ledLastsSpec)) ledLastsCard

/-- THE SECOND FORM's CARD OF 'dynamolaw11.CheckWrong'. -/
def checkWrongUptoCard : Claim7 := { stood := { row := checkWrongUptoRow, standIns := [], harness := (true, "2d6681ad05b437cb0d5cbf9b05decc72387cee5631fe409e3b0d65692266b791"), looks := true }, kinds := [], alts := [], laidByText := true, laidKinds := [.handle], laidTests := true, laidLooks := .later }
def CheckWrongUptoCardSaid : Prop := Claim7.holds Tryz.pinned (.plain (OpenSpec.upto checkWrongSpec)) checkWrongUptoCard

/-- THE SECOND FORM's CARD OF 'dynamolaw11.CheckParts'. -/
def checkPartsUptoCard : Claim7 := { stood := { row := checkPartsUptoRow, standIns := [], harness := (true, "2d6681ad05b437cb0d5cbf9b05decc72387cee5631fe409e3b0d65692266b791"), looks := true }, kinds := [], alts := [], laidByText := true, laidKinds := [.handle], laidTests := true, laidLooks := .later }
def CheckPartsUptoCardSaid : Prop := Claim7.holds Tryz.pinned (.plain (OpenSpec.upto checkPartsSpec)) checkPartsUptoCard

/-- THE SECOND FORM's CARD OF 'dynamolaw11.CheckWhole'. -/
def checkWholeUptoCard : Claim7 := { stood := { row := checkWholeUptoRow, standIns := [], harness := (true, "2d6681ad05b437cb0d5cbf9b05decc72387cee5631fe409e3b0d65692266b791"), looks := true }, kinds := [], alts := [], laidByText := true, laidKinds := [.handle], laidTests := true, laidLooks := .later }
def CheckWholeUptoCardSaid : Prop := Claim7.holds Tryz.pinned (.plain (OpenSpec.upto checkWholeSpec)) checkWholeUptoCard

/-- THE SECOND FORM's CARD OF 'dynamolaw13.LedOnes'. -/
def ledOnesUptoCard : Claim7 := { stood := { row := ledOnesUptoRow, standIns := [], harness := (true, "2d6681ad05b437cb0d5cbf9b05decc72387cee5631fe409e3b0d65692266b791"), looks := true }, kinds := [], alts := [], laidByText := true, laidKinds := [.handle], laidTests := true, laidLooks := .later }
def LedOnesUptoCardSaid : Prop := Claim7.holds Tryz.pinned (.plain (OpenSpec.upto ledOnesSpec)) ledOnesUptoCard

/-- THE SECOND FORM's CARD OF 'dynamolaw13.LedAgain'. -/
def ledAgainUptoCard : Claim7 := { stood := { row := ledAgainUptoRow, standIns := [], harness := (true, "2d6681ad05b437cb0d5cbf9b05decc72387cee5631fe409e3b0d65692266b791"), looks := true }, kinds := [], alts := [], laidByText := true, laidKinds := [.handle], laidTests := true, laidLooks := .later }
def LedAgainUptoCardSaid : Prop := Claim7.holds Tryz.pinned (.plain (OpenSpec.upto ledAgainSpec)) ledAgainUptoCard

/-- THE SECOND FORM's CARD OF 'dynamolaw13.LedRefuses'. -/
def ledRefusesUptoCard : Claim7 := { stood := { row := ledRefusesUptoRow, standIns := [], harness := (true, "2d6681ad05b437cb0d5cbf9b05decc72387cee5631fe409e3b0d65692266b791"), looks := true }, kinds := [], alts := [], laidByText := true, laidKinds := [.handle], laidTests := true, laidLooks := .later }
def LedRefusesUptoCardSaid : Prop := Claim7.holds Tryz.pinned (.plain (OpenSpec.upto ledRefusesSpec)) ledRefusesUptoCard

/-- THE SECOND FORM's CARD OF 'dynamolaw13.LedTorn'. -/
def ledTornUptoCard : Claim7 := { stood := { row := ledTornUptoRow, standIns := [], harness := (true, "2d6681ad05b437cb0d5cbf9b05decc72387cee5631fe409e3b0d65692266b791"), looks := true }, kinds := [], alts := [], laidByText := true, laidKinds := [.handle], laidTests := true, laidLooks := .later }
def LedTornUptoCardSaid : Prop := Claim7.holds Tryz.pinned (.plain (OpenSpec.upto ledTornSpec)) ledTornUptoCard

/-- THE SECOND FORM's CARD OF 'dynamolaw13.LedLasts'. -/
def ledLastsUptoCard : Claim7 := { stood := { row := ledLastsUptoRow, standIns := [], harness := (true, "2d6681ad05b437cb0d5cbf9b05decc72387cee5631fe409e3b0d65692266b791"), looks := true }, kinds := [], alts := [], laidByText := true, laidKinds := [.handle], laidTests := true, laidLooks := .later }
def LedLastsUptoCardSaid : Prop := Claim7.holds Tryz.pinned (.plain (OpenSpec.upto ledLastsSpec)) ledLastsUptoCard
end Rows
end Go.Proofs.YtgnkmahdcomjcaaGreatDoor
