/-
  DERIVED. GIVEN WITH THE SEED: THE CARDS: each row of YtkeckbmhaplkpaaGreatDoorRows.lean that lists a variable, with what it lists TIED to the program's text (the seventh form; the later family's looks); each row that meets fmt, with fmt's text TOLD by the authors' own Lean function (tested against real Go, not proved from fmt's source: count such statements apart). THE CARD IS WHAT COUNTS. Prove the row's statement (the work); the ties are given (YtkeckbmhaplkpaaGreatDoorTie.lean); close each card by the builder's one call (the guide's Derived/Test/ToyasCard.lean, 'card_holds'). Laid BY PROGRAM, IN A SANDBOX (cutbox-door.mjs). By AI agents, Wed Nov 11 2026. No macro, syntax, notation, axiom, sorry.
-/
import Derived.Test.YtkeckbmhaplkpaaGreatDoorRows
import GoSem.ClaimSeven
namespace Go.Proofs.YtkeckbmhaplkpaaGreatDoor
namespace Rows

/-- THE TIED CARD OF 'gimlettop.TopFuel'. -/
def topFuelCard : Claim7 := { stood := { row := topFuelRow, standIns := [], harness := (true, "55919d4a533e0927de9466b790cfd1b95586adee81ca3a9bc79af0907aeb9804"), looks := false }, kinds := [], alts := [], laidByText := true, laidKinds := [.data, .data, .data], laidTests := true, laidLooks := .later }
def TopFuelCardSaid : Prop := Claim7.holds Tryz.pinned (.plain (OpenSpec.ofChange topFuelSpec)) topFuelCard

/-- THE TIED CARD OF 'gimlettop.TopLines'. -/
def topLinesCard : Claim7 := { stood := { row := topLinesRow, standIns := [], harness := (true, "55919d4a533e0927de9466b790cfd1b95586adee81ca3a9bc79af0907aeb9804"), looks := false }, kinds := [], alts := [], laidByText := true, laidKinds := [.data, .data, .data], laidTests := true, laidLooks := .later }
def TopLinesCardSaid : Prop := Claim7.holds Tryz.pinned (.plain (OpenSpec.ofChange topLinesSpec)) topLinesCard

/-- THE TIED CARD OF 'gimlettop.TopIndents'. -/
def topIndentsCard : Claim7 := { stood := { row := topIndentsRow, standIns := [], harness := (true, "55919d4a533e0927de9466b790cfd1b95586adee81ca3a9bc79af0907aeb9804"), looks := false }, kinds := [], alts := [], laidByText := true, laidKinds := [.data, .data, .data], laidTests := true, laidLooks := .later }
def TopIndentsCardSaid : Prop := Claim7.holds Tryz.pinned (.plain (OpenSpec.ofChange topIndentsSpec)) topIndentsCard

/-- THE SECOND FORM's CARD OF 'gimlettop.TopFuel'. -/
def topFuelUptoCard : Claim7 := { stood := { row := topFuelUptoRow, standIns := [], harness := (true, "55919d4a533e0927de9466b790cfd1b95586adee81ca3a9bc79af0907aeb9804"), looks := false }, kinds := [], alts := [], laidByText := true, laidKinds := [.data, .data, .data], laidTests := true, laidLooks := .later }
def TopFuelUptoCardSaid : Prop := Claim7.holds Tryz.pinned (.plain (OpenSpec.upto topFuelSpec)) topFuelUptoCard

/-- THE SECOND FORM's CARD OF 'gimlettop.TopLines'. -/
def topLinesUptoCard : Claim7 := { stood := { row := topLinesUptoRow, standIns := [], harness := (true, "55919d4a533e0927de9466b790cfd1b95586adee81ca3a9bc79af0907aeb9804"), looks := false }, kinds := [], alts := [], laidByText := true, laidKinds := [.data, .data, .data], laidTests := true, laidLooks := .later }
def TopLinesUptoCardSaid : Prop := Claim7.holds Tryz.pinned (.plain (OpenSpec.upto topLinesSpec)) topLinesUptoCard

/-- THE SECOND FORM's CARD OF 'gimlettop.TopIndents'. -/
def topIndentsUptoCard : Claim7 := { stood := { row := topIndentsUptoRow, standIns := [], harness := (true, "55919d4a533e0927de9466b790cfd1b95586adee81ca3a9bc79af0907aeb9804"), looks := false }, kinds := [], alts := [], laidByText := true, laidKinds := [.data, .data, .data], laidTests := true, laidLooks := .later }
def TopIndentsUptoCardSaid : Prop := Claim7.holds Tryz.pinned (.plain (OpenSpec.upto topIndentsSpec)) topIndentsUptoCard
end Rows
end Go.Proofs.YtkeckbmhaplkpaaGreatDoor
