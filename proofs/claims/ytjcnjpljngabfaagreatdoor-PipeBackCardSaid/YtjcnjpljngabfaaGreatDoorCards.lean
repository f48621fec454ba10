/-
  DERIVED. GIVEN WITH THE SEED: THE CARDS: each row of YtjcnjpljngabfaaGreatDoorRows.lean that lists a variable, with what it lists TIED to the program's text (the seventh form; the later family's looks); each row that meets fmt, with fmt's text TOLD by the authors' own Lean function (tested against real Go, not proved from fmt's source: count such statements apart). THE CARD IS WHAT COUNTS. Prove the row's statement (the work); the ties are given (YtjcnjpljngabfaaGreatDoorTie.lean); close each card by the builder's one call (the guide's Derived/Test/ToyasCard.lean, 'card_holds'). Laid BY PROGRAM, IN A SANDBOX (cutbox-door.mjs). By AI agents, Wed Nov 11 2026. No macro, syntax, notation, axiom, sorry.
-/
import Derived.Test.YtjcnjpljngabfaaGreatDoorRows
import GoSem.ClaimSeven
namespace Go.Proofs.YtjcnjpljngabfaaGreatDoor
namespace Rows

/-- THE TIED CARD OF 'dragnetlaw24.PipeReads'. -/
def pipeReadsCard : Claim7 := { stood := { row := pipeReadsRow, standIns := [], harness := (true, "1e49753b9d6c436035946d5cb509861ff81868810dd67bd2e1835d037878b2a4"), looks := true }, kinds := [], alts := [], laidByText := true, laidKinds := [.data, .data, .data, .sentinel, .sentinel], laidTests := true, laidLooks := .later }
def PipeReadsCardSaid : Prop := Claim7.holds Tryz.pinned (.plain (OpenSpec.ofChange pipeReadsSpec)) pipeReadsCard

/-- THE TIED CARD OF 'dragnetlaw24.PipePrints'. -/
def pipePrintsCard : Claim7 := { stood := { row := pipePrintsRow, standIns := [], harness := (true, "1e49753b9d6c436035946d5cb509861ff81868810dd67bd2e1835d037878b2a4"), looks := true }, kinds := [], alts := [], laidByText := true, laidKinds := [.data, .data, .data, .sentinel, .sentinel], laidTests := true, laidLooks := .later }
def PipePrintsCardSaid : Prop := Claim7.holds Tryz.pinned (.plain (OpenSpec.ofChange pipePrintsSpec)) pipePrintsCard

/-- THE TIED CARD OF 'dragnetlaw24.PipePlays'. -/
def pipePlaysCard : Claim7 := { stood := { row := pipePlaysRow, standIns := [], harness := (true, "1e49753b9d6c436035946d5cb509861ff81868810dd67bd2e1835d037878b2a4"), looks := true }, kinds := [], alts := [], laidByText := true, laidKinds := [.data, .data, .data, .sentinel, .sentinel], laidTests := true, laidLooks := .later }
def PipePlaysCardSaid : Prop := Claim7.holds Tryz.pinned (.plain (OpenSpec.ofChange pipePlaysSpec)) pipePlaysCard

/-- THE TIED CARD OF 'dragnetlaw24.PipeBack'. -/
def pipeBackCard : Claim7 := { stood := { row := pipeBackRow, standIns := [], harness := (true, "1e49753b9d6c436035946d5cb509861ff81868810dd67bd2e1835d037878b2a4"), looks := true }, kinds := [], alts := [], laidByText := true, laidKinds := [.data, .data, .data, .sentinel, .sentinel], laidTests := true, laidLooks := .later }
def PipeBackCardSaid : Prop := Claim7.holds Tryz.pinned (.plain (OpenSpec.ofChange pipeBackSpec)) pipeBackCard

/-- THE TIED CARD OF 'dragnetlaw24.PipeAgain'. -/
def pipeAgainCard : Claim7 := { stood := { row := pipeAgainRow, standIns := [], harness := (true, "1e49753b9d6c436035946d5cb509861ff81868810dd67bd2e1835d037878b2a4"), looks := true }, kinds := [], alts := [], laidByText := true, laidKinds := [.data, .data, .data, .sentinel, .sentinel], laidTests := true, laidLooks := .later }
def PipeAgainCardSaid : Prop := Claim7.holds Tryz.pinned (.plain (OpenSpec.ofChange pipeAgainSpec)) pipeAgainCard

/-- THE TIED CARD OF 'dragnetlaw24.PipeMerges'. -/
def pipeMergesCard : Claim7 := { stood := { row := pipeMergesRow, standIns := [], harness := (true, "1e49753b9d6c436035946d5cb509861ff81868810dd67bd2e1835d037878b2a4"), looks := true }, kinds := [], alts := [], laidByText := true, laidKinds := [.data, .data, .data, .sentinel, .sentinel], laidTests := true, laidLooks := .later }
def PipeMergesCardSaid : Prop := Claim7.holds Tryz.pinned (.plain (OpenSpec.ofChange pipeMergesSpec)) pipeMergesCard

/-- THE TIED CARD OF 'dragnetlaw24.PipeCuts'. -/
def pipeCutsCard : Claim7 := { stood := { row := pipeCutsRow, standIns := [], harness := (true, "1e49753b9d6c436035946d5cb509861ff81868810dd67bd2e1835d037878b2a4"), looks := true }, kinds := [], alts := [], laidByText := true, laidKinds := [.data, .data, .data, .sentinel, .sentinel], laidTests := true, laidLooks := .later }
def PipeCutsCardSaid : Prop := Claim7.holds Tryz.pinned (.plain (OpenSpec.ofChange pipeCutsSpec)) pipeCutsCard

/-- THE SECOND FORM's CARD OF 'dragnetlaw24.PipeReads'. -/
def pipeReadsUptoCard : Claim7 := { stood := { row := pipeReadsUptoRow, standIns := [], harness := (true, "1e49753b9d6c436035946d5cb509861ff81868810dd67bd2e1835d037878b2a4"), looks := true }, kinds := [], alts := [], laidByText := true, laidKinds := [.data, .data, .data, .sentinel, .sentinel], laidTests := true, laidLooks := .later }
def PipeReadsUptoCardSaid : Prop := Claim7.holds Tryz.pinned (.plain (OpenSpec.upto pipeReadsSpec)) pipeReadsUptoCard

/-- THE SECOND FORM's CARD OF 'dragnetlaw24.PipePrints'. -/
def pipePrintsUptoCard : Claim7 := { stood := { row := pipePrintsUptoRow, standIns := [], harness := (true, "1e49753b9d6c436035946d5cb509861ff81868810dd67bd2e1835d037878b2a4"), looks := true }, kinds := [], alts := [], laidByText := true, laidKinds := [.data, .data, .data, .sentinel, .sentinel], laidTests := true, laidLooks := .later }
def PipePrintsUptoCardSaid : Prop := Claim7.holds Tryz.pinned (.plain (OpenSpec.upto pipePrintsSpec)) pipePrintsUptoCard

/-- THE SECOND FORM's CARD OF 'dragnetlaw24.PipePlays'. -/
def pipePlaysUptoCard : Claim7 := { stood := { row := pipePlaysUptoRow, standIns := [], harness := (true, "1e49753b9d6c436035946d5cb509861ff81868810dd67bd2e1835d037878b2a4"), looks := true }, kinds := [], alts := [], laidByText := true, laidKinds := [.data, .data, .data, .sentinel, .sentinel], laidTests := true, laidLooks := .later }
def PipePlaysUptoCardSaid : Prop := Claim7.holds Tryz.pinned (.plain (OpenSpec.upto pipePlaysSpec)) pipePlaysUptoCard

/-- THE SECOND FORM's CARD OF 'dragnetlaw24.PipeBack'. -/
def pipeBackUptoCard : Claim7 := { stood := { row := pipeBackUptoRow, standIns := [], harness := (true, "1e49753b9d6c436035946d5cb509861ff81868810dd67bd2e1835d037878b2a4"), looks := true }, kinds := [], alts := [], laidByText := true, laidKinds := [.data, .data, .data, .sentinel, .sentinel], laidTests := true, laidLooks := .later }
def PipeBackUptoCardSaid : Prop := Claim7.holds Tryz.pinned (.plain (OpenSpec.upto pipeBackSpec)) pipeBackUptoCard

/-- THE SECOND FORM's CARD OF 'dragnetlaw24.PipeAgain'. -/
def pipeAgainUptoCard : Claim7 := { stood := { row := pipeAgainUptoRow, standIns := [], harness := (true, "1e49753b9d6c436035946d5cb509861ff81868810dd67bd2e1835d037878b2a4"), looks := true }, kinds := [], alts := [], laidByText := true, laidKinds := [.data, .data, .data, .sentinel, .sentinel], laidTests := true, laidLooks := .later }
def PipeAgainUptoCardSaid : Prop := Claim7.holds Tryz.pinned (.plain (OpenSpec.upto pipeAgainSpec)) pipeAgainUptoCard

/-- THE SECOND FORM's CARD OF 'dragnetlaw24.PipeMerges'. -/
def pipeMergesUptoCard : Claim7 := { stood := { row := pipeMergesUptoRow, standIns := [], harness := (true, "1e49753b9d6c436035946d5cb509861ff81868810dd67bd2e1835d037878b2a4"), looks := true }, kinds := [], alts := [], laidByText := true, laidKinds := [.data, .data, .data, .sentinel, .sentinel], laidTests := true, laidLooks := .later }
def PipeMergesUptoCardSaid : Prop := Claim7.holds Tryz.pinned (.plain (OpenSpec.upto pipeMergesSpec)) pipeMergesUptoCard

/-- THE SECOND FORM's CARD OF 'dragnetlaw24.PipeCuts'. -/
def pipeCutsUptoCard : Claim7 := { stood := { row := pipeCutsUptoRow, standIns := [], harness := (true, "1e49753b9d6c436035946d5cb509861ff81868810dd67bd2e1835d037878b2a4"), looks := true }, kinds := [], alts := [], laidByText := true, laidKinds := [.data, .data, .data, .sentinel, .sentinel], laidTests := true, laidLooks := .later }
def PipeCutsUptoCardSaid : Prop := Claim7.holds Tryz.pinned (.plain (OpenSpec.upto pipeCutsSpec)) pipeCutsUptoCard
end Rows
end Go.Proofs.YtjcnjpljngabfaaGreatDoor
