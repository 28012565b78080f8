/-
  DERIVED. GIVEN WITH THE SEED: THE CARDS: each row of YtgfnodmghaghpaaGreatDoorRows.lean that lists a variable, with what it lists TIED to the program's text (the seventh form; the later family's looks); each row that meets fmt, with fmt's text TOLD by the authors' own Lean function (tested against real Go, not proved from fmt's source: count such statements apart). THE CARD IS WHAT COUNTS. Prove the row's statement (the work); the ties are given (YtgfnodmghaghpaaGreatDoorTie.lean); close each card by the builder's one call (the guide's Derived/Test/ToyasCard.lean, 'card_holds'). Laid BY PROGRAM, IN A SANDBOX (cutbox-door.mjs). By AI agents, Wed Nov 11 2026. No macro, syntax, notation, axiom, sorry.
-/
import Derived.Test.YtgfnodmghaghpaaGreatDoorRows
import GoSem.ClaimSeven
namespace Go.Proofs.YtgfnodmghaghpaaGreatDoor
namespace Rows

/-- THE TIED CARD OF 'runnellaw13.VerGen'. -/
def verGenCard : Claim7 := { stood := { row := verGenRow, standIns := [], harness := (true, "d931b3e8ea94d7d110e98084696db1d2c0dfabba7fa9dea47280ae4b9c6355e7"), looks := true }, kinds := [], alts := [], laidByText := true, laidKinds := [.listed, .data], laidTests := true, laidLooks := .later }
def VerGenCardSaid : Prop := Claim7.holds Tryz.pinned (.plain (OpenSpec.ofChange verGenSpec)) verGenCard

/-- THE TIED CARD OF 'runnellaw5.ParseBack'. -/
def parseBackCard : Claim7 := { stood := { row := parseBackRow, standIns := [], harness := (true, "d931b3e8ea94d7d110e98084696db1d2c0dfabba7fa9dea47280ae4b9c6355e7"), looks := true }, kinds := [], alts := [], laidByText := true, laidKinds := [.data, .data, .data, .sentinel, .sentinel], laidTests := true, laidLooks := .later }
def ParseBackCardSaid : Prop := Claim7.holds Tryz.pinned (.plain (OpenSpec.ofChange parseBackSpec)) parseBackCard

/-- THE TIED CARD OF 'runnellaw5.ParseValues'. -/
def parseValuesCard : Claim7 := { stood := { row := parseValuesRow, standIns := [], harness := (true, "d931b3e8ea94d7d110e98084696db1d2c0dfabba7fa9dea47280ae4b9c6355e7"), looks := true }, kinds := [], alts := [], laidByText := true, laidKinds := [.data, .data, .data, .sentinel, .sentinel], laidTests := true, laidLooks := .later }
def ParseValuesCardSaid : Prop := Claim7.holds Tryz.pinned (.plain (OpenSpec.ofChange parseValuesSpec)) parseValuesCard

/-- THE SECOND FORM's CARD OF 'runnellaw13.VerGen'. -/
def verGenUptoCard : Claim7 := { stood := { row := verGenUptoRow, standIns := [], harness := (true, "d931b3e8ea94d7d110e98084696db1d2c0dfabba7fa9dea47280ae4b9c6355e7"), looks := true }, kinds := [], alts := [], laidByText := true, laidKinds := [.listed, .data], laidTests := true, laidLooks := .later }
def VerGenUptoCardSaid : Prop := Claim7.holds Tryz.pinned (.plain (OpenSpec.upto verGenSpec)) verGenUptoCard

/-- THE SECOND FORM's CARD OF 'runnellaw5.ParseBack'. -/
def parseBackUptoCard : Claim7 := { stood := { row := parseBackUptoRow, standIns := [], harness := (true, "d931b3e8ea94d7d110e98084696db1d2c0dfabba7fa9dea47280ae4b9c6355e7"), looks := true }, kinds := [], alts := [], laidByText := true, laidKinds := [.data, .data, .data, .sentinel, .sentinel], laidTests := true, laidLooks := .later }
def ParseBackUptoCardSaid : Prop := Claim7.holds Tryz.pinned (.plain (OpenSpec.upto parseBackSpec)) parseBackUptoCard

/-- THE SECOND FORM's CARD OF 'runnellaw5.ParseValues'. -/
def parseValuesUptoCard : Claim7 := { stood := { row := parseValuesUptoRow, standIns := [], harness := (true, "d931b3e8ea94d7d110e98084696db1d2c0dfabba7fa9dea47280ae4b9c6355e7"), looks := true }, kinds := [], alts := [], laidByText := true, laidKinds := [.data, .data, .data, .sentinel, .sentinel], laidTests := true, laidLooks := .later }
def ParseValuesUptoCardSaid : Prop := Claim7.holds Tryz.pinned (.plain (OpenSpec.upto parseValuesSpec)) parseValuesUptoCard
end Rows
end Go.Proofs.YtgfnodmghaghpaaGreatDoor
