/-
  DERIVED. GIVEN WITH THE SEED: THE CARDS: each row of YtgfnodmghaghpaaDoorRows.lean that lists a variable, with what it lists TIED to the program's text (the seventh form; the later family's looks); each row that meets fmt, with fmt's text TOLD by the authors' own Lean function (tested against real Go, not proved from fmt's source: count such statements apart). THE CARD IS WHAT COUNTS. Prove the row's statement (the work); the ties are given (YtgfnodmghaghpaaDoorTie.lean); close each card by the builder's one call (the guide's Derived/Test/ToyasCard.lean, 'card_holds'). Laid BY PROGRAM, IN A SANDBOX (cutbox-door.mjs). By AI agents, Wed Nov 11 2026. No macro, syntax, notation, axiom, sorry.
-/
import Derived.Test.YtgfnodmghaghpaaDoorRows
import GoSem.ClaimSeven
namespace Go.Proofs.YtgfnodmghaghpaaDoor
namespace Rows

/-- THE TIED CARD OF 'runnellaw11.CodeJumps'. -/
def codeJumpsCard : Claim7 := { stood := { row := codeJumpsRow, standIns := [], harness := (true, "e6724c63da75248569606bee188fb0285f8f01e6669f2f9d6baa26bcd8d968b7"), looks := false }, kinds := [], alts := [], laidByText := true, laidKinds := [.data, .data, .data, .listed, .data], laidTests := true, laidLooks := .later }
def CodeJumpsCardSaid : Prop := Claim7.holds Tryd.pinned (.plain (OpenSpec.ofChange codeJumpsSpec)) codeJumpsCard

/-- THE TIED CARD OF 'runnellaw11.CodePush'. -/
def codePushCard : Claim7 := { stood := { row := codePushRow, standIns := [], harness := (true, "e6724c63da75248569606bee188fb0285f8f01e6669f2f9d6baa26bcd8d968b7"), looks := false }, kinds := [], alts := [], laidByText := true, laidKinds := [.data, .data, .data, .listed, .data], laidTests := true, laidLooks := .later }
def CodePushCardSaid : Prop := Claim7.holds Tryd.pinned (.plain (OpenSpec.ofChange codePushSpec)) codePushCard

/-- THE SECOND FORM's CARD OF 'runnellaw11.CodeJumps'. -/
def codeJumpsUptoCard : Claim7 := { stood := { row := codeJumpsUptoRow, standIns := [], harness := (true, "e6724c63da75248569606bee188fb0285f8f01e6669f2f9d6baa26bcd8d968b7"), looks := false }, kinds := [], alts := [], laidByText := true, laidKinds := [.data, .data, .data, .listed, .data], laidTests := true, laidLooks := .later }
def CodeJumpsUptoCardSaid : Prop := Claim7.holds Tryd.pinned (.plain (OpenSpec.upto codeJumpsSpec)) codeJumpsUptoCard

/-- THE SECOND FORM's CARD OF 'runnellaw11.CodePush'. -/
def codePushUptoCard : Claim7 := { stood := { row := codePushUptoRow, standIns := [], harness := (true, "e6724c63da75248569606bee188fb0285f8f01e6669f2f9d6baa26bcd8d968b7"), looks := false }, kinds := [], alts := [], laidByText := true, laidKinds := [.data, .data, .data, .listed, .data], laidTests := true, laidLooks := .later }
def CodePushUptoCardSaid : Prop := Claim7.holds Tryd.pinned (.plain (OpenSpec.upto codePushSpec)) codePushUptoCard
end Rows
end Go.Proofs.YtgfnodmghaghpaaDoor
