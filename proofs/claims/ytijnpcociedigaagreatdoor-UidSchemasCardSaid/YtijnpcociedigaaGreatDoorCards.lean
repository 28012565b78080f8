/-
  DERIVED. GIVEN WITH THE SEED: THE CARDS: each row of YtijnpcociedigaaGreatDoorRows.lean that lists a variable, with what it lists TIED to the program's text (the seventh form; the later family's looks); each row that meets fmt, with fmt's text TOLD by the authors' own Lean function (tested against real Go, not proved from fmt's source: count such statements apart). THE CARD IS WHAT COUNTS. Prove the row's statement (the work); the ties are given (YtijnpcociedigaaGreatDoorTie.lean); close each card by the builder's one call (the guide's Derived/Test/ToyasCard.lean, 'card_holds'). Laid BY PROGRAM, IN A SANDBOX (cutbox-door.mjs). By AI agents, Wed Nov 11 2026. No macro, syntax, notation, axiom, sorry.
-/
import Derived.Test.YtijnpcociedigaaGreatDoorRows
import GoSem.ClaimSeven
namespace Go.Proofs.YtijnpcociedigaaGreatDoor
namespace Rows

/-- THE TIED CARD OF 'runnellaw9.UidAny'. -/
def uidAnyCard : Claim7 := { stood := { row := uidAnyRow, standIns := [], harness := (true, "338ac510cee522fbea4f411d8581dfaf9d45056fa2bfa1a52d70f1f61cbde30e"), looks := false }, kinds := [], alts := [], laidByText := true, laidKinds := [.data, .data, .data], laidTests := true, laidLooks := .later }
def UidAnyCardSaid : Prop := Claim7.holds Tryz.pinned (.plain (OpenSpec.ofChange uidAnySpec)) uidAnyCard

/-- THE TIED CARD OF 'runnellaw9.UidStays'. -/
def uidStaysCard : Claim7 := { stood := { row := uidStaysRow, standIns := [], harness := (true, "338ac510cee522fbea4f411d8581dfaf9d45056fa2bfa1a52d70f1f61cbde30e"), looks := false }, kinds := [], alts := [], laidByText := true, laidKinds := [.data, .data, .data], laidTests := true, laidLooks := .later }
def UidStaysCardSaid : Prop := Claim7.holds Tryz.pinned (.plain (OpenSpec.ofChange uidStaysSpec)) uidStaysCard

/-- THE TIED CARD OF 'runnellaw9.UidNamed'. -/
def uidNamedCard : Claim7 := { stood := { row := uidNamedRow, standIns := [], harness := (true, "338ac510cee522fbea4f411d8581dfaf9d45056fa2bfa1a52d70f1f61cbde30e"), looks := false }, kinds := [], alts := [], laidByText := true, laidKinds := [.data, .data, .data], laidTests := true, laidLooks := .later }
def UidNamedCardSaid : Prop := Claim7.holds Tryz.pinned (.plain (OpenSpec.ofChange uidNamedSpec)) uidNamedCard

/-- THE TIED CARD OF 'runnellaw9.UidSchemas'. -/
def uidSchemasCard : Claim7 := { stood := { row := uidSchemasRow, standIns := [], harness := (true, "338ac510cee522fbea4f411d8581dfaf9d45056fa2bfa1a52d70f1f61cbde30e"), looks := false }, kinds := [], alts := [], laidByText := true, laidKinds := [.data, .data, .data], laidTests := true, laidLooks := .later }
def UidSchemasCardSaid : Prop := Claim7.holds Tryz.pinned (.plain (OpenSpec.ofChange uidSchemasSpec)) uidSchemasCard

/-- THE SECOND FORM's CARD OF 'runnellaw9.UidAny'. -/
def uidAnyUptoCard : Claim7 := { stood := { row := uidAnyUptoRow, standIns := [], harness := (true, "338ac510cee522fbea4f411d8581dfaf9d45056fa2bfa1a52d70f1f61cbde30e"), looks := false }, kinds := [], alts := [], laidByText := true, laidKinds := [.data, .data, .data], laidTests := true, laidLooks := .later }
def UidAnyUptoCardSaid : Prop := Claim7.holds Tryz.pinned (.plain (OpenSpec.upto uidAnySpec)) uidAnyUptoCard

/-- THE SECOND FORM's CARD OF 'runnellaw9.UidStays'. -/
def uidStaysUptoCard : Claim7 := { stood := { row := uidStaysUptoRow, standIns := [], harness := (true, "338ac510cee522fbea4f411d8581dfaf9d45056fa2bfa1a52d70f1f61cbde30e"), looks := false }, kinds := [], alts := [], laidByText := true, laidKinds := [.data, .data, .data], laidTests := true, laidLooks := .later }
def UidStaysUptoCardSaid : Prop := Claim7.holds Tryz.pinned (.plain (OpenSpec.upto uidStaysSpec)) uidStaysUptoCard

/-- THE SECOND FORM's CARD OF 'runnellaw9.UidNamed'. -/
def uidNamedUptoCard : Claim7 := { stood := { row := uidNamedUptoRow, standIns := [], harness := (true, "338ac510cee522fbea4f411d8581dfaf9d45056fa2bfa1a52d70f1f61cbde30e"), looks := false }, kinds := [], alts := [], laidByText := true, laidKinds := [.data, .data, .data], laidTests := true, laidLooks := .later }
def UidNamedUptoCardSaid : Prop := Claim7.holds Tryz.pinned (.plain (OpenSpec.upto uidNamedSpec)) uidNamedUptoCard

/-- THE SECOND FORM's CARD OF 'runnellaw9.UidSchemas'. -/
def uidSchemasUptoCard : Claim7 := { stood := { row := uidSchemasUptoRow, standIns := [], harness := (true, "338ac510cee522fbea4f411d8581dfaf9d45056fa2bfa1a52d70f1f61cbde30e"), looks := false }, kinds := [], alts := [], laidByText := true, laidKinds := [.data, .data, .data], laidTests := true, laidLooks := .later }
def UidSchemasUptoCardSaid : Prop := Claim7.holds Tryz.pinned (.plain (OpenSpec.upto uidSchemasSpec)) uidSchemasUptoCard
end Rows
end Go.Proofs.YtijnpcociedigaaGreatDoor
