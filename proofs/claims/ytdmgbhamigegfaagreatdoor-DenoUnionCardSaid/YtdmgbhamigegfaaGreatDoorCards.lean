/-
  DERIVED. GIVEN WITH THE SEED: THE CARDS: each row of YtdmgbhamigegfaaGreatDoorRows.lean that lists a variable, with what it lists TIED to the program's text (the seventh form; the later family's looks); each row that meets fmt, with fmt's text TOLD by the authors' own Lean function (tested against real Go, not proved from fmt's source: count such statements apart). THE CARD IS WHAT COUNTS. Prove the row's statement (the work); the ties are given (YtdmgbhamigegfaaGreatDoorTie.lean); close each card by the builder's one call (the guide's Derived/Test/ToyasCard.lean, 'card_holds'). Laid BY PROGRAM, IN A SANDBOX (cutbox-door.mjs). By AI agents, Wed Nov 11 2026. No macro, syntax, notation, axiom, sorry.
-/
import Derived.Test.YtdmgbhamigegfaaGreatDoorRows
import GoSem.ClaimSeven
namespace Go.Proofs.YtdmgbhamigegfaaGreatDoor
namespace Rows

/-- THE TIED CARD OF 'runnellaw10.DenoBad'. -/
def denoBadCard : Claim7 := { stood := { row := denoBadRow, standIns := [], harness := (true, "8298e1a52fc9cff095e9bcce5903e950893fd54276efdf490b3f357dc94e56ca"), looks := false }, kinds := [], alts := [], laidByText := true, laidKinds := [.data, .data, .data], laidTests := true, laidLooks := .later }
def DenoBadCardSaid : Prop := Claim7.holds Tryz.pinned (.plain (OpenSpec.ofChange denoBadSpec)) denoBadCard

/-- THE TIED CARD OF 'runnellaw10.DenoUnion'. -/
def denoUnionCard : Claim7 := { stood := { row := denoUnionRow, standIns := [], harness := (true, "8298e1a52fc9cff095e9bcce5903e950893fd54276efdf490b3f357dc94e56ca"), looks := false }, kinds := [], alts := [], laidByText := true, laidKinds := [.data, .data, .data], laidTests := true, laidLooks := .later }
def DenoUnionCardSaid : Prop := Claim7.holds Tryz.pinned (.plain (OpenSpec.ofChange denoUnionSpec)) denoUnionCard

/-- THE TIED CARD OF 'runnellaw10.DenoCheck'. -/
def denoCheckCard : Claim7 := { stood := { row := denoCheckRow, standIns := [], harness := (true, "8298e1a52fc9cff095e9bcce5903e950893fd54276efdf490b3f357dc94e56ca"), looks := false }, kinds := [], alts := [], laidByText := true, laidKinds := [.data, .data, .data], laidTests := true, laidLooks := .later }
def DenoCheckCardSaid : Prop := Claim7.holds Tryz.pinned (.plain (OpenSpec.ofChange denoCheckSpec)) denoCheckCard

/-- THE TIED CARD OF 'runnellaw10.DenoTwo'. -/
def denoTwoCard : Claim7 := { stood := { row := denoTwoRow, standIns := [], harness := (true, "8298e1a52fc9cff095e9bcce5903e950893fd54276efdf490b3f357dc94e56ca"), looks := false }, kinds := [], alts := [], laidByText := true, laidKinds := [.data, .data, .data], laidTests := true, laidLooks := .later }
def DenoTwoCardSaid : Prop := Claim7.holds Tryz.pinned (.plain (OpenSpec.ofChange denoTwoSpec)) denoTwoCard

/-- THE TIED CARD OF 'runnellaw10.DenoFolds'. -/
def denoFoldsCard : Claim7 := { stood := { row := denoFoldsRow, standIns := [], harness := (true, "8298e1a52fc9cff095e9bcce5903e950893fd54276efdf490b3f357dc94e56ca"), looks := false }, kinds := [], alts := [], laidByText := true, laidKinds := [.data, .data, .data], laidTests := true, laidLooks := .later }
def DenoFoldsCardSaid : Prop := Claim7.holds Tryz.pinned (.plain (OpenSpec.ofChange denoFoldsSpec)) denoFoldsCard

/-- THE TIED CARD OF 'runnellaw10.DenoTallies'. -/
def denoTalliesCard : Claim7 := { stood := { row := denoTalliesRow, standIns := [], harness := (true, "8298e1a52fc9cff095e9bcce5903e950893fd54276efdf490b3f357dc94e56ca"), looks := false }, kinds := [], alts := [], laidByText := true, laidKinds := [.data, .data, .data], laidTests := true, laidLooks := .later }
def DenoTalliesCardSaid : Prop := Claim7.holds Tryz.pinned (.plain (OpenSpec.ofChange denoTalliesSpec)) denoTalliesCard

/-- THE SECOND FORM's CARD OF 'runnellaw10.DenoBad'. -/
def denoBadUptoCard : Claim7 := { stood := { row := denoBadUptoRow, standIns := [], harness := (true, "8298e1a52fc9cff095e9bcce5903e950893fd54276efdf490b3f357dc94e56ca"), looks := false }, kinds := [], alts := [], laidByText := true, laidKinds := [.data, .data, .data], laidTests := true, laidLooks := .later }
def DenoBadUptoCardSaid : Prop := Claim7.holds Tryz.pinned (.plain (OpenSpec.upto denoBadSpec)) denoBadUptoCard

/-- THE SECOND FORM's CARD OF 'runnellaw10.DenoUnion'. -/
def denoUnionUptoCard : Claim7 := { stood := { row := denoUnionUptoRow, standIns := [], harness := (true, "8298e1a52fc9cff095e9bcce5903e950893fd54276efdf490b3f357dc94e56ca"), looks := false }, kinds := [], alts := [], laidByText := true, laidKinds := [.data, .data, .data], laidTests := true, laidLooks := .later }
def DenoUnionUptoCardSaid : Prop := Claim7.holds Tryz.pinned (.plain (OpenSpec.upto denoUnionSpec)) denoUnionUptoCard

/-- THE SECOND FORM's CARD OF 'runnellaw10.DenoCheck'. -/
def denoCheckUptoCard : Claim7 := { stood := { row := denoCheckUptoRow, standIns := [], harness := (true, "8298e1a52fc9cff095e9bcce5903e950893fd54276efdf490b3f357dc94e56ca"), looks := false }, kinds := [], alts := [], laidByText := true, laidKinds := [.data, .data, .data], laidTests := true, laidLooks := .later }
def DenoCheckUptoCardSaid : Prop := Claim7.holds Tryz.pinned (.plain (OpenSpec.upto denoCheckSpec)) denoCheckUptoCard

/-- THE SECOND FORM's CARD OF 'runnellaw10.DenoTwo'. -/
def denoTwoUptoCard : Claim7 := { stood := { row := denoTwoUptoRow, standIns := [], harness := (true, "8298e1a52fc9cff095e9bcce5903e950893fd54276efdf490b3f357dc94e56ca"), looks := false }, kinds := [], alts := [], laidByText := true, laidKinds := [.data, .data, .data], laidTests := true, laidLooks := .later }
def DenoTwoUptoCardSaid : Prop := Claim7.holds Tryz.pinned (.plain (OpenSpec.upto denoTwoSpec)) denoTwoUptoCard

/-- THE SECOND FORM's CARD OF 'runnellaw10.DenoFolds'. -/
def denoFoldsUptoCard : Claim7 := { stood := { row := denoFoldsUptoRow, standIns := [], harness := (true, "8298e1a52fc9cff095e9bcce5903e950893fd54276efdf490b3f357dc94e56ca"), looks := false }, kinds := [], alts := [], laidByText := true, laidKinds := [.data, .data, .data], laidTests := true, laidLooks := .later }
def DenoFoldsUptoCardSaid : Prop := Claim7.holds Tryz.pinned (.plain (OpenSpec.upto denoFoldsSpec)) denoFoldsUptoCard

/-- THE SECOND FORM's CARD OF 'runnellaw10.DenoTallies'. -/
def denoTalliesUptoCard : Claim7 := { stood := { row := denoTalliesUptoRow, standIns := [], harness := (true, "8298e1a52fc9cff095e9bcce5903e950893fd54276efdf490b3f357dc94e56ca"), looks := false }, kinds := [], alts := [], laidByText := true, laidKinds := [.data, .data, .data], laidTests := true, laidLooks := .later }
def DenoTalliesUptoCardSaid : Prop := Claim7.holds Tryz.pinned (.plain (OpenSpec.upto denoTalliesSpec)) denoTalliesUptoCard
end Rows
end Go.Proofs.YtdmgbhamigegfaaGreatDoor
