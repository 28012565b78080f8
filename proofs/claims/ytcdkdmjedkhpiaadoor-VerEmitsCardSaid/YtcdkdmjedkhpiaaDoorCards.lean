/-
  DERIVED. GIVEN WITH THE SEED: THE CARDS: each row of YtcdkdmjedkhpiaaDoorRows.lean that lists a variable, with what it lists TIED to the program's text (the seventh form; the later family's looks); each row that meets fmt, with fmt's text TOLD by the authors' own Lean function (tested against real Go, not proved from fmt's source: count such statements apart). THE CARD IS WHAT COUNTS. Prove the row's statement (the work); the ties are given (YtcdkdmjedkhpiaaDoorTie.lean); close each card by the builder's one call (the guide's Derived/Test/ToyasCard.lean, 'card_holds'). Laid BY PROGRAM, IN A SANDBOX (cutbox-door.mjs). By AI agents, Wed Nov 11 2026. No macro, syntax, notation, axiom, sorry.
-/
import Derived.Test.YtcdkdmjedkhpiaaDoorRows
import GoSem.ClaimSeven
namespace Go.Proofs.YtcdkdmjedkhpiaaDoor
namespace Rows

/-- THE TIED CARD OF 'runnellaw13.VerAny'. -/
def verAnyCard : Claim7 := { stood := { row := verAnyRow, standIns := [], harness := (true, "fc6c22bf4f0f2e78599b282efaeb8b22488ea02a9f15bd617a06fd29075c66eb"), looks := false }, kinds := [], alts := [], laidByText := true, laidKinds := [.listed, .data], laidTests := true, laidLooks := .later }
def VerAnyCardSaid : Prop := Claim7.holds Tryd.pinned (.plain (OpenSpec.ofChange verAnySpec)) verAnyCard

/-- THE TIED CARD OF 'runnellaw13.VerStack'. -/
def verStackCard : Claim7 := { stood := { row := verStackRow, standIns := [], harness := (true, "fc6c22bf4f0f2e78599b282efaeb8b22488ea02a9f15bd617a06fd29075c66eb"), looks := false }, kinds := [], alts := [], laidByText := true, laidKinds := [.listed, .data], laidTests := true, laidLooks := .later }
def VerStackCardSaid : Prop := Claim7.holds Tryd.pinned (.plain (OpenSpec.ofChange verStackSpec)) verStackCard

/-- THE TIED CARD OF 'runnellaw13.VerMeets'. -/
def verMeetsCard : Claim7 := { stood := { row := verMeetsRow, standIns := [], harness := (true, "fc6c22bf4f0f2e78599b282efaeb8b22488ea02a9f15bd617a06fd29075c66eb"), looks := false }, kinds := [], alts := [], laidByText := true, laidKinds := [.listed, .data], laidTests := true, laidLooks := .later }
def VerMeetsCardSaid : Prop := Claim7.holds Tryd.pinned (.plain (OpenSpec.ofChange verMeetsSpec)) verMeetsCard

/-- THE TIED CARD OF 'runnellaw13.VerEmits'. -/
def verEmitsCard : Claim7 := { stood := { row := verEmitsRow, standIns := [], harness := (true, "fc6c22bf4f0f2e78599b282efaeb8b22488ea02a9f15bd617a06fd29075c66eb"), looks := false }, kinds := [], alts := [], laidByText := true, laidKinds := [.listed, .data], laidTests := true, laidLooks := .later }
def VerEmitsCardSaid : Prop := Claim7.holds Tryd.pinned (.plain (OpenSpec.ofChange verEmitsSpec)) verEmitsCard

/-- THE SECOND FORM's CARD OF 'runnellaw13.VerAny'. -/
def verAnyUptoCard : Claim7 := { stood := { row := verAnyUptoRow, standIns := [], harness := (true, "fc6c22bf4f0f2e78599b282efaeb8b22488ea02a9f15bd617a06fd29075c66eb"), looks := false }, kinds := [], alts := [], laidByText := true, laidKinds := [.listed, .data], laidTests := true, laidLooks := .later }
def VerAnyUptoCardSaid : Prop := Claim7.holds Tryd.pinned (.plain (OpenSpec.upto verAnySpec)) verAnyUptoCard

/-- THE SECOND FORM's CARD OF 'runnellaw13.VerStack'. -/
def verStackUptoCard : Claim7 := { stood := { row := verStackUptoRow, standIns := [], harness := (true, "fc6c22bf4f0f2e78599b282efaeb8b22488ea02a9f15bd617a06fd29075c66eb"), looks := false }, kinds := [], alts := [], laidByText := true, laidKinds := [.listed, .data], laidTests := true, laidLooks := .later }
def VerStackUptoCardSaid : Prop := Claim7.holds Tryd.pinned (.plain (OpenSpec.upto verStackSpec)) verStackUptoCard

/-- THE SECOND FORM's CARD OF 'runnellaw13.VerMeets'. -/
def verMeetsUptoCard : Claim7 := { stood := { row := verMeetsUptoRow, standIns := [], harness := (true, "fc6c22bf4f0f2e78599b282efaeb8b22488ea02a9f15bd617a06fd29075c66eb"), looks := false }, kinds := [], alts := [], laidByText := true, laidKinds := [.listed, .data], laidTests := true, laidLooks := .later }
def VerMeetsUptoCardSaid : Prop := Claim7.holds Tryd.pinned (.plain (OpenSpec.upto verMeetsSpec)) verMeetsUptoCard

/-- THE SECOND FORM's CARD OF 'runnellaw13.VerEmits'. -/
def verEmitsUptoCard : Claim7 := { stood := { row := verEmitsUptoRow, standIns := [], harness := (true, "fc6c22bf4f0f2e78599b282efaeb8b22488ea02a9f15bd617a06fd29075c66eb"), looks := false }, kinds := [], alts := [], laidByText := true, laidKinds := [.listed, .data], laidTests := true, laidLooks := .later }
def VerEmitsUptoCardSaid : Prop := Claim7.holds Tryd.pinned (.plain (OpenSpec.upto verEmitsSpec)) verEmitsUptoCard
end Rows
end Go.Proofs.YtcdkdmjedkhpiaaDoor
