/-
  DERIVED. GIVEN WITH THE SEED: THE CARDS: each row of YtmnmiiifilfcmaaDoorRows.lean that lists a variable, with what it lists TIED to the program's text (the seventh form; the later family's looks); each row that meets fmt, with fmt's text TOLD by the authors' own Lean function (tested against real Go, not proved from fmt's source: count such statements apart). THE CARD IS WHAT COUNTS. Prove the row's statement (the work); the ties are given (YtmnmiiifilfcmaaDoorTie.lean); close each card by the builder's one call (the guide's Derived/Test/ToyasCard.lean, 'card_holds'). Laid BY PROGRAM, IN A SANDBOX (cutbox-door.mjs). By AI agents, Wed Nov 11 2026. No macro, syntax, notation, axiom, sorry.
-/
import Derived.Test.YtmnmiiifilfcmaaDoorRows
import GoSem.ClaimSeven
namespace Go.Proofs.YtmnmiiifilfcmaaDoor
namespace Rows

/-- THE TIED CARD OF 'runnellaw2.ValueAny'. -/
def valueAnyCard : Claim7 := { stood := { row := valueAnyRow, standIns := [], harness := (true, "fcc3f01c77dfa30ddc77cc99063905685b935b8f39075f6780b0f7f5d71437bd"), looks := false }, kinds := [], alts := [], laidByText := true, laidKinds := [.data, .data, .data], laidTests := true, laidLooks := .later }
def ValueAnyCardSaid : Prop := Claim7.holds Tryd.pinned (.plain (OpenSpec.ofChange valueAnySpec)) valueAnyCard

/-- THE TIED CARD OF 'runnellaw2.ValueMade'. -/
def valueMadeCard : Claim7 := { stood := { row := valueMadeRow, standIns := [], harness := (true, "fcc3f01c77dfa30ddc77cc99063905685b935b8f39075f6780b0f7f5d71437bd"), looks := false }, kinds := [], alts := [], laidByText := true, laidKinds := [.data, .data, .data], laidTests := true, laidLooks := .later }
def ValueMadeCardSaid : Prop := Claim7.holds Tryd.pinned (.plain (OpenSpec.ofChange valueMadeSpec)) valueMadeCard

/-- THE TIED CARD OF 'runnellaw2.ValueParts'. -/
def valuePartsCard : Claim7 := { stood := { row := valuePartsRow, standIns := [], harness := (true, "fcc3f01c77dfa30ddc77cc99063905685b935b8f39075f6780b0f7f5d71437bd"), looks := false }, kinds := [], alts := [], laidByText := true, laidKinds := [.data, .data, .data], laidTests := true, laidLooks := .later }
def ValuePartsCardSaid : Prop := Claim7.holds Tryd.pinned (.plain (OpenSpec.ofChange valuePartsSpec)) valuePartsCard

/-- THE TIED CARD OF 'runnellaw11.CodeJumps'. -/
def codeJumpsCard : Claim7 := { stood := { row := codeJumpsRow, standIns := [], harness := (true, "fcc3f01c77dfa30ddc77cc99063905685b935b8f39075f6780b0f7f5d71437bd"), looks := false }, kinds := [], alts := [], laidByText := true, laidKinds := [.data, .data, .data, .listed, .data], laidTests := true, laidLooks := .later }
def CodeJumpsCardSaid : Prop := Claim7.holds Tryd.pinned (.plain (OpenSpec.ofChange codeJumpsSpec)) codeJumpsCard

/-- THE TIED CARD OF 'runnellaw11.CodePush'. -/
def codePushCard : Claim7 := { stood := { row := codePushRow, standIns := [], harness := (true, "fcc3f01c77dfa30ddc77cc99063905685b935b8f39075f6780b0f7f5d71437bd"), looks := false }, kinds := [], alts := [], laidByText := true, laidKinds := [.data, .data, .data, .listed, .data], laidTests := true, laidLooks := .later }
def CodePushCardSaid : Prop := Claim7.holds Tryd.pinned (.plain (OpenSpec.ofChange codePushSpec)) codePushCard

/-- THE TIED CARD OF 'runnellaw13.VerAny'. -/
def verAnyCard : Claim7 := { stood := { row := verAnyRow, standIns := [], harness := (true, "fcc3f01c77dfa30ddc77cc99063905685b935b8f39075f6780b0f7f5d71437bd"), looks := false }, kinds := [], alts := [], laidByText := true, laidKinds := [.listed, .data], laidTests := true, laidLooks := .later }
def VerAnyCardSaid : Prop := Claim7.holds Tryd.pinned (.plain (OpenSpec.ofChange verAnySpec)) verAnyCard

/-- THE TIED CARD OF 'runnellaw13.VerStack'. -/
def verStackCard : Claim7 := { stood := { row := verStackRow, standIns := [], harness := (true, "fcc3f01c77dfa30ddc77cc99063905685b935b8f39075f6780b0f7f5d71437bd"), looks := false }, kinds := [], alts := [], laidByText := true, laidKinds := [.listed, .data], laidTests := true, laidLooks := .later }
def VerStackCardSaid : Prop := Claim7.holds Tryd.pinned (.plain (OpenSpec.ofChange verStackSpec)) verStackCard

/-- THE TIED CARD OF 'runnellaw13.VerMeets'. -/
def verMeetsCard : Claim7 := { stood := { row := verMeetsRow, standIns := [], harness := (true, "fcc3f01c77dfa30ddc77cc99063905685b935b8f39075f6780b0f7f5d71437bd"), looks := false }, kinds := [], alts := [], laidByText := true, laidKinds := [.listed, .data], laidTests := true, laidLooks := .later }
def VerMeetsCardSaid : Prop := Claim7.holds Tryd.pinned (.plain (OpenSpec.ofChange verMeetsSpec)) verMeetsCard

/-- THE TIED CARD OF 'runnellaw13.VerEmits'. -/
def verEmitsCard : Claim7 := { stood := { row := verEmitsRow, standIns := [], harness := (true, "fcc3f01c77dfa30ddc77cc99063905685b935b8f39075f6780b0f7f5d71437bd"), looks := false }, kinds := [], alts := [], laidByText := true, laidKinds := [.listed, .data], laidTests := true, laidLooks := .later }
def VerEmitsCardSaid : Prop := Claim7.holds Tryd.pinned (.plain (OpenSpec.ofChange verEmitsSpec)) verEmitsCard

/-- THE SECOND FORM's CARD OF 'runnellaw2.ValueAny'. -/
def valueAnyUptoCard : Claim7 := { stood := { row := valueAnyUptoRow, standIns := [], harness := (true, "fcc3f01c77dfa30ddc77cc99063905685b935b8f39075f6780b0f7f5d71437bd"), looks := false }, kinds := [], alts := [], laidByText := true, laidKinds := [.data, .data, .data], laidTests := true, laidLooks := .later }
def ValueAnyUptoCardSaid : Prop := Claim7.holds Tryd.pinned (.plain (OpenSpec.upto valueAnySpec)) valueAnyUptoCard

/-- THE SECOND FORM's CARD OF 'runnellaw2.ValueMade'. -/
def valueMadeUptoCard : Claim7 := { stood := { row := valueMadeUptoRow, standIns := [], harness := (true, "fcc3f01c77dfa30ddc77cc99063905685b935b8f39075f6780b0f7f5d71437bd"), looks := false }, kinds := [], alts := [], laidByText := true, laidKinds := [.data, .data, .data], laidTests := true, laidLooks := .later }
def ValueMadeUptoCardSaid : Prop := Claim7.holds Tryd.pinned (.plain (OpenSpec.upto valueMadeSpec)) valueMadeUptoCard

/-- THE SECOND FORM's CARD OF 'runnellaw2.ValueParts'. -/
def valuePartsUptoCard : Claim7 := { stood := { row := valuePartsUptoRow, standIns := [], harness := (true, "fcc3f01c77dfa30ddc77cc99063905685b935b8f39075f6780b0f7f5d71437bd"), looks := false }, kinds := [], alts := [], laidByText := true, laidKinds := [.data, .data, .data], laidTests := true, laidLooks := .later }
def ValuePartsUptoCardSaid : Prop := Claim7.holds Tryd.pinned (.plain (OpenSpec.upto valuePartsSpec)) valuePartsUptoCard

/-- THE SECOND FORM's CARD OF 'runnellaw11.CodeJumps'. -/
def codeJumpsUptoCard : Claim7 := { stood := { row := codeJumpsUptoRow, standIns := [], harness := (true, "fcc3f01c77dfa30ddc77cc99063905685b935b8f39075f6780b0f7f5d71437bd"), looks := false }, kinds := [], alts := [], laidByText := true, laidKinds := [.data, .data, .data, .listed, .data], laidTests := true, laidLooks := .later }
def CodeJumpsUptoCardSaid : Prop := Claim7.holds Tryd.pinned (.plain (OpenSpec.upto codeJumpsSpec)) codeJumpsUptoCard

/-- THE SECOND FORM's CARD OF 'runnellaw11.CodePush'. -/
def codePushUptoCard : Claim7 := { stood := { row := codePushUptoRow, standIns := [], harness := (true, "fcc3f01c77dfa30ddc77cc99063905685b935b8f39075f6780b0f7f5d71437bd"), looks := false }, kinds := [], alts := [], laidByText := true, laidKinds := [.data, .data, .data, .listed, .data], laidTests := true, laidLooks := .later }
def CodePushUptoCardSaid : Prop := Claim7.holds Tryd.pinned (.plain (OpenSpec.upto codePushSpec)) codePushUptoCard

/-- THE SECOND FORM's CARD OF 'runnellaw13.VerAny'. -/
def verAnyUptoCard : Claim7 := { stood := { row := verAnyUptoRow, standIns := [], harness := (true, "fcc3f01c77dfa30ddc77cc99063905685b935b8f39075f6780b0f7f5d71437bd"), looks := false }, kinds := [], alts := [], laidByText := true, laidKinds := [.listed, .data], laidTests := true, laidLooks := .later }
def VerAnyUptoCardSaid : Prop := Claim7.holds Tryd.pinned (.plain (OpenSpec.upto verAnySpec)) verAnyUptoCard

/-- THE SECOND FORM's CARD OF 'runnellaw13.VerStack'. -/
def verStackUptoCard : Claim7 := { stood := { row := verStackUptoRow, standIns := [], harness := (true, "fcc3f01c77dfa30ddc77cc99063905685b935b8f39075f6780b0f7f5d71437bd"), looks := false }, kinds := [], alts := [], laidByText := true, laidKinds := [.listed, .data], laidTests := true, laidLooks := .later }
def VerStackUptoCardSaid : Prop := Claim7.holds Tryd.pinned (.plain (OpenSpec.upto verStackSpec)) verStackUptoCard

/-- THE SECOND FORM's CARD OF 'runnellaw13.VerMeets'. -/
def verMeetsUptoCard : Claim7 := { stood := { row := verMeetsUptoRow, standIns := [], harness := (true, "fcc3f01c77dfa30ddc77cc99063905685b935b8f39075f6780b0f7f5d71437bd"), looks := false }, kinds := [], alts := [], laidByText := true, laidKinds := [.listed, .data], laidTests := true, laidLooks := .later }
def VerMeetsUptoCardSaid : Prop := Claim7.holds Tryd.pinned (.plain (OpenSpec.upto verMeetsSpec)) verMeetsUptoCard

/-- THE SECOND FORM's CARD OF 'runnellaw13.VerEmits'. -/
def verEmitsUptoCard : Claim7 := { stood := { row := verEmitsUptoRow, standIns := [], harness := (true, "fcc3f01c77dfa30ddc77cc99063905685b935b8f39075f6780b0f7f5d71437bd"), looks := false }, kinds := [], alts := [], laidByText := true, laidKinds := [.listed, .data], laidTests := true, laidLooks := .later }
def VerEmitsUptoCardSaid : Prop := Claim7.holds Tryd.pinned (.plain (OpenSpec.upto verEmitsSpec)) verEmitsUptoCard
end Rows
end Go.Proofs.YtmnmiiifilfcmaaDoor
