/-
  DERIVED. GIVEN WITH THE SEED: THE CARDS: each row of YtiiicoaoljnajaaGreatDoorRows.lean that lists a variable, with what it lists TIED to the program's text (the seventh form; the later family's looks); each row that meets fmt, with fmt's text TOLD by the authors' own Lean function (tested against real Go, not proved from fmt's source: count such statements apart). THE CARD IS WHAT COUNTS. Prove the row's statement (the work); the ties are given (YtiiicoaoljnajaaGreatDoorTie.lean); close each card by the builder's one call (the guide's Derived/Test/ToyasCard.lean, 'card_holds'). Laid BY PROGRAM, IN A SANDBOX (cutbox-door.mjs). By AI agents, Wed Nov 11 2026. No macro, syntax, notation, axiom, sorry.
-/
import Derived.Test.YtiiicoaoljnajaaGreatDoorRows
import GoSem.ClaimSeven
namespace Go.Proofs.YtiiicoaoljnajaaGreatDoor
namespace Rows

/-- THE TIED CARD OF 'replevinlaw34.LockErrors'. -/
def lockErrorsCard : Claim7 := { stood := { row := lockErrorsRow, standIns := [], harness := (true, "8d4947ca0484e7da73f4e8ced8f067ca76f9f1959589ba36462b30cdf7a50a4e"), looks := false }, kinds := [], alts := [], laidByText := true, laidKinds := [.data], laidTests := true, laidLooks := .later }
def LockErrorsCardSaid : Prop := Claim7.holds Tryz.pinned (.plain (OpenSpec.ofChange lockErrorsSpec)) lockErrorsCard

/-- THE TIED CARD OF 'replevinlaw28.DirectoryPlays'. -/
def directoryPlaysCard : Claim7 := { stood := { row := directoryPlaysRow, standIns := [], harness := (true, "8d4947ca0484e7da73f4e8ced8f067ca76f9f1959589ba36462b30cdf7a50a4e"), looks := false }, kinds := [], alts := [], laidByText := true, laidKinds := [.data], laidTests := true, laidLooks := .later }
def DirectoryPlaysCardSaid : Prop := Claim7.holds Tryz.pinned (.plain (OpenSpec.ofChange directoryPlaysSpec)) directoryPlaysCard

/-- THE TIED CARD OF 'replevinlaw28.DirectoryErrors'. -/
def directoryErrorsCard : Claim7 := { stood := { row := directoryErrorsRow, standIns := [], harness := (true, "8d4947ca0484e7da73f4e8ced8f067ca76f9f1959589ba36462b30cdf7a50a4e"), looks := false }, kinds := [], alts := [], laidByText := true, laidKinds := [.data], laidTests := true, laidLooks := .later }
def DirectoryErrorsCardSaid : Prop := Claim7.holds Tryz.pinned (.plain (OpenSpec.ofChange directoryErrorsSpec)) directoryErrorsCard

/-- THE TIED CARD OF 'replevinlaw28.DirectoryKeeps'. -/
def directoryKeepsCard : Claim7 := { stood := { row := directoryKeepsRow, standIns := [], harness := (true, "8d4947ca0484e7da73f4e8ced8f067ca76f9f1959589ba36462b30cdf7a50a4e"), looks := false }, kinds := [], alts := [], laidByText := true, laidKinds := [.data], laidTests := true, laidLooks := .later }
def DirectoryKeepsCardSaid : Prop := Claim7.holds Tryz.pinned (.plain (OpenSpec.ofChange directoryKeepsSpec)) directoryKeepsCard

/-- THE TIED CARD OF 'replevinlaw28.DirectoryReads'. -/
def directoryReadsCard : Claim7 := { stood := { row := directoryReadsRow, standIns := [], harness := (true, "8d4947ca0484e7da73f4e8ced8f067ca76f9f1959589ba36462b30cdf7a50a4e"), looks := false }, kinds := [], alts := [], laidByText := true, laidKinds := [.data], laidTests := true, laidLooks := .later }
def DirectoryReadsCardSaid : Prop := Claim7.holds Tryz.pinned (.plain (OpenSpec.ofChange directoryReadsSpec)) directoryReadsCard

/-- THE TIED CARD OF 'replevinlaw28.DirectoryFrame'. -/
def directoryFrameCard : Claim7 := { stood := { row := directoryFrameRow, standIns := [], harness := (true, "8d4947ca0484e7da73f4e8ced8f067ca76f9f1959589ba36462b30cdf7a50a4e"), looks := false }, kinds := [], alts := [], laidByText := true, laidKinds := [.data], laidTests := true, laidLooks := .later }
def DirectoryFrameCardSaid : Prop := Claim7.holds Tryz.pinned (.plain (OpenSpec.ofChange directoryFrameSpec)) directoryFrameCard

/-- THE SECOND FORM's CARD OF 'replevinlaw34.LockErrors'. -/
def lockErrorsUptoCard : Claim7 := { stood := { row := lockErrorsUptoRow, standIns := [], harness := (true, "8d4947ca0484e7da73f4e8ced8f067ca76f9f1959589ba36462b30cdf7a50a4e"), looks := false }, kinds := [], alts := [], laidByText := true, laidKinds := [.data], laidTests := true, laidLooks := .later }
def LockErrorsUptoCardSaid : Prop := Claim7.holds Tryz.pinned (.plain (OpenSpec.upto lockErrorsSpec)) lockErrorsUptoCard

/-- THE SECOND FORM's CARD OF 'replevinlaw28.DirectoryPlays'. -/
def directoryPlaysUptoCard : Claim7 := { stood := { row := directoryPlaysUptoRow, standIns := [], harness := (true, "8d4947ca0484e7da73f4e8ced8f067ca76f9f1959589ba36462b30cdf7a50a4e"), looks := false }, kinds := [], alts := [], laidByText := true, laidKinds := [.data], laidTests := true, laidLooks := .later }
def DirectoryPlaysUptoCardSaid : Prop := Claim7.holds Tryz.pinned (.plain (OpenSpec.upto directoryPlaysSpec)) directoryPlaysUptoCard

/-- THE SECOND FORM's CARD OF 'replevinlaw28.DirectoryErrors'. -/
def directoryErrorsUptoCard : Claim7 := { stood := { row := directoryErrorsUptoRow, standIns := [], harness := (true, "8d4947ca0484e7da73f4e8ced8f067ca76f9f1959589ba36462b30cdf7a50a4e"), looks := false }, kinds := [], alts := [], laidByText := true, laidKinds := [.data], laidTests := true, laidLooks := .later }
def DirectoryErrorsUptoCardSaid : Prop := Claim7.holds Tryz.pinned (.plain (OpenSpec.upto directoryErrorsSpec)) directoryErrorsUptoCard

/-- THE SECOND FORM's CARD OF 'replevinlaw28.DirectoryKeeps'. -/
def directoryKeepsUptoCard : Claim7 := { stood := { row := directoryKeepsUptoRow, standIns := [], harness := (true, "8d4947ca0484e7da73f4e8ced8f067ca76f9f1959589ba36462b30cdf7a50a4e"), looks := false }, kinds := [], alts := [], laidByText := true, laidKinds := [.data], laidTests := true, laidLooks := .later }
def DirectoryKeepsUptoCardSaid : Prop := Claim7.holds Tryz.pinned (.plain (OpenSpec.upto directoryKeepsSpec)) directoryKeepsUptoCard

/-- THE SECOND FORM's CARD OF 'replevinlaw28.DirectoryReads'. -/
def directoryReadsUptoCard : Claim7 := { stood := { row := directoryReadsUptoRow, standIns := [], harness := (true, "8d4947ca0484e7da73f4e8ced8f067ca76f9f1959589ba36462b30cdf7a50a4e"), looks := false }, kinds := [], alts := [], laidByText := true, laidKinds := [.data], laidTests := true, laidLooks := .later }
def DirectoryReadsUptoCardSaid : Prop := Claim7.holds Tryz.pinned (.plain (OpenSpec.upto directoryReadsSpec)) directoryReadsUptoCard

/-- THE SECOND FORM's CARD OF 'replevinlaw28.DirectoryFrame'. -/
def directoryFrameUptoCard : Claim7 := { stood := { row := directoryFrameUptoRow, standIns := [], harness := (true, "8d4947ca0484e7da73f4e8ced8f067ca76f9f1959589ba36462b30cdf7a50a4e"), looks := false }, kinds := [], alts := [], laidByText := true, laidKinds := [.data], laidTests := true, laidLooks := .later }
def DirectoryFrameUptoCardSaid : Prop := Claim7.holds Tryz.pinned (.plain (OpenSpec.upto directoryFrameSpec)) directoryFrameUptoCard
end Rows
end Go.Proofs.YtiiicoaoljnajaaGreatDoor
