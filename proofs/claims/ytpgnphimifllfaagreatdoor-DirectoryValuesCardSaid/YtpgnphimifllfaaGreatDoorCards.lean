/-
  DERIVED. GIVEN WITH THE SEED: THE CARDS: each row of YtpgnphimifllfaaGreatDoorRows.lean that lists a variable, with what it lists TIED to the program's text (the seventh form; the later family's looks); each row that meets fmt, with fmt's text TOLD by the authors' own Lean function (tested against real Go, not proved from fmt's source: count such statements apart). THE CARD IS WHAT COUNTS. Prove the row's statement (the work); the ties are given (YtpgnphimifllfaaGreatDoorTie.lean); close each card by the builder's one call (the guide's Derived/Test/ToyasCard.lean, 'card_holds'). Laid BY PROGRAM, IN A SANDBOX (cutbox-door.mjs). By AI agents, Wed Nov 11 2026. No macro, syntax, notation, axiom, sorry.
-/
import Derived.Test.YtpgnphimifllfaaGreatDoorRows
import GoSem.ClaimSeven
namespace Go.Proofs.YtpgnphimifllfaaGreatDoor
namespace Rows

/-- THE TIED CARD OF 'replevinlaw28.DirectoryValues'. -/
def directoryValuesCard : Claim7 := { stood := { row := directoryValuesRow, standIns := [], harness := (true, "1316cf50d90442828240f91a058043f5938382d0387536f72a637b13ffac13b8"), looks := false }, kinds := [], alts := [], laidByText := true, laidKinds := [.data], laidTests := true, laidLooks := .later }
def DirectoryValuesCardSaid : Prop := Claim7.holds Tryz.pinned (.plain (OpenSpec.ofChange directoryValuesSpec)) directoryValuesCard

/-- THE TIED CARD OF 'replevinlaw28.DirectoryBirths'. -/
def directoryBirthsCard : Claim7 := { stood := { row := directoryBirthsRow, standIns := [], harness := (true, "1316cf50d90442828240f91a058043f5938382d0387536f72a637b13ffac13b8"), looks := false }, kinds := [], alts := [], laidByText := true, laidKinds := [.data], laidTests := true, laidLooks := .later }
def DirectoryBirthsCardSaid : Prop := Claim7.holds Tryz.pinned (.plain (OpenSpec.ofChange directoryBirthsSpec)) directoryBirthsCard

/-- THE TIED CARD OF 'replevinlaw34.LockErrors'. -/
def lockErrorsCard : Claim7 := { stood := { row := lockErrorsRow, standIns := [], harness := (true, "1316cf50d90442828240f91a058043f5938382d0387536f72a637b13ffac13b8"), looks := false }, kinds := [], alts := [], laidByText := true, laidKinds := [.data], laidTests := true, laidLooks := .later }
def LockErrorsCardSaid : Prop := Claim7.holds Tryz.pinned (.plain (OpenSpec.ofChange lockErrorsSpec)) lockErrorsCard

/-- THE TIED CARD OF 'replevinlaw34.LockLocal'. -/
def lockLocalCard : Claim7 := { stood := { row := lockLocalRow, standIns := [], harness := (true, "1316cf50d90442828240f91a058043f5938382d0387536f72a637b13ffac13b8"), looks := false }, kinds := [], alts := [], laidByText := true, laidKinds := [.data], laidTests := true, laidLooks := .later }
def LockLocalCardSaid : Prop := Claim7.holds Tryz.pinned (.plain (OpenSpec.ofChange lockLocalSpec)) lockLocalCard

/-- THE TIED CARD OF 'replevinlaw28.DirectoryPlays'. -/
def directoryPlaysCard : Claim7 := { stood := { row := directoryPlaysRow, standIns := [], harness := (true, "1316cf50d90442828240f91a058043f5938382d0387536f72a637b13ffac13b8"), looks := false }, kinds := [], alts := [], laidByText := true, laidKinds := [.data], laidTests := true, laidLooks := .later }
def DirectoryPlaysCardSaid : Prop := Claim7.holds Tryz.pinned (.plain (OpenSpec.ofChange directoryPlaysSpec)) directoryPlaysCard

/-- THE TIED CARD OF 'replevinlaw28.DirectoryErrors'. -/
def directoryErrorsCard : Claim7 := { stood := { row := directoryErrorsRow, standIns := [], harness := (true, "1316cf50d90442828240f91a058043f5938382d0387536f72a637b13ffac13b8"), looks := false }, kinds := [], alts := [], laidByText := true, laidKinds := [.data], laidTests := true, laidLooks := .later }
def DirectoryErrorsCardSaid : Prop := Claim7.holds Tryz.pinned (.plain (OpenSpec.ofChange directoryErrorsSpec)) directoryErrorsCard

/-- THE TIED CARD OF 'replevinlaw28.DirectoryKeeps'. -/
def directoryKeepsCard : Claim7 := { stood := { row := directoryKeepsRow, standIns := [], harness := (true, "1316cf50d90442828240f91a058043f5938382d0387536f72a637b13ffac13b8"), looks := false }, kinds := [], alts := [], laidByText := true, laidKinds := [.data], laidTests := true, laidLooks := .later }
def DirectoryKeepsCardSaid : Prop := Claim7.holds Tryz.pinned (.plain (OpenSpec.ofChange directoryKeepsSpec)) directoryKeepsCard

/-- THE TIED CARD OF 'replevinlaw28.DirectoryReads'. -/
def directoryReadsCard : Claim7 := { stood := { row := directoryReadsRow, standIns := [], harness := (true, "1316cf50d90442828240f91a058043f5938382d0387536f72a637b13ffac13b8"), looks := false }, kinds := [], alts := [], laidByText := true, laidKinds := [.data], laidTests := true, laidLooks := .later }
def DirectoryReadsCardSaid : Prop := Claim7.holds Tryz.pinned (.plain (OpenSpec.ofChange directoryReadsSpec)) directoryReadsCard

/-- THE TIED CARD OF 'replevinlaw28.DirectoryFrame'. -/
def directoryFrameCard : Claim7 := { stood := { row := directoryFrameRow, standIns := [], harness := (true, "1316cf50d90442828240f91a058043f5938382d0387536f72a637b13ffac13b8"), looks := false }, kinds := [], alts := [], laidByText := true, laidKinds := [.data], laidTests := true, laidLooks := .later }
def DirectoryFrameCardSaid : Prop := Claim7.holds Tryz.pinned (.plain (OpenSpec.ofChange directoryFrameSpec)) directoryFrameCard

/-- THE SECOND FORM's CARD OF 'replevinlaw28.DirectoryValues'. -/
def directoryValuesUptoCard : Claim7 := { stood := { row := directoryValuesUptoRow, standIns := [], harness := (true, "1316cf50d90442828240f91a058043f5938382d0387536f72a637b13ffac13b8"), looks := false }, kinds := [], alts := [], laidByText := true, laidKinds := [.data], laidTests := true, laidLooks := .later }
def DirectoryValuesUptoCardSaid : Prop := Claim7.holds Tryz.pinned (.plain (OpenSpec.upto directoryValuesSpec)) directoryValuesUptoCard

/-- THE SECOND FORM's CARD OF 'replevinlaw28.DirectoryBirths'. -/
def directoryBirthsUptoCard : Claim7 := { stood := { row := directoryBirthsUptoRow, standIns := [], harness := (true, "1316cf50d90442828240f91a058043f5938382d0387536f72a637b13ffac13b8"), looks := false }, kinds := [], alts := [], laidByText := true, laidKinds := [.data], laidTests := true, laidLooks := .later }
def DirectoryBirthsUptoCardSaid : Prop := Claim7.holds Tryz.pinned (.plain (OpenSpec.upto directoryBirthsSpec)) directoryBirthsUptoCard

/-- THE SECOND FORM's CARD OF 'replevinlaw34.LockErrors'. -/
def lockErrorsUptoCard : Claim7 := { stood := { row := lockErrorsUptoRow, standIns := [], harness := (true, "1316cf50d90442828240f91a058043f5938382d0387536f72a637b13ffac13b8"), looks := false }, kinds := [], alts := [], laidByText := true, laidKinds := [.data], laidTests := true, laidLooks := .later }
def LockErrorsUptoCardSaid : Prop := Claim7.holds Tryz.pinned (.plain (OpenSpec.upto lockErrorsSpec)) lockErrorsUptoCard

/-- THE SECOND FORM's CARD OF 'replevinlaw34.LockLocal'. -/
def lockLocalUptoCard : Claim7 := { stood := { row := lockLocalUptoRow, standIns := [], harness := (true, "1316cf50d90442828240f91a058043f5938382d0387536f72a637b13ffac13b8"), looks := false }, kinds := [], alts := [], laidByText := true, laidKinds := [.data], laidTests := true, laidLooks := .later }
def LockLocalUptoCardSaid : Prop := Claim7.holds Tryz.pinned (.plain (OpenSpec.upto lockLocalSpec)) lockLocalUptoCard

/-- THE SECOND FORM's CARD OF 'replevinlaw28.DirectoryPlays'. -/
def directoryPlaysUptoCard : Claim7 := { stood := { row := directoryPlaysUptoRow, standIns := [], harness := (true, "1316cf50d90442828240f91a058043f5938382d0387536f72a637b13ffac13b8"), looks := false }, kinds := [], alts := [], laidByText := true, laidKinds := [.data], laidTests := true, laidLooks := .later }
def DirectoryPlaysUptoCardSaid : Prop := Claim7.holds Tryz.pinned (.plain (OpenSpec.upto directoryPlaysSpec)) directoryPlaysUptoCard

/-- THE SECOND FORM's CARD OF 'replevinlaw28.DirectoryErrors'. -/
def directoryErrorsUptoCard : Claim7 := { stood := { row := directoryErrorsUptoRow, standIns := [], harness := (true, "1316cf50d90442828240f91a058043f5938382d0387536f72a637b13ffac13b8"), looks := false }, kinds := [], alts := [], laidByText := true, laidKinds := [.data], laidTests := true, laidLooks := .later }
def DirectoryErrorsUptoCardSaid : Prop := Claim7.holds Tryz.pinned (.plain (OpenSpec.upto directoryErrorsSpec)) directoryErrorsUptoCard

/-- THE SECOND FORM's CARD OF 'replevinlaw28.DirectoryKeeps'. -/
def directoryKeepsUptoCard : Claim7 := { stood := { row := directoryKeepsUptoRow, standIns := [], harness := (true, "1316cf50d90442828240f91a058043f5938382d0387536f72a637b13ffac13b8"), looks := false }, kinds := [], alts := [], laidByText := true, laidKinds := [.data], laidTests := true, laidLooks := .later }
def DirectoryKeepsUptoCardSaid : Prop := Claim7.holds Tryz.pinned (.plain (OpenSpec.upto directoryKeepsSpec)) directoryKeepsUptoCard

/-- THE SECOND FORM's CARD OF 'replevinlaw28.DirectoryReads'. -/
def directoryReadsUptoCard : Claim7 := { stood := { row := directoryReadsUptoRow, standIns := [], harness := (true, "1316cf50d90442828240f91a058043f5938382d0387536f72a637b13ffac13b8"), looks := false }, kinds := [], alts := [], laidByText := true, laidKinds := [.data], laidTests := true, laidLooks := .later }
def DirectoryReadsUptoCardSaid : Prop := Claim7.holds Tryz.pinned (.plain (OpenSpec.upto directoryReadsSpec)) directoryReadsUptoCard

/-- THE SECOND FORM's CARD OF 'replevinlaw28.DirectoryFrame'. -/
def directoryFrameUptoCard : Claim7 := { stood := { row := directoryFrameUptoRow, standIns := [], harness := (true, "1316cf50d90442828240f91a058043f5938382d0387536f72a637b13ffac13b8"), looks := false }, kinds := [], alts := [], laidByText := true, laidKinds := [.data], laidTests := true, laidLooks := .later }
def DirectoryFrameUptoCardSaid : Prop := Claim7.holds Tryz.pinned (.plain (OpenSpec.upto directoryFrameSpec)) directoryFrameUptoCard
end Rows
end Go.Proofs.YtpgnphimifllfaaGreatDoor
