/-
  DERIVED. GIVEN WITH THE SEED: THE CARDS: each row of YtjpjpomapoepjaaGreatDoorRows.lean that lists a variable, with what it lists TIED to the program's text (the seventh form; the later family's looks); each row that meets fmt, with fmt's text TOLD by the authors' own Lean function (tested against real Go, not proved from fmt's source: count such statements apart). THE CARD IS WHAT COUNTS. Prove the row's statement (the work); the ties are given (YtjpjpomapoepjaaGreatDoorTie.lean); close each card by the builder's one call (the guide's Derived/Test/ToyasCard.lean, 'card_holds'). Laid BY PROGRAM, IN A SANDBOX (cutbox-door.mjs). By AI agents, Wed Nov 11 2026. No macro, syntax, notation, axiom, sorry.
-/
import Derived.Test.YtjpjpomapoepjaaGreatDoorRows
import GoSem.ClaimSeven
namespace Go.Proofs.YtjpjpomapoepjaaGreatDoor
namespace Rows

/-- THE TIED CARD OF 'replevinlaw34.LockErrors'. -/
def lockErrorsCard : Claim7 := { stood := { row := lockErrorsRow, standIns := [], harness := (true, "95f3c7b3227e598cdf74ef29a30613e76dc5941208608732b95afc4c4533842c"), looks := false }, kinds := [], alts := [], laidByText := true, laidKinds := [.data], laidTests := true, laidLooks := .later }
def LockErrorsCardSaid : Prop := Claim7.holds Tryz.pinned (.plain (OpenSpec.ofChange lockErrorsSpec)) lockErrorsCard

/-- THE TIED CARD OF 'replevinlaw34.LockLocal'. -/
def lockLocalCard : Claim7 := { stood := { row := lockLocalRow, standIns := [], harness := (true, "95f3c7b3227e598cdf74ef29a30613e76dc5941208608732b95afc4c4533842c"), looks := false }, kinds := [], alts := [], laidByText := true, laidKinds := [.data], laidTests := true, laidLooks := .later }
def LockLocalCardSaid : Prop := Claim7.holds Tryz.pinned (.plain (OpenSpec.ofChange lockLocalSpec)) lockLocalCard

/-- THE TIED CARD OF 'replevinlaw28.DirectoryPlays'. -/
def directoryPlaysCard : Claim7 := { stood := { row := directoryPlaysRow, standIns := [], harness := (true, "95f3c7b3227e598cdf74ef29a30613e76dc5941208608732b95afc4c4533842c"), looks := false }, kinds := [], alts := [], laidByText := true, laidKinds := [.data], laidTests := true, laidLooks := .later }
def DirectoryPlaysCardSaid : Prop := Claim7.holds Tryz.pinned (.plain (OpenSpec.ofChange directoryPlaysSpec)) directoryPlaysCard

/-- THE TIED CARD OF 'replevinlaw28.DirectoryErrors'. -/
def directoryErrorsCard : Claim7 := { stood := { row := directoryErrorsRow, standIns := [], harness := (true, "95f3c7b3227e598cdf74ef29a30613e76dc5941208608732b95afc4c4533842c"), looks := false }, kinds := [], alts := [], laidByText := true, laidKinds := [.data], laidTests := true, laidLooks := .later }
def DirectoryErrorsCardSaid : Prop := Claim7.holds Tryz.pinned (.plain (OpenSpec.ofChange directoryErrorsSpec)) directoryErrorsCard

/-- THE TIED CARD OF 'replevinlaw28.DirectoryKeeps'. -/
def directoryKeepsCard : Claim7 := { stood := { row := directoryKeepsRow, standIns := [], harness := (true, "95f3c7b3227e598cdf74ef29a30613e76dc5941208608732b95afc4c4533842c"), looks := false }, kinds := [], alts := [], laidByText := true, laidKinds := [.data], laidTests := true, laidLooks := .later }
def DirectoryKeepsCardSaid : Prop := Claim7.holds Tryz.pinned (.plain (OpenSpec.ofChange directoryKeepsSpec)) directoryKeepsCard

/-- THE TIED CARD OF 'replevinlaw28.DirectoryReads'. -/
def directoryReadsCard : Claim7 := { stood := { row := directoryReadsRow, standIns := [], harness := (true, "95f3c7b3227e598cdf74ef29a30613e76dc5941208608732b95afc4c4533842c"), looks := false }, kinds := [], alts := [], laidByText := true, laidKinds := [.data], laidTests := true, laidLooks := .later }
def DirectoryReadsCardSaid : Prop := Claim7.holds Tryz.pinned (.plain (OpenSpec.ofChange directoryReadsSpec)) directoryReadsCard

/-- THE TIED CARD OF 'replevinlaw28.DirectoryFrame'. -/
def directoryFrameCard : Claim7 := { stood := { row := directoryFrameRow, standIns := [], harness := (true, "95f3c7b3227e598cdf74ef29a30613e76dc5941208608732b95afc4c4533842c"), looks := false }, kinds := [], alts := [], laidByText := true, laidKinds := [.data], laidTests := true, laidLooks := .later }
def DirectoryFrameCardSaid : Prop := Claim7.holds Tryz.pinned (.plain (OpenSpec.ofChange directoryFrameSpec)) directoryFrameCard

/-- THE TIED CARD OF 'replevinlaw29.PathSplits'. -/
def pathSplitsCard : Claim7 := { stood := { row := pathSplitsRow, standIns := [], harness := (true, "95f3c7b3227e598cdf74ef29a30613e76dc5941208608732b95afc4c4533842c"), looks := false }, kinds := [], alts := [], laidByText := true, laidKinds := [.data, .data, .data, .pinned], laidTests := true, laidLooks := .later }
def PathSplitsCardSaid : Prop := Claim7.holds Tryz.pinned (.plain (OpenSpec.ofChange pathSplitsSpec)) pathSplitsCard

/-- THE TIED CARD OF 'replevinlaw29.PathResolves'. -/
def pathResolvesCard : Claim7 := { stood := { row := pathResolvesRow, standIns := [], harness := (true, "95f3c7b3227e598cdf74ef29a30613e76dc5941208608732b95afc4c4533842c"), looks := false }, kinds := [], alts := [], laidByText := true, laidKinds := [.data, .data, .data, .pinned], laidTests := true, laidLooks := .later }
def PathResolvesCardSaid : Prop := Claim7.holds Tryz.pinned (.plain (OpenSpec.ofChange pathResolvesSpec)) pathResolvesCard

/-- THE TIED CARD OF 'replevinlaw29.PathDenied'. -/
def pathDeniedCard : Claim7 := { stood := { row := pathDeniedRow, standIns := [], harness := (true, "95f3c7b3227e598cdf74ef29a30613e76dc5941208608732b95afc4c4533842c"), looks := false }, kinds := [], alts := [], laidByText := true, laidKinds := [.data, .data, .data, .pinned], laidTests := true, laidLooks := .later }
def PathDeniedCardSaid : Prop := Claim7.holds Tryz.pinned (.plain (OpenSpec.ofChange pathDeniedSpec)) pathDeniedCard

/-- THE TIED CARD OF 'replevinlaw29.PathFinds'. -/
def pathFindsCard : Claim7 := { stood := { row := pathFindsRow, standIns := [], harness := (true, "95f3c7b3227e598cdf74ef29a30613e76dc5941208608732b95afc4c4533842c"), looks := false }, kinds := [], alts := [], laidByText := true, laidKinds := [.data, .data, .data, .pinned], laidTests := true, laidLooks := .later }
def PathFindsCardSaid : Prop := Claim7.holds Tryz.pinned (.plain (OpenSpec.ofChange pathFindsSpec)) pathFindsCard

/-- THE TIED CARD OF 'replevinlaw29.PathNil'. -/
def pathNilCard : Claim7 := { stood := { row := pathNilRow, standIns := [], harness := (true, "95f3c7b3227e598cdf74ef29a30613e76dc5941208608732b95afc4c4533842c"), looks := false }, kinds := [], alts := [], laidByText := true, laidKinds := [.data, .data, .data, .pinned], laidTests := true, laidLooks := .later }
def PathNilCardSaid : Prop := Claim7.holds Tryz.pinned (.plain (OpenSpec.ofChange pathNilSpec)) pathNilCard

/-- THE SECOND FORM's CARD OF 'replevinlaw34.LockErrors'. -/
def lockErrorsUptoCard : Claim7 := { stood := { row := lockErrorsUptoRow, standIns := [], harness := (true, "95f3c7b3227e598cdf74ef29a30613e76dc5941208608732b95afc4c4533842c"), looks := false }, kinds := [], alts := [], laidByText := true, laidKinds := [.data], laidTests := true, laidLooks := .later }
def LockErrorsUptoCardSaid : Prop := Claim7.holds Tryz.pinned (.plain (OpenSpec.upto lockErrorsSpec)) lockErrorsUptoCard

/-- THE SECOND FORM's CARD OF 'replevinlaw34.LockLocal'. -/
def lockLocalUptoCard : Claim7 := { stood := { row := lockLocalUptoRow, standIns := [], harness := (true, "95f3c7b3227e598cdf74ef29a30613e76dc5941208608732b95afc4c4533842c"), looks := false }, kinds := [], alts := [], laidByText := true, laidKinds := [.data], laidTests := true, laidLooks := .later }
def LockLocalUptoCardSaid : Prop := Claim7.holds Tryz.pinned (.plain (OpenSpec.upto lockLocalSpec)) lockLocalUptoCard

/-- THE SECOND FORM's CARD OF 'replevinlaw28.DirectoryPlays'. -/
def directoryPlaysUptoCard : Claim7 := { stood := { row := directoryPlaysUptoRow, standIns := [], harness := (true, "95f3c7b3227e598cdf74ef29a30613e76dc5941208608732b95afc4c4533842c"), looks := false }, kinds := [], alts := [], laidByText := true, laidKinds := [.data], laidTests := true, laidLooks := .later }
def DirectoryPlaysUptoCardSaid : Prop := Claim7.holds Tryz.pinned (.plain (OpenSpec.upto directoryPlaysSpec)) directoryPlaysUptoCard

/-- THE SECOND FORM's CARD OF 'replevinlaw28.DirectoryErrors'. -/
def directoryErrorsUptoCard : Claim7 := { stood := { row := directoryErrorsUptoRow, standIns := [], harness := (true, "95f3c7b3227e598cdf74ef29a30613e76dc5941208608732b95afc4c4533842c"), looks := false }, kinds := [], alts := [], laidByText := true, laidKinds := [.data], laidTests := true, laidLooks := .later }
def DirectoryErrorsUptoCardSaid : Prop := Claim7.holds Tryz.pinned (.plain (OpenSpec.upto directoryErrorsSpec)) directoryErrorsUptoCard

/-- THE SECOND FORM's CARD OF 'replevinlaw28.DirectoryKeeps'. -/
def directoryKeepsUptoCard : Claim7 := { stood := { row := directoryKeepsUptoRow, standIns := [], harness := (true, "95f3c7b3227e598cdf74ef29a30613e76dc5941208608732b95afc4c4533842c"), looks := false }, kinds := [], alts := [], laidByText := true, laidKinds := [.data], laidTests := true, laidLooks := .later }
def DirectoryKeepsUptoCardSaid : Prop := Claim7.holds Tryz.pinned (.plain (OpenSpec.upto directoryKeepsSpec)) directoryKeepsUptoCard

/-- THE SECOND FORM's CARD OF 'replevinlaw28.DirectoryReads'. -/
def directoryReadsUptoCard : Claim7 := { stood := { row := directoryReadsUptoRow, standIns := [], harness := (true, "95f3c7b3227e598cdf74ef29a30613e76dc5941208608732b95afc4c4533842c"), looks := false }, kinds := [], alts := [], laidByText := true, laidKinds := [.data], laidTests := true, laidLooks := .later }
def DirectoryReadsUptoCardSaid : Prop := Claim7.holds Tryz.pinned (.plain (OpenSpec.upto directoryReadsSpec)) directoryReadsUptoCard

/-- THE SECOND FORM's CARD OF 'replevinlaw28.DirectoryFrame'. -/
def directoryFrameUptoCard : Claim7 := { stood := { row := directoryFrameUptoRow, standIns := [], harness := (true, "95f3c7b3227e598cdf74ef29a30613e76dc5941208608732b95afc4c4533842c"), looks := false }, kinds := [], alts := [], laidByText := true, laidKinds := [.data], laidTests := true, laidLooks := .later }
def DirectoryFrameUptoCardSaid : Prop := Claim7.holds Tryz.pinned (.plain (OpenSpec.upto directoryFrameSpec)) directoryFrameUptoCard

/-- THE SECOND FORM's CARD OF 'replevinlaw29.PathSplits'. -/
def pathSplitsUptoCard : Claim7 := { stood := { row := pathSplitsUptoRow, standIns := [], harness := (true, "95f3c7b3227e598cdf74ef29a30613e76dc5941208608732b95afc4c4533842c"), looks := false }, kinds := [], alts := [], laidByText := true, laidKinds := [.data, .data, .data, .pinned], laidTests := true, laidLooks := .later }
def PathSplitsUptoCardSaid : Prop := Claim7.holds Tryz.pinned (.plain (OpenSpec.upto pathSplitsSpec)) pathSplitsUptoCard

/-- THE SECOND FORM's CARD OF 'replevinlaw29.PathResolves'. -/
def pathResolvesUptoCard : Claim7 := { stood := { row := pathResolvesUptoRow, standIns := [], harness := (true, "95f3c7b3227e598cdf74ef29a30613e76dc5941208608732b95afc4c4533842c"), looks := false }, kinds := [], alts := [], laidByText := true, laidKinds := [.data, .data, .data, .pinned], laidTests := true, laidLooks := .later }
def PathResolvesUptoCardSaid : Prop := Claim7.holds Tryz.pinned (.plain (OpenSpec.upto pathResolvesSpec)) pathResolvesUptoCard

/-- THE SECOND FORM's CARD OF 'replevinlaw29.PathDenied'. -/
def pathDeniedUptoCard : Claim7 := { stood := { row := pathDeniedUptoRow, standIns := [], harness := (true, "95f3c7b3227e598cdf74ef29a30613e76dc5941208608732b95afc4c4533842c"), looks := false }, kinds := [], alts := [], laidByText := true, laidKinds := [.data, .data, .data, .pinned], laidTests := true, laidLooks := .later }
def PathDeniedUptoCardSaid : Prop := Claim7.holds Tryz.pinned (.plain (OpenSpec.upto pathDeniedSpec)) pathDeniedUptoCard

/-- THE SECOND FORM's CARD OF 'replevinlaw29.PathFinds'. -/
def pathFindsUptoCard : Claim7 := { stood := { row := pathFindsUptoRow, standIns := [], harness := (true, "95f3c7b3227e598cdf74ef29a30613e76dc5941208608732b95afc4c4533842c"), looks := false }, kinds := [], alts := [], laidByText := true, laidKinds := [.data, .data, .data, .pinned], laidTests := true, laidLooks := .later }
def PathFindsUptoCardSaid : Prop := Claim7.holds Tryz.pinned (.plain (OpenSpec.upto pathFindsSpec)) pathFindsUptoCard

/-- THE SECOND FORM's CARD OF 'replevinlaw29.PathNil'. -/
def pathNilUptoCard : Claim7 := { stood := { row := pathNilUptoRow, standIns := [], harness := (true, "95f3c7b3227e598cdf74ef29a30613e76dc5941208608732b95afc4c4533842c"), looks := false }, kinds := [], alts := [], laidByText := true, laidKinds := [.data, .data, .data, .pinned], laidTests := true, laidLooks := .later }
def PathNilUptoCardSaid : Prop := Claim7.holds Tryz.pinned (.plain (OpenSpec.upto pathNilSpec)) pathNilUptoCard
end Rows
end Go.Proofs.YtjpjpomapoepjaaGreatDoor
