/-
  DERIVED. GIVEN WITH THE SEED: THE CARDS: each row of YtljopnklonmooaaGreatDoorRows.lean that lists a variable, with what it lists TIED to the program's text (the seventh form; the later family's looks); each row that meets fmt, with fmt's text TOLD by the authors' own Lean function (tested against real Go, not proved from fmt's source: count such statements apart). THE CARD IS WHAT COUNTS. Prove the row's statement (the work); the ties are given (YtljopnklonmooaaGreatDoorTie.lean); close each card by the builder's one call (the guide's Derived/Test/ToyasCard.lean, 'card_holds'). Laid BY PROGRAM, IN A SANDBOX (cutbox-door.mjs). By AI agents, Wed Nov 11 2026. No macro, syntax, notation, axiom, sorry.
-/
import Derived.Test.YtljopnklonmooaaGreatDoorRows
import GoSem.ClaimSeven
namespace Go.Proofs.YtljopnklonmooaaGreatDoor
namespace Rows

/-- THE TIED CARD OF 'replevinlaw30.FilesBegin'. -/
def filesBeginCard : Claim7 := { stood := { row := filesBeginRow, standIns := [], harness := (true, "02fa1c1cdd2ae6853fe2b7cb06cfcce00b3d65fea2144907379cae4df45ebe2c"), looks := false }, kinds := [], alts := [], laidByText := true, laidKinds := [.data, .data, .data, .pinned], laidTests := true, laidLooks := .later }
def FilesBeginCardSaid : Prop := Claim7.holds Tryz.pinned (.plain (OpenSpec.ofChange filesBeginSpec)) filesBeginCard

/-- THE TIED CARD OF 'replevinlaw29.PathFrame'. -/
def pathFrameCard : Claim7 := { stood := { row := pathFrameRow, standIns := [], harness := (true, "02fa1c1cdd2ae6853fe2b7cb06cfcce00b3d65fea2144907379cae4df45ebe2c"), looks := false }, kinds := [], alts := [], laidByText := true, laidKinds := [.data, .data, .data, .pinned], laidTests := true, laidLooks := .later }
def PathFrameCardSaid : Prop := Claim7.holds Tryz.pinned (.plain (OpenSpec.ofChange pathFrameSpec)) pathFrameCard

/-- THE TIED CARD OF 'replevinlaw30.FilesContents'. -/
def filesContentsCard : Claim7 := { stood := { row := filesContentsRow, standIns := [], harness := (true, "02fa1c1cdd2ae6853fe2b7cb06cfcce00b3d65fea2144907379cae4df45ebe2c"), looks := false }, kinds := [], alts := [], laidByText := true, laidKinds := [.data, .data, .data, .pinned], laidTests := true, laidLooks := .later }
def FilesContentsCardSaid : Prop := Claim7.holds Tryz.pinned (.plain (OpenSpec.ofChange filesContentsSpec)) filesContentsCard

/-- THE TIED CARD OF 'replevinlaw29.PathLinks'. -/
def pathLinksCard : Claim7 := { stood := { row := pathLinksRow, standIns := [], harness := (true, "02fa1c1cdd2ae6853fe2b7cb06cfcce00b3d65fea2144907379cae4df45ebe2c"), looks := false }, kinds := [], alts := [], laidByText := true, laidKinds := [.data, .data, .data, .pinned], laidTests := true, laidLooks := .later }
def PathLinksCardSaid : Prop := Claim7.holds Tryz.pinned (.plain (OpenSpec.ofChange pathLinksSpec)) pathLinksCard

/-- THE TIED CARD OF 'replevinlaw30.FilesFlags'. -/
def filesFlagsCard : Claim7 := { stood := { row := filesFlagsRow, standIns := [], harness := (true, "02fa1c1cdd2ae6853fe2b7cb06cfcce00b3d65fea2144907379cae4df45ebe2c"), looks := false }, kinds := [], alts := [], laidByText := true, laidKinds := [.data, .data, .data, .pinned], laidTests := true, laidLooks := .later }
def FilesFlagsCardSaid : Prop := Claim7.holds Tryz.pinned (.plain (OpenSpec.ofChange filesFlagsSpec)) filesFlagsCard

/-- THE TIED CARD OF 'replevinlaw30.FilesDenied'. -/
def filesDeniedCard : Claim7 := { stood := { row := filesDeniedRow, standIns := [], harness := (true, "02fa1c1cdd2ae6853fe2b7cb06cfcce00b3d65fea2144907379cae4df45ebe2c"), looks := false }, kinds := [], alts := [], laidByText := true, laidKinds := [.data, .data, .data, .pinned], laidTests := true, laidLooks := .later }
def FilesDeniedCardSaid : Prop := Claim7.holds Tryz.pinned (.plain (OpenSpec.ofChange filesDeniedSpec)) filesDeniedCard

/-- THE SECOND FORM's CARD OF 'replevinlaw30.FilesBegin'. -/
def filesBeginUptoCard : Claim7 := { stood := { row := filesBeginUptoRow, standIns := [], harness := (true, "02fa1c1cdd2ae6853fe2b7cb06cfcce00b3d65fea2144907379cae4df45ebe2c"), looks := false }, kinds := [], alts := [], laidByText := true, laidKinds := [.data, .data, .data, .pinned], laidTests := true, laidLooks := .later }
def FilesBeginUptoCardSaid : Prop := Claim7.holds Tryz.pinned (.plain (OpenSpec.upto filesBeginSpec)) filesBeginUptoCard

/-- THE SECOND FORM's CARD OF 'replevinlaw29.PathFrame'. -/
def pathFrameUptoCard : Claim7 := { stood := { row := pathFrameUptoRow, standIns := [], harness := (true, "02fa1c1cdd2ae6853fe2b7cb06cfcce00b3d65fea2144907379cae4df45ebe2c"), looks := false }, kinds := [], alts := [], laidByText := true, laidKinds := [.data, .data, .data, .pinned], laidTests := true, laidLooks := .later }
def PathFrameUptoCardSaid : Prop := Claim7.holds Tryz.pinned (.plain (OpenSpec.upto pathFrameSpec)) pathFrameUptoCard

/-- THE SECOND FORM's CARD OF 'replevinlaw30.FilesContents'. -/
def filesContentsUptoCard : Claim7 := { stood := { row := filesContentsUptoRow, standIns := [], harness := (true, "02fa1c1cdd2ae6853fe2b7cb06cfcce00b3d65fea2144907379cae4df45ebe2c"), looks := false }, kinds := [], alts := [], laidByText := true, laidKinds := [.data, .data, .data, .pinned], laidTests := true, laidLooks := .later }
def FilesContentsUptoCardSaid : Prop := Claim7.holds Tryz.pinned (.plain (OpenSpec.upto filesContentsSpec)) filesContentsUptoCard

/-- THE SECOND FORM's CARD OF 'replevinlaw29.PathLinks'. -/
def pathLinksUptoCard : Claim7 := { stood := { row := pathLinksUptoRow, standIns := [], harness := (true, "02fa1c1cdd2ae6853fe2b7cb06cfcce00b3d65fea2144907379cae4df45ebe2c"), looks := false }, kinds := [], alts := [], laidByText := true, laidKinds := [.data, .data, .data, .pinned], laidTests := true, laidLooks := .later }
def PathLinksUptoCardSaid : Prop := Claim7.holds Tryz.pinned (.plain (OpenSpec.upto pathLinksSpec)) pathLinksUptoCard

/-- THE SECOND FORM's CARD OF 'replevinlaw30.FilesFlags'. -/
def filesFlagsUptoCard : Claim7 := { stood := { row := filesFlagsUptoRow, standIns := [], harness := (true, "02fa1c1cdd2ae6853fe2b7cb06cfcce00b3d65fea2144907379cae4df45ebe2c"), looks := false }, kinds := [], alts := [], laidByText := true, laidKinds := [.data, .data, .data, .pinned], laidTests := true, laidLooks := .later }
def FilesFlagsUptoCardSaid : Prop := Claim7.holds Tryz.pinned (.plain (OpenSpec.upto filesFlagsSpec)) filesFlagsUptoCard

/-- THE SECOND FORM's CARD OF 'replevinlaw30.FilesDenied'. -/
def filesDeniedUptoCard : Claim7 := { stood := { row := filesDeniedUptoRow, standIns := [], harness := (true, "02fa1c1cdd2ae6853fe2b7cb06cfcce00b3d65fea2144907379cae4df45ebe2c"), looks := false }, kinds := [], alts := [], laidByText := true, laidKinds := [.data, .data, .data, .pinned], laidTests := true, laidLooks := .later }
def FilesDeniedUptoCardSaid : Prop := Claim7.holds Tryz.pinned (.plain (OpenSpec.upto filesDeniedSpec)) filesDeniedUptoCard
end Rows
end Go.Proofs.YtljopnklonmooaaGreatDoor
