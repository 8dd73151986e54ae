/-
  DERIVED. GIVEN WITH THE SEED: THE CARDS: each row of YthhhjndhehdooaaGreatDoorRows.lean that lists a variable, with what it lists TIED to the program's text (the seventh form; the later family's looks); each row that meets fmt, with fmt's text TOLD by the authors' own Lean function (tested against real Go, not proved from fmt's source: count such statements apart). THE CARD IS WHAT COUNTS. Prove the row's statement (the work); the ties are given (YthhhjndhehdooaaGreatDoorTie.lean); close each card by the builder's one call (the guide's Derived/Test/ToyasCard.lean, 'card_holds'). Laid BY PROGRAM, IN A SANDBOX (cutbox-door.mjs). By AI agents, Wed Nov 11 2026. No macro, syntax, notation, axiom, sorry.
-/
import Derived.Test.YthhhjndhehdooaaGreatDoorRows
import GoSem.ClaimSeven
namespace Go.Proofs.YthhhjndhehdooaaGreatDoor
namespace Rows

/-- THE TIED CARD OF 'replevinlaw29.PathSplits'. -/
def pathSplitsCard : Claim7 := { stood := { row := pathSplitsRow, standIns := [], harness := (true, "323a8ac3a032716104e840864fa3f85e31f7d4359fdf22677daaae8c8315f034"), looks := false }, kinds := [], alts := [], laidByText := true, laidKinds := [.data, .data, .data, .pinned], laidTests := true, laidLooks := .later }
def PathSplitsCardSaid : Prop := Claim7.holds Tryz.pinned (.plain (OpenSpec.ofChange pathSplitsSpec)) pathSplitsCard

/-- THE TIED CARD OF 'replevinlaw29.PathResolves'. -/
def pathResolvesCard : Claim7 := { stood := { row := pathResolvesRow, standIns := [], harness := (true, "323a8ac3a032716104e840864fa3f85e31f7d4359fdf22677daaae8c8315f034"), looks := false }, kinds := [], alts := [], laidByText := true, laidKinds := [.data, .data, .data, .pinned], laidTests := true, laidLooks := .later }
def PathResolvesCardSaid : Prop := Claim7.holds Tryz.pinned (.plain (OpenSpec.ofChange pathResolvesSpec)) pathResolvesCard

/-- THE TIED CARD OF 'replevinlaw29.PathDenied'. -/
def pathDeniedCard : Claim7 := { stood := { row := pathDeniedRow, standIns := [], harness := (true, "323a8ac3a032716104e840864fa3f85e31f7d4359fdf22677daaae8c8315f034"), looks := false }, kinds := [], alts := [], laidByText := true, laidKinds := [.data, .data, .data, .pinned], laidTests := true, laidLooks := .later }
def PathDeniedCardSaid : Prop := Claim7.holds Tryz.pinned (.plain (OpenSpec.ofChange pathDeniedSpec)) pathDeniedCard

/-- THE TIED CARD OF 'replevinlaw29.PathFinds'. -/
def pathFindsCard : Claim7 := { stood := { row := pathFindsRow, standIns := [], harness := (true, "323a8ac3a032716104e840864fa3f85e31f7d4359fdf22677daaae8c8315f034"), looks := false }, kinds := [], alts := [], laidByText := true, laidKinds := [.data, .data, .data, .pinned], laidTests := true, laidLooks := .later }
def PathFindsCardSaid : Prop := Claim7.holds Tryz.pinned (.plain (OpenSpec.ofChange pathFindsSpec)) pathFindsCard

/-- THE TIED CARD OF 'replevinlaw29.PathInside'. -/
def pathInsideCard : Claim7 := { stood := { row := pathInsideRow, standIns := [], harness := (true, "323a8ac3a032716104e840864fa3f85e31f7d4359fdf22677daaae8c8315f034"), looks := false }, kinds := [], alts := [], laidByText := true, laidKinds := [.data, .data, .data, .pinned], laidTests := true, laidLooks := .later }
def PathInsideCardSaid : Prop := Claim7.holds Tryz.pinned (.plain (OpenSpec.ofChange pathInsideSpec)) pathInsideCard

/-- THE TIED CARD OF 'replevinlaw29.PathFrame'. -/
def pathFrameCard : Claim7 := { stood := { row := pathFrameRow, standIns := [], harness := (true, "323a8ac3a032716104e840864fa3f85e31f7d4359fdf22677daaae8c8315f034"), looks := false }, kinds := [], alts := [], laidByText := true, laidKinds := [.data, .data, .data, .pinned], laidTests := true, laidLooks := .later }
def PathFrameCardSaid : Prop := Claim7.holds Tryz.pinned (.plain (OpenSpec.ofChange pathFrameSpec)) pathFrameCard

/-- THE TIED CARD OF 'replevinlaw29.PathNil'. -/
def pathNilCard : Claim7 := { stood := { row := pathNilRow, standIns := [], harness := (true, "323a8ac3a032716104e840864fa3f85e31f7d4359fdf22677daaae8c8315f034"), looks := false }, kinds := [], alts := [], laidByText := true, laidKinds := [.data, .data, .data, .pinned], laidTests := true, laidLooks := .later }
def PathNilCardSaid : Prop := Claim7.holds Tryz.pinned (.plain (OpenSpec.ofChange pathNilSpec)) pathNilCard

/-- THE TIED CARD OF 'replevinlaw29.PathLinks'. -/
def pathLinksCard : Claim7 := { stood := { row := pathLinksRow, standIns := [], harness := (true, "323a8ac3a032716104e840864fa3f85e31f7d4359fdf22677daaae8c8315f034"), looks := false }, kinds := [], alts := [], laidByText := true, laidKinds := [.data, .data, .data, .pinned], laidTests := true, laidLooks := .later }
def PathLinksCardSaid : Prop := Claim7.holds Tryz.pinned (.plain (OpenSpec.ofChange pathLinksSpec)) pathLinksCard

/-- THE TIED CARD OF 'replevinlaw29.PathReads'. -/
def pathReadsCard : Claim7 := { stood := { row := pathReadsRow, standIns := [], harness := (true, "323a8ac3a032716104e840864fa3f85e31f7d4359fdf22677daaae8c8315f034"), looks := false }, kinds := [], alts := [], laidByText := true, laidKinds := [.data, .data, .data, .pinned], laidTests := true, laidLooks := .later }
def PathReadsCardSaid : Prop := Claim7.holds Tryz.pinned (.plain (OpenSpec.ofChange pathReadsSpec)) pathReadsCard

/-- THE TIED CARD OF 'replevinlaw29.PathCleans'. -/
def pathCleansCard : Claim7 := { stood := { row := pathCleansRow, standIns := [], harness := (true, "323a8ac3a032716104e840864fa3f85e31f7d4359fdf22677daaae8c8315f034"), looks := false }, kinds := [], alts := [], laidByText := true, laidKinds := [.data, .data, .data, .pinned], laidTests := true, laidLooks := .later }
def PathCleansCardSaid : Prop := Claim7.holds Tryz.pinned (.plain (OpenSpec.ofChange pathCleansSpec)) pathCleansCard

/-- THE SECOND FORM's CARD OF 'replevinlaw29.PathSplits'. -/
def pathSplitsUptoCard : Claim7 := { stood := { row := pathSplitsUptoRow, standIns := [], harness := (true, "323a8ac3a032716104e840864fa3f85e31f7d4359fdf22677daaae8c8315f034"), looks := false }, kinds := [], alts := [], laidByText := true, laidKinds := [.data, .data, .data, .pinned], laidTests := true, laidLooks := .later }
def PathSplitsUptoCardSaid : Prop := Claim7.holds Tryz.pinned (.plain (OpenSpec.upto pathSplitsSpec)) pathSplitsUptoCard

/-- THE SECOND FORM's CARD OF 'replevinlaw29.PathResolves'. -/
def pathResolvesUptoCard : Claim7 := { stood := { row := pathResolvesUptoRow, standIns := [], harness := (true, "323a8ac3a032716104e840864fa3f85e31f7d4359fdf22677daaae8c8315f034"), looks := false }, kinds := [], alts := [], laidByText := true, laidKinds := [.data, .data, .data, .pinned], laidTests := true, laidLooks := .later }
def PathResolvesUptoCardSaid : Prop := Claim7.holds Tryz.pinned (.plain (OpenSpec.upto pathResolvesSpec)) pathResolvesUptoCard

/-- THE SECOND FORM's CARD OF 'replevinlaw29.PathDenied'. -/
def pathDeniedUptoCard : Claim7 := { stood := { row := pathDeniedUptoRow, standIns := [], harness := (true, "323a8ac3a032716104e840864fa3f85e31f7d4359fdf22677daaae8c8315f034"), looks := false }, kinds := [], alts := [], laidByText := true, laidKinds := [.data, .data, .data, .pinned], laidTests := true, laidLooks := .later }
def PathDeniedUptoCardSaid : Prop := Claim7.holds Tryz.pinned (.plain (OpenSpec.upto pathDeniedSpec)) pathDeniedUptoCard

/-- THE SECOND FORM's CARD OF 'replevinlaw29.PathFinds'. -/
def pathFindsUptoCard : Claim7 := { stood := { row := pathFindsUptoRow, standIns := [], harness := (true, "323a8ac3a032716104e840864fa3f85e31f7d4359fdf22677daaae8c8315f034"), looks := false }, kinds := [], alts := [], laidByText := true, laidKinds := [.data, .data, .data, .pinned], laidTests := true, laidLooks := .later }
def PathFindsUptoCardSaid : Prop := Claim7.holds Tryz.pinned (.plain (OpenSpec.upto pathFindsSpec)) pathFindsUptoCard

/-- THE SECOND FORM's CARD OF 'replevinlaw29.PathInside'. -/
def pathInsideUptoCard : Claim7 := { stood := { row := pathInsideUptoRow, standIns := [], harness := (true, "323a8ac3a032716104e840864fa3f85e31f7d4359fdf22677daaae8c8315f034"), looks := false }, kinds := [], alts := [], laidByText := true, laidKinds := [.data, .data, .data, .pinned], laidTests := true, laidLooks := .later }
def PathInsideUptoCardSaid : Prop := Claim7.holds Tryz.pinned (.plain (OpenSpec.upto pathInsideSpec)) pathInsideUptoCard

/-- THE SECOND FORM's CARD OF 'replevinlaw29.PathFrame'. -/
def pathFrameUptoCard : Claim7 := { stood := { row := pathFrameUptoRow, standIns := [], harness := (true, "323a8ac3a032716104e840864fa3f85e31f7d4359fdf22677daaae8c8315f034"), looks := false }, kinds := [], alts := [], laidByText := true, laidKinds := [.data, .data, .data, .pinned], laidTests := true, laidLooks := .later }
def PathFrameUptoCardSaid : Prop := Claim7.holds Tryz.pinned (.plain (OpenSpec.upto pathFrameSpec)) pathFrameUptoCard

/-- THE SECOND FORM's CARD OF 'replevinlaw29.PathNil'. -/
def pathNilUptoCard : Claim7 := { stood := { row := pathNilUptoRow, standIns := [], harness := (true, "323a8ac3a032716104e840864fa3f85e31f7d4359fdf22677daaae8c8315f034"), looks := false }, kinds := [], alts := [], laidByText := true, laidKinds := [.data, .data, .data, .pinned], laidTests := true, laidLooks := .later }
def PathNilUptoCardSaid : Prop := Claim7.holds Tryz.pinned (.plain (OpenSpec.upto pathNilSpec)) pathNilUptoCard

/-- THE SECOND FORM's CARD OF 'replevinlaw29.PathLinks'. -/
def pathLinksUptoCard : Claim7 := { stood := { row := pathLinksUptoRow, standIns := [], harness := (true, "323a8ac3a032716104e840864fa3f85e31f7d4359fdf22677daaae8c8315f034"), looks := false }, kinds := [], alts := [], laidByText := true, laidKinds := [.data, .data, .data, .pinned], laidTests := true, laidLooks := .later }
def PathLinksUptoCardSaid : Prop := Claim7.holds Tryz.pinned (.plain (OpenSpec.upto pathLinksSpec)) pathLinksUptoCard

/-- THE SECOND FORM's CARD OF 'replevinlaw29.PathReads'. -/
def pathReadsUptoCard : Claim7 := { stood := { row := pathReadsUptoRow, standIns := [], harness := (true, "323a8ac3a032716104e840864fa3f85e31f7d4359fdf22677daaae8c8315f034"), looks := false }, kinds := [], alts := [], laidByText := true, laidKinds := [.data, .data, .data, .pinned], laidTests := true, laidLooks := .later }
def PathReadsUptoCardSaid : Prop := Claim7.holds Tryz.pinned (.plain (OpenSpec.upto pathReadsSpec)) pathReadsUptoCard

/-- THE SECOND FORM's CARD OF 'replevinlaw29.PathCleans'. -/
def pathCleansUptoCard : Claim7 := { stood := { row := pathCleansUptoRow, standIns := [], harness := (true, "323a8ac3a032716104e840864fa3f85e31f7d4359fdf22677daaae8c8315f034"), looks := false }, kinds := [], alts := [], laidByText := true, laidKinds := [.data, .data, .data, .pinned], laidTests := true, laidLooks := .later }
def PathCleansUptoCardSaid : Prop := Claim7.holds Tryz.pinned (.plain (OpenSpec.upto pathCleansSpec)) pathCleansUptoCard
end Rows
end Go.Proofs.YthhhjndhehdooaaGreatDoor
