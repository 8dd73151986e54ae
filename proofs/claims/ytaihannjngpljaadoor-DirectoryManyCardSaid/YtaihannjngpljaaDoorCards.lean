/-
  DERIVED. GIVEN WITH THE SEED: THE CARDS: each row of YtaihannjngpljaaDoorRows.lean that lists a variable, with what it lists TIED to the program's text (the seventh form; the later family's looks); each row that meets fmt, with fmt's text TOLD by the authors' own Lean function (tested against real Go, not proved from fmt's source: count such statements apart). THE CARD IS WHAT COUNTS. Prove the row's statement (the work); the ties are given (YtaihannjngpljaaDoorTie.lean); close each card by the builder's one call (the guide's Derived/Test/ToyasCard.lean, 'card_holds'). Laid BY PROGRAM, IN A SANDBOX (cutbox-door.mjs). By AI agents, Wed Nov 11 2026. No macro, syntax, notation, axiom, sorry.
-/
import Derived.Test.YtaihannjngpljaaDoorRows
import GoSem.ClaimSeven
namespace Go.Proofs.YtaihannjngpljaaDoor
namespace Rows

/-- THE TIED CARD OF 'replevinlaw34.LockDecodes'. -/
def lockDecodesCard : Claim7 := { stood := { row := lockDecodesRow, standIns := [], harness := (true, "42f092bd0077ef1d31e47514cd10299337bd1c8897066d5d208d6c4b17e2cc1f"), looks := false }, kinds := [], alts := [], laidByText := true, laidKinds := [.data], laidTests := true, laidLooks := .later }
def LockDecodesCardSaid : Prop := Claim7.holds Tryd.pinned (.plain (OpenSpec.ofChange lockDecodesSpec)) lockDecodesCard

/-- THE TIED CARD OF 'replevinlaw34.LockOperations'. -/
def lockOperationsCard : Claim7 := { stood := { row := lockOperationsRow, standIns := [], harness := (true, "42f092bd0077ef1d31e47514cd10299337bd1c8897066d5d208d6c4b17e2cc1f"), looks := false }, kinds := [], alts := [], laidByText := true, laidKinds := [.data], laidTests := true, laidLooks := .later }
def LockOperationsCardSaid : Prop := Claim7.holds Tryd.pinned (.plain (OpenSpec.ofChange lockOperationsSpec)) lockOperationsCard

/-- THE TIED CARD OF 'replevinlaw34.LockExcludes'. -/
def lockExcludesCard : Claim7 := { stood := { row := lockExcludesRow, standIns := [], harness := (true, "42f092bd0077ef1d31e47514cd10299337bd1c8897066d5d208d6c4b17e2cc1f"), looks := false }, kinds := [], alts := [], laidByText := true, laidKinds := [.data], laidTests := true, laidLooks := .later }
def LockExcludesCardSaid : Prop := Claim7.holds Tryd.pinned (.plain (OpenSpec.ofChange lockExcludesSpec)) lockExcludesCard

/-- THE TIED CARD OF 'replevinlaw34.LockShares'. -/
def lockSharesCard : Claim7 := { stood := { row := lockSharesRow, standIns := [], harness := (true, "42f092bd0077ef1d31e47514cd10299337bd1c8897066d5d208d6c4b17e2cc1f"), looks := false }, kinds := [], alts := [], laidByText := true, laidKinds := [.data], laidTests := true, laidLooks := .later }
def LockSharesCardSaid : Prop := Claim7.holds Tryd.pinned (.plain (OpenSpec.ofChange lockSharesSpec)) lockSharesCard

/-- THE TIED CARD OF 'replevinlaw34.LockEpochs'. -/
def lockEpochsCard : Claim7 := { stood := { row := lockEpochsRow, standIns := [], harness := (true, "42f092bd0077ef1d31e47514cd10299337bd1c8897066d5d208d6c4b17e2cc1f"), looks := false }, kinds := [], alts := [], laidByText := true, laidKinds := [.data], laidTests := true, laidLooks := .later }
def LockEpochsCardSaid : Prop := Claim7.holds Tryd.pinned (.plain (OpenSpec.ofChange lockEpochsSpec)) lockEpochsCard

/-- THE TIED CARD OF 'replevinlaw34.LockChecks'. -/
def lockChecksCard : Claim7 := { stood := { row := lockChecksRow, standIns := [], harness := (true, "42f092bd0077ef1d31e47514cd10299337bd1c8897066d5d208d6c4b17e2cc1f"), looks := false }, kinds := [], alts := [], laidByText := true, laidKinds := [.data], laidTests := true, laidLooks := .later }
def LockChecksCardSaid : Prop := Claim7.holds Tryd.pinned (.plain (OpenSpec.ofChange lockChecksSpec)) lockChecksCard

/-- THE TIED CARD OF 'replevinlaw34.LockEquals'. -/
def lockEqualsCard : Claim7 := { stood := { row := lockEqualsRow, standIns := [], harness := (true, "42f092bd0077ef1d31e47514cd10299337bd1c8897066d5d208d6c4b17e2cc1f"), looks := false }, kinds := [], alts := [], laidByText := true, laidKinds := [.data], laidTests := true, laidLooks := .later }
def LockEqualsCardSaid : Prop := Claim7.holds Tryd.pinned (.plain (OpenSpec.ofChange lockEqualsSpec)) lockEqualsCard

/-- THE TIED CARD OF 'replevinlaw28.DirectoryMany'. -/
def directoryManyCard : Claim7 := { stood := { row := directoryManyRow, standIns := [], harness := (true, "42f092bd0077ef1d31e47514cd10299337bd1c8897066d5d208d6c4b17e2cc1f"), looks := false }, kinds := [], alts := [], laidByText := true, laidKinds := [.data], laidTests := true, laidLooks := .later }
def DirectoryManyCardSaid : Prop := Claim7.holds Tryd.pinned (.plain (OpenSpec.ofChange directoryManySpec)) directoryManyCard

/-- THE SECOND FORM's CARD OF 'replevinlaw34.LockDecodes'. -/
def lockDecodesUptoCard : Claim7 := { stood := { row := lockDecodesUptoRow, standIns := [], harness := (true, "42f092bd0077ef1d31e47514cd10299337bd1c8897066d5d208d6c4b17e2cc1f"), looks := false }, kinds := [], alts := [], laidByText := true, laidKinds := [.data], laidTests := true, laidLooks := .later }
def LockDecodesUptoCardSaid : Prop := Claim7.holds Tryd.pinned (.plain (OpenSpec.upto lockDecodesSpec)) lockDecodesUptoCard

/-- THE SECOND FORM's CARD OF 'replevinlaw34.LockOperations'. -/
def lockOperationsUptoCard : Claim7 := { stood := { row := lockOperationsUptoRow, standIns := [], harness := (true, "42f092bd0077ef1d31e47514cd10299337bd1c8897066d5d208d6c4b17e2cc1f"), looks := false }, kinds := [], alts := [], laidByText := true, laidKinds := [.data], laidTests := true, laidLooks := .later }
def LockOperationsUptoCardSaid : Prop := Claim7.holds Tryd.pinned (.plain (OpenSpec.upto lockOperationsSpec)) lockOperationsUptoCard

/-- THE SECOND FORM's CARD OF 'replevinlaw34.LockExcludes'. -/
def lockExcludesUptoCard : Claim7 := { stood := { row := lockExcludesUptoRow, standIns := [], harness := (true, "42f092bd0077ef1d31e47514cd10299337bd1c8897066d5d208d6c4b17e2cc1f"), looks := false }, kinds := [], alts := [], laidByText := true, laidKinds := [.data], laidTests := true, laidLooks := .later }
def LockExcludesUptoCardSaid : Prop := Claim7.holds Tryd.pinned (.plain (OpenSpec.upto lockExcludesSpec)) lockExcludesUptoCard

/-- THE SECOND FORM's CARD OF 'replevinlaw34.LockShares'. -/
def lockSharesUptoCard : Claim7 := { stood := { row := lockSharesUptoRow, standIns := [], harness := (true, "42f092bd0077ef1d31e47514cd10299337bd1c8897066d5d208d6c4b17e2cc1f"), looks := false }, kinds := [], alts := [], laidByText := true, laidKinds := [.data], laidTests := true, laidLooks := .later }
def LockSharesUptoCardSaid : Prop := Claim7.holds Tryd.pinned (.plain (OpenSpec.upto lockSharesSpec)) lockSharesUptoCard

/-- THE SECOND FORM's CARD OF 'replevinlaw34.LockEpochs'. -/
def lockEpochsUptoCard : Claim7 := { stood := { row := lockEpochsUptoRow, standIns := [], harness := (true, "42f092bd0077ef1d31e47514cd10299337bd1c8897066d5d208d6c4b17e2cc1f"), looks := false }, kinds := [], alts := [], laidByText := true, laidKinds := [.data], laidTests := true, laidLooks := .later }
def LockEpochsUptoCardSaid : Prop := Claim7.holds Tryd.pinned (.plain (OpenSpec.upto lockEpochsSpec)) lockEpochsUptoCard

/-- THE SECOND FORM's CARD OF 'replevinlaw34.LockChecks'. -/
def lockChecksUptoCard : Claim7 := { stood := { row := lockChecksUptoRow, standIns := [], harness := (true, "42f092bd0077ef1d31e47514cd10299337bd1c8897066d5d208d6c4b17e2cc1f"), looks := false }, kinds := [], alts := [], laidByText := true, laidKinds := [.data], laidTests := true, laidLooks := .later }
def LockChecksUptoCardSaid : Prop := Claim7.holds Tryd.pinned (.plain (OpenSpec.upto lockChecksSpec)) lockChecksUptoCard

/-- THE SECOND FORM's CARD OF 'replevinlaw34.LockEquals'. -/
def lockEqualsUptoCard : Claim7 := { stood := { row := lockEqualsUptoRow, standIns := [], harness := (true, "42f092bd0077ef1d31e47514cd10299337bd1c8897066d5d208d6c4b17e2cc1f"), looks := false }, kinds := [], alts := [], laidByText := true, laidKinds := [.data], laidTests := true, laidLooks := .later }
def LockEqualsUptoCardSaid : Prop := Claim7.holds Tryd.pinned (.plain (OpenSpec.upto lockEqualsSpec)) lockEqualsUptoCard

/-- THE SECOND FORM's CARD OF 'replevinlaw28.DirectoryMany'. -/
def directoryManyUptoCard : Claim7 := { stood := { row := directoryManyUptoRow, standIns := [], harness := (true, "42f092bd0077ef1d31e47514cd10299337bd1c8897066d5d208d6c4b17e2cc1f"), looks := false }, kinds := [], alts := [], laidByText := true, laidKinds := [.data], laidTests := true, laidLooks := .later }
def DirectoryManyUptoCardSaid : Prop := Claim7.holds Tryd.pinned (.plain (OpenSpec.upto directoryManySpec)) directoryManyUptoCard
end Rows
end Go.Proofs.YtaihannjngpljaaDoor
