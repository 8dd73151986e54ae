/-
  DERIVED. GIVEN WITH THE SEED: THE CARDS: each row of YtpgnphimifllfaaDoorRows.lean that lists a variable, with what it lists TIED to the program's text (the seventh form; the later family's looks); each row that meets fmt, with fmt's text TOLD by the authors' own Lean function (tested against real Go, not proved from fmt's source: count such statements apart). THE CARD IS WHAT COUNTS. Prove the row's statement (the work); the ties are given (YtpgnphimifllfaaDoorTie.lean); close each card by the builder's one call (the guide's Derived/Test/ToyasCard.lean, 'card_holds'). Laid BY PROGRAM, IN A SANDBOX (cutbox-door.mjs). By AI agents, Wed Nov 11 2026. No macro, syntax, notation, axiom, sorry.
-/
import Derived.Test.YtpgnphimifllfaaDoorRows
import GoSem.ClaimSeven
namespace Go.Proofs.YtpgnphimifllfaaDoor
namespace Rows

/-- THE TIED CARD OF 'replevinlaw34.LockEquals'. -/
def lockEqualsCard : Claim7 := { stood := { row := lockEqualsRow, standIns := [], harness := (true, "8bbfe7eca1d13f12f1e441936a66ad319e0ce7aa163922fa4151be998c150418"), looks := false }, kinds := [], alts := [], laidByText := true, laidKinds := [.data], laidTests := true, laidLooks := .later }
def LockEqualsCardSaid : Prop := Claim7.holds Tryd.pinned (.plain (OpenSpec.ofChange lockEqualsSpec)) lockEqualsCard

/-- THE SECOND FORM's CARD OF 'replevinlaw34.LockEquals'. -/
def lockEqualsUptoCard : Claim7 := { stood := { row := lockEqualsUptoRow, standIns := [], harness := (true, "8bbfe7eca1d13f12f1e441936a66ad319e0ce7aa163922fa4151be998c150418"), looks := false }, kinds := [], alts := [], laidByText := true, laidKinds := [.data], laidTests := true, laidLooks := .later }
def LockEqualsUptoCardSaid : Prop := Claim7.holds Tryd.pinned (.plain (OpenSpec.upto lockEqualsSpec)) lockEqualsUptoCard
end Rows
end Go.Proofs.YtpgnphimifllfaaDoor
