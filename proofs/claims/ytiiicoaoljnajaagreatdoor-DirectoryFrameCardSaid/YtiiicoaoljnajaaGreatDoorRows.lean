/-
  NARROWER THAN 'FOR EVERY INPUT', by the rows' own cells (each row's printed sentence says how): LockErrors: laid · DirectoryPlays: laid · DirectoryErrors: laid · DirectoryKeeps: laid · DirectoryReads: laid · DirectoryFrame: laid.
  DERIVED. THE GIVEN ROWS OF THIS SEAT. 6 by the template 'for every input the law returns true; each argument reads behind the call as it read before'; 0 by the template 'total and deterministic' (their statements: YtiiicoaoljnajaaGreatDoorTotals.lean).
  GIVEN WITH THE SEED: the statements are not yours to turn. If you find one false, say at which input.
  Laid BY PROGRAM, IN A SANDBOX (cutbox-rows.mjs): the forced cells as the released guide's own fill.sh prints them over the translation eb36c1ae2c4390e1… (all of the seat's roots in one cut). By AI agents, Wed Nov 11 2026. No macro, syntax, notation, axiom, sorry.
-/
import Derived.Test.YtiiicoaoljnajaaGreatDoorChecked
import GoSem.Claim
import GoSem.ClaimJoined
import GoSem.ClaimMapViews
import Derived.JoinedTies
import Derived.KernelRfl
namespace Go.Proofs.YtiiicoaoljnajaaGreatDoor
/- THE CELL 'sum', in the pinned program and in every row, IS THE sha256 OF THE DUMP (.gsa) THAT YtiiicoaoljnajaaGreatDoorProg.lean LOADS. Nothing in Lean hashes anything: it is a label: what it is worth is what the hold of that sum in a sandbox is worth. -/
noncomputable def Tryz.pinned : Pinned := { name := "ytiiicoaoljnajaagreatdoor", sum := "eb36c1ae2c4390e151c3f5dbf24c22c0f025467574f41280e5ab6089b737ee83", checked := Tryz.checked }
namespace Rows
def none {H : Type} : Left H := { results := [], args := [] }

/- WHAT THE LISTED PACKAGE-LEVEL VARIABLES READ AS WHEN THE CALL BEGINS. Each datum BY PROGRAM (the guide's laid-datum.mjs) off the statement by which the dump's own 'gosem.cut.vars' lays the variable. In a bare row this is a premise. The card (YtiiicoaoljnajaaGreatDoorCards.lean) ties it to the program's text. -/
def laid_replevin_object_usages {H : Type} : DataW H := .agg [.agg [.lit (.string []), .lit (.bool false), .lit (.bool false), .lit (.bool false), .lit (.bool false), .lit (.int .i64 0)], .agg [.lit (.string [112, 114, 111, 99, 101, 115, 115]), .lit (.bool true), .lit (.bool false), .lit (.bool false), .lit (.bool false), .lit (.int .i64 0)], .agg [.lit (.string [114, 101, 103, 105, 115, 116, 101, 114, 115]), .lit (.bool true), .lit (.bool false), .lit (.bool false), .lit (.bool false), .lit (.int .i64 0)], .agg [.lit (.string [112, 97, 103, 101]), .lit (.bool true), .lit (.bool false), .lit (.bool true), .lit (.bool false), .lit (.int .i64 63)], .agg [.lit (.string [116, 97, 98, 108, 101]), .lit (.bool true), .lit (.bool false), .lit (.bool false), .lit (.bool false), .lit (.int .i64 0)], .agg [.lit (.string [99, 111, 117, 110, 116, 101, 114]), .lit (.bool true), .lit (.bool false), .lit (.bool false), .lit (.bool false), .lit (.int .i64 0)], .agg [.lit (.string [112, 101, 110, 100, 105, 110, 103]), .lit (.bool true), .lit (.bool false), .lit (.bool false), .lit (.bool false), .lit (.int .i64 0)], .agg [.lit (.string [110, 111, 100, 101]), .lit (.bool true), .lit (.bool true), .lit (.bool false), .lit (.bool false), .lit (.int .i64 0)], .agg [.lit (.string [98, 108, 111, 99, 107]), .lit (.bool true), .lit (.bool true), .lit (.bool true), .lit (.bool false), .lit (.int .i64 63)], .agg [.lit (.string [101, 110, 116, 114, 121]), .lit (.bool true), .lit (.bool true), .lit (.bool false), .lit (.bool true), .lit (.int .i64 0)], .agg [.lit (.string [108, 105, 115, 116, 105, 110, 103]), .lit (.bool true), .lit (.bool true), .lit (.bool false), .lit (.bool false), .lit (.int .i64 0)], .agg [.lit (.string [112, 105, 112, 101]), .lit (.bool true), .lit (.bool true), .lit (.bool false), .lit (.bool false), .lit (.int .i64 0)], .agg [.lit (.string [108, 111, 99, 107]), .lit (.bool true), .lit (.bool true), .lit (.bool false), .lit (.bool false), .lit (.int .i64 0)], .agg [.lit (.string [116, 101, 114, 109, 105, 110, 97, 108]), .lit (.bool false), .lit (.bool true), .lit (.bool false), .lit (.bool false), .lit (.int .i64 0)], .agg [.lit (.string [97, 99, 99, 111, 117, 110, 116]), .lit (.bool false), .lit (.bool false), .lit (.bool false), .lit (.bool true), .lit (.int .i64 0)], .agg [.lit (.string [99, 108, 111, 99, 107]), .lit (.bool false), .lit (.bool false), .lit (.bool false), .lit (.bool false), .lit (.int .i64 0)], .agg [.lit (.string [112, 111, 114, 116]), .lit (.bool false), .lit (.bool true), .lit (.bool false), .lit (.bool false), .lit (.int .i64 0)], .agg [.lit (.string [98, 111, 120]), .lit (.bool false), .lit (.bool false), .lit (.bool false), .lit (.bool true), .lit (.int .i64 0)], .agg [.lit (.string [111, 117, 116]), .lit (.bool true), .lit (.bool true), .lit (.bool true), .lit (.bool false), .lit (.int .i64 1073741824)], .agg [.lit (.string [115, 104, 101, 108, 108]), .lit (.bool true), .lit (.bool false), .lit (.bool false), .lit (.bool false), .lit (.int .i64 0)], .agg [.lit (.string [101, 112, 111, 99, 104]), .lit (.bool false), .lit (.bool false), .lit (.bool false), .lit (.bool false), .lit (.int .i64 0)]]

/-- 'replevinlaw34.LockErrors': WHATEVER THE INPUT: true; the input reads as it did. -/
def lockErrorsSpec : ChangeSpec := { name := "lockErrors", fn := fun _ => fun
  | [d1, d2, d3] => { results := [.lit (.bool true)], args := [d1, d2, d3] }
  | _ => none }
def lockErrorsRow : OpenClaim := { program := "ytiiicoaoljnajaagreatdoor", sum := "eb36c1ae2c4390e151c3f5dbf24c22c0f025467574f41280e5ab6089b737ee83", func := "replevin/replevinlaw34.LockErrors", spec := "lockErrors", inPlace := ["slices.overlaps[replevin/lineage.Name]"], unfollowed := true, recurses := true, named := ["replevin/object.usages"], plainKeys := false, apart := false, laid := [("replevin/object.usages", laid_replevin_object_usages)] }
def LockErrorsSaid : Prop := lockErrorsRow.holds Tryz.pinned (OpenSpec.ofChange lockErrorsSpec)

/-- ITS FALSE NEIGHBOUR: 'it returns false'. Refute it at one input. -/
def lockErrorsWrong : ChangeSpec := { name := "lockErrors", fn := fun _ => fun
  | [d1, d2, d3] => { results := [.lit (.bool false)], args := [d1, d2, d3] }
  | _ => none }
def LockErrorsWrongFalsely : Prop := lockErrorsRow.holds Tryz.pinned (OpenSpec.ofChange lockErrorsWrong)

/-- 'replevinlaw28.DirectoryPlays': WHATEVER THE INPUT: true; the input reads as it did. -/
def directoryPlaysSpec : ChangeSpec := { name := "directoryPlays", fn := fun _ => fun
  | [d] => { results := [.lit (.bool true)], args := [d] }
  | _ => none }
def directoryPlaysRow : OpenClaim := { program := "ytiiicoaoljnajaagreatdoor", sum := "eb36c1ae2c4390e151c3f5dbf24c22c0f025467574f41280e5ab6089b737ee83", func := "replevin/replevinlaw28.DirectoryPlays", spec := "directoryPlays", inPlace := ["slices.overlaps[string]"], unfollowed := true, recurses := true, named := ["replevin/object.usages"], plainKeys := false, apart := false, laid := [("replevin/object.usages", laid_replevin_object_usages)] }
def DirectoryPlaysSaid : Prop := directoryPlaysRow.holds Tryz.pinned (OpenSpec.ofChange directoryPlaysSpec)

/-- ITS FALSE NEIGHBOUR: 'it returns false'. Refute it at one input. -/
def directoryPlaysWrong : ChangeSpec := { name := "directoryPlays", fn := fun _ => fun
  | [d] => { results := [.lit (.bool false)], args := [d] }
  | _ => none }
def DirectoryPlaysWrongFalsely : Prop := directoryPlaysRow.holds Tryz.pinned (OpenSpec.ofChange directoryPlaysWrong)

/-- 'replevinlaw28.DirectoryErrors': WHATEVER THE INPUT: true; the input reads as it did. -/
def directoryErrorsSpec : ChangeSpec := { name := "directoryErrors", fn := fun _ => fun
  | [d1, d2] => { results := [.lit (.bool true)], args := [d1, d2] }
  | _ => none }
def directoryErrorsRow : OpenClaim := { program := "ytiiicoaoljnajaagreatdoor", sum := "eb36c1ae2c4390e151c3f5dbf24c22c0f025467574f41280e5ab6089b737ee83", func := "replevin/replevinlaw28.DirectoryErrors", spec := "directoryErrors", inPlace := ["slices.overlaps[string]"], unfollowed := true, recurses := true, named := ["replevin/object.usages"], plainKeys := false, apart := false, laid := [("replevin/object.usages", laid_replevin_object_usages)] }
def DirectoryErrorsSaid : Prop := directoryErrorsRow.holds Tryz.pinned (OpenSpec.ofChange directoryErrorsSpec)

/-- ITS FALSE NEIGHBOUR: 'it returns false'. Refute it at one input. -/
def directoryErrorsWrong : ChangeSpec := { name := "directoryErrors", fn := fun _ => fun
  | [d1, d2] => { results := [.lit (.bool false)], args := [d1, d2] }
  | _ => none }
def DirectoryErrorsWrongFalsely : Prop := directoryErrorsRow.holds Tryz.pinned (OpenSpec.ofChange directoryErrorsWrong)

/-- 'replevinlaw28.DirectoryKeeps': WHATEVER THE INPUT: true; the input reads as it did. -/
def directoryKeepsSpec : ChangeSpec := { name := "directoryKeeps", fn := fun _ => fun
  | [d1, d2, d3, d4, d5] => { results := [.lit (.bool true)], args := [d1, d2, d3, d4, d5] }
  | _ => none }
def directoryKeepsRow : OpenClaim := { program := "ytiiicoaoljnajaagreatdoor", sum := "eb36c1ae2c4390e151c3f5dbf24c22c0f025467574f41280e5ab6089b737ee83", func := "replevin/replevinlaw28.DirectoryKeeps", spec := "directoryKeeps", inPlace := ["slices.overlaps[string]"], unfollowed := true, recurses := true, named := ["replevin/object.usages"], plainKeys := false, apart := false, laid := [("replevin/object.usages", laid_replevin_object_usages)] }
def DirectoryKeepsSaid : Prop := directoryKeepsRow.holds Tryz.pinned (OpenSpec.ofChange directoryKeepsSpec)

/-- ITS FALSE NEIGHBOUR: 'it returns false'. Refute it at one input. -/
def directoryKeepsWrong : ChangeSpec := { name := "directoryKeeps", fn := fun _ => fun
  | [d1, d2, d3, d4, d5] => { results := [.lit (.bool false)], args := [d1, d2, d3, d4, d5] }
  | _ => none }
def DirectoryKeepsWrongFalsely : Prop := directoryKeepsRow.holds Tryz.pinned (OpenSpec.ofChange directoryKeepsWrong)

/-- 'replevinlaw28.DirectoryReads': WHATEVER THE INPUT: true; the input reads as it did. -/
def directoryReadsSpec : ChangeSpec := { name := "directoryReads", fn := fun _ => fun
  | [d1, d2] => { results := [.lit (.bool true)], args := [d1, d2] }
  | _ => none }
def directoryReadsRow : OpenClaim := { program := "ytiiicoaoljnajaagreatdoor", sum := "eb36c1ae2c4390e151c3f5dbf24c22c0f025467574f41280e5ab6089b737ee83", func := "replevin/replevinlaw28.DirectoryReads", spec := "directoryReads", inPlace := ["slices.overlaps[string]"], unfollowed := true, recurses := true, named := ["replevin/object.usages"], plainKeys := false, apart := false, laid := [("replevin/object.usages", laid_replevin_object_usages)] }
def DirectoryReadsSaid : Prop := directoryReadsRow.holds Tryz.pinned (OpenSpec.ofChange directoryReadsSpec)

/-- ITS FALSE NEIGHBOUR: 'it returns false'. Refute it at one input. -/
def directoryReadsWrong : ChangeSpec := { name := "directoryReads", fn := fun _ => fun
  | [d1, d2] => { results := [.lit (.bool false)], args := [d1, d2] }
  | _ => none }
def DirectoryReadsWrongFalsely : Prop := directoryReadsRow.holds Tryz.pinned (OpenSpec.ofChange directoryReadsWrong)

/-- 'replevinlaw28.DirectoryFrame': WHATEVER THE INPUT: true; the input reads as it did. -/
def directoryFrameSpec : ChangeSpec := { name := "directoryFrame", fn := fun _ => fun
  | [d1, d2, d3] => { results := [.lit (.bool true)], args := [d1, d2, d3] }
  | _ => none }
def directoryFrameRow : OpenClaim := { program := "ytiiicoaoljnajaagreatdoor", sum := "eb36c1ae2c4390e151c3f5dbf24c22c0f025467574f41280e5ab6089b737ee83", func := "replevin/replevinlaw28.DirectoryFrame", spec := "directoryFrame", inPlace := ["slices.overlaps[string]"], unfollowed := true, recurses := true, named := ["replevin/object.usages"], plainKeys := false, apart := false, laid := [("replevin/object.usages", laid_replevin_object_usages)] }
def DirectoryFrameSaid : Prop := directoryFrameRow.holds Tryz.pinned (OpenSpec.ofChange directoryFrameSpec)

/-- ITS FALSE NEIGHBOUR: 'it returns false'. Refute it at one input. -/
def directoryFrameWrong : ChangeSpec := { name := "directoryFrame", fn := fun _ => fun
  | [d1, d2, d3] => { results := [.lit (.bool false)], args := [d1, d2, d3] }
  | _ => none }
def DirectoryFrameWrongFalsely : Prop := directoryFrameRow.holds Tryz.pinned (OpenSpec.ofChange directoryFrameWrong)

/- THE SECOND FORM. 'bulk': how many values and letters a reading holds, each counted each time it is reached (what is shared counts as often as it is met; a slice's spare places count too). A statement '..UptoSaid' is the law's where the arguments, and the package variables that the reading takes, are together of bulk at most 1048576: NARROWER than '..Said'. Prove '..Said' where nothing that the law and all that it calls make is longer than what came in: it says more and counts as full. Else prove '..UptoSaid'. A law counts once. -/
mutual
def uptoBulk {H : Type} : DataW H → Nat
  | .lit (.string bytes) => bytes.length + 1
  | .lit _ => 1
  | .nil => 1
  | .ptr d => uptoBulk d + 1
  | .slice elems spare => uptoBulkAll elems + uptoBulkAll spare + 1
  | .agg parts => uptoBulkAll parts + 1
  | .iface _ d => uptoBulk d + 1
  | .map entries => uptoBulkEntries entries + 1
  | .held _ => 1
def uptoBulkAll {H : Type} : List (DataW H) → Nat
  | [] => 0
  | d :: r => uptoBulk d + uptoBulkAll r
def uptoBulkEntries {H : Type} : List (Lit × DataW H) → Nat
  | [] => 0
  | x :: r => uptoBulkEntry x + uptoBulkEntries r
def uptoBulkEntry {H : Type} : Lit × DataW H → Nat
  | (.string bytes, d) => bytes.length + uptoBulk d + 1
  | (_, d) => uptoBulk d + 1
 end
def uptoSmall : (H : Type) → List (DataW H) → Bool := fun _ ds => decide (uptoBulkAll ds ≤ 1048576)
def OpenSpec.upto (s : _root_.Go.ChangeSpec) : _root_.Go.OpenSpec := { _root_.Go.OpenSpec.ofChange s with cond := some uptoSmall }

/-- 'replevinlaw34.LockErrors', WHERE WHAT IT READS IS OF BULK AT MOST 1048576: true; the input reads as it did. -/
def lockErrorsUptoRow : OpenClaim := { program := "ytiiicoaoljnajaagreatdoor", sum := "eb36c1ae2c4390e151c3f5dbf24c22c0f025467574f41280e5ab6089b737ee83", func := "replevin/replevinlaw34.LockErrors", spec := "lockErrors", inPlace := ["slices.overlaps[replevin/lineage.Name]"], unfollowed := true, recurses := true, named := ["replevin/object.usages"], plainKeys := false, apart := false, laid := [("replevin/object.usages", laid_replevin_object_usages)], narrowed := true }
def LockErrorsUptoSaid : Prop := lockErrorsUptoRow.holds Tryz.pinned (OpenSpec.upto lockErrorsSpec)

/-- 'replevinlaw28.DirectoryPlays', WHERE WHAT IT READS IS OF BULK AT MOST 1048576: true; the input reads as it did. -/
def directoryPlaysUptoRow : OpenClaim := { program := "ytiiicoaoljnajaagreatdoor", sum := "eb36c1ae2c4390e151c3f5dbf24c22c0f025467574f41280e5ab6089b737ee83", func := "replevin/replevinlaw28.DirectoryPlays", spec := "directoryPlays", inPlace := ["slices.overlaps[string]"], unfollowed := true, recurses := true, named := ["replevin/object.usages"], plainKeys := false, apart := false, laid := [("replevin/object.usages", laid_replevin_object_usages)], narrowed := true }
def DirectoryPlaysUptoSaid : Prop := directoryPlaysUptoRow.holds Tryz.pinned (OpenSpec.upto directoryPlaysSpec)

/-- 'replevinlaw28.DirectoryErrors', WHERE WHAT IT READS IS OF BULK AT MOST 1048576: true; the input reads as it did. -/
def directoryErrorsUptoRow : OpenClaim := { program := "ytiiicoaoljnajaagreatdoor", sum := "eb36c1ae2c4390e151c3f5dbf24c22c0f025467574f41280e5ab6089b737ee83", func := "replevin/replevinlaw28.DirectoryErrors", spec := "directoryErrors", inPlace := ["slices.overlaps[string]"], unfollowed := true, recurses := true, named := ["replevin/object.usages"], plainKeys := false, apart := false, laid := [("replevin/object.usages", laid_replevin_object_usages)], narrowed := true }
def DirectoryErrorsUptoSaid : Prop := directoryErrorsUptoRow.holds Tryz.pinned (OpenSpec.upto directoryErrorsSpec)

/-- 'replevinlaw28.DirectoryKeeps', WHERE WHAT IT READS IS OF BULK AT MOST 1048576: true; the input reads as it did. -/
def directoryKeepsUptoRow : OpenClaim := { program := "ytiiicoaoljnajaagreatdoor", sum := "eb36c1ae2c4390e151c3f5dbf24c22c0f025467574f41280e5ab6089b737ee83", func := "replevin/replevinlaw28.DirectoryKeeps", spec := "directoryKeeps", inPlace := ["slices.overlaps[string]"], unfollowed := true, recurses := true, named := ["replevin/object.usages"], plainKeys := false, apart := false, laid := [("replevin/object.usages", laid_replevin_object_usages)], narrowed := true }
def DirectoryKeepsUptoSaid : Prop := directoryKeepsUptoRow.holds Tryz.pinned (OpenSpec.upto directoryKeepsSpec)

/-- 'replevinlaw28.DirectoryReads', WHERE WHAT IT READS IS OF BULK AT MOST 1048576: true; the input reads as it did. -/
def directoryReadsUptoRow : OpenClaim := { program := "ytiiicoaoljnajaagreatdoor", sum := "eb36c1ae2c4390e151c3f5dbf24c22c0f025467574f41280e5ab6089b737ee83", func := "replevin/replevinlaw28.DirectoryReads", spec := "directoryReads", inPlace := ["slices.overlaps[string]"], unfollowed := true, recurses := true, named := ["replevin/object.usages"], plainKeys := false, apart := false, laid := [("replevin/object.usages", laid_replevin_object_usages)], narrowed := true }
def DirectoryReadsUptoSaid : Prop := directoryReadsUptoRow.holds Tryz.pinned (OpenSpec.upto directoryReadsSpec)

/-- 'replevinlaw28.DirectoryFrame', WHERE WHAT IT READS IS OF BULK AT MOST 1048576: true; the input reads as it did. -/
def directoryFrameUptoRow : OpenClaim := { program := "ytiiicoaoljnajaagreatdoor", sum := "eb36c1ae2c4390e151c3f5dbf24c22c0f025467574f41280e5ab6089b737ee83", func := "replevin/replevinlaw28.DirectoryFrame", spec := "directoryFrame", inPlace := ["slices.overlaps[string]"], unfollowed := true, recurses := true, named := ["replevin/object.usages"], plainKeys := false, apart := false, laid := [("replevin/object.usages", laid_replevin_object_usages)], narrowed := true }
def DirectoryFrameUptoSaid : Prop := directoryFrameUptoRow.holds Tryz.pinned (OpenSpec.upto directoryFrameSpec)

end Rows
end Go.Proofs.YtiiicoaoljnajaaGreatDoor
