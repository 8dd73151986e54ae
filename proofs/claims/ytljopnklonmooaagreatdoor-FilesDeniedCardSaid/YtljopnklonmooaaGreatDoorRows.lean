/-
  NARROWER THAN 'FOR EVERY INPUT', by the rows' own cells (each row's printed sentence says how): FilesBegin: laid · PathFrame: laid · FilesContents: laid · PathLinks: laid · FilesFlags: laid · FilesDenied: laid.
  DERIVED. THE GIVEN ROWS OF THIS SEAT. 6 by the template 'for every input the law returns true; each argument reads behind the call as it read before'; 0 by the template 'total and deterministic' (their statements: YtljopnklonmooaaGreatDoorTotals.lean).
  GIVEN WITH THE SEED: the statements are not yours to turn. If you find one false, say at which input.
  Laid BY PROGRAM, IN A SANDBOX (cutbox-rows.mjs): the forced cells as the released guide's own fill.sh prints them over the translation 728f66f25bb3dcad… (all of the seat's roots in one cut). By AI agents, Wed Nov 11 2026. No macro, syntax, notation, axiom, sorry.
-/
import Derived.Test.YtljopnklonmooaaGreatDoorChecked
import GoSem.PinnedTables
import GoSem.Claim
import GoSem.ClaimJoined
import GoSem.ClaimMapViews
import Derived.JoinedTies
import Derived.KernelRfl
namespace Go.Proofs.YtljopnklonmooaaGreatDoor
/- THE CELL 'sum', in the pinned program and in every row, IS THE sha256 OF THE DUMP (.gsa) THAT YtljopnklonmooaaGreatDoorProg.lean LOADS. Nothing in Lean hashes anything: it is a label: what it is worth is what the hold of that sum in a sandbox is worth. -/
noncomputable def Tryz.pinned : Pinned := { name := "ytljopnklonmooaagreatdoor", sum := "728f66f25bb3dcad2ae84c2fa088e8be62ec2d374d377a2c3531d602fc39426a", checked := Tryz.checked }
namespace Rows
def none {H : Type} : Left H := { results := [], args := [] }

/- WHAT THE LISTED PACKAGE-LEVEL VARIABLES READ AS WHEN THE CALL BEGINS. Each datum BY PROGRAM (the guide's laid-datum.mjs) off the statement by which the dump's own 'gosem.cut.vars' lays the variable. In a bare row this is a premise. The card (YtljopnklonmooaaGreatDoorCards.lean) ties it to the program's text. -/
def laid_unicode_utf8_acceptRanges {H : Type} : DataW H := .agg [.agg [.lit (.int .u8 128), .lit (.int .u8 191)], .agg [.lit (.int .u8 160), .lit (.int .u8 191)], .agg [.lit (.int .u8 128), .lit (.int .u8 159)], .agg [.lit (.int .u8 144), .lit (.int .u8 191)], .agg [.lit (.int .u8 128), .lit (.int .u8 143)], .agg [.lit (.int .u8 0), .lit (.int .u8 0)], .agg [.lit (.int .u8 0), .lit (.int .u8 0)], .agg [.lit (.int .u8 0), .lit (.int .u8 0)], .agg [.lit (.int .u8 0), .lit (.int .u8 0)], .agg [.lit (.int .u8 0), .lit (.int .u8 0)], .agg [.lit (.int .u8 0), .lit (.int .u8 0)], .agg [.lit (.int .u8 0), .lit (.int .u8 0)], .agg [.lit (.int .u8 0), .lit (.int .u8 0)], .agg [.lit (.int .u8 0), .lit (.int .u8 0)], .agg [.lit (.int .u8 0), .lit (.int .u8 0)], .agg [.lit (.int .u8 0), .lit (.int .u8 0)]]
def laid_replevin_object_usages {H : Type} : DataW H := .agg [.agg [.lit (.string []), .lit (.bool false), .lit (.bool false), .lit (.bool false), .lit (.bool false), .lit (.int .i64 0)], .agg [.lit (.string [112, 114, 111, 99, 101, 115, 115]), .lit (.bool true), .lit (.bool false), .lit (.bool false), .lit (.bool false), .lit (.int .i64 0)], .agg [.lit (.string [114, 101, 103, 105, 115, 116, 101, 114, 115]), .lit (.bool true), .lit (.bool false), .lit (.bool false), .lit (.bool false), .lit (.int .i64 0)], .agg [.lit (.string [112, 97, 103, 101]), .lit (.bool true), .lit (.bool false), .lit (.bool true), .lit (.bool false), .lit (.int .i64 63)], .agg [.lit (.string [116, 97, 98, 108, 101]), .lit (.bool true), .lit (.bool false), .lit (.bool false), .lit (.bool false), .lit (.int .i64 0)], .agg [.lit (.string [99, 111, 117, 110, 116, 101, 114]), .lit (.bool true), .lit (.bool false), .lit (.bool false), .lit (.bool false), .lit (.int .i64 0)], .agg [.lit (.string [112, 101, 110, 100, 105, 110, 103]), .lit (.bool true), .lit (.bool false), .lit (.bool false), .lit (.bool false), .lit (.int .i64 0)], .agg [.lit (.string [110, 111, 100, 101]), .lit (.bool true), .lit (.bool true), .lit (.bool false), .lit (.bool false), .lit (.int .i64 0)], .agg [.lit (.string [98, 108, 111, 99, 107]), .lit (.bool true), .lit (.bool true), .lit (.bool true), .lit (.bool false), .lit (.int .i64 63)], .agg [.lit (.string [101, 110, 116, 114, 121]), .lit (.bool true), .lit (.bool true), .lit (.bool false), .lit (.bool true), .lit (.int .i64 0)], .agg [.lit (.string [108, 105, 115, 116, 105, 110, 103]), .lit (.bool true), .lit (.bool true), .lit (.bool false), .lit (.bool false), .lit (.int .i64 0)], .agg [.lit (.string [112, 105, 112, 101]), .lit (.bool true), .lit (.bool true), .lit (.bool false), .lit (.bool false), .lit (.int .i64 0)], .agg [.lit (.string [108, 111, 99, 107]), .lit (.bool true), .lit (.bool true), .lit (.bool false), .lit (.bool false), .lit (.int .i64 0)], .agg [.lit (.string [116, 101, 114, 109, 105, 110, 97, 108]), .lit (.bool false), .lit (.bool true), .lit (.bool false), .lit (.bool false), .lit (.int .i64 0)], .agg [.lit (.string [97, 99, 99, 111, 117, 110, 116]), .lit (.bool false), .lit (.bool false), .lit (.bool false), .lit (.bool true), .lit (.int .i64 0)], .agg [.lit (.string [99, 108, 111, 99, 107]), .lit (.bool false), .lit (.bool false), .lit (.bool false), .lit (.bool false), .lit (.int .i64 0)], .agg [.lit (.string [112, 111, 114, 116]), .lit (.bool false), .lit (.bool true), .lit (.bool false), .lit (.bool false), .lit (.int .i64 0)], .agg [.lit (.string [98, 111, 120]), .lit (.bool false), .lit (.bool false), .lit (.bool false), .lit (.bool true), .lit (.int .i64 0)], .agg [.lit (.string [111, 117, 116]), .lit (.bool true), .lit (.bool true), .lit (.bool true), .lit (.bool false), .lit (.int .i64 1073741824)], .agg [.lit (.string [115, 104, 101, 108, 108]), .lit (.bool true), .lit (.bool false), .lit (.bool false), .lit (.bool false), .lit (.int .i64 0)], .agg [.lit (.string [101, 112, 111, 99, 104]), .lit (.bool false), .lit (.bool false), .lit (.bool false), .lit (.bool false), .lit (.int .i64 0)]]
def laid_replevin_access_shifts {H : Type} : DataW H := .agg [.lit (.int .i64 6), .lit (.int .i64 3), .lit (.int .i64 0)]
/-- One of Go's own tables, pinned by name: the form's constant. -/
def laid_unicode_utf8_first : DataW Unit := Go.Pinned.utf8First

/-- 'replevinlaw30.FilesBegin': WHATEVER THE INPUT: true; the input reads as it did. -/
def filesBeginSpec : ChangeSpec := { name := "filesBegin", fn := fun _ => fun
  | [d] => { results := [.lit (.bool true)], args := [d] }
  | _ => none }
def filesBeginRow : OpenClaim := { program := "ytljopnklonmooaagreatdoor", sum := "728f66f25bb3dcad2ae84c2fa088e8be62ec2d374d377a2c3531d602fc39426a", func := "replevin/replevinlaw30.FilesBegin", spec := "filesBegin", inPlace := ["internal/bytealg.CountString", "internal/bytealg.IndexByteString", "internal/bytealg.IndexString", "slices.overlaps[string]"], unfollowed := true, recurses := true, named := ["unicode/utf8.first", "unicode/utf8.acceptRanges", "internal/bytealg.MaxLen", "replevin/object.usages", "replevin/access.shifts"], plainKeys := false, apart := false, laid := [("unicode/utf8.acceptRanges", laid_unicode_utf8_acceptRanges), ("replevin/object.usages", laid_replevin_object_usages), ("replevin/access.shifts", laid_replevin_access_shifts), ("unicode/utf8.first", laid_unicode_utf8_first)] }
def FilesBeginSaid : Prop := filesBeginRow.holds Tryz.pinned (OpenSpec.ofChange filesBeginSpec)

/-- ITS FALSE NEIGHBOUR: 'it returns false'. Refute it at one input. -/
def filesBeginWrong : ChangeSpec := { name := "filesBegin", fn := fun _ => fun
  | [d] => { results := [.lit (.bool false)], args := [d] }
  | _ => none }
def FilesBeginWrongFalsely : Prop := filesBeginRow.holds Tryz.pinned (OpenSpec.ofChange filesBeginWrong)

/-- 'replevinlaw29.PathFrame': WHATEVER THE INPUT: true; the input reads as it did. -/
def pathFrameSpec : ChangeSpec := { name := "pathFrame", fn := fun _ => fun
  | [d1, d2, d3] => { results := [.lit (.bool true)], args := [d1, d2, d3] }
  | _ => none }
def pathFrameRow : OpenClaim := { program := "ytljopnklonmooaagreatdoor", sum := "728f66f25bb3dcad2ae84c2fa088e8be62ec2d374d377a2c3531d602fc39426a", func := "replevin/replevinlaw29.PathFrame", spec := "pathFrame", inPlace := ["slices.overlaps[string]", "internal/bytealg.CountString", "internal/bytealg.IndexByteString", "internal/bytealg.IndexString"], unfollowed := true, recurses := true, named := ["replevin/object.usages", "unicode/utf8.first", "unicode/utf8.acceptRanges", "internal/bytealg.MaxLen", "replevin/access.shifts"], plainKeys := false, apart := false, laid := [("unicode/utf8.acceptRanges", laid_unicode_utf8_acceptRanges), ("replevin/object.usages", laid_replevin_object_usages), ("replevin/access.shifts", laid_replevin_access_shifts), ("unicode/utf8.first", laid_unicode_utf8_first)] }
def PathFrameSaid : Prop := pathFrameRow.holds Tryz.pinned (OpenSpec.ofChange pathFrameSpec)

/-- ITS FALSE NEIGHBOUR: 'it returns false'. Refute it at one input. -/
def pathFrameWrong : ChangeSpec := { name := "pathFrame", fn := fun _ => fun
  | [d1, d2, d3] => { results := [.lit (.bool false)], args := [d1, d2, d3] }
  | _ => none }
def PathFrameWrongFalsely : Prop := pathFrameRow.holds Tryz.pinned (OpenSpec.ofChange pathFrameWrong)

/-- 'replevinlaw30.FilesContents': WHATEVER THE INPUT: true; the input reads as it did. -/
def filesContentsSpec : ChangeSpec := { name := "filesContents", fn := fun _ => fun
  | [d1, d2, d3] => { results := [.lit (.bool true)], args := [d1, d2, d3] }
  | _ => none }
def filesContentsRow : OpenClaim := { program := "ytljopnklonmooaagreatdoor", sum := "728f66f25bb3dcad2ae84c2fa088e8be62ec2d374d377a2c3531d602fc39426a", func := "replevin/replevinlaw30.FilesContents", spec := "filesContents", inPlace := ["internal/bytealg.CountString", "internal/bytealg.IndexByteString", "internal/bytealg.IndexString", "slices.overlaps[string]", "internal/abi.NoEscape"], unfollowed := true, recurses := true, named := ["replevin/object.usages", "unicode/utf8.first", "unicode/utf8.acceptRanges", "internal/bytealg.MaxLen", "replevin/access.shifts"], plainKeys := false, apart := false, laid := [("unicode/utf8.acceptRanges", laid_unicode_utf8_acceptRanges), ("replevin/object.usages", laid_replevin_object_usages), ("replevin/access.shifts", laid_replevin_access_shifts), ("unicode/utf8.first", laid_unicode_utf8_first)] }
def FilesContentsSaid : Prop := filesContentsRow.holds Tryz.pinned (OpenSpec.ofChange filesContentsSpec)

/-- ITS FALSE NEIGHBOUR: 'it returns false'. Refute it at one input. -/
def filesContentsWrong : ChangeSpec := { name := "filesContents", fn := fun _ => fun
  | [d1, d2, d3] => { results := [.lit (.bool false)], args := [d1, d2, d3] }
  | _ => none }
def FilesContentsWrongFalsely : Prop := filesContentsRow.holds Tryz.pinned (OpenSpec.ofChange filesContentsWrong)

/-- 'replevinlaw29.PathLinks': WHATEVER THE INPUT: true; the input reads as it did. -/
def pathLinksSpec : ChangeSpec := { name := "pathLinks", fn := fun _ => fun
  | [d1, d2] => { results := [.lit (.bool true)], args := [d1, d2] }
  | _ => none }
def pathLinksRow : OpenClaim := { program := "ytljopnklonmooaagreatdoor", sum := "728f66f25bb3dcad2ae84c2fa088e8be62ec2d374d377a2c3531d602fc39426a", func := "replevin/replevinlaw29.PathLinks", spec := "pathLinks", inPlace := ["slices.overlaps[string]", "internal/bytealg.CountString", "internal/bytealg.IndexByteString", "internal/bytealg.IndexString"], unfollowed := true, recurses := true, named := ["replevin/object.usages", "unicode/utf8.first", "unicode/utf8.acceptRanges", "internal/bytealg.MaxLen", "replevin/access.shifts"], plainKeys := false, apart := false, laid := [("unicode/utf8.acceptRanges", laid_unicode_utf8_acceptRanges), ("replevin/object.usages", laid_replevin_object_usages), ("replevin/access.shifts", laid_replevin_access_shifts), ("unicode/utf8.first", laid_unicode_utf8_first)] }
def PathLinksSaid : Prop := pathLinksRow.holds Tryz.pinned (OpenSpec.ofChange pathLinksSpec)

/-- ITS FALSE NEIGHBOUR: 'it returns false'. Refute it at one input. -/
def pathLinksWrong : ChangeSpec := { name := "pathLinks", fn := fun _ => fun
  | [d1, d2] => { results := [.lit (.bool false)], args := [d1, d2] }
  | _ => none }
def PathLinksWrongFalsely : Prop := pathLinksRow.holds Tryz.pinned (OpenSpec.ofChange pathLinksWrong)

/-- 'replevinlaw30.FilesFlags': WHATEVER THE INPUT: true; the input reads as it did. -/
def filesFlagsSpec : ChangeSpec := { name := "filesFlags", fn := fun _ => fun
  | [d1, d2, d3] => { results := [.lit (.bool true)], args := [d1, d2, d3] }
  | _ => none }
def filesFlagsRow : OpenClaim := { program := "ytljopnklonmooaagreatdoor", sum := "728f66f25bb3dcad2ae84c2fa088e8be62ec2d374d377a2c3531d602fc39426a", func := "replevin/replevinlaw30.FilesFlags", spec := "filesFlags", inPlace := ["internal/bytealg.CountString", "internal/bytealg.IndexByteString", "internal/bytealg.IndexString", "slices.overlaps[string]"], unfollowed := true, recurses := true, named := ["replevin/object.usages", "unicode/utf8.first", "unicode/utf8.acceptRanges", "internal/bytealg.MaxLen", "replevin/access.shifts"], plainKeys := false, apart := false, laid := [("unicode/utf8.acceptRanges", laid_unicode_utf8_acceptRanges), ("replevin/object.usages", laid_replevin_object_usages), ("replevin/access.shifts", laid_replevin_access_shifts), ("unicode/utf8.first", laid_unicode_utf8_first)] }
def FilesFlagsSaid : Prop := filesFlagsRow.holds Tryz.pinned (OpenSpec.ofChange filesFlagsSpec)

/-- ITS FALSE NEIGHBOUR: 'it returns false'. Refute it at one input. -/
def filesFlagsWrong : ChangeSpec := { name := "filesFlags", fn := fun _ => fun
  | [d1, d2, d3] => { results := [.lit (.bool false)], args := [d1, d2, d3] }
  | _ => none }
def FilesFlagsWrongFalsely : Prop := filesFlagsRow.holds Tryz.pinned (OpenSpec.ofChange filesFlagsWrong)

/-- 'replevinlaw30.FilesDenied': WHATEVER THE INPUT: true; the input reads as it did. -/
def filesDeniedSpec : ChangeSpec := { name := "filesDenied", fn := fun _ => fun
  | [d] => { results := [.lit (.bool true)], args := [d] }
  | _ => none }
def filesDeniedRow : OpenClaim := { program := "ytljopnklonmooaagreatdoor", sum := "728f66f25bb3dcad2ae84c2fa088e8be62ec2d374d377a2c3531d602fc39426a", func := "replevin/replevinlaw30.FilesDenied", spec := "filesDenied", inPlace := ["internal/bytealg.CountString", "internal/bytealg.IndexByteString", "internal/bytealg.IndexString", "slices.overlaps[string]", "internal/abi.NoEscape"], unfollowed := true, recurses := true, named := ["replevin/object.usages", "unicode/utf8.first", "unicode/utf8.acceptRanges", "internal/bytealg.MaxLen", "replevin/access.shifts"], plainKeys := false, apart := false, laid := [("unicode/utf8.acceptRanges", laid_unicode_utf8_acceptRanges), ("replevin/object.usages", laid_replevin_object_usages), ("replevin/access.shifts", laid_replevin_access_shifts), ("unicode/utf8.first", laid_unicode_utf8_first)] }
def FilesDeniedSaid : Prop := filesDeniedRow.holds Tryz.pinned (OpenSpec.ofChange filesDeniedSpec)

/-- ITS FALSE NEIGHBOUR: 'it returns false'. Refute it at one input. -/
def filesDeniedWrong : ChangeSpec := { name := "filesDenied", fn := fun _ => fun
  | [d] => { results := [.lit (.bool false)], args := [d] }
  | _ => none }
def FilesDeniedWrongFalsely : Prop := filesDeniedRow.holds Tryz.pinned (OpenSpec.ofChange filesDeniedWrong)

/- THE SECOND FORM. 'bulk': how many values and letters a reading holds, each counted each time it is reached (what is shared counts as often as it is met; a slice's spare places count too). A statement '..UptoSaid' is the law's where the arguments, and the package variables that the reading takes, are together of bulk at most 1048576: NARROWER than '..Said'. Prove '..Said' where nothing that the law and all that it calls make is longer than what came in: it says more and counts as full. Else prove '..UptoSaid'. A law counts once. -/
mutual
def uptoBulk {H : Type} : DataW H → Nat
  | .lit (.string bytes) => bytes.length + 1
  | .lit _ => 1
  | .nil => 1
  | .ptr d => uptoBulk d + 1
  | .slice elems spare => uptoBulkAll elems + uptoBulkAll spare + 1
  | .agg parts => uptoBulkAll parts + 1
  | .iface _ d => uptoBulk d + 1
  | .map entries => uptoBulkEntries entries + 1
  | .held _ => 1
def uptoBulkAll {H : Type} : List (DataW H) → Nat
  | [] => 0
  | d :: r => uptoBulk d + uptoBulkAll r
def uptoBulkEntries {H : Type} : List (Lit × DataW H) → Nat
  | [] => 0
  | x :: r => uptoBulkEntry x + uptoBulkEntries r
def uptoBulkEntry {H : Type} : Lit × DataW H → Nat
  | (.string bytes, d) => bytes.length + uptoBulk d + 1
  | (_, d) => uptoBulk d + 1
 end
def uptoSmall : (H : Type) → List (DataW H) → Bool := fun _ ds => decide (uptoBulkAll ds ≤ 1048576)
def OpenSpec.upto (s : _root_.Go.ChangeSpec) : _root_.Go.OpenSpec := { _root_.Go.OpenSpec.ofChange s with cond := some uptoSmall }

/-- 'replevinlaw30.FilesBegin', WHERE WHAT IT READS IS OF BULK AT MOST 1048576: true; the input reads as it did. -/
def filesBeginUptoRow : OpenClaim := { program := "ytljopnklonmooaagreatdoor", sum := "728f66f25bb3dcad2ae84c2fa088e8be62ec2d374d377a2c3531d602fc39426a", func := "replevin/replevinlaw30.FilesBegin", spec := "filesBegin", inPlace := ["internal/bytealg.CountString", "internal/bytealg.IndexByteString", "internal/bytealg.IndexString", "slices.overlaps[string]"], unfollowed := true, recurses := true, named := ["unicode/utf8.first", "unicode/utf8.acceptRanges", "internal/bytealg.MaxLen", "replevin/object.usages", "replevin/access.shifts"], plainKeys := false, apart := false, laid := [("unicode/utf8.acceptRanges", laid_unicode_utf8_acceptRanges), ("replevin/object.usages", laid_replevin_object_usages), ("replevin/access.shifts", laid_replevin_access_shifts), ("unicode/utf8.first", laid_unicode_utf8_first)], narrowed := true }
def FilesBeginUptoSaid : Prop := filesBeginUptoRow.holds Tryz.pinned (OpenSpec.upto filesBeginSpec)

/-- 'replevinlaw29.PathFrame', WHERE WHAT IT READS IS OF BULK AT MOST 1048576: true; the input reads as it did. -/
def pathFrameUptoRow : OpenClaim := { program := "ytljopnklonmooaagreatdoor", sum := "728f66f25bb3dcad2ae84c2fa088e8be62ec2d374d377a2c3531d602fc39426a", func := "replevin/replevinlaw29.PathFrame", spec := "pathFrame", inPlace := ["slices.overlaps[string]", "internal/bytealg.CountString", "internal/bytealg.IndexByteString", "internal/bytealg.IndexString"], unfollowed := true, recurses := true, named := ["replevin/object.usages", "unicode/utf8.first", "unicode/utf8.acceptRanges", "internal/bytealg.MaxLen", "replevin/access.shifts"], plainKeys := false, apart := false, laid := [("unicode/utf8.acceptRanges", laid_unicode_utf8_acceptRanges), ("replevin/object.usages", laid_replevin_object_usages), ("replevin/access.shifts", laid_replevin_access_shifts), ("unicode/utf8.first", laid_unicode_utf8_first)], narrowed := true }
def PathFrameUptoSaid : Prop := pathFrameUptoRow.holds Tryz.pinned (OpenSpec.upto pathFrameSpec)

/-- 'replevinlaw30.FilesContents', WHERE WHAT IT READS IS OF BULK AT MOST 1048576: true; the input reads as it did. -/
def filesContentsUptoRow : OpenClaim := { program := "ytljopnklonmooaagreatdoor", sum := "728f66f25bb3dcad2ae84c2fa088e8be62ec2d374d377a2c3531d602fc39426a", func := "replevin/replevinlaw30.FilesContents", spec := "filesContents", inPlace := ["internal/bytealg.CountString", "internal/bytealg.IndexByteString", "internal/bytealg.IndexString", "slices.overlaps[string]", "internal/abi.NoEscape"], unfollowed := true, recurses := true, named := ["replevin/object.usages", "unicode/utf8.first", "unicode/utf8.acceptRanges", "internal/bytealg.MaxLen", "replevin/access.shifts"], plainKeys := false, apart := false, laid := [("unicode/utf8.acceptRanges", laid_unicode_utf8_acceptRanges), ("replevin/object.usages", laid_replevin_object_usages), ("replevin/access.shifts", laid_replevin_access_shifts), ("unicode/utf8.first", laid_unicode_utf8_first)], narrowed := true }
def FilesContentsUptoSaid : Prop := filesContentsUptoRow.holds Tryz.pinned (OpenSpec.upto filesContentsSpec)

/-- 'replevinlaw29.PathLinks', WHERE WHAT IT READS IS OF BULK AT MOST 1048576: true; the input reads as it did. -/
def pathLinksUptoRow : OpenClaim := { program := "ytljopnklonmooaagreatdoor", sum := "728f66f25bb3dcad2ae84c2fa088e8be62ec2d374d377a2c3531d602fc39426a", func := "replevin/replevinlaw29.PathLinks", spec := "pathLinks", inPlace := ["slices.overlaps[string]", "internal/bytealg.CountString", "internal/bytealg.IndexByteString", "internal/bytealg.IndexString"], unfollowed := true, recurses := true, named := ["replevin/object.usages", "unicode/utf8.first", "unicode/utf8.acceptRanges", "internal/bytealg.MaxLen", "replevin/access.shifts"], plainKeys := false, apart := false, laid := [("unicode/utf8.acceptRanges", laid_unicode_utf8_acceptRanges), ("replevin/object.usages", laid_replevin_object_usages), ("replevin/access.shifts", laid_replevin_access_shifts), ("unicode/utf8.first", laid_unicode_utf8_first)], narrowed := true }
def PathLinksUptoSaid : Prop := pathLinksUptoRow.holds Tryz.pinned (OpenSpec.upto pathLinksSpec)

/-- 'replevinlaw30.FilesFlags', WHERE WHAT IT READS IS OF BULK AT MOST 1048576: true; the input reads as it did. -/
def filesFlagsUptoRow : OpenClaim := { program := "ytljopnklonmooaagreatdoor", sum := "728f66f25bb3dcad2ae84c2fa088e8be62ec2d374d377a2c3531d602fc39426a", func := "replevin/replevinlaw30.FilesFlags", spec := "filesFlags", inPlace := ["internal/bytealg.CountString", "internal/bytealg.IndexByteString", "internal/bytealg.IndexString", "slices.overlaps[string]"], unfollowed := true, recurses := true, named := ["replevin/object.usages", "unicode/utf8.first", "unicode/utf8.acceptRanges", "internal/bytealg.MaxLen", "replevin/access.shifts"], plainKeys := false, apart := false, laid := [("unicode/utf8.acceptRanges", laid_unicode_utf8_acceptRanges), ("replevin/object.usages", laid_replevin_object_usages), ("replevin/access.shifts", laid_replevin_access_shifts), ("unicode/utf8.first", laid_unicode_utf8_first)], narrowed := true }
def FilesFlagsUptoSaid : Prop := filesFlagsUptoRow.holds Tryz.pinned (OpenSpec.upto filesFlagsSpec)

/-- 'replevinlaw30.FilesDenied', WHERE WHAT IT READS IS OF BULK AT MOST 1048576: true; the input reads as it did. -/
def filesDeniedUptoRow : OpenClaim := { program := "ytljopnklonmooaagreatdoor", sum := "728f66f25bb3dcad2ae84c2fa088e8be62ec2d374d377a2c3531d602fc39426a", func := "replevin/replevinlaw30.FilesDenied", spec := "filesDenied", inPlace := ["internal/bytealg.CountString", "internal/bytealg.IndexByteString", "internal/bytealg.IndexString", "slices.overlaps[string]", "internal/abi.NoEscape"], unfollowed := true, recurses := true, named := ["replevin/object.usages", "unicode/utf8.first", "unicode/utf8.acceptRanges", "internal/bytealg.MaxLen", "replevin/access.shifts"], plainKeys := false, apart := false, laid := [("unicode/utf8.acceptRanges", laid_unicode_utf8_acceptRanges), ("replevin/object.usages", laid_replevin_object_usages), ("replevin/access.shifts", laid_replevin_access_shifts), ("unicode/utf8.first", laid_unicode_utf8_first)], narrowed := true }
def FilesDeniedUptoSaid : Prop := filesDeniedUptoRow.holds Tryz.pinned (OpenSpec.upto filesDeniedSpec)

end Rows
end Go.Proofs.YtljopnklonmooaaGreatDoor
