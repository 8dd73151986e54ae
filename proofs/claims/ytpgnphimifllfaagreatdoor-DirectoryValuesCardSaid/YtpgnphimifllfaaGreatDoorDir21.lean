/-
  Directories: the states of the law's example.
-/
import Derived.Test.YtpgnphimifllfaaGreatDoorDir20
namespace Go.Proofs.YtpgnphimifllfaaGreatDoor
open Go.RowKit

abbrev s3 : ByteArray := ⟨#[51]⟩
abbrev s4 : ByteArray := ⟨#[52]⟩
abbrev sa : ByteArray := ⟨#[97]⟩
abbrev sb : ByteArray := ⟨#[98]⟩
abbrev se : ByteArray := ⟨#[]⟩
def k1 : VS := mkS vs0 s3 se 1 0
def k2 : VS := inS k1 s3 1 sb s3 2
def k3 : VS := inS k2 s3 1 sa s4 0
def k4 : VS := lsS k3 s3 1
def k5 : VS := fiS k4 s3 1 sb
def k6 : VS := upS k5 s3 1
def k7 : VS := drS k6 s3 1
def k8 : VS := reS k7 s3 1 sa
def k9 : VS := reS k8 s3 1 sb
def k10 : VS := drS k9 s3 1
theorem kr1 : mkF vs0 s3 se 1 0 = 0 := by decide +kernel
theorem kr2 : inF k1 s3 1 sb s3 2 = 0 := by decide +kernel
theorem kr3 : inF k2 s3 1 sa s4 0 = 0 := by decide +kernel
theorem kr4 : lsF k3 s3 1 = ([sa, sb], 0) := by decide +kernel
theorem kr5 : fiF k4 s3 1 sb = ((s3, 2), 0) := by decide +kernel
theorem kr6 : upF k5 s3 1 = ((se, 0), 0) := by decide +kernel
theorem kr7 : drF k6 s3 1 = 17 := by decide +kernel
theorem kr8 : reF k7 s3 1 sa = ((s4, 0), 0) := by decide +kernel
theorem kr9 : reF k8 s3 1 sb = ((s3, 2), 0) := by decide +kernel
theorem kr10 : drF k9 s3 1 = 0 := by decide +kernel
theorem kr11 : lsF k10 s3 1 = ([], 16) := by decide +kernel
theorem krE : nErr [sa, sb] = 0 ∧ encNs [sa, sb] = [2, 1, 97, 1, 98] := by decide +kernel
end Go.Proofs.YtpgnphimifllfaaGreatDoor
