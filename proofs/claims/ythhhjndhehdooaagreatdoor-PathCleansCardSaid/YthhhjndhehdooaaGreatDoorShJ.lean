/-
  The kit's contracts of strings.Join and strings.HasSuffix lie at this program.
-/
import Derived.Shelf.Strings.OnBuilder
import Derived.Shelf.Strings.Prefix
import Derived.Test.YthhhjndhehdooaaGreatDoorBase
namespace Go.Proofs.YthhhjndhehdooaaGreatDoor
open Go.Shelf
def jnLay_ren : Go.Shelf.Ren := ⟨fun | 156 => 72 | 165 => 113 | 166 => 114 | 169 => 115 | 240 => 164 | 241 => 165 | 276 => 191 | 277 => 192 | n => n, fun | 0 => 0 | 3 => 3 | 4 => 4 | 5 => 5 | 9 => 9 | 31 => 22 | 37 => 78 | 70 => 188 | 72 => 190 | 75 => 193 | 76 => 194 | 80 => 50 | 127 => 238 | 164 => 266 | n => n, fun n => n⟩
theorem jnLay : Go.Proofs.Lays.n156 Tryz.prog jnLay_ren := {
  mixed := by kernel_rfl
  f156 := Tryz.func72.trans (congrArg some (by kernel_rfl))
  f165 := Tryz.func113.trans (congrArg some (by kernel_rfl))
  f166 := Tryz.func114.trans (congrArg some (by kernel_rfl))
  f169 := Tryz.func115.trans (congrArg some (by kernel_rfl))
  f240 := Tryz.func164.trans (congrArg some (by kernel_rfl))
  f241 := Tryz.func165.trans (congrArg some (by kernel_rfl))
  f276 := Tryz.func191.trans (congrArg some (by kernel_rfl))
  f277 := Tryz.func192.trans (congrArg some (by kernel_rfl))
  t0 := Tryz.underlying0
  a0 := Tryz.isAgg0
  z0 := Tryz.sizeOf0
  v0 := Tryz.zeroValue0
  t3 := Tryz.underlying3
  a3 := Tryz.isAgg3
  z3 := Tryz.sizeOf3
  v3 := Tryz.zeroValue3
  t4 := Tryz.underlying4
  a4 := Tryz.isAgg4
  z4 := Tryz.sizeOf4
  v4 := Tryz.zeroValue4
  t9 := Tryz.underlying9
  a9 := Tryz.isAgg9
  z9 := Tryz.sizeOf9
  v9 := Tryz.zeroValue9
  t20 := Tryz.underlying20
  a20 := Tryz.isAgg20
  z20 := Tryz.sizeOf20
  v20 := Tryz.zeroValue20
  t31 := Tryz.underlying22
  a31 := Tryz.isAgg22
  z31 := Tryz.sizeOf22
  v31 := Tryz.zeroValue22
  t37 := Tryz.underlying78
  a37 := Tryz.isAgg78
  z37 := Tryz.sizeOf78
  v37 := Tryz.zeroValue78
  t70 := Tryz.underlying188
  a70 := Tryz.isAgg188
  z70 := Tryz.sizeOf188
  v70 := Tryz.zeroValue188
  t72 := Tryz.underlying190
  a72 := Tryz.isAgg190
  z72 := Tryz.sizeOf190
  v72 := Tryz.zeroValue190
  t75 := Tryz.underlying193
  a75 := Tryz.isAgg193
  z75 := Tryz.sizeOf193
  v75 := Tryz.zeroValue193
  t76 := Tryz.underlying194
  a76 := Tryz.isAgg194
  z76 := Tryz.sizeOf194
  v76 := Tryz.zeroValue194
  t127 := Tryz.underlying238
  a127 := Tryz.isAgg238
  z127 := Tryz.sizeOf238
  v127 := Tryz.zeroValue238
  t164 := Tryz.underlying266
  a164 := Tryz.isAgg266
  z164 := Tryz.sizeOf266
  v164 := Tryz.zeroValue266 }
theorem jnExtra : Go.Proofs.Builder.Extra Tryz.prog jnLay_ren := {
  sizeBuilder := by kernel_rfl
  liesBuilder := by kernel_rfl
  t5 := Tryz.underlying5
  a5 := Tryz.isAgg5
  z5 := Tryz.sizeOf5
  v5 := Tryz.zeroValue5
  infoByte := by kernel_rfl
  cellsByte := by kernel_rfl
  sizeByte := by kernel_rfl
  neB5 := by decide }
def hsLay_ren : Go.Shelf.Ren := ⟨fun | 100 => 73 | 207 => 116 | n => n, fun | 3 => 3 | 4 => 4 | 9 => 9 | n => n, fun n => n⟩
theorem hsLay : Go.Proofs.Lays.n100 Tryz.prog hsLay_ren := {
  mixed := by kernel_rfl
  f100 := Tryz.func73.trans (congrArg some (by kernel_rfl))
  f207 := Tryz.func116.trans (congrArg some (by kernel_rfl))
  t3 := Tryz.underlying3
  a3 := Tryz.isAgg3
  z3 := Tryz.sizeOf3
  v3 := Tryz.zeroValue3
  t4 := Tryz.underlying4
  a4 := Tryz.isAgg4
  z4 := Tryz.sizeOf4
  v4 := Tryz.zeroValue4
  t9 := Tryz.underlying9
  a9 := Tryz.isAgg9
  z9 := Tryz.sizeOf9
  v9 := Tryz.zeroValue9 }
end Go.Proofs.YthhhjndhehdooaaGreatDoor
