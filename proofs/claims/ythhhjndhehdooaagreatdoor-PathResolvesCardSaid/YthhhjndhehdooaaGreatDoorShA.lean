/-
  The kit's contracts of the library lie at this program.
-/
import Derived.Shelf.Strings.Split
import Derived.Test.YthhhjndhehdooaaGreatDoorBase
namespace Go.Proofs.YthhhjndhehdooaaGreatDoor
open Go.Shelf
def spLay_ren : Go.Shelf.Ren := ⟨fun | 146 => 39 | 221 => 75 | 268 => 117 | 138 => 118 | 143 => 119 | 195 => 166 | 197 => 167 | 218 => 168 | 219 => 169 | 260 => 193 | 217 => 194 | 225 => 195 | 224 => 196 | 267 => 197 | 266 => 204 | 314 => 205 | n => n, fun | 9 => 9 | 31 => 22 | 3 => 3 | 4 => 4 | 0 => 0 | 105 => 240 | 21 => 21 | 5 => 5 | 46 => 56 | 119 => 279 | 139 => 282 | 138 => 281 | 146 => 283 | 51 => 236 | n => n, fun | 1 => 2 | 3 => 3 | 4 => 4 | n => n⟩
theorem spLay : Go.Proofs.Lays.n146 Tryz.prog spLay_ren := {
  mixed := by kernel_rfl
  f138 := Tryz.func118.trans (congrArg some (by kernel_rfl))
  f143 := Tryz.func119.trans (congrArg some (by kernel_rfl))
  f146 := Tryz.func39.trans (congrArg some (by kernel_rfl))
  f195 := Tryz.func166.trans (congrArg some (by kernel_rfl))
  f197 := Tryz.func167.trans (congrArg some (by kernel_rfl))
  f217 := Tryz.func194.trans (congrArg some (by kernel_rfl))
  f218 := Tryz.func168.trans (congrArg some (by kernel_rfl))
  f219 := Tryz.func169.trans (congrArg some (by kernel_rfl))
  f221 := Tryz.func75.trans (congrArg some (by kernel_rfl))
  f224 := Tryz.func196.trans (congrArg some (by kernel_rfl))
  f225 := Tryz.func195.trans (congrArg some (by kernel_rfl))
  f260 := Tryz.func193.trans (congrArg some (by kernel_rfl))
  f266 := Tryz.func204.trans (congrArg some (by kernel_rfl))
  f267 := Tryz.func197.trans (congrArg some (by kernel_rfl))
  f268 := Tryz.func117.trans (congrArg some (by kernel_rfl))
  f314 := Tryz.func205.trans (congrArg some (by kernel_rfl))
  t0 := Tryz.underlying0
  a0 := Tryz.isAgg0
  z0 := Tryz.sizeOf0
  v0 := Tryz.zeroValue0
  t3 := Tryz.underlying3
  a3 := Tryz.isAgg3
  z3 := Tryz.sizeOf3
  v3 := Tryz.zeroValue3
  t4 := Tryz.underlying4
  a4 := Tryz.isAgg4
  z4 := Tryz.sizeOf4
  v4 := Tryz.zeroValue4
  t5 := Tryz.underlying5
  a5 := Tryz.isAgg5
  z5 := Tryz.sizeOf5
  v5 := Tryz.zeroValue5
  t9 := Tryz.underlying9
  a9 := Tryz.isAgg9
  z9 := Tryz.sizeOf9
  v9 := Tryz.zeroValue9
  t21 := Tryz.underlying21
  a21 := Tryz.isAgg21
  z21 := Tryz.sizeOf21
  v21 := Tryz.zeroValue21
  t31 := Tryz.underlying22
  a31 := Tryz.isAgg22
  z31 := Tryz.sizeOf22
  v31 := Tryz.zeroValue22
  t46 := Tryz.underlying56
  a46 := Tryz.isAgg56
  z46 := Tryz.sizeOf56
  v46 := Tryz.zeroValue56
  t51 := Tryz.underlying236
  a51 := Tryz.isAgg236
  z51 := Tryz.sizeOf236
  v51 := Tryz.zeroValue236
  t105 := Tryz.underlying240
  a105 := Tryz.isAgg240
  z105 := Tryz.sizeOf240
  v105 := Tryz.zeroValue240
  t119 := Tryz.underlying279
  a119 := Tryz.isAgg279
  z119 := Tryz.sizeOf279
  t138 := Tryz.underlying281
  a138 := Tryz.isAgg281
  z138 := Tryz.sizeOf281
  v138 := Tryz.zeroValue281
  t139 := Tryz.underlying282
  a139 := Tryz.isAgg282
  z139 := Tryz.sizeOf282
  v139 := Tryz.zeroValue282
  t146 := Tryz.underlying283
  a146 := Tryz.isAgg283
  z146 := Tryz.sizeOf283
  v146 := Tryz.zeroValue283
  g1 := by kernel_rfl
  g3 := by kernel_rfl
  g4 := by kernel_rfl }
def ctLay_ren : Go.Shelf.Ren := ⟨fun | 107 => 173 | 108 => 198 | n => n, fun | 28 => 33 | 3 => 3 | 4 => 4 | 0 => 0 | n => n, fun | n => n⟩
theorem ctLay : Go.Proofs.Lays.n107 Tryz.prog ctLay_ren := {
  mixed := by kernel_rfl
  f107 := Tryz.func173.trans (congrArg some (by kernel_rfl))
  f108 := Tryz.func198.trans (congrArg some (by kernel_rfl))
  t0 := Tryz.underlying0
  a0 := Tryz.isAgg0
  z0 := Tryz.sizeOf0
  v0 := Tryz.zeroValue0
  t3 := Tryz.underlying3
  a3 := Tryz.isAgg3
  z3 := Tryz.sizeOf3
  v3 := Tryz.zeroValue3
  t4 := Tryz.underlying4
  a4 := Tryz.isAgg4
  z4 := Tryz.sizeOf4
  v4 := Tryz.zeroValue4
  t28 := Tryz.underlying33
  a28 := Tryz.isAgg33
  z28 := Tryz.sizeOf33
  v28 := Tryz.zeroValue33 }
end Go.Proofs.YthhhjndhehdooaaGreatDoor
