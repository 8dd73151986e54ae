/-
  The kit's contracts of the library lie at this program.
-/
import Derived.Shelf.Strings.Split
import Derived.Test.YtljopnklonmooaaGreatDoorBase
namespace Go.Proofs.YtljopnklonmooaaGreatDoor
open Go.Shelf
def spLay_ren : Go.Shelf.Ren := ⟨fun | 146 => 139 | 221 => 211 | 268 => 240 | 138 => 241 | 143 => 242 | 195 => 265 | 197 => 266 | 218 => 267 | 219 => 268 | 260 => 276 | 217 => 277 | 225 => 278 | 224 => 279 | 267 => 280 | 266 => 282 | 314 => 283 | n => n, fun | 9 => 9 | 31 => 41 | 3 => 3 | 4 => 4 | 0 => 0 | 105 => 340 | 21 => 21 | 5 => 5 | 46 => 258 | 119 => 354 | 139 => 357 | 138 => 356 | 146 => 358 | 51 => 325 | n => n, fun | 1 => 2 | 3 => 3 | 4 => 4 | n => n⟩
theorem spLay : Go.Proofs.Lays.n146 Tryz.prog spLay_ren := {
  mixed := by kernel_rfl
  f138 := Tryz.func241.trans (congrArg some (by kernel_rfl))
  f143 := Tryz.func242.trans (congrArg some (by kernel_rfl))
  f146 := Tryz.func139.trans (congrArg some (by kernel_rfl))
  f195 := Tryz.func265.trans (congrArg some (by kernel_rfl))
  f197 := Tryz.func266.trans (congrArg some (by kernel_rfl))
  f217 := Tryz.func277.trans (congrArg some (by kernel_rfl))
  f218 := Tryz.func267.trans (congrArg some (by kernel_rfl))
  f219 := Tryz.func268.trans (congrArg some (by kernel_rfl))
  f221 := Tryz.func211.trans (congrArg some (by kernel_rfl))
  f224 := Tryz.func279.trans (congrArg some (by kernel_rfl))
  f225 := Tryz.func278.trans (congrArg some (by kernel_rfl))
  f260 := Tryz.func276.trans (congrArg some (by kernel_rfl))
  f266 := Tryz.func282.trans (congrArg some (by kernel_rfl))
  f267 := Tryz.func280.trans (congrArg some (by kernel_rfl))
  f268 := Tryz.func240.trans (congrArg some (by kernel_rfl))
  f314 := Tryz.func283.trans (congrArg some (by kernel_rfl))
  t0 := Tryz.underlying0
  a0 := Tryz.isAgg0
  z0 := Tryz.sizeOf0
  v0 := Tryz.zeroValue0
  t3 := Tryz.underlying3
  a3 := Tryz.isAgg3
  z3 := Tryz.sizeOf3
  v3 := Tryz.zeroValue3
  t4 := Tryz.underlying4
  a4 := Tryz.isAgg4
  z4 := Tryz.sizeOf4
  v4 := Tryz.zeroValue4
  t5 := Tryz.underlying5
  a5 := Tryz.isAgg5
  z5 := Tryz.sizeOf5
  v5 := Tryz.zeroValue5
  t9 := Tryz.underlying9
  a9 := Tryz.isAgg9
  z9 := Tryz.sizeOf9
  v9 := Tryz.zeroValue9
  t21 := Tryz.underlying21
  a21 := Tryz.isAgg21
  z21 := Tryz.sizeOf21
  v21 := Tryz.zeroValue21
  t31 := Tryz.underlying41
  a31 := Tryz.isAgg41
  z31 := Tryz.sizeOf41
  v31 := Tryz.zeroValue41
  t46 := Tryz.underlying258
  a46 := Tryz.isAgg258
  z46 := Tryz.sizeOf258
  v46 := Tryz.zeroValue258
  t51 := Tryz.underlying325
  a51 := Tryz.isAgg325
  z51 := Tryz.sizeOf325
  v51 := Tryz.zeroValue325
  t105 := Tryz.underlying340
  a105 := Tryz.isAgg340
  z105 := Tryz.sizeOf340
  v105 := Tryz.zeroValue340
  t119 := Tryz.underlying354
  a119 := Tryz.isAgg354
  z119 := Tryz.sizeOf354
  t138 := Tryz.underlying356
  a138 := Tryz.isAgg356
  z138 := Tryz.sizeOf356
  v138 := Tryz.zeroValue356
  t139 := Tryz.underlying357
  a139 := Tryz.isAgg357
  z139 := Tryz.sizeOf357
  v139 := Tryz.zeroValue357
  t146 := Tryz.underlying358
  a146 := Tryz.isAgg358
  z146 := Tryz.sizeOf358
  v146 := Tryz.zeroValue358
  g1 := by kernel_rfl
  g3 := by kernel_rfl
  g4 := by kernel_rfl }
def ctLay_ren : Go.Shelf.Ren := ⟨fun | 107 => 102 | 108 => 180 | n => n, fun | 28 => 34 | 3 => 3 | 4 => 4 | 0 => 0 | n => n, fun | n => n⟩
theorem ctLay : Go.Proofs.Lays.n107 Tryz.prog ctLay_ren := {
  mixed := by kernel_rfl
  f107 := Tryz.func102.trans (congrArg some (by kernel_rfl))
  f108 := Tryz.func180.trans (congrArg some (by kernel_rfl))
  t0 := Tryz.underlying0
  a0 := Tryz.isAgg0
  z0 := Tryz.sizeOf0
  v0 := Tryz.zeroValue0
  t3 := Tryz.underlying3
  a3 := Tryz.isAgg3
  z3 := Tryz.sizeOf3
  v3 := Tryz.zeroValue3
  t4 := Tryz.underlying4
  a4 := Tryz.isAgg4
  z4 := Tryz.sizeOf4
  v4 := Tryz.zeroValue4
  t28 := Tryz.underlying34
  a28 := Tryz.isAgg34
  z28 := Tryz.sizeOf34
  v28 := Tryz.zeroValue34 }
end Go.Proofs.YtljopnklonmooaaGreatDoor
