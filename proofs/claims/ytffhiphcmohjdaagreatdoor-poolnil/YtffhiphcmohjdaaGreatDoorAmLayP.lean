/- Contracts of the library, laid over a seat; printed by the kit's own tools. -/
import Derived.Shelf.SlGeneric
import Derived.Shelf.Small.Bits
import Derived.Shelf.Spec.TrailingZeros
import Derived.Test.YtffhiphcmohjdaaGreatDoorAmU32
import Derived.Test.YtffhiphcmohjdaaGreatDoorProg
set_option linter.all false
namespace Go.Proofs
open Go.Shelf
def Tryz.tz_ren : Go.Shelf.Ren := ⟨fun | 29 => 346 | n => n, fun | 22 => 197 | 3 => 3 | 4 => 4 | 25 => 287 | 54 => 462 | 0 => 0 | 5 => 5 | n => n, fun | 1 => 2 | n => n⟩
theorem Tryz.tz : Go.Proofs.Lays7.n29 Tryz.prog Tryz.tz_ren := {
  mixed := by kernel_rfl
  f29 := Tryz.func346.trans (congrArg some (by kernel_rfl))
  t0 := Tryz.underlying0
  a0 := Tryz.isAgg0
  z0 := Tryz.sizeOf0
  v0 := Tryz.zeroValue0
  i0 := by kernel_rfl
  t3 := Tryz.underlying3
  a3 := Tryz.isAgg3
  z3 := Tryz.sizeOf3
  v3 := Tryz.zeroValue3
  i3 := by kernel_rfl
  t4 := Tryz.underlying4
  a4 := Tryz.isAgg4
  z4 := Tryz.sizeOf4
  v4 := Tryz.zeroValue4
  i4 := by kernel_rfl
  t5 := Tryz.underlying5
  a5 := Tryz.isAgg5
  z5 := Tryz.sizeOf5
  v5 := Tryz.zeroValue5
  i5 := by kernel_rfl
  t22 := Tryz.underlying197
  a22 := Tryz.isAgg197
  z22 := Tryz.sizeOf197
  v22 := Tryz.zeroValue197
  i22 := by kernel_rfl
  t25 := Tryz.underlying287
  a25 := Tryz.isAgg287
  z25 := Tryz.sizeOf287
  v25 := Tryz.zeroValue287
  i25 := by kernel_rfl
  t54 := Tryz.underlying462
  a54 := Tryz.isAgg462
  z54 := Tryz.sizeOf462
  g1 := by kernel_rfl }
def Tryz.len_ren : Go.Shelf.Ren := ⟨fun | 125 => 355 | 128 => 372 | 129 => 373 | n => n, fun | 46 => 287 | 3 => 3 | 51 => 34 | 53 => 197 | 4 => 4 | 5 => 5 | 9 => 9 | n => n, fun | n => n⟩
theorem Tryz.len : Go.Proofs.Lays.n125 Tryz.prog Tryz.len_ren := {
  mixed := by kernel_rfl
  f125 := Tryz.func355.trans (congrArg some (by kernel_rfl))
  f128 := Tryz.func372.trans (congrArg some (by kernel_rfl))
  f129 := Tryz.func373.trans (congrArg some (by kernel_rfl))
  t3 := Tryz.underlying3
  a3 := Tryz.isAgg3
  z3 := Tryz.sizeOf3
  v3 := Tryz.zeroValue3
  t4 := Tryz.underlying4
  a4 := Tryz.isAgg4
  z4 := Tryz.sizeOf4
  v4 := Tryz.zeroValue4
  t5 := Tryz.underlying5
  a5 := Tryz.isAgg5
  z5 := Tryz.sizeOf5
  v5 := Tryz.zeroValue5
  t9 := Tryz.underlying9
  a9 := Tryz.isAgg9
  z9 := Tryz.sizeOf9
  v9 := Tryz.zeroValue9
  t46 := Tryz.underlying287
  a46 := Tryz.isAgg287
  z46 := Tryz.sizeOf287
  v46 := Tryz.zeroValue287
  t51 := Tryz.underlying34
  a51 := Tryz.isAgg34
  z51 := Tryz.sizeOf34
  v51 := Tryz.zeroValue34
  t53 := Tryz.underlying197
  a53 := Tryz.isAgg197
  z53 := Tryz.sizeOf197
  v53 := Tryz.zeroValue197 }
def Tryz.sorted_ren : Go.Shelf.Ren := ⟨fun | 6 => 282 | 8 => 325 | 9 => 326 | 11 => 353 | 13 => 355 | 12 => 354 | 23 => 372 | 24 => 373 | 14 => 363 | 15 => 364 | 16 => 365 | 17 => 366 | 18 => 367 | 19 => 368 | 20 => 369 | 21 => 370 | 22 => 371 | 25 => 381 | 26 => 382 | 27 => 383 | 28 => 384 | 29 => 385 | 30 => 386 | 31 => 387 | n => n, fun | 26 => 34 | 28 => 371 | 24 => 244 | 0 => 0 | 3 => 3 | 37 => 287 | 48 => 34 | 50 => 197 | 4 => 4 | 40 => 467 | 39 => 466 | 45 => 355 | 5 => 5 | 9 => 9 | 51 => 481 | 55 => 485 | 57 => 492 | 58 => 160 | 33 => 426 | n => n, fun | n => n⟩
theorem Tryz.sorted : Go.Proofs.SlLaysZU.n6 Tryz.prog Tryz.sorted_ren := {
  mixed := by kernel_rfl
  f6 := ⟨Tryz.f282.name, by decide, Tryz.func282.trans (congrArg some (by kernel_rfl))⟩
  f8 := ⟨Tryz.f325.name, by decide, Tryz.func325.trans (congrArg some (by kernel_rfl))⟩
  f11 := ⟨Tryz.f353.name, by decide, Tryz.func353.trans (congrArg some (by kernel_rfl))⟩
  t0 := Tryz.underlying0
  a0 := Tryz.isAgg0
  z0 := Tryz.sizeOf0
  v0 := Tryz.zeroValue0
  t24 := Tryz.underlying244
  a24 := Tryz.isAgg244
  z24 := Tryz.sizeOf244
  v24 := Tryz.zeroValue244
  t26 := Tryz.underlying34
  a26 := Tryz.isAgg34
  z26 := Tryz.sizeOf34
  v26 := Tryz.zeroValue34
  t28 := Tryz.underlying371
  a28 := Tryz.isAgg371
  z28 := Tryz.sizeOf371
  v28 := Tryz.zeroValue371
  i26 := by kernel_rfl }
def Tryz.keys1_ren : Go.Shelf.Ren := ⟨fun | 10 => 327 | n => n, fun | 33 => 426 | 23 => 368 | 0 => 0 | 4 => 4 | 26 => 34 | 3 => 3 | n => n, fun | n => n⟩
theorem Tryz.keys1 : Go.Proofs.SlLaysZU.n10 Tryz.prog Tryz.keys1_ren := {
  mixed := by kernel_rfl
  f10 := ⟨Tryz.f327.name, by decide, Tryz.func327.trans (congrArg some (by kernel_rfl))⟩
  t0 := Tryz.underlying0
  a0 := Tryz.isAgg0
  z0 := Tryz.sizeOf0
  v0 := Tryz.zeroValue0
  t4 := Tryz.underlying4
  a4 := Tryz.isAgg4
  z4 := Tryz.sizeOf4
  v4 := Tryz.zeroValue4
  t23 := Tryz.underlying368
  a23 := Tryz.isAgg368
  z23 := Tryz.sizeOf368
  v23 := Tryz.zeroValue368
  t26 := Tryz.underlying34
  a26 := Tryz.isAgg34
  z26 := Tryz.sizeOf34
  v26 := Tryz.zeroValue34
  t33 := Tryz.underlying426
  a33 := Tryz.isAgg426
  z33 := Tryz.sizeOf426
  v33 := Tryz.zeroValue426 }
end Go.Proofs
