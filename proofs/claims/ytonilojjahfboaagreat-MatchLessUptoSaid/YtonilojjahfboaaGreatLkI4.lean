/- The library's layings of slices.Sort, slices.Compact of ints, at this program. Conditions: none. -/
import Derived.Shelf.Sort.Plain
import Derived.Shelf.Slices.In.SortNone
import Derived.Shelf.Slices.CompactI
import Derived.Test.YtonilojjahfboaaGreatProg
namespace Go.Proofs.YtonilojjahfboaaGreat
open Go.Shelf

def laySI_ren : Go.Shelf.Ren := ⟨fun | 189 => 118 | 125 => 219 | 257 => 218 | 128 => 307 | 129 => 308 | 294 => 298 | 295 => 299 | 296 => 300 | 297 => 301 | 298 => 302 | 299 => 303 | 216 => 304 | 300 => 305 | 301 => 306 | 328 => 361 | 329 => 362 | 330 => 363 | 331 => 364 | 332 => 365 | 215 => 318 | 343 => 398 | n => n, fun | 28 => 42 | 3 => 3 | 46 => 316 | 0 => 0 | 51 => 416 | 53 => 67 | 4 => 4 | 183 => 409 | 182 => 408 | 131 => 370 | 5 => 5 | 9 => 9 | 218 => 458 | 222 => 461 | 228 => 489 | 229 => 490 | n => n, fun | n => n⟩
theorem laySI : Go.Proofs.Lays.n189 Tryz.prog laySI_ren where
  mixed := by kernel_rfl
  f125 := Tryz.func219.trans (congrArg some (by kernel_rfl))
  f128 := Tryz.func307.trans (congrArg some (by kernel_rfl))
  f129 := Tryz.func308.trans (congrArg some (by kernel_rfl))
  f189 := Tryz.func118.trans (congrArg some (by kernel_rfl))
  f215 := Tryz.func318.trans (congrArg some (by kernel_rfl))
  f216 := Tryz.func304.trans (congrArg some (by kernel_rfl))
  f257 := Tryz.func218.trans (congrArg some (by kernel_rfl))
  f294 := Tryz.func298.trans (congrArg some (by kernel_rfl))
  f295 := Tryz.func299.trans (congrArg some (by kernel_rfl))
  f296 := Tryz.func300.trans (congrArg some (by kernel_rfl))
  f297 := Tryz.func301.trans (congrArg some (by kernel_rfl))
  f298 := Tryz.func302.trans (congrArg some (by kernel_rfl))
  f299 := Tryz.func303.trans (congrArg some (by kernel_rfl))
  f300 := Tryz.func305.trans (congrArg some (by kernel_rfl))
  f301 := Tryz.func306.trans (congrArg some (by kernel_rfl))
  f328 := Tryz.func361.trans (congrArg some (by kernel_rfl))
  f329 := Tryz.func362.trans (congrArg some (by kernel_rfl))
  f330 := Tryz.func363.trans (congrArg some (by kernel_rfl))
  f331 := Tryz.func364.trans (congrArg some (by kernel_rfl))
  f332 := Tryz.func365.trans (congrArg some (by kernel_rfl))
  f343 := Tryz.func398.trans (congrArg some (by kernel_rfl))
  t0 := Tryz.underlying0
  a0 := Tryz.isAgg0
  z0 := Tryz.sizeOf0
  v0 := Tryz.zeroValue0
  t3 := Tryz.underlying3
  a3 := Tryz.isAgg3
  z3 := Tryz.sizeOf3
  v3 := Tryz.zeroValue3
  t4 := Tryz.underlying4
  a4 := Tryz.isAgg4
  z4 := Tryz.sizeOf4
  v4 := Tryz.zeroValue4
  t5 := Tryz.underlying5
  a5 := Tryz.isAgg5
  z5 := Tryz.sizeOf5
  v5 := Tryz.zeroValue5
  t9 := Tryz.underlying9
  a9 := Tryz.isAgg9
  z9 := Tryz.sizeOf9
  v9 := Tryz.zeroValue9
  t28 := Tryz.underlying42
  a28 := Tryz.isAgg42
  z28 := Tryz.sizeOf42
  v28 := Tryz.zeroValue42
  t46 := Tryz.underlying316
  a46 := Tryz.isAgg316
  z46 := Tryz.sizeOf316
  v46 := Tryz.zeroValue316
  t51 := Tryz.underlying416
  a51 := Tryz.isAgg416
  z51 := Tryz.sizeOf416
  v51 := Tryz.zeroValue416
  t53 := Tryz.underlying67
  a53 := Tryz.isAgg67
  z53 := Tryz.sizeOf67
  v53 := Tryz.zeroValue67
  t131 := Tryz.underlying370
  a131 := Tryz.isAgg370
  z131 := Tryz.sizeOf370
  v131 := Tryz.zeroValue370
  t182 := Tryz.underlying408
  a182 := Tryz.isAgg408
  z182 := Tryz.sizeOf408
  v182 := Tryz.zeroValue408
  t183 := Tryz.underlying409
  a183 := Tryz.isAgg409
  z183 := Tryz.sizeOf409
  v183 := Tryz.zeroValue409
  t218 := Tryz.underlying458
  a218 := Tryz.isAgg458
  z218 := Tryz.sizeOf458
  v218 := Tryz.zeroValue458
  t222 := Tryz.underlying461
  a222 := Tryz.isAgg461
  z222 := Tryz.sizeOf461
  v222 := Tryz.zeroValue461
  t228 := Tryz.underlying489
  a228 := Tryz.isAgg489
  z228 := Tryz.sizeOf489
  v228 := Tryz.zeroValue489
  t229 := Tryz.underlying490
  a229 := Tryz.isAgg490
  z229 := Tryz.sizeOf490
  v229 := Tryz.zeroValue490
def layCI_ren : Go.Shelf.Ren := ⟨fun | 20 => 119 | n => n, fun | 22 => 42 | 3 => 3 | 4 => 4 | 0 => 0 | n => n, fun | n => n⟩
theorem layCI : Go.Proofs.Lays2.n20 Tryz.prog layCI_ren where
  mixed := by kernel_rfl
  f20 := Tryz.func119.trans (congrArg some (by kernel_rfl))
  t0 := Tryz.underlying0
  a0 := Tryz.isAgg0
  z0 := Tryz.sizeOf0
  v0 := Tryz.zeroValue0
  t3 := Tryz.underlying3
  a3 := Tryz.isAgg3
  z3 := Tryz.sizeOf3
  v3 := Tryz.zeroValue3
  t4 := Tryz.underlying4
  a4 := Tryz.isAgg4
  z4 := Tryz.sizeOf4
  v4 := Tryz.zeroValue4
  t22 := Tryz.underlying42
  a22 := Tryz.isAgg42
  z22 := Tryz.sizeOf42
  v22 := Tryz.zeroValue42
  i3 := by kernel_rfl
end Go.Proofs.YtonilojjahfboaaGreat
