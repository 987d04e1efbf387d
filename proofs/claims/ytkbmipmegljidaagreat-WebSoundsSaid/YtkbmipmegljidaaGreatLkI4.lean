/- The library's layings of slices.Sort, slices.Compact of ints, at this program. Conditions: none. -/
import Derived.Shelf.Sort.Plain
import Derived.Shelf.Slices.In.SortNone
import Derived.Shelf.Slices.CompactI
import Derived.Test.YtkbmipmegljidaaGreatProg
namespace Go.Proofs.YtkbmipmegljidaaGreat
open Go.Shelf

def laySI_ren : Go.Shelf.Ren := ⟨fun | 189 => 62 | 125 => 99 | 257 => 98 | 128 => 135 | 129 => 136 | 294 => 126 | 295 => 127 | 296 => 128 | 297 => 129 | 298 => 130 | 299 => 131 | 216 => 132 | 300 => 133 | 301 => 134 | 328 => 161 | 329 => 162 | 330 => 163 | 331 => 164 | 332 => 165 | 215 => 158 | 343 => 176 | n => n, fun | 28 => 72 | 3 => 3 | 46 => 112 | 0 => 0 | 51 => 211 | 53 => 156 | 4 => 4 | 183 => 204 | 182 => 203 | 131 => 155 | 5 => 5 | 9 => 9 | 218 => 231 | 222 => 235 | 228 => 240 | 229 => 241 | n => n, fun | n => n⟩
theorem laySI : Go.Proofs.Lays.n189 Tryz.prog laySI_ren where
  mixed := by kernel_rfl
  f125 := Tryz.func99.trans (congrArg some (by kernel_rfl))
  f128 := Tryz.func135.trans (congrArg some (by kernel_rfl))
  f129 := Tryz.func136.trans (congrArg some (by kernel_rfl))
  f189 := Tryz.func62.trans (congrArg some (by kernel_rfl))
  f215 := Tryz.func158.trans (congrArg some (by kernel_rfl))
  f216 := Tryz.func132.trans (congrArg some (by kernel_rfl))
  f257 := Tryz.func98.trans (congrArg some (by kernel_rfl))
  f294 := Tryz.func126.trans (congrArg some (by kernel_rfl))
  f295 := Tryz.func127.trans (congrArg some (by kernel_rfl))
  f296 := Tryz.func128.trans (congrArg some (by kernel_rfl))
  f297 := Tryz.func129.trans (congrArg some (by kernel_rfl))
  f298 := Tryz.func130.trans (congrArg some (by kernel_rfl))
  f299 := Tryz.func131.trans (congrArg some (by kernel_rfl))
  f300 := Tryz.func133.trans (congrArg some (by kernel_rfl))
  f301 := Tryz.func134.trans (congrArg some (by kernel_rfl))
  f328 := Tryz.func161.trans (congrArg some (by kernel_rfl))
  f329 := Tryz.func162.trans (congrArg some (by kernel_rfl))
  f330 := Tryz.func163.trans (congrArg some (by kernel_rfl))
  f331 := Tryz.func164.trans (congrArg some (by kernel_rfl))
  f332 := Tryz.func165.trans (congrArg some (by kernel_rfl))
  f343 := Tryz.func176.trans (congrArg some (by kernel_rfl))
  t0 := Tryz.underlying0
  a0 := Tryz.isAgg0
  z0 := Tryz.sizeOf0
  v0 := Tryz.zeroValue0
  t3 := Tryz.underlying3
  a3 := Tryz.isAgg3
  z3 := Tryz.sizeOf3
  v3 := Tryz.zeroValue3
  t4 := Tryz.underlying4
  a4 := Tryz.isAgg4
  z4 := Tryz.sizeOf4
  v4 := Tryz.zeroValue4
  t5 := Tryz.underlying5
  a5 := Tryz.isAgg5
  z5 := Tryz.sizeOf5
  v5 := Tryz.zeroValue5
  t9 := Tryz.underlying9
  a9 := Tryz.isAgg9
  z9 := Tryz.sizeOf9
  v9 := Tryz.zeroValue9
  t28 := Tryz.underlying72
  a28 := Tryz.isAgg72
  z28 := Tryz.sizeOf72
  v28 := Tryz.zeroValue72
  t46 := Tryz.underlying112
  a46 := Tryz.isAgg112
  z46 := Tryz.sizeOf112
  v46 := Tryz.zeroValue112
  t51 := Tryz.underlying211
  a51 := Tryz.isAgg211
  z51 := Tryz.sizeOf211
  v51 := Tryz.zeroValue211
  t53 := Tryz.underlying156
  a53 := Tryz.isAgg156
  z53 := Tryz.sizeOf156
  v53 := Tryz.zeroValue156
  t131 := Tryz.underlying155
  a131 := Tryz.isAgg155
  z131 := Tryz.sizeOf155
  v131 := Tryz.zeroValue155
  t182 := Tryz.underlying203
  a182 := Tryz.isAgg203
  z182 := Tryz.sizeOf203
  v182 := Tryz.zeroValue203
  t183 := Tryz.underlying204
  a183 := Tryz.isAgg204
  z183 := Tryz.sizeOf204
  v183 := Tryz.zeroValue204
  t218 := Tryz.underlying231
  a218 := Tryz.isAgg231
  z218 := Tryz.sizeOf231
  v218 := Tryz.zeroValue231
  t222 := Tryz.underlying235
  a222 := Tryz.isAgg235
  z222 := Tryz.sizeOf235
  v222 := Tryz.zeroValue235
  t228 := Tryz.underlying240
  a228 := Tryz.isAgg240
  z228 := Tryz.sizeOf240
  v228 := Tryz.zeroValue240
  t229 := Tryz.underlying241
  a229 := Tryz.isAgg241
  z229 := Tryz.sizeOf241
  v229 := Tryz.zeroValue241
end Go.Proofs.YtkbmipmegljidaaGreat
