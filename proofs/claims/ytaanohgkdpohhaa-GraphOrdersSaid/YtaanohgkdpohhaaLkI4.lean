/- The library's layings of slices.Sort, slices.Compact of ints, at this program. Conditions: none. -/
import Derived.Shelf.Sort.Plain
import Derived.Shelf.Slices.In.SortNone
import Derived.Shelf.Slices.CompactI
import Derived.Test.YtaanohgkdpohhaaProg
namespace Go.Proofs.Ytaanohgkdpohhaa
open Go.Shelf

def laySI_ren : Go.Shelf.Ren := ⟨fun | 189 => 118 | 125 => 171 | 257 => 170 | 128 => 202 | 129 => 203 | 294 => 193 | 295 => 194 | 296 => 195 | 297 => 196 | 298 => 197 | 299 => 198 | 216 => 199 | 300 => 200 | 301 => 201 | 328 => 217 | 329 => 218 | 330 => 219 | 331 => 220 | 332 => 221 | 215 => 205 | 343 => 227 | n => n, fun | 28 => 22 | 3 => 3 | 46 => 250 | 0 => 0 | 51 => 273 | 53 => 28 | 4 => 4 | 183 => 267 | 182 => 266 | 131 => 206 | 5 => 5 | 9 => 9 | 218 => 283 | 222 => 286 | 228 => 291 | 229 => 292 | n => n, fun | n => n⟩
theorem laySI : Go.Proofs.Lays.n189 Try.prog laySI_ren where
  mixed := by kernel_rfl
  f125 := Try.func171.trans (congrArg some (by kernel_rfl))
  f128 := Try.func202.trans (congrArg some (by kernel_rfl))
  f129 := Try.func203.trans (congrArg some (by kernel_rfl))
  f189 := Try.func118.trans (congrArg some (by kernel_rfl))
  f215 := Try.func205.trans (congrArg some (by kernel_rfl))
  f216 := Try.func199.trans (congrArg some (by kernel_rfl))
  f257 := Try.func170.trans (congrArg some (by kernel_rfl))
  f294 := Try.func193.trans (congrArg some (by kernel_rfl))
  f295 := Try.func194.trans (congrArg some (by kernel_rfl))
  f296 := Try.func195.trans (congrArg some (by kernel_rfl))
  f297 := Try.func196.trans (congrArg some (by kernel_rfl))
  f298 := Try.func197.trans (congrArg some (by kernel_rfl))
  f299 := Try.func198.trans (congrArg some (by kernel_rfl))
  f300 := Try.func200.trans (congrArg some (by kernel_rfl))
  f301 := Try.func201.trans (congrArg some (by kernel_rfl))
  f328 := Try.func217.trans (congrArg some (by kernel_rfl))
  f329 := Try.func218.trans (congrArg some (by kernel_rfl))
  f330 := Try.func219.trans (congrArg some (by kernel_rfl))
  f331 := Try.func220.trans (congrArg some (by kernel_rfl))
  f332 := Try.func221.trans (congrArg some (by kernel_rfl))
  f343 := Try.func227.trans (congrArg some (by kernel_rfl))
  t0 := Try.underlying0
  a0 := Try.isAgg0
  z0 := Try.sizeOf0
  v0 := Try.zeroValue0
  t3 := Try.underlying3
  a3 := Try.isAgg3
  z3 := Try.sizeOf3
  v3 := Try.zeroValue3
  t4 := Try.underlying4
  a4 := Try.isAgg4
  z4 := Try.sizeOf4
  v4 := Try.zeroValue4
  t5 := Try.underlying5
  a5 := Try.isAgg5
  z5 := Try.sizeOf5
  v5 := Try.zeroValue5
  t9 := Try.underlying9
  a9 := Try.isAgg9
  z9 := Try.sizeOf9
  v9 := Try.zeroValue9
  t28 := Try.underlying22
  a28 := Try.isAgg22
  z28 := Try.sizeOf22
  v28 := Try.zeroValue22
  t46 := Try.underlying250
  a46 := Try.isAgg250
  z46 := Try.sizeOf250
  v46 := Try.zeroValue250
  t51 := Try.underlying273
  a51 := Try.isAgg273
  z51 := Try.sizeOf273
  v51 := Try.zeroValue273
  t53 := Try.underlying28
  a53 := Try.isAgg28
  z53 := Try.sizeOf28
  v53 := Try.zeroValue28
  t131 := Try.underlying206
  a131 := Try.isAgg206
  z131 := Try.sizeOf206
  v131 := Try.zeroValue206
  t182 := Try.underlying266
  a182 := Try.isAgg266
  z182 := Try.sizeOf266
  v182 := Try.zeroValue266
  t183 := Try.underlying267
  a183 := Try.isAgg267
  z183 := Try.sizeOf267
  v183 := Try.zeroValue267
  t218 := Try.underlying283
  a218 := Try.isAgg283
  z218 := Try.sizeOf283
  v218 := Try.zeroValue283
  t222 := Try.underlying286
  a222 := Try.isAgg286
  z222 := Try.sizeOf286
  v222 := Try.zeroValue286
  t228 := Try.underlying291
  a228 := Try.isAgg291
  z228 := Try.sizeOf291
  v228 := Try.zeroValue291
  t229 := Try.underlying292
  a229 := Try.isAgg292
  z229 := Try.sizeOf292
  v229 := Try.zeroValue292
def layCI_ren : Go.Shelf.Ren := ⟨fun | 20 => 119 | n => n, fun | 22 => 22 | 3 => 3 | 4 => 4 | 0 => 0 | n => n, fun | n => n⟩
theorem layCI : Go.Proofs.Lays2.n20 Try.prog layCI_ren where
  mixed := by kernel_rfl
  f20 := Try.func119.trans (congrArg some (by kernel_rfl))
  t0 := Try.underlying0
  a0 := Try.isAgg0
  z0 := Try.sizeOf0
  v0 := Try.zeroValue0
  t3 := Try.underlying3
  a3 := Try.isAgg3
  z3 := Try.sizeOf3
  v3 := Try.zeroValue3
  t4 := Try.underlying4
  a4 := Try.isAgg4
  z4 := Try.sizeOf4
  v4 := Try.zeroValue4
  t22 := Try.underlying22
  a22 := Try.isAgg22
  z22 := Try.sizeOf22
  v22 := Try.zeroValue22
  i3 := by kernel_rfl
end Go.Proofs.Ytaanohgkdpohhaa
