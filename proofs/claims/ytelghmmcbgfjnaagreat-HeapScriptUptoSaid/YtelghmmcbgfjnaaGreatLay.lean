/-
  The contract of slices.Sort at []int, of the library, at this program: the table of numbers, and that the bodies are the same. No conditions.
-/
import Derived.Ground.NamesProg
import Derived.Shelf.Sort.Plain
import Derived.Test.YtelghmmcbgfjnaaGreatProg
namespace Go.Proofs
open Go.Shelf
def YtelghmmcbgfjnaaGreat.laysSort_ren : Go.Shelf.Ren := ⟨fun | 189 => 58 | 125 => 109 | 257 => 108 | 128 => 139 | 129 => 140 | 294 => 130 | 295 => 131 | 296 => 132 | 297 => 133 | 298 => 134 | 299 => 135 | 216 => 136 | 300 => 137 | 301 => 138 | 328 => 142 | 329 => 143 | 330 => 144 | 331 => 145 | 332 => 146 | 215 => 147 | 343 => 148 | n => n, fun | 28 => 23 | 3 => 3 | 46 => 149 | 0 => 0 | 51 => 180 | 53 => 182 | 4 => 4 | 183 => 173 | 182 => 172 | 131 => 146 | 5 => 5 | 9 => 9 | 218 => 186 | 222 => 190 | 228 => 192 | 229 => 193 | n => n, fun | n => n⟩
theorem YtelghmmcbgfjnaaGreat.laysSort : Go.Proofs.Lays.n189 Tryz.prog YtelghmmcbgfjnaaGreat.laysSort_ren := {
  mixed := by kernel_rfl
  f125 := Tryz.func109.trans (congrArg some (by kernel_rfl))
  f128 := Tryz.func139.trans (congrArg some (by kernel_rfl))
  f129 := Tryz.func140.trans (congrArg some (by kernel_rfl))
  f189 := Tryz.func58.trans (congrArg some (by kernel_rfl))
  f215 := Tryz.func147.trans (congrArg some (by kernel_rfl))
  f216 := Tryz.func136.trans (congrArg some (by kernel_rfl))
  f257 := Tryz.func108.trans (congrArg some (by kernel_rfl))
  f294 := Tryz.func130.trans (congrArg some (by kernel_rfl))
  f295 := Tryz.func131.trans (congrArg some (by kernel_rfl))
  f296 := Tryz.func132.trans (congrArg some (by kernel_rfl))
  f297 := Tryz.func133.trans (congrArg some (by kernel_rfl))
  f298 := Tryz.func134.trans (congrArg some (by kernel_rfl))
  f299 := Tryz.func135.trans (congrArg some (by kernel_rfl))
  f300 := Tryz.func137.trans (congrArg some (by kernel_rfl))
  f301 := Tryz.func138.trans (congrArg some (by kernel_rfl))
  f328 := Tryz.func142.trans (congrArg some (by kernel_rfl))
  f329 := Tryz.func143.trans (congrArg some (by kernel_rfl))
  f330 := Tryz.func144.trans (congrArg some (by kernel_rfl))
  f331 := Tryz.func145.trans (congrArg some (by kernel_rfl))
  f332 := Tryz.func146.trans (congrArg some (by kernel_rfl))
  f343 := Tryz.func148.trans (congrArg some (by kernel_rfl))
  t0 := Tryz.underlying0
  a0 := Tryz.isAgg0
  z0 := Tryz.sizeOf0
  v0 := Tryz.zeroValue0
  t3 := Tryz.underlying3
  a3 := Tryz.isAgg3
  z3 := Tryz.sizeOf3
  v3 := Tryz.zeroValue3
  t4 := Tryz.underlying4
  a4 := Tryz.isAgg4
  z4 := Tryz.sizeOf4
  v4 := Tryz.zeroValue4
  t5 := Tryz.underlying5
  a5 := Tryz.isAgg5
  z5 := Tryz.sizeOf5
  v5 := Tryz.zeroValue5
  t9 := Tryz.underlying9
  a9 := Tryz.isAgg9
  z9 := Tryz.sizeOf9
  v9 := Tryz.zeroValue9
  t28 := Tryz.underlying23
  a28 := Tryz.isAgg23
  z28 := Tryz.sizeOf23
  v28 := Tryz.zeroValue23
  t46 := Tryz.underlying149
  a46 := Tryz.isAgg149
  z46 := Tryz.sizeOf149
  v46 := Tryz.zeroValue149
  t51 := Tryz.underlying180
  a51 := Tryz.isAgg180
  z51 := Tryz.sizeOf180
  v51 := Tryz.zeroValue180
  t53 := Tryz.underlying182
  a53 := Tryz.isAgg182
  z53 := Tryz.sizeOf182
  v53 := Tryz.zeroValue182
  t131 := Tryz.underlying146
  a131 := Tryz.isAgg146
  z131 := Tryz.sizeOf146
  v131 := Tryz.zeroValue146
  t182 := Tryz.underlying172
  a182 := Tryz.isAgg172
  z182 := Tryz.sizeOf172
  v182 := Tryz.zeroValue172
  t183 := Tryz.underlying173
  a183 := Tryz.isAgg173
  z183 := Tryz.sizeOf173
  v183 := Tryz.zeroValue173
  t218 := Tryz.underlying186
  a218 := Tryz.isAgg186
  z218 := Tryz.sizeOf186
  v218 := Tryz.zeroValue186
  t222 := Tryz.underlying190
  a222 := Tryz.isAgg190
  z222 := Tryz.sizeOf190
  v222 := Tryz.zeroValue190
  t228 := Tryz.underlying192
  a228 := Tryz.isAgg192
  z228 := Tryz.sizeOf192
  v228 := Tryz.zeroValue192
  t229 := Tryz.underlying193
  a229 := Tryz.isAgg193
  z229 := Tryz.sizeOf193
  v229 := Tryz.zeroValue193 }
end Go.Proofs
