/-
  The library's sort of strings, laid at this translation.
-/
import Derived.Test.YtkgcccllabofoaaProg
import Derived.Shelf.Sort.Plain
import Derived.Ground.NamesProg
namespace Go.Proofs.Ytkgcccllabofoaa
open Go.Shelf
def qssRen : Go.Shelf.Ren := ⟨fun | 190 => 60 | 125 => 69 | 258 => 75 | 128 => 86 | 129 => 87 | 302 => 90 | 303 => 91 | 304 => 92 | 305 => 93 | 306 => 94 | 307 => 95 | 308 => 96 | 309 => 97 | 310 => 98 | 333 => 105 | 329 => 100 | 330 => 101 | 334 => 106 | 335 => 107 | 336 => 108 | 344 => 110 | n => n, fun | 31 => 50 | 9 => 9 | 3 => 3 | 46 => 67 | 0 => 0 | 51 => 87 | 53 => 89 | 4 => 4 | 183 => 100 | 182 => 99 | 131 => 105 | 5 => 5 | 218 => 114 | 222 => 118 | 228 => 123 | 229 => 124 | n => n, fun | n => n⟩
theorem qssLaid : Go.Proofs.Lays.n190 Try.prog qssRen := {
  mixed := by kernel_rfl
  f125 := Try.func69.trans (congrArg some (by kernel_rfl))
  f128 := Try.func86.trans (congrArg some (by kernel_rfl))
  f129 := Try.func87.trans (congrArg some (by kernel_rfl))
  f190 := Try.func60.trans (congrArg some (by kernel_rfl))
  f258 := Try.func75.trans (congrArg some (by kernel_rfl))
  f302 := Try.func90.trans (congrArg some (by kernel_rfl))
  f303 := Try.func91.trans (congrArg some (by kernel_rfl))
  f304 := Try.func92.trans (congrArg some (by kernel_rfl))
  f305 := Try.func93.trans (congrArg some (by kernel_rfl))
  f306 := Try.func94.trans (congrArg some (by kernel_rfl))
  f307 := Try.func95.trans (congrArg some (by kernel_rfl))
  f308 := Try.func96.trans (congrArg some (by kernel_rfl))
  f309 := Try.func97.trans (congrArg some (by kernel_rfl))
  f310 := Try.func98.trans (congrArg some (by kernel_rfl))
  f329 := Try.func100.trans (congrArg some (by kernel_rfl))
  f330 := Try.func101.trans (congrArg some (by kernel_rfl))
  f333 := Try.func105.trans (congrArg some (by kernel_rfl))
  f334 := Try.func106.trans (congrArg some (by kernel_rfl))
  f335 := Try.func107.trans (congrArg some (by kernel_rfl))
  f336 := Try.func108.trans (congrArg some (by kernel_rfl))
  f344 := Try.func110.trans (congrArg some (by kernel_rfl))
  t0 := Try.underlying0
  a0 := Try.isAgg0
  z0 := Try.sizeOf0
  v0 := Try.zeroValue0
  t3 := Try.underlying3
  a3 := Try.isAgg3
  z3 := Try.sizeOf3
  v3 := Try.zeroValue3
  t4 := Try.underlying4
  a4 := Try.isAgg4
  z4 := Try.sizeOf4
  v4 := Try.zeroValue4
  t5 := Try.underlying5
  a5 := Try.isAgg5
  z5 := Try.sizeOf5
  v5 := Try.zeroValue5
  t9 := Try.underlying9
  a9 := Try.isAgg9
  z9 := Try.sizeOf9
  v9 := Try.zeroValue9
  t31 := Try.underlying50
  a31 := Try.isAgg50
  z31 := Try.sizeOf50
  v31 := Try.zeroValue50
  t46 := Try.underlying67
  a46 := Try.isAgg67
  z46 := Try.sizeOf67
  v46 := Try.zeroValue67
  t51 := Try.underlying87
  a51 := Try.isAgg87
  z51 := Try.sizeOf87
  v51 := Try.zeroValue87
  t53 := Try.underlying89
  a53 := Try.isAgg89
  z53 := Try.sizeOf89
  v53 := Try.zeroValue89
  t131 := Try.underlying105
  a131 := Try.isAgg105
  z131 := Try.sizeOf105
  v131 := Try.zeroValue105
  t182 := Try.underlying99
  a182 := Try.isAgg99
  z182 := Try.sizeOf99
  v182 := Try.zeroValue99
  t183 := Try.underlying100
  a183 := Try.isAgg100
  z183 := Try.sizeOf100
  v183 := Try.zeroValue100
  t218 := Try.underlying114
  a218 := Try.isAgg114
  z218 := Try.sizeOf114
  v218 := Try.zeroValue114
  t222 := Try.underlying118
  a222 := Try.isAgg118
  z222 := Try.sizeOf118
  v222 := Try.zeroValue118
  t228 := Try.underlying123
  a228 := Try.isAgg123
  z228 := Try.sizeOf123
  v228 := Try.zeroValue123
  t229 := Try.underlying124
  a229 := Try.isAgg124
  z229 := Try.sizeOf124
  v229 := Try.zeroValue124 }
end Go.Proofs.Ytkgcccllabofoaa
