/- The sort of a slice of ints: the library's contract, over this program: its table of numbers, and each body compared by the kernel. -/
import Derived.Shelf.Sort.Plain
import Derived.KernelRfl
import Derived.Test.YtfjkddigflijeaaProg
namespace Go.Proofs.Ytfjkddigflijeaa
open Go Go.Shelf Go.Proofs
def renS : Ren :=
  { f := fun x => match x with
    | 189 => 18
    | 125 => 25
    | 257 => 24
    | 128 => 36
    | 129 => 37
    | 294 => 27
    | 295 => 28
    | 296 => 29
    | 297 => 30
    | 298 => 31
    | 299 => 32
    | 216 => 33
    | 300 => 34
    | 301 => 35
    | 328 => 39
    | 329 => 40
    | 330 => 41
    | 331 => 42
    | 332 => 43
    | 215 => 44
    | 343 => 47
    | n => n
    t := fun x => match x with
    | 28 => 27
    | 3 => 3
    | 46 => 38
    | 0 => 0
    | 51 => 65
    | 53 => 67
    | 4 => 4
    | 183 => 57
    | 182 => 56
    | 131 => 62
    | 5 => 5
    | 9 => 9
    | 218 => 70
    | 222 => 74
    | 228 => 80
    | 229 => 81
    | n => n
    g := fun x => x }
theorem laysS : Lays.n189 Try.prog renS where
  mixed := by kernel_rfl
  f125 := by kernel_rfl
  f128 := by kernel_rfl
  f129 := by kernel_rfl
  f189 := by kernel_rfl
  f215 := by kernel_rfl
  f216 := by kernel_rfl
  f257 := by kernel_rfl
  f294 := by kernel_rfl
  f295 := by kernel_rfl
  f296 := by kernel_rfl
  f297 := by kernel_rfl
  f298 := by kernel_rfl
  f299 := by kernel_rfl
  f300 := by kernel_rfl
  f301 := by kernel_rfl
  f328 := by kernel_rfl
  f329 := by kernel_rfl
  f330 := by kernel_rfl
  f331 := by kernel_rfl
  f332 := by kernel_rfl
  f343 := by kernel_rfl
  t0 := by kernel_rfl
  a0 := fun w => Try.isAgg0 w
  z0 := fun w => Try.sizeOf0 w
  v0 := fun w => Try.zeroValue0 w
  t3 := by kernel_rfl
  a3 := fun w => Try.isAgg3 w
  z3 := fun w => Try.sizeOf3 w
  v3 := fun w => Try.zeroValue3 w
  t4 := by kernel_rfl
  a4 := fun w => Try.isAgg4 w
  z4 := fun w => Try.sizeOf4 w
  v4 := fun w => Try.zeroValue4 w
  t5 := by kernel_rfl
  a5 := fun w => Try.isAgg5 w
  z5 := fun w => Try.sizeOf5 w
  v5 := fun w => Try.zeroValue5 w
  t9 := by kernel_rfl
  a9 := fun w => Try.isAgg9 w
  z9 := fun w => Try.sizeOf9 w
  v9 := fun w => Try.zeroValue9 w
  t28 := by kernel_rfl
  a28 := fun w => Try.isAgg27 w
  z28 := fun w => Try.sizeOf27 w
  v28 := fun w => Try.zeroValue27 w
  t46 := by kernel_rfl
  a46 := fun w => Try.isAgg38 w
  z46 := fun w => Try.sizeOf38 w
  v46 := fun w => Try.zeroValue38 w
  t51 := by kernel_rfl
  a51 := fun w => Try.isAgg65 w
  z51 := fun w => Try.sizeOf65 w
  v51 := fun w => Try.zeroValue65 w
  t53 := by kernel_rfl
  a53 := fun w => Try.isAgg67 w
  z53 := fun w => Try.sizeOf67 w
  v53 := fun w => Try.zeroValue67 w
  t131 := by kernel_rfl
  a131 := fun w => Try.isAgg62 w
  z131 := fun w => Try.sizeOf62 w
  v131 := fun w => Try.zeroValue62 w
  t182 := by kernel_rfl
  a182 := fun w => Try.isAgg56 w
  z182 := fun w => Try.sizeOf56 w
  v182 := fun w => Try.zeroValue56 w
  t183 := by kernel_rfl
  a183 := fun w => Try.isAgg57 w
  z183 := fun w => Try.sizeOf57 w
  v183 := fun w => Try.zeroValue57 w
  t218 := by kernel_rfl
  a218 := fun w => Try.isAgg70 w
  z218 := fun w => Try.sizeOf70 w
  v218 := fun w => Try.zeroValue70 w
  t222 := by kernel_rfl
  a222 := fun w => Try.isAgg74 w
  z222 := fun w => Try.sizeOf74 w
  v222 := fun w => Try.zeroValue74 w
  t228 := by kernel_rfl
  a228 := fun w => Try.isAgg80 w
  z228 := fun w => Try.sizeOf80 w
  v228 := fun w => Try.zeroValue80 w
  t229 := by kernel_rfl
  a229 := fun w => Try.isAgg81 w
  z229 := fun w => Try.sizeOf81 w
  v229 := fun w => Try.zeroValue81 w
end Go.Proofs.Ytfjkddigflijeaa
