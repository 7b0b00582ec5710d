/- The library's sort, over this program: its table of numbers, and each body compared by the kernel. -/
import Derived.Shelf.SlLaysF0
import Derived.KernelRfl
import Derived.Test.YtfpedcmempljlaaDoorProg
set_option maxRecDepth 100000
namespace Go.Proofs.YtfpedcmempljlaaDoor
open Go Go.Shelf Go.Proofs
def renF : Ren :=
  { f := fun x => match x with
    | 6 => 16
    | 15 => 30
    | 14 => 29
    | 28 => 46
    | 29 => 47
    | 20 => 38
    | 21 => 39
    | 22 => 40
    | 23 => 41
    | 24 => 42
    | 25 => 43
    | 26 => 44
    | 27 => 45
    | 46 => 51
    | 47 => 52
    | 48 => 53
    | 49 => 54
    | 50 => 55
    | 57 => 62
    | n => n
    t := fun x => match x with
    | 22 => 22
    | 24 => 26
    | 25 => 39
    | 3 => 3
    | 39 => 58
    | 0 => 0
    | 53 => 73
    | 55 => 75
    | 4 => 4
    | 46 => 67
    | 45 => 66
    | 50 => 54
    | 5 => 5
    | 9 => 9
    | 66 => 84
    | 70 => 88
    | 76 => 105
    | 77 => 106
    | n => n
    g := fun x => x }
theorem laysF : SlLaysF0.n6 Tryd.prog renF where
  mixed := by kernel_rfl
  f6 := ⟨Tryd.f16.name, by kernel_rfl, by kernel_rfl⟩
  f14 := ⟨Tryd.f29.name, by kernel_rfl, by kernel_rfl⟩
  f15 := by kernel_rfl
  f20 := ⟨Tryd.f38.name, by kernel_rfl, by kernel_rfl⟩
  f21 := ⟨Tryd.f39.name, by kernel_rfl, by kernel_rfl⟩
  f22 := ⟨Tryd.f40.name, by kernel_rfl, by kernel_rfl⟩
  f23 := ⟨Tryd.f41.name, by kernel_rfl, by kernel_rfl⟩
  f24 := ⟨Tryd.f42.name, by kernel_rfl, by kernel_rfl⟩
  f25 := ⟨Tryd.f43.name, by kernel_rfl, by kernel_rfl⟩
  f26 := ⟨Tryd.f44.name, by kernel_rfl, by kernel_rfl⟩
  f27 := ⟨Tryd.f45.name, by kernel_rfl, by kernel_rfl⟩
  f28 := by kernel_rfl
  f29 := by kernel_rfl
  f46 := ⟨Tryd.f51.name, by kernel_rfl, by kernel_rfl⟩
  f47 := by kernel_rfl
  f48 := by kernel_rfl
  f49 := ⟨Tryd.f54.name, by kernel_rfl, by kernel_rfl⟩
  f50 := ⟨Tryd.f55.name, by kernel_rfl, by kernel_rfl⟩
  f57 := ⟨Tryd.f62.name, by kernel_rfl, by kernel_rfl⟩
  t0 := by kernel_rfl
  a0 := fun w => Tryd.isAgg0 w
  z0 := fun w => Tryd.sizeOf0 w
  v0 := fun w => Tryd.zeroValue0 w
  t3 := by kernel_rfl
  a3 := fun w => Tryd.isAgg3 w
  z3 := fun w => Tryd.sizeOf3 w
  v3 := fun w => Tryd.zeroValue3 w
  t4 := by kernel_rfl
  a4 := fun w => Tryd.isAgg4 w
  z4 := fun w => Tryd.sizeOf4 w
  v4 := fun w => Tryd.zeroValue4 w
  t5 := by kernel_rfl
  a5 := fun w => Tryd.isAgg5 w
  z5 := fun w => Tryd.sizeOf5 w
  v5 := fun w => Tryd.zeroValue5 w
  t9 := by kernel_rfl
  a9 := fun w => Tryd.isAgg9 w
  z9 := fun w => Tryd.sizeOf9 w
  v9 := fun w => Tryd.zeroValue9 w
  t22 := by kernel_rfl
  a22 := fun w => Tryd.isAgg22 w
  z22 := fun w => Tryd.sizeOf22 w
  v22 := fun w => Tryd.zeroValue22 w
  t25 := by kernel_rfl
  a25 := fun w => Tryd.isAgg39 w
  z25 := fun w => Tryd.sizeOf39 w
  v25 := fun w => Tryd.zeroValue39 w
  t39 := by kernel_rfl
  a39 := fun w => Tryd.isAgg58 w
  z39 := fun w => Tryd.sizeOf58 w
  v39 := fun w => Tryd.zeroValue58 w
  t45 := by kernel_rfl
  a45 := fun w => Tryd.isAgg66 w
  z45 := fun w => Tryd.sizeOf66 w
  v45 := fun w => Tryd.zeroValue66 w
  t46 := by kernel_rfl
  a46 := fun w => Tryd.isAgg67 w
  z46 := fun w => Tryd.sizeOf67 w
  v46 := fun w => Tryd.zeroValue67 w
  t50 := by kernel_rfl
  a50 := fun w => Tryd.isAgg54 w
  z50 := fun w => Tryd.sizeOf54 w
  v50 := fun w => Tryd.zeroValue54 w
  t53 := by kernel_rfl
  a53 := fun w => Tryd.isAgg73 w
  z53 := fun w => Tryd.sizeOf73 w
  v53 := fun w => Tryd.zeroValue73 w
  t55 := by kernel_rfl
  a55 := fun w => Tryd.isAgg75 w
  z55 := fun w => Tryd.sizeOf75 w
  v55 := fun w => Tryd.zeroValue75 w
  t66 := by kernel_rfl
  a66 := fun w => Tryd.isAgg84 w
  z66 := fun w => Tryd.sizeOf84 w
  v66 := fun w => Tryd.zeroValue84 w
  t70 := by kernel_rfl
  a70 := fun w => Tryd.isAgg88 w
  z70 := fun w => Tryd.sizeOf88 w
  v70 := fun w => Tryd.zeroValue88 w
  t76 := by kernel_rfl
  a76 := fun w => Tryd.isAgg105 w
  z76 := fun w => Tryd.sizeOf105 w
  v76 := fun w => Tryd.zeroValue105 w
  t77 := by kernel_rfl
  a77 := fun w => Tryd.isAgg106 w
  z77 := fun w => Tryd.sizeOf106 w
  v77 := fun w => Tryd.zeroValue106 w
end Go.Proofs.YtfpedcmempljlaaDoor
