/- The library, over this program: tables of numbers, and each body compared by the kernel. -/
import Derived.Shelf.Strconv.Itoa3
import Derived.Shelf.Strings.BuilderK
import Derived.KernelRfl
import Derived.Test.YtfpedcmempljlaaDoorProg
set_option maxRecDepth 100000
namespace Go.Proofs.YtfpedcmempljlaaDoor
open Go Go.Shelf Go.Proofs
def ren166 : Ren :=
  { f := fun x => match x with
    | 166 => 21
    | 240 => 32
    | 276 => 48
    | n => n
    t := fun x => match x with
    | 70 => 40
    | 72 => 43
    | 37 => 41
    | 75 => 45
    | 80 => 48
    | 164 => 76
    | n => n
    g := fun x => x }
theorem lays166 : Lays.n166 Tryd.prog ren166 where
  mixed := by kernel_rfl
  f166 := by kernel_rfl
  f240 := by kernel_rfl
  f276 := by kernel_rfl
  t0 := by kernel_rfl
  a0 := fun w => Tryd.isAgg0 w
  z0 := fun w => Tryd.sizeOf0 w
  v0 := fun w => Tryd.zeroValue0 w
  t3 := by kernel_rfl
  a3 := fun w => Tryd.isAgg3 w
  z3 := fun w => Tryd.sizeOf3 w
  v3 := fun w => Tryd.zeroValue3 w
  t4 := by kernel_rfl
  a4 := fun w => Tryd.isAgg4 w
  z4 := fun w => Tryd.sizeOf4 w
  v4 := fun w => Tryd.zeroValue4 w
  t9 := by kernel_rfl
  a9 := fun w => Tryd.isAgg9 w
  z9 := fun w => Tryd.sizeOf9 w
  v9 := fun w => Tryd.zeroValue9 w
  t20 := by kernel_rfl
  a20 := fun w => Tryd.isAgg20 w
  z20 := fun w => Tryd.sizeOf20 w
  v20 := fun w => Tryd.zeroValue20 w
  t37 := by kernel_rfl
  a37 := fun w => Tryd.isAgg41 w
  z37 := fun w => Tryd.sizeOf41 w
  v37 := fun w => Tryd.zeroValue41 w
  t70 := by kernel_rfl
  a70 := fun w => Tryd.isAgg40 w
  z70 := fun w => Tryd.sizeOf40 w
  v70 := fun w => Tryd.zeroValue40 w
  t72 := by kernel_rfl
  a72 := fun w => Tryd.isAgg43 w
  z72 := fun w => Tryd.sizeOf43 w
  v72 := fun w => Tryd.zeroValue43 w
  t75 := by kernel_rfl
  a75 := fun w => Tryd.isAgg45 w
  z75 := fun w => Tryd.sizeOf45 w
  v75 := fun w => Tryd.zeroValue45 w
  t164 := by kernel_rfl
  a164 := fun w => Tryd.isAgg76 w
  z164 := fun w => Tryd.sizeOf76 w
  v164 := fun w => Tryd.zeroValue76 w
def ren169 : Ren :=
  { f := fun x => match x with
    | 169 => 22
    | n => n
    t := fun x => match x with
    | 70 => 40
    | 9 => 9
    | 0 => 0
    | 72 => 43
    | 37 => 41
    | 127 => 60
    | 3 => 3
    | 5 => 5
    | n => n
    g := fun x => x }
theorem lays169 : Lays.n169 Tryd.prog ren169 where
  mixed := by kernel_rfl
  f169 := by kernel_rfl
  t0 := by kernel_rfl
  a0 := fun w => Tryd.isAgg0 w
  z0 := fun w => Tryd.sizeOf0 w
  v0 := fun w => Tryd.zeroValue0 w
  t3 := by kernel_rfl
  a3 := fun w => Tryd.isAgg3 w
  z3 := fun w => Tryd.sizeOf3 w
  v3 := fun w => Tryd.zeroValue3 w
  t9 := by kernel_rfl
  a9 := fun w => Tryd.isAgg9 w
  z9 := fun w => Tryd.sizeOf9 w
  v9 := fun w => Tryd.zeroValue9 w
  t37 := by kernel_rfl
  a37 := fun w => Tryd.isAgg41 w
  z37 := fun w => Tryd.sizeOf41 w
  v37 := fun w => Tryd.zeroValue41 w
  t70 := by kernel_rfl
  a70 := fun w => Tryd.isAgg40 w
  z70 := fun w => Tryd.sizeOf40 w
  v70 := fun w => Tryd.zeroValue40 w
  t72 := by kernel_rfl
  a72 := fun w => Tryd.isAgg43 w
  z72 := fun w => Tryd.sizeOf43 w
  v72 := fun w => Tryd.zeroValue43 w
  t127 := by kernel_rfl
  a127 := fun w => Tryd.isAgg60 w
  z127 := fun w => Tryd.sizeOf60 w
  v127 := fun w => Tryd.zeroValue60 w
def ren171 : Ren :=
  { f := fun x => match x with
    | 171 => 23
    | 243 => 33
    | 246 => 49
    | 283 => 56
    | 284 => 57
    | 285 => 58
    | 286 => 59
    | 129 => 47
    | 317 => 63
    | 318 => 64
    | 319 => 65
    | 320 => 66
    | 337 => 67
    | 338 => 68
    | n => n
    t := fun x => match x with
    | 3 => 3
    | 9 => 9
    | 2 => 2
    | 4 => 4
    | 171 => 90
    | 0 => 0
    | 53 => 75
    | 37 => 41
    | 5 => 5
    | 173 => 92
    | 212 => 110
    | 51 => 73
    | 20 => 20
    | 213 => 111
    | 46 => 58
    | 232 => 114
    | 233 => 115
    | n => n
    g := fun x => match x with
    | 17 => 2
    | 18 => 3
    | 19 => 4
    | n => n }
theorem lays171 : LaysM.n171 Tryd.prog ren171 where
  mixed := by kernel_rfl
  f129 := by kernel_rfl
  f171 := by kernel_rfl
  f243 := by kernel_rfl
  f246 := by kernel_rfl
  f283 := by kernel_rfl
  f284 := by kernel_rfl
  f285 := by kernel_rfl
  f286 := by kernel_rfl
  f317 := by kernel_rfl
  f318 := by kernel_rfl
  f319 := by kernel_rfl
  f320 := by kernel_rfl
  f337 := by kernel_rfl
  f338 := by kernel_rfl
  t0 := by kernel_rfl
  a0 := fun w => Tryd.isAgg0 w
  z0 := fun w => Tryd.sizeOf0 w
  v0 := fun w => Tryd.zeroValue0 w
  t2 := by kernel_rfl
  a2 := fun w => Tryd.isAgg2 w
  z2 := fun w => Tryd.sizeOf2 w
  v2 := fun w => Tryd.zeroValue2 w
  t3 := by kernel_rfl
  a3 := fun w => Tryd.isAgg3 w
  z3 := fun w => Tryd.sizeOf3 w
  v3 := fun w => Tryd.zeroValue3 w
  t4 := by kernel_rfl
  a4 := fun w => Tryd.isAgg4 w
  z4 := fun w => Tryd.sizeOf4 w
  v4 := fun w => Tryd.zeroValue4 w
  t5 := by kernel_rfl
  a5 := fun w => Tryd.isAgg5 w
  z5 := fun w => Tryd.sizeOf5 w
  v5 := fun w => Tryd.zeroValue5 w
  t9 := by kernel_rfl
  a9 := fun w => Tryd.isAgg9 w
  z9 := fun w => Tryd.sizeOf9 w
  v9 := fun w => Tryd.zeroValue9 w
  t20 := by kernel_rfl
  a20 := fun w => Tryd.isAgg20 w
  z20 := fun w => Tryd.sizeOf20 w
  v20 := fun w => Tryd.zeroValue20 w
  t37 := by kernel_rfl
  a37 := fun w => Tryd.isAgg41 w
  z37 := fun w => Tryd.sizeOf41 w
  v37 := fun w => Tryd.zeroValue41 w
  t46 := by kernel_rfl
  a46 := fun w => Tryd.isAgg58 w
  z46 := fun w => Tryd.sizeOf58 w
  v46 := fun w => Tryd.zeroValue58 w
  t51 := by kernel_rfl
  a51 := fun w => Tryd.isAgg73 w
  z51 := fun w => Tryd.sizeOf73 w
  v51 := fun w => Tryd.zeroValue73 w
  t53 := by kernel_rfl
  a53 := fun w => Tryd.isAgg75 w
  z53 := fun w => Tryd.sizeOf75 w
  v53 := fun w => Tryd.zeroValue75 w
  t171 := by kernel_rfl
  a171 := fun w => Tryd.isAgg90 w
  z171 := fun w => Tryd.sizeOf90 w
  v171 := fun w => Tryd.zeroValue90 w
  t173 := by kernel_rfl
  a173 := fun w => Tryd.isAgg92 w
  z173 := fun w => Tryd.sizeOf92 w
  v173 := fun w => Tryd.zeroValue92 w
  t212 := by kernel_rfl
  a212 := fun w => Tryd.isAgg110 w
  z212 := fun w => Tryd.sizeOf110 w
  v212 := fun w => Tryd.zeroValue110 w
  t213 := by kernel_rfl
  a213 := fun w => Tryd.isAgg111 w
  z213 := fun w => Tryd.sizeOf111 w
  t232 := by kernel_rfl
  a232 := fun w => Tryd.isAgg114 w
  z232 := fun w => Tryd.sizeOf114 w
  v232 := fun w => Tryd.zeroValue114 w
  t233 := by kernel_rfl
  a233 := fun w => Tryd.isAgg115 w
  z233 := fun w => Tryd.sizeOf115 w
  v233 := fun w => Tryd.zeroValue115 w
  g17 := by kernel_rfl
  g18 := by kernel_rfl
  g19 := by kernel_rfl
  i0 := by kernel_rfl
  i2 := by kernel_rfl
  i3 := by kernel_rfl
  i4 := by kernel_rfl
  i5 := by kernel_rfl
  i9 := by kernel_rfl
  i20 := by kernel_rfl
  i37 := by kernel_rfl
  i46 := by kernel_rfl
  i51 := by kernel_rfl
  i53 := by kernel_rfl
  i171 := by kernel_rfl
  i173 := by kernel_rfl
  i212 := by kernel_rfl
  i232 := by kernel_rfl
  i233 := by kernel_rfl
  m17 := by kernel_rfl
  m18 := by kernel_rfl
  m19 := by kernel_rfl
end Go.Proofs.YtfpedcmempljlaaDoor
