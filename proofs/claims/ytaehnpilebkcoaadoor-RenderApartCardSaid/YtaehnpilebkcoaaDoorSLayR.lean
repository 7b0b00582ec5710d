/- The library, over this program: tables of numbers, and each body compared by the kernel. -/
import Derived.Shelf.Strconv.Itoa4
import Derived.Shelf.Strings.BuilderK
import Derived.Shelf.Strings.Repeat
import Derived.KernelRfl
import Derived.Test.YtaehnpilebkcoaaDoorProg
set_option maxRecDepth 100000
namespace Go.Proofs.YtaehnpilebkcoaaDoor
open Go Go.Shelf Go.Proofs
def ren166 : Ren :=
  { f := fun x => match x with
    | 166 => 87
    | 240 => 106
    | 276 => 128
    | n => n
    t := fun x => match x with
    | 70 => 92
    | 72 => 95
    | 37 => 93
    | 75 => 123
    | 80 => 102
    | 164 => 160
    | n => n
    g := fun x => x }
theorem lays166 : Lays.n166 Tryd.prog ren166 where
  mixed := by kernel_rfl
  f166 := by kernel_rfl
  f240 := by kernel_rfl
  f276 := by kernel_rfl
  t0 := by kernel_rfl
  a0 := fun w => Tryd.isAgg0 w
  z0 := fun w => Tryd.sizeOf0 w
  v0 := fun w => Tryd.zeroValue0 w
  t3 := by kernel_rfl
  a3 := fun w => Tryd.isAgg3 w
  z3 := fun w => Tryd.sizeOf3 w
  v3 := fun w => Tryd.zeroValue3 w
  t4 := by kernel_rfl
  a4 := fun w => Tryd.isAgg4 w
  z4 := fun w => Tryd.sizeOf4 w
  v4 := fun w => Tryd.zeroValue4 w
  t9 := by kernel_rfl
  a9 := fun w => Tryd.isAgg9 w
  z9 := fun w => Tryd.sizeOf9 w
  v9 := fun w => Tryd.zeroValue9 w
  t20 := by kernel_rfl
  a20 := fun w => Tryd.isAgg20 w
  z20 := fun w => Tryd.sizeOf20 w
  v20 := fun w => Tryd.zeroValue20 w
  t37 := by kernel_rfl
  a37 := fun w => Tryd.isAgg93 w
  z37 := fun w => Tryd.sizeOf93 w
  v37 := fun w => Tryd.zeroValue93 w
  t70 := by kernel_rfl
  a70 := fun w => Tryd.isAgg92 w
  z70 := fun w => Tryd.sizeOf92 w
  v70 := fun w => Tryd.zeroValue92 w
  t72 := by kernel_rfl
  a72 := fun w => Tryd.isAgg95 w
  z72 := fun w => Tryd.sizeOf95 w
  v72 := fun w => Tryd.zeroValue95 w
  t75 := by kernel_rfl
  a75 := fun w => Tryd.isAgg123 w
  z75 := fun w => Tryd.sizeOf123 w
  v75 := fun w => Tryd.zeroValue123 w
  t164 := by kernel_rfl
  a164 := fun w => Tryd.isAgg160 w
  z164 := fun w => Tryd.sizeOf160 w
  v164 := fun w => Tryd.zeroValue160 w
def ren169 : Ren :=
  { f := fun x => match x with
    | 169 => 65
    | n => n
    t := fun x => match x with
    | 70 => 92
    | 9 => 9
    | 0 => 0
    | 72 => 95
    | 37 => 93
    | 127 => 128
    | 3 => 3
    | 5 => 5
    | n => n
    g := fun x => x }
theorem lays169 : Lays.n169 Tryd.prog ren169 where
  mixed := by kernel_rfl
  f169 := by kernel_rfl
  t0 := by kernel_rfl
  a0 := fun w => Tryd.isAgg0 w
  z0 := fun w => Tryd.sizeOf0 w
  v0 := fun w => Tryd.zeroValue0 w
  t3 := by kernel_rfl
  a3 := fun w => Tryd.isAgg3 w
  z3 := fun w => Tryd.sizeOf3 w
  v3 := fun w => Tryd.zeroValue3 w
  t9 := by kernel_rfl
  a9 := fun w => Tryd.isAgg9 w
  z9 := fun w => Tryd.sizeOf9 w
  v9 := fun w => Tryd.zeroValue9 w
  t37 := by kernel_rfl
  a37 := fun w => Tryd.isAgg93 w
  z37 := fun w => Tryd.sizeOf93 w
  v37 := fun w => Tryd.zeroValue93 w
  t70 := by kernel_rfl
  a70 := fun w => Tryd.isAgg92 w
  z70 := fun w => Tryd.sizeOf92 w
  v70 := fun w => Tryd.zeroValue92 w
  t72 := by kernel_rfl
  a72 := fun w => Tryd.isAgg95 w
  z72 := fun w => Tryd.sizeOf95 w
  v72 := fun w => Tryd.zeroValue95 w
  t127 := by kernel_rfl
  a127 := fun w => Tryd.isAgg128 w
  z127 := fun w => Tryd.sizeOf128 w
  v127 := fun w => Tryd.zeroValue128 w
def ren171 : Ren :=
  { f := fun x => match x with
    | 171 => 92
    | 243 => 118
    | 246 => 135
    | 283 => 143
    | 284 => 144
    | 285 => 145
    | 286 => 146
    | 129 => 154
    | 317 => 153
    | 318 => 155
    | 319 => 156
    | 320 => 157
    | 337 => 164
    | 338 => 165
    | n => n
    t := fun x => match x with
    | 3 => 3
    | 9 => 9
    | 2 => 2
    | 4 => 4
    | 171 => 175
    | 0 => 0
    | 53 => 165
    | 37 => 93
    | 5 => 5
    | 173 => 178
    | 212 => 187
    | 51 => 162
    | 20 => 20
    | 213 => 188
    | 46 => 47
    | 232 => 200
    | 233 => 201
    | n => n
    g := fun x => match x with
    | 17 => 1
    | 18 => 4
    | 19 => 5
    | n => n }
theorem lays171 : LaysM.n171 Tryd.prog ren171 where
  mixed := by kernel_rfl
  f129 := by kernel_rfl
  f171 := by kernel_rfl
  f243 := by kernel_rfl
  f246 := by kernel_rfl
  f283 := by kernel_rfl
  f284 := by kernel_rfl
  f285 := by kernel_rfl
  f286 := by kernel_rfl
  f317 := by kernel_rfl
  f318 := by kernel_rfl
  f319 := by kernel_rfl
  f320 := by kernel_rfl
  f337 := by kernel_rfl
  f338 := by kernel_rfl
  t0 := by kernel_rfl
  a0 := fun w => Tryd.isAgg0 w
  z0 := fun w => Tryd.sizeOf0 w
  v0 := fun w => Tryd.zeroValue0 w
  t2 := by kernel_rfl
  a2 := fun w => Tryd.isAgg2 w
  z2 := fun w => Tryd.sizeOf2 w
  v2 := fun w => Tryd.zeroValue2 w
  t3 := by kernel_rfl
  a3 := fun w => Tryd.isAgg3 w
  z3 := fun w => Tryd.sizeOf3 w
  v3 := fun w => Tryd.zeroValue3 w
  t4 := by kernel_rfl
  a4 := fun w => Tryd.isAgg4 w
  z4 := fun w => Tryd.sizeOf4 w
  v4 := fun w => Tryd.zeroValue4 w
  t5 := by kernel_rfl
  a5 := fun w => Tryd.isAgg5 w
  z5 := fun w => Tryd.sizeOf5 w
  v5 := fun w => Tryd.zeroValue5 w
  t9 := by kernel_rfl
  a9 := fun w => Tryd.isAgg9 w
  z9 := fun w => Tryd.sizeOf9 w
  v9 := fun w => Tryd.zeroValue9 w
  t20 := by kernel_rfl
  a20 := fun w => Tryd.isAgg20 w
  z20 := fun w => Tryd.sizeOf20 w
  v20 := fun w => Tryd.zeroValue20 w
  t37 := by kernel_rfl
  a37 := fun w => Tryd.isAgg93 w
  z37 := fun w => Tryd.sizeOf93 w
  v37 := fun w => Tryd.zeroValue93 w
  t46 := by kernel_rfl
  a46 := fun w => Tryd.isAgg47 w
  z46 := fun w => Tryd.sizeOf47 w
  v46 := fun w => Tryd.zeroValue47 w
  t51 := by kernel_rfl
  a51 := fun w => Tryd.isAgg162 w
  z51 := fun w => Tryd.sizeOf162 w
  v51 := fun w => Tryd.zeroValue162 w
  t53 := by kernel_rfl
  a53 := fun w => Tryd.isAgg165 w
  z53 := fun w => Tryd.sizeOf165 w
  v53 := fun w => Tryd.zeroValue165 w
  t171 := by kernel_rfl
  a171 := fun w => Tryd.isAgg175 w
  z171 := fun w => Tryd.sizeOf175 w
  v171 := fun w => Tryd.zeroValue175 w
  t173 := by kernel_rfl
  a173 := fun w => Tryd.isAgg178 w
  z173 := fun w => Tryd.sizeOf178 w
  v173 := fun w => Tryd.zeroValue178 w
  t212 := by kernel_rfl
  a212 := fun w => Tryd.isAgg187 w
  z212 := fun w => Tryd.sizeOf187 w
  v212 := fun w => Tryd.zeroValue187 w
  t213 := by kernel_rfl
  a213 := fun w => Tryd.isAgg188 w
  z213 := fun w => Tryd.sizeOf188 w
  t232 := by kernel_rfl
  a232 := fun w => Tryd.isAgg200 w
  z232 := fun w => Tryd.sizeOf200 w
  v232 := fun w => Tryd.zeroValue200 w
  t233 := by kernel_rfl
  a233 := fun w => Tryd.isAgg201 w
  z233 := fun w => Tryd.sizeOf201 w
  v233 := fun w => Tryd.zeroValue201 w
  g17 := by kernel_rfl
  g18 := by kernel_rfl
  g19 := by kernel_rfl
  i0 := by kernel_rfl
  i2 := by kernel_rfl
  i3 := by kernel_rfl
  i4 := by kernel_rfl
  i5 := by kernel_rfl
  i9 := by kernel_rfl
  i20 := by kernel_rfl
  i37 := by kernel_rfl
  i46 := by kernel_rfl
  i51 := by kernel_rfl
  i53 := by kernel_rfl
  i171 := by kernel_rfl
  i173 := by kernel_rfl
  i212 := by kernel_rfl
  i232 := by kernel_rfl
  i233 := by kernel_rfl
  m17 := by kernel_rfl
  m18 := by kernel_rfl
  m19 := by kernel_rfl
def ren173 : Ren :=
  { f := fun x => match x with
    | 173 => 119
    | 246 => 135
    | 283 => 143
    | 284 => 144
    | 285 => 145
    | 286 => 146
    | 129 => 154
    | 317 => 153
    | 318 => 155
    | 319 => 156
    | 320 => 157
    | 337 => 164
    | 338 => 165
    | n => n
    t := fun x => match x with
    | 3 => 3
    | 9 => 9
    | 2 => 2
    | 4 => 4
    | 171 => 175
    | 0 => 0
    | 53 => 165
    | 37 => 93
    | 5 => 5
    | 173 => 178
    | 212 => 187
    | 51 => 162
    | 20 => 20
    | 213 => 188
    | 46 => 47
    | 232 => 200
    | 233 => 201
    | n => n
    g := fun x => match x with
    | 17 => 1
    | 18 => 4
    | 19 => 5
    | n => n }
theorem lays173 : LaysM.n173 Tryd.prog ren173 where
  mixed := by kernel_rfl
  f129 := by kernel_rfl
  f173 := by kernel_rfl
  f246 := by kernel_rfl
  f283 := by kernel_rfl
  f284 := by kernel_rfl
  f285 := by kernel_rfl
  f286 := by kernel_rfl
  f317 := by kernel_rfl
  f318 := by kernel_rfl
  f319 := by kernel_rfl
  f320 := by kernel_rfl
  f337 := by kernel_rfl
  f338 := by kernel_rfl
  t0 := by kernel_rfl
  a0 := fun w => Tryd.isAgg0 w
  z0 := fun w => Tryd.sizeOf0 w
  v0 := fun w => Tryd.zeroValue0 w
  t2 := by kernel_rfl
  a2 := fun w => Tryd.isAgg2 w
  z2 := fun w => Tryd.sizeOf2 w
  v2 := fun w => Tryd.zeroValue2 w
  t3 := by kernel_rfl
  a3 := fun w => Tryd.isAgg3 w
  z3 := fun w => Tryd.sizeOf3 w
  v3 := fun w => Tryd.zeroValue3 w
  t4 := by kernel_rfl
  a4 := fun w => Tryd.isAgg4 w
  z4 := fun w => Tryd.sizeOf4 w
  v4 := fun w => Tryd.zeroValue4 w
  t5 := by kernel_rfl
  a5 := fun w => Tryd.isAgg5 w
  z5 := fun w => Tryd.sizeOf5 w
  v5 := fun w => Tryd.zeroValue5 w
  t9 := by kernel_rfl
  a9 := fun w => Tryd.isAgg9 w
  z9 := fun w => Tryd.sizeOf9 w
  v9 := fun w => Tryd.zeroValue9 w
  t20 := by kernel_rfl
  a20 := fun w => Tryd.isAgg20 w
  z20 := fun w => Tryd.sizeOf20 w
  v20 := fun w => Tryd.zeroValue20 w
  t37 := by kernel_rfl
  a37 := fun w => Tryd.isAgg93 w
  z37 := fun w => Tryd.sizeOf93 w
  v37 := fun w => Tryd.zeroValue93 w
  t46 := by kernel_rfl
  a46 := fun w => Tryd.isAgg47 w
  z46 := fun w => Tryd.sizeOf47 w
  v46 := fun w => Tryd.zeroValue47 w
  t51 := by kernel_rfl
  a51 := fun w => Tryd.isAgg162 w
  z51 := fun w => Tryd.sizeOf162 w
  v51 := fun w => Tryd.zeroValue162 w
  t53 := by kernel_rfl
  a53 := fun w => Tryd.isAgg165 w
  z53 := fun w => Tryd.sizeOf165 w
  v53 := fun w => Tryd.zeroValue165 w
  t171 := by kernel_rfl
  a171 := fun w => Tryd.isAgg175 w
  z171 := fun w => Tryd.sizeOf175 w
  v171 := fun w => Tryd.zeroValue175 w
  t173 := by kernel_rfl
  a173 := fun w => Tryd.isAgg178 w
  z173 := fun w => Tryd.sizeOf178 w
  v173 := fun w => Tryd.zeroValue178 w
  t212 := by kernel_rfl
  a212 := fun w => Tryd.isAgg187 w
  z212 := fun w => Tryd.sizeOf187 w
  v212 := fun w => Tryd.zeroValue187 w
  t213 := by kernel_rfl
  a213 := fun w => Tryd.isAgg188 w
  z213 := fun w => Tryd.sizeOf188 w
  t232 := by kernel_rfl
  a232 := fun w => Tryd.isAgg200 w
  z232 := fun w => Tryd.sizeOf200 w
  v232 := fun w => Tryd.zeroValue200 w
  t233 := by kernel_rfl
  a233 := fun w => Tryd.isAgg201 w
  z233 := fun w => Tryd.sizeOf201 w
  v233 := fun w => Tryd.zeroValue201 w
  g17 := by kernel_rfl
  g18 := by kernel_rfl
  g19 := by kernel_rfl
  i0 := by kernel_rfl
  i2 := by kernel_rfl
  i3 := by kernel_rfl
  i4 := by kernel_rfl
  i5 := by kernel_rfl
  i9 := by kernel_rfl
  i20 := by kernel_rfl
  i37 := by kernel_rfl
  i46 := by kernel_rfl
  i51 := by kernel_rfl
  i53 := by kernel_rfl
  i171 := by kernel_rfl
  i173 := by kernel_rfl
  i212 := by kernel_rfl
  i232 := by kernel_rfl
  i233 := by kernel_rfl
  m17 := by kernel_rfl
  m18 := by kernel_rfl
  m19 := by kernel_rfl
def ren156 : Ren :=
  { f := fun x => match x with
    | 156 => 62
    | 165 => 89
    | 166 => 87
    | 169 => 65
    | 240 => 106
    | 241 => 110
    | 276 => 128
    | 277 => 132
    | n => n
    t := fun x => match x with
    | 31 => 98
    | 9 => 9
    | 3 => 3
    | 4 => 4
    | 0 => 0
    | 20 => 20
    | 72 => 95
    | 76 => 124
    | 70 => 92
    | 37 => 93
    | 75 => 123
    | 127 => 128
    | 164 => 160
    | 5 => 5
    | 80 => 102
    | n => n
    g := fun x => x }
theorem lays156 : Lays.n156 Tryd.prog ren156 where
  mixed := by kernel_rfl
  f156 := by kernel_rfl
  f165 := by kernel_rfl
  f166 := by kernel_rfl
  f169 := by kernel_rfl
  f240 := by kernel_rfl
  f241 := by kernel_rfl
  f276 := by kernel_rfl
  f277 := by kernel_rfl
  t0 := by kernel_rfl
  a0 := fun w => Tryd.isAgg0 w
  z0 := fun w => Tryd.sizeOf0 w
  v0 := fun w => Tryd.zeroValue0 w
  t3 := by kernel_rfl
  a3 := fun w => Tryd.isAgg3 w
  z3 := fun w => Tryd.sizeOf3 w
  v3 := fun w => Tryd.zeroValue3 w
  t4 := by kernel_rfl
  a4 := fun w => Tryd.isAgg4 w
  z4 := fun w => Tryd.sizeOf4 w
  v4 := fun w => Tryd.zeroValue4 w
  t9 := by kernel_rfl
  a9 := fun w => Tryd.isAgg9 w
  z9 := fun w => Tryd.sizeOf9 w
  v9 := fun w => Tryd.zeroValue9 w
  t20 := by kernel_rfl
  a20 := fun w => Tryd.isAgg20 w
  z20 := fun w => Tryd.sizeOf20 w
  v20 := fun w => Tryd.zeroValue20 w
  t31 := by kernel_rfl
  a31 := fun w => Tryd.isAgg98 w
  z31 := fun w => Tryd.sizeOf98 w
  v31 := fun w => Tryd.zeroValue98 w
  t37 := by kernel_rfl
  a37 := fun w => Tryd.isAgg93 w
  z37 := fun w => Tryd.sizeOf93 w
  v37 := fun w => Tryd.zeroValue93 w
  t70 := by kernel_rfl
  a70 := fun w => Tryd.isAgg92 w
  z70 := fun w => Tryd.sizeOf92 w
  v70 := fun w => Tryd.zeroValue92 w
  t72 := by kernel_rfl
  a72 := fun w => Tryd.isAgg95 w
  z72 := fun w => Tryd.sizeOf95 w
  v72 := fun w => Tryd.zeroValue95 w
  t75 := by kernel_rfl
  a75 := fun w => Tryd.isAgg123 w
  z75 := fun w => Tryd.sizeOf123 w
  v75 := fun w => Tryd.zeroValue123 w
  t76 := by kernel_rfl
  a76 := fun w => Tryd.isAgg124 w
  z76 := fun w => Tryd.sizeOf124 w
  v76 := fun w => Tryd.zeroValue124 w
  t127 := by kernel_rfl
  a127 := fun w => Tryd.isAgg128 w
  z127 := fun w => Tryd.sizeOf128 w
  v127 := fun w => Tryd.zeroValue128 w
  t164 := by kernel_rfl
  a164 := fun w => Tryd.isAgg160 w
  z164 := fun w => Tryd.sizeOf160 w
  v164 := fun w => Tryd.zeroValue160 w
def ren105 : Ren :=
  { f := fun x => match x with
    | 105 => 88
    | 212 => 107
    | 99 => 108
    | 165 => 89
    | 166 => 87
    | 170 => 109
    | 169 => 65
    | 263 => 129
    | 264 => 130
    | 206 => 131
    | 240 => 106
    | 241 => 110
    | 276 => 128
    | 277 => 132
    | n => n
    t := fun x => match x with
    | 9 => 9
    | 3 => 3
    | 4 => 4
    | 20 => 20
    | 0 => 0
    | 46 => 47
    | 109 => 139
    | 5 => 5
    | 72 => 95
    | 76 => 124
    | 51 => 162
    | 146 => 163
    | 53 => 165
    | 148 => 166
    | 70 => 92
    | 37 => 93
    | 75 => 123
    | 127 => 128
    | 164 => 160
    | 80 => 102
    | n => n
    g := fun x => x }
theorem lays105 : Lays.n105 Tryd.prog ren105 where
  mixed := by kernel_rfl
  f99 := by kernel_rfl
  f105 := by kernel_rfl
  f165 := by kernel_rfl
  f166 := by kernel_rfl
  f169 := by kernel_rfl
  f170 := by kernel_rfl
  f206 := by kernel_rfl
  f212 := by kernel_rfl
  f240 := by kernel_rfl
  f241 := by kernel_rfl
  f263 := by kernel_rfl
  f264 := by kernel_rfl
  f276 := by kernel_rfl
  f277 := by kernel_rfl
  t0 := by kernel_rfl
  a0 := fun w => Tryd.isAgg0 w
  z0 := fun w => Tryd.sizeOf0 w
  v0 := fun w => Tryd.zeroValue0 w
  t3 := by kernel_rfl
  a3 := fun w => Tryd.isAgg3 w
  z3 := fun w => Tryd.sizeOf3 w
  v3 := fun w => Tryd.zeroValue3 w
  t4 := by kernel_rfl
  a4 := fun w => Tryd.isAgg4 w
  z4 := fun w => Tryd.sizeOf4 w
  v4 := fun w => Tryd.zeroValue4 w
  t5 := by kernel_rfl
  a5 := fun w => Tryd.isAgg5 w
  z5 := fun w => Tryd.sizeOf5 w
  v5 := fun w => Tryd.zeroValue5 w
  t9 := by kernel_rfl
  a9 := fun w => Tryd.isAgg9 w
  z9 := fun w => Tryd.sizeOf9 w
  v9 := fun w => Tryd.zeroValue9 w
  t20 := by kernel_rfl
  a20 := fun w => Tryd.isAgg20 w
  z20 := fun w => Tryd.sizeOf20 w
  v20 := fun w => Tryd.zeroValue20 w
  t37 := by kernel_rfl
  a37 := fun w => Tryd.isAgg93 w
  z37 := fun w => Tryd.sizeOf93 w
  v37 := fun w => Tryd.zeroValue93 w
  t46 := by kernel_rfl
  a46 := fun w => Tryd.isAgg47 w
  z46 := fun w => Tryd.sizeOf47 w
  v46 := fun w => Tryd.zeroValue47 w
  t51 := by kernel_rfl
  a51 := fun w => Tryd.isAgg162 w
  z51 := fun w => Tryd.sizeOf162 w
  v51 := fun w => Tryd.zeroValue162 w
  t53 := by kernel_rfl
  a53 := fun w => Tryd.isAgg165 w
  z53 := fun w => Tryd.sizeOf165 w
  v53 := fun w => Tryd.zeroValue165 w
  t70 := by kernel_rfl
  a70 := fun w => Tryd.isAgg92 w
  z70 := fun w => Tryd.sizeOf92 w
  v70 := fun w => Tryd.zeroValue92 w
  t72 := by kernel_rfl
  a72 := fun w => Tryd.isAgg95 w
  z72 := fun w => Tryd.sizeOf95 w
  v72 := fun w => Tryd.zeroValue95 w
  t75 := by kernel_rfl
  a75 := fun w => Tryd.isAgg123 w
  z75 := fun w => Tryd.sizeOf123 w
  v75 := fun w => Tryd.zeroValue123 w
  t76 := by kernel_rfl
  a76 := fun w => Tryd.isAgg124 w
  z76 := fun w => Tryd.sizeOf124 w
  v76 := fun w => Tryd.zeroValue124 w
  t109 := by kernel_rfl
  a109 := fun w => Tryd.isAgg139 w
  z109 := fun w => Tryd.sizeOf139 w
  v109 := fun w => Tryd.zeroValue139 w
  t127 := by kernel_rfl
  a127 := fun w => Tryd.isAgg128 w
  z127 := fun w => Tryd.sizeOf128 w
  v127 := fun w => Tryd.zeroValue128 w
  t146 := by kernel_rfl
  a146 := fun w => Tryd.isAgg163 w
  z146 := fun w => Tryd.sizeOf163 w
  v146 := fun w => Tryd.zeroValue163 w
  t148 := by kernel_rfl
  a148 := fun w => Tryd.isAgg166 w
  z148 := fun w => Tryd.sizeOf166 w
  v148 := fun w => Tryd.zeroValue166 w
  t164 := by kernel_rfl
  a164 := fun w => Tryd.isAgg160 w
  z164 := fun w => Tryd.sizeOf160 w
  v164 := fun w => Tryd.zeroValue160 w
end Go.Proofs.YtaehnpilebkcoaaDoor
