import Derived.Shelf.Strconv.Itoa4
import Derived.Shelf.Strings.BuilderK
import Derived.Shelf.Strings.Repeat
import Derived.KernelRfl
import Derived.Test.YtkeeboomikkojaaGreatDoorProg
set_option maxRecDepth 100000
namespace Go.Proofs.YtkeeboomikkojaaGreatDoor
open Go Go.Shelf Go.Proofs
def gY : Ren :=
  { f := fun x => match x with
    | 166 => 88
    | 240 => 112
    | 276 => 132
    | n => n
    t := fun x => match x with
    | 70 => 106
    | 72 => 109
    | 37 => 107
    | 75 => 137
    | 80 => 102
    | 164 => 177
    | n => n
    g := fun x => x }
theorem yq:Lays.n166 Tryz.prog gY where
 mixed:=by kernel_rfl
 f166:=by kernel_rfl
 f240:=by kernel_rfl
 f276:=by kernel_rfl
 t0:=by kernel_rfl
 a0:=fun w=>Tryz.isAgg0 w
 z0:=fun w=>Tryz.sizeOf0 w
 v0:=fun w=>Tryz.zeroValue0 w
 t3:=by kernel_rfl
 a3:=fun w=>Tryz.isAgg3 w
 z3:=fun w=>Tryz.sizeOf3 w
 v3:=fun w=>Tryz.zeroValue3 w
 t4:=by kernel_rfl
 a4:=fun w=>Tryz.isAgg4 w
 z4:=fun w=>Tryz.sizeOf4 w
 v4:=fun w=>Tryz.zeroValue4 w
 t9:=by kernel_rfl
 a9:=fun w=>Tryz.isAgg9 w
 z9:=fun w=>Tryz.sizeOf9 w
 v9:=fun w=>Tryz.zeroValue9 w
 t20:=by kernel_rfl
 a20:=fun w=>Tryz.isAgg20 w
 z20:=fun w=>Tryz.sizeOf20 w
 v20:=fun w=>Tryz.zeroValue20 w
 t37:=by kernel_rfl
 a37:=fun w=>Tryz.isAgg107 w
 z37:=fun w=>Tryz.sizeOf107 w
 v37:=fun w=>Tryz.zeroValue107 w
 t70:=by kernel_rfl
 a70:=fun w=>Tryz.isAgg106 w
 z70:=fun w=>Tryz.sizeOf106 w
 v70:=fun w=>Tryz.zeroValue106 w
 t72:=by kernel_rfl
 a72:=fun w=>Tryz.isAgg109 w
 z72:=fun w=>Tryz.sizeOf109 w
 v72:=fun w=>Tryz.zeroValue109 w
 t75:=by kernel_rfl
 a75:=fun w=>Tryz.isAgg137 w
 z75:=fun w=>Tryz.sizeOf137 w
 v75:=fun w=>Tryz.zeroValue137 w
 t164:=by kernel_rfl
 a164:=fun w=>Tryz.isAgg177 w
 z164:=fun w=>Tryz.sizeOf177 w
 v164:=fun w=>Tryz.zeroValue177 w
def gu : Ren :=
  { f := fun x => match x with
    | 169 => 64
    | n => n
    t := fun x => match x with
    | 70 => 106
    | 9 => 9
    | 0 => 0
    | 72 => 109
    | 37 => 107
    | 127 => 142
    | 3 => 3
    | 5 => 5
    | n => n
    g := fun x => x }
theorem HA:Lays.n169 Tryz.prog gu where
 mixed:=by kernel_rfl
 f169:=by kernel_rfl
 t0:=by kernel_rfl
 a0:=fun w=>Tryz.isAgg0 w
 z0:=fun w=>Tryz.sizeOf0 w
 v0:=fun w=>Tryz.zeroValue0 w
 t3:=by kernel_rfl
 a3:=fun w=>Tryz.isAgg3 w
 z3:=fun w=>Tryz.sizeOf3 w
 v3:=fun w=>Tryz.zeroValue3 w
 t9:=by kernel_rfl
 a9:=fun w=>Tryz.isAgg9 w
 z9:=fun w=>Tryz.sizeOf9 w
 v9:=fun w=>Tryz.zeroValue9 w
 t37:=by kernel_rfl
 a37:=fun w=>Tryz.isAgg107 w
 z37:=fun w=>Tryz.sizeOf107 w
 v37:=fun w=>Tryz.zeroValue107 w
 t70:=by kernel_rfl
 a70:=fun w=>Tryz.isAgg106 w
 z70:=fun w=>Tryz.sizeOf106 w
 v70:=fun w=>Tryz.zeroValue106 w
 t72:=by kernel_rfl
 a72:=fun w=>Tryz.isAgg109 w
 z72:=fun w=>Tryz.sizeOf109 w
 v72:=fun w=>Tryz.zeroValue109 w
 t127:=by kernel_rfl
 a127:=fun w=>Tryz.isAgg142 w
 z127:=fun w=>Tryz.sizeOf142 w
 v127:=fun w=>Tryz.zeroValue142 w
def OC : Ren :=
  { f := fun x => match x with
    | 171 => 106
    | 243 => 125
    | 246 => 146
    | 283 => 158
    | 284 => 159
    | 285 => 160
    | 286 => 161
    | 129 => 169
    | 317 => 168
    | 318 => 170
    | 319 => 171
    | 320 => 172
    | 337 => 174
    | 338 => 175
    | n => n
    t := fun x => match x with
    | 3 => 3
    | 9 => 9
    | 2 => 2
    | 4 => 4
    | 171 => 206
    | 0 => 0
    | 53 => 182
    | 37 => 107
    | 5 => 5
    | 173 => 209
    | 212 => 218
    | 51 => 179
    | 20 => 20
    | 213 => 219
    | 46 => 42
    | 232 => 225
    | 233 => 226
    | n => n
    g := fun x => match x with
    | 17 => 3
    | 18 => 4
    | 19 => 5
    | n => n }
theorem Ml:LaysM.n171 Tryz.prog OC where
 mixed:=by kernel_rfl
 f129:=by kernel_rfl
 f171:=by kernel_rfl
 f243:=by kernel_rfl
 f246:=by kernel_rfl
 f283:=by kernel_rfl
 f284:=by kernel_rfl
 f285:=by kernel_rfl
 f286:=by kernel_rfl
 f317:=by kernel_rfl
 f318:=by kernel_rfl
 f319:=by kernel_rfl
 f320:=by kernel_rfl
 f337:=by kernel_rfl
 f338:=by kernel_rfl
 t0:=by kernel_rfl
 a0:=fun w=>Tryz.isAgg0 w
 z0:=fun w=>Tryz.sizeOf0 w
 v0:=fun w=>Tryz.zeroValue0 w
 t2:=by kernel_rfl
 a2:=fun w=>Tryz.isAgg2 w
 z2:=fun w=>Tryz.sizeOf2 w
 v2:=fun w=>Tryz.zeroValue2 w
 t3:=by kernel_rfl
 a3:=fun w=>Tryz.isAgg3 w
 z3:=fun w=>Tryz.sizeOf3 w
 v3:=fun w=>Tryz.zeroValue3 w
 t4:=by kernel_rfl
 a4:=fun w=>Tryz.isAgg4 w
 z4:=fun w=>Tryz.sizeOf4 w
 v4:=fun w=>Tryz.zeroValue4 w
 t5:=by kernel_rfl
 a5:=fun w=>Tryz.isAgg5 w
 z5:=fun w=>Tryz.sizeOf5 w
 v5:=fun w=>Tryz.zeroValue5 w
 t9:=by kernel_rfl
 a9:=fun w=>Tryz.isAgg9 w
 z9:=fun w=>Tryz.sizeOf9 w
 v9:=fun w=>Tryz.zeroValue9 w
 t20:=by kernel_rfl
 a20:=fun w=>Tryz.isAgg20 w
 z20:=fun w=>Tryz.sizeOf20 w
 v20:=fun w=>Tryz.zeroValue20 w
 t37:=by kernel_rfl
 a37:=fun w=>Tryz.isAgg107 w
 z37:=fun w=>Tryz.sizeOf107 w
 v37:=fun w=>Tryz.zeroValue107 w
 t46:=by kernel_rfl
 a46:=fun w=>Tryz.isAgg42 w
 z46:=fun w=>Tryz.sizeOf42 w
 v46:=fun w=>Tryz.zeroValue42 w
 t51:=by kernel_rfl
 a51:=fun w=>Tryz.isAgg179 w
 z51:=fun w=>Tryz.sizeOf179 w
 v51:=fun w=>Tryz.zeroValue179 w
 t53:=by kernel_rfl
 a53:=fun w=>Tryz.isAgg182 w
 z53:=fun w=>Tryz.sizeOf182 w
 v53:=fun w=>Tryz.zeroValue182 w
 t171:=by kernel_rfl
 a171:=fun w=>Tryz.isAgg206 w
 z171:=fun w=>Tryz.sizeOf206 w
 v171:=fun w=>Tryz.zeroValue206 w
 t173:=by kernel_rfl
 a173:=fun w=>Tryz.isAgg209 w
 z173:=fun w=>Tryz.sizeOf209 w
 v173:=fun w=>Tryz.zeroValue209 w
 t212:=by kernel_rfl
 a212:=fun w=>Tryz.isAgg218 w
 z212:=fun w=>Tryz.sizeOf218 w
 v212:=fun w=>Tryz.zeroValue218 w
 t213:=by kernel_rfl
 a213:=fun w=>Tryz.isAgg219 w
 z213:=fun w=>Tryz.sizeOf219 w
 t232:=by kernel_rfl
 a232:=fun w=>Tryz.isAgg225 w
 z232:=fun w=>Tryz.sizeOf225 w
 v232:=fun w=>Tryz.zeroValue225 w
 t233:=by kernel_rfl
 a233:=fun w=>Tryz.isAgg226 w
 z233:=fun w=>Tryz.sizeOf226 w
 v233:=fun w=>Tryz.zeroValue226 w
 g17:=by kernel_rfl
 g18:=by kernel_rfl
 g19:=by kernel_rfl
 i0:=by kernel_rfl
 i2:=by kernel_rfl
 i3:=by kernel_rfl
 i4:=by kernel_rfl
 i5:=by kernel_rfl
 i9:=by kernel_rfl
 i20:=by kernel_rfl
 i37:=by kernel_rfl
 i46:=by kernel_rfl
 i51:=by kernel_rfl
 i53:=by kernel_rfl
 i171:=by kernel_rfl
 i173:=by kernel_rfl
 i212:=by kernel_rfl
 i232:=by kernel_rfl
 i233:=by kernel_rfl
 m17:=by kernel_rfl
 m18:=by kernel_rfl
 m19:=by kernel_rfl
def Ov : Ren :=
  { f := fun x => match x with
    | 173 => 126
    | 246 => 146
    | 283 => 158
    | 284 => 159
    | 285 => 160
    | 286 => 161
    | 129 => 169
    | 317 => 168
    | 318 => 170
    | 319 => 171
    | 320 => 172
    | 337 => 174
    | 338 => 175
    | n => n
    t := fun x => match x with
    | 3 => 3
    | 9 => 9
    | 2 => 2
    | 4 => 4
    | 171 => 206
    | 0 => 0
    | 53 => 182
    | 37 => 107
    | 5 => 5
    | 173 => 209
    | 212 => 218
    | 51 => 179
    | 20 => 20
    | 213 => 219
    | 46 => 42
    | 232 => 225
    | 233 => 226
    | n => n
    g := fun x => match x with
    | 17 => 3
    | 18 => 4
    | 19 => 5
    | n => n }
theorem ML:LaysM.n173 Tryz.prog Ov where
 mixed:=by kernel_rfl
 f129:=by kernel_rfl
 f173:=by kernel_rfl
 f246:=by kernel_rfl
 f283:=by kernel_rfl
 f284:=by kernel_rfl
 f285:=by kernel_rfl
 f286:=by kernel_rfl
 f317:=by kernel_rfl
 f318:=by kernel_rfl
 f319:=by kernel_rfl
 f320:=by kernel_rfl
 f337:=by kernel_rfl
 f338:=by kernel_rfl
 t0:=by kernel_rfl
 a0:=fun w=>Tryz.isAgg0 w
 z0:=fun w=>Tryz.sizeOf0 w
 v0:=fun w=>Tryz.zeroValue0 w
 t2:=by kernel_rfl
 a2:=fun w=>Tryz.isAgg2 w
 z2:=fun w=>Tryz.sizeOf2 w
 v2:=fun w=>Tryz.zeroValue2 w
 t3:=by kernel_rfl
 a3:=fun w=>Tryz.isAgg3 w
 z3:=fun w=>Tryz.sizeOf3 w
 v3:=fun w=>Tryz.zeroValue3 w
 t4:=by kernel_rfl
 a4:=fun w=>Tryz.isAgg4 w
 z4:=fun w=>Tryz.sizeOf4 w
 v4:=fun w=>Tryz.zeroValue4 w
 t5:=by kernel_rfl
 a5:=fun w=>Tryz.isAgg5 w
 z5:=fun w=>Tryz.sizeOf5 w
 v5:=fun w=>Tryz.zeroValue5 w
 t9:=by kernel_rfl
 a9:=fun w=>Tryz.isAgg9 w
 z9:=fun w=>Tryz.sizeOf9 w
 v9:=fun w=>Tryz.zeroValue9 w
 t20:=by kernel_rfl
 a20:=fun w=>Tryz.isAgg20 w
 z20:=fun w=>Tryz.sizeOf20 w
 v20:=fun w=>Tryz.zeroValue20 w
 t37:=by kernel_rfl
 a37:=fun w=>Tryz.isAgg107 w
 z37:=fun w=>Tryz.sizeOf107 w
 v37:=fun w=>Tryz.zeroValue107 w
 t46:=by kernel_rfl
 a46:=fun w=>Tryz.isAgg42 w
 z46:=fun w=>Tryz.sizeOf42 w
 v46:=fun w=>Tryz.zeroValue42 w
 t51:=by kernel_rfl
 a51:=fun w=>Tryz.isAgg179 w
 z51:=fun w=>Tryz.sizeOf179 w
 v51:=fun w=>Tryz.zeroValue179 w
 t53:=by kernel_rfl
 a53:=fun w=>Tryz.isAgg182 w
 z53:=fun w=>Tryz.sizeOf182 w
 v53:=fun w=>Tryz.zeroValue182 w
 t171:=by kernel_rfl
 a171:=fun w=>Tryz.isAgg206 w
 z171:=fun w=>Tryz.sizeOf206 w
 v171:=fun w=>Tryz.zeroValue206 w
 t173:=by kernel_rfl
 a173:=fun w=>Tryz.isAgg209 w
 z173:=fun w=>Tryz.sizeOf209 w
 v173:=fun w=>Tryz.zeroValue209 w
 t212:=by kernel_rfl
 a212:=fun w=>Tryz.isAgg218 w
 z212:=fun w=>Tryz.sizeOf218 w
 v212:=fun w=>Tryz.zeroValue218 w
 t213:=by kernel_rfl
 a213:=fun w=>Tryz.isAgg219 w
 z213:=fun w=>Tryz.sizeOf219 w
 t232:=by kernel_rfl
 a232:=fun w=>Tryz.isAgg225 w
 z232:=fun w=>Tryz.sizeOf225 w
 v232:=fun w=>Tryz.zeroValue225 w
 t233:=by kernel_rfl
 a233:=fun w=>Tryz.isAgg226 w
 z233:=fun w=>Tryz.sizeOf226 w
 v233:=fun w=>Tryz.zeroValue226 w
 g17:=by kernel_rfl
 g18:=by kernel_rfl
 g19:=by kernel_rfl
 i0:=by kernel_rfl
 i2:=by kernel_rfl
 i3:=by kernel_rfl
 i4:=by kernel_rfl
 i5:=by kernel_rfl
 i9:=by kernel_rfl
 i20:=by kernel_rfl
 i37:=by kernel_rfl
 i46:=by kernel_rfl
 i51:=by kernel_rfl
 i53:=by kernel_rfl
 i171:=by kernel_rfl
 i173:=by kernel_rfl
 i212:=by kernel_rfl
 i232:=by kernel_rfl
 i233:=by kernel_rfl
 m17:=by kernel_rfl
 m18:=by kernel_rfl
 m19:=by kernel_rfl
def G6 : Ren :=
  { f := fun x => match x with
    | 156 => 61
    | 165 => 90
    | 166 => 88
    | 169 => 64
    | 240 => 112
    | 241 => 116
    | 276 => 132
    | 277 => 136
    | n => n
    t := fun x => match x with
    | 31 => 112
    | 9 => 9
    | 3 => 3
    | 4 => 4
    | 0 => 0
    | 20 => 20
    | 72 => 109
    | 76 => 138
    | 70 => 106
    | 37 => 107
    | 75 => 137
    | 127 => 142
    | 164 => 177
    | 5 => 5
    | 80 => 102
    | n => n
    g := fun x => x }
theorem E6:Lays.n156 Tryz.prog G6 where
 mixed:=by kernel_rfl
 f156:=by kernel_rfl
 f165:=by kernel_rfl
 f166:=by kernel_rfl
 f169:=by kernel_rfl
 f240:=by kernel_rfl
 f241:=by kernel_rfl
 f276:=by kernel_rfl
 f277:=by kernel_rfl
 t0:=by kernel_rfl
 a0:=fun w=>Tryz.isAgg0 w
 z0:=fun w=>Tryz.sizeOf0 w
 v0:=fun w=>Tryz.zeroValue0 w
 t3:=by kernel_rfl
 a3:=fun w=>Tryz.isAgg3 w
 z3:=fun w=>Tryz.sizeOf3 w
 v3:=fun w=>Tryz.zeroValue3 w
 t4:=by kernel_rfl
 a4:=fun w=>Tryz.isAgg4 w
 z4:=fun w=>Tryz.sizeOf4 w
 v4:=fun w=>Tryz.zeroValue4 w
 t9:=by kernel_rfl
 a9:=fun w=>Tryz.isAgg9 w
 z9:=fun w=>Tryz.sizeOf9 w
 v9:=fun w=>Tryz.zeroValue9 w
 t20:=by kernel_rfl
 a20:=fun w=>Tryz.isAgg20 w
 z20:=fun w=>Tryz.sizeOf20 w
 v20:=fun w=>Tryz.zeroValue20 w
 t31:=by kernel_rfl
 a31:=fun w=>Tryz.isAgg112 w
 z31:=fun w=>Tryz.sizeOf112 w
 v31:=fun w=>Tryz.zeroValue112 w
 t37:=by kernel_rfl
 a37:=fun w=>Tryz.isAgg107 w
 z37:=fun w=>Tryz.sizeOf107 w
 v37:=fun w=>Tryz.zeroValue107 w
 t70:=by kernel_rfl
 a70:=fun w=>Tryz.isAgg106 w
 z70:=fun w=>Tryz.sizeOf106 w
 v70:=fun w=>Tryz.zeroValue106 w
 t72:=by kernel_rfl
 a72:=fun w=>Tryz.isAgg109 w
 z72:=fun w=>Tryz.sizeOf109 w
 v72:=fun w=>Tryz.zeroValue109 w
 t75:=by kernel_rfl
 a75:=fun w=>Tryz.isAgg137 w
 z75:=fun w=>Tryz.sizeOf137 w
 v75:=fun w=>Tryz.zeroValue137 w
 t76:=by kernel_rfl
 a76:=fun w=>Tryz.isAgg138 w
 z76:=fun w=>Tryz.sizeOf138 w
 v76:=fun w=>Tryz.zeroValue138 w
 t127:=by kernel_rfl
 a127:=fun w=>Tryz.isAgg142 w
 z127:=fun w=>Tryz.sizeOf142 w
 v127:=fun w=>Tryz.zeroValue142 w
 t164:=by kernel_rfl
 a164:=fun w=>Tryz.isAgg177 w
 z164:=fun w=>Tryz.sizeOf177 w
 v164:=fun w=>Tryz.zeroValue177 w
def JR : Ren :=
  { f := fun x => match x with
    | 105 => 89
    | 212 => 113
    | 99 => 114
    | 165 => 90
    | 166 => 88
    | 170 => 115
    | 169 => 64
    | 263 => 133
    | 264 => 134
    | 206 => 135
    | 240 => 112
    | 241 => 116
    | 276 => 132
    | 277 => 136
    | n => n
    t := fun x => match x with
    | 9 => 9
    | 3 => 3
    | 4 => 4
    | 20 => 20
    | 0 => 0
    | 46 => 42
    | 109 => 160
    | 5 => 5
    | 72 => 109
    | 76 => 138
    | 51 => 179
    | 146 => 180
    | 53 => 182
    | 148 => 183
    | 70 => 106
    | 37 => 107
    | 75 => 137
    | 127 => 142
    | 164 => 177
    | 80 => 102
    | n => n
    g := fun x => x }
theorem MG:Lays.n105 Tryz.prog JR where
 mixed:=by kernel_rfl
 f99:=by kernel_rfl
 f105:=by kernel_rfl
 f165:=by kernel_rfl
 f166:=by kernel_rfl
 f169:=by kernel_rfl
 f170:=by kernel_rfl
 f206:=by kernel_rfl
 f212:=by kernel_rfl
 f240:=by kernel_rfl
 f241:=by kernel_rfl
 f263:=by kernel_rfl
 f264:=by kernel_rfl
 f276:=by kernel_rfl
 f277:=by kernel_rfl
 t0:=by kernel_rfl
 a0:=fun w=>Tryz.isAgg0 w
 z0:=fun w=>Tryz.sizeOf0 w
 v0:=fun w=>Tryz.zeroValue0 w
 t3:=by kernel_rfl
 a3:=fun w=>Tryz.isAgg3 w
 z3:=fun w=>Tryz.sizeOf3 w
 v3:=fun w=>Tryz.zeroValue3 w
 t4:=by kernel_rfl
 a4:=fun w=>Tryz.isAgg4 w
 z4:=fun w=>Tryz.sizeOf4 w
 v4:=fun w=>Tryz.zeroValue4 w
 t5:=by kernel_rfl
 a5:=fun w=>Tryz.isAgg5 w
 z5:=fun w=>Tryz.sizeOf5 w
 v5:=fun w=>Tryz.zeroValue5 w
 t9:=by kernel_rfl
 a9:=fun w=>Tryz.isAgg9 w
 z9:=fun w=>Tryz.sizeOf9 w
 v9:=fun w=>Tryz.zeroValue9 w
 t20:=by kernel_rfl
 a20:=fun w=>Tryz.isAgg20 w
 z20:=fun w=>Tryz.sizeOf20 w
 v20:=fun w=>Tryz.zeroValue20 w
 t37:=by kernel_rfl
 a37:=fun w=>Tryz.isAgg107 w
 z37:=fun w=>Tryz.sizeOf107 w
 v37:=fun w=>Tryz.zeroValue107 w
 t46:=by kernel_rfl
 a46:=fun w=>Tryz.isAgg42 w
 z46:=fun w=>Tryz.sizeOf42 w
 v46:=fun w=>Tryz.zeroValue42 w
 t51:=by kernel_rfl
 a51:=fun w=>Tryz.isAgg179 w
 z51:=fun w=>Tryz.sizeOf179 w
 v51:=fun w=>Tryz.zeroValue179 w
 t53:=by kernel_rfl
 a53:=fun w=>Tryz.isAgg182 w
 z53:=fun w=>Tryz.sizeOf182 w
 v53:=fun w=>Tryz.zeroValue182 w
 t70:=by kernel_rfl
 a70:=fun w=>Tryz.isAgg106 w
 z70:=fun w=>Tryz.sizeOf106 w
 v70:=fun w=>Tryz.zeroValue106 w
 t72:=by kernel_rfl
 a72:=fun w=>Tryz.isAgg109 w
 z72:=fun w=>Tryz.sizeOf109 w
 v72:=fun w=>Tryz.zeroValue109 w
 t75:=by kernel_rfl
 a75:=fun w=>Tryz.isAgg137 w
 z75:=fun w=>Tryz.sizeOf137 w
 v75:=fun w=>Tryz.zeroValue137 w
 t76:=by kernel_rfl
 a76:=fun w=>Tryz.isAgg138 w
 z76:=fun w=>Tryz.sizeOf138 w
 v76:=fun w=>Tryz.zeroValue138 w
 t109:=by kernel_rfl
 a109:=fun w=>Tryz.isAgg160 w
 z109:=fun w=>Tryz.sizeOf160 w
 v109:=fun w=>Tryz.zeroValue160 w
 t127:=by kernel_rfl
 a127:=fun w=>Tryz.isAgg142 w
 z127:=fun w=>Tryz.sizeOf142 w
 v127:=fun w=>Tryz.zeroValue142 w
 t146:=by kernel_rfl
 a146:=fun w=>Tryz.isAgg180 w
 z146:=fun w=>Tryz.sizeOf180 w
 v146:=fun w=>Tryz.zeroValue180 w
 t148:=by kernel_rfl
 a148:=fun w=>Tryz.isAgg183 w
 z148:=fun w=>Tryz.sizeOf183 w
 v148:=fun w=>Tryz.zeroValue183 w
 t164:=by kernel_rfl
 a164:=fun w=>Tryz.isAgg177 w
 z164:=fun w=>Tryz.sizeOf177 w
 v164:=fun w=>Tryz.zeroValue177 w
end Go.Proofs.YtkeeboomikkojaaGreatDoor
