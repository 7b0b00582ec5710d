import Derived.WalkKit
import GoSem.Dispatch
namespace Go.Sx
abbrev Hp:=Array Obj
abbrev Q0:=@List.take_append_of_le_length
abbrev Q1:=@List.drop_append_of_le_length
abbrev Q2:=@List.getElem?_append_right
abbrev Q3:=@Decidable.byContradiction
abbrev Q4:=@List.drop_eq_getElem_cons
abbrev Q5:=@List.getElem?_append_left
abbrev Q6:=@List.getElem?_eq_some_iff
abbrev Q7:=@List.getElem?_eq_getElem
abbrev Q8:=@List.take_append_drop
abbrev Q9:=@List.mem_cons_of_mem
abbrev Qa:=@beq_eq_false_iff_ne
abbrev Qb:=@List.flatMap_append
abbrev Qc:=@of_decide_eq_false
abbrev Qd:=@List.length_append
abbrev Qe:=@Bool.false_ne_true
abbrev Qf:=@List.mem_singleton
abbrev Qg:=@List.mem_cons_self
abbrev Qh:=@List.getElem?_take
abbrev Qi:=@List.getElem?_drop
abbrev Qj:=@of_decide_eq_true
abbrev Qk:=@List.append_assoc
abbrev Ql:=@List.flatMap_cons
abbrev Qm:=@Int.toNat_natCast
abbrev Qn:=@List.length_cons
abbrev Qo:=@List.take_length
abbrev Qp:=@List.length_take
abbrev Qq:=@Bool.and_eq_true
abbrev Qs:=@List.length_drop
abbrev Qt:=@List.drop_length
abbrev Qu:=@List.cons_append
abbrev Qv:=@List.getElem_mem
abbrev Qw:=@Nat.lt_succ_self
abbrev Qy:=@List.length_nil
abbrev Qz:=@Bool.eq_iff_iff
abbrev Z0:=@decide_eq_false
abbrev Z1:=@List.append_nil
abbrev Z2:=@Option.some.inj
abbrev Z3:=@List.mem_append
abbrev Z4:=@List.nil_append
abbrev Z5:=@List.length_set
abbrev Z6:=@List.length_map
abbrev Z7:=@decide_eq_true
abbrev Z8:=@List.drop_drop
abbrev Z9:=@not_not_intro
abbrev Za:=@Bool.false_or
abbrev Zb:=@Bool.true_and
abbrev Zc:=@Nat.zero_add
abbrev Zd:=@Nat.le_refl
abbrev Ze:=@bne_iff_ne
abbrev Zg:=@eq_of_beq
abbrev XT:=List PanicEntry→Hp→Prop
abbrev RT:=Value→Hp→Prop
structure Amb where
 tape:Nat→Question→Nat
 os:Os
 output:Array (Nat×ByteArray)
 low:Nat:=0
def W (ω:Amb)(h:Hp)(d:Nat):World:={ heap:=h,tape:=ω.tape,drawn:=ω.low+d,os:=ω.os,output:=ω.output }
def af (h:Hp)(a:Addr):Option Value :=
 match h[a.block]? with
 |some (.cells c _ _)=>if a.spot.isSome then none else c[a.off]?
 |_=>none
theorem Hl (ω:Amb)(h:Hp)(d:Nat)(a:Addr):(W ω h d).cell? a=af h a:=rfl
def asB (v:Value)(F:Bool→Prop):Prop:=match v with|.bool b=>F b|_=>False
def KJ:IntKind→IntKind→Bool
 |.i8,.i8|.i16,.i16|.i32,.i32|.i64,.i64|.u8,.u8|.u16,.u16|.u32,.u32|.u64,.u64=>true
 |_,_=>false
def asK (k:IntKind)(v:Value)(F:Int→Prop):Prop:=match v with|.int k' n=>cond (KJ k' k) (F n) False|_=>False
def asI (v:Value)(F:Int→Prop):Prop:=match v with|.int _ n=>F n|_=>False
def asP (v:Value)(F:Addr→Prop):Prop:=match v with|.pointer (some a)=>F a|_=>False
def MY (v:Value)(F:Option Addr→Prop):Prop:=match v with|.pointer a=>F a|_=>False
def asS (v:Value)(F:ByteArray→Prop):Prop:=match v with|.string s=>F s|_=>False
def bR (v:Value)(F:Option Addr→Nat→Nat→Prop):Prop:=match v with|.slice a l c=>F a l c|_=>False
def aI (v:Value)(F:Addr→Nat→Nat→Prop):Prop:=match v with|.slice (some a) l c=>F a l c|_=>False
def asA (v:Value)(F:Array Value→Prop):Prop:=match v with|.agg cs=>F cs|_=>False
def asT (v:Value)(F:Array Value→Prop):Prop:=match v with|.tuple vs=>F vs|_=>False
def asO (v:Option Value)(F:Value→Prop):Prop:=match v with|some x=>F x|none=>False
def one (v:Value):Prop:=v.oneCell'=true
def cq (v:Value)(F:Prop):Prop:=match v with|.agg _|.tuple _=>False|_=>F
def nnK (v:Value)(F:Prop):Prop:=match v with
 |.pointer none|.nilIface|.nilFunc=>False
 |.func (.method _) _ _=>False
 |_=>F
def aj (h:Hp)(a:Addr)(n:Nat)(cs:List Value):Prop:=cs.length=n∧∀j v,cs[j]?=some v→af h (a.add j)=some v
def aU (s:ByteArray)(n:Int):Int:=((s.data.toList.getD n.toNat 0).toNat:Int)
def xV (P:Program)(s:TypeId)(f:Nat):Option Nat :=
 match P.underlying s with
 |some (.struct fs)=>match fs[f]? with
  |some fl=>match P.info? fl.type with
   |some i=>cond (i.size==0) none (some fl.offset)
   |none=>none
  |none=>none
 |_=>none
def rY (P:Program)(t:TypeId):Option (Option Nat) :=
 match P.underlying t with
 |some (.struct _)|some (.array _ _)=>match P.info? t with
  |some i=>some (some i.size)
  |none=>none
 |some _=>match P.info? t with
  |some i=>cond (i.size==1) (some none) none
  |none=>none
 |none=>none
def rR (P:Program)(s:TypeId)(f:Nat):Option (Nat×Option Nat) :=
 match P.underlying s with
 |some (.struct fs)=>match fs[f]? with
  |some fl=>match rY P fl.type with
   |some a=>some (fl.offset,a)
   |none=>none
  |none=>none
 |_=>none
def szK (P:Program)(t:TypeId)(F:Nat→Prop):Prop:=match P.info? t with|some i=>F i.size|none=>False
def L3 (off:Nat)(a:Option Nat)(cs:Array Value)(K:Value→Prop):Prop :=
 match a with
 |some n=>K (.agg (cs.extract off (off+n)))
 |none=>asO cs[off]? K
def y6 (L:Nat):List Value→List (Nat×Option Nat×Value)→(List Value→Prop)→Prop
 |z,[],K=>K z
 |z,(off,none,v)::r,K=>cond (Nat.blt off L) (cq v (y6 L (z.set off v) r K)) False
 |z,(off,some n,v)::r,K=>cond (Nat.ble (off+n) L) (asA v fun cs=>cs.size=n∧y6 L (z.take off++(cs.toList++z.drop (off+n))) r K) False
def partsOf (P:Program)(t:TypeId)(e:Operand→Value)(parts:List (Nat×Operand)):Option (List (Nat×Option Nat×Value)) :=
 match P.underlying t with
 |some (.struct fs)=>match fs.toList.mapM (fun f=>(P.info? f.type).map fun i=>(f.offset,i.size)) with
  |some _=>parts.mapM fun p=>(rR P t p.1).map fun q=>(q.1,q.2,e p.2)
  |none=>none
 |some (.array _ el)=>match rY P el with
  |some ag=>some (parts.map fun p=>(p.1*P.cellsOf el,ag,e p.2))
  |none=>none
 |_=>none
def zeroOf (P:Program)(t:TypeId):Option (List Value) :=
 match P.info? t with
 |some i=>match i.zero with
  |some z=>some z.cells.toList
  |none=>none
 |none=>none
def bitI (k:IntKind)(op:BinOp)(a b:Int):Int :=
 match op with
 |.and=>k.wrap (BitVec.toNat (BitVec.ofInt k.bits a &&&BitVec.ofInt k.bits b))
 |.or=>k.wrap (BitVec.toNat (BitVec.ofInt k.bits a |||BitVec.ofInt k.bits b))
 |.xor=>k.wrap (BitVec.toNat (BitVec.ofInt k.bits a ^^^ BitVec.ofInt k.bits b))
 |.andNot=>k.wrap (BitVec.toNat (BitVec.ofInt k.bits a &&&~~~ BitVec.ofInt k.bits b))
 |_=>0
def shI (k:IntKind)(op:BinOp)(a b:Int):Int :=
 match op with
 |.shl=>k.wrap (a*2 ^ (min b.toNat k.bits))
 |_=>a.fdiv (2 ^ (min b.toNat k.bits))
def Gp (op:BinOp):Bool:=match op with|.shl|.shr=>true|_=>false
def Pv (k:IntKind)(op:BinOp)(a b:Int)(K:Value→Prop):Prop :=
 match op with
 |.and|.or|.xor|.andNot=>K (.int k (bitI k op a b))
 |.add=>K (.int k (k.wrap (a+b)))
 |.sub=>K (.int k (k.wrap (a - b)))
 |.mul=>K (.int k (k.wrap (a*b)))
 |.quo=>b≠0∧K (.int k (k.wrap (a.tdiv b)))
 |.rem=>b≠0∧K (.int k (a.tmod b))
 |.eql=>K (.bool (a==b))
 |.neq=>K (.bool (a !=b))
 |.lss=>K (.bool (decide (a < b)))
 |.leq=>K (.bool (decide (a≤b)))
 |.gtr=>K (.bool (decide (a > b)))
 |.geq=>K (.bool (decide (a≥b)))
 |_=>False
def PI (op:BinOp)(a b:ByteArray)(K:Value→Prop):Prop :=
 match op with
 |.add=>a.size+b.size≤9223372036854775807∧K (.string (a++b))
 |.eql=>K (.bool (a.toList==b.toList))
 |.neq=>K (.bool (!(a.toList==b.toList)))
 |_=>False
def N3 (P:Program)(t:TypeId):Bool :=
 match P.underlying t with
 |some (.int _)|some .bool|some .string=>true
 |_=>false
def L9 (P:Program):List Field→Array Value→Array Value→(Bool→Prop)→Prop
 |[],_,_,F=>F true
 |f::fs,xs,ys,F =>
  match P.underlying f.type with
  |some (.int k)=>asO xs[f.offset]? fun a=>asO ys[f.offset]? fun b=>asK k a fun m=>asK k b fun n=>L9 P fs xs ys fun r=>F ((m==n)&&r)
  |some .bool=>asO xs[f.offset]? fun a=>asO ys[f.offset]? fun b=>asB a fun m=>asB b fun n=>L9 P fs xs ys fun r=>F ((m==n)&&r)
  |some .string=>asO xs[f.offset]? fun a=>asO ys[f.offset]? fun b=>asS a fun m=>asS b fun n=>L9 P fs xs ys fun r=>F ((m.toList==n.toList)&&r)
  |_=>False
def OZ (k:IntKind):List Nat→Array Value→Array Value→(Bool→Prop)→Prop
 |[],_,_,F=>F true
 |i::is,xs,ys,F=>asO xs[i]? fun a=>asO ys[i]? fun b=>asK k a fun m=>asK k b fun n=>OZ k is xs ys fun r=>F ((m==n)&&r)
def Pb (P:Program)(n:Nat)(e t:TypeId)(x y:Value)(F:Bool→Prop):Prop :=
 match P.underlying e,P.info? e,P.eqGuardType P.depth t with
 |some (.int k),some _,false=>cond (P.cellsOf e==1) (asA x fun xs=>asA y fun ys=>OZ k (List.range n) xs ys F) False
 |_,_,_=>False
def Pq (P:Program)(op:BinOp)(t:TypeId)(x y:Value)(K:Value→Prop):Prop :=
 match P.underlying t with
 |some (.int k)=>cond (Gp op) (asK k x fun a=>asI y fun b=>0≤b∧K (.int k (shI k op a b))) (asK k x fun a=>asK k y fun b=>Pv k op a b K)
 |some .string=>asS x fun a=>asS y fun b=>PI op a b K
 |some .bool=>match op with
  |.eql=>asB x fun a=>asB y fun b=>K (.bool (a==b))
  |.neq=>asB x fun a=>asB y fun b=>K (.bool (!(a==b)))
  |_=>False
 |some (.pointer _)=>match op,y with
  |.eql,.pointer none=>MY x fun a=>K (.bool a.isNone)
  |.neq,.pointer none=>MY x fun a=>K (.bool (!a.isNone))
  |_,_=>False
 |some (.slice _)=>match op,y with
  |.eql,.slice none _ _=>bR x fun a _ _=>K (.bool a.isNone)
  |.neq,.slice none _ _=>bR x fun a _ _=>K (.bool (!a.isNone))
  |_,_=>False
 | some (.struct fs) => match P.stoodInHeld t, P.eqGuardType P.depth t, fs.toList.all (fun f => f.name != "_") with
  |false,false,true=>match op with
   |.eql=>asA x fun xs=>asA y fun ys=>L9 P fs.toList xs ys fun r=>K (.bool r)
   |.neq=>asA x fun xs=>asA y fun ys=>L9 P fs.toList xs ys fun r=>K (.bool (!r))
   |_=>False
  |_,_,_=>False
 |some (.array n e)=>match op with
  |.eql=>Pb P n e t x y fun r=>K (.bool r)
  |.neq=>Pb P n e t x y fun r=>K (.bool (!r))
  |_=>False
 |_=>False
def L0 (v:Value)(F:Bool→Prop):Prop:=match v with|.nilIface=>F true|.iface _ _=>F false|_=>False
def wY (y:Operand)(v:Value):Bool:=match y,v with|.const _,.nilIface=>true|_,_=>false
def EQ (P:Program)(op:BinOp)(t:TypeId)(x:Value)(K:Value→Prop):Prop :=
 match P.underlying t with
 |some (.interface _)=>match op with
  |.eql=>L0 x fun b=>K (.bool b)
  |.neq=>L0 x fun b=>K (.bool (!b))
  |_=>False
 |_=>False
def unK (op:UnOp)(x:Value)(K:Value→Prop):Prop :=
 match op with
 |.not=>asB x fun b=>K (.bool (!b))
 |.neg=>match x with|.int k n=>K (.int k (k.wrap (0 - n)))|_=>False
 |.xor=>match x with|.int k n=>K (.int k (bitI k .xor (if k.signed then -1 else k.max) n))|_=>False
 |_=>False
def Lp (P:Program)(src dst:TypeId)(x:Value)(K:Value→Prop):Prop :=
 match P.underlying src,P.underlying dst with
 |some (.int _),some (.int k)=>asI x fun n=>K (.int k (k.wrap n))
 |some .string,some .string=>asS x fun s=>K (.string s)
 |some (.int _),some .string=>asI x fun n=>K (.string (Utf8.encode n))
 |_,_=>False
def y5 (e:Operand→Value)(o:Option Operand)(d:Nat)(F:Int→Prop):Prop :=
 match o with
 |some x=>asI (e x) F
 |none=>F d
def GB (P:Program)(t:TypeId)(x:Value)(e:Operand→Value)(lo hi mx:Option Operand)(K:Value→Prop):Prop :=
 match P.underlying t,mx with
 |some .string,none=>asS x fun s=>y5 e lo 0 fun l=>y5 e hi s.size fun h=>0≤l∧l≤h∧h≤s.size∧K (.string (s.extract l.toNat h.toNat))
 |some (.slice el),none=>bR x fun a len cap=>y5 e lo 0 fun l=>y5 e hi len fun h=>0≤l∧l≤h∧h≤cap ∧
  szK P el fun sz=>K (.slice (if cap=l.toNat then a else a.map (·.add (l.toNat*sz))) (h.toNat - l.toNat) (cap - l.toNat))
 |_,_=>False
def ul (P:Program)(b:Builtin)(ts:Array TypeId)(args:List Value)(K:Value→Prop):Prop :=
 match b,ts[0]?,args with
 |.len,some t,[x]=>match P.underlying t with
  |some .string=>asS x fun s=>K (.int .i64 s.size)
  |some (.slice _)=>bR x fun _ n _=>K (.int .i64 n)
  |_=>False
 |.max,some t,[x,y]=>match P.underlying t with
  |some (.int k)=>asK k x fun a=>asK k y fun b=>K (.int k (if b > a then b else a))
  |_=>False
 |_,_,_=>False
def qx (P:Program)(op:Op)(e:Operand→Value)(h:Hp)(K:Value→(Hp→Prop)→Prop):Prop :=
 let K':=fun v=>K v fun _=>True
 match op with
 |.move x|.assign x=>K' (e x)
 |.pick c a b=>asB (e c) fun t=>K' (cond t (e a) (e b))
 |.nilCheck x=>nnK (e x) (K' (e x))
 |.fieldAddr s x f=>match xV P s f with
  |some off=>asP (e x) fun a=>K' (.pointer (some (a.add off)))
  |none=>False
 |.field s x f=>match rR P s f with
  |some (off,ag)=>asA (e x) fun cs=>L3 off ag cs K'
  |none=>False
 |.extract x i=>asT (e x) fun vs=>asO vs[i]? K'
 |.load t x=>match rY P t with
  |some none=>asP (e x) fun a=>∃v,af h a=some v∧K v fun h'=>af h' a=some v
  |some (some n)=>asP (e x) fun a=>∃cs,aj h a n cs∧K (.agg cs.toArray) fun h'=>aj h' a n cs
  |none=>False
 |.indexAddr t x i=>match P.underlying t with
  |some (.slice el)=>aI (e x) fun a len _=>asI (e i) fun n=>0≤n∧n < len∧szK P el fun sz=>K' (.pointer (some (a.add (n.toNat*sz))))
  |some (.array len el)=>asP (e x) fun a=>asI (e i) fun n=>0≤n∧n < len∧szK P el fun sz=>K' (.pointer (some (a.add (n.toNat*sz))))
  |_=>False
 |.index t x i=>match P.underlying t with
  |some .string=>asS (e x) fun s=>asI (e i) fun n=>0≤n∧n < s.size∧K' (.int .u8 (aU s n))
  |some (.array len el)=>asA (e x) fun cs=>asI (e i) fun n=>0≤n∧n < len∧szK P el fun sz=>match rY P el with
   |some ag=>L3 (n.toNat*sz) ag cs K'
   |none=>False
  |_=>False
 |.binOp op t x y _=>cond (wY y (e y)) (EQ P op t (e x) K') (Pq P op t (e x) (e y) K')
 |.unOp op _ x=>unK op (e x) K'
 |.convert s d x=>Lp P s d (e x) K'
 |.slice t x lo hi mx=>GB P t (e x) e lo hi mx K'
 |.build t parts=>match zeroOf P t,partsOf P t e parts.toList with
  |some z,some ps=>y6 z.length z ps fun cs=>K' (.agg cs.toArray)
  |_,_=>False
 |.makeFunc fn first captured=>K' (.func fn (first.map e) (captured.map e))
 |.makeInterface t x=>match P.underlying t with
  |some (.interface _)=>False
  |some _=>K' (.iface t (e x))
  |none=>False
 |.call c=>match c.callee with
  |.builtin b=>ul P b c.argTypes (c.args.toList.map e) K'
  |_=>False
 |_=>False
def lH (P:Program):Op→Bool
 |.move _|.assign _|.pick ..|.nilCheck _|.fieldAddr ..|.field ..|.extract ..|.load ..|.indexAddr ..|.index ..|.binOp ..|.unOp ..
 |.slice ..|.build ..|.makeFunc ..|.makeInterface ..=>true
 |.convert _ d _=>match P.underlying d with
  |some (.slice _)=>false
  |_=>true
 |.call { callee:=.builtin .len,.. }|.call { callee:=.builtin .max,.. }=>true
 |_=>false
def wJ:Op→Bool
 |.load ..=>true
 |_=>false
end Go.Sx
