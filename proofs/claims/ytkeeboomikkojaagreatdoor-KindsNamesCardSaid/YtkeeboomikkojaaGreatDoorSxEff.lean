import Derived.Test.YtkeeboomikkojaaGreatDoorSxOpsS
namespace Go.Sx
def aa (P:Program)(ω:Amb)(f:FuncId)(args:List Value)(h:Hp)(R:RT)(X:XT):Prop :=
 ∀d,Calls P f args.toArray (W ω h d) fun e w'=>(∃d',w'=W ω w'.heap d')∧match e with
  |.returned v=>R v w'.heap
  |.panicked c=>X c w'.heap
  |.outgrown=>False
theorem aa.mono {P:Program}{ω:Amb}{f:FuncId}{args:List Value}{h:Hp}{R R':RT}{X X':XT}
  (hc:aa P ω f args h R X) (hr:∀v h',R v h'→R' v h') (hx:∀c h',X c h'→X' c h'):aa P ω f args h R' X' :=
 fun d=>(hc d).mono fun e w' ⟨a,b⟩=>⟨a,by cases e<;>first|exact hr _ _ b|exact hx _ _ b|exact b⟩
def spl (cur:Array Value)(off:Nat)(cs:List Value):Array Value:=(cur.toList.take off++(cs++cur.toList.drop (off+cs.length))).toArray
def av (h:Hp)(a:Addr)(cs:List Value)(K:Hp→Prop):Prop :=
 ∃cur t,h[a.block]?=some (.cells cur t (0,0))∧a.spot=none∧a.off+cs.length≤cur.size∧K (h.setIfInBounds a.block (.cells (spl cur a.off cs) t (0,0)))
def aJ (h:Hp)(a:Addr)(v:Value)(K:Hp→Prop):Prop :=
 ∃cur t,h[a.block]?=some (.cells cur t (0,0))∧a.spot=none∧a.off < cur.size∧K (h.setIfInBounds a.block (.cells (cur.setIfInBounds a.off v) t (0,0)))
def bX (h:Hp)(base:Nat)(e:TypeId)(size:Nat)(v:Value)(n:Nat)(xs:List Value):Prop :=
 xs.length=n*size ∧
 ((v=.slice none 0 0∧n=0) ∨
  ∃g o cap cur,v=.slice (some ⟨g,o,none⟩) n cap∧base≤g∧h[g]?=some (.cells cur e (0,0))∧n≤cap∧cap≤maxLen∧o+cap*size≤cur.size∧(cur.toList.drop o).take (n*size)=xs)
structure zV (h h':Hp)(row:Option Nat):Prop where
 size:h.size≤h'.size
 block:∀k,k < h.size→some k≠row→h'[k]?=h[k]?
def E4 (h:Hp)(x:Value)(m size:Nat)(news:List Value):Prop :=
 news.length=m*size∧((x=.slice none 0 0∧m=0)∨∃a c,x=.slice (some a) m c∧∀j u,news[j]?=some u→af h (a.add j)=some u)
def x2 (P:Program)(t:TypeId)(h:Hp)(s x:Value)(K:RT):Prop :=
 match P.underlying t with
 |some (.slice el)=>match P.info? el with
  |some i=>match i.zero with
   |some z=>cond (z.cells.size==i.size&&Nat.blt 0 i.size)
    (∃base n xs m news,bX h base el i.size s n xs∧E4 h x m i.size news∧(∀u∈news,one u)∧n+m≤maxLen∧(n+m)*i.bytes≤140737488355328∧base≤h.size ∧
     ∀v' h',bX h' base el i.size v' (n+m) (xs++news)→zV h h' s.ownBlock→(v'=.slice none 0 0↔s=.slice none 0 0∧m=0) →
      (∀k,v'.ownBlock=some k→s.ownBlock=some k∨h.size≤k)→K v' h') False
   |none=>False
  |none=>False
 |_=>False
def yu (P:Program)(f:FuncId):Bool :=
 match P.funcs[f]? with
 | some fn => fn.name != "runtime.NumGoroutine" && fn.body.isSome
 |none=>false
def F0 (P:Program)(ω:Amb)(fv:Value)(args:List Value)(h:Hp)(K:RT)(X:XT):Prop :=
 match fv with
 |.func (.func f) first captured=>cond (yu P f) (aa P ω f (first.toList++(args++captured.toList)) h K X) False
 |_=>False
def cD (z:List Value)(n:Nat):Array Value:=(Array.range (n*z.length)).map fun i=>z.toArray[i % z.length]!
def Mp (P:Program)(t:TypeId)(h:Hp)(l c:Value)(K:RT):Prop :=
 match P.underlying t with
 |some (.slice el)=>match P.info? el with
  |some i=>match i.zero with
   |some z=>cond (z.cells.size==i.size)
    (asI l fun n=>asI c fun m=>n=m∧0≤n∧n≤9223372036854775807∧(i.bytes:Int)*n≤281474976710656 ∧
     K (.slice (some ⟨h.size,0,none⟩) n.toNat n.toNat) (h.push (.cells (cD z.cells.toList n.toNat) el))) False
   |none=>False
  |none=>False
 |_=>False
def MO (P:Program)(dT:TypeId)(h:Hp)(dst src:Value)(K:RT):Prop :=
 match P.underlying dT with
 |some (.slice el)=>szK P el fun sz=>aI dst fun a dl _=>bR src fun b sl _ =>
  ∃cs:List Value,cs.length=Nat.min sl dl*sz∧(match b with|some b=>∀j u,cs[j]?=some u→af h (b.add j)=some u|none=>sl=0)∧(∀u∈cs,one u) ∧
   av h a cs fun h'=>K (.int .i64 (Nat.min sl dl:Nat)) h'
 |_=>False
def E0 (P : Program) (t : TypeId) (h : Hp) (x : Value) (K : RT) : Prop :=
  match P.underlying t with
  | some (.slice el) => match zeroOf P el with
    | some z => cond (z.all fun v => v.oneCell') (bR x fun a n _ => match a with
      | none => K (.tuple #[]) h
      | some a => av h a (cD z n).toList fun h' => K (.tuple #[]) h') False
    | none => False
  | _ => False
def yX (P:Program)(src t:TypeId)(h:Hp)(x:Value)(K:RT):Prop :=
 match P.underlying src,P.underlying t with
 |some _,some (.slice el)=>match P.underlying el with
  |some (.int .u8)=>asS x fun s=>∀(cap:Nat) (h':Hp),h.size≤h'.size→(∀k,k < h.size→h'[k]?=h[k]?)→(∀j,j < s.size→af h' ⟨h.size,j,none⟩=some (.int .u8 (s.data.toList.getD j 0).toNat)) →
   K (.slice (some ⟨h.size,0,none⟩) s.size cap) h'
  |_=>False
 |_,_=>False
def HG (v:Value)(F:TypeId→Value→Prop):Prop:=match v with
 |.iface t u=>F t u
 |_=>False
def MJ (h:Hp)(b:Nat)(s:ByteArray)(F:Array MapEntry→Nat→Option (Nat×Value)→Prop):Prop :=
 ∃es clock r,h[b]?=some (.map es clock)∧Instr.findNow .string (.string s) es.toList 0=some r∧F es clock r
def asM (v:Value)(F:Nat→Prop):Prop:=match v with
 |.map (some b)=>F b
 |_=>False
def iT (P:Program)(t:TypeId)(h:Hp)(x ix:Value)(ok:Bool)(K:RT):Prop :=
 match P.underlying t with
 |some (.map k el)=>match P.underlying k,P.info? el with
  |some .string,some i=>match i.zero with
   |some z=>asM x fun b=>asS ix fun s=>MJ h b s fun _ _ r=>K (if ok then .tuple #[(r.map (·.2)).getD z,.bool r.isSome] else (r.map (·.2)).getD z) h
   |none=>False
  |_,_=>False
 |_=>False
def putE (es:Array MapEntry)(clock:Nat)(s:ByteArray)(v:Value):Option (Nat×Value)→Obj
 |some (i,_)=>.map (es.modify i fun e=>{ e with key:=.string s,val:=v }) clock
 |none=>.map (es.push { key:=.string s,val:=v,born:=clock }) (clock+1)
def IC (P:Program)(t:TypeId)(h:Hp)(x ix v:Value)(K:Hp→Prop):Prop :=
 match P.underlying t with
 |some (.map k _)=>match P.underlying k with
  |some .string=>asM x fun b=>asS ix fun s=>MJ h b s fun es clock r=>K (h.setIfInBounds b (putE es clock s v r))
  |_=>False
 |_=>False
def opx (P:Program)(ω:Amb)(op:Op)(e:Operand→Value)(h:Hp)(K:RT)(X:XT):Prop :=
 cond (lH P op) (qx P op e h fun v _=>K v h) <|
 match op with
 |.store t x v=>match rY P t with
  |some none=>asP (e x) fun a=>cq (e v) (aJ h a (e v) fun h'=>K undef h')
  |some (some n)=>asP (e x) fun a=>asA (e v) fun cs=>cs.size=n∧(∀u∈cs.toList,one u)∧av h a cs.toList fun h'=>K undef h'
  |none=>False
 |.alloc t=>match zeroOf P t with
  |some z=>K (.pointer (some ⟨h.size,0,none⟩)) (h.push (.cells z.toArray t))
  |none=>False
 |.box t x=>K (.pointer (some ⟨h.size,0,none⟩)) (h.push (.cells (e x).cells t))
 |.buildSlice t len parts=>match P.underlying t with
  |some (.slice el)=>match zeroOf P el,rY P el with
   |some z,some ag=>cond (Nat.ble (len*ag.getD 1) 16777216&&z.length==ag.getD 1)
    (y6 (len*ag.getD 1) (cD z len).toList (parts.toList.map fun p=>(p.1*ag.getD 1,ag,e p.2)) fun cs=>K (.slice (some ⟨h.size,0,none⟩) len len) (h.push (.cells cs.toArray el))) False
   |_,_=>False
  |_=>False
 |.makeSlice t l c=>Mp P t h (e l) (e c) K
 |.convert s d x=>yX P s d h (e x) K
 |.panic x=>match e x with
  |.iface t v=>X [{ v:=.iface t v,recovered:=false }] h
  |_=>False
 |.typeAssert x _ T true=>match P.underlying T with
  |some (.interface _)=>False
  |some _=>HG (e x) fun t u=>cond (Nat.beq t T) (K (.tuple #[u,.bool true]) h) False
  |none=>False
 |.call c=>match c.callee with
  |.value f=>F0 P ω (e f) (c.args.toList.map e) h K X
  |.builtin .append=>match c.argTypes.toList,c.args.toList with
   |[t,t'],[s,x]=>cond (t==t') (x2 P t h (e s) (e x) K) False
   |_,_=>False
  |.builtin .copy=>match c.argTypes.toList,c.args.toList with
   |[t,_],[s,x]=>MO P t h (e s) (e x) K
   |_,_=>False
  |.builtin .clear=>match c.argTypes.toList,c.args.toList with
   |[t],[s]=>E0 P t h (e s) K
   |_,_=>False
  |_=>False
 |.lookup t x i ok=>iT P t h (e x) (e i) ok K
 |.mapUpdate t m k x=>IC P t h (e m) (e k) (e x) fun h'=>K undef h'
 |.makeMap _ none=>K (.map (some h.size)) (h.push (.map #[] 0))
 |_=>False
end Go.Sx
