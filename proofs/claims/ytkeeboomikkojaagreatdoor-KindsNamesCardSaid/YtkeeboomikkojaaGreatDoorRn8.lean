import Derived.Test.YtkeeboomikkojaaGreatDoorRn4
import Derived.Test.YtkeeboomikkojaaGreatDoorRn6
import Derived.Test.YtkeeboomikkojaaGreatDoorRn7
namespace Go.Proofs.YtkeeboomikkojaaGreatDoor
open Go Go.Sx Go.Sx.Tk Go.Sx.Rn Go.Proofs.YtkeeboomikkojaaGreatDoor.Sx
theorem fY {u:Nat}(h:u < 10):Lib.decDigits u=[UInt8.ofNat (48+u)]:=Lib.decDigits_one h
theorem rL {u:Nat}(h:¬u < 10):Lib.decDigits u=Lib.decDigits (u / 10)++[UInt8.ofNat (48+u % 10)]:=by
 rw [Lib.decDigits,dif_neg h]
theorem xh {k:Nat}(h:k < 10):(UInt8.ofNat (48+k)).toNat=48+k:=by
 simp;omega
theorem K0 {k:Nat}(h:k < 10):Tk.dg (UInt8.ofNat (48+k))=true:=by
 unfold Tk.dg;rw [xh h];simp;omega
theorem BU:∀(u:Nat),(Lib.decDigits u).all Tk.dg=true:=by
 intro u
 induction u using Nat.strongRecOn with
 |ind u ih =>
  by_cases h:u < 10
  ·rw [fY h,List.all_cons,List.all_nil,K0 h];rfl
  ·rw [rL h,List.all_append,ih (u / 10) (by omega)]
   rw [List.all_cons,List.all_nil,K0 (show u % 10 < 10 by omega)]
   rfl
theorem GN (u:Nat):Lib.decDigits u≠[]:=by
 by_cases h:u < 10
 ·rw [fY h];simp
 ·rw [rL h];simp
theorem Jt:∀(u:Nat),uW (Lib.decDigits u)=u:=by
 intro u
 induction u using Nat.strongRecOn with
 |ind u ih =>
  by_cases h:u < 10
  ·rw [fY h];have:=xh h;unfold uW;simp only [List.foldl_cons,List.foldl_nil];omega
  ·rw [rL h,ua,ih (u / 10) (by omega),xh (show u % 10 < 10 by omega)]
   omega
theorem Je:∀(k u:Nat),u < 10 ^ (k+1)→(Lib.decDigits u).length≤k+1:=by
 intro k
 induction k with
 |zero =>
  intro u h;rw [fY (by omega)]
  simp
 |succ k ih =>
  intro u h
  by_cases h1:u < 10
  ·rw [fY h1];simp
  ·rw [rL h1,Qd];have:=ih (u / 10) (by rw [Nat.pow_succ] at h;omega)
   simp;omega
theorem Gu:∀(u:Nat),0 < u→((Lib.decDigits u).getD 0 0).toNat≠48:=by
 intro u
 induction u using Nat.strongRecOn with
 |ind u ih =>
  intro h0
  by_cases h:u < 10
  ·rw [fY h];have:=xh h;simp only [List.getD_cons_zero];omega
  ·rw [rL h];have h1:=ih (u / 10) (by omega) (by omega)
   have h2:=GN (u / 10);cases hd:Lib.decDigits (u / 10) with
   |nil=>exact absurd hd h2
   |cons c r =>
    rw [hd] at h1;simpa using h1
theorem Ii {u:Nat}(h:u < 1000000000000000000):DI (Lib.decDigits u)=some (u:Int):=by
 unfold DI;rw [if_neg,Jt];rintro (h1|⟨h1,h2⟩|h1)
 ·have:=Je 17 u (by omega)
  omega
 ·by_cases h0:0 < u
  ·exact Gu u h0 h2
  ·obtain rfl:u=0:=by omega
   rw [fY (by decide)] at h1
   simp at h1
 ·rw [BU] at h1;cases h1
theorem x9 {n:Int}(h:0≤n):Lib.itoa n=Lib.decDigits n.toNat:=by
 unfold Lib.itoa;rw [if_neg (by omega)]
theorem Fw {n:Int}(h:0≤n)(h1:n < 1000000000000000000):DI (Lib.itoa n)=some n:=by
 rw [x9 h,Ii (by omega),Int.toNat_of_nonneg h]
theorem Dd {n:Int}(h:0≤n):(Lib.itoa n).all Tk.dg=true:=by
 rw [x9 h];exact BU _
theorem Mx {n:Int}(h:0≤n):Lib.itoa n≠[]:=by
 rw [x9 h];exact GN _
def isT (s:List UInt8):List Tok→Bool
 |[]=>false
 |t::_=>t.kind !=2&&bytesOf t.text==s
def pt (e code:Int):List Tok→Int×Int
 |[]=>(if code=5 then 6 else code,e)
 |t::_=>(code,t.at_)
def aD {α β:Type}(r:Except (Int×Int) α)(f:α→Except (Int×Int) β):Except (Int×Int) β:=match r with
 |.error x=>.error x
 |.ok a=>f a
theorem ay {α β:Type}(a:α)(f:α→Except (Int×Int) β):aD (.ok a) f=f a:=rfl
def bz (op:Int)(a b:Ex):Ex:=.mk op ⟨#[]⟩ 0 [a,b]
def nH (a:Ex):Ex:=.mk 3 ⟨#[]⟩ 0 [a]
def my (n:Int):Ex:=.mk 1 ⟨#[]⟩ n []
def eU (s:ByteArray):Ex:=.mk 2 s 0 []
abbrev PR (α:Type):=Except (Int×Int) (α×Nat×List Tok)
mutual
def qv (e:Int):Nat→Nat→Nat→List Tok→PR Ex
 |0,_,_,_=>.error (5,0)
 |f+1,o,n,l=>aD (pu e f o n l) fun r =>
  if isT [60] r.2.2 then aD (pu e f o r.2.1 r.2.2.tail) fun q=>.ok (bz 7 r.1 q.1,q.2.1+1,q.2.2)
  else if isT [61,61] r.2.2 then aD (pu e f o r.2.1 r.2.2.tail) fun q=>.ok (bz 8 r.1 q.1,q.2.1+1,q.2.2)
  else .ok r
def pu (e:Int):Nat→Nat→Nat→List Tok→PR Ex
 |0,_,_,_=>.error (5,0)
 |f+1,o,n,l=>aD (eZ e f o n l) fun r=>qE e f o r.1 r.2.1 r.2.2
def qE (e:Int):Nat→Nat→Ex→Nat→List Tok→PR Ex
 |0,_,_,_,_=>.error (5,0)
 |f+1,o,x,n,l =>
  if isT [43] l then aD (eZ e f o n l.tail) fun q=>qE e f o (bz 4 x q.1) (q.2.1+1) q.2.2
  else if isT [45] l then aD (eZ e f o n l.tail) fun q=>qE e f o (bz 5 x q.1) (q.2.1+1) q.2.2
  else .ok (x,n,l)
def eZ (e:Int):Nat→Nat→Nat→List Tok→PR Ex
 |0,_,_,_=>.error (5,0)
 |f+1,o,n,l=>aD (cf e f o n l) fun r=>fc e f o r.1 r.2.1 r.2.2
def fc (e:Int):Nat→Nat→Ex→Nat→List Tok→PR Ex
 |0,_,_,_,_=>.error (5,0)
 |f+1,o,x,n,l =>
  if isT [42] l then aD (cf e f o n l.tail) fun q=>fc e f o (bz 6 x q.1) (q.2.1+1) q.2.2
  else .ok (x,n,l)
def cf (e:Int):Nat→Nat→Nat→List Tok→PR Ex
 |0,_,_,_=>.error (5,0)
 |f+1,o,n,l =>
  if isT [40] l then
   (if o=60 then .error (pt e 7 l) else aD (qv e f (o+1) n l.tail) fun r=>if isT [41] r.2.2 then .ok (r.1,r.2.1,r.2.2.tail) else .error (pt e 5 r.2.2))
  else if isT [45] l then
   (if o=60 then .error (pt e 7 l) else aD (cf e f (o+1) (n+1) l.tail) fun r=>.ok (nH r.1,r.2.1,r.2.2))
  else match l with
   |[]=>.error (6,e)
   |t::r=>if t.kind=3 then .ok (my t.n,n+1,r) else if t.kind=2 then .ok (eU t.text,n+1,r) else .error (5,t.at_)
end
def gQ (e:Int)(l:List Tok):Except (Int×Int) (Ex×List Tok):=match l with
 |[]=>.error (6,e)
 |t::r=>aD (qv e (4*(t::r).length+4) 0 0 (t::r)) fun q=>if 20 < q.2.1 then .error (8,t.at_) else .ok (q.1,q.2.2)
def ee (e:Int):List Tok→Except (Int×Int) (ByteArray×List Tok)
 |[]=>.error (6,e)
 |t::r=>if t.kind=2 then .ok (t.text,r) else .error (5,t.at_)
def Ey (e:Int):List Tok→Except (Int×Int) (Int×List Tok)
 |[]=>.error (6,e)
 |t::r=>if t.kind=3 then .ok (t.n,r) else .error (5,t.at_)
def bl (e:Int)(s:List UInt8)(l:List Tok):Except (Int×Int) (List Tok):=if isT s l then .ok l.tail else .error (pt e 5 l)
def qD (e:Int)(acc:List UInt8):List Tok→Except (Int×Int) (List UInt8×List Tok)
 |[]=>.error (6,e)
 |t::r =>
  if isT [105,110,116] (t::r) then .ok (acc++[105],r)
  else if isT [115,101,110,100] (t::r)||isT [114,101,99,118] (t::r) then (if acc.length=3 then .error (7,t.at_) else qD e (acc++(bytesOf t.text).take 1) r)
  else .error (5,t.at_)
def dJ (e:Int):Nat→List Ex→List Tok→Except (Int×Int) (List Ex×List Tok)
 |0,_,_=>.error (5,0)
 |f+1,acc,l =>
  if isT [41] l then .ok (acc,l.tail)
  else aD (if acc.length=0 then .ok l else bl e [44] l) fun l=>if acc.length=6 then .error (pt e 8 l) else aD (gQ e l) fun q=>dJ e f (acc++[q.1]) q.2
def fb (e:Int):Nat→List (ByteArray×ByteArray)→List Tok→Except (Int×Int) (List (ByteArray×ByteArray)×List Tok)
 |0,_,_=>.error (5,0)
 |f+1,acc,l =>
  if isT [41] l then .ok (acc,l.tail)
  else aD (if acc.length=0 then .ok l else bl e [44] l) fun l=>if acc.length=6 then .error (pt e 8 l) else
   aD (ee e l) fun q=>aD (qD e [] q.2) fun u=>fb e f (acc++[(q.1,bs u.1)]) u.2
def j2:List (List UInt8):=[[108,101,116],[115,101,116],[101,109,105,116],[99,104,97,110],[99,108,111,110,101],[115,101,110,100],[99,108,111,115,101],[97,98,97,110,100,111,110],[100,114,97,105,110],[115,112,97,119,110],[116,97,107,101],[102,111,114],[114,101,112,101,97,116],[105,102]]
def doW (s:List UInt8):Nat:=if s∈j2 then j2.findIdx (fun w=>w==s)+1 else 0
structure Sh where
 a:ByteArray:=⟨#[]⟩
 b:ByteArray:=⟨#[]⟩
 t:ByteArray:=⟨#[]⟩
 n:Int:=0
 e:List Ex:=[]
def cg (e:Int)(d:Nat)(l:List Tok):Except (Int×Int) (Sh×List Tok) :=
 if d=3 then aD (gQ e l) fun q=>.ok ({ e:=[q.1] },q.2)
 else aD (ee e l) fun a =>
  if d=1∨d=2 then aD (bl e [61] a.2) fun l=>aD (gQ e l) fun q=>.ok ({ a:=a.1,e:=[q.1] },q.2)
  else if d=4 then aD (ee e a.2) fun b=>aD (qD e [] b.2) fun t=>aD (Ey e t.2) fun n=>.ok ({ a:=a.1,b:=b.1,t:=bs t.1,n:=n.1 },n.2)
  else if d=5 then aD (ee e a.2) fun b=>.ok ({ a:=a.1,b:=b.1 },b.2)
  else if d=6 then aD (gQ e a.2) fun q=>.ok ({ a:=a.1,e:=[q.1] },q.2)
  else if d=10 then aD (bl e [40] a.2) fun l=>aD (dJ e (l.length+1) [] l) fun q=>.ok ({ a:=a.1,e:=q.1 },q.2)
  else .ok ({ a:=a.1 },a.2)
def gx (e:Int)(d:Nat)(l:List Tok):Except (Int×Int) (Sh×List Tok) :=
 if d=11∨d=12 then aD (ee e l) fun a=>aD (bl e [102,114,111,109] a.2) fun l=>aD (ee e l) fun b=>.ok ({ a:=a.1,b:=b.1 },b.2)
 else aD (gQ e l) fun q=>.ok ({ e:=[q.1] },q.2)
mutual
def bD (e:Int):Nat→Nat→Nat→List Tok→PR (List St)
 |0,_,_,_=>.error (5,0)
 |f+1,deep,n,l=>if isT [123] l then (if deep=8 then .error (pt e 7 l) else cR e f (deep+1) [] n l.tail) else .error (pt e 5 l)
def cR (e:Int):Nat→Nat→List St→Nat→List Tok→PR (List St)
 |0,_,_,_,_=>.error (5,0)
 |f+1,deep,acc,n,l=>if isT [125] l then .ok (acc,n,l.tail) else aD (dU e f deep n l) fun q=>cR e f deep (acc++[q.1]) q.2.1 q.2.2
def dU (e:Int):Nat→Nat→Nat→List Tok→PR St
 |0,_,_,_=>.error (5,0)
 |_+1,_,_,[]=>.error (6,e)
 |f+1,deep,n,t::r =>
  if t.kind=1∧doW (bytesOf t.text)≠0 then
   (if n=300 then .error (8,t.at_) else
    if doW (bytesOf t.text) < 11 then aD (cg e (doW (bytesOf t.text)) r) fun s=>aD (bl e [59] s.2) fun l=>.ok (.mk (doW (bytesOf t.text)) t.at_ s.1.a s.1.b s.1.t s.1.n s.1.e [] [],n+1,l)
    else aD (gx e (doW (bytesOf t.text)) r) fun s=>aD (bD e f deep (n+1) s.2) fun b =>
     if (doW (bytesOf t.text)=11∨doW (bytesOf t.text)=14)∧isT [101,108,115,101] b.2.2=true then
      aD (bD e f deep b.2.1 b.2.2.tail) fun q=>.ok (.mk (doW (bytesOf t.text)) t.at_ s.1.a s.1.b ⟨#[]⟩ 0 s.1.e b.1 q.1,q.2.1,q.2.2)
     else .ok (.mk (doW (bytesOf t.text)) t.at_ s.1.a s.1.b ⟨#[]⟩ 0 s.1.e b.1 [],b.2.1,b.2.2))
  else .error (5,t.at_)
end
def gN (e:Int)(n:Nat)(l:List Tok):PR Sg:=match l with
 |[]=>.error (6,e)
 |t::r=>aD (ee e r) fun a=>aD (bl e [40] a.2) fun l=>aD (fb e (l.length+1) [] l) fun ps =>
  aD (bD e (3*ps.2.length+3) 0 n ps.2) fun b=>.ok (⟨a.1,t.at_,ps.1,b.1⟩,b.2.1,b.2.2)
def cO (e:Int):Nat→List Sg→Nat→List Tok→Except (Int×Int) (List Sg)
 |0,_,_,_=>.error (5,0)
 |f+1,acc,n,l =>
  if l.length=0∧acc.length≠0 then .ok acc
  else if isT [115,116,97,103,101] l then (if acc.length=10 then .error (pt e 8 l) else aD (gN e n l) fun q=>cO e f (acc++[q.1]) q.2.1 q.2.2)
  else .error (pt e 5 l)
def qn (e:Int)(l:List Tok):Except (Int×Int) (List Sg):=cO e (l.length+2) [] 0 l
abbrev Key:=Int×ByteArray×Int
def db (t:Tok):Key:=(t.kind,t.text,t.n)
def kS (l:List UInt8):Key:=(4,bs l,0)
def kW (l:List UInt8):Key:=(1,bs l,0)
def kN (s:ByteArray):Key:=(2,s,0)
def kU (n:Int):Key:=(3,bs (Lib.itoa n),n)
def isK (s:List UInt8):List Key→Bool
 |[]=>false
 |k::_=>k.1 !=2&&bytesOf k.2.1==s
theorem dw {s:List UInt8}{ts:List Tok}{ks:List Key}(h:ts.map db=ks):isT s ts=isK s ks:=by
 subst h;cases ts<;>rfl
theorem keys_cons {ts:List Tok}{k:Key}{ks:List Key}(h:ts.map db=k::ks):∃t r,ts=t::r∧db t=k∧r.map db=ks:=by
 obtain ⟨t,r,h1,h2,h3⟩:=List.map_eq_cons_iff.1 h;exact ⟨t,r,h1,h2,h3⟩
theorem iN {s l:List UInt8}{ks:List Key}:isK s (kS l::ks)=(l==s):=by
 simp [isK,kS,aF]
theorem wO {s l:List UInt8}{ks:List Key}:isK s (kW l::ks)=(l==s):=by
 simp [isK,kW,aF]
theorem Iq {s:List UInt8}{x:ByteArray}{ks:List Key}:isK s (kN x::ks)=false:=by
 simp [isK,kN]
theorem LS {s:List UInt8}{n:Int}{ks:List Key}(h0:0≤n)(hs:∀c∈s,dg c=false)(hne:s≠[]):isK s (kU n::ks)=false:=by
 have h1:=Dd h0;have h2:(Lib.itoa n==s)=false:=by
  rw [Qa];rintro rfl;cases hl:Lib.itoa n with
  |nil=>exact hne hl
  |cons c r =>
   rw [hl] at h1 hs;rw [List.all_cons,hs c Qg] at h1;cases h1
 simp only [isK,kU,aF,h2,Bool.and_false]
def tI (m:Int)(q:Int×List Key):List Key:=if rk q.1 < m then kS [40]::(q.2++[kS [41]]) else q.2
def QA (op:Int):List UInt8:=if op=4 then [43] else if op=5 then [45] else if op=6 then [42] else if op=7 then [60] else [61,61]
def OX (op:Int)(nm:ByteArray)(n:Int)(ts:List (Int×List Key)):List Key :=
 if op=1 then [kU n] else if op=2 then [kN nm] else if op=3 then kS [45]::tI 4 (ts.getD 0 (0,[]))
 else tI (lmO op) (ts.getD 0 (0,[]))++kS (QA op)::tI (rk op+1) (ts.getD 1 (0,[]))
mutual
def exK:Ex→List Key
 |.mk op nm n l=>OX op nm n (exKs l)
def exKs:List Ex→List (Int×List Key)
 |[]=>[]
 |x::r=>(x.op,exK x)::exKs r
end
inductive Xw:Ex→Prop
 |num {n:Int}:0≤n→n < 1000000000000000000→Xw (my n)
 |name {s:ByteArray}:aL s=true→Xw (eU s)
 |neg {a:Ex}:Xw a→Xw (nH a)
 |T {op:Int} {a b:Ex}:4≤op→op≤8→Xw a→Xw b→Xw (bz op a b)
theorem CH {s:ByteArray}(h:emp s):s=⟨#[]⟩:=bG h
mutual
theorem PO:∀(x:Ex),exF x=0→Xw x
 |.mk op nm n l,h=>by
  obtain ⟨h1,h2⟩:=I8 h;obtain ⟨a1,a2,a3,a4,a5,a6,a7,a8⟩:=Jj h1;have a1:1≤op:=a1;have a2:op≤8:=a2;have a3:(l.length:Int)=eO op:=a3;have a4:n≠0→op=1:=a4;have a5:¬emp nm→op=2:=a5;have a6:op=2→aL nm=true:=a6;have a7:0≤n:=a7;have a8:n < 1000000000000000000:=a8;have hn:op≠1→n=0:=fun hh=>Q3 fun h=>hh (a4 h);have hm:op≠2→nm=⟨#[]⟩:=fun hh=>CH (Classical.byContradiction fun h=>hh (a5 h));have hl:=Hh l h2;unfold eO at a3
  match l,a3,hl with
  |[],a3,_ =>
   by_cases e1:op=1
   ·subst e1;rw [hm (by decide)]
    exact .num a7 a8
   ·by_cases e2:op=2
    ·subst e2;rw [hn (by decide)]
     exact .name (a6 rfl)
    ·rw [if_neg (by omega)] at a3
     split at a3<;>cases a3
  |[a],a3,hl =>
   have e3:op=3:=by
    split at a3
    ·cases a3
    ·split at a3
     ·assumption
     ·cases a3
   subst e3;rw [hn (by decide),hm (by decide)]
   exact .neg (hl a Qg)
  |[a,b],a3,hl =>
   have e3:¬(op=1∨op=2)∧op≠3:=by
    split at a3
    ·cases a3
    ·split at a3
     ·cases a3
     ·exact ⟨by assumption,by assumption⟩
   rw [hn (by omega),hm (by omega)]
   exact .T (by omega) a2 (hl a Qg) (hl b (Q9 _ Qg))
  |a::b::c::r,a3,_ =>
   simp only [Qn] at a3
   split at a3
   ·omega
   ·split at a3<;>omega
theorem Hh:∀(l:List Ex),nP l=0→∀x∈l,Xw x
 |[],_,x,hx=>absurd hx List.not_mem_nil
 |y::r,h,x,hx=>by
  unfold nP at h;obtain ⟨h1,h2⟩:=lg h;rcases List.mem_cons.1 hx with e|hx
  ·rw [e];exact PO y h1
  ·exact Hh r h2 x hx
end
theorem MI (n:Int):exK (my n)=[kU n]:=rfl
theorem Ju (s:ByteArray):exK (eU s)=[kN s]:=rfl
theorem Ba (a:Ex):exK (nH a)=kS [45]::tI 4 (a.op,exK a):=rfl
theorem uH {op:Int}(h1:4≤op)(a b:Ex):exK (bz op a b)=tI (lmO op) (a.op,exK a)++kS (QA op)::tI (rk op+1) (b.op,exK b):=by
 show OX op ⟨#[]⟩ 0 [(a.op,exK a),(b.op,exK b)]=_;unfold OX;rw [if_neg (by omega),if_neg (by omega),if_neg (by omega)]
 rfl
theorem oM (op:Int)(a b:Ex):exN (bz op a b)=exN a+exN b+1:=by
 simp only [bz,exN,cw];omega
theorem F4 (a:Ex):exN (nH a)=exN a+1:=by
 simp only [nH,exN,cw];omega
theorem sA (x:Ex):1≤exN x:=by
 rw [gA];omega
def EJ (ks:List Key):Prop:=isK [42] ks=false∧isK [43] ks=false∧isK [45] ks=false∧isK [60] ks=false∧isK [61,61] ks=false
theorem lF {l:List UInt8}{ks:List Key}(h:l∉[[42],[43],[45],[60],[61,61]]):EJ (kS l::ks):=by
 simp only [List.mem_cons,List.not_mem_nil,or_false,not_or] at h;unfold EJ;simp only [iN];simp [h]
theorem su {m:Int}{q:Int×List Key}(h:m≤rk q.1):tI m q=q.2:=by
 unfold tI;rw [if_neg (by omega)]
theorem Jk {m:Int}{q:Int×List Key}(h:rk q.1 < m):tI m q=kS [40]::(q.2++[kS [41]]):=by
 unfold tI;rw [if_pos h]
theorem Ly (op:Int)(nm:ByteArray)(n:Int)(ts:List (Int×List Key)):1≤(OX op nm n ts).length:=by
 unfold OX
 split
 ·simp
 split
 ·simp
 split
 ·simp
 ·rw [Qd,Qn];omega
theorem yH (x:Ex):1≤(exK x).length:=by
 cases x;exact Ly _ _ _ _
theorem AQ (m:Int)(x:Ex):1≤(tI m (x.op,exK x)).length:=by
 have:=yH x;unfold tI
 split
 ·simp
 ·exact this
theorem aS {ts:List Tok}{ks:List Key}(h:ts.map db=ks):ts.length=ks.length:=by
 rw [←h,Z6]
abbrev AT (e:Int)(x:Ex):Prop:=∀{f o n:Nat} {ts:List Tok} {ks:List Key},ts.map db=exK x++ks→EJ ks→o+2*exN x≤60→4*ts.length+4≤f →
 ∃ts',qv e f o n ts=.ok (x,n+exN x,ts')∧ts'.map db=ks
abbrev ST (e:Int)(x:Ex):Prop:=∀{f o n:Nat} {ts:List Tok} {ks:List Key},ts.map db=tI 2 (x.op,exK x)++ks→isK [42] ks=false→o+2*exN x≤60→(rk x.op < 2→o+2*exN x+1≤60)→4*ts.length+3≤f →
 ∃f' ts',pu e f o n ts=qE e f' o x (n+exN x) ts'∧ts'.map db=ks∧4*ts'.length+3≤f'
abbrev PT (e:Int)(x:Ex):Prop:=∀{f o n:Nat} {ts:List Tok} {ks:List Key},ts.map db=tI 3 (x.op,exK x)++ks→o+2*exN x≤60→(rk x.op < 3→o+2*exN x+1≤60)→4*ts.length+2≤f →
 ∃f' ts',eZ e f o n ts=fc e f' o x (n+exN x) ts'∧ts'.map db=ks∧4*ts'.length+2≤f'
abbrev UT (e:Int)(x:Ex):Prop:=∀{f o n:Nat} {ts:List Tok} {ks:List Key},ts.map db=tI 4 (x.op,exK x)++ks→o+2*exN x≤60→(rk x.op < 4→o+2*exN x+1≤60)→4*ts.length+1≤f →
 ∃ts',cf e f o n ts=.ok (x,n+exN x,ts')∧ts'.map db=ks
section
variable  {e:Int}{x:Ex}
theorem so {f o n:Nat}{ts:List Tok}{ks:List Key}(h:ts.map db=ks)(hs:isK [42] ks=false)(hf:1≤f):fc e f o x n ts=.ok (x,n,ts):=by
 obtain ⟨f,rfl⟩:∃g,f=g+1:=⟨f - 1,by omega⟩
 unfold fc;rw [dw h,hs];rfl
theorem tO {f o n:Nat}{ts:List Tok}{ks:List Key}(h:ts.map db=ks)(hs:isK [43] ks=false)(hs':isK [45] ks=false)(hf:1≤f):qE e f o x n ts=.ok (x,n,ts):=by
 obtain ⟨f,rfl⟩:∃g,f=g+1:=⟨f - 1,by omega⟩
 unfold qE;rw [dw h,dw h,hs,hs'];rfl
theorem zZ (hr:2≤rk x.op)(hS:ST e x):AT e x:=by
 intro f o n ts ks hts hst hb hf;obtain ⟨f,rfl⟩:∃g,f=g+1:=⟨f - 1,by omega⟩
 obtain ⟨f',ts',h1,h2,h3⟩:=hS (f:=f) (o:=o) (n:=n) (ts:=ts) (ks:=ks) (by rw [su hr];exact hts) hst.1 hb (fun h=>by omega) (by omega)
 refine ⟨ts',?_,h2⟩;unfold qv;rw [h1,tO h2 hst.2.1 hst.2.2.1 (by omega),ay]
 show (if isT [60] ts' then _ else _)=_
 rw [dw h2,hst.2.2.2.1,if_neg Qe];show (if isT [61,61] ts' then _ else _)=_
 rw [dw h2,hst.2.2.2.2,if_neg Qe]
theorem zM (hr:rk x.op≠2)(hP:PT e x):ST e x:=by
 intro f o n ts ks hts hst hb hb' hf;obtain ⟨f,rfl⟩:∃g,f=g+1:=⟨f - 1,by omega⟩
 have hbr:tI 2 (x.op,exK x)=tI 3 (x.op,exK x):=by
  unfold tI
  by_cases h:rk x.op < 2
  ·rw [if_pos h,if_pos (show rk x.op < 3 by omega)]
  ·rw [if_neg h,if_neg (show ¬rk x.op < 3 by omega)]
 obtain ⟨f',ts',h1,h2,h3⟩:=hP (f:=f) (o:=o) (n:=n) (ts:=ts) (ks:=ks) (by rw [←hbr];exact hts) hb (fun h=>hb' (by omega)) (by omega)
 refine ⟨f,ts',?_,h2,?_⟩
 ·conv=>lhs;unfold pu
  rw [h1,so h2 hst (by omega),ay]
 ·have:=aS hts;have:=aS h2;have:=AQ 2 x;simp only [Qd] at *;omega
theorem zY (hr:rk x.op≠3)(hU:UT e x):PT e x:=by
 intro f o n ts ks hts hb hb' hf;obtain ⟨f,rfl⟩:∃g,f=g+1:=⟨f - 1,by omega⟩
 have hbr:tI 3 (x.op,exK x)=tI 4 (x.op,exK x):=by
  unfold tI
  by_cases h:rk x.op < 3
  ·rw [if_pos h,if_pos (show rk x.op < 4 by omega)]
  ·rw [if_neg h,if_neg (show ¬rk x.op < 4 by omega)]
 obtain ⟨ts',h1,h2⟩:=hU (f:=f) (o:=o) (n:=n) (ts:=ts) (ks:=ks) (by rw [←hbr];exact hts) hb (fun h=>hb' (by omega)) (by omega)
 refine ⟨f,ts',?_,h2,?_⟩
 ·conv=>lhs;unfold eZ
  rw [h1,ay]
 ·have:=aS hts;have:=aS h2;have:=AQ 3 x;simp only [Qd] at *;omega
theorem GG (hr:rk x.op < 4)(hA:AT e x):UT e x:=by
 intro f o n ts ks hts hb hb' hf;obtain ⟨f,rfl⟩:∃g,f=g+1:=⟨f - 1,by omega⟩
 rw [Jk hr,Qu,Qk] at hts;obtain ⟨t,r,rfl,ht,hr'⟩:=keys_cons hts;have hb2:=hb' hr;obtain ⟨ts',h1,h2⟩:=hA (f:=f) (o:=o+1) (n:=n) (ts:=r) (ks:=[kS [41]]++ks) hr' (lF (by decide)) (by omega) (by simp only [Qn] at hf;omega)
 obtain ⟨t2,r2,rfl,ht2,hr2⟩:=keys_cons h2;refine ⟨r2,?_,hr2⟩;unfold cf;rw [dw hts,iN,if_pos (by decide),if_neg (by omega)]
 show aD (qv e f (o+1) n r) _=_;rw [h1,ay];show (if isT [41] (t2::r2) then _ else _)=_
 rw [dw h2];rfl
theorem P9 {m:Int}(h0:0≤m):UT e (my m):=by
 intro f o n ts ks hts hb hb' hf;obtain ⟨f,rfl⟩:∃g,f=g+1:=⟨f - 1,by omega⟩
 rw [su (show (4:Int)≤rk 1 by decide)] at hts
 obtain ⟨t,r,rfl,ht,hr⟩:=keys_cons hts;refine ⟨r,?_,hr⟩;unfold cf;rw [dw hts,dw hts,MI];show (if isK [40] (kU m::([]++ks)) then _ else if isK [45] (kU m::([]++ks)) then _ else _)=_
 rw [LS h0 (by decide) (by decide),LS h0 (by decide) (by decide),if_neg Qe,if_neg Qe]
 obtain ⟨k1,k2⟩:=Prod.mk.inj ht;obtain ⟨k2,k3⟩:=Prod.mk.inj k2;show (if t.kind=3 then _ else _)=_
 rw [if_pos k1,k3];rfl
theorem No {s:ByteArray}:UT e (eU s):=by
 intro f o n ts ks hts hb hb' hf;obtain ⟨f,rfl⟩:∃g,f=g+1:=⟨f - 1,by omega⟩
 rw [su (show (4:Int)≤rk 2 by decide)] at hts
 obtain ⟨t,r,rfl,ht,hr⟩:=keys_cons hts;refine ⟨r,?_,hr⟩;unfold cf;rw [dw hts,dw hts,Ju];show (if isK [40] (kN s::([]++ks)) then _ else if isK [45] (kN s::([]++ks)) then _ else _)=_
 rw [Iq,Iq,if_neg Qe,if_neg Qe];obtain ⟨k1,k2⟩:=Prod.mk.inj ht;obtain ⟨k2,k3⟩:=Prod.mk.inj k2;show (if t.kind=3 then _ else if t.kind=2 then _ else _)=_
 rw [if_neg (by rw [k1];decide),if_pos k1,k2]
 rfl
theorem P7 {a:Ex}(hU:UT e a):UT e (nH a):=by
 intro f o n ts ks hts hb hb' hf;obtain ⟨f,rfl⟩:∃g,f=g+1:=⟨f - 1,by omega⟩
 rw [su (show (4:Int)≤rk 3 by decide),Ba,Qu] at hts
 obtain ⟨t,r,rfl,ht,hr⟩:=keys_cons hts;rw [F4] at hb ⊢;obtain ⟨ts',h1,h2⟩:=hU (f:=f) (o:=o+1) (n:=n+1) hr (by omega) (fun _=>by omega) (by simp only [Qn] at hf;omega)
 refine ⟨ts',?_,h2⟩;unfold cf;rw [dw hts,dw hts,iN,iN,if_neg (by decide),if_pos (by decide),if_neg (by omega)]
 show aD (cf e f (o+1) (n+1) r) _=_;rw [h1,ay];show (Except.ok (nH a,n+1+exN a,ts'):PR Ex)=_;rw [show n+1+exN a=n+(exN a+1) by omega]
theorem Pr {a b:Ex}(hP:PT e a)(hU:UT e b):PT e (bz 6 a b):=by
 intro f o n ts ks hts hb hb' hf;rw [su (show (3:Int)≤rk 6 by decide),uH (by decide),Qk,Qu] at hts
 rw [oM] at hb ⊢;have hb1:=sA b;have ha1:=sA a;obtain ⟨f1,ts1,h1,h2,h3⟩:=hP (f:=f) (o:=o) (n:=n) hts (by omega) (fun _=>by omega) hf
 obtain ⟨t,r,rfl,ht,hr⟩:=keys_cons h2;simp only [Qn] at h3;obtain ⟨g,rfl⟩:∃g,f1=g+1:=⟨f1 - 1,by omega⟩
 obtain ⟨ts',h4,h5⟩:=hU (f:=g) (o:=o) (n:=n+exN a) hr (by omega) (fun _=>by omega) (by omega)
 refine ⟨g,ts',?_,h5,?_⟩
 ·rw [h1]
  conv=>lhs;unfold fc
  rw [dw h2,iN,if_pos (by decide)]
  show aD (cf e g o (n+exN a) r) _=_;rw [h4,ay];show fc e g o (bz 6 a b) (n+exN a+exN b+1) ts'=_;rw [show n+exN a+exN b+1=n+(exN a+exN b+1) by omega]
 ·have:=aS hr;have:=aS h5;simp only [Qd] at *;omega
theorem PZ {op:Int}(ho:op=4∨op=5){a b:Ex}(hS:ST e a)(hP:PT e b):ST e (bz op a b):=by
 intro f o n ts ks hts hst hb hb' hf;have hr2:rk op=2:=by rcases ho with rfl|rfl<;>decide
 have hl2:lmO op=2:=by rcases ho with rfl|rfl<;>decide
 rw [su (show (2:Int)≤rk op by omega),uH (by omega),Qk,Qu,hr2,hl2] at hts
 rw [oM] at hb ⊢;have hb1:=sA b;have ha1:=sA a;obtain ⟨f1,ts1,h1,h2,h3⟩:=hS (f:=f) (o:=o) (n:=n) hts (by rw [iN];rcases ho with rfl|rfl<;>decide) (by omega) (fun _=>by omega) hf
 obtain ⟨t,r,rfl,ht,hr⟩:=keys_cons h2;simp only [Qn] at h3;obtain ⟨g,rfl⟩:∃g,f1=g+1:=⟨f1 - 1,by omega⟩
 obtain ⟨f2,ts2,h4,h5,h6⟩:=hP (f:=g) (o:=o) (n:=n+exN a) hr (by omega) (fun _=>by omega) (by omega)
 refine ⟨g,ts2,?_,h5,?_⟩
 ·rw [h1]
  conv=>lhs;unfold qE
  rw [dw h2,dw h2,iN,iN];rcases ho with rfl|rfl
  ·rw [if_pos (by decide)]
   show aD (eZ e g o (n+exN a) r) _=_;rw [h4,so h5 hst (by omega),ay]
   show qE e g o (bz 4 a b) (n+exN a+exN b+1) ts2=_;rw [show n+exN a+exN b+1=n+(exN a+exN b+1) by omega]
  ·rw [if_neg (by decide),if_pos (by decide)]
   show aD (eZ e g o (n+exN a) r) _=_;rw [h4,so h5 hst (by omega),ay]
   show qE e g o (bz 5 a b) (n+exN a+exN b+1) ts2=_;rw [show n+exN a+exN b+1=n+(exN a+exN b+1) by omega]
 ·have:=aS hr;have:=aS h5;simp only [Qd] at *;omega
theorem P0 {op:Int}(ho:op=7∨op=8){a b:Ex}(hS:ST e a)(hT:ST e b):AT e (bz op a b):=by
 intro f o n ts ks hts hst hb hf;have hr2:rk op=1:=by rcases ho with rfl|rfl<;>decide
 have hl2:lmO op=2:=by rcases ho with rfl|rfl<;>decide
 rw [uH (by omega),Qk,Qu,hr2,hl2] at hts
 rw [oM] at hb ⊢;have hb1:=sA b;have ha1:=sA a;obtain ⟨f,rfl⟩:∃g,f=g+1:=⟨f - 1,by omega⟩
 obtain ⟨f1,ts1,h1,h2,h3⟩:=hS (f:=f) (o:=o) (n:=n) hts (by rw [iN];rcases ho with rfl|rfl<;>decide) (by omega) (fun _=>by omega) (by omega)
 have h1':=tO (e:=e) (x:=a) (f:=f1) (o:=o) (n:=n+exN a) h2 (by rw [iN];rcases ho with rfl|rfl<;>decide) (by rw [iN];rcases ho with rfl|rfl<;>decide) (by omega)
 obtain ⟨t,r,rfl,ht,hr⟩:=keys_cons h2;simp only [Qn] at h3;have hlen:=aS hts;have hlr:=aS hr;have han:=AQ 2 a;rw [Qd,Qn,Qd] at hlen;rw [Qd] at hlr;obtain ⟨f2,ts2,h4,h5,h6⟩:=hT (f:=f) (o:=o) (n:=n+exN a) hr hst.1 (by omega) (fun _=>by omega) (by omega)
 refine ⟨ts2,?_,h5⟩;unfold qv;rw [h1,h1',ay];show (if isT [60] (t::r) then aD (pu e f o (n+exN a) r) _ else if isT [61,61] (t::r) then aD (pu e f o (n+exN a) r) _ else _)=_
 rw [h4,tO h5 hst.2.1 hst.2.2.1 (by omega),ay,ay,dw h2,dw h2,iN,iN]
 rcases ho with rfl|rfl
 ·rw [if_pos (by decide)]
  show (Except.ok (bz 7 a b,n+exN a+exN b+1,ts2):PR Ex)=_;rw [show n+exN a+exN b+1=n+(exN a+exN b+1) by omega]
 ·rw [if_neg (by decide),if_pos (by decide)]
  show (Except.ok (bz 8 a b,n+exN a+exN b+1,ts2):PR Ex)=_;rw [show n+exN a+exN b+1=n+(exN a+exN b+1) by omega]
theorem lv (e:Int):∀{x:Ex},Xw x→UT e x∧PT e x∧ST e x∧AT e x:=by
 intro x hx
 induction hx with
 |@num m h0 h1 =>
  have u:UT e (my m):=P9 h0;have p:PT e (my m):=zY (x:=my m) (show rk 1≠3 by decide) u
  have s:ST e (my m):=zM (x:=my m) (show rk 1≠2 by decide) p
  exact ⟨u,p,s,zZ (x:=my m) (show 2≤rk 1 by decide) s⟩
 |@name m h0 =>
  have u:UT e (eU m):=No;have p:PT e (eU m):=zY (x:=eU m) (show rk 2≠3 by decide) u
  have s:ST e (eU m):=zM (x:=eU m) (show rk 2≠2 by decide) p
  exact ⟨u,p,s,zZ (x:=eU m) (show 2≤rk 2 by decide) s⟩
 |@neg a _ ih =>
  have u:UT e (nH a):=P7 ih.1;have p:PT e (nH a):=zY (x:=nH a) (show rk 3≠3 by decide) u
  have s:ST e (nH a):=zM (x:=nH a) (show rk 3≠2 by decide) p
  exact ⟨u,p,s,zZ (x:=nH a) (show 2≤rk 3 by decide) s⟩
 |@T op a b h4 h8 _ _ iha ihb =>
  by_cases h6:op=6
  ·subst h6;have p:PT e (bz 6 a b):=Pr iha.2.1 ihb.1;have s:ST e (bz 6 a b):=zM (x:=bz 6 a b) (show rk 6≠2 by decide) p
   have c:AT e (bz 6 a b):=zZ (x:=bz 6 a b) (show 2≤rk 6 by decide) s
   exact ⟨GG (x:=bz 6 a b) (show rk 6 < 4 by decide) c,p,s,c⟩
  ·by_cases h45:op=4∨op=5
   ·have hr:rk op=2:=by rcases h45 with rfl|rfl<;>decide
    have s:ST e (bz op a b):=PZ h45 iha.2.2.1 ihb.2.1;have c:AT e (bz op a b):=zZ (x:=bz op a b) (show 2≤rk op by omega) s
    have u:UT e (bz op a b):=GG (x:=bz op a b) (show rk op < 4 by omega) c
    exact ⟨u,zY (x:=bz op a b) (show rk op≠3 by omega) u,s,c⟩
   ·have h78:op=7∨op=8:=by omega
    have hr:rk op=1:=by rcases h78 with rfl|rfl<;>decide
    have c:AT e (bz op a b):=P0 h78 iha.2.2.1 ihb.2.2.1;have u:UT e (bz op a b):=GG (x:=bz op a b) (show rk op < 4 by omega) c
    have p:PT e (bz op a b):=zY (x:=bz op a b) (show rk op≠3 by omega) u
    exact ⟨u,p,zM (x:=bz op a b) (show rk op≠2 by omega) p,c⟩
theorem qC {x:Ex}(hx:Xw x)(hn:exN x≤20){ts:List Tok}{ks:List Key}(hts:ts.map db=exK x++ks)(hst:EJ ks):∃ts',gQ e ts=.ok (x,ts')∧ts'.map db=ks:=by
 obtain ⟨ts',h1,h2⟩:=(lv e hx).2.2.2 (f:=4*ts.length+4) (o:=0) (n:=0) hts hst (by omega) (Zd _)
 have hl:=aS hts;have hne:=yH x;rw [Qd] at hl;cases ts with
 |nil=>simp at hl;omega
 |cons t r =>
  refine ⟨ts',?_,h2⟩;unfold gQ;show aD (qv e (4*(t::r).length+4) 0 0 (t::r)) _=_;rw [h1,ay];show (if 20 < 0+exN x then _ else _)=_
  rw [if_neg (by omega)]
end
def AP:List UInt8:=[108,101,116]
def Bq:List UInt8:=[115,101,116]
def rK:List UInt8:=[101,109,105,116]
def tY:List UInt8:=[99,104,97,110]
def qs:List UInt8:=[99,108,111,110,101]
def qi:List UInt8:=[115,101,110,100]
def wq:List UInt8:=[114,101,99,118]
def rX:List UInt8:=[99,108,111,115,101]
def kA:List UInt8:=[97,98,97,110,100,111,110]
def sK:List UInt8:=[100,114,97,105,110]
def qH:List UInt8:=[115,112,97,119,110]
def ra:List UInt8:=[116,97,107,101]
def Bg:List UInt8:=[102,111,114]
def ow:List UInt8:=[102,114,111,109]
def lI:List UInt8:=[114,101,112,101,97,116]
def LQ:List UInt8:=[105,102]
def jf:List UInt8:=[101,108,115,101]
def AX:List UInt8:=[105,110,116]
def qz:List UInt8:=[115,116,97,103,101]
def wdK (c:UInt8):Key:=if c=115 then kW qi else kW wq
def vE (s:ByteArray):List Key:=((bytesOf s).take (s.size - 1)).map wdK++[kW AX]
def mj:Nat→List Ex→List Key
 |_,[]=>[]
 |n,x::r=>(if n=0 then [] else [kS [44]])++(exK x++mj (n+1) r)
def eP (x:St):List Key :=
 if x.d=1 then [kW AP,kN x.a,kS [61]]
 else if x.d=2 then [kW Bq,kN x.a,kS [61]]
 else if x.d=3 then [kW rK]
 else if x.d=4 then [kW tY,kN x.a,kN x.b]++(vE x.t++[kU x.n])
 else if x.d=5 then [kW qs,kN x.a,kN x.b]
 else if x.d=6 then [kW qi,kN x.a]
 else if x.d=7 then [kW rX,kN x.a]
 else if x.d=8 then [kW kA,kN x.a]
 else if x.d=9 then [kW sK,kN x.a]
 else if x.d=10 then [kW qH,kN x.a,kS [40]]
 else if x.d=11 then [kW ra,kN x.a,kW ow,kN x.b]
 else if x.d=12 then [kW Bg,kN x.a,kW ow,kN x.b]
 else if x.d=13 then [kW lI]
 else [kW LQ]
mutual
def stK : St → List Key
  | .mk d at_ a b t n e body els => eP (.mk d at_ a b t n e body els) ++ (mj 0 e ++
      (if (fmD d).body then (kS [123] :: (H0 body ++ [kS [125]])) ++ (if els.length = 0 then [] else kW jf :: kS [123] :: (H0 els ++ [kS [125]]))
       else (if d = 10 then [kS [41]] else []) ++ [kS [59]]))
def H0 : List St → List Key
  | [] => []
  | x :: r => stK x ++ H0 r
end
abbrev e0:ByteArray:=⟨#[]⟩
def XwL (x:Ex):Prop:=Xw x∧exN x≤20
inductive Sw:Nat→St→Prop
 |let_ {deep:Nat} {d at_:Int} {a:ByteArray} {x:Ex}:d=1∨d=2→aL a=true→XwL x→Sw deep (.mk d at_ a e0 e0 0 [x] [] [])
 |emit {deep:Nat} {at_:Int} {x:Ex}:XwL x→Sw deep (.mk 3 at_ e0 e0 e0 0 [x] [] [])
 |chan {deep:Nat} {at_ n:Int} {a b t:ByteArray}:aL a=true→aL b=true→ck t 3=true→0≤n→n < 1000000000000000000→Sw deep (.mk 4 at_ a b t n [] [] [])
 |clone {deep:Nat} {at_:Int} {a b:ByteArray}:aL a=true→aL b=true→Sw deep (.mk 5 at_ a b e0 0 [] [] [])
 |send {deep:Nat} {at_:Int} {a:ByteArray} {x:Ex}:aL a=true→XwL x→Sw deep (.mk 6 at_ a e0 e0 0 [x] [] [])
 |one {deep:Nat} {d at_:Int} {a:ByteArray}:d=7∨d=8∨d=9→aL a=true→Sw deep (.mk d at_ a e0 e0 0 [] [] [])
 |spawn {deep:Nat} {at_:Int} {a:ByteArray} {es:List Ex}:aL a=true→es.length≤6→(∀x∈es,XwL x)→Sw deep (.mk 10 at_ a e0 e0 0 es [] [])
 |take {deep:Nat} {at_:Int} {a b:ByteArray} {body els:List St}:aL a=true→aL b=true→deep < 8→(∀y∈body,Sw (deep+1) y)→(∀y∈els,Sw (deep+1) y)→Sw deep (.mk 11 at_ a b e0 0 [] body els)
 |for_ {deep:Nat} {at_:Int} {a b:ByteArray} {body:List St}:aL a=true→aL b=true→deep < 8→(∀y∈body,Sw (deep+1) y)→Sw deep (.mk 12 at_ a b e0 0 [] body [])
 |rep {deep:Nat} {at_:Int} {x:Ex} {body:List St}:XwL x→deep < 8→(∀y∈body,Sw (deep+1) y)→Sw deep (.mk 13 at_ e0 e0 e0 0 [x] body [])
 |if_ {deep:Nat} {at_:Int} {x:Ex} {body els:List St}:XwL x→deep < 8→(∀y∈body,Sw (deep+1) y)→(∀y∈els,Sw (deep+1) y)→Sw deep (.mk 14 at_ e0 e0 e0 0 [x] body els)
theorem Nk {l:List Ex}(h1:nP l=0)(h2:∀y∈l,exN y≤20):∀x∈l,XwL x:=fun x hx=>⟨Hh l h1 x hx,h2 x hx⟩
theorem xk {l:List Ex}(h:l.length=1):∃x,l=[x]:=by
 match l,h with
 |[x],_=>exact ⟨x,rfl⟩
mutual
theorem Pk:∀(x:St) {deep:Nat},stG deep x→Sw deep x
 |.mk d at_ a b t n e body els,deep,h=>by
  obtain ⟨h1,h2,h3⟩:=nT.1 h;have hl:e.length≤6:=by
   obtain ⟨_,_,_,hl,_⟩:=h1;exact hl
  obtain ⟨f,ok⟩:=uv h1;have hbd:=zG body (deep:=deep+1) h2;have hel:=zG els (deep:=deep+1) h3;have hx:∀x∈e,XwL x:=Nk ok.ex ok.e20;have d1:1≤d:=ok.d1;have d2:d≤14:=ok.d2;have hdp:f.body=true→deep < 8:=fun hh=>by have:=ok.dp hh;omega
  have na:f.a=true→aL a=true:=ok.na;have nb:f.b=true→aL b=true:=ok.nb;have ty:f.t=true→ck t 3=true:=ok.ty;have ea:f.a=false→a=e0:=fun hh=>CH (ok.ea hh);have eb:f.b=false→b=e0:=fun hh=>CH (ok.eb hh);have et:f.t=false→t=e0:=fun hh=>CH (ok.et hh);have en:f.n=false→n=0:=ok.en;have ne:0≤f.e→(e.length:Int)=f.e:=ok.ne;have bo:f.body=false→body=[]:=ok.bo;have el:f.els=false→els=[]:=ok.el;have n0:0≤n:=ok.n0
  have n1:n < 1000000000000000000:=ok.n1;have hf:aT d=some f:=ok.form;clear h h1 h2 h3 ok;unfold aT at hf
  split at hf
  ·obtain rfl:=Z2 hf;rename_i hd;obtain ⟨x,rfl⟩:=xk (l:=e) (by have:=ne (by decide);simp only at this;omega)
   obtain rfl:=eb rfl;obtain rfl:=et rfl;obtain rfl:=en rfl;obtain rfl:=bo rfl;obtain rfl:=el rfl;have hx:=hx x Qg
   by_cases h6:d=6
   ·subst h6;exact .send (na rfl) hx
   ·exact .let_ (by omega) (na rfl) hx
  split at hf
  ·obtain rfl:=Z2 hf;rename_i hd;subst hd;obtain ⟨x,rfl⟩:=xk (l:=e) (by have:=ne (by decide);simp only at this;omega)
   obtain rfl:=ea rfl;obtain rfl:=eb rfl;obtain rfl:=et rfl;obtain rfl:=en rfl;obtain rfl:=bo rfl;obtain rfl:=el rfl;exact .emit (hx x Qg)
  split at hf
  ·obtain rfl:=Z2 hf;rename_i hd;subst hd;obtain rfl:e=[]:=List.eq_nil_of_length_eq_zero (by have:=ne (by decide);simp only at this;omega)
   obtain rfl:=bo rfl;obtain rfl:=el rfl;exact .chan (na rfl) (nb rfl) (ty rfl) n0 n1
  split at hf
  ·obtain rfl:=Z2 hf;rename_i hd;subst hd;obtain rfl:e=[]:=List.eq_nil_of_length_eq_zero (by have:=ne (by decide);simp only at this;omega)
   obtain rfl:=et rfl;obtain rfl:=en rfl;obtain rfl:=bo rfl;obtain rfl:=el rfl;exact .clone (na rfl) (nb rfl)
  split at hf
  ·obtain rfl:=Z2 hf;rename_i hd;obtain rfl:e=[]:=List.eq_nil_of_length_eq_zero (by have:=ne (by decide);simp only at this;omega)
   obtain rfl:=eb rfl;obtain rfl:=et rfl;obtain rfl:=en rfl;obtain rfl:=bo rfl;obtain rfl:=el rfl;exact .one hd (na rfl)
  split at hf
  ·obtain rfl:=Z2 hf;rename_i hd;subst hd;obtain rfl:=eb rfl;obtain rfl:=et rfl;obtain rfl:=en rfl;obtain rfl:=bo rfl;obtain rfl:=el rfl;exact .spawn (na rfl) hl hx
  split at hf
  ·obtain rfl:=Z2 hf;rename_i hd;subst hd;obtain rfl:e=[]:=List.eq_nil_of_length_eq_zero (by have:=ne (by decide);simp only at this;omega)
   obtain rfl:=et rfl;obtain rfl:=en rfl;exact .take (na rfl) (nb rfl) (hdp rfl) hbd hel
  split at hf
  ·obtain rfl:=Z2 hf;rename_i hd;subst hd;obtain rfl:e=[]:=List.eq_nil_of_length_eq_zero (by have:=ne (by decide);simp only at this;omega)
   obtain rfl:=et rfl;obtain rfl:=en rfl;obtain rfl:=el rfl;exact .for_ (na rfl) (nb rfl) (hdp rfl) hbd
  split at hf
  ·obtain rfl:=Z2 hf;rename_i hd;subst hd;obtain ⟨x,rfl⟩:=xk (l:=e) (by have:=ne (by decide);simp only at this;omega)
   obtain rfl:=ea rfl;obtain rfl:=eb rfl;obtain rfl:=et rfl;obtain rfl:=en rfl;obtain rfl:=el rfl;exact .rep (hx x Qg) (hdp rfl) hbd
  split at hf
  ·obtain rfl:=Z2 hf;rename_i hd;subst hd;obtain ⟨x,rfl⟩:=xk (l:=e) (by have:=ne (by decide);simp only at this;omega)
   obtain rfl:=ea rfl;obtain rfl:=eb rfl;obtain rfl:=et rfl;obtain rfl:=en rfl;exact .if_ (hx x Qg) (hdp rfl) hbd hel
  ·cases hf
theorem zG:∀(l:List St) {deep:Nat},vL deep l→∀y∈l,Sw deep y
 |[],_,_,y,hy=>absurd hy List.not_mem_nil
 |x::r,deep,h,y,hy=>by
  unfold vL at h;rcases List.mem_cons.1 hy with e|hy
  ·rw [e];exact Pk x h.1
  ·exact zG r h.2 y hy
end
section
variable  {e:Int}{ts:List Tok}{ks:List Key}
theorem dW {s:ByteArray}(h:ts.map db=kN s::ks):∃ts',ee e ts=.ok (s,ts')∧ts'.map db=ks:=by
 obtain ⟨t,r,rfl,ht,hr⟩:=keys_cons h;obtain ⟨k1,k2⟩:=Prod.mk.inj ht;obtain ⟨k2,k3⟩:=Prod.mk.inj k2;refine ⟨r,?_,hr⟩;unfold ee;show (if t.kind=2 then _ else _)=_
 rw [if_pos k1,k2]
theorem M3 {n:Int}(h:ts.map db=kU n::ks):∃ts',Ey e ts=.ok (n,ts')∧ts'.map db=ks:=by
 obtain ⟨t,r,rfl,ht,hr⟩:=keys_cons h;obtain ⟨k1,k2⟩:=Prod.mk.inj ht;obtain ⟨k2,k3⟩:=Prod.mk.inj k2;refine ⟨r,?_,hr⟩;unfold Ey;show (if t.kind=3 then _ else _)=_
 rw [if_pos k1,k3]
theorem eH {l:List UInt8}(h:ts.map db=kS l::ks):∃ts',bl e l ts=.ok ts'∧ts'.map db=ks:=by
 obtain ⟨t,r,rfl,ht,hr⟩:=keys_cons h;refine ⟨r,?_,hr⟩;unfold bl;rw [dw h,iN,if_pos (by simp)]
 rfl
theorem HJ {l:List UInt8}(h:ts.map db=kW l::ks):∃ts',bl e l ts=.ok ts'∧ts'.map db=ks:=by
 obtain ⟨t,r,rfl,ht,hr⟩:=keys_cons h;refine ⟨r,?_,hr⟩;unfold bl;rw [dw h,wO,if_pos (by simp)]
 rfl
theorem KE:∀(l:List UInt8) {acc:List UInt8} {ts:List Tok},(∀c∈l,c=115∨c=114)→acc.length+l.length≤3→ts.map db=l.map wdK++kW AX::ks →
  ∃ts',qD e acc ts=.ok (acc++l++[105],ts')∧ts'.map db=ks
 |[],acc,ts,_,_,h=>by
  obtain ⟨t,r,rfl,ht,hr⟩:=keys_cons h;refine ⟨r,?_,hr⟩;unfold qD;rw [dw h];show (if isK [105,110,116] (kW AX::ks) then _ else _)=_
  rw [wO,if_pos (by decide),Z1]
 |c::l,acc,ts,hc,hn,h=>by
  rw [List.map_cons,Qu] at h;obtain ⟨t,r,rfl,ht,hr⟩:=keys_cons h;have hcc:=hc c Qg;simp only [Qn] at hn;have hw:∃w,wdK c=kW w∧(w==[105,110,116])=false∧((w==[115,101,110,100])||(w==[114,101,99,118]))=true∧w.take 1=[c]:=by
   rcases hcc with rfl|rfl
   ·exact ⟨qi,rfl,by decide,by decide,by decide⟩
   ·exact ⟨wq,rfl,by decide,by decide,by decide⟩
  obtain ⟨w,hw1,hw2,hw3,hw4⟩:=hw;rw [hw1] at h;obtain ⟨ts',h1,h2⟩:=KE l (acc:=acc++[c]) (fun d hd=>hc d (Q9 _ hd)) (by simp only [Qd,Qn,Qy];omega) hr
  refine ⟨ts',?_,h2⟩;unfold qD;rw [dw h,dw h,dw h,wO,wO,wO,hw2,if_neg Qe,hw3,if_pos rfl,if_neg (by omega)]
  rw [hw1] at ht;obtain ⟨k1,k2⟩:=Prod.mk.inj ht;obtain ⟨k2,k3⟩:=Prod.mk.inj k2;rw [k2,aF,hw4,h1];simp
theorem BR {s:ByteArray}(h:ck s 3=true):∃l:List UInt8,bytesOf s=l++[105]∧l=(bytesOf s).take (s.size - 1)∧l.length≤3∧∀c∈l,c=115∨c=114:=by
 unfold ck at h;obtain ⟨h1,h2,h3,h4⟩:=Qj h;have hlen:(bytesOf s).length=s.size:=aH s;have hsn:=lc s (k:=s.size - 1) (by omega)
 rw [show s.size - 1+1=s.size by omega,List.take_of_length_le (by omega),h3] at hsn
 refine ⟨_,hsn,rfl,by rw [Qp];omega,fun c hc=>?_⟩
 obtain ⟨k,hk,rfl⟩:=List.getElem_of_mem hc;rw [Qp] at hk;have h5:=h4 k (by omega)
 rw [List.getElem_take];have h6:cAt s k=(bytesOf s)[k]'(by omega):=by
  rw [cAt,List.getD_eq_getElem?_getD,Q7 (by omega),Option.getD_some]
 rw [←h6];exact h5
theorem Lk {s:ByteArray}(hs:ck s 3=true)(h:ts.map db=vE s++ks):∃ts',qD e [] ts=.ok (bytesOf s,ts')∧ts'.map db=ks:=by
 obtain ⟨l,h1,h2,h3,h4⟩:=BR hs;unfold vE at h;rw [←h2,Qk] at h;obtain ⟨ts',h5,h6⟩:=KE l (acc:=[]) (e:=e) h4 (by simpa using h3) h
 exact ⟨ts',by rw [h5,h1];rfl,h6⟩
end
theorem OU {x:Ex}(hx:Xw x):∀{ks:List Key},isK [41] (exK x++ks)=false:=by
 induction hx with
 |@num m h0 h1=>intro ks;exact LS h0 (by decide) (by decide)
 |@name m h0=>intro ks;exact Iq
 |@neg a _ ih=>intro ks;rw [Ba];exact iN
 |@T op a b h4 h8 _ _ iha ihb =>
  intro ks;rw [uH h4,Qk];unfold tI
  split
  ·exact iN
  ·exact iha
section
variable  {e:Int}
theorem Hi:∀(es:List Ex) {acc:List Ex} {f:Nat} {ts:List Tok} {ks:List Key},(∀x∈es,XwL x)→ts.map db=mj acc.length es++kS [41]::ks→acc.length+es.length≤6→ts.length+1≤f →
  ∃ts',dJ e f acc ts=.ok (acc++es,ts')∧ts'.map db=ks
 |[],acc,f,ts,ks,_,h,_,hf=>by
  obtain ⟨f,rfl⟩:∃g,f=g+1:=⟨f - 1,by omega⟩
  obtain ⟨t,r,rfl,ht,hr⟩:=keys_cons (show ts.map db=kS [41]::ks from h)
  refine ⟨r,?_,hr⟩;unfold dJ;rw [dw h];show (if isK [41] (kS [41]::ks) then _ else _)=_
  rw [iN,if_pos (by decide),Z1]
  rfl
 |x::es,acc,f,ts,ks,hx,h,hn,hf=>by
  obtain ⟨f,rfl⟩:∃g,f=g+1:=⟨f - 1,by omega⟩
  simp only [Qn] at hn;have hxx:=hx x Qg;unfold mj at h;rw [Qk] at h;have hno:isK [41] ((if acc.length=0 then [] else [kS [44]])++(exK x++mj (acc.length+1) es++kS [41]::ks))=false:=by
   split
   ·rw [Z4,Qk];exact OU hxx.1
   ·exact iN
  obtain ⟨l1,h1,h2,hle⟩:∃l1,(if acc.length=0 then .ok ts else bl e [44] ts)=(.ok l1:Except (Int×Int) (List Tok))∧l1.map db=exK x++(mj (acc.length+1) es++kS [41]::ks)∧l1.length≤ts.length:=by
   by_cases h0:acc.length=0
   ·rw [if_pos h0] at h ⊢;rw [Z4,Qk] at h;exact ⟨ts,rfl,h,Zd _⟩
   ·rw [if_neg h0] at h ⊢;rw [Qk] at h;obtain ⟨ts',h3,h4⟩:=eH (e:=e) (show ts.map db=kS [44]::(exK x++(mj (acc.length+1) es++kS [41]::ks)) from h)
    have:=aS h;have:=aS h4;simp only [Qd,Qn,Qy] at *;exact ⟨ts',h3,h4,by omega⟩
  have hst:EJ (mj (acc.length+1) es++kS [41]::ks):=by
   cases es with
   |nil=>exact lF (by decide)
   |cons y r =>
    unfold mj;rw [if_neg (by omega)]
    exact lF (by decide)
  obtain ⟨l2,h3,h4⟩:=qC (e:=e) hxx.1 hxx.2 h2 hst;have k1:=aS h2;have k2:=aS h4;have k3:=yH x;rw [Qd] at k1;obtain ⟨ts',h5,h6⟩:=Hi es (acc:=acc++[x]) (f:=f) (ts:=l2) (ks:=ks) (fun y hy=>hx y (Q9 _ hy)) (by rw [Qd];exact h4) (by rw [Qd];simp;omega) (by omega)
  refine ⟨ts',?_,h6⟩;unfold dJ;rw [dw h,hno,if_neg Qe,h1,ay,if_neg (by omega),h3,ay]
  show dJ e f (acc++[x]) l2=_;rw [h5,Qk];rfl
def HT:Nat→List (ByteArray×ByteArray)→List Key
 |_,[]=>[]
 |n,q::r=>(if n=0 then [] else [kS [44]])++(kN q.1::(vE q.2++HT (n+1) r))
theorem Fy:∀(ps:List (ByteArray×ByteArray)) {acc:List (ByteArray×ByteArray)} {f:Nat} {ts:List Tok} {ks:List Key},(∀q∈ps,ck q.2 3=true)→ts.map db=HT acc.length ps++kS [41]::ks→acc.length+ps.length≤6→ts.length+1≤f →
  ∃ts',fb e f acc ts=.ok (acc++ps,ts')∧ts'.map db=ks
 |[],acc,f,ts,ks,_,h,_,hf=>by
  obtain ⟨f,rfl⟩:∃g,f=g+1:=⟨f - 1,by omega⟩
  obtain ⟨t,r,rfl,ht,hr⟩:=keys_cons (show ts.map db=kS [41]::ks from h)
  refine ⟨r,?_,hr⟩;unfold fb;rw [dw h];show (if isK [41] (kS [41]::ks) then _ else _)=_
  rw [iN,if_pos (by decide),Z1]
  rfl
 |q::ps,acc,f,ts,ks,hx,h,hn,hf=>by
  obtain ⟨f,rfl⟩:∃g,f=g+1:=⟨f - 1,by omega⟩
  simp only [Qn] at hn;have hxx:=hx q Qg;unfold HT at h;rw [Qk,Qu,Qk] at h;have hno:isK [41] ((if acc.length=0 then [] else [kS [44]])++kN q.1::(vE q.2++(HT (acc.length+1) ps++kS [41]::ks)))=false:=by
   split
   ·exact Iq
   ·exact iN
  obtain ⟨l1,h1,h2,hle⟩:∃l1,(if acc.length=0 then .ok ts else bl e [44] ts)=(.ok l1:Except (Int×Int) (List Tok))∧l1.map db=kN q.1::(vE q.2++(HT (acc.length+1) ps++kS [41]::ks))∧l1.length≤ts.length:=by
   by_cases h0:acc.length=0
   ·rw [if_pos h0] at h ⊢;exact ⟨ts,rfl,h,Zd _⟩
   ·rw [if_neg h0] at h ⊢;obtain ⟨ts',h3,h4⟩:=eH (e:=e) (show ts.map db=kS [44]::(kN q.1::(vE q.2++(HT (acc.length+1) ps++kS [41]::ks))) from h)
    have:=aS h;have:=aS h4;simp only [Qd,Qn,Qy] at *;exact ⟨ts',h3,h4,by omega⟩
  obtain ⟨l2,h3,h4⟩:=dW (e:=e) h2;obtain ⟨l3,h5,h6⟩:=Lk (e:=e) hxx h4;have k1:=aS h2;have k2:=aS h6;simp only [Qd,Qn] at k1 k2;obtain ⟨ts',h7,h8⟩:=Fy ps (acc:=acc++[q]) (f:=f) (ts:=l3) (ks:=ks) (fun y hy=>hx y (Q9 _ hy)) (by rw [Qd];exact h6) (by rw [Qd];simp;omega) (by omega)
  refine ⟨ts',?_,h8⟩;unfold fb;rw [dw h,hno,if_neg Qe,h1,ay,if_neg (by omega),h3,ay]
  show aD (qD e [] l2) _=_;rw [h5,ay];show fb e f (acc++[(q.1,bs (bytesOf q.2))]) l3=_;rw [jI,h7,Qk];rfl
mutual
def stQ:St→Nat
 |.mk _ _ _ _ _ _ _ body els=>1+dZ body+dZ els
def dZ:List St→Nat
 |[]=>0
 |x::r=>stQ x+dZ r
end
theorem er {f deep n d:Nat}{w:List UInt8}{t:Tok}{r l1 l:List Tok}{s:Sh}(hd:doW w=d)(h0:d≠0)(h11:d < 11)(hn:n≠300)(ht:db t=kW w)(hs:cg e d r=.ok (s,l1))(hl:bl e [59] l1=.ok l) :
  dU e (f+1) deep n (t::r)=.ok (.mk d t.at_ s.a s.b s.t s.n s.e [] [],n+1,l):=by
 obtain ⟨k1,k2⟩:=Prod.mk.inj ht;obtain ⟨k2,k3⟩:=Prod.mk.inj k2;unfold dU;rw [k2,aF,hd,if_pos ⟨k1,h0⟩,if_neg hn,if_pos h11,hs,ay];show aD (bl e [59] l1) _=_;rw [hl];rfl
theorem EV {f deep n d n2:Nat}{w:List UInt8}{t:Tok}{r l1 l2:List Tok}{s:Sh}{b:List St}(hd:doW w=d)(h0:d≠0)(h11:¬d < 11)(hn:n≠300)(ht:db t=kW w)(hs:gx e d r=.ok (s,l1))(hb:bD e f deep (n+1) l1=.ok (b,n2,l2)) :
  dU e (f+1) deep n (t::r)=(if (d=11∨d=14)∧isT [101,108,115,101] l2=true then
   aD (bD e f deep n2 l2.tail) fun q=>.ok (.mk d t.at_ s.a s.b ⟨#[]⟩ 0 s.e b q.1,q.2.1,q.2.2) else .ok (.mk d t.at_ s.a s.b ⟨#[]⟩ 0 s.e b [],n2,l2)):=by
 obtain ⟨k1,k2⟩:=Prod.mk.inj ht;obtain ⟨k2,k3⟩:=Prod.mk.inj k2;unfold dU;rw [k2,aF,hd,if_pos ⟨k1,h0⟩,if_neg hn,if_neg h11,hs,ay];show aD (bD e f deep (n+1) l1) _=_;rw [hb,ay]
theorem Ht {deep:Nat}{x:St}(h:Sw deep x):∃w ks,stK x=kW w::ks∧(w==[125])=false∧(w==jf)=false:=by
 cases h with
 |@let_ _ d at_ a x hd _ _ =>
  rcases hd with rfl|rfl
  ·exact ⟨AP,_,rfl,by decide,by decide⟩
  ·exact ⟨Bq,_,rfl,by decide,by decide⟩
 |emit=>exact ⟨rK,_,rfl,by decide,by decide⟩
 |chan=>exact ⟨tY,_,rfl,by decide,by decide⟩
 |clone=>exact ⟨qs,_,rfl,by decide,by decide⟩
 |send=>exact ⟨qi,_,rfl,by decide,by decide⟩
 |@one _ d at_ a hd _ =>
  rcases hd with rfl|rfl|rfl
  ·exact ⟨rX,_,rfl,by decide,by decide⟩
  ·exact ⟨kA,_,rfl,by decide,by decide⟩
  ·exact ⟨sK,_,rfl,by decide,by decide⟩
 |spawn=>exact ⟨qH,_,rfl,by decide,by decide⟩
 |take=>exact ⟨ra,_,rfl,by decide,by decide⟩
 |for_=>exact ⟨Bg,_,rfl,by decide,by decide⟩
 |rep=>exact ⟨lI,_,rfl,by decide,by decide⟩
 |if_=>exact ⟨LQ,_,rfl,by decide,by decide⟩
def sd (l:List St):List Key:=kS [123]::(H0 l++[kS [125]])
abbrev SP (e:Int)(deep:Nat)(x:St):Prop:=∀(f n:Nat) (ts:List Tok) (ks:List Key),ts.map db=stK x++ks→isK jf ks=false→n+stQ x≤300→3*ts.length≤f →
 ∃x' ts',dU e f deep n ts=.ok (x',n+stQ x,ts')∧stZ false x'=stZ false x∧ts'.map db=ks
abbrev LP (e:Int)(deep:Nat)(l:List St):Prop:=∀(f n:Nat) (acc:List St) (ts:List Tok) (ks:List Key),ts.map db=H0 l++kS [125]::ks→n+dZ l≤300→3*ts.length+1≤f →
 ∃l' ts',cR e f deep acc n ts=.ok (acc++l',n+dZ l,ts')∧pd false l'=pd false l∧ts'.map db=ks
theorem AU {deep:Nat}{l:List St}(hl:LP e (deep+1) l)(hd:deep < 8){f n:Nat}{ts:List Tok}{ks:List Key}(h:ts.map db=sd l++ks)(hn:n+dZ l≤300)(hf:3*ts.length+2≤f) :
  ∃l' ts',bD e f deep n ts=.ok (l',n+dZ l,ts')∧pd false l'=pd false l∧ts'.map db=ks:=by
 obtain ⟨f,rfl⟩:∃g,f=g+1:=⟨f - 1,by omega⟩
 unfold sd at h;rw [Qu,Qk] at h;obtain ⟨t,r,rfl,ht,hr⟩:=keys_cons h;simp only [Qn] at hf;obtain ⟨l',ts',h1,h2,h3⟩:=hl f n [] r ks hr hn (by omega)
 refine ⟨l',ts',?_,h2,h3⟩;unfold bD;rw [dw h,iN,if_pos (by decide),if_neg (by omega)]
 exact h1
theorem Ez {d at_ at2:Int}{a b t:ByteArray}{n:Int}{es:List Ex}{body body' els els':List St}(h1:pd false body'=pd false body)(h2:pd false els'=pd false els) :
  stZ false (.mk d at_ a b t n es body' els')=stZ false (.mk d at2 a b t n es body els):=by
 unfold stZ;rw [h1,h2];rfl
theorem Cu {f deep n d:Nat}{w:List UInt8}{t:Tok}{r l1:List Tok}{s:Sh}{body els:List St}{ks:List Key}(hd:doW w=d)(h0:d≠0)(h11:¬d < 11)(hT:(d=11∨d=14)∨els=[])(ht:db t=kW w)
  (hs:gx e d r=.ok (s,l1)) (hl1:l1.map db=sd body++((if els.length=0 then [] else kW jf::sd els)++ks)) (helse:isK jf ks=false) (hdeep:deep < 8)
  (hB:LP e (deep+1) body) (hE:LP e (deep+1) els) (hn:n+(1+dZ body+dZ els)≤300) (hf:3*l1.length+2≤f) :
  ∃b q l,dU e (f+1) deep n (t::r)=.ok (.mk d t.at_ s.a s.b ⟨#[]⟩ 0 s.e b q,n+(1+dZ body+dZ els),l)∧pd false b=pd false body∧pd false q=pd false els∧l.map db=ks:=by
 obtain ⟨b,l2,h1,h2,h3⟩:=AU hB hdeep (n:=n+1) hl1 (by omega) hf
 rw [EV hd h0 h11 (by omega) ht hs h1]
 have k1:=aS hl1;have k2:=aS h3;rw [Qd] at k1
 by_cases he:els=[]
 ·subst he;have h3:l2.map db=ks:=h3;refine ⟨b,[],l2,?_,h2,rfl,h3⟩;rw [if_neg (fun h=>by
   have:=h.2;rw [dw h3,show isK [101,108,115,101] ks=false from helse] at this
   cases this)]
  rw [show n+1+dZ body=n+(1+dZ body+dZ []) by simp only [dZ];omega]
 ·have hne:¬els.length=0:=fun h=>he (List.eq_nil_of_length_eq_zero h);rw [if_neg hne] at h3;have hd2:d=11∨d=14:=hT.resolve_right he;have h3':l2.map db=kW jf::(sd els++ks):=h3;obtain ⟨t2,r2,rfl,ht2,hr2⟩:=keys_cons h3';simp only [Qn] at k2;obtain ⟨q,l3,h4,h5,h6⟩:=AU hE hdeep (f:=f) (n:=n+1+dZ body) hr2 (by omega) (by omega)
  refine ⟨b,q,l3,?_,h2,h5,h6⟩;rw [if_pos ⟨hd2,by rw [dw h3',wO];decide⟩]
  show aD (bD e f deep (n+1+dZ body) r2) _=_;rw [h4,ay];show (Except.ok (St.mk d t.at_ s.a s.b ⟨#[]⟩ 0 s.e b q,n+1+dZ body+dZ els,l3):PR St)=_;rw [show n+1+dZ body+dZ els=n+(1+dZ body+dZ els) by omega]
mutual
theorem PW:∀(x:St) {deep:Nat},Sw deep x→SP e deep x
 |.mk d at_ a b t n es body els,deep,h=>by
  intro f m ts ks hts helse hm hf;have hB:(∀y∈body,Sw (deep+1) y)→LP e (deep+1) body:=fun h=>Dm body h;have hE:(∀y∈els,Sw (deep+1) y)→LP e (deep+1) els:=fun h=>Dm els h;have hlen:=aS hts;have hq:1≤stQ (.mk d at_ a b t n es body els):=by
   unfold stQ;omega
  obtain ⟨w0,ks0,hk0,_,_⟩:=Ht h;have hpos:1≤ts.length:=by
   rw [hlen,hk0,Qu];simp
  clear hk0;obtain ⟨f,rfl⟩:∃g,f=g+1:=⟨f - 1,by omega⟩
  cases h with
  |@let_ _ _ _ _ x hd hn hx =>
   rcases hd with rfl|rfl
   ·have hts:ts.map db=kW AP::kN a::kS [61]::(exK x++(kS [59]::ks)):=by
     rw [hts];simp [stK,eP,mj,St.d,St.a,fmD,aT]
    obtain ⟨t,r,rfl,ht,hr⟩:=keys_cons hts;obtain ⟨l1,q1,q2⟩:=dW (e:=e) hr;obtain ⟨l2,q3,q4⟩:=eH (e:=e) q2;obtain ⟨l3,q5,q6⟩:=qC (e:=e) hx.1 hx.2 q4 (lF (by decide))
    obtain ⟨l4,q7,q8⟩:=eH (e:=e) q6;refine ⟨_,l4,(er (d:=1) (w:=AP) (s:={ a:=a,e:=[x] }) (l1:=l3) (by decide) (by decide) (by decide) (by omega) ht ?_ q7),Ez rfl rfl,q8⟩
    unfold cg;rw [if_neg (by decide),q1,ay,if_pos (by decide)]
    show aD (bl e [61] l1) _=_;rw [q3,ay,q5];rfl
   ·have hts:ts.map db=kW Bq::kN a::kS [61]::(exK x++(kS [59]::ks)):=by
     rw [hts];simp [stK,eP,mj,St.d,St.a,fmD,aT]
    obtain ⟨t,r,rfl,ht,hr⟩:=keys_cons hts;obtain ⟨l1,q1,q2⟩:=dW (e:=e) hr;obtain ⟨l2,q3,q4⟩:=eH (e:=e) q2;obtain ⟨l3,q5,q6⟩:=qC (e:=e) hx.1 hx.2 q4 (lF (by decide))
    obtain ⟨l4,q7,q8⟩:=eH (e:=e) q6;refine ⟨_,l4,(er (d:=2) (w:=Bq) (s:={ a:=a,e:=[x] }) (l1:=l3) (by decide) (by decide) (by decide) (by omega) ht ?_ q7),Ez rfl rfl,q8⟩
    unfold cg;rw [if_neg (by decide),q1,ay,if_pos (by decide)]
    show aD (bl e [61] l1) _=_;rw [q3,ay,q5];rfl
  |@emit _ _ x hx =>
   have hts:ts.map db=kW rK::(exK x++(kS [59]::ks)):=by
    rw [hts];simp [stK,eP,mj,St.d,fmD,aT]
   obtain ⟨t,r,rfl,ht,hr⟩:=keys_cons hts;obtain ⟨l3,q5,q6⟩:=qC (e:=e) hx.1 hx.2 hr (lF (by decide))
   obtain ⟨l4,q7,q8⟩:=eH (e:=e) q6;refine ⟨_,l4,(er (d:=3) (w:=rK) (s:={ e:=[x] }) (l1:=l3) (by decide) (by decide) (by decide) (by omega) ht ?_ q7),Ez rfl rfl,q8⟩
   unfold cg;rw [if_pos (by decide),q5]
   rfl
  |@chan _ _ _ _ _ _ ha hb hty h0 h1 =>
   have hts:ts.map db=kW tY::kN a::kN b::(vE t++(kU n::kS [59]::ks)):=by
    rw [hts];simp [stK,eP,mj,St.d,St.a,St.b,St.t,St.n,fmD,aT]
   obtain ⟨t1,r,rfl,ht,hr⟩:=keys_cons hts;obtain ⟨l1,q1,q2⟩:=dW (e:=e) hr;obtain ⟨l2,q3,q4⟩:=dW (e:=e) q2;obtain ⟨l3,q5,q6⟩:=Lk (e:=e) hty q4;obtain ⟨l4,q7,q8⟩:=M3 (e:=e) q6;obtain ⟨l5,q9,q10⟩:=eH (e:=e) q8;refine ⟨_,l5,(er (d:=4) (w:=tY) (s:={ a:=a,b:=b,t:=t,n:=n }) (l1:=l4) (by decide) (by decide) (by decide) (by omega) ht ?_ q9),Ez rfl rfl,q10⟩
   unfold cg;rw [if_neg (by decide),q1,ay,if_neg (by decide),if_pos (by decide)]
   show aD (ee e l1) _=_;rw [q3,ay];show aD (qD e [] l2) _=_;rw [q5,ay];show aD (Ey e l3) _=_;rw [q7,ay,jI]
  |@clone _ _ _ _ ha hb =>
   have hts:ts.map db=kW qs::kN a::kN b::kS [59]::ks:=by
    rw [hts];simp [stK,eP,mj,St.d,St.a,St.b,fmD,aT]
   obtain ⟨t1,r,rfl,ht,hr⟩:=keys_cons hts;obtain ⟨l1,q1,q2⟩:=dW (e:=e) hr;obtain ⟨l2,q3,q4⟩:=dW (e:=e) q2;obtain ⟨l5,q9,q10⟩:=eH (e:=e) q4;refine ⟨_,l5,(er (d:=5) (w:=qs) (s:={ a:=a,b:=b }) (l1:=l2) (by decide) (by decide) (by decide) (by omega) ht ?_ q9),Ez rfl rfl,q10⟩
   unfold cg;rw [if_neg (by decide),q1,ay,if_neg (by decide),if_neg (by decide),if_pos (by decide)]
   show aD (ee e l1) _=_;rw [q3,ay]
  |@send _ _ _ x ha hx =>
   have hts:ts.map db=kW qi::kN a::(exK x++(kS [59]::ks)):=by
    rw [hts];simp [stK,eP,mj,St.d,St.a,fmD,aT]
   obtain ⟨t1,r,rfl,ht,hr⟩:=keys_cons hts;obtain ⟨l1,q1,q2⟩:=dW (e:=e) hr;obtain ⟨l3,q5,q6⟩:=qC (e:=e) hx.1 hx.2 q2 (lF (by decide))
   obtain ⟨l5,q9,q10⟩:=eH (e:=e) q6;refine ⟨_,l5,(er (d:=6) (w:=qi) (s:={ a:=a,e:=[x] }) (l1:=l3) (by decide) (by decide) (by decide) (by omega) ht ?_ q9),Ez rfl rfl,q10⟩
   unfold cg;rw [if_neg (by decide),q1,ay,if_neg (by decide),if_neg (by decide),if_neg (by decide),if_pos (by decide)]
   show aD (gQ e l1) _=_;rw [q5,ay]
  |@one _ _ _ _ hd ha =>
   have hone:∀(k:Nat) (w:List UInt8),doW w=k→k≠0→k < 11→(k=7∨k=8∨k=9)→ts.map db=kW w::kN a::kS [59]::ks →
     ∃x' ts',dU e (f+1) deep m ts=.ok (x',m+stQ (.mk k at_ a e0 e0 0 [] [] []),ts')∧stZ false x'=stZ false (.mk k at_ a e0 e0 0 [] [] [])∧ts'.map db=ks:=by
    intro k w hw h0 h11 hk hts;obtain ⟨t1,r,rfl,ht,hr⟩:=keys_cons hts;obtain ⟨l1,q1,q2⟩:=dW (e:=e) hr;obtain ⟨l5,q9,q10⟩:=eH (e:=e) q2;refine ⟨_,l5,(er (d:=k) (w:=w) (s:={ a:=a }) (l1:=l1) hw h0 h11 (by omega) ht ?_ q9),Ez rfl rfl,q10⟩
    unfold cg;rw [if_neg (by omega),q1,ay,if_neg (by omega),if_neg (by omega),if_neg (by omega),if_neg (by omega),if_neg (by omega)]
   rcases hd with rfl|rfl|rfl
   ·exact hone 7 rX (by decide) (by decide) (by decide) (by decide) (by rw [hts];simp [stK,eP,mj,St.d,St.a,fmD,aT])
   ·exact hone 8 kA (by decide) (by decide) (by decide) (by decide) (by rw [hts];simp [stK,eP,mj,St.d,St.a,fmD,aT])
   ·exact hone 9 sK (by decide) (by decide) (by decide) (by decide) (by rw [hts];simp [stK,eP,mj,St.d,St.a,fmD,aT])
  |@spawn _ _ _ _ ha hl hx =>
   have hts:ts.map db=kW qH::kN a::kS [40]::(mj 0 es++kS [41]::kS [59]::ks):=by
    rw [hts];simp [stK,eP,St.d,St.a,fmD,aT]
   obtain ⟨t1,r,rfl,ht,hr⟩:=keys_cons hts;obtain ⟨l1,q1,q2⟩:=dW (e:=e) hr;obtain ⟨l2,q3,q4⟩:=eH (e:=e) q2;obtain ⟨l3,q5,q6⟩:=Hi (e:=e) es (acc:=[]) (f:=l2.length+1) hx q4 (by simpa using hl) (Zd _)
   obtain ⟨l5,q9,q10⟩:=eH (e:=e) q6;refine ⟨_,l5,(er (d:=10) (w:=qH) (s:={ a:=a,e:=es }) (l1:=l3) (by decide) (by decide) (by decide) (by omega) ht ?_ q9),Ez rfl rfl,q10⟩
   unfold cg;rw [if_neg (by decide),q1,ay,if_neg (by decide),if_neg (by decide),if_neg (by decide),if_neg (by decide),if_pos (by decide)]
   show aD (bl e [40] l1) _=_;rw [q3,ay,q5];rfl
  |@take _ _ _ _ _ _ ha hb hd hbd hel =>
   have hts:ts.map db=kW ra::kN a::kW ow::kN b::(sd body++((if els.length=0 then [] else kW jf::sd els)++ks)):=by
    rw [hts];simp [stK,eP,mj,St.d,St.a,St.b,fmD,aT,sd]
   obtain ⟨t1,r,rfl,ht,hr⟩:=keys_cons hts;obtain ⟨l1,q1,q2⟩:=dW (e:=e) hr;obtain ⟨l2,q3,q4⟩:=HJ (e:=e) q2;obtain ⟨l3,q5,q6⟩:=dW (e:=e) q4;have c1:=aS hts;have c2:=aS q6;simp only [Qn] at c1 hf;obtain ⟨b',q',l,g1,g2,g3,g4⟩:=Cu (e:=e) (d:=11) (w:=ra) (s:={ a:=a,b:=b }) (f:=f) (n:=m) (by decide) (by decide) (by decide) (.inl (.inl rfl)) ht (by
    unfold gx;rw [if_pos (by decide),q1,ay]
    show aD (bl e [102,114,111,109] l1) _=_;rw [show bl e [102,114,111,109] l1=_ from q3,ay,q5,ay]) q6 helse hd (hB hbd) (hE hel) hm (by omega)
   exact ⟨_,l,g1,Ez g2 g3,g4⟩
  |@for_ _ _ _ _ _ ha hb hd hbd =>
   have hts:ts.map db=kW Bg::kN a::kW ow::kN b::(sd body++((if ([]:List St).length=0 then [] else kW jf::sd [])++ks)):=by
    rw [hts];simp [stK,eP,mj,St.d,St.a,St.b,fmD,aT,sd]
   obtain ⟨t1,r,rfl,ht,hr⟩:=keys_cons hts;obtain ⟨l1,q1,q2⟩:=dW (e:=e) hr;obtain ⟨l2,q3,q4⟩:=HJ (e:=e) q2;obtain ⟨l3,q5,q6⟩:=dW (e:=e) q4;have c1:=aS hts;have c2:=aS q6;simp only [Qn] at c1 hf;obtain ⟨b',q',l,g1,g2,g3,g4⟩:=Cu (e:=e) (d:=12) (w:=Bg) (s:={ a:=a,b:=b }) (f:=f) (n:=m) (by decide) (by decide) (by decide) (.inr rfl) ht (by
    unfold gx;rw [if_pos (by decide),q1,ay]
    show aD (bl e [102,114,111,109] l1) _=_;rw [show bl e [102,114,111,109] l1=_ from q3,ay,q5,ay]) q6 helse hd (hB hbd) (hE (fun y hy=>absurd hy List.not_mem_nil)) hm (by omega)
   exact ⟨_,l,g1,Ez g2 g3,g4⟩
  |@rep _ _ x _ hx hd hbd =>
   have hts:ts.map db=kW lI::(exK x++(sd body++((if ([]:List St).length=0 then [] else kW jf::sd [])++ks))):=by
    rw [hts];simp [stK,eP,mj,St.d,fmD,aT,sd]
   obtain ⟨t1,r,rfl,ht,hr⟩:=keys_cons hts;obtain ⟨l3,q5,q6⟩:=qC (e:=e) hx.1 hx.2 hr (lF (by decide))
   have c1:=aS hts;have c2:=aS q6;have c3:=yH x;simp only [Qn,Qd] at c1 c2 hf;obtain ⟨b',q',l,g1,g2,g3,g4⟩:=Cu (e:=e) (d:=13) (w:=lI) (s:={ e:=[x] }) (f:=f) (n:=m) (by decide) (by decide) (by decide) (.inr rfl) ht (by
    unfold gx;rw [if_neg (by decide),q5,ay]) q6 helse hd (hB hbd) (hE (fun y hy=>absurd hy List.not_mem_nil)) hm (by omega)
   exact ⟨_,l,g1,Ez g2 g3,g4⟩
  |@if_ _ _ x _ _ hx hd hbd hel =>
   have hts:ts.map db=kW LQ::(exK x++(sd body++((if els.length=0 then [] else kW jf::sd els)++ks))):=by
    rw [hts];simp [stK,eP,mj,St.d,fmD,aT,sd]
   obtain ⟨t1,r,rfl,ht,hr⟩:=keys_cons hts;obtain ⟨l3,q5,q6⟩:=qC (e:=e) hx.1 hx.2 hr (lF (by decide))
   have c1:=aS hts;have c2:=aS q6;have c3:=yH x;simp only [Qn,Qd] at c1 c2 hf;obtain ⟨b',q',l,g1,g2,g3,g4⟩:=Cu (e:=e) (d:=14) (w:=LQ) (s:={ e:=[x] }) (f:=f) (n:=m) (by decide) (by decide) (by decide) (.inl (.inr rfl)) ht (by
    unfold gx;rw [if_neg (by decide),q5,ay]) q6 helse hd (hB hbd) (hE hel) hm (by omega)
   exact ⟨_,l,g1,Ez g2 g3,g4⟩
theorem Dm:∀(l:List St) {deep:Nat},(∀y∈l,Sw deep y)→LP e deep l
 |[],deep,_=>by
  intro f n acc ts ks hts hn hf;obtain ⟨f,rfl⟩:∃g,f=g+1:=⟨f - 1,by omega⟩
  have hts:ts.map db=kS [125]::ks:=hts;obtain ⟨t1,r,rfl,ht,hr⟩:=keys_cons hts;refine ⟨[],r,?_,rfl,hr⟩;unfold cR;rw [dw hts,iN,if_pos (by decide),Z1]
  rfl
 |x::l,deep,h=>by
  intro f n acc ts ks hts hn hf;have hX:SP e deep x:=PW x (h x Qg);have hL:LP e deep l:=Dm l (fun y hy=>h y (Q9 _ hy));obtain ⟨f,rfl⟩:∃g,f=g+1:=⟨f - 1,by omega⟩
  unfold H0 at hts;rw [Qk] at hts;unfold dZ at hn ⊢;have hel:isK jf (H0 l++kS [125]::ks)=false:=by
   cases l with
   |nil =>
    show isK jf (kS [125]::ks)=false;rw [iN];decide
   |cons y r =>
    obtain ⟨w,ks',h1,_,h3⟩:=Ht (h y (by simp))
    unfold H0;rw [h1,Qu,Qu,wO,h3]
  obtain ⟨x',l1,h1,h2,h3⟩:=hX f n ts _ hts hel (by omega) (by omega)
  obtain ⟨w,ks',g1,g2,g3⟩:=Ht (h x Qg);have k1:=aS hts;have k2:=aS h3;rw [Qd,g1,Qn] at k1;obtain ⟨l',l2,h4,h5,h6⟩:=hL f (n+stQ x) (acc++[x']) l1 ks h3 (by omega) (by omega)
  refine ⟨x'::l',l2,?_,?_,h6⟩
  ·unfold cR;rw [dw hts,g1,Qu,wO,g2,if_neg Qe,h1,ay];show cR e f deep (acc++[x']) (n+stQ x) l1=_;rw [h4,Qk,Nat.add_assoc];rfl
  ·unfold pd;rw [h2,h5]
end
end
end Go.Proofs.YtkeeboomikkojaaGreatDoor
