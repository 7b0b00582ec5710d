import Derived.Test.YtkeeboomikkojaaGreatDoorRn4
import Derived.Test.YtkeeboomikkojaaGreatDoorRn6
import Derived.Test.YtkeeboomikkojaaGreatDoorRn7
namespace Go.Proofs.YtkeeboomikkojaaGreatDoor
open Go Go.Sx Go.Sx.Tk Go.Sx.Rn Go.Proofs.YtkeeboomikkojaaGreatDoor.Sx
theorem DD {u:Nat}(h:u < 10):Lib.decDigits u=[UInt8.ofNat (48+u)]:=Lib.decDigits_one h
theorem Je {u:Nat}(h:¬u < 10):Lib.decDigits u=Lib.decDigits (u / 10)++[UInt8.ofNat (48+u % 10)]:=by
 rw [Lib.decDigits,dif_neg h]
theorem Lo {k:Nat}(h:k < 10):(UInt8.ofNat (48+k)).toNat=48+k:=by
 simp;omega
theorem Kp {k:Nat}(h:k < 10):Tk.dg (UInt8.ofNat (48+k))=true:=by
 unfold Tk.dg;rw [Lo h];simp;omega
theorem II:∀(u:Nat),(Lib.decDigits u).all Tk.dg=true:=by
 intro u
 induction u using Nat.strongRecOn with
 |ind u ih =>
  by_cases h:u < 10
  ·rw [DD h,List.all_cons,List.all_nil,Kp h];rfl
  ·rw [Je h,List.all_append,ih (u / 10) (by omega)]
   rw [List.all_cons,List.all_nil,Kp (show u % 10 < 10 by omega)]
   rfl
theorem IS {n:Int}(h:0≤n):Lib.itoa n=Lib.decDigits n.toNat:=by
 unfold Lib.itoa;rw [if_neg (by omega)]
theorem H4 {n:Int}(h:0≤n):(Lib.itoa n).all Tk.dg=true:=by
 rw [IS h];exact II _
def isT (s:List UInt8):List Tok→Bool
 |[]=>false
 |t::_=>t.kind !=2&&bytesOf t.text==s
def qu (e code:Int):List Tok→Int×Int
 |[]=>(if code=5 then 6 else code,e)
 |t::_=>(code,t.at_)
def aH {α β:Type}(r:Except (Int×Int) α)(f:α→Except (Int×Int) β):Except (Int×Int) β:=match r with
 |.error x=>.error x
 |.ok a=>f a
theorem aC {α β:Type}(a:α)(f:α→Except (Int×Int) β):aH (.ok a) f=f a:=rfl
def bR (op:Int)(a b:Ex):Ex:=.mk op ⟨#[]⟩ 0 [a,b]
def px (a:Ex):Ex:=.mk 3 ⟨#[]⟩ 0 [a]
def nX (n:Int):Ex:=.mk 1 ⟨#[]⟩ n []
def fI (s:ByteArray):Ex:=.mk 2 s 0 []
abbrev PR (α:Type):=Except (Int×Int) (α×Nat×List Tok)
mutual
def rK (e:Int):Nat→Nat→Nat→List Tok→PR Ex
 |0,_,_,_=>.error (5,0)
 |f+1,o,n,l=>aH (qM e f o n l) fun r =>
  if isT [60] r.2.2 then aH (qM e f o r.2.1 r.2.2.tail) fun q=>.ok (bR 7 r.1 q.1,q.2.1+1,q.2.2)
  else if isT [61,61] r.2.2 then aH (qM e f o r.2.1 r.2.2.tail) fun q=>.ok (bR 8 r.1 q.1,q.2.1+1,q.2.2)
  else .ok r
def qM (e:Int):Nat→Nat→Nat→List Tok→PR Ex
 |0,_,_,_=>.error (5,0)
 |f+1,o,n,l=>aH (fU e f o n l) fun r=>rE e f o r.1 r.2.1 r.2.2
def rE (e:Int):Nat→Nat→Ex→Nat→List Tok→PR Ex
 |0,_,_,_,_=>.error (5,0)
 |f+1,o,x,n,l =>
  if isT [43] l then aH (fU e f o n l.tail) fun q=>rE e f o (bR 4 x q.1) (q.2.1+1) q.2.2
  else if isT [45] l then aH (fU e f o n l.tail) fun q=>rE e f o (bR 5 x q.1) (q.2.1+1) q.2.2
  else .ok (x,n,l)
def fU (e:Int):Nat→Nat→Nat→List Tok→PR Ex
 |0,_,_,_=>.error (5,0)
 |f+1,o,n,l=>aH (cx e f o n l) fun r=>fZ e f o r.1 r.2.1 r.2.2
def fZ (e:Int):Nat→Nat→Ex→Nat→List Tok→PR Ex
 |0,_,_,_,_=>.error (5,0)
 |f+1,o,x,n,l =>
  if isT [42] l then aH (cx e f o n l.tail) fun q=>fZ e f o (bR 6 x q.1) (q.2.1+1) q.2.2
  else .ok (x,n,l)
def cx (e:Int):Nat→Nat→Nat→List Tok→PR Ex
 |0,_,_,_=>.error (5,0)
 |f+1,o,n,l =>
  if isT [40] l then
   (if o=60 then .error (qu e 7 l) else aH (rK e f (o+1) n l.tail) fun r=>if isT [41] r.2.2 then .ok (r.1,r.2.1,r.2.2.tail) else .error (qu e 5 r.2.2))
  else if isT [45] l then
   (if o=60 then .error (qu e 7 l) else aH (cx e f (o+1) (n+1) l.tail) fun r=>.ok (px r.1,r.2.1,r.2.2))
  else match l with
   |[]=>.error (6,e)
   |t::r=>if t.kind=3 then .ok (nX t.n,n+1,r) else if t.kind=2 then .ok (fI t.text,n+1,r) else .error (5,t.at_)
end
def iW (e:Int)(l:List Tok):Except (Int×Int) (Ex×List Tok):=match l with
 |[]=>.error (6,e)
 |t::r=>aH (rK e (4*(t::r).length+4) 0 0 (t::r)) fun q=>if 20 < q.2.1 then .error (8,t.at_) else .ok (q.1,q.2.2)
def eV (e:Int):List Tok→Except (Int×Int) (ByteArray×List Tok)
 |[]=>.error (6,e)
 |t::r=>if t.kind=2 then .ok (t.text,r) else .error (5,t.at_)
def Em (e:Int):List Tok→Except (Int×Int) (Int×List Tok)
 |[]=>.error (6,e)
 |t::r=>if t.kind=3 then .ok (t.n,r) else .error (5,t.at_)
def bH (e:Int)(s:List UInt8)(l:List Tok):Except (Int×Int) (List Tok):=if isT s l then .ok l.tail else .error (qu e 5 l)
def rR (e:Int)(acc:List UInt8):List Tok→Except (Int×Int) (List UInt8×List Tok)
 |[]=>.error (6,e)
 |t::r =>
  if isT [105,110,116] (t::r) then .ok (acc++[105],r)
  else if isT [115,101,110,100] (t::r)||isT [114,101,99,118] (t::r) then (if acc.length=3 then .error (7,t.at_) else rR e (acc++(bytesOf t.text).take 1) r)
  else .error (5,t.at_)
def eC (e:Int):Nat→List Ex→List Tok→Except (Int×Int) (List Ex×List Tok)
 |0,_,_=>.error (5,0)
 |f+1,acc,l =>
  if isT [41] l then .ok (acc,l.tail)
  else aH (if acc.length=0 then .ok l else bH e [44] l) fun l=>if acc.length=6 then .error (qu e 8 l) else aH (iW e l) fun q=>eC e f (acc++[q.1]) q.2
def fY (e:Int):Nat→List (ByteArray×ByteArray)→List Tok→Except (Int×Int) (List (ByteArray×ByteArray)×List Tok)
 |0,_,_=>.error (5,0)
 |f+1,acc,l =>
  if isT [41] l then .ok (acc,l.tail)
  else aH (if acc.length=0 then .ok l else bH e [44] l) fun l=>if acc.length=6 then .error (qu e 8 l) else
   aH (eV e l) fun q=>aH (rR e [] q.2) fun u=>fY e f (acc++[(q.1,bs u.1)]) u.2
def lg:List (List UInt8):=[[108,101,116],[115,101,116],[101,109,105,116],[99,104,97,110],[99,108,111,110,101],[115,101,110,100],[99,108,111,115,101],[97,98,97,110,100,111,110],[100,114,97,105,110],[115,112,97,119,110],[116,97,107,101],[102,111,114],[114,101,112,101,97,116],[105,102]]
def doW (s:List UInt8):Nat:=if s∈lg then lg.findIdx (fun w=>w==s)+1 else 0
structure Sh where
 a:ByteArray:=⟨#[]⟩
 b:ByteArray:=⟨#[]⟩
 t:ByteArray:=⟨#[]⟩
 n:Int:=0
 e:List Ex:=[]
def cz (e:Int)(d:Nat)(l:List Tok):Except (Int×Int) (Sh×List Tok) :=
 if d=3 then aH (iW e l) fun q=>.ok ({ e:=[q.1] },q.2)
 else aH (eV e l) fun a =>
  if d=1∨d=2 then aH (bH e [61] a.2) fun l=>aH (iW e l) fun q=>.ok ({ a:=a.1,e:=[q.1] },q.2)
  else if d=4 then aH (eV e a.2) fun b=>aH (rR e [] b.2) fun t=>aH (Em e t.2) fun n=>.ok ({ a:=a.1,b:=b.1,t:=bs t.1,n:=n.1 },n.2)
  else if d=5 then aH (eV e a.2) fun b=>.ok ({ a:=a.1,b:=b.1 },b.2)
  else if d=6 then aH (iW e a.2) fun q=>.ok ({ a:=a.1,e:=[q.1] },q.2)
  else if d=10 then aH (bH e [40] a.2) fun l=>aH (eC e (l.length+1) [] l) fun q=>.ok ({ a:=a.1,e:=q.1 },q.2)
  else .ok ({ a:=a.1 },a.2)
def iD (e:Int)(d:Nat)(l:List Tok):Except (Int×Int) (Sh×List Tok) :=
 if d=11∨d=12 then aH (eV e l) fun a=>aH (bH e [102,114,111,109] a.2) fun l=>aH (eV e l) fun b=>.ok ({ a:=a.1,b:=b.1 },b.2)
 else aH (iW e l) fun q=>.ok ({ e:=[q.1] },q.2)
mutual
def bQ (e:Int):Nat→Nat→Nat→List Tok→PR (List St)
 |0,_,_,_=>.error (5,0)
 |f+1,deep,n,l=>if isT [123] l then (if deep=8 then .error (qu e 7 l) else dC e f (deep+1) [] n l.tail) else .error (qu e 5 l)
def dC (e:Int):Nat→Nat→List St→Nat→List Tok→PR (List St)
 |0,_,_,_,_=>.error (5,0)
 |f+1,deep,acc,n,l=>if isT [125] l then .ok (acc,n,l.tail) else aH (eY e f deep n l) fun q=>dC e f deep (acc++[q.1]) q.2.1 q.2.2
def eY (e:Int):Nat→Nat→Nat→List Tok→PR St
 |0,_,_,_=>.error (5,0)
 |_+1,_,_,[]=>.error (6,e)
 |f+1,deep,n,t::r =>
  if t.kind=1∧doW (bytesOf t.text)≠0 then
   (if n=300 then .error (8,t.at_) else
    if doW (bytesOf t.text) < 11 then aH (cz e (doW (bytesOf t.text)) r) fun s=>aH (bH e [59] s.2) fun l=>.ok (.mk (doW (bytesOf t.text)) t.at_ s.1.a s.1.b s.1.t s.1.n s.1.e [] [],n+1,l)
    else aH (iD e (doW (bytesOf t.text)) r) fun s=>aH (bQ e f deep (n+1) s.2) fun b =>
     if (doW (bytesOf t.text)=11∨doW (bytesOf t.text)=14)∧isT [101,108,115,101] b.2.2=true then
      aH (bQ e f deep b.2.1 b.2.2.tail) fun q=>.ok (.mk (doW (bytesOf t.text)) t.at_ s.1.a s.1.b ⟨#[]⟩ 0 s.1.e b.1 q.1,q.2.1,q.2.2)
     else .ok (.mk (doW (bytesOf t.text)) t.at_ s.1.a s.1.b ⟨#[]⟩ 0 s.1.e b.1 [],b.2.1,b.2.2))
  else .error (5,t.at_)
end
def iE (e:Int)(n:Nat)(l:List Tok):PR Sg:=match l with
 |[]=>.error (6,e)
 |t::r=>aH (eV e r) fun a=>aH (bH e [40] a.2) fun l=>aH (fY e (l.length+1) [] l) fun ps =>
  aH (bQ e (3*ps.2.length+3) 0 n ps.2) fun b=>.ok (⟨a.1,t.at_,ps.1,b.1⟩,b.2.1,b.2.2)
def dw (e:Int):Nat→List Sg→Nat→List Tok→Except (Int×Int) (List Sg)
 |0,_,_,_=>.error (5,0)
 |f+1,acc,n,l =>
  if l.length=0∧acc.length≠0 then .ok acc
  else if isT [115,116,97,103,101] l then (if acc.length=10 then .error (qu e 8 l) else aH (iE e n l) fun q=>dw e f (acc++[q.1]) q.2.1 q.2.2)
  else .error (qu e 5 l)
def tc (e:Int)(l:List Tok):Except (Int×Int) (List Sg):=dw e (l.length+2) [] 0 l
abbrev Key:=Int×ByteArray×Int
def dQ (t:Tok):Key:=(t.kind,t.text,t.n)
def kS (l:List UInt8):Key:=(4,bs l,0)
def kW (l:List UInt8):Key:=(1,bs l,0)
def kN (s:ByteArray):Key:=(2,s,0)
def kU (n:Int):Key:=(3,bs (Lib.itoa n),n)
def isK (s:List UInt8):List Key→Bool
 |[]=>false
 |k::_=>k.1 !=2&&bytesOf k.2.1==s
theorem ef {s:List UInt8}{ts:List Tok}{ks:List Key}(h:ts.map dQ=ks):isT s ts=isK s ks:=by
 subst h;cases ts<;>rfl
theorem keys_cons {ts:List Tok}{k:Key}{ks:List Key}(h:ts.map dQ=k::ks):∃t r,ts=t::r∧dQ t=k∧r.map dQ=ks:=by
 obtain ⟨t,r,h1,h2,h3⟩:=List.map_eq_cons_iff.1 h;exact ⟨t,r,h1,h2,h3⟩
theorem jJ {s l:List UInt8}{ks:List Key}:isK s (kS l::ks)=(l==s):=by
 simp [isK,kS,aL]
theorem yD {s l:List UInt8}{ks:List Key}:isK s (kW l::ks)=(l==s):=by
 simp [isK,kW,aL]
theorem HQ {s:List UInt8}{x:ByteArray}{ks:List Key}:isK s (kN x::ks)=false:=by
 simp [isK,kN]
theorem Ls {s:List UInt8}{n:Int}{ks:List Key}(h0:0≤n)(hs:∀c∈s,dg c=false)(hne:s≠[]):isK s (kU n::ks)=false:=by
 have h1:=H4 h0;have h2:(Lib.itoa n==s)=false:=by
  rw [Qa];rintro rfl;cases hl:Lib.itoa n with
  |nil=>exact hne hl
  |cons c r =>
   rw [hl] at h1 hs;rw [List.all_cons,hs c Qg] at h1;cases h1
 simp only [isK,kU,aL,h2,Bool.and_false]
def vI (m:Int)(q:Int×List Key):List Key:=if rk q.1 < m then kS [40]::(q.2++[kS [41]]) else q.2
def sgnK (op:Int):List UInt8:=if op=4 then [43] else if op=5 then [45] else if op=6 then [42] else if op=7 then [60] else [61,61]
def NA (op:Int)(nm:ByteArray)(n:Int)(ts:List (Int×List Key)):List Key :=
 if op=1 then [kU n] else if op=2 then [kN nm] else if op=3 then kS [45]::vI 4 (ts.getD 0 (0,[]))
 else vI (lmO op) (ts.getD 0 (0,[]))++kS (sgnK op)::vI (rk op+1) (ts.getD 1 (0,[]))
mutual
def exK:Ex→List Key
 |.mk op nm n l=>NA op nm n (exKs l)
def exKs:List Ex→List (Int×List Key)
 |[]=>[]
 |x::r=>(x.op,exK x)::exKs r
end
inductive Xw:Ex→Prop
 |num {n:Int}:0≤n→n < 1000000000000000000→Xw (nX n)
 |name {s:ByteArray}:aU s=true→Xw (fI s)
 |neg {a:Ex}:Xw a→Xw (px a)
 |T {op:Int} {a b:Ex}:4≤op→op≤8→Xw a→Xw b→Xw (bR op a b)
theorem CD {s:ByteArray}(h:emp s):s=⟨#[]⟩:=bW h
mutual
theorem Pk:∀(x:Ex),exF x=0→Xw x
 |.mk op nm n l,h=>by
  obtain ⟨h1,h2⟩:=Iu h;obtain ⟨a1,a2,a3,a4,a5,a6,a7,a8⟩:=IV h1;have a1:1≤op:=a1;have a2:op≤8:=a2;have a3:(l.length:Int)=fD op:=a3;have a4:n≠0→op=1:=a4;have a5:¬emp nm→op=2:=a5;have a6:op=2→aU nm=true:=a6;have a7:0≤n:=a7;have a8:n < 1000000000000000000:=a8;have hn:op≠1→n=0:=fun hh=>Q3 fun h=>hh (a4 h);have hm:op≠2→nm=⟨#[]⟩:=fun hh=>CD (Classical.byContradiction fun h=>hh (a5 h));have hl:=GF l h2;unfold fD at a3
  match l,a3,hl with
  |[],a3,_ =>
   by_cases e1:op=1
   ·subst e1;rw [hm (by decide)]
    exact .num a7 a8
   ·by_cases e2:op=2
    ·subst e2;rw [hn (by decide)]
     exact .name (a6 rfl)
    ·rw [if_neg (by omega)] at a3
     split at a3<;>cases a3
  |[a],a3,hl =>
   have e3:op=3:=by
    split at a3
    ·cases a3
    ·split at a3
     ·assumption
     ·cases a3
   subst e3;rw [hn (by decide),hm (by decide)]
   exact .neg (hl a Qg)
  |[a,b],a3,hl =>
   have e3:¬(op=1∨op=2)∧op≠3:=by
    split at a3
    ·cases a3
    ·split at a3
     ·cases a3
     ·exact ⟨by assumption,by assumption⟩
   rw [hn (by omega),hm (by omega)]
   exact .T (by omega) a2 (hl a Qg) (hl b (Q9 _ Qg))
  |a::b::c::r,a3,_ =>
   simp only [Qn] at a3
   split at a3
   ·omega
   ·split at a3<;>omega
theorem GF:∀(l:List Ex),pI l=0→∀x∈l,Xw x
 |[],_,x,hx=>absurd hx List.not_mem_nil
 |y::r,h,x,hx=>by
  unfold pI at h;obtain ⟨h1,h2⟩:=lT h;rcases List.mem_cons.1 hx with e|hx
  ·rw [e];exact Pk y h1
  ·exact GF r h2 x hx
end
theorem Ln (n:Int):exK (nX n)=[kU n]:=rfl
theorem Jl (s:ByteArray):exK (fI s)=[kN s]:=rfl
theorem Hk (a:Ex):exK (px a)=kS [45]::vI 4 (a.op,exK a):=rfl
theorem ya {op:Int}(h1:4≤op)(a b:Ex):exK (bR op a b)=vI (lmO op) (a.op,exK a)++kS (sgnK op)::vI (rk op+1) (b.op,exK b):=by
 show NA op ⟨#[]⟩ 0 [(a.op,exK a),(b.op,exK b)]=_;unfold NA;rw [if_neg (by omega),if_neg (by omega),if_neg (by omega)]
 rfl
theorem pT (op:Int)(a b:Ex):exN (bR op a b)=exN a+exN b+1:=by
 simp only [bR,exN,cZ];omega
theorem Hr (a:Ex):exN (px a)=exN a+1:=by
 simp only [px,exN,cZ];omega
theorem tt (x:Ex):1≤exN x:=by
 rw [gF];omega
def EQ (ks:List Key):Prop:=isK [42] ks=false∧isK [43] ks=false∧isK [45] ks=false∧isK [60] ks=false∧isK [61,61] ks=false
theorem nk {l:List UInt8}{ks:List Key}(h:l∉[[42],[43],[45],[60],[61,61]]):EQ (kS l::ks):=by
 simp only [List.mem_cons,List.not_mem_nil,or_false,not_or] at h;unfold EQ;simp only [jJ];simp [h]
theorem tE {m:Int}{q:Int×List Key}(h:m≤rk q.1):vI m q=q.2:=by
 unfold vI;rw [if_neg (by omega)]
theorem IM {m:Int}{q:Int×List Key}(h:rk q.1 < m):vI m q=kS [40]::(q.2++[kS [41]]):=by
 unfold vI;rw [if_pos h]
theorem Mf (op:Int)(nm:ByteArray)(n:Int)(ts:List (Int×List Key)):1≤(NA op nm n ts).length:=by
 unfold NA
 split
 ·simp
 split
 ·simp
 split
 ·simp
 ·rw [Qd,Qn];omega
theorem AE (x:Ex):1≤(exK x).length:=by
 cases x;exact Mf _ _ _ _
theorem BN (m:Int)(x:Ex):1≤(vI m (x.op,exK x)).length:=by
 have:=AE x;unfold vI
 split
 ·simp
 ·exact this
theorem bf {ts:List Tok}{ks:List Key}(h:ts.map dQ=ks):ts.length=ks.length:=by
 rw [←h,Z5]
abbrev AT (e:Int)(x:Ex):Prop:=∀{f o n:Nat} {ts:List Tok} {ks:List Key},ts.map dQ=exK x++ks→EQ ks→o+2*exN x≤60→4*ts.length+4≤f →
 ∃ts',rK e f o n ts=.ok (x,n+exN x,ts')∧ts'.map dQ=ks
abbrev ST (e:Int)(x:Ex):Prop:=∀{f o n:Nat} {ts:List Tok} {ks:List Key},ts.map dQ=vI 2 (x.op,exK x)++ks→isK [42] ks=false→o+2*exN x≤60→(rk x.op < 2→o+2*exN x+1≤60)→4*ts.length+3≤f →
 ∃f' ts',qM e f o n ts=rE e f' o x (n+exN x) ts'∧ts'.map dQ=ks∧4*ts'.length+3≤f'
abbrev PT (e:Int)(x:Ex):Prop:=∀{f o n:Nat} {ts:List Tok} {ks:List Key},ts.map dQ=vI 3 (x.op,exK x)++ks→o+2*exN x≤60→(rk x.op < 3→o+2*exN x+1≤60)→4*ts.length+2≤f →
 ∃f' ts',fU e f o n ts=fZ e f' o x (n+exN x) ts'∧ts'.map dQ=ks∧4*ts'.length+2≤f'
abbrev UT (e:Int)(x:Ex):Prop:=∀{f o n:Nat} {ts:List Tok} {ks:List Key},ts.map dQ=vI 4 (x.op,exK x)++ks→o+2*exN x≤60→(rk x.op < 4→o+2*exN x+1≤60)→4*ts.length+1≤f →
 ∃ts',cx e f o n ts=.ok (x,n+exN x,ts')∧ts'.map dQ=ks
section
variable  {e:Int}{x:Ex}
theorem tA {f o n:Nat}{ts:List Tok}{ks:List Key}(h:ts.map dQ=ks)(hs:isK [42] ks=false)(hf:1≤f):fZ e f o x n ts=.ok (x,n,ts):=by
 obtain ⟨f,rfl⟩:∃g,f=g+1:=⟨f - 1,by omega⟩
 unfold fZ;rw [ef h,hs];rfl
theorem uw {f o n:Nat}{ts:List Tok}{ks:List Key}(h:ts.map dQ=ks)(hs:isK [43] ks=false)(hs':isK [45] ks=false)(hf:1≤f):rE e f o x n ts=.ok (x,n,ts):=by
 obtain ⟨f,rfl⟩:∃g,f=g+1:=⟨f - 1,by omega⟩
 unfold rE;rw [ef h,ef h,hs,hs'];rfl
theorem AW (hr:2≤rk x.op)(hS:ST e x):AT e x:=by
 intro f o n ts ks hts hst hb hf;obtain ⟨f,rfl⟩:∃g,f=g+1:=⟨f - 1,by omega⟩
 obtain ⟨f',ts',h1,h2,h3⟩:=hS (f:=f) (o:=o) (n:=n) (ts:=ts) (ks:=ks) (by rw [tE hr];exact hts) hst.1 hb (fun h=>by omega) (by omega)
 refine ⟨ts',?_,h2⟩;unfold rK;rw [h1,uw h2 hst.2.1 hst.2.2.1 (by omega),aC]
 show (if isT [60] ts' then _ else _)=_
 rw [ef h2,hst.2.2.2.1,if_neg Qe];show (if isT [61,61] ts' then _ else _)=_
 rw [ef h2,hst.2.2.2.2,if_neg Qe]
theorem zY (hr:rk x.op≠2)(hP:PT e x):ST e x:=by
 intro f o n ts ks hts hst hb hb' hf;obtain ⟨f,rfl⟩:∃g,f=g+1:=⟨f - 1,by omega⟩
 have hbr:vI 2 (x.op,exK x)=vI 3 (x.op,exK x):=by
  unfold vI
  by_cases h:rk x.op < 2
  ·rw [if_pos h,if_pos (show rk x.op < 3 by omega)]
  ·rw [if_neg h,if_neg (show ¬rk x.op < 3 by omega)]
 obtain ⟨f',ts',h1,h2,h3⟩:=hP (f:=f) (o:=o) (n:=n) (ts:=ts) (ks:=ks) (by rw [←hbr];exact hts) hb (fun h=>hb' (by omega)) (by omega)
 refine ⟨f,ts',?_,h2,?_⟩
 ·conv=>lhs;unfold qM
  rw [h1,tA h2 hst (by omega),aC]
 ·have:=bf hts;have:=bf h2;have:=BN 2 x;simp only [Qd] at *;omega
theorem zZ (hr:rk x.op≠3)(hU:UT e x):PT e x:=by
 intro f o n ts ks hts hb hb' hf;obtain ⟨f,rfl⟩:∃g,f=g+1:=⟨f - 1,by omega⟩
 have hbr:vI 3 (x.op,exK x)=vI 4 (x.op,exK x):=by
  unfold vI
  by_cases h:rk x.op < 3
  ·rw [if_pos h,if_pos (show rk x.op < 4 by omega)]
  ·rw [if_neg h,if_neg (show ¬rk x.op < 4 by omega)]
 obtain ⟨ts',h1,h2⟩:=hU (f:=f) (o:=o) (n:=n) (ts:=ts) (ks:=ks) (by rw [←hbr];exact hts) hb (fun h=>hb' (by omega)) (by omega)
 refine ⟨f,ts',?_,h2,?_⟩
 ·conv=>lhs;unfold fU
  rw [h1,aC]
 ·have:=bf hts;have:=bf h2;have:=BN 3 x;simp only [Qd] at *;omega
theorem FU (hr:rk x.op < 4)(hA:AT e x):UT e x:=by
 intro f o n ts ks hts hb hb' hf;obtain ⟨f,rfl⟩:∃g,f=g+1:=⟨f - 1,by omega⟩
 rw [IM hr,Qu,Qk] at hts;obtain ⟨t,r,rfl,ht,hr'⟩:=keys_cons hts;have hb2:=hb' hr;obtain ⟨ts',h1,h2⟩:=hA (f:=f) (o:=o+1) (n:=n) (ts:=r) (ks:=[kS [41]]++ks) hr' (nk (by decide)) (by omega) (by simp only [Qn] at hf;omega)
 obtain ⟨t2,r2,rfl,ht2,hr2⟩:=keys_cons h2;refine ⟨r2,?_,hr2⟩;unfold cx;rw [ef hts,jJ,if_pos (by decide),if_neg (by omega)]
 show aH (rK e f (o+1) n r) _=_;rw [h1,aC];show (if isT [41] (t2::r2) then _ else _)=_
 rw [ef h2];rfl
theorem Pb {m:Int}(h0:0≤m):UT e (nX m):=by
 intro f o n ts ks hts hb hb' hf;obtain ⟨f,rfl⟩:∃g,f=g+1:=⟨f - 1,by omega⟩
 rw [tE (show (4:Int)≤rk 1 by decide)] at hts
 obtain ⟨t,r,rfl,ht,hr⟩:=keys_cons hts;refine ⟨r,?_,hr⟩;unfold cx;rw [ef hts,ef hts,Ln];show (if isK [40] (kU m::([]++ks)) then _ else if isK [45] (kU m::([]++ks)) then _ else _)=_
 rw [Ls h0 (by decide) (by decide),Ls h0 (by decide) (by decide),if_neg Qe,if_neg Qe]
 obtain ⟨k1,k2⟩:=Prod.mk.inj ht;obtain ⟨k2,k3⟩:=Prod.mk.inj k2;show (if t.kind=3 then _ else _)=_
 rw [if_pos k1,k3];rfl
theorem NE {s:ByteArray}:UT e (fI s):=by
 intro f o n ts ks hts hb hb' hf;obtain ⟨f,rfl⟩:∃g,f=g+1:=⟨f - 1,by omega⟩
 rw [tE (show (4:Int)≤rk 2 by decide)] at hts
 obtain ⟨t,r,rfl,ht,hr⟩:=keys_cons hts;refine ⟨r,?_,hr⟩;unfold cx;rw [ef hts,ef hts,Jl];show (if isK [40] (kN s::([]++ks)) then _ else if isK [45] (kN s::([]++ks)) then _ else _)=_
 rw [HQ,HQ,if_neg Qe,if_neg Qe];obtain ⟨k1,k2⟩:=Prod.mk.inj ht;obtain ⟨k2,k3⟩:=Prod.mk.inj k2;show (if t.kind=3 then _ else if t.kind=2 then _ else _)=_
 rw [if_neg (by rw [k1];decide),if_pos k1,k2]
 rfl
theorem PE {a:Ex}(hU:UT e a):UT e (px a):=by
 intro f o n ts ks hts hb hb' hf;obtain ⟨f,rfl⟩:∃g,f=g+1:=⟨f - 1,by omega⟩
 rw [tE (show (4:Int)≤rk 3 by decide),Hk,Qu] at hts
 obtain ⟨t,r,rfl,ht,hr⟩:=keys_cons hts;rw [Hr] at hb ⊢;obtain ⟨ts',h1,h2⟩:=hU (f:=f) (o:=o+1) (n:=n+1) hr (by omega) (fun _=>by omega) (by simp only [Qn] at hf;omega)
 refine ⟨ts',?_,h2⟩;unfold cx;rw [ef hts,ef hts,jJ,jJ,if_neg (by decide),if_pos (by decide),if_neg (by omega)]
 show aH (cx e f (o+1) (n+1) r) _=_;rw [h1,aC];show (Except.ok (px a,n+1+exN a,ts'):PR Ex)=_;rw [show n+1+exN a=n+(exN a+1) by omega]
theorem PL {a b:Ex}(hP:PT e a)(hU:UT e b):PT e (bR 6 a b):=by
 intro f o n ts ks hts hb hb' hf;rw [tE (show (3:Int)≤rk 6 by decide),ya (by decide),Qk,Qu] at hts
 rw [pT] at hb ⊢;have hb1:=tt b;have ha1:=tt a;obtain ⟨f1,ts1,h1,h2,h3⟩:=hP (f:=f) (o:=o) (n:=n) hts (by omega) (fun _=>by omega) hf
 obtain ⟨t,r,rfl,ht,hr⟩:=keys_cons h2;simp only [Qn] at h3;obtain ⟨g,rfl⟩:∃g,f1=g+1:=⟨f1 - 1,by omega⟩
 obtain ⟨ts',h4,h5⟩:=hU (f:=g) (o:=o) (n:=n+exN a) hr (by omega) (fun _=>by omega) (by omega)
 refine ⟨g,ts',?_,h5,?_⟩
 ·rw [h1]
  conv=>lhs;unfold fZ
  rw [ef h2,jJ,if_pos (by decide)]
  show aH (cx e g o (n+exN a) r) _=_;rw [h4,aC];show fZ e g o (bR 6 a b) (n+exN a+exN b+1) ts'=_;rw [show n+exN a+exN b+1=n+(exN a+exN b+1) by omega]
 ·have:=bf hr;have:=bf h5;simp only [Qd] at *;omega
theorem PY {op:Int}(ho:op=4∨op=5){a b:Ex}(hS:ST e a)(hP:PT e b):ST e (bR op a b):=by
 intro f o n ts ks hts hst hb hb' hf;have hr2:rk op=2:=by rcases ho with rfl|rfl<;>decide
 have hl2:lmO op=2:=by rcases ho with rfl|rfl<;>decide
 rw [tE (show (2:Int)≤rk op by omega),ya (by omega),Qk,Qu,hr2,hl2] at hts
 rw [pT] at hb ⊢;have hb1:=tt b;have ha1:=tt a;obtain ⟨f1,ts1,h1,h2,h3⟩:=hS (f:=f) (o:=o) (n:=n) hts (by rw [jJ];rcases ho with rfl|rfl<;>decide) (by omega) (fun _=>by omega) hf
 obtain ⟨t,r,rfl,ht,hr⟩:=keys_cons h2;simp only [Qn] at h3;obtain ⟨g,rfl⟩:∃g,f1=g+1:=⟨f1 - 1,by omega⟩
 obtain ⟨f2,ts2,h4,h5,h6⟩:=hP (f:=g) (o:=o) (n:=n+exN a) hr (by omega) (fun _=>by omega) (by omega)
 refine ⟨g,ts2,?_,h5,?_⟩
 ·rw [h1]
  conv=>lhs;unfold rE
  rw [ef h2,ef h2,jJ,jJ];rcases ho with rfl|rfl
  ·rw [if_pos (by decide)]
   show aH (fU e g o (n+exN a) r) _=_;rw [h4,tA h5 hst (by omega),aC]
   show rE e g o (bR 4 a b) (n+exN a+exN b+1) ts2=_;rw [show n+exN a+exN b+1=n+(exN a+exN b+1) by omega]
  ·rw [if_neg (by decide),if_pos (by decide)]
   show aH (fU e g o (n+exN a) r) _=_;rw [h4,tA h5 hst (by omega),aC]
   show rE e g o (bR 5 a b) (n+exN a+exN b+1) ts2=_;rw [show n+exN a+exN b+1=n+(exN a+exN b+1) by omega]
 ·have:=bf hr;have:=bf h5;simp only [Qd] at *;omega
theorem O5 {op:Int}(ho:op=7∨op=8){a b:Ex}(hS:ST e a)(hT:ST e b):AT e (bR op a b):=by
 intro f o n ts ks hts hst hb hf;have hr2:rk op=1:=by rcases ho with rfl|rfl<;>decide
 have hl2:lmO op=2:=by rcases ho with rfl|rfl<;>decide
 rw [ya (by omega),Qk,Qu,hr2,hl2] at hts
 rw [pT] at hb ⊢;have hb1:=tt b;have ha1:=tt a;obtain ⟨f,rfl⟩:∃g,f=g+1:=⟨f - 1,by omega⟩
 obtain ⟨f1,ts1,h1,h2,h3⟩:=hS (f:=f) (o:=o) (n:=n) hts (by rw [jJ];rcases ho with rfl|rfl<;>decide) (by omega) (fun _=>by omega) (by omega)
 have h1':=uw (e:=e) (x:=a) (f:=f1) (o:=o) (n:=n+exN a) h2 (by rw [jJ];rcases ho with rfl|rfl<;>decide) (by rw [jJ];rcases ho with rfl|rfl<;>decide) (by omega)
 obtain ⟨t,r,rfl,ht,hr⟩:=keys_cons h2;simp only [Qn] at h3;have hlen:=bf hts;have hlr:=bf hr;have han:=BN 2 a;rw [Qd,Qn,Qd] at hlen;rw [Qd] at hlr;obtain ⟨f2,ts2,h4,h5,h6⟩:=hT (f:=f) (o:=o) (n:=n+exN a) hr hst.1 (by omega) (fun _=>by omega) (by omega)
 refine ⟨ts2,?_,h5⟩;unfold rK;rw [h1,h1',aC];show (if isT [60] (t::r) then aH (qM e f o (n+exN a) r) _ else if isT [61,61] (t::r) then aH (qM e f o (n+exN a) r) _ else _)=_
 rw [h4,uw h5 hst.2.1 hst.2.2.1 (by omega),aC,aC,ef h2,ef h2,jJ,jJ]
 rcases ho with rfl|rfl
 ·rw [if_pos (by decide)]
  show (Except.ok (bR 7 a b,n+exN a+exN b+1,ts2):PR Ex)=_;rw [show n+exN a+exN b+1=n+(exN a+exN b+1) by omega]
 ·rw [if_neg (by decide),if_pos (by decide)]
  show (Except.ok (bR 8 a b,n+exN a+exN b+1,ts2):PR Ex)=_;rw [show n+exN a+exN b+1=n+(exN a+exN b+1) by omega]
theorem lv (e:Int):∀{x:Ex},Xw x→UT e x∧PT e x∧ST e x∧AT e x:=by
 intro x hx
 induction hx with
 |@num m h0 h1 =>
  have u:UT e (nX m):=Pb h0;have p:PT e (nX m):=zZ (x:=nX m) (show rk 1≠3 by decide) u
  have s:ST e (nX m):=zY (x:=nX m) (show rk 1≠2 by decide) p
  exact ⟨u,p,s,AW (x:=nX m) (show 2≤rk 1 by decide) s⟩
 |@name m h0 =>
  have u:UT e (fI m):=NE;have p:PT e (fI m):=zZ (x:=fI m) (show rk 2≠3 by decide) u
  have s:ST e (fI m):=zY (x:=fI m) (show rk 2≠2 by decide) p
  exact ⟨u,p,s,AW (x:=fI m) (show 2≤rk 2 by decide) s⟩
 |@neg a _ ih =>
  have u:UT e (px a):=PE ih.1;have p:PT e (px a):=zZ (x:=px a) (show rk 3≠3 by decide) u
  have s:ST e (px a):=zY (x:=px a) (show rk 3≠2 by decide) p
  exact ⟨u,p,s,AW (x:=px a) (show 2≤rk 3 by decide) s⟩
 |@T op a b h4 h8 _ _ iha ihb =>
  by_cases h6:op=6
  ·subst h6;have p:PT e (bR 6 a b):=PL iha.2.1 ihb.1;have s:ST e (bR 6 a b):=zY (x:=bR 6 a b) (show rk 6≠2 by decide) p
   have c:AT e (bR 6 a b):=AW (x:=bR 6 a b) (show 2≤rk 6 by decide) s
   exact ⟨FU (x:=bR 6 a b) (show rk 6 < 4 by decide) c,p,s,c⟩
  ·by_cases h45:op=4∨op=5
   ·have hr:rk op=2:=by rcases h45 with rfl|rfl<;>decide
    have s:ST e (bR op a b):=PY h45 iha.2.2.1 ihb.2.1;have c:AT e (bR op a b):=AW (x:=bR op a b) (show 2≤rk op by omega) s
    have u:UT e (bR op a b):=FU (x:=bR op a b) (show rk op < 4 by omega) c
    exact ⟨u,zZ (x:=bR op a b) (show rk op≠3 by omega) u,s,c⟩
   ·have h78:op=7∨op=8:=by omega
    have hr:rk op=1:=by rcases h78 with rfl|rfl<;>decide
    have c:AT e (bR op a b):=O5 h78 iha.2.2.1 ihb.2.2.1;have u:UT e (bR op a b):=FU (x:=bR op a b) (show rk op < 4 by omega) c
    have p:PT e (bR op a b):=zZ (x:=bR op a b) (show rk op≠3 by omega) u
    exact ⟨u,p,zY (x:=bR op a b) (show rk op≠2 by omega) p,c⟩
theorem rO {x:Ex}(hx:Xw x)(hn:exN x≤20){ts:List Tok}{ks:List Key}(hts:ts.map dQ=exK x++ks)(hst:EQ ks):∃ts',iW e ts=.ok (x,ts')∧ts'.map dQ=ks:=by
 obtain ⟨ts',h1,h2⟩:=(lv e hx).2.2.2 (f:=4*ts.length+4) (o:=0) (n:=0) hts hst (by omega) (Zc _)
 have hl:=bf hts;have hne:=AE x;rw [Qd] at hl;cases ts with
 |nil=>simp at hl;omega
 |cons t r =>
  refine ⟨ts',?_,h2⟩;unfold iW;show aH (rK e (4*(t::r).length+4) 0 0 (t::r)) _=_;rw [h1,aC];show (if 20 < 0+exN x then _ else _)=_
  rw [if_neg (by omega)]
end
def HD:List UInt8:=[108,101,116]
def F5:List UInt8:=[115,101,116]
def vx:List UInt8:=[101,109,105,116]
def As:List UInt8:=[99,104,97,110]
def vj:List UInt8:=[99,108,111,110,101]
def uN:List UInt8:=[115,101,110,100]
def Aa:List UInt8:=[114,101,99,118]
def xE:List UInt8:=[99,108,111,115,101]
def ss:List UInt8:=[97,98,97,110,100,111,110]
def yc:List UInt8:=[100,114,97,105,110]
def vf:List UInt8:=[115,112,97,119,110]
def vi:List UInt8:=[116,97,107,101]
def F4:List UInt8:=[102,111,114]
def uL:List UInt8:=[102,114,111,109]
def sU:List UInt8:=[114,101,112,101,97,116]
def Ny:List UInt8:=[105,102]
def lQ:List UInt8:=[101,108,115,101]
def DS:List UInt8:=[105,110,116]
def vq:List UInt8:=[115,116,97,103,101]
def wdK (c:UInt8):Key:=if c=115 then kW uN else kW Aa
def Az (s:ByteArray):List Key:=((bytesOf s).take (s.size - 1)).map wdK++[kW DS]
def vo:Nat→List Ex→List Key
 |_,[]=>[]
 |n,x::r=>(if n=0 then [] else [kS [44]])++(exK x++vo (n+1) r)
def rM (x:St):List Key :=
 if x.d=1 then [kW HD,kN x.a,kS [61]]
 else if x.d=2 then [kW F5,kN x.a,kS [61]]
 else if x.d=3 then [kW vx]
 else if x.d=4 then [kW As,kN x.a,kN x.b]++(Az x.t++[kU x.n])
 else if x.d=5 then [kW vj,kN x.a,kN x.b]
 else if x.d=6 then [kW uN,kN x.a]
 else if x.d=7 then [kW xE,kN x.a]
 else if x.d=8 then [kW ss,kN x.a]
 else if x.d=9 then [kW yc,kN x.a]
 else if x.d=10 then [kW vf,kN x.a,kS [40]]
 else if x.d=11 then [kW vi,kN x.a,kW uL,kN x.b]
 else if x.d=12 then [kW F4,kN x.a,kW uL,kN x.b]
 else if x.d=13 then [kW sU]
 else [kW Ny]
mutual
def stK : St → List Key
  | .mk d at_ a b t n e body els => rM (.mk d at_ a b t n e body els) ++ (vo 0 e ++
      (if (fmD d).body then (kS [123] :: (Ky body ++ [kS [125]])) ++ (if els.length = 0 then [] else kW lQ :: kS [123] :: (Ky els ++ [kS [125]]))
       else (if d = 10 then [kS [41]] else []) ++ [kS [59]]))
def Ky : List St → List Key
  | [] => []
  | x :: r => stK x ++ Ky r
end
abbrev e0:ByteArray:=⟨#[]⟩
def XwL (x:Ex):Prop:=Xw x∧exN x≤20
inductive Sw:Nat→St→Prop
 |let_ {deep:Nat} {d at_:Int} {a:ByteArray} {x:Ex}:d=1∨d=2→aU a=true→XwL x→Sw deep (.mk d at_ a e0 e0 0 [x] [] [])
 |emit {deep:Nat} {at_:Int} {x:Ex}:XwL x→Sw deep (.mk 3 at_ e0 e0 e0 0 [x] [] [])
 |chan {deep:Nat} {at_ n:Int} {a b t:ByteArray}:aU a=true→aU b=true→cW t 3=true→0≤n→n < 1000000000000000000→Sw deep (.mk 4 at_ a b t n [] [] [])
 |clone {deep:Nat} {at_:Int} {a b:ByteArray}:aU a=true→aU b=true→Sw deep (.mk 5 at_ a b e0 0 [] [] [])
 |send {deep:Nat} {at_:Int} {a:ByteArray} {x:Ex}:aU a=true→XwL x→Sw deep (.mk 6 at_ a e0 e0 0 [x] [] [])
 |one {deep:Nat} {d at_:Int} {a:ByteArray}:d=7∨d=8∨d=9→aU a=true→Sw deep (.mk d at_ a e0 e0 0 [] [] [])
 |spawn {deep:Nat} {at_:Int} {a:ByteArray} {es:List Ex}:aU a=true→es.length≤6→(∀x∈es,XwL x)→Sw deep (.mk 10 at_ a e0 e0 0 es [] [])
 |take {deep:Nat} {at_:Int} {a b:ByteArray} {body els:List St}:aU a=true→aU b=true→deep < 8→(∀y∈body,Sw (deep+1) y)→(∀y∈els,Sw (deep+1) y)→Sw deep (.mk 11 at_ a b e0 0 [] body els)
 |for_ {deep:Nat} {at_:Int} {a b:ByteArray} {body:List St}:aU a=true→aU b=true→deep < 8→(∀y∈body,Sw (deep+1) y)→Sw deep (.mk 12 at_ a b e0 0 [] body [])
 |rep {deep:Nat} {at_:Int} {x:Ex} {body:List St}:XwL x→deep < 8→(∀y∈body,Sw (deep+1) y)→Sw deep (.mk 13 at_ e0 e0 e0 0 [x] body [])
 |if_ {deep:Nat} {at_:Int} {x:Ex} {body els:List St}:XwL x→deep < 8→(∀y∈body,Sw (deep+1) y)→(∀y∈els,Sw (deep+1) y)→Sw deep (.mk 14 at_ e0 e0 e0 0 [x] body els)
theorem OB {l:List Ex}(h1:pI l=0)(h2:∀y∈l,exN y≤20):∀x∈l,XwL x:=fun x hx=>⟨GF l h1 x hx,h2 x hx⟩
theorem yC {l:List Ex}(h:l.length=1):∃x,l=[x]:=by
 match l,h with
 |[x],_=>exact ⟨x,rfl⟩
mutual
theorem Pp:∀(x:St) {deep:Nat},stG deep x→Sw deep x
 |.mk d at_ a b t n e body els,deep,h=>by
  obtain ⟨h1,h2,h3⟩:=jR.1 h;have hl:e.length≤6:=by
   obtain ⟨_,_,_,hl,_⟩:=h1;exact hl
  obtain ⟨f,ok⟩:=tP h1;have hbd:=Ca body (deep:=deep+1) h2;have hel:=Ca els (deep:=deep+1) h3;have hx:∀x∈e,XwL x:=OB ok.ex ok.e20;have d1:1≤d:=ok.d1;have d2:d≤14:=ok.d2;have hdp:f.body=true→deep < 8:=fun hh=>by have:=ok.dp hh;omega
  have na:f.a=true→aU a=true:=ok.na;have nb:f.b=true→aU b=true:=ok.nb;have ty:f.t=true→cW t 3=true:=ok.ty;have ea:f.a=false→a=e0:=fun hh=>CD (ok.ea hh);have eb:f.b=false→b=e0:=fun hh=>CD (ok.eb hh);have et:f.t=false→t=e0:=fun hh=>CD (ok.et hh);have en:f.n=false→n=0:=ok.en;have ne:0≤f.e→(e.length:Int)=f.e:=ok.ne;have bo:f.body=false→body=[]:=ok.bo;have el:f.els=false→els=[]:=ok.el;have n0:0≤n:=ok.n0
  have n1:n < 1000000000000000000:=ok.n1;have hf:bV d=some f:=ok.form;clear h h1 h2 h3 ok;unfold bV at hf
  split at hf
  ·obtain rfl:=Z2 hf;rename_i hd;obtain ⟨x,rfl⟩:=yC (l:=e) (by have:=ne (by decide);simp only at this;omega)
   obtain rfl:=eb rfl;obtain rfl:=et rfl;obtain rfl:=en rfl;obtain rfl:=bo rfl;obtain rfl:=el rfl;have hx:=hx x Qg
   by_cases h6:d=6
   ·subst h6;exact .send (na rfl) hx
   ·exact .let_ (by omega) (na rfl) hx
  split at hf
  ·obtain rfl:=Z2 hf;rename_i hd;subst hd;obtain ⟨x,rfl⟩:=yC (l:=e) (by have:=ne (by decide);simp only at this;omega)
   obtain rfl:=ea rfl;obtain rfl:=eb rfl;obtain rfl:=et rfl;obtain rfl:=en rfl;obtain rfl:=bo rfl;obtain rfl:=el rfl;exact .emit (hx x Qg)
  split at hf
  ·obtain rfl:=Z2 hf;rename_i hd;subst hd;obtain rfl:e=[]:=List.eq_nil_of_length_eq_zero (by have:=ne (by decide);simp only at this;omega)
   obtain rfl:=bo rfl;obtain rfl:=el rfl;exact .chan (na rfl) (nb rfl) (ty rfl) n0 n1
  split at hf
  ·obtain rfl:=Z2 hf;rename_i hd;subst hd;obtain rfl:e=[]:=List.eq_nil_of_length_eq_zero (by have:=ne (by decide);simp only at this;omega)
   obtain rfl:=et rfl;obtain rfl:=en rfl;obtain rfl:=bo rfl;obtain rfl:=el rfl;exact .clone (na rfl) (nb rfl)
  split at hf
  ·obtain rfl:=Z2 hf;rename_i hd;obtain rfl:e=[]:=List.eq_nil_of_length_eq_zero (by have:=ne (by decide);simp only at this;omega)
   obtain rfl:=eb rfl;obtain rfl:=et rfl;obtain rfl:=en rfl;obtain rfl:=bo rfl;obtain rfl:=el rfl;exact .one hd (na rfl)
  split at hf
  ·obtain rfl:=Z2 hf;rename_i hd;subst hd;obtain rfl:=eb rfl;obtain rfl:=et rfl;obtain rfl:=en rfl;obtain rfl:=bo rfl;obtain rfl:=el rfl;exact .spawn (na rfl) hl hx
  split at hf
  ·obtain rfl:=Z2 hf;rename_i hd;subst hd;obtain rfl:e=[]:=List.eq_nil_of_length_eq_zero (by have:=ne (by decide);simp only at this;omega)
   obtain rfl:=et rfl;obtain rfl:=en rfl;exact .take (na rfl) (nb rfl) (hdp rfl) hbd hel
  split at hf
  ·obtain rfl:=Z2 hf;rename_i hd;subst hd;obtain rfl:e=[]:=List.eq_nil_of_length_eq_zero (by have:=ne (by decide);simp only at this;omega)
   obtain rfl:=et rfl;obtain rfl:=en rfl;obtain rfl:=el rfl;exact .for_ (na rfl) (nb rfl) (hdp rfl) hbd
  split at hf
  ·obtain rfl:=Z2 hf;rename_i hd;subst hd;obtain ⟨x,rfl⟩:=yC (l:=e) (by have:=ne (by decide);simp only at this;omega)
   obtain rfl:=ea rfl;obtain rfl:=eb rfl;obtain rfl:=et rfl;obtain rfl:=en rfl;obtain rfl:=el rfl;exact .rep (hx x Qg) (hdp rfl) hbd
  split at hf
  ·obtain rfl:=Z2 hf;rename_i hd;subst hd;obtain ⟨x,rfl⟩:=yC (l:=e) (by have:=ne (by decide);simp only at this;omega)
   obtain rfl:=ea rfl;obtain rfl:=eb rfl;obtain rfl:=et rfl;obtain rfl:=en rfl;exact .if_ (hx x Qg) (hdp rfl) hbd hel
  ·cases hf
theorem Ca:∀(l:List St) {deep:Nat},vV deep l→∀y∈l,Sw deep y
 |[],_,_,y,hy=>absurd hy List.not_mem_nil
 |x::r,deep,h,y,hy=>by
  unfold vV at h;rcases List.mem_cons.1 hy with e|hy
  ·rw [e];exact Pp x h.1
  ·exact Ca r h.2 y hy
end
section
variable  {e:Int}{ts:List Tok}{ks:List Key}
theorem eQ {s:ByteArray}(h:ts.map dQ=kN s::ks):∃ts',eV e ts=.ok (s,ts')∧ts'.map dQ=ks:=by
 obtain ⟨t,r,rfl,ht,hr⟩:=keys_cons h;obtain ⟨k1,k2⟩:=Prod.mk.inj ht;obtain ⟨k2,k3⟩:=Prod.mk.inj k2;refine ⟨r,?_,hr⟩;unfold eV;show (if t.kind=2 then _ else _)=_
 rw [if_pos k1,k2]
theorem M0 {n:Int}(h:ts.map dQ=kU n::ks):∃ts',Em e ts=.ok (n,ts')∧ts'.map dQ=ks:=by
 obtain ⟨t,r,rfl,ht,hr⟩:=keys_cons h;obtain ⟨k1,k2⟩:=Prod.mk.inj ht;obtain ⟨k2,k3⟩:=Prod.mk.inj k2;refine ⟨r,?_,hr⟩;unfold Em;show (if t.kind=3 then _ else _)=_
 rw [if_pos k1,k3]
theorem fA {l:List UInt8}(h:ts.map dQ=kS l::ks):∃ts',bH e l ts=.ok ts'∧ts'.map dQ=ks:=by
 obtain ⟨t,r,rfl,ht,hr⟩:=keys_cons h;refine ⟨r,?_,hr⟩;unfold bH;rw [ef h,jJ,if_pos (by simp)]
 rfl
theorem Fc {l:List UInt8}(h:ts.map dQ=kW l::ks):∃ts',bH e l ts=.ok ts'∧ts'.map dQ=ks:=by
 obtain ⟨t,r,rfl,ht,hr⟩:=keys_cons h;refine ⟨r,?_,hr⟩;unfold bH;rw [ef h,yD,if_pos (by simp)]
 rfl
theorem Lf:∀(l:List UInt8) {acc:List UInt8} {ts:List Tok},(∀c∈l,c=115∨c=114)→acc.length+l.length≤3→ts.map dQ=l.map wdK++kW DS::ks →
  ∃ts',rR e acc ts=.ok (acc++l++[105],ts')∧ts'.map dQ=ks
 |[],acc,ts,_,_,h=>by
  obtain ⟨t,r,rfl,ht,hr⟩:=keys_cons h;refine ⟨r,?_,hr⟩;unfold rR;rw [ef h];show (if isK [105,110,116] (kW DS::ks) then _ else _)=_
  rw [yD,if_pos (by decide),Z1]
 |c::l,acc,ts,hc,hn,h=>by
  rw [List.map_cons,Qu] at h;obtain ⟨t,r,rfl,ht,hr⟩:=keys_cons h;have hcc:=hc c Qg;simp only [Qn] at hn;have hw:∃w,wdK c=kW w∧(w==[105,110,116])=false∧((w==[115,101,110,100])||(w==[114,101,99,118]))=true∧w.take 1=[c]:=by
   rcases hcc with rfl|rfl
   ·exact ⟨uN,rfl,by decide,by decide,by decide⟩
   ·exact ⟨Aa,rfl,by decide,by decide,by decide⟩
  obtain ⟨w,hw1,hw2,hw3,hw4⟩:=hw;rw [hw1] at h;obtain ⟨ts',h1,h2⟩:=Lf l (acc:=acc++[c]) (fun d hd=>hc d (Q9 _ hd)) (by simp only [Qd,Qn,Qy];omega) hr
  refine ⟨ts',?_,h2⟩;unfold rR;rw [ef h,ef h,ef h,yD,yD,yD,hw2,if_neg Qe,hw3,if_pos rfl,if_neg (by omega)]
  rw [hw1] at ht;obtain ⟨k1,k2⟩:=Prod.mk.inj ht;obtain ⟨k2,k3⟩:=Prod.mk.inj k2;rw [k2,aL,hw4,h1];simp
theorem It {s:ByteArray}(h:cW s 3=true):∃l:List UInt8,bytesOf s=l++[105]∧l=(bytesOf s).take (s.size - 1)∧l.length≤3∧∀c∈l,c=115∨c=114:=by
 unfold cW at h;obtain ⟨h1,h2,h3,h4⟩:=Qj h;have hlen:(bytesOf s).length=s.size:=aN s;have hsn:=mn s (k:=s.size - 1) (by omega)
 rw [show s.size - 1+1=s.size by omega,List.take_of_length_le (by omega),h3] at hsn
 refine ⟨_,hsn,rfl,by rw [Qp];omega,fun c hc=>?_⟩
 obtain ⟨k,hk,rfl⟩:=List.getElem_of_mem hc;rw [Qp] at hk;have h5:=h4 k (by omega)
 rw [List.getElem_take];have h6:cAt s k=(bytesOf s)[k]'(by omega):=by
  rw [cAt,List.getD_eq_getElem?_getD,Q7 (by omega),Option.getD_some]
 rw [←h6];exact h5
theorem KT {s:ByteArray}(hs:cW s 3=true)(h:ts.map dQ=Az s++ks):∃ts',rR e [] ts=.ok (bytesOf s,ts')∧ts'.map dQ=ks:=by
 obtain ⟨l,h1,h2,h3,h4⟩:=It hs;unfold Az at h;rw [←h2,Qk] at h;obtain ⟨ts',h5,h6⟩:=Lf l (acc:=[]) (e:=e) h4 (by simpa using h3) h
 exact ⟨ts',by rw [h5,h1];rfl,h6⟩
end
theorem Of {x:Ex}(hx:Xw x):∀{ks:List Key},isK [41] (exK x++ks)=false:=by
 induction hx with
 |@num m h0 h1=>intro ks;exact Ls h0 (by decide) (by decide)
 |@name m h0=>intro ks;exact HQ
 |@neg a _ ih=>intro ks;rw [Hk];exact jJ
 |@T op a b h4 h8 _ _ iha ihb =>
  intro ks;rw [ya h4,Qk];unfold vI
  split
  ·exact jJ
  ·exact iha
section
variable  {e:Int}
theorem Gl:∀(es:List Ex) {acc:List Ex} {f:Nat} {ts:List Tok} {ks:List Key},(∀x∈es,XwL x)→ts.map dQ=vo acc.length es++kS [41]::ks→acc.length+es.length≤6→ts.length+1≤f →
  ∃ts',eC e f acc ts=.ok (acc++es,ts')∧ts'.map dQ=ks
 |[],acc,f,ts,ks,_,h,_,hf=>by
  obtain ⟨f,rfl⟩:∃g,f=g+1:=⟨f - 1,by omega⟩
  obtain ⟨t,r,rfl,ht,hr⟩:=keys_cons (show ts.map dQ=kS [41]::ks from h)
  refine ⟨r,?_,hr⟩;unfold eC;rw [ef h];show (if isK [41] (kS [41]::ks) then _ else _)=_
  rw [jJ,if_pos (by decide),Z1]
  rfl
 |x::es,acc,f,ts,ks,hx,h,hn,hf=>by
  obtain ⟨f,rfl⟩:∃g,f=g+1:=⟨f - 1,by omega⟩
  simp only [Qn] at hn;have hxx:=hx x Qg;unfold vo at h;rw [Qk] at h;have hno:isK [41] ((if acc.length=0 then [] else [kS [44]])++(exK x++vo (acc.length+1) es++kS [41]::ks))=false:=by
   split
   ·rw [Z4,Qk];exact Of hxx.1
   ·exact jJ
  obtain ⟨l1,h1,h2,hle⟩:∃l1,(if acc.length=0 then .ok ts else bH e [44] ts)=(.ok l1:Except (Int×Int) (List Tok))∧l1.map dQ=exK x++(vo (acc.length+1) es++kS [41]::ks)∧l1.length≤ts.length:=by
   by_cases h0:acc.length=0
   ·rw [if_pos h0] at h ⊢;rw [Z4,Qk] at h;exact ⟨ts,rfl,h,Zc _⟩
   ·rw [if_neg h0] at h ⊢;rw [Qk] at h;obtain ⟨ts',h3,h4⟩:=fA (e:=e) (show ts.map dQ=kS [44]::(exK x++(vo (acc.length+1) es++kS [41]::ks)) from h)
    have:=bf h;have:=bf h4;simp only [Qd,Qn,Qy] at *;exact ⟨ts',h3,h4,by omega⟩
  have hst:EQ (vo (acc.length+1) es++kS [41]::ks):=by
   cases es with
   |nil=>exact nk (by decide)
   |cons y r =>
    unfold vo;rw [if_neg (by omega)]
    exact nk (by decide)
  obtain ⟨l2,h3,h4⟩:=rO (e:=e) hxx.1 hxx.2 h2 hst;have k1:=bf h2;have k2:=bf h4;have k3:=AE x;rw [Qd] at k1;obtain ⟨ts',h5,h6⟩:=Gl es (acc:=acc++[x]) (f:=f) (ts:=l2) (ks:=ks) (fun y hy=>hx y (Q9 _ hy)) (by rw [Qd];exact h4) (by rw [Qd];simp;omega) (by omega)
  refine ⟨ts',?_,h6⟩;unfold eC;rw [ef h,hno,if_neg Qe,h1,aC,if_neg (by omega),h3,aC]
  show eC e f (acc++[x]) l2=_;rw [h5,Qk];rfl
def JP:Nat→List (ByteArray×ByteArray)→List Key
 |_,[]=>[]
 |n,q::r=>(if n=0 then [] else [kS [44]])++(kN q.1::(Az q.2++JP (n+1) r))
theorem E0:∀(ps:List (ByteArray×ByteArray)) {acc:List (ByteArray×ByteArray)} {f:Nat} {ts:List Tok} {ks:List Key},(∀q∈ps,cW q.2 3=true)→ts.map dQ=JP acc.length ps++kS [41]::ks→acc.length+ps.length≤6→ts.length+1≤f →
  ∃ts',fY e f acc ts=.ok (acc++ps,ts')∧ts'.map dQ=ks
 |[],acc,f,ts,ks,_,h,_,hf=>by
  obtain ⟨f,rfl⟩:∃g,f=g+1:=⟨f - 1,by omega⟩
  obtain ⟨t,r,rfl,ht,hr⟩:=keys_cons (show ts.map dQ=kS [41]::ks from h)
  refine ⟨r,?_,hr⟩;unfold fY;rw [ef h];show (if isK [41] (kS [41]::ks) then _ else _)=_
  rw [jJ,if_pos (by decide),Z1]
  rfl
 |q::ps,acc,f,ts,ks,hx,h,hn,hf=>by
  obtain ⟨f,rfl⟩:∃g,f=g+1:=⟨f - 1,by omega⟩
  simp only [Qn] at hn;have hxx:=hx q Qg;unfold JP at h;rw [Qk,Qu,Qk] at h;have hno:isK [41] ((if acc.length=0 then [] else [kS [44]])++kN q.1::(Az q.2++(JP (acc.length+1) ps++kS [41]::ks)))=false:=by
   split
   ·exact HQ
   ·exact jJ
  obtain ⟨l1,h1,h2,hle⟩:∃l1,(if acc.length=0 then .ok ts else bH e [44] ts)=(.ok l1:Except (Int×Int) (List Tok))∧l1.map dQ=kN q.1::(Az q.2++(JP (acc.length+1) ps++kS [41]::ks))∧l1.length≤ts.length:=by
   by_cases h0:acc.length=0
   ·rw [if_pos h0] at h ⊢;exact ⟨ts,rfl,h,Zc _⟩
   ·rw [if_neg h0] at h ⊢;obtain ⟨ts',h3,h4⟩:=fA (e:=e) (show ts.map dQ=kS [44]::(kN q.1::(Az q.2++(JP (acc.length+1) ps++kS [41]::ks))) from h)
    have:=bf h;have:=bf h4;simp only [Qd,Qn,Qy] at *;exact ⟨ts',h3,h4,by omega⟩
  obtain ⟨l2,h3,h4⟩:=eQ (e:=e) h2;obtain ⟨l3,h5,h6⟩:=KT (e:=e) hxx h4;have k1:=bf h2;have k2:=bf h6;simp only [Qd,Qn] at k1 k2;obtain ⟨ts',h7,h8⟩:=E0 ps (acc:=acc++[q]) (f:=f) (ts:=l3) (ks:=ks) (fun y hy=>hx y (Q9 _ hy)) (by rw [Qd];exact h6) (by rw [Qd];simp;omega) (by omega)
  refine ⟨ts',?_,h8⟩;unfold fY;rw [ef h,hno,if_neg Qe,h1,aC,if_neg (by omega),h3,aC]
  show aH (rR e [] l2) _=_;rw [h5,aC];show fY e f (acc++[(q.1,bs (bytesOf q.2))]) l3=_;rw [jn,h7,Qk];rfl
mutual
def stQ:St→Nat
 |.mk _ _ _ _ _ _ _ body els=>1+eS body+eS els
def eS:List St→Nat
 |[]=>0
 |x::r=>stQ x+eS r
end
theorem fe {f deep n d:Nat}{w:List UInt8}{t:Tok}{r l1 l:List Tok}{s:Sh}(hd:doW w=d)(h0:d≠0)(h11:d < 11)(hn:n≠300)(ht:dQ t=kW w)(hs:cz e d r=.ok (s,l1))(hl:bH e [59] l1=.ok l) :
  eY e (f+1) deep n (t::r)=.ok (.mk d t.at_ s.a s.b s.t s.n s.e [] [],n+1,l):=by
 obtain ⟨k1,k2⟩:=Prod.mk.inj ht;obtain ⟨k2,k3⟩:=Prod.mk.inj k2;unfold eY;rw [k2,aL,hd,if_pos ⟨k1,h0⟩,if_neg hn,if_pos h11,hs,aC];show aH (bH e [59] l1) _=_;rw [hl];rfl
theorem GU {f deep n d n2:Nat}{w:List UInt8}{t:Tok}{r l1 l2:List Tok}{s:Sh}{b:List St}(hd:doW w=d)(h0:d≠0)(h11:¬d < 11)(hn:n≠300)(ht:dQ t=kW w)(hs:iD e d r=.ok (s,l1))(hb:bQ e f deep (n+1) l1=.ok (b,n2,l2)) :
  eY e (f+1) deep n (t::r)=(if (d=11∨d=14)∧isT [101,108,115,101] l2=true then
   aH (bQ e f deep n2 l2.tail) fun q=>.ok (.mk d t.at_ s.a s.b ⟨#[]⟩ 0 s.e b q.1,q.2.1,q.2.2) else .ok (.mk d t.at_ s.a s.b ⟨#[]⟩ 0 s.e b [],n2,l2)):=by
 obtain ⟨k1,k2⟩:=Prod.mk.inj ht;obtain ⟨k2,k3⟩:=Prod.mk.inj k2;unfold eY;rw [k2,aL,hd,if_pos ⟨k1,h0⟩,if_neg hn,if_neg h11,hs,aC];show aH (bQ e f deep (n+1) l1) _=_;rw [hb,aC]
theorem He {deep:Nat}{x:St}(h:Sw deep x):∃w ks,stK x=kW w::ks∧(w==[125])=false∧(w==lQ)=false:=by
 cases h with
 |@let_ _ d at_ a x hd _ _ =>
  rcases hd with rfl|rfl
  ·exact ⟨HD,_,rfl,by decide,by decide⟩
  ·exact ⟨F5,_,rfl,by decide,by decide⟩
 |emit=>exact ⟨vx,_,rfl,by decide,by decide⟩
 |chan=>exact ⟨As,_,rfl,by decide,by decide⟩
 |clone=>exact ⟨vj,_,rfl,by decide,by decide⟩
 |send=>exact ⟨uN,_,rfl,by decide,by decide⟩
 |@one _ d at_ a hd _ =>
  rcases hd with rfl|rfl|rfl
  ·exact ⟨xE,_,rfl,by decide,by decide⟩
  ·exact ⟨ss,_,rfl,by decide,by decide⟩
  ·exact ⟨yc,_,rfl,by decide,by decide⟩
 |spawn=>exact ⟨vf,_,rfl,by decide,by decide⟩
 |take=>exact ⟨vi,_,rfl,by decide,by decide⟩
 |for_=>exact ⟨F4,_,rfl,by decide,by decide⟩
 |rep=>exact ⟨sU,_,rfl,by decide,by decide⟩
 |if_=>exact ⟨Ny,_,rfl,by decide,by decide⟩
def xS (l:List St):List Key:=kS [123]::(Ky l++[kS [125]])
abbrev SP (e:Int)(deep:Nat)(x:St):Prop:=∀(f n:Nat) (ts:List Tok) (ks:List Key),ts.map dQ=stK x++ks→isK lQ ks=false→n+stQ x≤300→3*ts.length≤f →
 ∃x' ts',eY e f deep n ts=.ok (x',n+stQ x,ts')∧stZ false x'=stZ false x∧ts'.map dQ=ks
abbrev LP (e:Int)(deep:Nat)(l:List St):Prop:=∀(f n:Nat) (acc:List St) (ts:List Tok) (ks:List Key),ts.map dQ=Ky l++kS [125]::ks→n+eS l≤300→3*ts.length+1≤f →
 ∃l' ts',dC e f deep acc n ts=.ok (acc++l',n+eS l,ts')∧er false l'=er false l∧ts'.map dQ=ks
theorem BM {deep:Nat}{l:List St}(hl:LP e (deep+1) l)(hd:deep < 8){f n:Nat}{ts:List Tok}{ks:List Key}(h:ts.map dQ=xS l++ks)(hn:n+eS l≤300)(hf:3*ts.length+2≤f) :
  ∃l' ts',bQ e f deep n ts=.ok (l',n+eS l,ts')∧er false l'=er false l∧ts'.map dQ=ks:=by
 obtain ⟨f,rfl⟩:∃g,f=g+1:=⟨f - 1,by omega⟩
 unfold xS at h;rw [Qu,Qk] at h;obtain ⟨t,r,rfl,ht,hr⟩:=keys_cons h;simp only [Qn] at hf;obtain ⟨l',ts',h1,h2,h3⟩:=hl f n [] r ks hr hn (by omega)
 refine ⟨l',ts',?_,h2,h3⟩;unfold bQ;rw [ef h,jJ,if_pos (by decide),if_neg (by omega)]
 exact h1
theorem Ep {d at_ at2:Int}{a b t:ByteArray}{n:Int}{es:List Ex}{body body' els els':List St}(h1:er false body'=er false body)(h2:er false els'=er false els) :
  stZ false (.mk d at_ a b t n es body' els')=stZ false (.mk d at2 a b t n es body els):=by
 unfold stZ;rw [h1,h2];rfl
theorem Cl {f deep n d:Nat}{w:List UInt8}{t:Tok}{r l1:List Tok}{s:Sh}{body els:List St}{ks:List Key}(hd:doW w=d)(h0:d≠0)(h11:¬d < 11)(hT:(d=11∨d=14)∨els=[])(ht:dQ t=kW w)
  (hs:iD e d r=.ok (s,l1)) (hl1:l1.map dQ=xS body++((if els.length=0 then [] else kW lQ::xS els)++ks)) (helse:isK lQ ks=false) (hdeep:deep < 8)
  (hB:LP e (deep+1) body) (hE:LP e (deep+1) els) (hn:n+(1+eS body+eS els)≤300) (hf:3*l1.length+2≤f) :
  ∃b q l,eY e (f+1) deep n (t::r)=.ok (.mk d t.at_ s.a s.b ⟨#[]⟩ 0 s.e b q,n+(1+eS body+eS els),l)∧er false b=er false body∧er false q=er false els∧l.map dQ=ks:=by
 obtain ⟨b,l2,h1,h2,h3⟩:=BM hB hdeep (n:=n+1) hl1 (by omega) hf
 rw [GU hd h0 h11 (by omega) ht hs h1]
 have k1:=bf hl1;have k2:=bf h3;rw [Qd] at k1
 by_cases he:els=[]
 ·subst he;have h3:l2.map dQ=ks:=h3;refine ⟨b,[],l2,?_,h2,rfl,h3⟩;rw [if_neg (fun h=>by
   have:=h.2;rw [ef h3,show isK [101,108,115,101] ks=false from helse] at this
   cases this)]
  rw [show n+1+eS body=n+(1+eS body+eS []) by simp only [eS];omega]
 ·have hne:¬els.length=0:=fun h=>he (List.eq_nil_of_length_eq_zero h);rw [if_neg hne] at h3;have hd2:d=11∨d=14:=hT.resolve_right he;have h3':l2.map dQ=kW lQ::(xS els++ks):=h3;obtain ⟨t2,r2,rfl,ht2,hr2⟩:=keys_cons h3';simp only [Qn] at k2;obtain ⟨q,l3,h4,h5,h6⟩:=BM hE hdeep (f:=f) (n:=n+1+eS body) hr2 (by omega) (by omega)
  refine ⟨b,q,l3,?_,h2,h5,h6⟩;rw [if_pos ⟨hd2,by rw [ef h3',yD];decide⟩]
  show aH (bQ e f deep (n+1+eS body) r2) _=_;rw [h4,aC];show (Except.ok (St.mk d t.at_ s.a s.b ⟨#[]⟩ 0 s.e b q,n+1+eS body+eS els,l3):PR St)=_;rw [show n+1+eS body+eS els=n+(1+eS body+eS els) by omega]
mutual
theorem PV:∀(x:St) {deep:Nat},Sw deep x→SP e deep x
 |.mk d at_ a b t n es body els,deep,h=>by
  intro f m ts ks hts helse hm hf;have hB:(∀y∈body,Sw (deep+1) y)→LP e (deep+1) body:=fun h=>Cq body h;have hE:(∀y∈els,Sw (deep+1) y)→LP e (deep+1) els:=fun h=>Cq els h;have hlen:=bf hts;have hq:1≤stQ (.mk d at_ a b t n es body els):=by
   unfold stQ;omega
  obtain ⟨w0,ks0,hk0,_,_⟩:=He h;have hpos:1≤ts.length:=by
   rw [hlen,hk0,Qu];simp
  clear hk0;obtain ⟨f,rfl⟩:∃g,f=g+1:=⟨f - 1,by omega⟩
  cases h with
  |@let_ _ _ _ _ x hd hn hx =>
   rcases hd with rfl|rfl
   ·have hts:ts.map dQ=kW HD::kN a::kS [61]::(exK x++(kS [59]::ks)):=by
     rw [hts];simp [stK,rM,vo,St.d,St.a,fmD,bV]
    obtain ⟨t,r,rfl,ht,hr⟩:=keys_cons hts;obtain ⟨l1,q1,q2⟩:=eQ (e:=e) hr;obtain ⟨l2,q3,q4⟩:=fA (e:=e) q2;obtain ⟨l3,q5,q6⟩:=rO (e:=e) hx.1 hx.2 q4 (nk (by decide))
    obtain ⟨l4,q7,q8⟩:=fA (e:=e) q6;refine ⟨_,l4,(fe (d:=1) (w:=HD) (s:={ a:=a,e:=[x] }) (l1:=l3) (by decide) (by decide) (by decide) (by omega) ht ?_ q7),Ep rfl rfl,q8⟩
    unfold cz;rw [if_neg (by decide),q1,aC,if_pos (by decide)]
    show aH (bH e [61] l1) _=_;rw [q3,aC,q5];rfl
   ·have hts:ts.map dQ=kW F5::kN a::kS [61]::(exK x++(kS [59]::ks)):=by
     rw [hts];simp [stK,rM,vo,St.d,St.a,fmD,bV]
    obtain ⟨t,r,rfl,ht,hr⟩:=keys_cons hts;obtain ⟨l1,q1,q2⟩:=eQ (e:=e) hr;obtain ⟨l2,q3,q4⟩:=fA (e:=e) q2;obtain ⟨l3,q5,q6⟩:=rO (e:=e) hx.1 hx.2 q4 (nk (by decide))
    obtain ⟨l4,q7,q8⟩:=fA (e:=e) q6;refine ⟨_,l4,(fe (d:=2) (w:=F5) (s:={ a:=a,e:=[x] }) (l1:=l3) (by decide) (by decide) (by decide) (by omega) ht ?_ q7),Ep rfl rfl,q8⟩
    unfold cz;rw [if_neg (by decide),q1,aC,if_pos (by decide)]
    show aH (bH e [61] l1) _=_;rw [q3,aC,q5];rfl
  |@emit _ _ x hx =>
   have hts:ts.map dQ=kW vx::(exK x++(kS [59]::ks)):=by
    rw [hts];simp [stK,rM,vo,St.d,fmD,bV]
   obtain ⟨t,r,rfl,ht,hr⟩:=keys_cons hts;obtain ⟨l3,q5,q6⟩:=rO (e:=e) hx.1 hx.2 hr (nk (by decide))
   obtain ⟨l4,q7,q8⟩:=fA (e:=e) q6;refine ⟨_,l4,(fe (d:=3) (w:=vx) (s:={ e:=[x] }) (l1:=l3) (by decide) (by decide) (by decide) (by omega) ht ?_ q7),Ep rfl rfl,q8⟩
   unfold cz;rw [if_pos (by decide),q5]
   rfl
  |@chan _ _ _ _ _ _ ha hb hty h0 h1 =>
   have hts:ts.map dQ=kW As::kN a::kN b::(Az t++(kU n::kS [59]::ks)):=by
    rw [hts];simp [stK,rM,vo,St.d,St.a,St.b,St.t,St.n,fmD,bV]
   obtain ⟨t1,r,rfl,ht,hr⟩:=keys_cons hts;obtain ⟨l1,q1,q2⟩:=eQ (e:=e) hr;obtain ⟨l2,q3,q4⟩:=eQ (e:=e) q2;obtain ⟨l3,q5,q6⟩:=KT (e:=e) hty q4;obtain ⟨l4,q7,q8⟩:=M0 (e:=e) q6;obtain ⟨l5,q9,q10⟩:=fA (e:=e) q8;refine ⟨_,l5,(fe (d:=4) (w:=As) (s:={ a:=a,b:=b,t:=t,n:=n }) (l1:=l4) (by decide) (by decide) (by decide) (by omega) ht ?_ q9),Ep rfl rfl,q10⟩
   unfold cz;rw [if_neg (by decide),q1,aC,if_neg (by decide),if_pos (by decide)]
   show aH (eV e l1) _=_;rw [q3,aC];show aH (rR e [] l2) _=_;rw [q5,aC];show aH (Em e l3) _=_;rw [q7,aC,jn]
  |@clone _ _ _ _ ha hb =>
   have hts:ts.map dQ=kW vj::kN a::kN b::kS [59]::ks:=by
    rw [hts];simp [stK,rM,vo,St.d,St.a,St.b,fmD,bV]
   obtain ⟨t1,r,rfl,ht,hr⟩:=keys_cons hts;obtain ⟨l1,q1,q2⟩:=eQ (e:=e) hr;obtain ⟨l2,q3,q4⟩:=eQ (e:=e) q2;obtain ⟨l5,q9,q10⟩:=fA (e:=e) q4;refine ⟨_,l5,(fe (d:=5) (w:=vj) (s:={ a:=a,b:=b }) (l1:=l2) (by decide) (by decide) (by decide) (by omega) ht ?_ q9),Ep rfl rfl,q10⟩
   unfold cz;rw [if_neg (by decide),q1,aC,if_neg (by decide),if_neg (by decide),if_pos (by decide)]
   show aH (eV e l1) _=_;rw [q3,aC]
  |@send _ _ _ x ha hx =>
   have hts:ts.map dQ=kW uN::kN a::(exK x++(kS [59]::ks)):=by
    rw [hts];simp [stK,rM,vo,St.d,St.a,fmD,bV]
   obtain ⟨t1,r,rfl,ht,hr⟩:=keys_cons hts;obtain ⟨l1,q1,q2⟩:=eQ (e:=e) hr;obtain ⟨l3,q5,q6⟩:=rO (e:=e) hx.1 hx.2 q2 (nk (by decide))
   obtain ⟨l5,q9,q10⟩:=fA (e:=e) q6;refine ⟨_,l5,(fe (d:=6) (w:=uN) (s:={ a:=a,e:=[x] }) (l1:=l3) (by decide) (by decide) (by decide) (by omega) ht ?_ q9),Ep rfl rfl,q10⟩
   unfold cz;rw [if_neg (by decide),q1,aC,if_neg (by decide),if_neg (by decide),if_neg (by decide),if_pos (by decide)]
   show aH (iW e l1) _=_;rw [q5,aC]
  |@one _ _ _ _ hd ha =>
   have hone:∀(k:Nat) (w:List UInt8),doW w=k→k≠0→k < 11→(k=7∨k=8∨k=9)→ts.map dQ=kW w::kN a::kS [59]::ks →
     ∃x' ts',eY e (f+1) deep m ts=.ok (x',m+stQ (.mk k at_ a e0 e0 0 [] [] []),ts')∧stZ false x'=stZ false (.mk k at_ a e0 e0 0 [] [] [])∧ts'.map dQ=ks:=by
    intro k w hw h0 h11 hk hts;obtain ⟨t1,r,rfl,ht,hr⟩:=keys_cons hts;obtain ⟨l1,q1,q2⟩:=eQ (e:=e) hr;obtain ⟨l5,q9,q10⟩:=fA (e:=e) q2;refine ⟨_,l5,(fe (d:=k) (w:=w) (s:={ a:=a }) (l1:=l1) hw h0 h11 (by omega) ht ?_ q9),Ep rfl rfl,q10⟩
    unfold cz;rw [if_neg (by omega),q1,aC,if_neg (by omega),if_neg (by omega),if_neg (by omega),if_neg (by omega),if_neg (by omega)]
   rcases hd with rfl|rfl|rfl
   ·exact hone 7 xE (by decide) (by decide) (by decide) (by decide) (by rw [hts];simp [stK,rM,vo,St.d,St.a,fmD,bV])
   ·exact hone 8 ss (by decide) (by decide) (by decide) (by decide) (by rw [hts];simp [stK,rM,vo,St.d,St.a,fmD,bV])
   ·exact hone 9 yc (by decide) (by decide) (by decide) (by decide) (by rw [hts];simp [stK,rM,vo,St.d,St.a,fmD,bV])
  |@spawn _ _ _ _ ha hl hx =>
   have hts:ts.map dQ=kW vf::kN a::kS [40]::(vo 0 es++kS [41]::kS [59]::ks):=by
    rw [hts];simp [stK,rM,St.d,St.a,fmD,bV]
   obtain ⟨t1,r,rfl,ht,hr⟩:=keys_cons hts;obtain ⟨l1,q1,q2⟩:=eQ (e:=e) hr;obtain ⟨l2,q3,q4⟩:=fA (e:=e) q2;obtain ⟨l3,q5,q6⟩:=Gl (e:=e) es (acc:=[]) (f:=l2.length+1) hx q4 (by simpa using hl) (Zc _)
   obtain ⟨l5,q9,q10⟩:=fA (e:=e) q6;refine ⟨_,l5,(fe (d:=10) (w:=vf) (s:={ a:=a,e:=es }) (l1:=l3) (by decide) (by decide) (by decide) (by omega) ht ?_ q9),Ep rfl rfl,q10⟩
   unfold cz;rw [if_neg (by decide),q1,aC,if_neg (by decide),if_neg (by decide),if_neg (by decide),if_neg (by decide),if_pos (by decide)]
   show aH (bH e [40] l1) _=_;rw [q3,aC,q5];rfl
  |@take _ _ _ _ _ _ ha hb hd hbd hel =>
   have hts:ts.map dQ=kW vi::kN a::kW uL::kN b::(xS body++((if els.length=0 then [] else kW lQ::xS els)++ks)):=by
    rw [hts];simp [stK,rM,vo,St.d,St.a,St.b,fmD,bV,xS]
   obtain ⟨t1,r,rfl,ht,hr⟩:=keys_cons hts;obtain ⟨l1,q1,q2⟩:=eQ (e:=e) hr;obtain ⟨l2,q3,q4⟩:=Fc (e:=e) q2;obtain ⟨l3,q5,q6⟩:=eQ (e:=e) q4;have c1:=bf hts;have c2:=bf q6;simp only [Qn] at c1 hf;obtain ⟨b',q',l,g1,g2,g3,g4⟩:=Cl (e:=e) (d:=11) (w:=vi) (s:={ a:=a,b:=b }) (f:=f) (n:=m) (by decide) (by decide) (by decide) (.inl (.inl rfl)) ht (by
    unfold iD;rw [if_pos (by decide),q1,aC]
    show aH (bH e [102,114,111,109] l1) _=_;rw [show bH e [102,114,111,109] l1=_ from q3,aC,q5,aC]) q6 helse hd (hB hbd) (hE hel) hm (by omega)
   exact ⟨_,l,g1,Ep g2 g3,g4⟩
  |@for_ _ _ _ _ _ ha hb hd hbd =>
   have hts:ts.map dQ=kW F4::kN a::kW uL::kN b::(xS body++((if ([]:List St).length=0 then [] else kW lQ::xS [])++ks)):=by
    rw [hts];simp [stK,rM,vo,St.d,St.a,St.b,fmD,bV,xS]
   obtain ⟨t1,r,rfl,ht,hr⟩:=keys_cons hts;obtain ⟨l1,q1,q2⟩:=eQ (e:=e) hr;obtain ⟨l2,q3,q4⟩:=Fc (e:=e) q2;obtain ⟨l3,q5,q6⟩:=eQ (e:=e) q4;have c1:=bf hts;have c2:=bf q6;simp only [Qn] at c1 hf;obtain ⟨b',q',l,g1,g2,g3,g4⟩:=Cl (e:=e) (d:=12) (w:=F4) (s:={ a:=a,b:=b }) (f:=f) (n:=m) (by decide) (by decide) (by decide) (.inr rfl) ht (by
    unfold iD;rw [if_pos (by decide),q1,aC]
    show aH (bH e [102,114,111,109] l1) _=_;rw [show bH e [102,114,111,109] l1=_ from q3,aC,q5,aC]) q6 helse hd (hB hbd) (hE (fun y hy=>absurd hy List.not_mem_nil)) hm (by omega)
   exact ⟨_,l,g1,Ep g2 g3,g4⟩
  |@rep _ _ x _ hx hd hbd =>
   have hts:ts.map dQ=kW sU::(exK x++(xS body++((if ([]:List St).length=0 then [] else kW lQ::xS [])++ks))):=by
    rw [hts];simp [stK,rM,vo,St.d,fmD,bV,xS]
   obtain ⟨t1,r,rfl,ht,hr⟩:=keys_cons hts;obtain ⟨l3,q5,q6⟩:=rO (e:=e) hx.1 hx.2 hr (nk (by decide))
   have c1:=bf hts;have c2:=bf q6;have c3:=AE x;simp only [Qn,Qd] at c1 c2 hf;obtain ⟨b',q',l,g1,g2,g3,g4⟩:=Cl (e:=e) (d:=13) (w:=sU) (s:={ e:=[x] }) (f:=f) (n:=m) (by decide) (by decide) (by decide) (.inr rfl) ht (by
    unfold iD;rw [if_neg (by decide),q5,aC]) q6 helse hd (hB hbd) (hE (fun y hy=>absurd hy List.not_mem_nil)) hm (by omega)
   exact ⟨_,l,g1,Ep g2 g3,g4⟩
  |@if_ _ _ x _ _ hx hd hbd hel =>
   have hts:ts.map dQ=kW Ny::(exK x++(xS body++((if els.length=0 then [] else kW lQ::xS els)++ks))):=by
    rw [hts];simp [stK,rM,vo,St.d,fmD,bV,xS]
   obtain ⟨t1,r,rfl,ht,hr⟩:=keys_cons hts;obtain ⟨l3,q5,q6⟩:=rO (e:=e) hx.1 hx.2 hr (nk (by decide))
   have c1:=bf hts;have c2:=bf q6;have c3:=AE x;simp only [Qn,Qd] at c1 c2 hf;obtain ⟨b',q',l,g1,g2,g3,g4⟩:=Cl (e:=e) (d:=14) (w:=Ny) (s:={ e:=[x] }) (f:=f) (n:=m) (by decide) (by decide) (by decide) (.inl (.inr rfl)) ht (by
    unfold iD;rw [if_neg (by decide),q5,aC]) q6 helse hd (hB hbd) (hE hel) hm (by omega)
   exact ⟨_,l,g1,Ep g2 g3,g4⟩
theorem Cq:∀(l:List St) {deep:Nat},(∀y∈l,Sw deep y)→LP e deep l
 |[],deep,_=>by
  intro f n acc ts ks hts hn hf;obtain ⟨f,rfl⟩:∃g,f=g+1:=⟨f - 1,by omega⟩
  have hts:ts.map dQ=kS [125]::ks:=hts;obtain ⟨t1,r,rfl,ht,hr⟩:=keys_cons hts;refine ⟨[],r,?_,rfl,hr⟩;unfold dC;rw [ef hts,jJ,if_pos (by decide),Z1]
  rfl
 |x::l,deep,h=>by
  intro f n acc ts ks hts hn hf;have hX:SP e deep x:=PV x (h x Qg);have hL:LP e deep l:=Cq l (fun y hy=>h y (Q9 _ hy));obtain ⟨f,rfl⟩:∃g,f=g+1:=⟨f - 1,by omega⟩
  unfold Ky at hts;rw [Qk] at hts;unfold eS at hn ⊢;have hel:isK lQ (Ky l++kS [125]::ks)=false:=by
   cases l with
   |nil =>
    show isK lQ (kS [125]::ks)=false;rw [jJ];decide
   |cons y r =>
    obtain ⟨w,ks',h1,_,h3⟩:=He (h y (by simp))
    unfold Ky;rw [h1,Qu,Qu,yD,h3]
  obtain ⟨x',l1,h1,h2,h3⟩:=hX f n ts _ hts hel (by omega) (by omega)
  obtain ⟨w,ks',g1,g2,g3⟩:=He (h x Qg);have k1:=bf hts;have k2:=bf h3;rw [Qd,g1,Qn] at k1;obtain ⟨l',l2,h4,h5,h6⟩:=hL f (n+stQ x) (acc++[x']) l1 ks h3 (by omega) (by omega)
  refine ⟨x'::l',l2,?_,?_,h6⟩
  ·unfold dC;rw [ef hts,g1,Qu,yD,g2,if_neg Qe,h1,aC];show dC e f deep (acc++[x']) (n+stQ x) l1=_;rw [h4,Qk,Nat.add_assoc];rfl
  ·unfold er;rw [h2,h5]
end
end
end Go.Proofs.YtkeeboomikkojaaGreatDoor
