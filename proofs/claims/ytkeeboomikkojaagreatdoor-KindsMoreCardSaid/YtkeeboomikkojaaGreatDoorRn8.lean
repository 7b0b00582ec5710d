import Derived.Test.YtkeeboomikkojaaGreatDoorRn4
import Derived.Test.YtkeeboomikkojaaGreatDoorRn6
import Derived.Test.YtkeeboomikkojaaGreatDoorRn7
namespace Go.Proofs.YtkeeboomikkojaaGreatDoor
open Go Go.Sx Go.Sx.Tk Go.Sx.Rn Go.Proofs.YtkeeboomikkojaaGreatDoor.Sx
theorem eV {u:Nat}(h:u < 10):Lib.decDigits u=[UInt8.ofNat (48+u)]:=Lib.decDigits_one h
theorem pU {u:Nat}(h:¬u < 10):Lib.decDigits u=Lib.decDigits (u / 10)++[UInt8.ofNat (48+u % 10)]:=by
 rw [Lib.decDigits,dif_neg h]
theorem vW {k:Nat}(h:k < 10):(UInt8.ofNat (48+k)).toNat=48+k:=by
 simp;omega
theorem Gf {k:Nat}(h:k < 10):Tk.dg (UInt8.ofNat (48+k))=true:=by
 unfold Tk.dg;rw [vW h];simp;omega
theorem zk:∀(u:Nat),(Lib.decDigits u).all Tk.dg=true:=by
 intro u
 induction u using Nat.strongRecOn with
 |ind u ih =>
  by_cases h:u < 10
  ·rw [eV h,List.all_cons,List.all_nil,Gf h];rfl
  ·rw [pU h,List.all_append,ih (u / 10) (by omega)]
   rw [List.all_cons,List.all_nil,Gf (show u % 10 < 10 by omega)]
   rfl
theorem Cz (u:Nat):Lib.decDigits u≠[]:=by
 by_cases h:u < 10
 ·rw [eV h];simp
 ·rw [pU h];simp
theorem EI:∀(u:Nat),sV (Lib.decDigits u)=u:=by
 intro u
 induction u using Nat.strongRecOn with
 |ind u ih =>
  by_cases h:u < 10
  ·rw [eV h];have:=vW h;unfold sV;simp only [List.foldl_cons,List.foldl_nil];omega
  ·rw [pU h,sj,ih (u / 10) (by omega),vW (show u % 10 < 10 by omega)]
   omega
theorem Fv:∀(k u:Nat),u < 10 ^ (k+1)→(Lib.decDigits u).length≤k+1:=by
 intro k
 induction k with
 |zero =>
  intro u h;rw [eV (by omega)]
  simp
 |succ k ih =>
  intro u h
  by_cases h1:u < 10
  ·rw [eV h1];simp
  ·rw [pU h1,List.length_append];have:=ih (u / 10) (by rw [Nat.pow_succ] at h;omega)
   simp;omega
theorem Du:∀(u:Nat),0 < u→((Lib.decDigits u).getD 0 0).toNat≠48:=by
 intro u
 induction u using Nat.strongRecOn with
 |ind u ih =>
  intro h0
  by_cases h:u < 10
  ·rw [eV h];have:=vW h;simp only [List.getD_cons_zero];omega
  ·rw [pU h];have h1:=ih (u / 10) (by omega) (by omega)
   have h2:=Cz (u / 10);cases hd:Lib.decDigits (u / 10) with
   |nil=>exact absurd hd h2
   |cons c r =>
    rw [hd] at h1;simpa using h1
theorem EA {u:Nat}(h:u < 1000000000000000000):AM (Lib.decDigits u)=some (u:Int):=by
 unfold AM;rw [if_neg,EI];rintro (h1|⟨h1,h2⟩|h1)
 ·have:=Fv 17 u (by omega)
  omega
 ·by_cases h0:0 < u
  ·exact Du u h0 h2
  ·obtain rfl:u=0:=by omega
   rw [eV (by decide)] at h1
   simp at h1
 ·rw [zk] at h1;cases h1
theorem vj {n:Int}(h:0≤n):Lib.itoa n=Lib.decDigits n.toNat:=by
 unfold Lib.itoa;rw [if_neg (by omega)]
theorem DJ {n:Int}(h:0≤n)(h1:n < 1000000000000000000):AM (Lib.itoa n)=some n:=by
 rw [vj h,EA (by omega),Int.toNat_of_nonneg h]
theorem zV {n:Int}(h:0≤n):(Lib.itoa n).all Tk.dg=true:=by
 rw [vj h];exact zk _
theorem G1 {n:Int}(h:0≤n):Lib.itoa n≠[]:=by
 rw [vj h];exact Cz _
def isT (s:List UInt8):List Tok→Bool
 |[]=>false
 |t::_=>t.kind !=2&&bytesOf t.text==s
def nN (e code:Int):List Tok→Int×Int
 |[]=>(if code=5 then 6 else code,e)
 |t::_=>(code,t.at_)
def aA {α β:Type}(r:Except (Int×Int) α)(f:α→Except (Int×Int) β):Except (Int×Int) β:=match r with
 |.error x=>.error x
 |.ok a=>f a
theorem av {α β:Type}(a:α)(f:α→Except (Int×Int) β):aA (.ok a) f=f a:=rfl
def aU (op:Int)(a b:Ex):Ex:=.mk op ⟨#[]⟩ 0 [a,b]
def lJ (a:Ex):Ex:=.mk 3 ⟨#[]⟩ 0 [a]
def mh (n:Int):Ex:=.mk 1 ⟨#[]⟩ n []
def dV (s:ByteArray):Ex:=.mk 2 s 0 []
abbrev PR (α:Type):=Except (Int×Int) (α×Nat×List Tok)
mutual
def pj (e:Int):Nat→Nat→Nat→List Tok→PR Ex
 |0,_,_,_=>.error (5,0)
 |f+1,o,n,l=>aA (nZ e f o n l) fun r =>
  if isT [60] r.2.2 then aA (nZ e f o r.2.1 r.2.2.tail) fun q=>.ok (aU 7 r.1 q.1,q.2.1+1,q.2.2)
  else if isT [61,61] r.2.2 then aA (nZ e f o r.2.1 r.2.2.tail) fun q=>.ok (aU 8 r.1 q.1,q.2.1+1,q.2.2)
  else .ok r
def nZ (e:Int):Nat→Nat→Nat→List Tok→PR Ex
 |0,_,_,_=>.error (5,0)
 |f+1,o,n,l=>aA (dQ e f o n l) fun r=>o0 e f o r.1 r.2.1 r.2.2
def o0 (e:Int):Nat→Nat→Ex→Nat→List Tok→PR Ex
 |0,_,_,_,_=>.error (5,0)
 |f+1,o,x,n,l =>
  if isT [43] l then aA (dQ e f o n l.tail) fun q=>o0 e f o (aU 4 x q.1) (q.2.1+1) q.2.2
  else if isT [45] l then aA (dQ e f o n l.tail) fun q=>o0 e f o (aU 5 x q.1) (q.2.1+1) q.2.2
  else .ok (x,n,l)
def dQ (e:Int):Nat→Nat→Nat→List Tok→PR Ex
 |0,_,_,_=>.error (5,0)
 |f+1,o,n,l=>aA (bF e f o n l) fun r=>dY e f o r.1 r.2.1 r.2.2
def dY (e:Int):Nat→Nat→Ex→Nat→List Tok→PR Ex
 |0,_,_,_,_=>.error (5,0)
 |f+1,o,x,n,l =>
  if isT [42] l then aA (bF e f o n l.tail) fun q=>dY e f o (aU 6 x q.1) (q.2.1+1) q.2.2
  else .ok (x,n,l)
def bF (e:Int):Nat→Nat→Nat→List Tok→PR Ex
 |0,_,_,_=>.error (5,0)
 |f+1,o,n,l =>
  if isT [40] l then
   (if o=60 then .error (nN e 7 l) else aA (pj e f (o+1) n l.tail) fun r=>if isT [41] r.2.2 then .ok (r.1,r.2.1,r.2.2.tail) else .error (nN e 5 r.2.2))
  else if isT [45] l then
   (if o=60 then .error (nN e 7 l) else aA (bF e f (o+1) (n+1) l.tail) fun r=>.ok (lJ r.1,r.2.1,r.2.2))
  else match l with
   |[]=>.error (6,e)
   |t::r=>if t.kind=3 then .ok (mh t.n,n+1,r) else if t.kind=2 then .ok (dV t.text,n+1,r) else .error (5,t.at_)
end
def fU (e:Int)(l:List Tok):Except (Int×Int) (Ex×List Tok):=match l with
 |[]=>.error (6,e)
 |t::r=>aA (pj e (4*(t::r).length+4) 0 0 (t::r)) fun q=>if 20 < q.2.1 then .error (8,t.at_) else .ok (q.1,q.2.2)
def dj (e:Int):List Tok→Except (Int×Int) (ByteArray×List Tok)
 |[]=>.error (6,e)
 |t::r=>if t.kind=2 then .ok (t.text,r) else .error (5,t.at_)
def Bp (e:Int):List Tok→Except (Int×Int) (Int×List Tok)
 |[]=>.error (6,e)
 |t::r=>if t.kind=3 then .ok (t.n,r) else .error (5,t.at_)
def aR (e:Int)(s:List UInt8)(l:List Tok):Except (Int×Int) (List Tok):=if isT s l then .ok l.tail else .error (nN e 5 l)
def o4 (e:Int)(acc:List UInt8):List Tok→Except (Int×Int) (List UInt8×List Tok)
 |[]=>.error (6,e)
 |t::r =>
  if isT [105,110,116] (t::r) then .ok (acc++[105],r)
  else if isT [115,101,110,100] (t::r)||isT [114,101,99,118] (t::r) then (if acc.length=3 then .error (7,t.at_) else o4 e (acc++(bytesOf t.text).take 1) r)
  else .error (5,t.at_)
def cW (e:Int):Nat→List Ex→List Tok→Except (Int×Int) (List Ex×List Tok)
 |0,_,_=>.error (5,0)
 |f+1,acc,l =>
  if isT [41] l then .ok (acc,l.tail)
  else aA (if acc.length=0 then .ok l else aR e [44] l) fun l=>if acc.length=6 then .error (nN e 8 l) else aA (fU e l) fun q=>cW e f (acc++[q.1]) q.2
def dZ (e:Int):Nat→List (ByteArray×ByteArray)→List Tok→Except (Int×Int) (List (ByteArray×ByteArray)×List Tok)
 |0,_,_=>.error (5,0)
 |f+1,acc,l =>
  if isT [41] l then .ok (acc,l.tail)
  else aA (if acc.length=0 then .ok l else aR e [44] l) fun l=>if acc.length=6 then .error (nN e 8 l) else
   aA (dj e l) fun q=>aA (o4 e [] q.2) fun u=>dZ e f (acc++[(q.1,bs u.1)]) u.2
def iU:List (List UInt8):=[[108,101,116],[115,101,116],[101,109,105,116],[99,104,97,110],[99,108,111,110,101],[115,101,110,100],[99,108,111,115,101],[97,98,97,110,100,111,110],[100,114,97,105,110],[115,112,97,119,110],[116,97,107,101],[102,111,114],[114,101,112,101,97,116],[105,102]]
def doW (s:List UInt8):Nat:=if s∈iU then iU.findIdx (fun w=>w==s)+1 else 0
structure Sh where
 a:ByteArray:=⟨#[]⟩
 b:ByteArray:=⟨#[]⟩
 t:ByteArray:=⟨#[]⟩
 n:Int:=0
 e:List Ex:=[]
def bG (e:Int)(d:Nat)(l:List Tok):Except (Int×Int) (Sh×List Tok) :=
 if d=3 then aA (fU e l) fun q=>.ok ({ e:=[q.1] },q.2)
 else aA (dj e l) fun a =>
  if d=1∨d=2 then aA (aR e [61] a.2) fun l=>aA (fU e l) fun q=>.ok ({ a:=a.1,e:=[q.1] },q.2)
  else if d=4 then aA (dj e a.2) fun b=>aA (o4 e [] b.2) fun t=>aA (Bp e t.2) fun n=>.ok ({ a:=a.1,b:=b.1,t:=bs t.1,n:=n.1 },n.2)
  else if d=5 then aA (dj e a.2) fun b=>.ok ({ a:=a.1,b:=b.1 },b.2)
  else if d=6 then aA (fU e a.2) fun q=>.ok ({ a:=a.1,e:=[q.1] },q.2)
  else if d=10 then aA (aR e [40] a.2) fun l=>aA (cW e (l.length+1) [] l) fun q=>.ok ({ a:=a.1,e:=q.1 },q.2)
  else .ok ({ a:=a.1 },a.2)
def fE (e:Int)(d:Nat)(l:List Tok):Except (Int×Int) (Sh×List Tok) :=
 if d=11∨d=12 then aA (dj e l) fun a=>aA (aR e [102,114,111,109] a.2) fun l=>aA (dj e l) fun b=>.ok ({ a:=a.1,b:=b.1 },b.2)
 else aA (fU e l) fun q=>.ok ({ e:=[q.1] },q.2)
mutual
def aX (e:Int):Nat→Nat→Nat→List Tok→PR (List St)
 |0,_,_,_=>.error (5,0)
 |f+1,deep,n,l=>if isT [123] l then (if deep=8 then .error (nN e 7 l) else cn e f (deep+1) [] n l.tail) else .error (nN e 5 l)
def cn (e:Int):Nat→Nat→List St→Nat→List Tok→PR (List St)
 |0,_,_,_,_=>.error (5,0)
 |f+1,deep,acc,n,l=>if isT [125] l then .ok (acc,n,l.tail) else aA (df e f deep n l) fun q=>cn e f deep (acc++[q.1]) q.2.1 q.2.2
def df (e:Int):Nat→Nat→Nat→List Tok→PR St
 |0,_,_,_=>.error (5,0)
 |_+1,_,_,[]=>.error (6,e)
 |f+1,deep,n,t::r =>
  if t.kind=1∧doW (bytesOf t.text)≠0 then
   (if n=300 then .error (8,t.at_) else
    if doW (bytesOf t.text) < 11 then aA (bG e (doW (bytesOf t.text)) r) fun s=>aA (aR e [59] s.2) fun l=>.ok (.mk (doW (bytesOf t.text)) t.at_ s.1.a s.1.b s.1.t s.1.n s.1.e [] [],n+1,l)
    else aA (fE e (doW (bytesOf t.text)) r) fun s=>aA (aX e f deep (n+1) s.2) fun b =>
     if (doW (bytesOf t.text)=11∨doW (bytesOf t.text)=14)∧isT [101,108,115,101] b.2.2=true then
      aA (aX e f deep b.2.1 b.2.2.tail) fun q=>.ok (.mk (doW (bytesOf t.text)) t.at_ s.1.a s.1.b ⟨#[]⟩ 0 s.1.e b.1 q.1,q.2.1,q.2.2)
     else .ok (.mk (doW (bytesOf t.text)) t.at_ s.1.a s.1.b ⟨#[]⟩ 0 s.1.e b.1 [],b.2.1,b.2.2))
  else .error (5,t.at_)
end
def fx (e:Int)(n:Nat)(l:List Tok):PR Sg:=match l with
 |[]=>.error (6,e)
 |t::r=>aA (dj e r) fun a=>aA (aR e [40] a.2) fun l=>aA (dZ e (l.length+1) [] l) fun ps =>
  aA (aX e (3*ps.2.length+3) 0 n ps.2) fun b=>.ok (⟨a.1,t.at_,ps.1,b.1⟩,b.2.1,b.2.2)
def cl (e:Int):Nat→List Sg→Nat→List Tok→Except (Int×Int) (List Sg)
 |0,_,_,_=>.error (5,0)
 |f+1,acc,n,l =>
  if l.length=0∧acc.length≠0 then .ok acc
  else if isT [115,116,97,103,101] l then (if acc.length=10 then .error (nN e 8 l) else aA (fx e n l) fun q=>cl e f (acc++[q.1]) q.2.1 q.2.2)
  else .error (nN e 5 l)
def oU (e:Int)(l:List Tok):Except (Int×Int) (List Sg):=cl e (l.length+2) [] 0 l
abbrev Key:=Int×ByteArray×Int
def cy (t:Tok):Key:=(t.kind,t.text,t.n)
def kS (l:List UInt8):Key:=(4,bs l,0)
def kW (l:List UInt8):Key:=(1,bs l,0)
def kN (s:ByteArray):Key:=(2,s,0)
def kU (n:Int):Key:=(3,bs (Lib.itoa n),n)
def isK (s:List UInt8):List Key→Bool
 |[]=>false
 |k::_=>k.1 !=2&&bytesOf k.2.1==s
theorem cG {s:List UInt8}{ts:List Tok}{ks:List Key}(h:ts.map cy=ks):isT s ts=isK s ks:=by
 subst h;cases ts<;>rfl
theorem keys_cons {ts:List Tok}{k:Key}{ks:List Key}(h:ts.map cy=k::ks):∃t r,ts=t::r∧cy t=k∧r.map cy=ks:=by
 obtain ⟨t,r,h1,h2,h3⟩:=List.map_eq_cons_iff.1 h;exact ⟨t,r,h1,h2,h3⟩
theorem gR {s l:List UInt8}{ks:List Key}:isK s (kS l::ks)=(l==s):=by
 simp [isK,kS,aB]
theorem wc {s l:List UInt8}{ks:List Key}:isK s (kW l::ks)=(l==s):=by
 simp [isK,kW,aB]
theorem E0 {s:List UInt8}{x:ByteArray}{ks:List Key}:isK s (kN x::ks)=false:=by
 simp [isK,kN]
theorem Hh {s:List UInt8}{n:Int}{ks:List Key}(h0:0≤n)(hs:∀c∈s,dg c=false)(hne:s≠[]):isK s (kU n::ks)=false:=by
 have h1:=zV h0;have h2:(Lib.itoa n==s)=false:=by
  rw [beq_eq_false_iff_ne];rintro rfl;cases hl:Lib.itoa n with
  |nil=>exact hne hl
  |cons c r =>
   rw [hl] at h1 hs;rw [List.all_cons,hs c List.mem_cons_self] at h1;cases h1
 simp only [isK,kU,aB,h2,Bool.and_false]
def rp (m:Int)(q:Int×List Key):List Key:=if rk q.1 < m then kS [40]::(q.2++[kS [41]]) else q.2
def Jq (op:Int):List UInt8:=if op=4 then [43] else if op=5 then [45] else if op=6 then [42] else if op=7 then [60] else [61,61]
def IQ (op:Int)(nm:ByteArray)(n:Int)(ts:List (Int×List Key)):List Key :=
 if op=1 then [kU n] else if op=2 then [kN nm] else if op=3 then kS [45]::rp 4 (ts.getD 0 (0,[]))
 else rp (lmO op) (ts.getD 0 (0,[]))++kS (Jq op)::rp (rk op+1) (ts.getD 1 (0,[]))
mutual
def exK:Ex→List Key
 |.mk op nm n l=>IQ op nm n (exKs l)
def exKs:List Ex→List (Int×List Key)
 |[]=>[]
 |x::r=>(x.op,exK x)::exKs r
end
inductive Xw:Ex→Prop
 |num {n:Int}:0≤n→n < 1000000000000000000→Xw (mh n)
 |name {s:ByteArray}:aF s=true→Xw (dV s)
 |neg {a:Ex}:Xw a→Xw (lJ a)
 |two {op:Int} {a b:Ex}:4≤op→op≤8→Xw a→Xw b→Xw (aU op a b)
theorem Ap {s:ByteArray}(h:emp s):s=⟨#[]⟩:=aZ h
mutual
theorem Ke:∀(x:Ex),exF x=0→Xw x
 |.mk op nm n l,h=>by
  obtain ⟨h1,h2⟩:=Fu h;obtain ⟨a1,a2,a3,a4,a5,a6,a7,a8⟩:=Fp h1;have a1:1≤op:=a1;have a2:op≤8:=a2;have a3:(l.length:Int)=dL op:=a3;have a4:n≠0→op=1:=a4;have a5:¬emp nm→op=2:=a5;have a6:op=2→aF nm=true:=a6;have a7:0≤n:=a7;have a8:n < 1000000000000000000:=a8;have hn:op≠1→n=0:=fun hh=>Decidable.byContradiction fun h=>hh (a4 h);have hm:op≠2→nm=⟨#[]⟩:=fun hh=>Ap (Classical.byContradiction fun h=>hh (a5 h))
  have hl:=CO l h2;unfold dL at a3
  match l,a3,hl with
  |[],a3,_ =>
   by_cases e1:op=1
   ·subst e1;rw [hm (by decide)]
    exact .num a7 a8
   ·by_cases e2:op=2
    ·subst e2;rw [hn (by decide)]
     exact .name (a6 rfl)
    ·rw [if_neg (by omega)] at a3
     split at a3<;>cases a3
  |[a],a3,hl =>
   have e3:op=3:=by
    split at a3
    ·cases a3
    ·split at a3
     ·assumption
     ·cases a3
   subst e3;rw [hn (by decide),hm (by decide)]
   exact .neg (hl a List.mem_cons_self)
  |[a,b],a3,hl =>
   have e3:¬(op=1∨op=2)∧op≠3:=by
    split at a3
    ·cases a3
    ·split at a3
     ·cases a3
     ·exact ⟨by assumption,by assumption⟩
   rw [hn (by omega),hm (by omega)]
   exact .two (by omega) a2 (hl a List.mem_cons_self) (hl b (List.mem_cons_of_mem _ List.mem_cons_self))
  |a::b::c::r,a3,_ =>
   simp only [List.length_cons] at a3
   split at a3
   ·omega
   ·split at a3<;>omega
theorem CO:∀(l:List Ex),nt l=0→∀x∈l,Xw x
 |[],_,x,hx=>absurd hx List.not_mem_nil
 |y::r,h,x,hx=>by
  unfold nt at h;obtain ⟨h1,h2⟩:=jS h;rcases List.mem_cons.1 hx with e|hx
  ·rw [e];exact Ke y h1
  ·exact CO r h2 x hx
end
theorem Hz (n:Int):exK (mh n)=[kU n]:=rfl
theorem Fs (s:ByteArray):exK (dV s)=[kN s]:=rfl
theorem yW (a:Ex):exK (lJ a)=kS [45]::rp 4 (a.op,exK a):=rfl
theorem sP {op:Int}(h1:4≤op)(a b:Ex):exK (aU op a b)=rp (lmO op) (a.op,exK a)++kS (Jq op)::rp (rk op+1) (b.op,exK b):=by
 show IQ op ⟨#[]⟩ 0 [(a.op,exK a),(b.op,exK b)]=_;unfold IQ;rw [if_neg (by omega),if_neg (by omega),if_neg (by omega)]
 rfl
theorem nA (op:Int)(a b:Ex):exN (aU op a b)=exN a+exN b+1:=by
 simp only [aU,exN,bV];omega
theorem DX (a:Ex):exN (lJ a)=exN a+1:=by
 simp only [lJ,exN,bV];omega
theorem qK (x:Ex):1≤exN x:=by
 rw [fZ];omega
def Cl (ks:List Key):Prop:=isK [42] ks=false∧isK [43] ks=false∧isK [45] ks=false∧isK [60] ks=false∧isK [61,61] ks=false
theorem kH {l:List UInt8}{ks:List Key}(h:l∉[[42],[43],[45],[60],[61,61]]):Cl (kS l::ks):=by
 simp only [List.mem_cons,List.not_mem_nil,or_false,not_or] at h;unfold Cl;simp only [gR];simp [h]
theorem qN {m:Int}{q:Int×List Key}(h:m≤rk q.1):rp m q=q.2:=by
 unfold rp;rw [if_neg (by omega)]
theorem EE {m:Int}{q:Int×List Key}(h:rk q.1 < m):rp m q=kS [40]::(q.2++[kS [41]]):=by
 unfold rp;rw [if_pos h]
theorem Hv (op:Int)(nm:ByteArray)(n:Int)(ts:List (Int×List Key)):1≤(IQ op nm n ts).length:=by
 unfold IQ
 split
 ·simp
 split
 ·simp
 split
 ·simp
 ·rw [List.length_append,List.length_cons];omega
theorem wP (x:Ex):1≤(exK x).length:=by
 cases x;exact Hv _ _ _ _
theorem yX (m:Int)(x:Ex):1≤(rp m (x.op,exK x)).length:=by
 have:=wP x;unfold rp
 split
 ·simp
 ·exact this
theorem aJ {ts:List Tok}{ks:List Key}(h:ts.map cy=ks):ts.length=ks.length:=by
 rw [←h,List.length_map]
abbrev AT (e:Int)(x:Ex):Prop:=∀{f o n:Nat} {ts:List Tok} {ks:List Key},ts.map cy=exK x++ks→Cl ks→o+2*exN x≤60→4*ts.length+4≤f →
 ∃ts',pj e f o n ts=.ok (x,n+exN x,ts')∧ts'.map cy=ks
abbrev ST (e:Int)(x:Ex):Prop:=∀{f o n:Nat} {ts:List Tok} {ks:List Key},ts.map cy=rp 2 (x.op,exK x)++ks→isK [42] ks=false→o+2*exN x≤60→(rk x.op < 2→o+2*exN x+1≤60)→4*ts.length+3≤f →
 ∃f' ts',nZ e f o n ts=o0 e f' o x (n+exN x) ts'∧ts'.map cy=ks∧4*ts'.length+3≤f'
abbrev PT (e:Int)(x:Ex):Prop:=∀{f o n:Nat} {ts:List Tok} {ks:List Key},ts.map cy=rp 3 (x.op,exK x)++ks→o+2*exN x≤60→(rk x.op < 3→o+2*exN x+1≤60)→4*ts.length+2≤f →
 ∃f' ts',dQ e f o n ts=dY e f' o x (n+exN x) ts'∧ts'.map cy=ks∧4*ts'.length+2≤f'
abbrev UT (e:Int)(x:Ex):Prop:=∀{f o n:Nat} {ts:List Tok} {ks:List Key},ts.map cy=rp 4 (x.op,exK x)++ks→o+2*exN x≤60→(rk x.op < 4→o+2*exN x+1≤60)→4*ts.length+1≤f →
 ∃ts',bF e f o n ts=.ok (x,n+exN x,ts')∧ts'.map cy=ks
section
variable  {e:Int}{x:Ex}
theorem qF {f o n:Nat}{ts:List Tok}{ks:List Key}(h:ts.map cy=ks)(hs:isK [42] ks=false)(hf:1≤f):dY e f o x n ts=.ok (x,n,ts):=by
 obtain ⟨f,rfl⟩:∃g,f=g+1:=⟨f - 1,by omega⟩
 unfold dY;rw [cG h,hs];rfl
theorem rY {f o n:Nat}{ts:List Tok}{ks:List Key}(h:ts.map cy=ks)(hs:isK [43] ks=false)(hs':isK [45] ks=false)(hf:1≤f):o0 e f o x n ts=.ok (x,n,ts):=by
 obtain ⟨f,rfl⟩:∃g,f=g+1:=⟨f - 1,by omega⟩
 unfold o0;rw [cG h,cG h,hs,hs'];rfl
theorem xl (hr:2≤rk x.op)(hS:ST e x):AT e x:=by
 intro f o n ts ks hts hst hb hf;obtain ⟨f,rfl⟩:∃g,f=g+1:=⟨f - 1,by omega⟩
 obtain ⟨f',ts',h1,h2,h3⟩:=hS (f:=f) (o:=o) (n:=n) (ts:=ts) (ks:=ks) (by rw [qN hr];exact hts) hst.1 hb (fun h=>by omega) (by omega)
 refine ⟨ts',?_,h2⟩;unfold pj;rw [h1,rY h2 hst.2.1 hst.2.2.1 (by omega),av]
 show (if isT [60] ts' then _ else _)=_
 rw [cG h2,hst.2.2.2.1,if_neg Bool.false_ne_true];show (if isT [61,61] ts' then _ else _)=_
 rw [cG h2,hst.2.2.2.2,if_neg Bool.false_ne_true]
theorem xA (hr:rk x.op≠2)(hP:PT e x):ST e x:=by
 intro f o n ts ks hts hst hb hb' hf;obtain ⟨f,rfl⟩:∃g,f=g+1:=⟨f - 1,by omega⟩
 have hbr:rp 2 (x.op,exK x)=rp 3 (x.op,exK x):=by
  unfold rp
  by_cases h:rk x.op < 2
  ·rw [if_pos h,if_pos (show rk x.op < 3 by omega)]
  ·rw [if_neg h,if_neg (show ¬rk x.op < 3 by omega)]
 obtain ⟨f',ts',h1,h2,h3⟩:=hP (f:=f) (o:=o) (n:=n) (ts:=ts) (ks:=ks) (by rw [←hbr];exact hts) hb (fun h=>hb' (by omega)) (by omega)
 refine ⟨f,ts',?_,h2,?_⟩
 ·conv=>lhs;unfold nZ
  rw [h1,qF h2 hst (by omega),av]
 ·have:=aJ hts;have:=aJ h2;have:=yX 2 x;simp only [List.length_append] at *;omega
theorem xi (hr:rk x.op≠3)(hU:UT e x):PT e x:=by
 intro f o n ts ks hts hb hb' hf;obtain ⟨f,rfl⟩:∃g,f=g+1:=⟨f - 1,by omega⟩
 have hbr:rp 3 (x.op,exK x)=rp 4 (x.op,exK x):=by
  unfold rp
  by_cases h:rk x.op < 3
  ·rw [if_pos h,if_pos (show rk x.op < 4 by omega)]
  ·rw [if_neg h,if_neg (show ¬rk x.op < 4 by omega)]
 obtain ⟨ts',h1,h2⟩:=hU (f:=f) (o:=o) (n:=n) (ts:=ts) (ks:=ks) (by rw [←hbr];exact hts) hb (fun h=>hb' (by omega)) (by omega)
 refine ⟨f,ts',?_,h2,?_⟩
 ·conv=>lhs;unfold dQ
  rw [h1,av]
 ·have:=aJ hts;have:=aJ h2;have:=yX 3 x;simp only [List.length_append] at *;omega
theorem DG (hr:rk x.op < 4)(hA:AT e x):UT e x:=by
 intro f o n ts ks hts hb hb' hf;obtain ⟨f,rfl⟩:∃g,f=g+1:=⟨f - 1,by omega⟩
 rw [EE hr,List.cons_append,List.append_assoc] at hts;obtain ⟨t,r,rfl,ht,hr'⟩:=keys_cons hts;have hb2:=hb' hr;obtain ⟨ts',h1,h2⟩:=hA (f:=f) (o:=o+1) (n:=n) (ts:=r) (ks:=[kS [41]]++ks) hr' (kH (by decide)) (by omega) (by simp only [List.length_cons] at hf;omega)
 obtain ⟨t2,r2,rfl,ht2,hr2⟩:=keys_cons h2;refine ⟨r2,?_,hr2⟩;unfold bF;rw [cG hts,gR,if_pos (by decide),if_neg (by omega)]
 show aA (pj e f (o+1) n r) _=_;rw [h1,av];show (if isT [41] (t2::r2) then _ else _)=_
 rw [cG h2];rfl
theorem Js {m:Int}(h0:0≤m):UT e (mh m):=by
 intro f o n ts ks hts hb hb' hf;obtain ⟨f,rfl⟩:∃g,f=g+1:=⟨f - 1,by omega⟩
 rw [qN (show (4:Int)≤rk 1 by decide)] at hts
 obtain ⟨t,r,rfl,ht,hr⟩:=keys_cons hts;refine ⟨r,?_,hr⟩;unfold bF;rw [cG hts,cG hts,Hz];show (if isK [40] (kU m::([]++ks)) then _ else if isK [45] (kU m::([]++ks)) then _ else _)=_
 rw [Hh h0 (by decide) (by decide),Hh h0 (by decide) (by decide),if_neg Bool.false_ne_true,if_neg Bool.false_ne_true]
 obtain ⟨k1,k2⟩:=Prod.mk.inj ht;obtain ⟨k2,k3⟩:=Prod.mk.inj k2;show (if t.kind=3 then _ else _)=_
 rw [if_pos k1,k3];rfl
theorem Ix {s:ByteArray}:UT e (dV s):=by
 intro f o n ts ks hts hb hb' hf;obtain ⟨f,rfl⟩:∃g,f=g+1:=⟨f - 1,by omega⟩
 rw [qN (show (4:Int)≤rk 2 by decide)] at hts
 obtain ⟨t,r,rfl,ht,hr⟩:=keys_cons hts;refine ⟨r,?_,hr⟩;unfold bF;rw [cG hts,cG hts,Fs];show (if isK [40] (kN s::([]++ks)) then _ else if isK [45] (kN s::([]++ks)) then _ else _)=_
 rw [E0,E0,if_neg Bool.false_ne_true,if_neg Bool.false_ne_true];obtain ⟨k1,k2⟩:=Prod.mk.inj ht;obtain ⟨k2,k3⟩:=Prod.mk.inj k2;show (if t.kind=3 then _ else if t.kind=2 then _ else _)=_
 rw [if_neg (by rw [k1];decide),if_pos k1,k2]
 rfl
theorem JY {a:Ex}(hU:UT e a):UT e (lJ a):=by
 intro f o n ts ks hts hb hb' hf;obtain ⟨f,rfl⟩:∃g,f=g+1:=⟨f - 1,by omega⟩
 rw [qN (show (4:Int)≤rk 3 by decide),yW,List.cons_append] at hts
 obtain ⟨t,r,rfl,ht,hr⟩:=keys_cons hts;rw [DX] at hb ⊢;obtain ⟨ts',h1,h2⟩:=hU (f:=f) (o:=o+1) (n:=n+1) hr (by omega) (fun _=>by omega) (by simp only [List.length_cons] at hf;omega)
 refine ⟨ts',?_,h2⟩;unfold bF;rw [cG hts,cG hts,gR,gR,if_neg (by decide),if_pos (by decide),if_neg (by omega)]
 show aA (bF e f (o+1) (n+1) r) _=_;rw [h1,av];show (Except.ok (lJ a,n+1+exN a,ts'):PR Ex)=_;rw [show n+1+exN a=n+(exN a+1) by omega]
theorem JH {a b:Ex}(hP:PT e a)(hU:UT e b):PT e (aU 6 a b):=by
 intro f o n ts ks hts hb hb' hf;rw [qN (show (3:Int)≤rk 6 by decide),sP (by decide),List.append_assoc,List.cons_append] at hts
 rw [nA] at hb ⊢;have hb1:=qK b;have ha1:=qK a;obtain ⟨f1,ts1,h1,h2,h3⟩:=hP (f:=f) (o:=o) (n:=n) hts (by omega) (fun _=>by omega) hf
 obtain ⟨t,r,rfl,ht,hr⟩:=keys_cons h2;simp only [List.length_cons] at h3;obtain ⟨g,rfl⟩:∃g,f1=g+1:=⟨f1 - 1,by omega⟩
 obtain ⟨ts',h4,h5⟩:=hU (f:=g) (o:=o) (n:=n+exN a) hr (by omega) (fun _=>by omega) (by omega)
 refine ⟨g,ts',?_,h5,?_⟩
 ·rw [h1]
  conv=>lhs;unfold dY
  rw [cG h2,gR,if_pos (by decide)]
  show aA (bF e g o (n+exN a) r) _=_;rw [h4,av];show dY e g o (aU 6 a b) (n+exN a+exN b+1) ts'=_;rw [show n+exN a+exN b+1=n+(exN a+exN b+1) by omega]
 ·have:=aJ hr;have:=aJ h5;simp only [List.length_append] at *;omega
theorem Km {op:Int}(ho:op=4∨op=5){a b:Ex}(hS:ST e a)(hP:PT e b):ST e (aU op a b):=by
 intro f o n ts ks hts hst hb hb' hf;have hr2:rk op=2:=by rcases ho with rfl|rfl<;>decide
 have hl2:lmO op=2:=by rcases ho with rfl|rfl<;>decide
 rw [qN (show (2:Int)≤rk op by omega),sP (by omega),List.append_assoc,List.cons_append,hr2,hl2] at hts
 rw [nA] at hb ⊢;have hb1:=qK b;have ha1:=qK a;obtain ⟨f1,ts1,h1,h2,h3⟩:=hS (f:=f) (o:=o) (n:=n) hts (by rw [gR];rcases ho with rfl|rfl<;>decide) (by omega) (fun _=>by omega) hf
 obtain ⟨t,r,rfl,ht,hr⟩:=keys_cons h2;simp only [List.length_cons] at h3;obtain ⟨g,rfl⟩:∃g,f1=g+1:=⟨f1 - 1,by omega⟩
 obtain ⟨f2,ts2,h4,h5,h6⟩:=hP (f:=g) (o:=o) (n:=n+exN a) hr (by omega) (fun _=>by omega) (by omega)
 refine ⟨g,ts2,?_,h5,?_⟩
 ·rw [h1]
  conv=>lhs;unfold o0
  rw [cG h2,cG h2,gR,gR];rcases ho with rfl|rfl
  ·rw [if_pos (by decide)]
   show aA (dQ e g o (n+exN a) r) _=_;rw [h4,qF h5 hst (by omega),av]
   show o0 e g o (aU 4 a b) (n+exN a+exN b+1) ts2=_;rw [show n+exN a+exN b+1=n+(exN a+exN b+1) by omega]
  ·rw [if_neg (by decide),if_pos (by decide)]
   show aA (dQ e g o (n+exN a) r) _=_;rw [h4,qF h5 hst (by omega),av]
   show o0 e g o (aU 5 a b) (n+exN a+exN b+1) ts2=_;rw [show n+exN a+exN b+1=n+(exN a+exN b+1) by omega]
 ·have:=aJ hr;have:=aJ h5;simp only [List.length_append] at *;omega
theorem Kk {op:Int}(ho:op=7∨op=8){a b:Ex}(hS:ST e a)(hT:ST e b):AT e (aU op a b):=by
 intro f o n ts ks hts hst hb hf;have hr2:rk op=1:=by rcases ho with rfl|rfl<;>decide
 have hl2:lmO op=2:=by rcases ho with rfl|rfl<;>decide
 rw [sP (by omega),List.append_assoc,List.cons_append,hr2,hl2] at hts
 rw [nA] at hb ⊢;have hb1:=qK b;have ha1:=qK a;obtain ⟨f,rfl⟩:∃g,f=g+1:=⟨f - 1,by omega⟩
 obtain ⟨f1,ts1,h1,h2,h3⟩:=hS (f:=f) (o:=o) (n:=n) hts (by rw [gR];rcases ho with rfl|rfl<;>decide) (by omega) (fun _=>by omega) (by omega)
 have h1':=rY (e:=e) (x:=a) (f:=f1) (o:=o) (n:=n+exN a) h2 (by rw [gR];rcases ho with rfl|rfl<;>decide) (by rw [gR];rcases ho with rfl|rfl<;>decide) (by omega)
 obtain ⟨t,r,rfl,ht,hr⟩:=keys_cons h2;simp only [List.length_cons] at h3;have hlen:=aJ hts;have hlr:=aJ hr;have han:=yX 2 a;rw [List.length_append,List.length_cons,List.length_append] at hlen;rw [List.length_append] at hlr;obtain ⟨f2,ts2,h4,h5,h6⟩:=hT (f:=f) (o:=o) (n:=n+exN a) hr hst.1 (by omega) (fun _=>by omega) (by omega)
 refine ⟨ts2,?_,h5⟩;unfold pj;rw [h1,h1',av];show (if isT [60] (t::r) then aA (nZ e f o (n+exN a) r) _ else if isT [61,61] (t::r) then aA (nZ e f o (n+exN a) r) _ else _)=_
 rw [h4,rY h5 hst.2.1 hst.2.2.1 (by omega),av,av,cG h2,cG h2,gR,gR]
 rcases ho with rfl|rfl
 ·rw [if_pos (by decide)]
  show (Except.ok (aU 7 a b,n+exN a+exN b+1,ts2):PR Ex)=_;rw [show n+exN a+exN b+1=n+(exN a+exN b+1) by omega]
 ·rw [if_neg (by decide),if_pos (by decide)]
  show (Except.ok (aU 8 a b,n+exN a+exN b+1,ts2):PR Ex)=_;rw [show n+exN a+exN b+1=n+(exN a+exN b+1) by omega]
theorem lv (e:Int):∀{x:Ex},Xw x→UT e x∧PT e x∧ST e x∧AT e x:=by
 intro x hx
 induction hx with
 |@num m h0 h1 =>
  have u:UT e (mh m):=Js h0;have p:PT e (mh m):=xi (x:=mh m) (show rk 1≠3 by decide) u
  have s:ST e (mh m):=xA (x:=mh m) (show rk 1≠2 by decide) p
  exact ⟨u,p,s,xl (x:=mh m) (show 2≤rk 1 by decide) s⟩
 |@name m h0 =>
  have u:UT e (dV m):=Ix;have p:PT e (dV m):=xi (x:=dV m) (show rk 2≠3 by decide) u
  have s:ST e (dV m):=xA (x:=dV m) (show rk 2≠2 by decide) p
  exact ⟨u,p,s,xl (x:=dV m) (show 2≤rk 2 by decide) s⟩
 |@neg a _ ih =>
  have u:UT e (lJ a):=JY ih.1;have p:PT e (lJ a):=xi (x:=lJ a) (show rk 3≠3 by decide) u
  have s:ST e (lJ a):=xA (x:=lJ a) (show rk 3≠2 by decide) p
  exact ⟨u,p,s,xl (x:=lJ a) (show 2≤rk 3 by decide) s⟩
 |@two op a b h4 h8 _ _ iha ihb =>
  by_cases h6:op=6
  ·subst h6;have p:PT e (aU 6 a b):=JH iha.2.1 ihb.1;have s:ST e (aU 6 a b):=xA (x:=aU 6 a b) (show rk 6≠2 by decide) p
   have c:AT e (aU 6 a b):=xl (x:=aU 6 a b) (show 2≤rk 6 by decide) s
   exact ⟨DG (x:=aU 6 a b) (show rk 6 < 4 by decide) c,p,s,c⟩
  ·by_cases h45:op=4∨op=5
   ·have hr:rk op=2:=by rcases h45 with rfl|rfl<;>decide
    have s:ST e (aU op a b):=Km h45 iha.2.2.1 ihb.2.1;have c:AT e (aU op a b):=xl (x:=aU op a b) (show 2≤rk op by omega) s
    have u:UT e (aU op a b):=DG (x:=aU op a b) (show rk op < 4 by omega) c
    exact ⟨u,xi (x:=aU op a b) (show rk op≠3 by omega) u,s,c⟩
   ·have h78:op=7∨op=8:=by omega
    have hr:rk op=1:=by rcases h78 with rfl|rfl<;>decide
    have c:AT e (aU op a b):=Kk h78 iha.2.2.1 ihb.2.2.1;have u:UT e (aU op a b):=DG (x:=aU op a b) (show rk op < 4 by omega) c
    have p:PT e (aU op a b):=xi (x:=aU op a b) (show rk op≠3 by omega) u
    exact ⟨u,p,xA (x:=aU op a b) (show rk op≠2 by omega) p,c⟩
theorem pu {x:Ex}(hx:Xw x)(hn:exN x≤20){ts:List Tok}{ks:List Key}(hts:ts.map cy=exK x++ks)(hst:Cl ks):∃ts',fU e ts=.ok (x,ts')∧ts'.map cy=ks:=by
 obtain ⟨ts',h1,h2⟩:=(lv e hx).2.2.2 (f:=4*ts.length+4) (o:=0) (n:=0) hts hst (by omega) (Nat.le_refl _)
 have hl:=aJ hts;have hne:=wP x;rw [List.length_append] at hl;cases ts with
 |nil=>simp at hl;omega
 |cons t r =>
  refine ⟨ts',?_,h2⟩;unfold fU;show aA (pj e (4*(t::r).length+4) 0 0 (t::r)) _=_;rw [h1,av];show (if 20 < 0+exN x then _ else _)=_
  rw [if_neg (by omega)]
end
def yO:List UInt8:=[108,101,116]
def ym:List UInt8:=[115,101,116]
def pC:List UInt8:=[101,109,105,116]
def rR:List UInt8:=[99,104,97,110]
def po:List UInt8:=[99,108,111,110,101]
def oS:List UInt8:=[115,101,110,100]
def tX:List UInt8:=[114,101,99,118]
def qQ:List UInt8:=[99,108,111,115,101]
def jx:List UInt8:=[97,98,97,110,100,111,110]
def qC:List UInt8:=[100,114,97,105,110]
def o8:List UInt8:=[115,112,97,119,110]
def pE:List UInt8:=[116,97,107,101]
def yY:List UInt8:=[102,111,114]
def mX:List UInt8:=[102,114,111,109]
def j7:List UInt8:=[114,101,112,101,97,116]
def Hx:List UInt8:=[105,102]
def gW:List UInt8:=[101,108,115,101]
def yy:List UInt8:=[105,110,116]
def pi:List UInt8:=[115,116,97,103,101]
def wdK (c:UInt8):Key:=if c=115 then kW oS else kW tX
def tF (s:ByteArray):List Key:=((bytesOf s).take (s.size - 1)).map wdK++[kW yy]
def kR:Nat→List Ex→List Key
 |_,[]=>[]
 |n,x::r=>(if n=0 then [] else [kS [44]])++(exK x++kR (n+1) r)
def dU (x:St):List Key :=
 if x.d=1 then [kW yO,kN x.a,kS [61]]
 else if x.d=2 then [kW ym,kN x.a,kS [61]]
 else if x.d=3 then [kW pC]
 else if x.d=4 then [kW rR,kN x.a,kN x.b]++(tF x.t++[kU x.n])
 else if x.d=5 then [kW po,kN x.a,kN x.b]
 else if x.d=6 then [kW oS,kN x.a]
 else if x.d=7 then [kW qQ,kN x.a]
 else if x.d=8 then [kW jx,kN x.a]
 else if x.d=9 then [kW qC,kN x.a]
 else if x.d=10 then [kW o8,kN x.a,kS [40]]
 else if x.d=11 then [kW pE,kN x.a,kW mX,kN x.b]
 else if x.d=12 then [kW yY,kN x.a,kW mX,kN x.b]
 else if x.d=13 then [kW j7]
 else [kW Hx]
mutual
def stK : St → List Key
  | .mk d at_ a b t n e body els => dU (.mk d at_ a b t n e body els) ++ (kR 0 e ++
      (if (fmD d).body then (kS [123] :: (El body ++ [kS [125]])) ++ (if els.length = 0 then [] else kW gW :: kS [123] :: (El els ++ [kS [125]]))
       else (if d = 10 then [kS [41]] else []) ++ [kS [59]]))
def El : List St → List Key
  | [] => []
  | x :: r => stK x ++ El r
end
abbrev e0:ByteArray:=⟨#[]⟩
def XwL (x:Ex):Prop:=Xw x∧exN x≤20
inductive Sw:Nat→St→Prop
 |let_ {deep:Nat} {d at_:Int} {a:ByteArray} {x:Ex}:d=1∨d=2→aF a=true→XwL x→Sw deep (.mk d at_ a e0 e0 0 [x] [] [])
 |emit {deep:Nat} {at_:Int} {x:Ex}:XwL x→Sw deep (.mk 3 at_ e0 e0 e0 0 [x] [] [])
 |chan {deep:Nat} {at_ n:Int} {a b t:ByteArray}:aF a=true→aF b=true→bJ t 3=true→0≤n→n < 1000000000000000000→Sw deep (.mk 4 at_ a b t n [] [] [])
 |clone {deep:Nat} {at_:Int} {a b:ByteArray}:aF a=true→aF b=true→Sw deep (.mk 5 at_ a b e0 0 [] [] [])
 |send {deep:Nat} {at_:Int} {a:ByteArray} {x:Ex}:aF a=true→XwL x→Sw deep (.mk 6 at_ a e0 e0 0 [x] [] [])
 |one {deep:Nat} {d at_:Int} {a:ByteArray}:d=7∨d=8∨d=9→aF a=true→Sw deep (.mk d at_ a e0 e0 0 [] [] [])
 |spawn {deep:Nat} {at_:Int} {a:ByteArray} {es:List Ex}:aF a=true→es.length≤6→(∀x∈es,XwL x)→Sw deep (.mk 10 at_ a e0 e0 0 es [] [])
 |take {deep:Nat} {at_:Int} {a b:ByteArray} {body els:List St}:aF a=true→aF b=true→deep < 8→(∀y∈body,Sw (deep+1) y)→(∀y∈els,Sw (deep+1) y)→Sw deep (.mk 11 at_ a b e0 0 [] body els)
 |for_ {deep:Nat} {at_:Int} {a b:ByteArray} {body:List St}:aF a=true→aF b=true→deep < 8→(∀y∈body,Sw (deep+1) y)→Sw deep (.mk 12 at_ a b e0 0 [] body [])
 |rep {deep:Nat} {at_:Int} {x:Ex} {body:List St}:XwL x→deep < 8→(∀y∈body,Sw (deep+1) y)→Sw deep (.mk 13 at_ e0 e0 e0 0 [x] body [])
 |if_ {deep:Nat} {at_:Int} {x:Ex} {body els:List St}:XwL x→deep < 8→(∀y∈body,Sw (deep+1) y)→(∀y∈els,Sw (deep+1) y)→Sw deep (.mk 14 at_ e0 e0 e0 0 [x] body els)
theorem IR {l:List Ex}(h1:nt l=0)(h2:∀y∈l,exN y≤20):∀x∈l,XwL x:=fun x hx=>⟨CO l h1 x hx,h2 x hx⟩
theorem vf {l:List Ex}(h:l.length=1):∃x,l=[x]:=by
 match l,h with
 |[x],_=>exact ⟨x,rfl⟩
mutual
theorem JX:∀(x:St) {deep:Nat},stG deep x→Sw deep x
 |.mk d at_ a b t n e body els,deep,h=>by
  obtain ⟨h1,h2,h3⟩:=nj.1 h;have hl:e.length≤6:=by
   obtain ⟨_,_,_,hl,_⟩:=h1;exact hl
  obtain ⟨f,ok⟩:=sK h1;have hbd:=wL body (deep:=deep+1) h2;have hel:=wL els (deep:=deep+1) h3;have hx:∀x∈e,XwL x:=IR ok.ex ok.e20;have d1:1≤d:=ok.d1;have d2:d≤14:=ok.d2;have hdp:f.body=true→deep < 8:=fun hh=>by have:=ok.dp hh;omega
  have na:f.a=true→aF a=true:=ok.na;have nb:f.b=true→aF b=true:=ok.nb;have ty:f.t=true→bJ t 3=true:=ok.ty;have ea:f.a=false→a=e0:=fun hh=>Ap (ok.ea hh);have eb:f.b=false→b=e0:=fun hh=>Ap (ok.eb hh);have et:f.t=false→t=e0:=fun hh=>Ap (ok.et hh);have en:f.n=false→n=0:=ok.en;have ne:0≤f.e→(e.length:Int)=f.e:=ok.ne;have bo:f.body=false→body=[]:=ok.bo;have el:f.els=false→els=[]:=ok.el;have n0:0≤n:=ok.n0
  have n1:n < 1000000000000000000:=ok.n1;have hf:aL d=some f:=ok.form;clear h h1 h2 h3 ok;unfold aL at hf
  split at hf
  ·obtain rfl:=Option.some.inj hf;rename_i hd;obtain ⟨x,rfl⟩:=vf (l:=e) (by have:=ne (by decide);simp only at this;omega)
   obtain rfl:=eb rfl;obtain rfl:=et rfl;obtain rfl:=en rfl;obtain rfl:=bo rfl;obtain rfl:=el rfl;have hx:=hx x List.mem_cons_self
   by_cases h6:d=6
   ·subst h6;exact .send (na rfl) hx
   ·exact .let_ (by omega) (na rfl) hx
  split at hf
  ·obtain rfl:=Option.some.inj hf;rename_i hd;subst hd;obtain ⟨x,rfl⟩:=vf (l:=e) (by have:=ne (by decide);simp only at this;omega)
   obtain rfl:=ea rfl;obtain rfl:=eb rfl;obtain rfl:=et rfl;obtain rfl:=en rfl;obtain rfl:=bo rfl;obtain rfl:=el rfl;exact .emit (hx x List.mem_cons_self)
  split at hf
  ·obtain rfl:=Option.some.inj hf;rename_i hd;subst hd;obtain rfl:e=[]:=List.eq_nil_of_length_eq_zero (by have:=ne (by decide);simp only at this;omega)
   obtain rfl:=bo rfl;obtain rfl:=el rfl;exact .chan (na rfl) (nb rfl) (ty rfl) n0 n1
  split at hf
  ·obtain rfl:=Option.some.inj hf;rename_i hd;subst hd;obtain rfl:e=[]:=List.eq_nil_of_length_eq_zero (by have:=ne (by decide);simp only at this;omega)
   obtain rfl:=et rfl;obtain rfl:=en rfl;obtain rfl:=bo rfl;obtain rfl:=el rfl;exact .clone (na rfl) (nb rfl)
  split at hf
  ·obtain rfl:=Option.some.inj hf;rename_i hd;obtain rfl:e=[]:=List.eq_nil_of_length_eq_zero (by have:=ne (by decide);simp only at this;omega)
   obtain rfl:=eb rfl;obtain rfl:=et rfl;obtain rfl:=en rfl;obtain rfl:=bo rfl;obtain rfl:=el rfl;exact .one hd (na rfl)
  split at hf
  ·obtain rfl:=Option.some.inj hf;rename_i hd;subst hd;obtain rfl:=eb rfl;obtain rfl:=et rfl;obtain rfl:=en rfl;obtain rfl:=bo rfl;obtain rfl:=el rfl;exact .spawn (na rfl) hl hx
  split at hf
  ·obtain rfl:=Option.some.inj hf;rename_i hd;subst hd;obtain rfl:e=[]:=List.eq_nil_of_length_eq_zero (by have:=ne (by decide);simp only at this;omega)
   obtain rfl:=et rfl;obtain rfl:=en rfl;exact .take (na rfl) (nb rfl) (hdp rfl) hbd hel
  split at hf
  ·obtain rfl:=Option.some.inj hf;rename_i hd;subst hd;obtain rfl:e=[]:=List.eq_nil_of_length_eq_zero (by have:=ne (by decide);simp only at this;omega)
   obtain rfl:=et rfl;obtain rfl:=en rfl;obtain rfl:=el rfl;exact .for_ (na rfl) (nb rfl) (hdp rfl) hbd
  split at hf
  ·obtain rfl:=Option.some.inj hf;rename_i hd;subst hd;obtain ⟨x,rfl⟩:=vf (l:=e) (by have:=ne (by decide);simp only at this;omega)
   obtain rfl:=ea rfl;obtain rfl:=eb rfl;obtain rfl:=et rfl;obtain rfl:=en rfl;obtain rfl:=el rfl;exact .rep (hx x List.mem_cons_self) (hdp rfl) hbd
  split at hf
  ·obtain rfl:=Option.some.inj hf;rename_i hd;subst hd;obtain ⟨x,rfl⟩:=vf (l:=e) (by have:=ne (by decide);simp only at this;omega)
   obtain rfl:=ea rfl;obtain rfl:=eb rfl;obtain rfl:=et rfl;obtain rfl:=en rfl;exact .if_ (hx x List.mem_cons_self) (hdp rfl) hbd hel
  ·cases hf
theorem wL:∀(l:List St) {deep:Nat},tZ deep l→∀y∈l,Sw deep y
 |[],_,_,y,hy=>absurd hy List.not_mem_nil
 |x::r,deep,h,y,hy=>by
  unfold tZ at h;rcases List.mem_cons.1 hy with e|hy
  ·rw [e];exact JX x h.1
  ·exact wL r h.2 y hy
end
section
variable  {e:Int}{ts:List Tok}{ks:List Key}
theorem dm {s:ByteArray}(h:ts.map cy=kN s::ks):∃ts',dj e ts=.ok (s,ts')∧ts'.map cy=ks:=by
 obtain ⟨t,r,rfl,ht,hr⟩:=keys_cons h;obtain ⟨k1,k2⟩:=Prod.mk.inj ht;obtain ⟨k2,k3⟩:=Prod.mk.inj k2;refine ⟨r,?_,hr⟩;unfold dj;show (if t.kind=2 then _ else _)=_
 rw [if_pos k1,k2]
theorem H6 {n:Int}(h:ts.map cy=kU n::ks):∃ts',Bp e ts=.ok (n,ts')∧ts'.map cy=ks:=by
 obtain ⟨t,r,rfl,ht,hr⟩:=keys_cons h;obtain ⟨k1,k2⟩:=Prod.mk.inj ht;obtain ⟨k2,k3⟩:=Prod.mk.inj k2;refine ⟨r,?_,hr⟩;unfold Bp;show (if t.kind=3 then _ else _)=_
 rw [if_pos k1,k3]
theorem dH {l:List UInt8}(h:ts.map cy=kS l::ks):∃ts',aR e l ts=.ok ts'∧ts'.map cy=ks:=by
 obtain ⟨t,r,rfl,ht,hr⟩:=keys_cons h;refine ⟨r,?_,hr⟩;unfold aR;rw [cG h,gR,if_pos (by simp)]
 rfl
theorem DS {l:List UInt8}(h:ts.map cy=kW l::ks):∃ts',aR e l ts=.ok ts'∧ts'.map cy=ks:=by
 obtain ⟨t,r,rfl,ht,hr⟩:=keys_cons h;refine ⟨r,?_,hr⟩;unfold aR;rw [cG h,wc,if_pos (by simp)]
 rfl
theorem F5:∀(l:List UInt8) {acc:List UInt8} {ts:List Tok},(∀c∈l,c=115∨c=114)→acc.length+l.length≤3→ts.map cy=l.map wdK++kW yy::ks →
  ∃ts',o4 e acc ts=.ok (acc++l++[105],ts')∧ts'.map cy=ks
 |[],acc,ts,_,_,h=>by
  obtain ⟨t,r,rfl,ht,hr⟩:=keys_cons h;refine ⟨r,?_,hr⟩;unfold o4;rw [cG h];show (if isK [105,110,116] (kW yy::ks) then _ else _)=_
  rw [wc,if_pos (by decide),List.append_nil]
 |c::l,acc,ts,hc,hn,h=>by
  rw [List.map_cons,List.cons_append] at h;obtain ⟨t,r,rfl,ht,hr⟩:=keys_cons h;have hcc:=hc c List.mem_cons_self;simp only [List.length_cons] at hn;have hw:∃w,wdK c=kW w∧(w==[105,110,116])=false∧((w==[115,101,110,100])||(w==[114,101,99,118]))=true∧w.take 1=[c]:=by
   rcases hcc with rfl|rfl
   ·exact ⟨oS,rfl,by decide,by decide,by decide⟩
   ·exact ⟨tX,rfl,by decide,by decide,by decide⟩
  obtain ⟨w,hw1,hw2,hw3,hw4⟩:=hw;rw [hw1] at h;obtain ⟨ts',h1,h2⟩:=F5 l (acc:=acc++[c]) (fun d hd=>hc d (List.mem_cons_of_mem _ hd)) (by simp only [List.length_append,List.length_cons,List.length_nil];omega) hr
  refine ⟨ts',?_,h2⟩;unfold o4;rw [cG h,cG h,cG h,wc,wc,wc,hw2,if_neg Bool.false_ne_true,hw3,if_pos rfl,if_neg (by omega)]
  rw [hw1] at ht;obtain ⟨k1,k2⟩:=Prod.mk.inj ht;obtain ⟨k2,k3⟩:=Prod.mk.inj k2;rw [k2,aB,hw4,h1];simp
theorem zy {s:ByteArray}(h:bJ s 3=true):∃l:List UInt8,bytesOf s=l++[105]∧l=(bytesOf s).take (s.size - 1)∧l.length≤3∧∀c∈l,c=115∨c=114:=by
 unfold bJ at h;obtain ⟨h1,h2,h3,h4⟩:=of_decide_eq_true h;have hlen:(bytesOf s).length=s.size:=aC s;have hsn:=jD s (k:=s.size - 1) (by omega)
 rw [show s.size - 1+1=s.size by omega,List.take_of_length_le (by omega),h3] at hsn
 refine ⟨_,hsn,rfl,by rw [List.length_take];omega,fun c hc=>?_⟩
 obtain ⟨k,hk,rfl⟩:=List.getElem_of_mem hc;rw [List.length_take] at hk;have h5:=h4 k (by omega)
 rw [List.getElem_take];have h6:cAt s k=(bytesOf s)[k]'(by omega):=by
  rw [cAt,List.getD_eq_getElem?_getD,List.getElem?_eq_getElem (by omega),Option.getD_some]
 rw [←h6];exact h5
theorem FY {s:ByteArray}(hs:bJ s 3=true)(h:ts.map cy=tF s++ks):∃ts',o4 e [] ts=.ok (bytesOf s,ts')∧ts'.map cy=ks:=by
 obtain ⟨l,h1,h2,h3,h4⟩:=zy hs;unfold tF at h;rw [←h2,List.append_assoc] at h;obtain ⟨ts',h5,h6⟩:=F5 l (acc:=[]) (e:=e) h4 (by simpa using h3) h
 exact ⟨ts',by rw [h5,h1];rfl,h6⟩
end
theorem HM {x:Ex}(hx:Xw x):∀{ks:List Key},isK [41] (exK x++ks)=false:=by
 induction hx with
 |@num m h0 h1=>intro ks;exact Hh h0 (by decide) (by decide)
 |@name m h0=>intro ks;exact E0
 |@neg a _ ih=>intro ks;rw [yW];exact gR
 |@two op a b h4 h8 _ _ iha ihb =>
  intro ks;rw [sP h4,List.append_assoc];unfold rp
  split
  ·exact gR
  ·exact iha
section
variable  {e:Int}
theorem Ed:∀(es:List Ex) {acc:List Ex} {f:Nat} {ts:List Tok} {ks:List Key},(∀x∈es,XwL x)→ts.map cy=kR acc.length es++kS [41]::ks→acc.length+es.length≤6→ts.length+1≤f →
  ∃ts',cW e f acc ts=.ok (acc++es,ts')∧ts'.map cy=ks
 |[],acc,f,ts,ks,_,h,_,hf=>by
  obtain ⟨f,rfl⟩:∃g,f=g+1:=⟨f - 1,by omega⟩
  obtain ⟨t,r,rfl,ht,hr⟩:=keys_cons (show ts.map cy=kS [41]::ks from h)
  refine ⟨r,?_,hr⟩;unfold cW;rw [cG h];show (if isK [41] (kS [41]::ks) then _ else _)=_
  rw [gR,if_pos (by decide),List.append_nil]
  rfl
 |x::es,acc,f,ts,ks,hx,h,hn,hf=>by
  obtain ⟨f,rfl⟩:∃g,f=g+1:=⟨f - 1,by omega⟩
  simp only [List.length_cons] at hn;have hxx:=hx x List.mem_cons_self;unfold kR at h;rw [List.append_assoc] at h;have hno:isK [41] ((if acc.length=0 then [] else [kS [44]])++(exK x++kR (acc.length+1) es++kS [41]::ks))=false:=by
   split
   ·rw [List.nil_append,List.append_assoc];exact HM hxx.1
   ·exact gR
  obtain ⟨l1,h1,h2,hle⟩:∃l1,(if acc.length=0 then .ok ts else aR e [44] ts)=(.ok l1:Except (Int×Int) (List Tok))∧l1.map cy=exK x++(kR (acc.length+1) es++kS [41]::ks)∧l1.length≤ts.length:=by
   by_cases h0:acc.length=0
   ·rw [if_pos h0] at h ⊢;rw [List.nil_append,List.append_assoc] at h;exact ⟨ts,rfl,h,Nat.le_refl _⟩
   ·rw [if_neg h0] at h ⊢;rw [List.append_assoc] at h;obtain ⟨ts',h3,h4⟩:=dH (e:=e) (show ts.map cy=kS [44]::(exK x++(kR (acc.length+1) es++kS [41]::ks)) from h)
    have:=aJ h;have:=aJ h4;simp only [List.length_append,List.length_cons,List.length_nil] at *;exact ⟨ts',h3,h4,by omega⟩
  have hst:Cl (kR (acc.length+1) es++kS [41]::ks):=by
   cases es with
   |nil=>exact kH (by decide)
   |cons y r =>
    unfold kR;rw [if_neg (by omega)]
    exact kH (by decide)
  obtain ⟨l2,h3,h4⟩:=pu (e:=e) hxx.1 hxx.2 h2 hst;have k1:=aJ h2;have k2:=aJ h4;have k3:=wP x;rw [List.length_append] at k1;obtain ⟨ts',h5,h6⟩:=Ed es (acc:=acc++[x]) (f:=f) (ts:=l2) (ks:=ks) (fun y hy=>hx y (List.mem_cons_of_mem _ hy)) (by rw [List.length_append];exact h4) (by rw [List.length_append];simp;omega) (by omega)
  refine ⟨ts',?_,h6⟩;unfold cW;rw [cG h,hno,if_neg Bool.false_ne_true,h1,av,if_neg (by omega),h3,av]
  show cW e f (acc++[x]) l2=_;rw [h5,List.append_assoc];rfl
def Eo:Nat→List (ByteArray×ByteArray)→List Key
 |_,[]=>[]
 |n,q::r=>(if n=0 then [] else [kS [44]])++(kN q.1::(tF q.2++Eo (n+1) r))
theorem CN:∀(ps:List (ByteArray×ByteArray)) {acc:List (ByteArray×ByteArray)} {f:Nat} {ts:List Tok} {ks:List Key},(∀q∈ps,bJ q.2 3=true)→ts.map cy=Eo acc.length ps++kS [41]::ks→acc.length+ps.length≤6→ts.length+1≤f →
  ∃ts',dZ e f acc ts=.ok (acc++ps,ts')∧ts'.map cy=ks
 |[],acc,f,ts,ks,_,h,_,hf=>by
  obtain ⟨f,rfl⟩:∃g,f=g+1:=⟨f - 1,by omega⟩
  obtain ⟨t,r,rfl,ht,hr⟩:=keys_cons (show ts.map cy=kS [41]::ks from h)
  refine ⟨r,?_,hr⟩;unfold dZ;rw [cG h];show (if isK [41] (kS [41]::ks) then _ else _)=_
  rw [gR,if_pos (by decide),List.append_nil]
  rfl
 |q::ps,acc,f,ts,ks,hx,h,hn,hf=>by
  obtain ⟨f,rfl⟩:∃g,f=g+1:=⟨f - 1,by omega⟩
  simp only [List.length_cons] at hn;have hxx:=hx q List.mem_cons_self;unfold Eo at h;rw [List.append_assoc,List.cons_append,List.append_assoc] at h;have hno:isK [41] ((if acc.length=0 then [] else [kS [44]])++kN q.1::(tF q.2++(Eo (acc.length+1) ps++kS [41]::ks)))=false:=by
   split
   ·exact E0
   ·exact gR
  obtain ⟨l1,h1,h2,hle⟩:∃l1,(if acc.length=0 then .ok ts else aR e [44] ts)=(.ok l1:Except (Int×Int) (List Tok))∧l1.map cy=kN q.1::(tF q.2++(Eo (acc.length+1) ps++kS [41]::ks))∧l1.length≤ts.length:=by
   by_cases h0:acc.length=0
   ·rw [if_pos h0] at h ⊢;exact ⟨ts,rfl,h,Nat.le_refl _⟩
   ·rw [if_neg h0] at h ⊢;obtain ⟨ts',h3,h4⟩:=dH (e:=e) (show ts.map cy=kS [44]::(kN q.1::(tF q.2++(Eo (acc.length+1) ps++kS [41]::ks))) from h)
    have:=aJ h;have:=aJ h4;simp only [List.length_append,List.length_cons,List.length_nil] at *;exact ⟨ts',h3,h4,by omega⟩
  obtain ⟨l2,h3,h4⟩:=dm (e:=e) h2;obtain ⟨l3,h5,h6⟩:=FY (e:=e) hxx h4;have k1:=aJ h2;have k2:=aJ h6;simp only [List.length_append,List.length_cons] at k1 k2;obtain ⟨ts',h7,h8⟩:=CN ps (acc:=acc++[q]) (f:=f) (ts:=l3) (ks:=ks) (fun y hy=>hx y (List.mem_cons_of_mem _ hy)) (by rw [List.length_append];exact h6) (by rw [List.length_append];simp;omega) (by omega)
  refine ⟨ts',?_,h8⟩;unfold dZ;rw [cG h,hno,if_neg Bool.false_ne_true,h1,av,if_neg (by omega),h3,av]
  show aA (o4 e [] l2) _=_;rw [h5,av];show dZ e f (acc++[(q.1,bs (bytesOf q.2))]) l3=_;rw [iA,h7,List.append_assoc];rfl
mutual
def stQ:St→Nat
 |.mk _ _ _ _ _ _ _ body els=>1+dh body+dh els
def dh:List St→Nat
 |[]=>0
 |x::r=>stQ x+dh r
end
theorem dw {f deep n d:Nat}{w:List UInt8}{t:Tok}{r l1 l:List Tok}{s:Sh}(hd:doW w=d)(h0:d≠0)(h11:d < 11)(hn:n≠300)(ht:cy t=kW w)(hs:bG e d r=.ok (s,l1))(hl:aR e [59] l1=.ok l) :
  df e (f+1) deep n (t::r)=.ok (.mk d t.at_ s.a s.b s.t s.n s.e [] [],n+1,l):=by
 obtain ⟨k1,k2⟩:=Prod.mk.inj ht;obtain ⟨k2,k3⟩:=Prod.mk.inj k2;unfold df;rw [k2,aB,hd,if_pos ⟨k1,h0⟩,if_neg hn,if_pos h11,hs,av];show aA (aR e [59] l1) _=_;rw [hl];rfl
theorem Dr {f deep n d n2:Nat}{w:List UInt8}{t:Tok}{r l1 l2:List Tok}{s:Sh}{b:List St}(hd:doW w=d)(h0:d≠0)(h11:¬d < 11)(hn:n≠300)(ht:cy t=kW w)(hs:fE e d r=.ok (s,l1))(hb:aX e f deep (n+1) l1=.ok (b,n2,l2)) :
  df e (f+1) deep n (t::r)=(if (d=11∨d=14)∧isT [101,108,115,101] l2=true then
   aA (aX e f deep n2 l2.tail) fun q=>.ok (.mk d t.at_ s.a s.b ⟨#[]⟩ 0 s.e b q.1,q.2.1,q.2.2) else .ok (.mk d t.at_ s.a s.b ⟨#[]⟩ 0 s.e b [],n2,l2)):=by
 obtain ⟨k1,k2⟩:=Prod.mk.inj ht;obtain ⟨k2,k3⟩:=Prod.mk.inj k2;unfold df;rw [k2,aB,hd,if_pos ⟨k1,h0⟩,if_neg hn,if_neg h11,hs,av];show aA (aX e f deep (n+1) l1) _=_;rw [hb,av]
theorem CQ {deep:Nat}{x:St}(h:Sw deep x):∃w ks,stK x=kW w::ks∧(w==[125])=false∧(w==gW)=false:=by
 cases h with
 |@let_ _ d at_ a x hd _ _ =>
  rcases hd with rfl|rfl
  ·exact ⟨yO,_,rfl,by decide,by decide⟩
  ·exact ⟨ym,_,rfl,by decide,by decide⟩
 |emit=>exact ⟨pC,_,rfl,by decide,by decide⟩
 |chan=>exact ⟨rR,_,rfl,by decide,by decide⟩
 |clone=>exact ⟨po,_,rfl,by decide,by decide⟩
 |send=>exact ⟨oS,_,rfl,by decide,by decide⟩
 |@one _ d at_ a hd _ =>
  rcases hd with rfl|rfl|rfl
  ·exact ⟨qQ,_,rfl,by decide,by decide⟩
  ·exact ⟨jx,_,rfl,by decide,by decide⟩
  ·exact ⟨qC,_,rfl,by decide,by decide⟩
 |spawn=>exact ⟨o8,_,rfl,by decide,by decide⟩
 |take=>exact ⟨pE,_,rfl,by decide,by decide⟩
 |for_=>exact ⟨yY,_,rfl,by decide,by decide⟩
 |rep=>exact ⟨j7,_,rfl,by decide,by decide⟩
 |if_=>exact ⟨Hx,_,rfl,by decide,by decide⟩
def qL (l:List St):List Key:=kS [123]::(El l++[kS [125]])
abbrev SP (e:Int)(deep:Nat)(x:St):Prop:=∀(f n:Nat) (ts:List Tok) (ks:List Key),ts.map cy=stK x++ks→isK gW ks=false→n+stQ x≤300→3*ts.length≤f →
 ∃x' ts',df e f deep n ts=.ok (x',n+stQ x,ts')∧stZ false x'=stZ false x∧ts'.map cy=ks
abbrev LP (e:Int)(deep:Nat)(l:List St):Prop:=∀(f n:Nat) (acc:List St) (ts:List Tok) (ks:List Key),ts.map cy=El l++kS [125]::ks→n+dh l≤300→3*ts.length+1≤f →
 ∃l' ts',cn e f deep acc n ts=.ok (acc++l',n+dh l,ts')∧np false l'=np false l∧ts'.map cy=ks
theorem yn {deep:Nat}{l:List St}(hl:LP e (deep+1) l)(hd:deep < 8){f n:Nat}{ts:List Tok}{ks:List Key}(h:ts.map cy=qL l++ks)(hn:n+dh l≤300)(hf:3*ts.length+2≤f) :
  ∃l' ts',aX e f deep n ts=.ok (l',n+dh l,ts')∧np false l'=np false l∧ts'.map cy=ks:=by
 obtain ⟨f,rfl⟩:∃g,f=g+1:=⟨f - 1,by omega⟩
 unfold qL at h;rw [List.cons_append,List.append_assoc] at h;obtain ⟨t,r,rfl,ht,hr⟩:=keys_cons h;simp only [List.length_cons] at hf;obtain ⟨l',ts',h1,h2,h3⟩:=hl f n [] r ks hr hn (by omega)
 refine ⟨l',ts',?_,h2,h3⟩;unfold aX;rw [cG h,gR,if_pos (by decide),if_neg (by omega)]
 exact h1
theorem Bn {d at_ at2:Int}{a b t:ByteArray}{n:Int}{es:List Ex}{body body' els els':List St}(h1:np false body'=np false body)(h2:np false els'=np false els) :
  stZ false (.mk d at_ a b t n es body' els')=stZ false (.mk d at2 a b t n es body els):=by
 unfold stZ;rw [h1,h2];rfl
theorem zf {f deep n d:Nat}{w:List UInt8}{t:Tok}{r l1:List Tok}{s:Sh}{body els:List St}{ks:List Key}(hd:doW w=d)(h0:d≠0)(h11:¬d < 11)(hT:(d=11∨d=14)∨els=[])(ht:cy t=kW w)
  (hs:fE e d r=.ok (s,l1)) (hl1:l1.map cy=qL body++((if els.length=0 then [] else kW gW::qL els)++ks)) (helse:isK gW ks=false) (hdeep:deep < 8)
  (hB:LP e (deep+1) body) (hE:LP e (deep+1) els) (hn:n+(1+dh body+dh els)≤300) (hf:3*l1.length+2≤f) :
  ∃b q l,df e (f+1) deep n (t::r)=.ok (.mk d t.at_ s.a s.b ⟨#[]⟩ 0 s.e b q,n+(1+dh body+dh els),l)∧np false b=np false body∧np false q=np false els∧l.map cy=ks:=by
 obtain ⟨b,l2,h1,h2,h3⟩:=yn hB hdeep (n:=n+1) hl1 (by omega) hf
 rw [Dr hd h0 h11 (by omega) ht hs h1]
 have k1:=aJ hl1;have k2:=aJ h3;rw [List.length_append] at k1
 by_cases he:els=[]
 ·subst he;have h3:l2.map cy=ks:=h3;refine ⟨b,[],l2,?_,h2,rfl,h3⟩;rw [if_neg (fun h=>by
   have:=h.2;rw [cG h3,show isK [101,108,115,101] ks=false from helse] at this
   cases this)]
  rw [show n+1+dh body=n+(1+dh body+dh []) by simp only [dh];omega]
 ·have hne:¬els.length=0:=fun h=>he (List.eq_nil_of_length_eq_zero h);rw [if_neg hne] at h3;have hd2:d=11∨d=14:=hT.resolve_right he;have h3':l2.map cy=kW gW::(qL els++ks):=h3;obtain ⟨t2,r2,rfl,ht2,hr2⟩:=keys_cons h3';simp only [List.length_cons] at k2;obtain ⟨q,l3,h4,h5,h6⟩:=yn hE hdeep (f:=f) (n:=n+1+dh body) hr2 (by omega) (by omega)
  refine ⟨b,q,l3,?_,h2,h5,h6⟩;rw [if_pos ⟨hd2,by rw [cG h3',wc];decide⟩]
  show aA (aX e f deep (n+1+dh body) r2) _=_;rw [h4,av];show (Except.ok (St.mk d t.at_ s.a s.b ⟨#[]⟩ 0 s.e b q,n+1+dh body+dh els,l3):PR St)=_;rw [show n+1+dh body+dh els=n+(1+dh body+dh els) by omega]
mutual
theorem Ju:∀(x:St) {deep:Nat},Sw deep x→SP e deep x
 |.mk d at_ a b t n es body els,deep,h=>by
  intro f m ts ks hts helse hm hf;have hB:(∀y∈body,Sw (deep+1) y)→LP e (deep+1) body:=fun h=>zd body h;have hE:(∀y∈els,Sw (deep+1) y)→LP e (deep+1) els:=fun h=>zd els h;have hlen:=aJ hts;have hq:1≤stQ (.mk d at_ a b t n es body els):=by
   unfold stQ;omega
  obtain ⟨w0,ks0,hk0,_,_⟩:=CQ h;have hpos:1≤ts.length:=by
   rw [hlen,hk0,List.cons_append];simp
  clear hk0;obtain ⟨f,rfl⟩:∃g,f=g+1:=⟨f - 1,by omega⟩
  cases h with
  |@let_ _ _ _ _ x hd hn hx =>
   rcases hd with rfl|rfl
   ·have hts:ts.map cy=kW yO::kN a::kS [61]::(exK x++(kS [59]::ks)):=by
     rw [hts];simp [stK,dU,kR,St.d,St.a,fmD,aL]
    obtain ⟨t,r,rfl,ht,hr⟩:=keys_cons hts;obtain ⟨l1,q1,q2⟩:=dm (e:=e) hr;obtain ⟨l2,q3,q4⟩:=dH (e:=e) q2;obtain ⟨l3,q5,q6⟩:=pu (e:=e) hx.1 hx.2 q4 (kH (by decide))
    obtain ⟨l4,q7,q8⟩:=dH (e:=e) q6;refine ⟨_,l4,(dw (d:=1) (w:=yO) (s:={ a:=a,e:=[x] }) (l1:=l3) (by decide) (by decide) (by decide) (by omega) ht ?_ q7),Bn rfl rfl,q8⟩
    unfold bG;rw [if_neg (by decide),q1,av,if_pos (by decide)]
    show aA (aR e [61] l1) _=_;rw [q3,av,q5];rfl
   ·have hts:ts.map cy=kW ym::kN a::kS [61]::(exK x++(kS [59]::ks)):=by
     rw [hts];simp [stK,dU,kR,St.d,St.a,fmD,aL]
    obtain ⟨t,r,rfl,ht,hr⟩:=keys_cons hts;obtain ⟨l1,q1,q2⟩:=dm (e:=e) hr;obtain ⟨l2,q3,q4⟩:=dH (e:=e) q2;obtain ⟨l3,q5,q6⟩:=pu (e:=e) hx.1 hx.2 q4 (kH (by decide))
    obtain ⟨l4,q7,q8⟩:=dH (e:=e) q6;refine ⟨_,l4,(dw (d:=2) (w:=ym) (s:={ a:=a,e:=[x] }) (l1:=l3) (by decide) (by decide) (by decide) (by omega) ht ?_ q7),Bn rfl rfl,q8⟩
    unfold bG;rw [if_neg (by decide),q1,av,if_pos (by decide)]
    show aA (aR e [61] l1) _=_;rw [q3,av,q5];rfl
  |@emit _ _ x hx =>
   have hts:ts.map cy=kW pC::(exK x++(kS [59]::ks)):=by
    rw [hts];simp [stK,dU,kR,St.d,fmD,aL]
   obtain ⟨t,r,rfl,ht,hr⟩:=keys_cons hts;obtain ⟨l3,q5,q6⟩:=pu (e:=e) hx.1 hx.2 hr (kH (by decide))
   obtain ⟨l4,q7,q8⟩:=dH (e:=e) q6;refine ⟨_,l4,(dw (d:=3) (w:=pC) (s:={ e:=[x] }) (l1:=l3) (by decide) (by decide) (by decide) (by omega) ht ?_ q7),Bn rfl rfl,q8⟩
   unfold bG;rw [if_pos (by decide),q5]
   rfl
  |@chan _ _ _ _ _ _ ha hb hty h0 h1 =>
   have hts:ts.map cy=kW rR::kN a::kN b::(tF t++(kU n::kS [59]::ks)):=by
    rw [hts];simp [stK,dU,kR,St.d,St.a,St.b,St.t,St.n,fmD,aL]
   obtain ⟨t1,r,rfl,ht,hr⟩:=keys_cons hts;obtain ⟨l1,q1,q2⟩:=dm (e:=e) hr;obtain ⟨l2,q3,q4⟩:=dm (e:=e) q2;obtain ⟨l3,q5,q6⟩:=FY (e:=e) hty q4;obtain ⟨l4,q7,q8⟩:=H6 (e:=e) q6;obtain ⟨l5,q9,q10⟩:=dH (e:=e) q8;refine ⟨_,l5,(dw (d:=4) (w:=rR) (s:={ a:=a,b:=b,t:=t,n:=n }) (l1:=l4) (by decide) (by decide) (by decide) (by omega) ht ?_ q9),Bn rfl rfl,q10⟩
   unfold bG;rw [if_neg (by decide),q1,av,if_neg (by decide),if_pos (by decide)]
   show aA (dj e l1) _=_;rw [q3,av];show aA (o4 e [] l2) _=_;rw [q5,av];show aA (Bp e l3) _=_;rw [q7,av,iA]
  |@clone _ _ _ _ ha hb =>
   have hts:ts.map cy=kW po::kN a::kN b::kS [59]::ks:=by
    rw [hts];simp [stK,dU,kR,St.d,St.a,St.b,fmD,aL]
   obtain ⟨t1,r,rfl,ht,hr⟩:=keys_cons hts;obtain ⟨l1,q1,q2⟩:=dm (e:=e) hr;obtain ⟨l2,q3,q4⟩:=dm (e:=e) q2;obtain ⟨l5,q9,q10⟩:=dH (e:=e) q4;refine ⟨_,l5,(dw (d:=5) (w:=po) (s:={ a:=a,b:=b }) (l1:=l2) (by decide) (by decide) (by decide) (by omega) ht ?_ q9),Bn rfl rfl,q10⟩
   unfold bG;rw [if_neg (by decide),q1,av,if_neg (by decide),if_neg (by decide),if_pos (by decide)]
   show aA (dj e l1) _=_;rw [q3,av]
  |@send _ _ _ x ha hx =>
   have hts:ts.map cy=kW oS::kN a::(exK x++(kS [59]::ks)):=by
    rw [hts];simp [stK,dU,kR,St.d,St.a,fmD,aL]
   obtain ⟨t1,r,rfl,ht,hr⟩:=keys_cons hts;obtain ⟨l1,q1,q2⟩:=dm (e:=e) hr;obtain ⟨l3,q5,q6⟩:=pu (e:=e) hx.1 hx.2 q2 (kH (by decide))
   obtain ⟨l5,q9,q10⟩:=dH (e:=e) q6;refine ⟨_,l5,(dw (d:=6) (w:=oS) (s:={ a:=a,e:=[x] }) (l1:=l3) (by decide) (by decide) (by decide) (by omega) ht ?_ q9),Bn rfl rfl,q10⟩
   unfold bG;rw [if_neg (by decide),q1,av,if_neg (by decide),if_neg (by decide),if_neg (by decide),if_pos (by decide)]
   show aA (fU e l1) _=_;rw [q5,av]
  |@one _ _ _ _ hd ha =>
   have hone:∀(k:Nat) (w:List UInt8),doW w=k→k≠0→k < 11→(k=7∨k=8∨k=9)→ts.map cy=kW w::kN a::kS [59]::ks →
     ∃x' ts',df e (f+1) deep m ts=.ok (x',m+stQ (.mk k at_ a e0 e0 0 [] [] []),ts')∧stZ false x'=stZ false (.mk k at_ a e0 e0 0 [] [] [])∧ts'.map cy=ks:=by
    intro k w hw h0 h11 hk hts;obtain ⟨t1,r,rfl,ht,hr⟩:=keys_cons hts;obtain ⟨l1,q1,q2⟩:=dm (e:=e) hr;obtain ⟨l5,q9,q10⟩:=dH (e:=e) q2;refine ⟨_,l5,(dw (d:=k) (w:=w) (s:={ a:=a }) (l1:=l1) hw h0 h11 (by omega) ht ?_ q9),Bn rfl rfl,q10⟩
    unfold bG;rw [if_neg (by omega),q1,av,if_neg (by omega),if_neg (by omega),if_neg (by omega),if_neg (by omega),if_neg (by omega)]
   rcases hd with rfl|rfl|rfl
   ·exact hone 7 qQ (by decide) (by decide) (by decide) (by decide) (by rw [hts];simp [stK,dU,kR,St.d,St.a,fmD,aL])
   ·exact hone 8 jx (by decide) (by decide) (by decide) (by decide) (by rw [hts];simp [stK,dU,kR,St.d,St.a,fmD,aL])
   ·exact hone 9 qC (by decide) (by decide) (by decide) (by decide) (by rw [hts];simp [stK,dU,kR,St.d,St.a,fmD,aL])
  |@spawn _ _ _ _ ha hl hx =>
   have hts:ts.map cy=kW o8::kN a::kS [40]::(kR 0 es++kS [41]::kS [59]::ks):=by
    rw [hts];simp [stK,dU,St.d,St.a,fmD,aL]
   obtain ⟨t1,r,rfl,ht,hr⟩:=keys_cons hts;obtain ⟨l1,q1,q2⟩:=dm (e:=e) hr;obtain ⟨l2,q3,q4⟩:=dH (e:=e) q2;obtain ⟨l3,q5,q6⟩:=Ed (e:=e) es (acc:=[]) (f:=l2.length+1) hx q4 (by simpa using hl) (Nat.le_refl _)
   obtain ⟨l5,q9,q10⟩:=dH (e:=e) q6;refine ⟨_,l5,(dw (d:=10) (w:=o8) (s:={ a:=a,e:=es }) (l1:=l3) (by decide) (by decide) (by decide) (by omega) ht ?_ q9),Bn rfl rfl,q10⟩
   unfold bG;rw [if_neg (by decide),q1,av,if_neg (by decide),if_neg (by decide),if_neg (by decide),if_neg (by decide),if_pos (by decide)]
   show aA (aR e [40] l1) _=_;rw [q3,av,q5];rfl
  |@take _ _ _ _ _ _ ha hb hd hbd hel =>
   have hts:ts.map cy=kW pE::kN a::kW mX::kN b::(qL body++((if els.length=0 then [] else kW gW::qL els)++ks)):=by
    rw [hts];simp [stK,dU,kR,St.d,St.a,St.b,fmD,aL,qL]
   obtain ⟨t1,r,rfl,ht,hr⟩:=keys_cons hts;obtain ⟨l1,q1,q2⟩:=dm (e:=e) hr;obtain ⟨l2,q3,q4⟩:=DS (e:=e) q2;obtain ⟨l3,q5,q6⟩:=dm (e:=e) q4;have c1:=aJ hts;have c2:=aJ q6;simp only [List.length_cons] at c1 hf;obtain ⟨b',q',l,g1,g2,g3,g4⟩:=zf (e:=e) (d:=11) (w:=pE) (s:={ a:=a,b:=b }) (f:=f) (n:=m) (by decide) (by decide) (by decide) (.inl (.inl rfl)) ht (by
    unfold fE;rw [if_pos (by decide),q1,av]
    show aA (aR e [102,114,111,109] l1) _=_;rw [show aR e [102,114,111,109] l1=_ from q3,av,q5,av]) q6 helse hd (hB hbd) (hE hel) hm (by omega)
   exact ⟨_,l,g1,Bn g2 g3,g4⟩
  |@for_ _ _ _ _ _ ha hb hd hbd =>
   have hts:ts.map cy=kW yY::kN a::kW mX::kN b::(qL body++((if ([]:List St).length=0 then [] else kW gW::qL [])++ks)):=by
    rw [hts];simp [stK,dU,kR,St.d,St.a,St.b,fmD,aL,qL]
   obtain ⟨t1,r,rfl,ht,hr⟩:=keys_cons hts;obtain ⟨l1,q1,q2⟩:=dm (e:=e) hr;obtain ⟨l2,q3,q4⟩:=DS (e:=e) q2;obtain ⟨l3,q5,q6⟩:=dm (e:=e) q4;have c1:=aJ hts;have c2:=aJ q6;simp only [List.length_cons] at c1 hf;obtain ⟨b',q',l,g1,g2,g3,g4⟩:=zf (e:=e) (d:=12) (w:=yY) (s:={ a:=a,b:=b }) (f:=f) (n:=m) (by decide) (by decide) (by decide) (.inr rfl) ht (by
    unfold fE;rw [if_pos (by decide),q1,av]
    show aA (aR e [102,114,111,109] l1) _=_;rw [show aR e [102,114,111,109] l1=_ from q3,av,q5,av]) q6 helse hd (hB hbd) (hE (fun y hy=>absurd hy List.not_mem_nil)) hm (by omega)
   exact ⟨_,l,g1,Bn g2 g3,g4⟩
  |@rep _ _ x _ hx hd hbd =>
   have hts:ts.map cy=kW j7::(exK x++(qL body++((if ([]:List St).length=0 then [] else kW gW::qL [])++ks))):=by
    rw [hts];simp [stK,dU,kR,St.d,fmD,aL,qL]
   obtain ⟨t1,r,rfl,ht,hr⟩:=keys_cons hts;obtain ⟨l3,q5,q6⟩:=pu (e:=e) hx.1 hx.2 hr (kH (by decide))
   have c1:=aJ hts;have c2:=aJ q6;have c3:=wP x;simp only [List.length_cons,List.length_append] at c1 c2 hf;obtain ⟨b',q',l,g1,g2,g3,g4⟩:=zf (e:=e) (d:=13) (w:=j7) (s:={ e:=[x] }) (f:=f) (n:=m) (by decide) (by decide) (by decide) (.inr rfl) ht (by
    unfold fE;rw [if_neg (by decide),q5,av]) q6 helse hd (hB hbd) (hE (fun y hy=>absurd hy List.not_mem_nil)) hm (by omega)
   exact ⟨_,l,g1,Bn g2 g3,g4⟩
  |@if_ _ _ x _ _ hx hd hbd hel =>
   have hts:ts.map cy=kW Hx::(exK x++(qL body++((if els.length=0 then [] else kW gW::qL els)++ks))):=by
    rw [hts];simp [stK,dU,kR,St.d,fmD,aL,qL]
   obtain ⟨t1,r,rfl,ht,hr⟩:=keys_cons hts;obtain ⟨l3,q5,q6⟩:=pu (e:=e) hx.1 hx.2 hr (kH (by decide))
   have c1:=aJ hts;have c2:=aJ q6;have c3:=wP x;simp only [List.length_cons,List.length_append] at c1 c2 hf;obtain ⟨b',q',l,g1,g2,g3,g4⟩:=zf (e:=e) (d:=14) (w:=Hx) (s:={ e:=[x] }) (f:=f) (n:=m) (by decide) (by decide) (by decide) (.inl (.inr rfl)) ht (by
    unfold fE;rw [if_neg (by decide),q5,av]) q6 helse hd (hB hbd) (hE hel) hm (by omega)
   exact ⟨_,l,g1,Bn g2 g3,g4⟩
theorem zd:∀(l:List St) {deep:Nat},(∀y∈l,Sw deep y)→LP e deep l
 |[],deep,_=>by
  intro f n acc ts ks hts hn hf;obtain ⟨f,rfl⟩:∃g,f=g+1:=⟨f - 1,by omega⟩
  have hts:ts.map cy=kS [125]::ks:=hts;obtain ⟨t1,r,rfl,ht,hr⟩:=keys_cons hts;refine ⟨[],r,?_,rfl,hr⟩;unfold cn;rw [cG hts,gR,if_pos (by decide),List.append_nil]
  rfl
 |x::l,deep,h=>by
  intro f n acc ts ks hts hn hf;have hX:SP e deep x:=Ju x (h x List.mem_cons_self);have hL:LP e deep l:=zd l (fun y hy=>h y (List.mem_cons_of_mem _ hy));obtain ⟨f,rfl⟩:∃g,f=g+1:=⟨f - 1,by omega⟩
  unfold El at hts;rw [List.append_assoc] at hts;unfold dh at hn ⊢;have hel:isK gW (El l++kS [125]::ks)=false:=by
   cases l with
   |nil =>
    show isK gW (kS [125]::ks)=false;rw [gR];decide
   |cons y r =>
    obtain ⟨w,ks',h1,_,h3⟩:=CQ (h y (by simp))
    unfold El;rw [h1,List.cons_append,List.cons_append,wc,h3]
  obtain ⟨x',l1,h1,h2,h3⟩:=hX f n ts _ hts hel (by omega) (by omega)
  obtain ⟨w,ks',g1,g2,g3⟩:=CQ (h x List.mem_cons_self);have k1:=aJ hts;have k2:=aJ h3;rw [List.length_append,g1,List.length_cons] at k1;obtain ⟨l',l2,h4,h5,h6⟩:=hL f (n+stQ x) (acc++[x']) l1 ks h3 (by omega) (by omega)
  refine ⟨x'::l',l2,?_,?_,h6⟩
  ·unfold cn;rw [cG hts,g1,List.cons_append,wc,g2,if_neg Bool.false_ne_true,h1,av];show cn e f deep (acc++[x']) (n+stQ x) l1=_;rw [h4,List.append_assoc,Nat.add_assoc];rfl
  ·unfold np;rw [h2,h5]
end
end
end Go.Proofs.YtkeeboomikkojaaGreatDoor
