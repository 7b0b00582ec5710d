import Derived.Test.YtkeeboomikkojaaGreatDoorRnA
import Derived.Test.YtkeeboomikkojaaGreatDoorRx4
import Derived.Test.YtkeeboomikkojaaGreatDoorRy1
import Derived.Test.YtkeeboomikkojaaGreatDoorRn1
namespace Go.Sx.Tk
variable  {eT eN eM:Int}
end Go.Sx.Tk
namespace Go.Proofs.YtkeeboomikkojaaGreatDoor
open Go Go.Sx Go.Sx.Tk Go.Sx.Rn Go.Proofs.YtkeeboomikkojaaGreatDoor.Sx
theorem PsO.okk {s:ByteArray}{p:List Sg}(h:PsO s (.ok p)):s.size≤12000∧∃ts,Tkz.Sc (bytesOf s) 0 (.ok ts)∧qn (s.size:Int) ts=.ok p∧Tkz.Out s ts 0 0:=by
 obtain ⟨ts,e,a,ho,hx⟩:=h;have hc:=ho;rcases ho with ⟨h,_,rfl,rfl⟩|⟨h0,hsc,rfl,rfl⟩|⟨_,hsc,rfl⟩
 ·rw [if_neg (by decide)] at hx
  cases hx
 ·rw [if_pos rfl] at hx;exact ⟨h0,ts,hsc,hx.symm,hc⟩
 ·have h1:=Tkz.Sc.err hsc _ _ rfl;rw [if_neg h1.1] at hx;cases hx
end Go.Proofs.YtkeeboomikkojaaGreatDoor
namespace Go.Proofs.YtkeeboomikkojaaGreatDoor
open Go Go.Sx Go.Sx.Rn Go.Proofs.YtkeeboomikkojaaGreatDoor.Sx
section
variable  {ω:Amb}
end
end Go.Proofs.YtkeeboomikkojaaGreatDoor
namespace Go.Proofs.YtkeeboomikkojaaGreatDoor
open Go Go.Sx Go.Sx.Tk Go.Sx.Rn Go.Proofs.YtkeeboomikkojaaGreatDoor.Sx
theorem OH (op:Int)(nm:ByteArray)(n:Int)(a b:Ex):exN (.mk op nm n [a,b])=1+exN a+exN b:=by
 rw [gA];show 1+cw [a,b]=_;unfold cw;unfold cw;unfold cw;omega
theorem ex1N (op:Int)(nm:ByteArray)(n:Int)(a:Ex):exN (.mk op nm n [a])=1+exN a:=by
 rw [gA];show 1+cw [a]=_;unfold cw;unfold cw;omega
theorem ex0N (op:Int)(nm:ByteArray)(n:Int):exN (.mk op nm n [])=1:=by
 rw [gA];show 1+cw []=_;unfold cw;rfl
theorem II (x:Ex):cw [x]=exN x:=by
 unfold cw;unfold cw;omega
theorem GP:cw []=0:=by
 unfold cw;rfl
theorem ecnt (e:Int):∀f:Nat,(∀{o n l r},qv e f o n l=.ok r→r.2.1=n+exN r.1)∧(∀{o n l r},pu e f o n l=.ok r→r.2.1=n+exN r.1)∧(∀{o x n l r},qE e f o x n l=.ok r→r.2.1+exN x=n+exN r.1) ∧
  (∀{o n l r},eZ e f o n l=.ok r→r.2.1=n+exN r.1)∧(∀{o x n l r},fc e f o x n l=.ok r→r.2.1+exN x=n+exN r.1)∧(∀{o n l r},cf e f o n l=.ok r→r.2.1=n+exN r.1):=by
 intro f
 induction f with
 |zero =>
  refine ⟨?_,?_,?_,?_,?_,?_⟩
  ·intro o n l r h;unfold qv at h;cases h
  ·intro o n l r h;unfold pu at h;cases h
  ·intro o x n l r h;unfold qE at h;cases h
  ·intro o n l r h;unfold eZ at h;cases h
  ·intro o x n l r h;unfold fc at h;cases h
  ·intro o n l r h;unfold cf at h;cases h
 |succ f ih =>
  obtain ⟨i1,i2,i3,i4,i5,i6⟩:=ih;refine ⟨?_,?_,?_,?_,?_,?_⟩
  ·intro o n l r h;unfold qv at h;obtain ⟨a,ha,h⟩:=ai h;have a1:=i2 ha
   split at h
   ·obtain ⟨b,hb,h⟩:=ai h;have b1:=i2 hb;cases h;show b.2.1+1=n+exN (.mk _ _ _ [a.1,b.1]);rw [OH];omega
   split at h
   ·obtain ⟨b,hb,h⟩:=ai h;have b1:=i2 hb;cases h;show b.2.1+1=n+exN (.mk _ _ _ [a.1,b.1]);rw [OH];omega
   ·cases h;exact a1
  ·intro o n l r h;unfold pu at h;obtain ⟨a,ha,h⟩:=ai h;have a1:=i4 ha;have b1:=i3 h;omega
  ·intro o x n l r h;unfold qE at h
   split at h
   ·obtain ⟨a,ha,h⟩:=ai h;have a1:=i4 ha;have b1:=i3 h;have b2:∀op,exN (bz op x a.1)=1+exN x+exN a.1:=fun op=>OH _ _ _ _ _;rw [b2] at b1;omega
   split at h
   ·obtain ⟨a,ha,h⟩:=ai h;have a1:=i4 ha;have b1:=i3 h;have b2:∀op,exN (bz op x a.1)=1+exN x+exN a.1:=fun op=>OH _ _ _ _ _;rw [b2] at b1;omega
   ·cases h;rfl
  ·intro o n l r h;unfold eZ at h;obtain ⟨a,ha,h⟩:=ai h;have a1:=i6 ha;have b1:=i5 h;omega
  ·intro o x n l r h;unfold fc at h
   split at h
   ·obtain ⟨a,ha,h⟩:=ai h;have a1:=i6 ha;have b1:=i5 h;have b2:∀op,exN (bz op x a.1)=1+exN x+exN a.1:=fun op=>OH _ _ _ _ _;rw [b2] at b1;omega
   ·cases h;rfl
  ·intro o n l r h;unfold cf at h
   split at h
   ·split at h
    ·cases h
    obtain ⟨a,ha,h⟩:=ai h;have a1:=i1 ha
    split at h
    ·cases h;exact a1
    ·cases h
   split at h
   ·split at h
    ·cases h
    obtain ⟨a,ha,h⟩:=ai h;have a1:=i6 ha;cases h;show a.2.1=n+exN (.mk _ _ _ [a.1]);rw [ex1N];omega
   split at h
   ·cases h
   ·split at h
    ·cases h;show n+1=n+exN (.mk _ _ _ []);rw [ex0N]
    split at h
    ·cases h;show n+1=n+exN (.mk _ _ _ []);rw [ex0N]
    ·cases h
theorem zu {e:Int}{l:List Tok}{r:Ex×List Tok}(h:gQ e l=.ok r):exN r.1+r.2.length≤l.length:=by
 cases l with
 |nil=>cases h
 |cons t q =>
  rw [eg] at h;obtain ⟨a,ha,h⟩:=ai h;have h1:=(HW e _).1 ha;have h2:=(ecnt e _).1 ha
  split at h
  ·cases h
  ·cases h;show exN a.1+a.2.2.length≤_;have:=h1.2;omega
theorem Ke {e:Int}:∀(f:Nat) {acc:List Ex} {l:List Tok} {r:List Ex×List Tok},dJ e f acc l=.ok r→cw r.1+r.2.length≤cw acc+l.length
 |0,_,_,_,h=>by
  unfold dJ at h;cases h
 |f+1,acc,l,r,h=>by
  rw [tw] at h
  split at h
  ·rename_i h1;have:=bZ h1;cases h;show cw acc+l.tail.length≤_;omega
  ·obtain ⟨a,ha,h⟩:=ai h;have hla:a.length≤l.length:=by
    split at ha
    ·cases ha;exact Zd _
    ·have:=bH ha;omega
   split at h
   ·cases h
   ·obtain ⟨b,hb,h⟩:=ai h;have h1:=zu hb;have h2:=Ke f h;rw [gH] at h2;omega
theorem JM {e:Int}:∀(f:Nat) {acc:List (ByteArray×ByteArray)} {l:List Tok} {r:List (ByteArray×ByteArray)×List Tok},fb e f acc l=.ok r→acc.length≤6→r.1.length≤6
 |0,_,_,_,h,_=>by
  unfold fb at h;cases h
 |f+1,acc,l,r,h,hacc=>by
  rw [rU] at h
  split at h
  ·cases h;exact hacc
  ·obtain ⟨a,ha,h⟩:=ai h
   split at h
   ·cases h
   ·rename_i h6;obtain ⟨b,hb,h⟩:=ai h;obtain ⟨c,hc,h⟩:=ai h;exact JM f h (by rw [Qd];simp only [Qn,Qy];omega)
theorem Lv {e:Int}{d:Nat}{l:List Tok}{r:Sh×List Tok}(h:cg e d l=.ok r):cw r.1.e+r.2.length≤l.length:=by
 unfold cg at h
 split at h
 ·obtain ⟨q,hq,h⟩:=ai h;have:=zu hq;cases h;show cw [q.1]+q.2.length≤_;rw [II];exact this
 obtain ⟨a,ha,h⟩:=ai h;have hal:=bV ha
 split at h
 ·obtain ⟨w,hw,h⟩:=ai h;obtain ⟨q,hq,h⟩:=ai h;have h1:=bH hw;have:=zu hq;cases h;show cw [q.1]+q.2.length≤_;rw [II];omega
 split at h
 ·obtain ⟨b,hb,h⟩:=ai h;obtain ⟨t,ht,h⟩:=ai h;obtain ⟨n,hn,h⟩:=ai h;have h1:=bV hb;have h2:=pK ht;have h3:=Ck hn;cases h;show cw []+n.2.length≤_;rw [GP];omega
 split at h
 ·obtain ⟨b,hb,h⟩:=ai h;have h1:=bV hb;cases h;show cw []+b.2.length≤_;rw [GP];omega
 split at h
 ·obtain ⟨q,hq,h⟩:=ai h;have:=zu hq;cases h;show cw [q.1]+q.2.length≤_;rw [II];omega
 split at h
 ·obtain ⟨w,hw,h⟩:=ai h;obtain ⟨q,hq,h⟩:=ai h;have h1:=bH hw;have h2:=Ke _ hq;rw [GP] at h2;cases h;show cw q.1+q.2.length≤_;omega
 ·cases h;show cw []+a.2.length≤_;rw [GP];omega
theorem N2 {e:Int}{d:Nat}{l:List Tok}{r:Sh×List Tok}(h:gx e d l=.ok r):cw r.1.e+r.2.length≤l.length:=by
 unfold gx at h
 split at h
 ·obtain ⟨a,ha,h⟩:=ai h;obtain ⟨w,hw,h⟩:=ai h;obtain ⟨b,hb,h⟩:=ai h;have h1:=bV ha;have h2:=bH hw;have h3:=bV hb;cases h;show cw []+b.2.length≤_;rw [GP];omega
 ·obtain ⟨q,hq,h⟩:=ai h;have:=zu hq;cases h;show cw [q.1]+q.2.length≤_;rw [II];exact this
theorem Mz:cc []=0:=by
 unfold cc;rfl
theorem stM (d at_:Int)(a b t:ByteArray)(n:Int)(e:List Ex)(body els:List St):stN (.mk d at_ a b t n e body els)=1+cw e+cc body+cc els:=by rw [jN];rfl
theorem sN (e:Int):∀f:Nat,(∀{deep n l r},bD e f deep n l=.ok r→cc r.1+r.2.2.length≤l.length)∧(∀{deep acc n l r},cR e f deep acc n l=.ok r→cc r.1+r.2.2.length≤cc acc+l.length)∧(∀{deep n l r},dU e f deep n l=.ok r→stN r.1+r.2.2.length≤l.length):=by
 intro f
 induction f with
 |zero =>
  refine ⟨?_,?_,?_⟩
  ·intro deep n l r h;unfold bD at h;cases h
  ·intro deep acc n l r h;unfold cR at h;cases h
  ·intro deep n l r h;unfold dU at h;cases h
 |succ f ih =>
  obtain ⟨i1,i2,i3⟩:=ih;refine ⟨?_,?_,?_⟩
  ·intro deep n l r h;unfold bD at h
   split at h
   ·rename_i hT;have ht:=bZ hT
    split at h
    ·cases h
    ·have:=i2 h;rw [Mz] at this;omega
   ·cases h
  ·intro deep acc n l r h;unfold cR at h
   split at h
   ·rename_i hT;have ht:=bZ hT;cases h;show cc acc+l.tail.length≤_;omega
   ·obtain ⟨a,ha,h⟩:=ai h;have h1:=i3 ha;have h2:=i2 h;rw [ub] at h2;omega
  ·intro deep n l r h;cases l with
   |nil=>rw [iL] at h;cases h
   |cons t l =>
    rw [fV] at h;simp only [Qn]
    split at h
    ·split at h
     ·cases h
     split at h
     ·obtain ⟨s,hs,h⟩:=ai h;obtain ⟨w,hw,h⟩:=ai h;have h1:=Lv hs;have h2:=bH hw;cases h;show stN (.mk _ _ _ _ _ _ _ _ _)+w.length≤_;rw [stM,Mz];omega
     ·obtain ⟨s,hs,h⟩:=ai h;obtain ⟨b,hb,h⟩:=ai h;have h1:=N2 hs;have h2:=i1 hb
      split at h
      ·rename_i hT;have ht:=bZ hT.2;obtain ⟨q,hq,h⟩:=ai h;have h3:=i1 hq;cases h;show stN (.mk _ _ _ _ _ _ _ _ _)+q.2.2.length≤_;rw [stM];omega
      ·cases h;show stN (.mk _ _ _ _ _ _ _ _ _)+b.2.2.length≤_;rw [stM,Mz];omega
    ·cases h
abbrev HU (p:List Sg):Nat:=(p.map fun s=>cc s.body).sum
theorem Me {e:Int}{n:Nat}{l:List Tok}{q:Sg×Nat×List Tok}(h:gN e n l=.ok q):cc q.1.body+q.2.2.length≤l.length∧q.1.ps.length≤6:=by
 cases l with
 |nil=>cases h
 |cons t r =>
  rw [iX] at h;obtain ⟨a,ha,h⟩:=ai h;obtain ⟨l,hl,h⟩:=ai h;obtain ⟨ps,hps,h⟩:=ai h;obtain ⟨b,hb,h⟩:=ai h;have h1:=bV ha;have h2:=bH hl;have h3:=tW hps;have h4:=(sN e _).1 hb;have h5:=JM _ hps (by simp)
  cases h;refine ⟨?_,h5⟩;show cc b.1+b.2.2.length≤_;simp only [Qn];omega
theorem BY {e:Int}:∀(f:Nat) {n:Nat} {acc p:List Sg} {l:List Tok},cO e f acc n l=.ok p→(∀s∈acc,s.ps.length≤6)→HU p≤HU acc+l.length∧∀s∈p,s.ps.length≤6
 |0,_,_,_,_,h,_=>by
  unfold cO at h;cases h
 |f+1,n,acc,p,l,h,hacc=>by
  rw [kP] at h
  split at h
  ·cases h;exact ⟨by omega,hacc⟩
  split at h
  ·split at h
   ·cases h
   ·obtain ⟨s,hs,h⟩:=ai h;obtain ⟨h1,h2⟩:=Me hs;obtain ⟨h3,h4⟩:=BY f h fun x hx=>by
     rcases Z3.1 hx with hx|hx
     ·exact hacc x hx
     ·rw [Qf.1 hx];exact h2
    refine ⟨?_,h4⟩;have:HU (acc++[s.1])=HU acc+cc s.1.body:=by simp [HU]
    omega
  ·cases h
theorem Hy {e:Int}{l:List Tok}{p:List Sg}(h:qn e l=.ok p):HU p≤l.length∧∀s∈p,s.ps.length≤6:=by
 have:=BY _ h (by simp)
 simpa [HU] using this
end Go.Proofs.YtkeeboomikkojaaGreatDoor
