import Derived.Test.YtkeeboomikkojaaGreatDoorRnA
import Derived.Test.YtkeeboomikkojaaGreatDoorRx4
import Derived.Test.YtkeeboomikkojaaGreatDoorRy1
import Derived.Test.YtkeeboomikkojaaGreatDoorRn1
namespace Go.Sx.Tk
variable  {eT eN eM:Int}
end Go.Sx.Tk
namespace Go.Proofs.YtkeeboomikkojaaGreatDoor
open Go Go.Sx Go.Sx.Tk Go.Sx.Rn Go.Proofs.YtkeeboomikkojaaGreatDoor.Sx
theorem PsO.okk {s:ByteArray}{p:List Sg}(h:PsO s (.ok p)):s.size≤12000∧∃ts,Tkz.Sc (bytesOf s) 0 (.ok ts)∧tc (s.size:Int) ts=.ok p∧Tkz.Out s ts 0 0:=by
 obtain ⟨ts,e,a,ho,hx⟩:=h;have hc:=ho;rcases ho with ⟨h,_,rfl,rfl⟩|⟨h0,hsc,rfl,rfl⟩|⟨_,hsc,rfl⟩
 ·rw [if_neg (by decide)] at hx
  cases hx
 ·rw [if_pos rfl] at hx;exact ⟨h0,ts,hsc,hx.symm,hc⟩
 ·have h1:=Tkz.Sc.err hsc _ _ rfl;rw [if_neg h1.1] at hx;cases hx
end Go.Proofs.YtkeeboomikkojaaGreatDoor
namespace Go.Proofs.YtkeeboomikkojaaGreatDoor
open Go Go.Sx Go.Sx.Rn Go.Proofs.YtkeeboomikkojaaGreatDoor.Sx
section
variable  {ω:Amb}
end
end Go.Proofs.YtkeeboomikkojaaGreatDoor
namespace Go.Proofs.YtkeeboomikkojaaGreatDoor
open Go Go.Sx Go.Sx.Tk Go.Sx.Rn Go.Proofs.YtkeeboomikkojaaGreatDoor.Sx
theorem OH (op:Int)(nm:ByteArray)(n:Int)(a b:Ex):exN (.mk op nm n [a,b])=1+exN a+exN b:=by
 rw [gF];show 1+cZ [a,b]=_;unfold cZ;unfold cZ;unfold cZ;omega
theorem ex1N (op:Int)(nm:ByteArray)(n:Int)(a:Ex):exN (.mk op nm n [a])=1+exN a:=by
 rw [gF];show 1+cZ [a]=_;unfold cZ;unfold cZ;omega
theorem ex0N (op:Int)(nm:ByteArray)(n:Int):exN (.mk op nm n [])=1:=by
 rw [gF];show 1+cZ []=_;unfold cZ;rfl
theorem H3 (x:Ex):cZ [x]=exN x:=by
 unfold cZ;unfold cZ;omega
theorem Gc:cZ []=0:=by
 unfold cZ;rfl
theorem ecnt (e:Int):∀f:Nat,(∀{o n l r},rK e f o n l=.ok r→r.2.1=n+exN r.1)∧(∀{o n l r},qM e f o n l=.ok r→r.2.1=n+exN r.1)∧(∀{o x n l r},rE e f o x n l=.ok r→r.2.1+exN x=n+exN r.1) ∧
  (∀{o n l r},fU e f o n l=.ok r→r.2.1=n+exN r.1)∧(∀{o x n l r},fZ e f o x n l=.ok r→r.2.1+exN x=n+exN r.1)∧(∀{o n l r},cx e f o n l=.ok r→r.2.1=n+exN r.1):=by
 intro f
 induction f with
 |zero =>
  refine ⟨?_,?_,?_,?_,?_,?_⟩
  ·intro o n l r h;unfold rK at h;cases h
  ·intro o n l r h;unfold qM at h;cases h
  ·intro o x n l r h;unfold rE at h;cases h
  ·intro o n l r h;unfold fU at h;cases h
  ·intro o x n l r h;unfold fZ at h;cases h
  ·intro o n l r h;unfold cx at h;cases h
 |succ f ih =>
  obtain ⟨i1,i2,i3,i4,i5,i6⟩:=ih;refine ⟨?_,?_,?_,?_,?_,?_⟩
  ·intro o n l r h;unfold rK at h;obtain ⟨a,ha,h⟩:=aj h;have a1:=i2 ha
   split at h
   ·obtain ⟨b,hb,h⟩:=aj h;have b1:=i2 hb;cases h;show b.2.1+1=n+exN (.mk _ _ _ [a.1,b.1]);rw [OH];omega
   split at h
   ·obtain ⟨b,hb,h⟩:=aj h;have b1:=i2 hb;cases h;show b.2.1+1=n+exN (.mk _ _ _ [a.1,b.1]);rw [OH];omega
   ·cases h;exact a1
  ·intro o n l r h;unfold qM at h;obtain ⟨a,ha,h⟩:=aj h;have a1:=i4 ha;have b1:=i3 h;omega
  ·intro o x n l r h;unfold rE at h
   split at h
   ·obtain ⟨a,ha,h⟩:=aj h;have a1:=i4 ha;have b1:=i3 h;have b2:∀op,exN (bR op x a.1)=1+exN x+exN a.1:=fun op=>OH _ _ _ _ _;rw [b2] at b1;omega
   split at h
   ·obtain ⟨a,ha,h⟩:=aj h;have a1:=i4 ha;have b1:=i3 h;have b2:∀op,exN (bR op x a.1)=1+exN x+exN a.1:=fun op=>OH _ _ _ _ _;rw [b2] at b1;omega
   ·cases h;rfl
  ·intro o n l r h;unfold fU at h;obtain ⟨a,ha,h⟩:=aj h;have a1:=i6 ha;have b1:=i5 h;omega
  ·intro o x n l r h;unfold fZ at h
   split at h
   ·obtain ⟨a,ha,h⟩:=aj h;have a1:=i6 ha;have b1:=i5 h;have b2:∀op,exN (bR op x a.1)=1+exN x+exN a.1:=fun op=>OH _ _ _ _ _;rw [b2] at b1;omega
   ·cases h;rfl
  ·intro o n l r h;unfold cx at h
   split at h
   ·split at h
    ·cases h
    obtain ⟨a,ha,h⟩:=aj h;have a1:=i1 ha
    split at h
    ·cases h;exact a1
    ·cases h
   split at h
   ·split at h
    ·cases h
    obtain ⟨a,ha,h⟩:=aj h;have a1:=i6 ha;cases h;show a.2.1=n+exN (.mk _ _ _ [a.1]);rw [ex1N];omega
   split at h
   ·cases h
   ·split at h
    ·cases h;show n+1=n+exN (.mk _ _ _ []);rw [ex0N]
    split at h
    ·cases h;show n+1=n+exN (.mk _ _ _ []);rw [ex0N]
    ·cases h
theorem zL {e:Int}{l:List Tok}{r:Ex×List Tok}(h:iW e l=.ok r):exN r.1+r.2.length≤l.length:=by
 cases l with
 |nil=>cases h
 |cons t q =>
  rw [fh] at h;obtain ⟨a,ha,h⟩:=aj h;have h1:=(HH e _).1 ha;have h2:=(ecnt e _).1 ha
  split at h
  ·cases h
  ·cases h;show exN a.1+a.2.2.length≤_;have:=h1.2;omega
theorem Ld {e:Int}:∀(f:Nat) {acc:List Ex} {l:List Tok} {r:List Ex×List Tok},eC e f acc l=.ok r→cZ r.1+r.2.length≤cZ acc+l.length
 |0,_,_,_,h=>by
  unfold eC at h;cases h
 |f+1,acc,l,r,h=>by
  rw [uf] at h
  split at h
  ·rename_i h1;have:=cr h1;cases h;show cZ acc+l.tail.length≤_;omega
  ·obtain ⟨a,ha,h⟩:=aj h;have hla:a.length≤l.length:=by
    split at ha
    ·cases ha;exact Zc _
    ·have:=bU ha;omega
   split at h
   ·cases h
   ·obtain ⟨b,hb,h⟩:=aj h;have h1:=zL hb;have h2:=Ld f h;rw [iu] at h2;omega
theorem Ks {e:Int}:∀(f:Nat) {acc:List (ByteArray×ByteArray)} {l:List Tok} {r:List (ByteArray×ByteArray)×List Tok},fY e f acc l=.ok r→acc.length≤6→r.1.length≤6
 |0,_,_,_,h,_=>by
  unfold fY at h;cases h
 |f+1,acc,l,r,h,hacc=>by
  rw [rY] at h
  split at h
  ·cases h;exact hacc
  ·obtain ⟨a,ha,h⟩:=aj h
   split at h
   ·cases h
   ·rename_i h6;obtain ⟨b,hb,h⟩:=aj h;obtain ⟨c,hc,h⟩:=aj h;exact Ks f h (by rw [Qd];simp only [Qn,Qy];omega)
theorem ML {e:Int}{d:Nat}{l:List Tok}{r:Sh×List Tok}(h:cz e d l=.ok r):cZ r.1.e+r.2.length≤l.length:=by
 unfold cz at h
 split at h
 ·obtain ⟨q,hq,h⟩:=aj h;have:=zL hq;cases h;show cZ [q.1]+q.2.length≤_;rw [H3];exact this
 obtain ⟨a,ha,h⟩:=aj h;have hal:=cl ha
 split at h
 ·obtain ⟨w,hw,h⟩:=aj h;obtain ⟨q,hq,h⟩:=aj h;have h1:=bU hw;have:=zL hq;cases h;show cZ [q.1]+q.2.length≤_;rw [H3];omega
 split at h
 ·obtain ⟨b,hb,h⟩:=aj h;obtain ⟨t,ht,h⟩:=aj h;obtain ⟨n,hn,h⟩:=aj h;have h1:=cl hb;have h2:=qv ht;have h3:=Di hn;cases h;show cZ []+n.2.length≤_;rw [Gc];omega
 split at h
 ·obtain ⟨b,hb,h⟩:=aj h;have h1:=cl hb;cases h;show cZ []+b.2.length≤_;rw [Gc];omega
 split at h
 ·obtain ⟨q,hq,h⟩:=aj h;have:=zL hq;cases h;show cZ [q.1]+q.2.length≤_;rw [H3];omega
 split at h
 ·obtain ⟨w,hw,h⟩:=aj h;obtain ⟨q,hq,h⟩:=aj h;have h1:=bU hw;have h2:=Ld _ hq;rw [Gc] at h2;cases h;show cZ q.1+q.2.length≤_;omega
 ·cases h;show cZ []+a.2.length≤_;rw [Gc];omega
theorem OP {e:Int}{d:Nat}{l:List Tok}{r:Sh×List Tok}(h:iD e d l=.ok r):cZ r.1.e+r.2.length≤l.length:=by
 unfold iD at h
 split at h
 ·obtain ⟨a,ha,h⟩:=aj h;obtain ⟨w,hw,h⟩:=aj h;obtain ⟨b,hb,h⟩:=aj h;have h1:=cl ha;have h2:=bU hw;have h3:=cl hb;cases h;show cZ []+b.2.length≤_;rw [Gc];omega
 ·obtain ⟨q,hq,h⟩:=aj h;have:=zL hq;cases h;show cZ [q.1]+q.2.length≤_;rw [H3];exact this
theorem Mc:cq []=0:=by
 unfold cq;rfl
theorem stM (d at_:Int)(a b t:ByteArray)(n:Int)(e:List Ex)(body els:List St):stN (.mk d at_ a b t n e body els)=1+cZ e+cq body+cq els:=by rw [jH];rfl
theorem sN (e:Int):∀f:Nat,(∀{deep n l r},bQ e f deep n l=.ok r→cq r.1+r.2.2.length≤l.length)∧(∀{deep acc n l r},dC e f deep acc n l=.ok r→cq r.1+r.2.2.length≤cq acc+l.length)∧(∀{deep n l r},eY e f deep n l=.ok r→stN r.1+r.2.2.length≤l.length):=by
 intro f
 induction f with
 |zero =>
  refine ⟨?_,?_,?_⟩
  ·intro deep n l r h;unfold bQ at h;cases h
  ·intro deep acc n l r h;unfold dC at h;cases h
  ·intro deep n l r h;unfold eY at h;cases h
 |succ f ih =>
  obtain ⟨i1,i2,i3⟩:=ih;refine ⟨?_,?_,?_⟩
  ·intro deep n l r h;unfold bQ at h
   split at h
   ·rename_i hT;have ht:=cr hT
    split at h
    ·cases h
    ·have:=i2 h;rw [Mc] at this;omega
   ·cases h
  ·intro deep acc n l r h;unfold dC at h
   split at h
   ·rename_i hT;have ht:=cr hT;cases h;show cq acc+l.tail.length≤_;omega
   ·obtain ⟨a,ha,h⟩:=aj h;have h1:=i3 ha;have h2:=i2 h;rw [u7] at h2;omega
  ·intro deep n l r h;cases l with
   |nil=>rw [jP] at h;cases h
   |cons t l =>
    rw [gO] at h;simp only [Qn]
    split at h
    ·split at h
     ·cases h
     split at h
     ·obtain ⟨s,hs,h⟩:=aj h;obtain ⟨w,hw,h⟩:=aj h;have h1:=ML hs;have h2:=bU hw;cases h;show stN (.mk _ _ _ _ _ _ _ _ _)+w.length≤_;rw [stM,Mc];omega
     ·obtain ⟨s,hs,h⟩:=aj h;obtain ⟨b,hb,h⟩:=aj h;have h1:=OP hs;have h2:=i1 hb
      split at h
      ·rename_i hT;have ht:=cr hT.2;obtain ⟨q,hq,h⟩:=aj h;have h3:=i1 hq;cases h;show stN (.mk _ _ _ _ _ _ _ _ _)+q.2.2.length≤_;rw [stM];omega
      ·cases h;show stN (.mk _ _ _ _ _ _ _ _ _)+b.2.2.length≤_;rw [stM,Mc];omega
    ·cases h
abbrev IZ (p:List Sg):Nat:=(p.map fun s=>cq s.body).sum
theorem Mi {e:Int}{n:Nat}{l:List Tok}{q:Sg×Nat×List Tok}(h:iE e n l=.ok q):cq q.1.body+q.2.2.length≤l.length∧q.1.ps.length≤6:=by
 cases l with
 |nil=>cases h
 |cons t r =>
  rw [jD] at h;obtain ⟨a,ha,h⟩:=aj h;obtain ⟨l,hl,h⟩:=aj h;obtain ⟨ps,hps,h⟩:=aj h;obtain ⟨b,hb,h⟩:=aj h;have h1:=cl ha;have h2:=bU hl;have h3:=uD hps;have h4:=(sN e _).1 hb;have h5:=Ks _ hps (by simp)
  cases h;refine ⟨?_,h5⟩;show cq b.1+b.2.2.length≤_;simp only [Qn];omega
theorem Dl {e:Int}:∀(f:Nat) {n:Nat} {acc p:List Sg} {l:List Tok},dw e f acc n l=.ok p→(∀s∈acc,s.ps.length≤6)→IZ p≤IZ acc+l.length∧∀s∈p,s.ps.length≤6
 |0,_,_,_,_,h,_=>by
  unfold dw at h;cases h
 |f+1,n,acc,p,l,h,hacc=>by
  rw [mj] at h
  split at h
  ·cases h;exact ⟨by omega,hacc⟩
  split at h
  ·split at h
   ·cases h
   ·obtain ⟨s,hs,h⟩:=aj h;obtain ⟨h1,h2⟩:=Mi hs;obtain ⟨h3,h4⟩:=Dl f h fun x hx=>by
     rcases Z3.1 hx with hx|hx
     ·exact hacc x hx
     ·rw [Qf.1 hx];exact h2
    refine ⟨?_,h4⟩;have:IZ (acc++[s.1])=IZ acc+cq s.1.body:=by simp [IZ]
    omega
  ·cases h
theorem MK {e:Int}{l:List Tok}{p:List Sg}(h:tc e l=.ok p):IZ p≤l.length∧∀s∈p,s.ps.length≤6:=by
 have:=Dl _ h (by simp)
 simpa [IZ] using this
end Go.Proofs.YtkeeboomikkojaaGreatDoor
