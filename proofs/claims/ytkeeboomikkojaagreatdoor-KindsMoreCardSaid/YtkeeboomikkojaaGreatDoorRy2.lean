import Derived.Test.YtkeeboomikkojaaGreatDoorRnA
import Derived.Test.YtkeeboomikkojaaGreatDoorRx4
import Derived.Test.YtkeeboomikkojaaGreatDoorRy1
import Derived.Test.YtkeeboomikkojaaGreatDoorRn1
namespace Go.Sx.Tk
variable  {eT eN eM:Int}
end Go.Sx.Tk
namespace Go.Proofs.YtkeeboomikkojaaGreatDoor
open Go Go.Sx Go.Sx.Tk Go.Sx.Rn Go.Proofs.YtkeeboomikkojaaGreatDoor.Sx
theorem PsO.okk {s:ByteArray}{p:List Sg}(h:PsO s (.ok p)):s.size≤12000∧∃ts,Tkz.Sc (bytesOf s) 0 (.ok ts)∧oU (s.size:Int) ts=.ok p∧Tkz.Out s ts 0 0:=by
 obtain ⟨ts,e,a,ho,hx⟩:=h;have hc:=ho;rcases ho with ⟨h,_,rfl,rfl⟩|⟨h0,hsc,rfl,rfl⟩|⟨_,hsc,rfl⟩
 ·rw [if_neg (by decide)] at hx
  cases hx
 ·rw [if_pos rfl] at hx;exact ⟨h0,ts,hsc,hx.symm,hc⟩
 ·have h1:=Tkz.Sc.err hsc _ _ rfl;rw [if_neg h1.1] at hx;cases hx
end Go.Proofs.YtkeeboomikkojaaGreatDoor
namespace Go.Proofs.YtkeeboomikkojaaGreatDoor
open Go Go.Sx Go.Sx.Rn Go.Proofs.YtkeeboomikkojaaGreatDoor.Sx
section
variable  {ω:Amb}
end
end Go.Proofs.YtkeeboomikkojaaGreatDoor
namespace Go.Proofs.YtkeeboomikkojaaGreatDoor
open Go Go.Sx Go.Sx.Tk Go.Sx.Rn Go.Proofs.YtkeeboomikkojaaGreatDoor.Sx
theorem IK (op:Int)(nm:ByteArray)(n:Int)(a b:Ex):exN (.mk op nm n [a,b])=1+exN a+exN b:=by
 rw [fZ];show 1+bV [a,b]=_;unfold bV;unfold bV;unfold bV;omega
theorem ex1N (op:Int)(nm:ByteArray)(n:Int)(a:Ex):exN (.mk op nm n [a])=1+exN a:=by
 rw [fZ];show 1+bV [a]=_;unfold bV;unfold bV;omega
theorem ex0N (op:Int)(nm:ByteArray)(n:Int):exN (.mk op nm n [])=1:=by
 rw [fZ];show 1+bV []=_;unfold bV;rfl
theorem Fz (x:Ex):bV [x]=exN x:=by
 unfold bV;unfold bV;omega
theorem Ci:bV []=0:=by
 unfold bV;rfl
theorem ecnt (e:Int):∀f:Nat,(∀{o n l r},pj e f o n l=.ok r→r.2.1=n+exN r.1)∧(∀{o n l r},nZ e f o n l=.ok r→r.2.1=n+exN r.1)∧(∀{o x n l r},o0 e f o x n l=.ok r→r.2.1+exN x=n+exN r.1) ∧
  (∀{o n l r},dQ e f o n l=.ok r→r.2.1=n+exN r.1)∧(∀{o x n l r},dY e f o x n l=.ok r→r.2.1+exN x=n+exN r.1)∧(∀{o n l r},bF e f o n l=.ok r→r.2.1=n+exN r.1):=by
 intro f
 induction f with
 |zero =>
  refine ⟨?_,?_,?_,?_,?_,?_⟩
  ·intro o n l r h;unfold pj at h;cases h
  ·intro o n l r h;unfold nZ at h;cases h
  ·intro o x n l r h;unfold o0 at h;cases h
  ·intro o n l r h;unfold dQ at h;cases h
  ·intro o x n l r h;unfold dY at h;cases h
  ·intro o n l r h;unfold bF at h;cases h
 |succ f ih =>
  obtain ⟨i1,i2,i3,i4,i5,i6⟩:=ih;refine ⟨?_,?_,?_,?_,?_,?_⟩
  ·intro o n l r h;unfold pj at h;obtain ⟨a,ha,h⟩:=ai h;have a1:=i2 ha
   split at h
   ·obtain ⟨b,hb,h⟩:=ai h;have b1:=i2 hb;cases h;show b.2.1+1=n+exN (.mk _ _ _ [a.1,b.1]);rw [IK];omega
   split at h
   ·obtain ⟨b,hb,h⟩:=ai h;have b1:=i2 hb;cases h;show b.2.1+1=n+exN (.mk _ _ _ [a.1,b.1]);rw [IK];omega
   ·cases h;exact a1
  ·intro o n l r h;unfold nZ at h;obtain ⟨a,ha,h⟩:=ai h;have a1:=i4 ha;have b1:=i3 h;omega
  ·intro o x n l r h;unfold o0 at h
   split at h
   ·obtain ⟨a,ha,h⟩:=ai h;have a1:=i4 ha;have b1:=i3 h;have b2:∀op,exN (aU op x a.1)=1+exN x+exN a.1:=fun op=>IK _ _ _ _ _;rw [b2] at b1;omega
   split at h
   ·obtain ⟨a,ha,h⟩:=ai h;have a1:=i4 ha;have b1:=i3 h;have b2:∀op,exN (aU op x a.1)=1+exN x+exN a.1:=fun op=>IK _ _ _ _ _;rw [b2] at b1;omega
   ·cases h;rfl
  ·intro o n l r h;unfold dQ at h;obtain ⟨a,ha,h⟩:=ai h;have a1:=i6 ha;have b1:=i5 h;omega
  ·intro o x n l r h;unfold dY at h
   split at h
   ·obtain ⟨a,ha,h⟩:=ai h;have a1:=i6 ha;have b1:=i5 h;have b2:∀op,exN (aU op x a.1)=1+exN x+exN a.1:=fun op=>IK _ _ _ _ _;rw [b2] at b1;omega
   ·cases h;rfl
  ·intro o n l r h;unfold bF at h
   split at h
   ·split at h
    ·cases h
    obtain ⟨a,ha,h⟩:=ai h;have a1:=i1 ha
    split at h
    ·cases h;exact a1
    ·cases h
   split at h
   ·split at h
    ·cases h
    obtain ⟨a,ha,h⟩:=ai h;have a1:=i6 ha;cases h;show a.2.1=n+exN (.mk _ _ _ [a.1]);rw [ex1N];omega
   split at h
   ·cases h
   ·split at h
    ·cases h;show n+1=n+exN (.mk _ _ _ []);rw [ex0N]
    split at h
    ·cases h;show n+1=n+exN (.mk _ _ _ []);rw [ex0N]
    ·cases h
theorem wR {e:Int}{l:List Tok}{r:Ex×List Tok}(h:fU e l=.ok r):exN r.1+r.2.length≤l.length:=by
 cases l with
 |nil=>cases h
 |cons t q =>
  rw [dx] at h;obtain ⟨a,ha,h⟩:=ai h;have h1:=(Ep e _).1 ha;have h2:=(ecnt e _).1 ha
  split at h
  ·cases h
  ·cases h;show exN a.1+a.2.2.length≤_;have:=h1.2;omega
theorem F8 {e:Int}:∀(f:Nat) {acc:List Ex} {l:List Tok} {r:List Ex×List Tok},cW e f acc l=.ok r→bV r.1+r.2.length≤bV acc+l.length
 |0,_,_,_,h=>by
  unfold cW at h;cases h
 |f+1,acc,l,r,h=>by
  rw [rC] at h
  split at h
  ·rename_i h1;have:=bq h1;cases h;show bV acc+l.tail.length≤_;omega
  ·obtain ⟨a,ha,h⟩:=ai h;have hla:a.length≤l.length:=by
    split at ha
    ·cases ha;exact Nat.le_refl _
    ·have:=ba ha;omega
   split at h
   ·cases h
   ·obtain ⟨b,hb,h⟩:=ai h;have h1:=wR hb;have h2:=F8 f h;rw [fA] at h2;omega
theorem F4 {e:Int}:∀(f:Nat) {acc:List (ByteArray×ByteArray)} {l:List Tok} {r:List (ByteArray×ByteArray)×List Tok},dZ e f acc l=.ok r→acc.length≤6→r.1.length≤6
 |0,_,_,_,h,_=>by
  unfold dZ at h;cases h
 |f+1,acc,l,r,h,hacc=>by
  rw [pQ] at h
  split at h
  ·cases h;exact hacc
  ·obtain ⟨a,ha,h⟩:=ai h
   split at h
   ·cases h
   ·rename_i h6;obtain ⟨b,hb,h⟩:=ai h;obtain ⟨c,hc,h⟩:=ai h;exact F4 f h (by rw [List.length_append];simp only [List.length_cons,List.length_nil];omega)
theorem GM {e:Int}{d:Nat}{l:List Tok}{r:Sh×List Tok}(h:bG e d l=.ok r):bV r.1.e+r.2.length≤l.length:=by
 unfold bG at h
 split at h
 ·obtain ⟨q,hq,h⟩:=ai h;have:=wR hq;cases h;show bV [q.1]+q.2.length≤_;rw [Fz];exact this
 obtain ⟨a,ha,h⟩:=ai h;have hal:=bl ha
 split at h
 ·obtain ⟨w,hw,h⟩:=ai h;obtain ⟨q,hq,h⟩:=ai h;have h1:=ba hw;have:=wR hq;cases h;show bV [q.1]+q.2.length≤_;rw [Fz];omega
 split at h
 ·obtain ⟨b,hb,h⟩:=ai h;obtain ⟨t,ht,h⟩:=ai h;obtain ⟨n,hn,h⟩:=ai h;have h1:=bl hb;have h2:=nR ht;have h3:=zm hn;cases h;show bV []+n.2.length≤_;rw [Ci];omega
 split at h
 ·obtain ⟨b,hb,h⟩:=ai h;have h1:=bl hb;cases h;show bV []+b.2.length≤_;rw [Ci];omega
 split at h
 ·obtain ⟨q,hq,h⟩:=ai h;have:=wR hq;cases h;show bV [q.1]+q.2.length≤_;rw [Fz];omega
 split at h
 ·obtain ⟨w,hw,h⟩:=ai h;obtain ⟨q,hq,h⟩:=ai h;have h1:=ba hw;have h2:=F8 _ hq;rw [Ci] at h2;cases h;show bV q.1+q.2.length≤_;omega
 ·cases h;show bV []+a.2.length≤_;rw [Ci];omega
theorem IP {e:Int}{d:Nat}{l:List Tok}{r:Sh×List Tok}(h:fE e d l=.ok r):bV r.1.e+r.2.length≤l.length:=by
 unfold fE at h
 split at h
 ·obtain ⟨a,ha,h⟩:=ai h;obtain ⟨w,hw,h⟩:=ai h;obtain ⟨b,hb,h⟩:=ai h;have h1:=bl ha;have h2:=ba hw;have h3:=bl hb;cases h;show bV []+b.2.length≤_;rw [Ci];omega
 ·obtain ⟨q,hq,h⟩:=ai h;have:=wR hq;cases h;show bV [q.1]+q.2.length≤_;rw [Fz];exact this
theorem HE:br []=0:=by
 unfold br;rfl
theorem stM (d at_:Int)(a b t:ByteArray)(n:Int)(e:List Ex)(body els:List St):stN (.mk d at_ a b t n e body els)=1+bV e+br body+br els:=by rw [iG];rfl
theorem sN (e:Int):∀f:Nat,(∀{deep n l r},aX e f deep n l=.ok r→br r.1+r.2.2.length≤l.length)∧(∀{deep acc n l r},cn e f deep acc n l=.ok r→br r.1+r.2.2.length≤br acc+l.length)∧(∀{deep n l r},df e f deep n l=.ok r→stN r.1+r.2.2.length≤l.length):=by
 intro f
 induction f with
 |zero =>
  refine ⟨?_,?_,?_⟩
  ·intro deep n l r h;unfold aX at h;cases h
  ·intro deep acc n l r h;unfold cn at h;cases h
  ·intro deep n l r h;unfold df at h;cases h
 |succ f ih =>
  obtain ⟨i1,i2,i3⟩:=ih;refine ⟨?_,?_,?_⟩
  ·intro deep n l r h;unfold aX at h
   split at h
   ·rename_i hT;have ht:=bq hT
    split at h
    ·cases h
    ·have:=i2 h;rw [HE] at this;omega
   ·cases h
  ·intro deep acc n l r h;unfold cn at h
   split at h
   ·rename_i hT;have ht:=bq hT;cases h;show br acc+l.tail.length≤_;omega
   ·obtain ⟨a,ha,h⟩:=ai h;have h1:=i3 ha;have h2:=i2 h;rw [sf] at h2;omega
  ·intro deep n l r h;cases l with
   |nil=>rw [gM] at h;cases h
   |cons t l =>
    rw [fa] at h;simp only [List.length_cons]
    split at h
    ·split at h
     ·cases h
     split at h
     ·obtain ⟨s,hs,h⟩:=ai h;obtain ⟨w,hw,h⟩:=ai h;have h1:=GM hs;have h2:=ba hw;cases h;show stN (.mk _ _ _ _ _ _ _ _ _)+w.length≤_;rw [stM,HE];omega
     ·obtain ⟨s,hs,h⟩:=ai h;obtain ⟨b,hb,h⟩:=ai h;have h1:=IP hs;have h2:=i1 hb
      split at h
      ·rename_i hT;have ht:=bq hT.2;obtain ⟨q,hq,h⟩:=ai h;have h3:=i1 hq;cases h;show stN (.mk _ _ _ _ _ _ _ _ _)+q.2.2.length≤_;rw [stM];omega
      ·cases h;show stN (.mk _ _ _ _ _ _ _ _ _)+b.2.2.length≤_;rw [stM,HE];omega
    ·cases h
abbrev Eh (p:List Sg):Nat:=(p.map fun s=>br s.body).sum
theorem Gs {e:Int}{n:Nat}{l:List Tok}{q:Sg×Nat×List Tok}(h:fx e n l=.ok q):br q.1.body+q.2.2.length≤l.length∧q.1.ps.length≤6:=by
 cases l with
 |nil=>cases h
 |cons t r =>
  rw [gJ] at h;obtain ⟨a,ha,h⟩:=ai h;obtain ⟨l,hl,h⟩:=ai h;obtain ⟨ps,hps,h⟩:=ai h;obtain ⟨b,hb,h⟩:=ai h;have h1:=bl ha;have h2:=ba hl;have h3:=so hps;have h4:=(sN e _).1 hb;have h5:=F4 _ hps (by simp)
  cases h;refine ⟨?_,h5⟩;show br b.1+b.2.2.length≤_;simp only [List.length_cons];omega
theorem zi {e:Int}:∀(f:Nat) {n:Nat} {acc p:List Sg} {l:List Tok},cl e f acc n l=.ok p→(∀s∈acc,s.ps.length≤6)→Eh p≤Eh acc+l.length∧∀s∈p,s.ps.length≤6
 |0,_,_,_,_,h,_=>by
  unfold cl at h;cases h
 |f+1,n,acc,p,l,h,hacc=>by
  rw [jR] at h
  split at h
  ·cases h;exact ⟨by omega,hacc⟩
  split at h
  ·split at h
   ·cases h
   ·obtain ⟨s,hs,h⟩:=ai h;obtain ⟨h1,h2⟩:=Gs hs;obtain ⟨h3,h4⟩:=zi f h fun x hx=>by
     rcases List.mem_append.1 hx with hx|hx
     ·exact hacc x hx
     ·rw [List.mem_singleton.1 hx];exact h2
    refine ⟨?_,h4⟩;have:Eh (acc++[s.1])=Eh acc+br s.1.body:=by simp [Eh]
    omega
  ·cases h
theorem DD {e:Int}{l:List Tok}{p:List Sg}(h:oU e l=.ok p):Eh p≤l.length∧∀s∈p,s.ps.length≤6:=by
 have:=zi _ h (by simp)
 simpa [Eh] using this
end Go.Proofs.YtkeeboomikkojaaGreatDoor
