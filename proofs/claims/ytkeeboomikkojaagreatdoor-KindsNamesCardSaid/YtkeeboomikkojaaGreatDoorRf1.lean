import Derived.Test.YtkeeboomikkojaaGreatDoorRi1
import Derived.Test.YtkeeboomikkojaaGreatDoorRy2
import Derived.Test.YtkeeboomikkojaaGreatDoorRy1
import Derived.Test.YtkeeboomikkojaaGreatDoorRx4
namespace Go.Proofs.YtkeeboomikkojaaGreatDoor
open Go Go.Sx Go.Sx.Tk Go.Sx.Rn Go.Proofs.YtkeeboomikkojaaGreatDoor.Sx
def jC (l:List Tok):Prop:=∀t∈l,Pd t
theorem jC.tail {l:List Tok}(h:jC l):jC l.tail:=fun t ht=>h t (List.mem_of_mem_tail ht)
theorem jC.cdr {t:Tok}{r:List Tok}(h:jC (t::r)):jC r:=fun u hu=>h u (Q9 _ hu)
def Xg (n:Nat)(r:Ex×Nat×List Tok):Prop:=Xw r.1∧r.2.1=n+exN r.1∧jC r.2.2
theorem LN (n:Int):exN (my n)=1:=by
 unfold my exN cw;rfl
theorem H9 (s:ByteArray):exN (eU s)=1:=by
 unfold eU exN cw;rfl
theorem xwf (e:Int):∀f:Nat,(∀{o n l r},jC l→qv e f o n l=.ok r→Xg n r)∧(∀{o n l r},jC l→pu e f o n l=.ok r→Xg n r)∧(∀{o x n l r},jC l→Xw x→qE e f o x n l=.ok r→Xw r.1∧r.2.1+exN x=n+exN r.1∧jC r.2.2) ∧
  (∀{o n l r},jC l→eZ e f o n l=.ok r→Xg n r)∧(∀{o x n l r},jC l→Xw x→fc e f o x n l=.ok r→Xw r.1∧r.2.1+exN x=n+exN r.1∧jC r.2.2)∧(∀{o n l r},jC l→cf e f o n l=.ok r→Xg n r):=by
 intro f
 induction f with
 |zero =>
  refine ⟨?_,?_,?_,?_,?_,?_⟩
  ·intro o n l r _ h;unfold qv at h;cases h
  ·intro o n l r _ h;unfold pu at h;cases h
  ·intro o x n l r _ _ h;unfold qE at h;cases h
  ·intro o n l r _ h;unfold eZ at h;cases h
  ·intro o x n l r _ _ h;unfold fc at h;cases h
  ·intro o n l r _ h;unfold cf at h;cases h
 |succ f ih =>
  obtain ⟨i1,i2,i3,i4,i5,i6⟩:=ih;refine ⟨?_,?_,?_,?_,?_,?_⟩
  ·intro o n l r ht h;unfold qv at h;obtain ⟨a,ha,h⟩:=ai h;obtain ⟨a1,a2,a3⟩:=i2 ht ha
   split at h
   ·obtain ⟨b,hb,h⟩:=ai h;obtain ⟨b1,b2,b3⟩:=i2 a3.tail hb;cases h;exact ⟨.T (by decide) (by decide) a1 b1,by show b.2.1+1=n+exN (bz 7 a.1 b.1);rw [oM];omega,b3⟩
   split at h
   ·obtain ⟨b,hb,h⟩:=ai h;obtain ⟨b1,b2,b3⟩:=i2 a3.tail hb;cases h;exact ⟨.T (by decide) (by decide) a1 b1,by show b.2.1+1=n+exN (bz 8 a.1 b.1);rw [oM];omega,b3⟩
   ·cases h;exact ⟨a1,a2,a3⟩
  ·intro o n l r ht h;unfold pu at h;obtain ⟨a,ha,h⟩:=ai h;obtain ⟨a1,a2,a3⟩:=i4 ht ha;obtain ⟨b1,b2,b3⟩:=i3 a3 a1 h;exact ⟨b1,by omega,b3⟩
  ·intro o x n l r ht hx h;unfold qE at h
   split at h
   ·obtain ⟨a,ha,h⟩:=ai h;obtain ⟨a1,a2,a3⟩:=i4 ht.tail ha;obtain ⟨b1,b2,b3⟩:=i3 a3 (.T (by decide) (by decide) hx a1) h
    rw [oM] at b2;exact ⟨b1,by omega,b3⟩
   split at h
   ·obtain ⟨a,ha,h⟩:=ai h;obtain ⟨a1,a2,a3⟩:=i4 ht.tail ha;obtain ⟨b1,b2,b3⟩:=i3 a3 (.T (by decide) (by decide) hx a1) h
    rw [oM] at b2;exact ⟨b1,by omega,b3⟩
   ·cases h;exact ⟨hx,rfl,ht⟩
  ·intro o n l r ht h;unfold eZ at h;obtain ⟨a,ha,h⟩:=ai h;obtain ⟨a1,a2,a3⟩:=i6 ht ha;obtain ⟨b1,b2,b3⟩:=i5 a3 a1 h;exact ⟨b1,by omega,b3⟩
  ·intro o x n l r ht hx h;unfold fc at h
   split at h
   ·obtain ⟨a,ha,h⟩:=ai h;obtain ⟨a1,a2,a3⟩:=i6 ht.tail ha;obtain ⟨b1,b2,b3⟩:=i5 a3 (.T (by decide) (by decide) hx a1) h
    rw [oM] at b2;exact ⟨b1,by omega,b3⟩
   ·cases h;exact ⟨hx,rfl,ht⟩
  ·intro o n l r ht h;unfold cf at h
   split at h
   ·split at h
    ·cases h
    obtain ⟨a,ha,h⟩:=ai h;obtain ⟨a1,a2,a3⟩:=i1 ht.tail ha
    split at h
    ·cases h;exact ⟨a1,a2,a3.tail⟩
    ·cases h
   split at h
   ·split at h
    ·cases h
    obtain ⟨a,ha,h⟩:=ai h;obtain ⟨a1,a2,a3⟩:=i6 ht.tail ha;cases h;exact ⟨.neg a1,by show a.2.1=n+exN (nH a.1);rw [F4];omega,a3⟩
   split at h
   ·cases h
   ·rename_i t r' _ _;have htk:=ht t Qg
    split at h
    ·rename_i hk;cases h;rcases htk with h1|⟨h1,_⟩|⟨_,_,h2,h3⟩|⟨h1,_⟩
     ·rw [hk] at h1;cases h1
     ·rw [hk] at h1;cases h1
     ·exact ⟨.num h2 h3,by show n+1=n+exN (my t.n);rw [LN],ht.cdr⟩
     ·rw [hk] at h1;cases h1
    split at h
    ·rename_i hk;cases h;rcases htk with h1|⟨_,h2⟩|⟨h1,_⟩|⟨h1,_⟩
     ·rw [hk] at h1;cases h1
     ·exact ⟨.name h2,by show n+1=n+exN (eU t.text);rw [H9],ht.cdr⟩
     ·rw [hk] at h1;cases h1
     ·rw [hk] at h1;cases h1
    ·cases h
theorem lB {e:Int}{l:List Tok}{q:Ex×List Tok}(ht:jC l)(h:gQ e l=.ok q):XwL q.1∧jC q.2:=by
 cases l with
 |nil=>cases h
 |cons t r =>
  rw [eg] at h;obtain ⟨a,ha,h⟩:=ai h;obtain ⟨a1,a2,a3⟩:=(xwf e _).1 ht ha
  split at h
  ·cases h
  ·rename_i h20;cases h;exact ⟨⟨a1,by show exN a.1≤20;omega⟩,a3⟩
theorem cl {e:Int}{l:List Tok}{q:ByteArray×List Tok}(ht:jC l)(h:ee e l=.ok q):aL q.1=true∧jC q.2:=by
 cases l with
 |nil=>cases h
 |cons t r =>
  rw [pB] at h
  split at h
  ·rename_i hk;cases h;rcases ht t Qg with h1|⟨_,h2⟩|⟨h1,_⟩|⟨h1,_⟩
   ·rw [hk] at h1;cases h1
   ·exact ⟨h2,ht.cdr⟩
   ·rw [hk] at h1;cases h1
   ·rw [hk] at h1;cases h1
  ·cases h
theorem LF {e:Int}{l:List Tok}{q:Int×List Tok}(ht:jC l)(h:Ey e l=.ok q):0≤q.1∧q.1 < 1000000000000000000∧jC q.2:=by
 cases l with
 |nil=>cases h
 |cons t r =>
  rw [uo] at h
  split at h
  ·rename_i hk;cases h;rcases ht t Qg with h1|⟨h1,_⟩|⟨_,_,h2,h3⟩|⟨h1,_⟩
   ·rw [hk] at h1;cases h1
   ·rw [hk] at h1;cases h1
   ·exact ⟨h2,h3,ht.cdr⟩
   ·rw [hk] at h1;cases h1
  ·cases h
theorem ik {e:Int}{s:List UInt8}{l r:List Tok}(ht:jC l)(h:bl e s l=.ok r):jC r:=by
 unfold bl at h
 split at h
 ·cases h;exact ht.tail
 ·cases h
theorem MQ {l:List UInt8}(hl:l.length≤3)(hc:∀c∈l,c=115∨c=114):ck (bs (l++[105])) 3=true:=by
 unfold ck;have hs:(bs (l++[105])).size=l.length+1:=by
  rw [aK];simp
 rw [decide_eq_true_eq,hs];have hcat:∀k,cAt (bs (l++[105])) k=(l++[105]).getD k 0:=fun k=>by
  unfold cAt;rw [aF]
 refine ⟨by omega,by omega,?_,fun k hk=>?_⟩
 ·rw [hcat,List.getD_eq_getElem?_getD];simp
 ·have hk:k < l.length:=by omega
  rw [hcat,List.getD_eq_getElem?_getD,Q5 hk,Q7 hk,Option.getD_some];exact hc _ (Qv hk)
theorem AN {e:Int}:∀{l:List Tok} {acc:List UInt8} {q:List UInt8×List Tok},jC l→acc.length≤3→(∀c∈acc,c=115∨c=114)→qD e acc l=.ok q→ck (bs q.1) 3=true∧jC q.2
 |[],acc,q,_,_,_,h=>by
  rw [x8] at h;cases h
 |t::r,acc,q,ht,hl,hc,h=>by
  rw [gp] at h
  split at h
  ·cases h;exact ⟨MQ hl hc,ht.cdr⟩
  split at h
  ·rename_i hT
   split at h
   ·cases h
   ·rename_i h3;have htl:∃c,(bytesOf t.text).take 1=[c]∧(c=115∨c=114):=by
     rw [Bool.or_eq_true] at hT;rcases hT with hT|hT
     ·exact ⟨115,by rw [tv hT];rfl,.inl rfl⟩
     ·exact ⟨114,by rw [tv hT];rfl,.inr rfl⟩
    obtain ⟨c,h1,h2⟩:=htl;rw [h1] at h;refine AN ht.cdr (by simp;omega) (fun d hd=>?_) h
    rcases Z3.1 hd with hd|hd
    ·exact hc d hd
    ·rw [Qf.1 hd];exact h2
  ·cases h
theorem CL {e:Int}:∀{f:Nat} {acc:List Ex} {l:List Tok} {q:List Ex×List Tok},jC l→acc.length≤6→(∀x∈acc,XwL x)→dJ e f acc l=.ok q→q.1.length≤6∧(∀x∈q.1,XwL x)∧jC q.2
 |0,_,_,_,_,_,_,h=>by
  unfold dJ at h;cases h
 |f+1,acc,l,q,ht,hl,hx,h=>by
  unfold dJ at h
  split at h
  ·cases h;exact ⟨hl,hx,ht.tail⟩
  ·obtain ⟨l1,hl1,h⟩:=ai h;have ht1:jC l1:=by
    split at hl1
    ·cases hl1;exact ht
    ·exact ik ht hl1
   split at h
   ·cases h
   ·rename_i h6;obtain ⟨x,hx1,h⟩:=ai h;obtain ⟨h1,h2⟩:=lB ht1 hx1;refine CL h2 (by simp;omega) (fun y hy=>?_) h
    rcases Z3.1 hy with hy|hy
    ·exact hx y hy
    ·rw [Qf.1 hy];exact h1
theorem Ds {e:Int}:∀{f:Nat} {acc:List (ByteArray×ByteArray)} {l:List Tok} {q:List (ByteArray×ByteArray)×List Tok},jC l→acc.length≤6→(∀x∈acc,aL x.1=true∧ck x.2 3=true)→fb e f acc l=.ok q→q.1.length≤6∧(∀x∈q.1,aL x.1=true∧ck x.2 3=true)∧jC q.2
 |0,_,_,_,_,_,_,h=>by
  unfold fb at h;cases h
 |f+1,acc,l,q,ht,hl,hx,h=>by
  unfold fb at h
  split at h
  ·cases h;exact ⟨hl,hx,ht.tail⟩
  ·obtain ⟨l1,hl1,h⟩:=ai h;have ht1:jC l1:=by
    split at hl1
    ·cases hl1;exact ht
    ·exact ik ht hl1
   split at h
   ·cases h
   ·rename_i h6;obtain ⟨x,hx1,h⟩:=ai h;obtain ⟨y,hy1,h⟩:=ai h;obtain ⟨h1,h2⟩:=cl ht1 hx1;obtain ⟨h3,h4⟩:=AN h2 (by simp) (fun c hc=>absurd hc List.not_mem_nil) hy1
    refine Ds h4 (by simp;omega) (fun z hz=>?_) h
    rcases Z3.1 hz with hz|hz
    ·exact hx z hz
    ·rw [Qf.1 hz];exact ⟨h1,h3⟩
theorem Hk {e:Int}{d:Nat}{l:List Tok}{q:Sh×List Tok}{at_:Int}{deep:Nat}(ht:jC l)(h1:1≤d)(h11:d < 11)(h:cg e d l=.ok q):Sw deep (.mk (d:Nat) at_ q.1.a q.1.b q.1.t q.1.n q.1.e [] [])∧jC q.2:=by
 have hd:d=1∨d=2∨d=3∨d=4∨d=5∨d=6∨d=7∨d=8∨d=9∨d=10:=by omega
 unfold cg at h;rcases hd with rfl|rfl|rfl|rfl|rfl|rfl|rfl|rfl|rfl|rfl
 ·rw [if_neg (by decide)] at h
  obtain ⟨a,ha,h⟩:=ai h;rw [if_pos (by decide)] at h
  obtain ⟨w,hw,h⟩:=ai h;obtain ⟨x,hx,h⟩:=ai h;obtain ⟨n1,t1⟩:=cl ht ha;obtain ⟨x1,t2⟩:=lB (ik t1 hw) hx;cases h;exact ⟨.let_ (.inl rfl) n1 x1,t2⟩
 ·rw [if_neg (by decide)] at h
  obtain ⟨a,ha,h⟩:=ai h;rw [if_pos (by decide)] at h
  obtain ⟨w,hw,h⟩:=ai h;obtain ⟨x,hx,h⟩:=ai h;obtain ⟨n1,t1⟩:=cl ht ha;obtain ⟨x1,t2⟩:=lB (ik t1 hw) hx;cases h;exact ⟨.let_ (.inr rfl) n1 x1,t2⟩
 ·rw [if_pos rfl] at h;obtain ⟨x,hx,h⟩:=ai h;obtain ⟨x1,t2⟩:=lB ht hx;cases h;exact ⟨.emit x1,t2⟩
 ·rw [if_neg (by decide)] at h
  obtain ⟨a,ha,h⟩:=ai h;rw [if_neg (by decide),if_pos rfl] at h
  obtain ⟨b,hb,h⟩:=ai h;obtain ⟨ty,hty,h⟩:=ai h;obtain ⟨n,hn,h⟩:=ai h;obtain ⟨n1,t1⟩:=cl ht ha;obtain ⟨n2,t2⟩:=cl t1 hb;obtain ⟨y1,t3⟩:=AN t2 (by simp) (fun c hc=>absurd hc List.not_mem_nil) hty
  obtain ⟨m1,m2,t4⟩:=LF t3 hn;cases h;exact ⟨.chan n1 n2 y1 m1 m2,t4⟩
 ·rw [if_neg (by decide)] at h
  obtain ⟨a,ha,h⟩:=ai h;rw [if_neg (by decide),if_neg (by decide),if_pos rfl] at h
  obtain ⟨b,hb,h⟩:=ai h;obtain ⟨n1,t1⟩:=cl ht ha;obtain ⟨n2,t2⟩:=cl t1 hb;cases h;exact ⟨.clone n1 n2,t2⟩
 ·rw [if_neg (by decide)] at h
  obtain ⟨a,ha,h⟩:=ai h;rw [if_neg (by decide),if_neg (by decide),if_neg (by decide),if_pos rfl] at h
  obtain ⟨x,hx,h⟩:=ai h;obtain ⟨n1,t1⟩:=cl ht ha;obtain ⟨x1,t2⟩:=lB t1 hx;cases h;exact ⟨.send n1 x1,t2⟩
 ·rw [if_neg (by decide)] at h
  obtain ⟨a,ha,h⟩:=ai h;rw [if_neg (by decide),if_neg (by decide),if_neg (by decide),if_neg (by decide),if_neg (by decide)] at h
  obtain ⟨n1,t1⟩:=cl ht ha;cases h;exact ⟨.one (.inl rfl) n1,t1⟩
 ·rw [if_neg (by decide)] at h
  obtain ⟨a,ha,h⟩:=ai h;rw [if_neg (by decide),if_neg (by decide),if_neg (by decide),if_neg (by decide),if_neg (by decide)] at h
  obtain ⟨n1,t1⟩:=cl ht ha;cases h;exact ⟨.one (.inr (.inl rfl)) n1,t1⟩
 ·rw [if_neg (by decide)] at h
  obtain ⟨a,ha,h⟩:=ai h;rw [if_neg (by decide),if_neg (by decide),if_neg (by decide),if_neg (by decide),if_neg (by decide)] at h
  obtain ⟨n1,t1⟩:=cl ht ha;cases h;exact ⟨.one (.inr (.inr rfl)) n1,t1⟩
 ·rw [if_neg (by decide)] at h
  obtain ⟨a,ha,h⟩:=ai h;rw [if_neg (by decide),if_neg (by decide),if_neg (by decide),if_neg (by decide),if_pos rfl] at h
  obtain ⟨w,hw,h⟩:=ai h;obtain ⟨x,hx,h⟩:=ai h;obtain ⟨n1,t1⟩:=cl ht ha;obtain ⟨a1,a2,t2⟩:=CL (ik t1 hw) (by simp) (fun y hy=>absurd hy List.not_mem_nil) hx
  cases h;exact ⟨.spawn n1 a1 a2,t2⟩
theorem IX {e:Int}{d:Nat}{l:List Tok}{q:Sh×List Tok}(ht:jC l)(h11:11≤d)(h14:d≤14)(h:gx e d l=.ok q):jC q.2∧∀{at_:Int} {deep:Nat} {body els:List St},deep < 8→(∀y∈body,Sw (deep+1) y)→(∀y∈els,Sw (deep+1) y)→(d=12∨d=13→els=[])→Sw deep (.mk (d:Nat) at_ q.1.a q.1.b ⟨#[]⟩ 0 q.1.e body els):=by
 have hd:d=11∨d=12∨d=13∨d=14:=by omega
 unfold gx at h;rcases hd with rfl|rfl|rfl|rfl
 ·rw [if_pos (by decide)] at h
  obtain ⟨a,ha,h⟩:=ai h;obtain ⟨w,hw,h⟩:=ai h;obtain ⟨b,hb,h⟩:=ai h;obtain ⟨n1,t1⟩:=cl ht ha;obtain ⟨n2,t2⟩:=cl (ik t1 hw) hb;cases h;exact ⟨t2,fun h1 h2 h3 _=>.take n1 n2 h1 h2 h3⟩
 ·rw [if_pos (by decide)] at h
  obtain ⟨a,ha,h⟩:=ai h;obtain ⟨w,hw,h⟩:=ai h;obtain ⟨b,hb,h⟩:=ai h;obtain ⟨n1,t1⟩:=cl ht ha;obtain ⟨n2,t2⟩:=cl (ik t1 hw) hb;cases h;refine ⟨t2,fun h1 h2 _ h4=>?_⟩;rw [h4 (.inl rfl)];exact .for_ n1 n2 h1 h2
 ·rw [if_neg (by decide)] at h
  obtain ⟨x,hx,h⟩:=ai h;obtain ⟨x1,t2⟩:=lB ht hx;cases h;refine ⟨t2,fun h1 h2 _ h4=>?_⟩;rw [h4 (.inr rfl)];exact .rep x1 h1 h2
 ·rw [if_neg (by decide)] at h
  obtain ⟨x,hx,h⟩:=ai h;obtain ⟨x1,t2⟩:=lB ht hx;cases h;exact ⟨t2,fun h1 h2 h3 _=>.if_ x1 h1 h2 h3⟩
theorem IH (e:Int):∀f:Nat,(∀{deep n l r},jC l→deep≤8→bD e f deep n l=.ok r→deep < 8∧(∀y∈r.1,Sw (deep+1) y)∧jC r.2.2)∧(∀{deep acc n l r},jC l→deep≤8→(∀y∈acc,Sw deep y)→cR e f deep acc n l=.ok r→(∀y∈r.1,Sw deep y)∧jC r.2.2)∧(∀{deep n l r},jC l→deep≤8→dU e f deep n l=.ok r→Sw deep r.1∧jC r.2.2):=by
 intro f
 induction f with
 |zero =>
  refine ⟨?_,?_,?_⟩
  ·intro deep n l r _ _ h;unfold bD at h;cases h
  ·intro deep acc n l r _ _ _ h;unfold cR at h;cases h
  ·intro deep n l r _ _ h;unfold dU at h;cases h
 |succ f ih =>
  obtain ⟨i1,i2,i3⟩:=ih;refine ⟨?_,?_,?_⟩
  ·intro deep n l r ht hd h;rw [gw] at h
   split at h
   ·split at h
    ·cases h
    ·rename_i h8;obtain ⟨a,b⟩:=i2 ht.tail (by omega) (fun y hy=>absurd hy List.not_mem_nil) h
     exact ⟨by omega,a,b⟩
   ·cases h
  ·intro deep acc n l r ht hd hacc h;rw [kF] at h
   split at h
   ·cases h;exact ⟨hacc,ht.tail⟩
   ·obtain ⟨x,hx,h⟩:=ai h;obtain ⟨h1,h2⟩:=i3 ht hd hx;refine i2 h2 hd (fun y hy=>?_) h;rcases Z3.1 hy with hy|hy
    ·exact hacc y hy
    ·rw [Qf.1 hy];exact h1
  ·intro deep n l r ht hd h;cases l with
   |nil =>
    rw [iL] at h;cases h
   |cons t l =>
    rw [fV] at h
    split at h
    ·rename_i hw
     split at h
     ·cases h
     have hle:=JJ (bytesOf t.text)
     split at h
     ·rename_i h11;obtain ⟨s,hs,h⟩:=ai h;obtain ⟨w,hw2,h⟩:=ai h;obtain ⟨s1,s2⟩:=Hk (at_:=t.at_) (deep:=deep) ht.cdr (by omega) h11 hs
      cases h;exact ⟨s1,ik s2 hw2⟩
     ·rename_i h11;obtain ⟨s,hs,h⟩:=ai h;obtain ⟨b,hb,h⟩:=ai h;obtain ⟨s1,s2⟩:=IX ht.cdr (by omega) hle hs
      obtain ⟨b1,b2,b3⟩:=i1 s1 hd hb
      split at h
      ·rename_i hel;obtain ⟨c,hc,h⟩:=ai h;obtain ⟨c1,c2,c3⟩:=i1 b3.tail hd hc;cases h;refine ⟨s2 b1 b2 c2 fun hh=>?_,c3⟩;rcases hel.1 with h1|h1<;>omega
      ·cases h;exact ⟨s2 b1 b2 (fun y hy=>absurd hy List.not_mem_nil) fun _=>rfl,b3⟩
    ·cases h
theorem jF {a b:Int}(ha:a=0)(hb:b=0):orF a b=0:=by rw [ha,nF,hb]
theorem GM:emp (⟨#[]⟩:ByteArray):=by unfold emp;rfl
theorem Dl {x:Ex}(h1:1≤x.op∧x.op≤8)(h2:(x.l.length:Int)=eO x.op)(h3:x.n≠0→x.op=1)(h4:¬emp x.nm→x.op=2)(h5:x.op=2→aL x.nm=true)(h6:0≤x.n∧x.n < 1000000000000000000):exH x=0:=by
 unfold exH;rw [if_neg,if_neg,if_neg (by omega)]
 ·rintro ⟨g1,g2⟩;rw [h5 g1] at g2;cases g2
 ·rintro (g|g|g|⟨g1,g2⟩|⟨g1,g2⟩)
  ·omega
  ·omega
  ·exact g h2
  ·exact g2 (h3 g1)
  ·exact g2 (h4 g1)
theorem zN0:0≤(0:Int)∧(0:Int) < 1000000000000000000:=by decide
theorem xw_F:∀{x:Ex},Xw x→exF x=0:=by
 intro x h
 induction h with
 |@num n h0 h1 =>
  rw [mn];refine jF (Dl (x:=my n) ⟨by show (1:Int)≤1;decide,by show (1:Int)≤8;decide⟩ rfl (fun _=>rfl) (fun g=>absurd GM g) (fun g=>absurd (show (1:Int)=2 from g) (by decide)) ⟨h0,h1⟩) rfl
 |@name s hs =>
  rw [mn];exact jF (Dl (x:=eU s) ⟨by show (1:Int)≤2;decide,by show (2:Int)≤8;decide⟩ rfl (fun g=>absurd rfl g) (fun _=>rfl) (fun _=>hs) zN0) rfl
 |@neg a _ ih =>
  rw [mn];refine jF (Dl (x:=nH a) ⟨by show (1:Int)≤3;decide,by show (3:Int)≤8;decide⟩ rfl (fun g=>absurd rfl g) (fun g=>absurd GM g) (fun g=>absurd (show (3:Int)=2 from g) (by decide)) zN0) ?_
  show orF (exF a) (nP [])=0;exact jF ih rfl
 |@T op a b h4 h8 _ _ iha ihb =>
  rw [mn];have hw:eO op=2:=by unfold eO;rw [if_neg (by omega),if_neg (by omega)]
  refine jF (Dl (x:=bz op a b) ⟨by show 1≤op;omega,h8⟩ (by show _=eO op;rw [hw];rfl) (fun g=>absurd rfl g) (fun g=>absurd GM g) (fun g=>by have:op=2:=g;omega) zN0) ?_
  show orF (exF a) (orF (exF b) (nP []))=0;exact jF iha (jF ihb rfl)
theorem Lh:∀{l:List Ex},(∀x∈l,XwL x)→esF l=0
 |[],_=>rfl
 |x::r,h=>by
  unfold esF;refine jF ?_ (Lh fun y hy=>h y (Q9 _ hy));obtain ⟨h1,h2⟩:=h x Qg;unfold eF1;rw [if_neg (by omega),nF]
  exact xw_F h1
theorem jQ {x:St}{m deep:Int}{f:Fm}(h300:m < 300)(hf:aT x.d=some f)(hb:qP f x=false)(he:x.e.length≤6)(hs:stR f x deep=0):stH x m deep=0:=by
 unfold stH;rw [if_neg (by omega),hf]
 show (if qP f x then 5 else if 6 < x.e.length then 8 else stR f x deep)=0
 rw [hb,if_neg Qe,if_neg (by omega),hs]
theorem qu {s:ByteArray}(h:aL s=true):nmF true s=0:=by
 unfold nmF;rw [h];rfl
theorem sM:nmF false e0=0:=by decide
theorem jG {f:Fm}{x:St}{deep:Int}(h1:nmF f.a x.a=0)(h2:nmF f.b x.b=0)(h3:(f.t&&!ck x.t 3)=false)(h4:0≤x.n∧x.n < 1000000000000000000)(h5:∀y∈x.e,XwL y)(h6:f.body=true→deep < 8):stR f x deep=0:=by
 unfold stR;refine jF h1 (jF h2 (jF ?_ (jF ?_ (jF (Lh h5) ?_))))
 ·rw [h3];rfl
 ·rw [Z0 (by omega)]
  rfl
 ·cases hb:f.body with
  |false=>rfl
  |true =>
   have:=h6 hb;rw [Z0 (by omega)]
   rfl
theorem uE {x:Ex}(h:XwL x):∀y∈[x],XwL y:=fun y hy=>by rw [Qf.1 hy];exact h
theorem Bf:∀y∈([]:List Ex),XwL y:=fun y hy=>absurd hy List.not_mem_nil
theorem qa {deep:Nat}:∀y∈([]:List St),Sw deep y:=fun y hy=>absurd hy List.not_mem_nil
theorem tyk {s:ByteArray}(h:ck s 3=true):(true&&!ck s 3)=false:=by
 rw [h];rfl
theorem sw_H {deep:Nat}{x:St}(h:Sw deep x):(∀y∈x.body,Sw (deep+1) y)∧(∀y∈x.els,Sw (deep+1) y)∧∀m:Int,m < 300→stH x m deep=0:=by
 cases h with
 |@let_ _ _ _ _ x hd hn hx =>
  refine ⟨qa,qa,fun m hm=>?_⟩;rcases hd with rfl|rfl
  ·exact jQ hm rfl rfl (by show 1≤6;decide) (jG (qu hn) sM rfl zN0 (uE hx) fun h=>by cases h)
  ·exact jQ hm rfl rfl (by show 1≤6;decide) (jG (qu hn) sM rfl zN0 (uE hx) fun h=>by cases h)
 |@emit _ _ x hx=>exact ⟨qa,qa,fun m hm=>jQ hm rfl rfl (by show 1≤6;decide) (jG sM sM rfl zN0 (uE hx) fun h=>by cases h)⟩
 |chan ha hb hty h0 h1=>exact ⟨qa,qa,fun m hm=>jQ hm rfl rfl (by show 0≤6;decide) (jG (qu ha) (qu hb) (tyk hty) ⟨h0,h1⟩ Bf fun h=>by cases h)⟩
 |clone ha hb=>exact ⟨qa,qa,fun m hm=>jQ hm rfl rfl (by show 0≤6;decide) (jG (qu ha) (qu hb) rfl zN0 Bf fun h=>by cases h)⟩
 |@send _ _ _ x ha hx=>exact ⟨qa,qa,fun m hm=>jQ hm rfl rfl (by show 1≤6;decide) (jG (qu ha) sM rfl zN0 (uE hx) fun h=>by cases h)⟩
 |one hd ha =>
  refine ⟨qa,qa,fun m hm=>?_⟩;rcases hd with rfl|rfl|rfl
  ·exact jQ hm rfl rfl (by show 0≤6;decide) (jG (qu ha) sM rfl zN0 Bf fun h=>by cases h)
  ·exact jQ hm rfl rfl (by show 0≤6;decide) (jG (qu ha) sM rfl zN0 Bf fun h=>by cases h)
  ·exact jQ hm rfl rfl (by show 0≤6;decide) (jG (qu ha) sM rfl zN0 Bf fun h=>by cases h)
 |@spawn _ _ _ es ha hl hx=>exact ⟨qa,qa,fun m hm=>jQ hm rfl rfl hl (jG (qu ha) sM rfl zN0 hx fun h=>by cases h)⟩
 |take ha hb hd hbd hel=>exact ⟨hbd,hel,fun m hm=>jQ hm rfl rfl (by show 0≤6;decide) (jG (qu ha) (qu hb) rfl zN0 Bf fun _=>by omega)⟩
 |for_ ha hb hd hbd=>exact ⟨hbd,qa,fun m hm=>jQ hm rfl rfl (by show 0≤6;decide) (jG (qu ha) (qu hb) rfl zN0 Bf fun _=>by omega)⟩
 |@rep _ _ x _ hx hd hbd=>exact ⟨hbd,qa,fun m hm=>jQ hm rfl rfl (by show 1≤6;decide) (jG sM sM rfl zN0 (uE hx) fun _=>by omega)⟩
 |@if_ _ _ x _ _ hx hd hbd hel=>exact ⟨hbd,hel,fun m hm=>jQ hm rfl rfl (by show 1≤6;decide) (jG sM sM rfl zN0 (uE hx) fun _=>by omega)⟩
mutual
theorem Nb:∀(x:St) {deep:Nat} {m:Int},Sw deep x→m+stQ x≤300→stF x m deep=.ok (m+stQ x)
 |.mk d at_ a b t n e body els,deep,m,h,hm=>by
  obtain ⟨h1,h2,h3⟩:=sw_H h;have hQ:stQ (.mk d at_ a b t n e body els)=1+dZ body+dZ els:=yJ _;rw [hQ] at hm ⊢;have e1:=yf body (deep:=deep+1) (m:=m+1) h1 (by omega)
  have e2:=yf els (deep:=deep+1) (m:=m+1+dZ body) h2 (by omega)
  rw [Int.natCast_add] at e1 e2;have e1:jk body (m+1) ((deep:Int)+1)=_:=e1;have e2:jk els (m+1+dZ body) ((deep:Int)+1)=_:=e2;rw [Aj,h3 m (by omega),if_neg (fun h=>h rfl)]
  show rO (jk body (m+1) ((deep:Int)+1)) (fun n=>jk els n ((deep:Int)+1))=_;rw [e1,lP,e2]
  congr 1
  omega
theorem yf:∀(l:List St) {deep:Nat} {m:Int},(∀y∈l,Sw deep y)→m+dZ l≤300→jk l m deep=.ok (m+dZ l)
 |[],deep,m,_,_=>by
  rw [pF];show Except.ok m=Except.ok (m+((0:Nat):Int))
  congr 1
  omega
 |x::r,deep,m,h,hm=>by
  rw [qT] at hm ⊢;have e1:=Nb x (deep:=deep) (m:=m) (h x Qg) (by omega)
  have e2:=yf r (deep:=deep) (m:=m+stQ x) (fun y hy=>h y (Q9 _ hy)) (by omega)
  rw [kE,e1,lP,e2]
  congr 1
  omega
end
structure SgP (s:Sg):Prop where
 nm:aL s.nm=true
 pl:s.ps.length≤6
 ps:∀q∈s.ps,aL q.1=true∧ck q.2 3=true
 body:∀y∈s.body,Sw 1 y
theorem HK {e:Int}{n:Nat}{l:List Tok}{r:Sg×Nat×List Tok}(ht:jC l)(h:gN e n l=.ok r):SgP r.1∧jC r.2.2:=by
 cases l with
 |nil=>cases h
 |cons t l =>
  rw [iX] at h;obtain ⟨a,ha,h⟩:=ai h;obtain ⟨w,hw,h⟩:=ai h;obtain ⟨ps,hps,h⟩:=ai h;obtain ⟨b,hb,h⟩:=ai h;obtain ⟨n1,t1⟩:=cl ht.cdr ha;obtain ⟨p1,p2,t2⟩:=Ds (ik t1 hw) (by simp) (fun y hy=>absurd hy List.not_mem_nil) hps
  obtain ⟨_,b1,t3⟩:=(IH e _).1 t2 (by omega) hb
  cases h;exact ⟨⟨n1,p1,p2,b1⟩,t3⟩
theorem vN {e:Int}:∀(f:Nat) {n:Nat} {acc p:List Sg} {l:List Tok},jC l→(∀s∈acc,SgP s)→cO e f acc n l=.ok p→∀s∈p,SgP s
 |0,_,_,_,_,_,_,h=>by
  unfold cO at h;cases h
 |f+1,n,acc,p,l,ht,hacc,h=>by
  rw [kP] at h
  split at h
  ·cases h;exact hacc
  split at h
  ·split at h
   ·cases h
   obtain ⟨q,hq,h⟩:=ai h;obtain ⟨q1,q2⟩:=HK ht hq;refine vN f q2 (fun s hs=>?_) h;rcases Z3.1 hs with hs|hs
   ·exact hacc s hs
   ·rw [Qf.1 hs];exact q1
  ·cases h
theorem Hu:∀{l:List (ByteArray×ByteArray)},(∀q∈l,aL q.1=true∧ck q.2 3=true)→rV l=0
 |[],_=>rfl
 |q::r,h=>by
  unfold rV;obtain ⟨h1,h2⟩:=h q Qg;refine jF ?_ (Hu fun y hy=>h y (Q9 _ hy));unfold prF;rw [h1,h2];rfl
theorem Of {s:Sg}(h:SgP s):sgH s=0:=by
 have:=h.pl;unfold sgH;rw [h.nm,Hu h.ps,Z0 (by omega)]
 rfl
theorem Hb:∀{p:List Sg} {i m:Int},(∀s∈p,SgP s)→m+pgQ p≤300→uZ p i m=.ok (m+pgQ p)
 |[],i,m,_,_=>by
  show Except.ok m=Except.ok (m+((0:Nat):Int))
  congr 1
  omega
 |s::r,i,m,h,hm=>by
  have hQ:pgQ (s::r)=dZ s.body+pgQ r:=by unfold pgQ;rw [List.map_cons,List.sum_cons]
  rw [hQ] at hm ⊢;have h1:=h s Qg;unfold uZ;rw [Of h1,if_neg (fun h=>h rfl)];have e1:=yf s.body (deep:=1) (m:=m) h1.body (by omega)
  have e1:jk s.body m 1=_:=e1;rw [e1,lP,Hb (fun y hy=>h y (Q9 _ hy)) (by omega)]
  congr 1
  omega
theorem iS {s:ByteArray}(h:aL s=true):okN s:=by
 unfold aL dr at h;simp only [Qq,decide_eq_true_eq] at h;unfold okN;omega
theorem ty_N {s:ByteArray}(h:ck s 3=true):okN s:=by
 unfold ck at h;rw [decide_eq_true_eq] at h;unfold okN;omega
theorem uL:okN e0:=by unfold okN;decide
theorem Pz:∀{x:Ex},Xw x→y2 x:=by
 intro x h
 induction h with
 |num _ _=>exact gi.2 ⟨uL,trivial⟩
 |name hs=>exact gi.2 ⟨iS hs,trivial⟩
 |neg _ ih=>exact gi.2 ⟨uL,ih,trivial⟩
 |T _ _ _ _ iha ihb=>exact gi.2 ⟨uL,iha,ihb,trivial⟩
theorem uI:∀{l:List Ex},(∀x∈l,XwL x)→gW l
 |[],_=>trivial
 |x::r,h=>⟨Pz (h x Qg).1,uI fun y hy=>h y (Q9 _ hy)⟩
theorem sw_N {deep:Nat}{x:St}(h:Sw deep x):okN x.a∧okN x.b∧okN x.t∧gW x.e:=by
 cases h with
 |let_ hd hn hx=>exact ⟨iS hn,uL,uL,uI (uE hx)⟩
 |emit hx=>exact ⟨uL,uL,uL,uI (uE hx)⟩
 |chan ha hb hty h0 h1=>exact ⟨iS ha,iS hb,ty_N hty,trivial⟩
 |clone ha hb=>exact ⟨iS ha,iS hb,uL,trivial⟩
 |send ha hx=>exact ⟨iS ha,uL,uL,uI (uE hx)⟩
 |one hd ha=>exact ⟨iS ha,uL,uL,trivial⟩
 |spawn ha hl hx=>exact ⟨iS ha,uL,uL,uI hx⟩
 |take ha hb hd hbd hel=>exact ⟨iS ha,iS hb,uL,trivial⟩
 |for_ ha hb hd hbd=>exact ⟨iS ha,iS hb,uL,trivial⟩
 |rep hx hd hbd=>exact ⟨uL,uL,uL,uI (uE hx)⟩
 |if_ hx hd hbd hel=>exact ⟨uL,uL,uL,uI (uE hx)⟩
mutual
theorem Pt:∀(x:St) {deep:Nat},Sw deep x→AB x
 |.mk d at_ a b t n e body els,deep,h=>by
  obtain ⟨h1,h2,_⟩:=sw_H h;obtain ⟨n1,n2,n3,n4⟩:=sw_N h;exact ⟨n1,n2,n3,n4,Dq body h1,Dq els h2⟩
theorem Dq:∀(l:List St) {deep:Nat},(∀y∈l,Sw deep y)→ey l
 |[],_,_=>trivial
 |x::r,deep,h=>⟨Pt x (h x Qg),Dq r fun y hy=>h y (Q9 _ hy)⟩
end
theorem GF {e:Int}{ts:List Tok}{p:List Sg}(ht:jC ts)(hl:ts.length≤12000)(h:qn e ts=.ok p):Small p∧∃n,bC p=.ok n:=by
 have hsg:∀s∈p,SgP s:=vN _ ht (fun s hs=>absurd hs List.not_mem_nil) h;obtain ⟨_,m,_,_,h3,h4,h5,h6⟩:=Fq (e':=0) (y:=[]) h;obtain ⟨hN,_⟩:=Hy h;refine ⟨⟨by omega,fun s hs=>?_,?_⟩,m,?_⟩
 ·have:=hsg s hs;exact ⟨iS this.nm,by have:=this.pl;omega,fun q hq=>⟨iS (this.ps q hq).1,ty_N (this.ps q hq).2⟩,Dq _ this.body⟩
 ·have:(p.map fun s=>cc s.body).sum≤HU p:=by
   unfold HU;exact Zd _
  omega
 ·unfold bC;rw [if_neg (fun hh=>h5 (List.eq_nil_of_length_eq_zero hh)),if_neg (by omega),Hb hsg (by omega),h4]
  congr 1
  omega
end Go.Proofs.YtkeeboomikkojaaGreatDoor
