import Derived.Test.YtkeeboomikkojaaGreatDoorRi1
import Derived.Test.YtkeeboomikkojaaGreatDoorRy2
import Derived.Test.YtkeeboomikkojaaGreatDoorRy1
import Derived.Test.YtkeeboomikkojaaGreatDoorRx4
namespace Go.Proofs.YtkeeboomikkojaaGreatDoor
open Go Go.Sx Go.Sx.Tk Go.Sx.Rn Go.Proofs.YtkeeboomikkojaaGreatDoor.Sx
def ib (l:List Tok):Prop:=∀t∈l,JD t
theorem ib.tail {l:List Tok}(h:ib l):ib l.tail:=fun t ht=>h t (List.mem_of_mem_tail ht)
theorem ib.cdr {t:Tok}{r:List Tok}(h:ib (t::r)):ib r:=fun u hu=>h u (List.mem_cons_of_mem _ hu)
def Xg (n:Nat)(r:Ex×Nat×List Tok):Prop:=Xw r.1∧r.2.1=n+exN r.1∧ib r.2.2
theorem GN (n:Int):exN (mh n)=1:=by
 unfold mh exN bV;rfl
theorem E2 (s:ByteArray):exN (dV s)=1:=by
 unfold dV exN bV;rfl
theorem xwf (e:Int):∀f:Nat,(∀{o n l r},ib l→pj e f o n l=.ok r→Xg n r)∧(∀{o n l r},ib l→nZ e f o n l=.ok r→Xg n r)∧(∀{o x n l r},ib l→Xw x→o0 e f o x n l=.ok r→Xw r.1∧r.2.1+exN x=n+exN r.1∧ib r.2.2) ∧
  (∀{o n l r},ib l→dQ e f o n l=.ok r→Xg n r)∧(∀{o x n l r},ib l→Xw x→dY e f o x n l=.ok r→Xw r.1∧r.2.1+exN x=n+exN r.1∧ib r.2.2)∧(∀{o n l r},ib l→bF e f o n l=.ok r→Xg n r):=by
 intro f
 induction f with
 |zero =>
  refine ⟨?_,?_,?_,?_,?_,?_⟩
  ·intro o n l r _ h;unfold pj at h;cases h
  ·intro o n l r _ h;unfold nZ at h;cases h
  ·intro o x n l r _ _ h;unfold o0 at h;cases h
  ·intro o n l r _ h;unfold dQ at h;cases h
  ·intro o x n l r _ _ h;unfold dY at h;cases h
  ·intro o n l r _ h;unfold bF at h;cases h
 |succ f ih =>
  obtain ⟨i1,i2,i3,i4,i5,i6⟩:=ih;refine ⟨?_,?_,?_,?_,?_,?_⟩
  ·intro o n l r ht h;unfold pj at h;obtain ⟨a,ha,h⟩:=ai h;obtain ⟨a1,a2,a3⟩:=i2 ht ha
   split at h
   ·obtain ⟨b,hb,h⟩:=ai h;obtain ⟨b1,b2,b3⟩:=i2 a3.tail hb;cases h;exact ⟨.two (by decide) (by decide) a1 b1,by show b.2.1+1=n+exN (aU 7 a.1 b.1);rw [nA];omega,b3⟩
   split at h
   ·obtain ⟨b,hb,h⟩:=ai h;obtain ⟨b1,b2,b3⟩:=i2 a3.tail hb;cases h;exact ⟨.two (by decide) (by decide) a1 b1,by show b.2.1+1=n+exN (aU 8 a.1 b.1);rw [nA];omega,b3⟩
   ·cases h;exact ⟨a1,a2,a3⟩
  ·intro o n l r ht h;unfold nZ at h;obtain ⟨a,ha,h⟩:=ai h;obtain ⟨a1,a2,a3⟩:=i4 ht ha;obtain ⟨b1,b2,b3⟩:=i3 a3 a1 h;exact ⟨b1,by omega,b3⟩
  ·intro o x n l r ht hx h;unfold o0 at h
   split at h
   ·obtain ⟨a,ha,h⟩:=ai h;obtain ⟨a1,a2,a3⟩:=i4 ht.tail ha;obtain ⟨b1,b2,b3⟩:=i3 a3 (.two (by decide) (by decide) hx a1) h
    rw [nA] at b2;exact ⟨b1,by omega,b3⟩
   split at h
   ·obtain ⟨a,ha,h⟩:=ai h;obtain ⟨a1,a2,a3⟩:=i4 ht.tail ha;obtain ⟨b1,b2,b3⟩:=i3 a3 (.two (by decide) (by decide) hx a1) h
    rw [nA] at b2;exact ⟨b1,by omega,b3⟩
   ·cases h;exact ⟨hx,rfl,ht⟩
  ·intro o n l r ht h;unfold dQ at h;obtain ⟨a,ha,h⟩:=ai h;obtain ⟨a1,a2,a3⟩:=i6 ht ha;obtain ⟨b1,b2,b3⟩:=i5 a3 a1 h;exact ⟨b1,by omega,b3⟩
  ·intro o x n l r ht hx h;unfold dY at h
   split at h
   ·obtain ⟨a,ha,h⟩:=ai h;obtain ⟨a1,a2,a3⟩:=i6 ht.tail ha;obtain ⟨b1,b2,b3⟩:=i5 a3 (.two (by decide) (by decide) hx a1) h
    rw [nA] at b2;exact ⟨b1,by omega,b3⟩
   ·cases h;exact ⟨hx,rfl,ht⟩
  ·intro o n l r ht h;unfold bF at h
   split at h
   ·split at h
    ·cases h
    obtain ⟨a,ha,h⟩:=ai h;obtain ⟨a1,a2,a3⟩:=i1 ht.tail ha
    split at h
    ·cases h;exact ⟨a1,a2,a3.tail⟩
    ·cases h
   split at h
   ·split at h
    ·cases h
    obtain ⟨a,ha,h⟩:=ai h;obtain ⟨a1,a2,a3⟩:=i6 ht.tail ha;cases h;exact ⟨.neg a1,by show a.2.1=n+exN (lJ a.1);rw [DX];omega,a3⟩
   split at h
   ·cases h
   ·rename_i t r' _ _;have htk:=ht t List.mem_cons_self
    split at h
    ·rename_i hk;cases h;rcases htk with h1|⟨h1,_⟩|⟨_,_,h2,h3⟩|⟨h1,_⟩
     ·rw [hk] at h1;cases h1
     ·rw [hk] at h1;cases h1
     ·exact ⟨.num h2 h3,by show n+1=n+exN (mh t.n);rw [GN],ht.cdr⟩
     ·rw [hk] at h1;cases h1
    split at h
    ·rename_i hk;cases h;rcases htk with h1|⟨_,h2⟩|⟨h1,_⟩|⟨h1,_⟩
     ·rw [hk] at h1;cases h1
     ·exact ⟨.name h2,by show n+1=n+exN (dV t.text);rw [E2],ht.cdr⟩
     ·rw [hk] at h1;cases h1
     ·rw [hk] at h1;cases h1
    ·cases h
theorem kq {e:Int}{l:List Tok}{q:Ex×List Tok}(ht:ib l)(h:fU e l=.ok q):XwL q.1∧ib q.2:=by
 cases l with
 |nil=>cases h
 |cons t r =>
  rw [dx] at h;obtain ⟨a,ha,h⟩:=ai h;obtain ⟨a1,a2,a3⟩:=(xwf e _).1 ht ha
  split at h
  ·cases h
  ·rename_i h20;cases h;exact ⟨⟨a1,by show exN a.1≤20;omega⟩,a3⟩
theorem bL {e:Int}{l:List Tok}{q:ByteArray×List Tok}(ht:ib l)(h:dj e l=.ok q):aF q.1=true∧ib q.2:=by
 cases l with
 |nil=>cases h
 |cons t r =>
  rw [nU] at h
  split at h
  ·rename_i hk;cases h;rcases ht t List.mem_cons_self with h1|⟨_,h2⟩|⟨h1,_⟩|⟨h1,_⟩
   ·rw [hk] at h1;cases h1
   ·exact ⟨h2,ht.cdr⟩
   ·rw [hk] at h1;cases h1
   ·rw [hk] at h1;cases h1
  ·cases h
theorem Gj {e:Int}{l:List Tok}{q:Int×List Tok}(ht:ib l)(h:Bp e l=.ok q):0≤q.1∧q.1 < 1000000000000000000∧ib q.2:=by
 cases l with
 |nil=>cases h
 |cons t r =>
  rw [sb] at h
  split at h
  ·rename_i hk;cases h;rcases ht t List.mem_cons_self with h1|⟨h1,_⟩|⟨_,_,h2,h3⟩|⟨h1,_⟩
   ·rw [hk] at h1;cases h1
   ·rw [hk] at h1;cases h1
   ·exact ⟨h2,h3,ht.cdr⟩
   ·rw [hk] at h1;cases h1
  ·cases h
theorem gn {e:Int}{s:List UInt8}{l r:List Tok}(ht:ib l)(h:aR e s l=.ok r):ib r:=by
 unfold aR at h
 split at h
 ·cases h;exact ht.tail
 ·cases h
theorem Hn {l:List UInt8}(hl:l.length≤3)(hc:∀c∈l,c=115∨c=114):bJ (bs (l++[105])) 3=true:=by
 unfold bJ;have hs:(bs (l++[105])).size=l.length+1:=by
  rw [aD];simp
 rw [decide_eq_true_eq,hs];have hcat:∀k,cAt (bs (l++[105])) k=(l++[105]).getD k 0:=fun k=>by
  unfold cAt;rw [aB]
 refine ⟨by omega,by omega,?_,fun k hk=>?_⟩
 ·rw [hcat,List.getD_eq_getElem?_getD];simp
 ·have hk:k < l.length:=by omega
  rw [hcat,List.getD_eq_getElem?_getD,List.getElem?_append_left hk,List.getElem?_eq_getElem hk,Option.getD_some];exact hc _ (List.getElem_mem hk)
theorem yo {e:Int}:∀{l:List Tok} {acc:List UInt8} {q:List UInt8×List Tok},ib l→acc.length≤3→(∀c∈acc,c=115∨c=114)→o4 e acc l=.ok q→bJ (bs q.1) 3=true∧ib q.2
 |[],acc,q,_,_,_,h=>by
  rw [uz] at h;cases h
 |t::r,acc,q,ht,hl,hc,h=>by
  rw [fI] at h
  split at h
  ·cases h;exact ⟨Hn hl hc,ht.cdr⟩
  split at h
  ·rename_i hT
   split at h
   ·cases h
   ·rename_i h3;have htl:∃c,(bytesOf t.text).take 1=[c]∧(c=115∨c=114):=by
     rw [Bool.or_eq_true] at hT;rcases hT with hT|hT
     ·exact ⟨115,by rw [rz hT];rfl,.inl rfl⟩
     ·exact ⟨114,by rw [rz hT];rfl,.inr rfl⟩
    obtain ⟨c,h1,h2⟩:=htl;rw [h1] at h;refine yo ht.cdr (by simp;omega) (fun d hd=>?_) h
    rcases List.mem_append.1 hd with hd|hd
    ·exact hc d hd
    ·rw [List.mem_singleton.1 hd];exact h2
  ·cases h
theorem Aq {e:Int}:∀{f:Nat} {acc:List Ex} {l:List Tok} {q:List Ex×List Tok},ib l→acc.length≤6→(∀x∈acc,XwL x)→cW e f acc l=.ok q→q.1.length≤6∧(∀x∈q.1,XwL x)∧ib q.2
 |0,_,_,_,_,_,_,h=>by
  unfold cW at h;cases h
 |f+1,acc,l,q,ht,hl,hx,h=>by
  unfold cW at h
  split at h
  ·cases h;exact ⟨hl,hx,ht.tail⟩
  ·obtain ⟨l1,hl1,h⟩:=ai h;have ht1:ib l1:=by
    split at hl1
    ·cases hl1;exact ht
    ·exact gn ht hl1
   split at h
   ·cases h
   ·rename_i h6;obtain ⟨x,hx1,h⟩:=ai h;obtain ⟨h1,h2⟩:=kq ht1 hx1;refine Aq h2 (by simp;omega) (fun y hy=>?_) h
    rcases List.mem_append.1 hy with hy|hy
    ·exact hx y hy
    ·rw [List.mem_singleton.1 hy];exact h1
theorem Ar {e:Int}:∀{f:Nat} {acc:List (ByteArray×ByteArray)} {l:List Tok} {q:List (ByteArray×ByteArray)×List Tok},ib l→acc.length≤6→(∀x∈acc,aF x.1=true∧bJ x.2 3=true)→dZ e f acc l=.ok q→q.1.length≤6∧(∀x∈q.1,aF x.1=true∧bJ x.2 3=true)∧ib q.2
 |0,_,_,_,_,_,_,h=>by
  unfold dZ at h;cases h
 |f+1,acc,l,q,ht,hl,hx,h=>by
  unfold dZ at h
  split at h
  ·cases h;exact ⟨hl,hx,ht.tail⟩
  ·obtain ⟨l1,hl1,h⟩:=ai h;have ht1:ib l1:=by
    split at hl1
    ·cases hl1;exact ht
    ·exact gn ht hl1
   split at h
   ·cases h
   ·rename_i h6;obtain ⟨x,hx1,h⟩:=ai h;obtain ⟨y,hy1,h⟩:=ai h;obtain ⟨h1,h2⟩:=bL ht1 hx1;obtain ⟨h3,h4⟩:=yo h2 (by simp) (fun c hc=>absurd hc List.not_mem_nil) hy1
    refine Ar h4 (by simp;omega) (fun z hz=>?_) h
    rcases List.mem_append.1 hz with hz|hz
    ·exact hx z hz
    ·rw [List.mem_singleton.1 hz];exact ⟨h1,h3⟩
theorem Cc {e:Int}{d:Nat}{l:List Tok}{q:Sh×List Tok}{at_:Int}{deep:Nat}(ht:ib l)(h1:1≤d)(h11:d < 11)(h:bG e d l=.ok q):Sw deep (.mk (d:Nat) at_ q.1.a q.1.b q.1.t q.1.n q.1.e [] [])∧ib q.2:=by
 have hd:d=1∨d=2∨d=3∨d=4∨d=5∨d=6∨d=7∨d=8∨d=9∨d=10:=by omega
 unfold bG at h;rcases hd with rfl|rfl|rfl|rfl|rfl|rfl|rfl|rfl|rfl|rfl
 ·rw [if_neg (by decide)] at h
  obtain ⟨a,ha,h⟩:=ai h;rw [if_pos (by decide)] at h
  obtain ⟨w,hw,h⟩:=ai h;obtain ⟨x,hx,h⟩:=ai h;obtain ⟨n1,t1⟩:=bL ht ha;obtain ⟨x1,t2⟩:=kq (gn t1 hw) hx;cases h;exact ⟨.let_ (.inl rfl) n1 x1,t2⟩
 ·rw [if_neg (by decide)] at h
  obtain ⟨a,ha,h⟩:=ai h;rw [if_pos (by decide)] at h
  obtain ⟨w,hw,h⟩:=ai h;obtain ⟨x,hx,h⟩:=ai h;obtain ⟨n1,t1⟩:=bL ht ha;obtain ⟨x1,t2⟩:=kq (gn t1 hw) hx;cases h;exact ⟨.let_ (.inr rfl) n1 x1,t2⟩
 ·rw [if_pos rfl] at h;obtain ⟨x,hx,h⟩:=ai h;obtain ⟨x1,t2⟩:=kq ht hx;cases h;exact ⟨.emit x1,t2⟩
 ·rw [if_neg (by decide)] at h
  obtain ⟨a,ha,h⟩:=ai h;rw [if_neg (by decide),if_pos rfl] at h
  obtain ⟨b,hb,h⟩:=ai h;obtain ⟨ty,hty,h⟩:=ai h;obtain ⟨n,hn,h⟩:=ai h;obtain ⟨n1,t1⟩:=bL ht ha;obtain ⟨n2,t2⟩:=bL t1 hb;obtain ⟨y1,t3⟩:=yo t2 (by simp) (fun c hc=>absurd hc List.not_mem_nil) hty
  obtain ⟨m1,m2,t4⟩:=Gj t3 hn;cases h;exact ⟨.chan n1 n2 y1 m1 m2,t4⟩
 ·rw [if_neg (by decide)] at h
  obtain ⟨a,ha,h⟩:=ai h;rw [if_neg (by decide),if_neg (by decide),if_pos rfl] at h
  obtain ⟨b,hb,h⟩:=ai h;obtain ⟨n1,t1⟩:=bL ht ha;obtain ⟨n2,t2⟩:=bL t1 hb;cases h;exact ⟨.clone n1 n2,t2⟩
 ·rw [if_neg (by decide)] at h
  obtain ⟨a,ha,h⟩:=ai h;rw [if_neg (by decide),if_neg (by decide),if_neg (by decide),if_pos rfl] at h
  obtain ⟨x,hx,h⟩:=ai h;obtain ⟨n1,t1⟩:=bL ht ha;obtain ⟨x1,t2⟩:=kq t1 hx;cases h;exact ⟨.send n1 x1,t2⟩
 ·rw [if_neg (by decide)] at h
  obtain ⟨a,ha,h⟩:=ai h;rw [if_neg (by decide),if_neg (by decide),if_neg (by decide),if_neg (by decide),if_neg (by decide)] at h
  obtain ⟨n1,t1⟩:=bL ht ha;cases h;exact ⟨.one (.inl rfl) n1,t1⟩
 ·rw [if_neg (by decide)] at h
  obtain ⟨a,ha,h⟩:=ai h;rw [if_neg (by decide),if_neg (by decide),if_neg (by decide),if_neg (by decide),if_neg (by decide)] at h
  obtain ⟨n1,t1⟩:=bL ht ha;cases h;exact ⟨.one (.inr (.inl rfl)) n1,t1⟩
 ·rw [if_neg (by decide)] at h
  obtain ⟨a,ha,h⟩:=ai h;rw [if_neg (by decide),if_neg (by decide),if_neg (by decide),if_neg (by decide),if_neg (by decide)] at h
  obtain ⟨n1,t1⟩:=bL ht ha;cases h;exact ⟨.one (.inr (.inr rfl)) n1,t1⟩
 ·rw [if_neg (by decide)] at h
  obtain ⟨a,ha,h⟩:=ai h;rw [if_neg (by decide),if_neg (by decide),if_neg (by decide),if_neg (by decide),if_pos rfl] at h
  obtain ⟨w,hw,h⟩:=ai h;obtain ⟨x,hx,h⟩:=ai h;obtain ⟨n1,t1⟩:=bL ht ha;obtain ⟨a1,a2,t2⟩:=Aq (gn t1 hw) (by simp) (fun y hy=>absurd hy List.not_mem_nil) hx
  cases h;exact ⟨.spawn n1 a1 a2,t2⟩
theorem EU {e:Int}{d:Nat}{l:List Tok}{q:Sh×List Tok}(ht:ib l)(h11:11≤d)(h14:d≤14)(h:fE e d l=.ok q):ib q.2∧∀{at_:Int} {deep:Nat} {body els:List St},deep < 8→(∀y∈body,Sw (deep+1) y)→(∀y∈els,Sw (deep+1) y)→(d=12∨d=13→els=[])→Sw deep (.mk (d:Nat) at_ q.1.a q.1.b ⟨#[]⟩ 0 q.1.e body els):=by
 have hd:d=11∨d=12∨d=13∨d=14:=by omega
 unfold fE at h;rcases hd with rfl|rfl|rfl|rfl
 ·rw [if_pos (by decide)] at h
  obtain ⟨a,ha,h⟩:=ai h;obtain ⟨w,hw,h⟩:=ai h;obtain ⟨b,hb,h⟩:=ai h;obtain ⟨n1,t1⟩:=bL ht ha;obtain ⟨n2,t2⟩:=bL (gn t1 hw) hb;cases h;exact ⟨t2,fun h1 h2 h3 _=>.take n1 n2 h1 h2 h3⟩
 ·rw [if_pos (by decide)] at h
  obtain ⟨a,ha,h⟩:=ai h;obtain ⟨w,hw,h⟩:=ai h;obtain ⟨b,hb,h⟩:=ai h;obtain ⟨n1,t1⟩:=bL ht ha;obtain ⟨n2,t2⟩:=bL (gn t1 hw) hb;cases h;refine ⟨t2,fun h1 h2 _ h4=>?_⟩;rw [h4 (.inl rfl)];exact .for_ n1 n2 h1 h2
 ·rw [if_neg (by decide)] at h
  obtain ⟨x,hx,h⟩:=ai h;obtain ⟨x1,t2⟩:=kq ht hx;cases h;refine ⟨t2,fun h1 h2 _ h4=>?_⟩;rw [h4 (.inr rfl)];exact .rep x1 h1 h2
 ·rw [if_neg (by decide)] at h
  obtain ⟨x,hx,h⟩:=ai h;obtain ⟨x1,t2⟩:=kq ht hx;cases h;exact ⟨t2,fun h1 h2 h3 _=>.if_ x1 h1 h2 h3⟩
theorem Fb (e:Int):∀f:Nat,(∀{deep n l r},ib l→deep≤8→aX e f deep n l=.ok r→deep < 8∧(∀y∈r.1,Sw (deep+1) y)∧ib r.2.2)∧(∀{deep acc n l r},ib l→deep≤8→(∀y∈acc,Sw deep y)→cn e f deep acc n l=.ok r→(∀y∈r.1,Sw deep y)∧ib r.2.2)∧(∀{deep n l r},ib l→deep≤8→df e f deep n l=.ok r→Sw deep r.1∧ib r.2.2):=by
 intro f
 induction f with
 |zero =>
  refine ⟨?_,?_,?_⟩
  ·intro deep n l r _ _ h;unfold aX at h;cases h
  ·intro deep acc n l r _ _ _ h;unfold cn at h;cases h
  ·intro deep n l r _ _ h;unfold df at h;cases h
 |succ f ih =>
  obtain ⟨i1,i2,i3⟩:=ih;refine ⟨?_,?_,?_⟩
  ·intro deep n l r ht hd h;rw [fo] at h
   split at h
   ·split at h
    ·cases h
    ·rename_i h8;obtain ⟨a,b⟩:=i2 ht.tail (by omega) (fun y hy=>absurd hy List.not_mem_nil) h
     exact ⟨by omega,a,b⟩
   ·cases h
  ·intro deep acc n l r ht hd hacc h;rw [jC] at h
   split at h
   ·cases h;exact ⟨hacc,ht.tail⟩
   ·obtain ⟨x,hx,h⟩:=ai h;obtain ⟨h1,h2⟩:=i3 ht hd hx;refine i2 h2 hd (fun y hy=>?_) h;rcases List.mem_append.1 hy with hy|hy
    ·exact hacc y hy
    ·rw [List.mem_singleton.1 hy];exact h1
  ·intro deep n l r ht hd h;cases l with
   |nil =>
    rw [gM] at h;cases h
   |cons t l =>
    rw [fa] at h
    split at h
    ·rename_i hw
     split at h
     ·cases h
     have hle:=F0 (bytesOf t.text)
     split at h
     ·rename_i h11;obtain ⟨s,hs,h⟩:=ai h;obtain ⟨w,hw2,h⟩:=ai h;obtain ⟨s1,s2⟩:=Cc (at_:=t.at_) (deep:=deep) ht.cdr (by omega) h11 hs
      cases h;exact ⟨s1,gn s2 hw2⟩
     ·rename_i h11;obtain ⟨s,hs,h⟩:=ai h;obtain ⟨b,hb,h⟩:=ai h;obtain ⟨s1,s2⟩:=EU ht.cdr (by omega) hle hs
      obtain ⟨b1,b2,b3⟩:=i1 s1 hd hb
      split at h
      ·rename_i hel;obtain ⟨c,hc,h⟩:=ai h;obtain ⟨c1,c2,c3⟩:=i1 b3.tail hd hc;cases h;refine ⟨s2 b1 b2 c2 fun hh=>?_,c3⟩;rcases hel.1 with h1|h1<;>omega
      ·cases h;exact ⟨s2 b1 b2 (fun y hy=>absurd hy List.not_mem_nil) fun _=>rfl,b3⟩
    ·cases h
theorem iM {a b:Int}(ha:a=0)(hb:b=0):orF a b=0:=by rw [ha,ln,hb]
theorem Da:emp (⟨#[]⟩:ByteArray):=by unfold emp;rfl
theorem zp {x:Ex}(h1:1≤x.op∧x.op≤8)(h2:(x.l.length:Int)=dL x.op)(h3:x.n≠0→x.op=1)(h4:¬emp x.nm→x.op=2)(h5:x.op=2→aF x.nm=true)(h6:0≤x.n∧x.n < 1000000000000000000):exH x=0:=by
 unfold exH;rw [if_neg,if_neg,if_neg (by omega)]
 ·rintro ⟨g1,g2⟩;rw [h5 g1] at g2;cases g2
 ·rintro (g|g|g|⟨g1,g2⟩|⟨g1,g2⟩)
  ·omega
  ·omega
  ·exact g h2
  ·exact g2 (h3 g1)
  ·exact g2 (h4 g1)
theorem zN0:0≤(0:Int)∧(0:Int) < 1000000000000000000:=by decide
theorem xw_F:∀{x:Ex},Xw x→exF x=0:=by
 intro x h
 induction h with
 |@num n h0 h1 =>
  rw [kO];refine iM (zp (x:=mh n) ⟨by show (1:Int)≤1;decide,by show (1:Int)≤8;decide⟩ rfl (fun _=>rfl) (fun g=>absurd Da g) (fun g=>absurd (show (1:Int)=2 from g) (by decide)) ⟨h0,h1⟩) rfl
 |@name s hs =>
  rw [kO];exact iM (zp (x:=dV s) ⟨by show (1:Int)≤2;decide,by show (2:Int)≤8;decide⟩ rfl (fun g=>absurd rfl g) (fun _=>rfl) (fun _=>hs) zN0) rfl
 |@neg a _ ih =>
  rw [kO];refine iM (zp (x:=lJ a) ⟨by show (1:Int)≤3;decide,by show (3:Int)≤8;decide⟩ rfl (fun g=>absurd rfl g) (fun g=>absurd Da g) (fun g=>absurd (show (3:Int)=2 from g) (by decide)) zN0) ?_
  show orF (exF a) (nt [])=0;exact iM ih rfl
 |@two op a b h4 h8 _ _ iha ihb =>
  rw [kO];have hw:dL op=2:=by unfold dL;rw [if_neg (by omega),if_neg (by omega)]
  refine iM (zp (x:=aU op a b) ⟨by show 1≤op;omega,h8⟩ (by show _=dL op;rw [hw];rfl) (fun g=>absurd rfl g) (fun g=>absurd Da g) (fun g=>by have:op=2:=g;omega) zN0) ?_
  show orF (exF a) (orF (exF b) (nt []))=0;exact iM iha (iM ihb rfl)
theorem Gb:∀{l:List Ex},(∀x∈l,XwL x)→esF l=0
 |[],_=>rfl
 |x::r,h=>by
  unfold esF;refine iM ?_ (Gb fun y hy=>h y (List.mem_cons_of_mem _ hy));obtain ⟨h1,h2⟩:=h x List.mem_cons_self;unfold eF1;rw [if_neg (by omega),ln]
  exact xw_F h1
theorem iL {x:St}{m deep:Int}{f:Fm}(h300:m < 300)(hf:aL x.d=some f)(hb:pK f x=false)(he:x.e.length≤6)(hs:stR f x deep=0):stH x m deep=0:=by
 unfold stH;rw [if_neg (by omega),hf]
 show (if pK f x then 5 else if 6 < x.e.length then 8 else stR f x deep)=0
 rw [hb,if_neg Bool.false_ne_true,if_neg (by omega),hs]
theorem pd {s:ByteArray}(h:aF s=true):nmF true s=0:=by
 unfold nmF;rw [h];rfl
theorem qu:nmF false e0=0:=by decide
theorem iJ {f:Fm}{x:St}{deep:Int}(h1:nmF f.a x.a=0)(h2:nmF f.b x.b=0)(h3:(f.t&&!bJ x.t 3)=false)(h4:0≤x.n∧x.n < 1000000000000000000)(h5:∀y∈x.e,XwL y)(h6:f.body=true→deep < 8):stR f x deep=0:=by
 unfold stR;refine iM h1 (iM h2 (iM ?_ (iM ?_ (iM (Gb h5) ?_))))
 ·rw [h3];rfl
 ·rw [decide_eq_false (by omega)]
  rfl
 ·cases hb:f.body with
  |false=>rfl
  |true =>
   have:=h6 hb;rw [decide_eq_false (by omega)]
   rfl
theorem rW {x:Ex}(h:XwL x):∀y∈[x],XwL y:=fun y hy=>by rw [List.mem_singleton.1 hy];exact h
theorem yE:∀y∈([]:List Ex),XwL y:=fun y hy=>absurd hy List.not_mem_nil
theorem oA {deep:Nat}:∀y∈([]:List St),Sw deep y:=fun y hy=>absurd hy List.not_mem_nil
theorem tyk {s:ByteArray}(h:bJ s 3=true):(true&&!bJ s 3)=false:=by
 rw [h];rfl
theorem sw_H {deep:Nat}{x:St}(h:Sw deep x):(∀y∈x.body,Sw (deep+1) y)∧(∀y∈x.els,Sw (deep+1) y)∧∀m:Int,m < 300→stH x m deep=0:=by
 cases h with
 |@let_ _ _ _ _ x hd hn hx =>
  refine ⟨oA,oA,fun m hm=>?_⟩;rcases hd with rfl|rfl
  ·exact iL hm rfl rfl (by show 1≤6;decide) (iJ (pd hn) qu rfl zN0 (rW hx) fun h=>by cases h)
  ·exact iL hm rfl rfl (by show 1≤6;decide) (iJ (pd hn) qu rfl zN0 (rW hx) fun h=>by cases h)
 |@emit _ _ x hx=>exact ⟨oA,oA,fun m hm=>iL hm rfl rfl (by show 1≤6;decide) (iJ qu qu rfl zN0 (rW hx) fun h=>by cases h)⟩
 |chan ha hb hty h0 h1=>exact ⟨oA,oA,fun m hm=>iL hm rfl rfl (by show 0≤6;decide) (iJ (pd ha) (pd hb) (tyk hty) ⟨h0,h1⟩ yE fun h=>by cases h)⟩
 |clone ha hb=>exact ⟨oA,oA,fun m hm=>iL hm rfl rfl (by show 0≤6;decide) (iJ (pd ha) (pd hb) rfl zN0 yE fun h=>by cases h)⟩
 |@send _ _ _ x ha hx=>exact ⟨oA,oA,fun m hm=>iL hm rfl rfl (by show 1≤6;decide) (iJ (pd ha) qu rfl zN0 (rW hx) fun h=>by cases h)⟩
 |one hd ha =>
  refine ⟨oA,oA,fun m hm=>?_⟩;rcases hd with rfl|rfl|rfl
  ·exact iL hm rfl rfl (by show 0≤6;decide) (iJ (pd ha) qu rfl zN0 yE fun h=>by cases h)
  ·exact iL hm rfl rfl (by show 0≤6;decide) (iJ (pd ha) qu rfl zN0 yE fun h=>by cases h)
  ·exact iL hm rfl rfl (by show 0≤6;decide) (iJ (pd ha) qu rfl zN0 yE fun h=>by cases h)
 |@spawn _ _ _ es ha hl hx=>exact ⟨oA,oA,fun m hm=>iL hm rfl rfl hl (iJ (pd ha) qu rfl zN0 hx fun h=>by cases h)⟩
 |take ha hb hd hbd hel=>exact ⟨hbd,hel,fun m hm=>iL hm rfl rfl (by show 0≤6;decide) (iJ (pd ha) (pd hb) rfl zN0 yE fun _=>by omega)⟩
 |for_ ha hb hd hbd=>exact ⟨hbd,oA,fun m hm=>iL hm rfl rfl (by show 0≤6;decide) (iJ (pd ha) (pd hb) rfl zN0 yE fun _=>by omega)⟩
 |@rep _ _ x _ hx hd hbd=>exact ⟨hbd,oA,fun m hm=>iL hm rfl rfl (by show 1≤6;decide) (iJ qu qu rfl zN0 (rW hx) fun _=>by omega)⟩
 |@if_ _ _ x _ _ hx hd hbd hel=>exact ⟨hbd,hel,fun m hm=>iL hm rfl rfl (by show 1≤6;decide) (iJ qu qu rfl zN0 (rW hx) fun _=>by omega)⟩
mutual
theorem H2:∀(x:St) {deep:Nat} {m:Int},Sw deep x→m+stQ x≤300→stF x m deep=.ok (m+stQ x)
 |.mk d at_ a b t n e body els,deep,m,h,hm=>by
  obtain ⟨h1,h2,h3⟩:=sw_H h;have hQ:stQ (.mk d at_ a b t n e body els)=1+dh body+dh els:=wO _;rw [hQ] at hm ⊢;have e1:=vF body (deep:=deep+1) (m:=m+1) h1 (by omega)
  have e2:=vF els (deep:=deep+1) (m:=m+1+dh body) h2 (by omega)
  rw [Int.natCast_add] at e1 e2;have e1:hY body (m+1) ((deep:Int)+1)=_:=e1;have e2:hY els (m+1+dh body) ((deep:Int)+1)=_:=e2;rw [xV,h3 m (by omega),if_neg (fun h=>h rfl)]
  show pZ (hY body (m+1) ((deep:Int)+1)) (fun n=>hY els n ((deep:Int)+1))=_;rw [e1,kJ,e2]
  congr 1
  omega
theorem vF:∀(l:List St) {deep:Nat} {m:Int},(∀y∈l,Sw deep y)→m+dh l≤300→hY l m deep=.ok (m+dh l)
 |[],deep,m,_,_=>by
  rw [oq];show Except.ok m=Except.ok (m+((0:Nat):Int))
  congr 1
  omega
 |x::r,deep,m,h,hm=>by
  rw [qo] at hm ⊢;have e1:=H2 x (deep:=deep) (m:=m) (h x List.mem_cons_self) (by omega)
  have e2:=vF r (deep:=deep) (m:=m+stQ x) (fun y hy=>h y (List.mem_cons_of_mem _ hy)) (by omega)
  rw [jQ,e1,kJ,e2]
  congr 1
  omega
end
structure SgP (s:Sg):Prop where
 nm:aF s.nm=true
 pl:s.ps.length≤6
 ps:∀q∈s.ps,aF q.1=true∧bJ q.2 3=true
 body:∀y∈s.body,Sw 1 y
theorem Dg {e:Int}{n:Nat}{l:List Tok}{r:Sg×Nat×List Tok}(ht:ib l)(h:fx e n l=.ok r):SgP r.1∧ib r.2.2:=by
 cases l with
 |nil=>cases h
 |cons t l =>
  rw [gJ] at h;obtain ⟨a,ha,h⟩:=ai h;obtain ⟨w,hw,h⟩:=ai h;obtain ⟨ps,hps,h⟩:=ai h;obtain ⟨b,hb,h⟩:=ai h;obtain ⟨n1,t1⟩:=bL ht.cdr ha;obtain ⟨p1,p2,t2⟩:=Ar (gn t1 hw) (by simp) (fun y hy=>absurd hy List.not_mem_nil) hps
  obtain ⟨_,b1,t3⟩:=(Fb e _).1 t2 (by omega) hb
  cases h;exact ⟨⟨n1,p1,p2,b1⟩,t3⟩
theorem tM {e:Int}:∀(f:Nat) {n:Nat} {acc p:List Sg} {l:List Tok},ib l→(∀s∈acc,SgP s)→cl e f acc n l=.ok p→∀s∈p,SgP s
 |0,_,_,_,_,_,_,h=>by
  unfold cl at h;cases h
 |f+1,n,acc,p,l,ht,hacc,h=>by
  rw [jR] at h
  split at h
  ·cases h;exact hacc
  split at h
  ·split at h
   ·cases h
   obtain ⟨q,hq,h⟩:=ai h;obtain ⟨q1,q2⟩:=Dg ht hq;refine tM f q2 (fun s hs=>?_) h;rcases List.mem_append.1 hs with hs|hs
   ·exact hacc s hs
   ·rw [List.mem_singleton.1 hs];exact q1
  ·cases h
theorem Cn:∀{l:List (ByteArray×ByteArray)},(∀q∈l,aF q.1=true∧bJ q.2 3=true)→qq l=0
 |[],_=>rfl
 |q::r,h=>by
  unfold qq;obtain ⟨h1,h2⟩:=h q List.mem_cons_self;refine iM ?_ (Cn fun y hy=>h y (List.mem_cons_of_mem _ hy));unfold prF;rw [h1,h2];rfl
theorem I8 {s:Sg}(h:SgP s):sgH s=0:=by
 have:=h.pl;unfold sgH;rw [h.nm,Cn h.ps,decide_eq_false (by omega)]
 rfl
theorem CH:∀{p:List Sg} {i m:Int},(∀s∈p,SgP s)→m+pgQ p≤300→sR p i m=.ok (m+pgQ p)
 |[],i,m,_,_=>by
  show Except.ok m=Except.ok (m+((0:Nat):Int))
  congr 1
  omega
 |s::r,i,m,h,hm=>by
  have hQ:pgQ (s::r)=dh s.body+pgQ r:=by unfold pgQ;rw [List.map_cons,List.sum_cons]
  rw [hQ] at hm ⊢;have h1:=h s List.mem_cons_self;unfold sR;rw [I8 h1,if_neg (fun h=>h rfl)];have e1:=vF s.body (deep:=1) (m:=m) h1.body (by omega)
  have e1:hY s.body m 1=_:=e1;rw [e1,kJ,CH (fun y hy=>h y (List.mem_cons_of_mem _ hy)) (by omega)]
  congr 1
  omega
theorem gV {s:ByteArray}(h:aF s=true):okN s:=by
 unfold aF cK at h;simp only [Bool.and_eq_true,decide_eq_true_eq] at h;unfold okN;omega
theorem ty_N {s:ByteArray}(h:bJ s 3=true):okN s:=by
 unfold bJ at h;rw [decide_eq_true_eq] at h;unfold okN;omega
theorem sQ:okN e0:=by unfold okN;decide
theorem Ka:∀{x:Ex},Xw x→yf x:=by
 intro x h
 induction h with
 |num _ _=>exact ff.2 ⟨sQ,trivial⟩
 |name hs=>exact ff.2 ⟨gV hs,trivial⟩
 |neg _ ih=>exact ff.2 ⟨sQ,ih,trivial⟩
 |two _ _ _ _ iha ihb=>exact ff.2 ⟨sQ,iha,ihb,trivial⟩
theorem rU:∀{l:List Ex},(∀x∈l,XwL x)→il l
 |[],_=>trivial
 |x::r,h=>⟨Ka (h x List.mem_cons_self).1,rU fun y hy=>h y (List.mem_cons_of_mem _ hy)⟩
theorem sw_N {deep:Nat}{x:St}(h:Sw deep x):okN x.a∧okN x.b∧okN x.t∧il x.e:=by
 cases h with
 |let_ hd hn hx=>exact ⟨gV hn,sQ,sQ,rU (rW hx)⟩
 |emit hx=>exact ⟨sQ,sQ,sQ,rU (rW hx)⟩
 |chan ha hb hty h0 h1=>exact ⟨gV ha,gV hb,ty_N hty,trivial⟩
 |clone ha hb=>exact ⟨gV ha,gV hb,sQ,trivial⟩
 |send ha hx=>exact ⟨gV ha,sQ,sQ,rU (rW hx)⟩
 |one hd ha=>exact ⟨gV ha,sQ,sQ,trivial⟩
 |spawn ha hl hx=>exact ⟨gV ha,sQ,sQ,rU hx⟩
 |take ha hb hd hbd hel=>exact ⟨gV ha,gV hb,sQ,trivial⟩
 |for_ ha hb hd hbd=>exact ⟨gV ha,gV hb,sQ,trivial⟩
 |rep hx hd hbd=>exact ⟨sQ,sQ,sQ,rU (rW hx)⟩
 |if_ hx hd hbd hel=>exact ⟨sQ,sQ,sQ,rU (rW hx)⟩
mutual
theorem Kd:∀(x:St) {deep:Nat},Sw deep x→y8 x
 |.mk d at_ a b t n e body els,deep,h=>by
  obtain ⟨h1,h2,_⟩:=sw_H h;obtain ⟨n1,n2,n3,n4⟩:=sw_N h;exact ⟨n1,n2,n3,n4,Aa body h1,Aa els h2⟩
theorem Aa:∀(l:List St) {deep:Nat},(∀y∈l,Sw deep y)→dK l
 |[],_,_=>trivial
 |x::r,deep,h=>⟨Kd x (h x List.mem_cons_self),Aa r fun y hy=>h y (List.mem_cons_of_mem _ hy)⟩
end
theorem Dk {e:Int}{ts:List Tok}{p:List Sg}(ht:ib ts)(hl:ts.length≤12000)(h:oU e ts=.ok p):Small p∧∃n,aV p=.ok n:=by
 have hsg:∀s∈p,SgP s:=tM _ ht (fun s hs=>absurd hs List.not_mem_nil) h;obtain ⟨_,m,_,_,h3,h4,h5,h6⟩:=De (e':=0) (y:=[]) h;obtain ⟨hN,_⟩:=DD h;refine ⟨⟨by omega,fun s hs=>?_,?_⟩,m,?_⟩
 ·have:=hsg s hs;exact ⟨gV this.nm,by have:=this.pl;omega,fun q hq=>⟨gV (this.ps q hq).1,ty_N (this.ps q hq).2⟩,Aa _ this.body⟩
 ·have:(p.map fun s=>br s.body).sum≤Eh p:=by
   unfold Eh;exact Nat.le_refl _
  omega
 ·unfold aV;rw [if_neg (fun hh=>h5 (List.eq_nil_of_length_eq_zero hh)),if_neg (by omega),CH hsg (by omega),h4]
  congr 1
  omega
end Go.Proofs.YtkeeboomikkojaaGreatDoor
