import Derived.Test.YtkeeboomikkojaaGreatDoorRi1
import Derived.Test.YtkeeboomikkojaaGreatDoorRy2
import Derived.Test.YtkeeboomikkojaaGreatDoorRy1
import Derived.Test.YtkeeboomikkojaaGreatDoorRx4
namespace Go.Proofs.YtkeeboomikkojaaGreatDoor
open Go Go.Sx Go.Sx.Tk Go.Sx.Rn Go.Proofs.YtkeeboomikkojaaGreatDoor.Sx
def kn (l:List Tok):Prop:=∀t∈l,O7 t
theorem kn.tail {l:List Tok}(h:kn l):kn l.tail:=fun t ht=>h t (List.mem_of_mem_tail ht)
theorem kn.cdr {t:Tok}{r:List Tok}(h:kn (t::r)):kn r:=fun u hu=>h u (Q9 _ hu)
def Xg (n:Nat)(r:Ex×Nat×List Tok):Prop:=Xw r.1∧r.2.1=n+exN r.1∧kn r.2.2
theorem ME (n:Int):exN (nX n)=1:=by
 unfold nX exN cZ;rfl
theorem Iw (s:ByteArray):exN (fI s)=1:=by
 unfold fI exN cZ;rfl
theorem xwf (e:Int):∀f:Nat,(∀{o n l r},kn l→rK e f o n l=.ok r→Xg n r)∧(∀{o n l r},kn l→qM e f o n l=.ok r→Xg n r)∧(∀{o x n l r},kn l→Xw x→rE e f o x n l=.ok r→Xw r.1∧r.2.1+exN x=n+exN r.1∧kn r.2.2) ∧
  (∀{o n l r},kn l→fU e f o n l=.ok r→Xg n r)∧(∀{o x n l r},kn l→Xw x→fZ e f o x n l=.ok r→Xw r.1∧r.2.1+exN x=n+exN r.1∧kn r.2.2)∧(∀{o n l r},kn l→cx e f o n l=.ok r→Xg n r):=by
 intro f
 induction f with
 |zero =>
  refine ⟨?_,?_,?_,?_,?_,?_⟩
  ·intro o n l r _ h;unfold rK at h;cases h
  ·intro o n l r _ h;unfold qM at h;cases h
  ·intro o x n l r _ _ h;unfold rE at h;cases h
  ·intro o n l r _ h;unfold fU at h;cases h
  ·intro o x n l r _ _ h;unfold fZ at h;cases h
  ·intro o n l r _ h;unfold cx at h;cases h
 |succ f ih =>
  obtain ⟨i1,i2,i3,i4,i5,i6⟩:=ih;refine ⟨?_,?_,?_,?_,?_,?_⟩
  ·intro o n l r ht h;unfold rK at h;obtain ⟨a,ha,h⟩:=aj h;obtain ⟨a1,a2,a3⟩:=i2 ht ha
   split at h
   ·obtain ⟨b,hb,h⟩:=aj h;obtain ⟨b1,b2,b3⟩:=i2 a3.tail hb;cases h;exact ⟨.T (by decide) (by decide) a1 b1,by show b.2.1+1=n+exN (bR 7 a.1 b.1);rw [pT];omega,b3⟩
   split at h
   ·obtain ⟨b,hb,h⟩:=aj h;obtain ⟨b1,b2,b3⟩:=i2 a3.tail hb;cases h;exact ⟨.T (by decide) (by decide) a1 b1,by show b.2.1+1=n+exN (bR 8 a.1 b.1);rw [pT];omega,b3⟩
   ·cases h;exact ⟨a1,a2,a3⟩
  ·intro o n l r ht h;unfold qM at h;obtain ⟨a,ha,h⟩:=aj h;obtain ⟨a1,a2,a3⟩:=i4 ht ha;obtain ⟨b1,b2,b3⟩:=i3 a3 a1 h;exact ⟨b1,by omega,b3⟩
  ·intro o x n l r ht hx h;unfold rE at h
   split at h
   ·obtain ⟨a,ha,h⟩:=aj h;obtain ⟨a1,a2,a3⟩:=i4 ht.tail ha;obtain ⟨b1,b2,b3⟩:=i3 a3 (.T (by decide) (by decide) hx a1) h
    rw [pT] at b2;exact ⟨b1,by omega,b3⟩
   split at h
   ·obtain ⟨a,ha,h⟩:=aj h;obtain ⟨a1,a2,a3⟩:=i4 ht.tail ha;obtain ⟨b1,b2,b3⟩:=i3 a3 (.T (by decide) (by decide) hx a1) h
    rw [pT] at b2;exact ⟨b1,by omega,b3⟩
   ·cases h;exact ⟨hx,rfl,ht⟩
  ·intro o n l r ht h;unfold fU at h;obtain ⟨a,ha,h⟩:=aj h;obtain ⟨a1,a2,a3⟩:=i6 ht ha;obtain ⟨b1,b2,b3⟩:=i5 a3 a1 h;exact ⟨b1,by omega,b3⟩
  ·intro o x n l r ht hx h;unfold fZ at h
   split at h
   ·obtain ⟨a,ha,h⟩:=aj h;obtain ⟨a1,a2,a3⟩:=i6 ht.tail ha;obtain ⟨b1,b2,b3⟩:=i5 a3 (.T (by decide) (by decide) hx a1) h
    rw [pT] at b2;exact ⟨b1,by omega,b3⟩
   ·cases h;exact ⟨hx,rfl,ht⟩
  ·intro o n l r ht h;unfold cx at h
   split at h
   ·split at h
    ·cases h
    obtain ⟨a,ha,h⟩:=aj h;obtain ⟨a1,a2,a3⟩:=i1 ht.tail ha
    split at h
    ·cases h;exact ⟨a1,a2,a3.tail⟩
    ·cases h
   split at h
   ·split at h
    ·cases h
    obtain ⟨a,ha,h⟩:=aj h;obtain ⟨a1,a2,a3⟩:=i6 ht.tail ha;cases h;exact ⟨.neg a1,by show a.2.1=n+exN (px a.1);rw [Hr];omega,a3⟩
   split at h
   ·cases h
   ·rename_i t r' _ _;have htk:=ht t Qg
    split at h
    ·rename_i hk;cases h;rcases htk with h1|⟨h1,_⟩|⟨_,_,h2,h3⟩|⟨h1,_⟩
     ·rw [hk] at h1;cases h1
     ·rw [hk] at h1;cases h1
     ·exact ⟨.num h2 h3,by show n+1=n+exN (nX t.n);rw [ME],ht.cdr⟩
     ·rw [hk] at h1;cases h1
    split at h
    ·rename_i hk;cases h;rcases htk with h1|⟨_,h2⟩|⟨h1,_⟩|⟨h1,_⟩
     ·rw [hk] at h1;cases h1
     ·exact ⟨.name h2,by show n+1=n+exN (fI t.text);rw [Iw],ht.cdr⟩
     ·rw [hk] at h1;cases h1
     ·rw [hk] at h1;cases h1
    ·cases h
theorem np {e:Int}{l:List Tok}{q:Ex×List Tok}(ht:kn l)(h:iW e l=.ok q):XwL q.1∧kn q.2:=by
 cases l with
 |nil=>cases h
 |cons t r =>
  rw [fh] at h;obtain ⟨a,ha,h⟩:=aj h;obtain ⟨a1,a2,a3⟩:=(xwf e _).1 ht ha
  split at h
  ·cases h
  ·rename_i h20;cases h;exact ⟨⟨a1,by show exN a.1≤20;omega⟩,a3⟩
theorem cJ {e:Int}{l:List Tok}{q:ByteArray×List Tok}(ht:kn l)(h:eV e l=.ok q):aU q.1=true∧kn q.2:=by
 cases l with
 |nil=>cases h
 |cons t r =>
  rw [qs] at h
  split at h
  ·rename_i hk;cases h;rcases ht t Qg with h1|⟨_,h2⟩|⟨h1,_⟩|⟨h1,_⟩
   ·rw [hk] at h1;cases h1
   ·exact ⟨h2,ht.cdr⟩
   ·rw [hk] at h1;cases h1
   ·rw [hk] at h1;cases h1
  ·cases h
theorem LQ {e:Int}{l:List Tok}{q:Int×List Tok}(ht:kn l)(h:Em e l=.ok q):0≤q.1∧q.1 < 1000000000000000000∧kn q.2:=by
 cases l with
 |nil=>cases h
 |cons t r =>
  rw [vr] at h
  split at h
  ·rename_i hk;cases h;rcases ht t Qg with h1|⟨h1,_⟩|⟨_,_,h2,h3⟩|⟨h1,_⟩
   ·rw [hk] at h1;cases h1
   ·rw [hk] at h1;cases h1
   ·exact ⟨h2,h3,ht.cdr⟩
   ·rw [hk] at h1;cases h1
  ·cases h
theorem ju {e:Int}{s:List UInt8}{l r:List Tok}(ht:kn l)(h:bH e s l=.ok r):kn r:=by
 unfold bH at h
 split at h
 ·cases h;exact ht.tail
 ·cases h
theorem Mb {l:List UInt8}(hl:l.length≤3)(hc:∀c∈l,c=115∨c=114):cW (bs (l++[105])) 3=true:=by
 unfold cW;have hs:(bs (l++[105])).size=l.length+1:=by
  rw [aP];simp
 rw [decide_eq_true_eq,hs];have hcat:∀k,cAt (bs (l++[105])) k=(l++[105]).getD k 0:=fun k=>by
  unfold cAt;rw [aL]
 refine ⟨by omega,by omega,?_,fun k hk=>?_⟩
 ·rw [hcat,List.getD_eq_getElem?_getD];simp
 ·have hk:k < l.length:=by omega
  rw [hcat,List.getD_eq_getElem?_getD,Q5 hk,Q7 hk,Option.getD_some];exact hc _ (Qv hk)
theorem BD {e:Int}:∀{l:List Tok} {acc:List UInt8} {q:List UInt8×List Tok},kn l→acc.length≤3→(∀c∈acc,c=115∨c=114)→rR e acc l=.ok q→cW (bs q.1) 3=true∧kn q.2
 |[],acc,q,_,_,_,h=>by
  rw [yG] at h;cases h
 |t::r,acc,q,ht,hl,hc,h=>by
  rw [ir] at h
  split at h
  ·cases h;exact ⟨Mb hl hc,ht.cdr⟩
  split at h
  ·rename_i hT
   split at h
   ·cases h
   ·rename_i h3;have htl:∃c,(bytesOf t.text).take 1=[c]∧(c=115∨c=114):=by
     rw [Bool.or_eq_true] at hT;rcases hT with hT|hT
     ·exact ⟨115,by rw [ua hT];rfl,.inl rfl⟩
     ·exact ⟨114,by rw [ua hT];rfl,.inr rfl⟩
    obtain ⟨c,h1,h2⟩:=htl;rw [h1] at h;refine BD ht.cdr (by simp;omega) (fun d hd=>?_) h
    rcases Z3.1 hd with hd|hd
    ·exact hc d hd
    ·rw [Qf.1 hd];exact h2
  ·cases h
theorem Dp {e:Int}:∀{f:Nat} {acc:List Ex} {l:List Tok} {q:List Ex×List Tok},kn l→acc.length≤6→(∀x∈acc,XwL x)→eC e f acc l=.ok q→q.1.length≤6∧(∀x∈q.1,XwL x)∧kn q.2
 |0,_,_,_,_,_,_,h=>by
  unfold eC at h;cases h
 |f+1,acc,l,q,ht,hl,hx,h=>by
  unfold eC at h
  split at h
  ·cases h;exact ⟨hl,hx,ht.tail⟩
  ·obtain ⟨l1,hl1,h⟩:=aj h;have ht1:kn l1:=by
    split at hl1
    ·cases hl1;exact ht
    ·exact ju ht hl1
   split at h
   ·cases h
   ·rename_i h6;obtain ⟨x,hx1,h⟩:=aj h;obtain ⟨h1,h2⟩:=np ht1 hx1;refine Dp h2 (by simp;omega) (fun y hy=>?_) h
    rcases Z3.1 hy with hy|hy
    ·exact hx y hy
    ·rw [Qf.1 hy];exact h1
theorem Ce {e:Int}:∀{f:Nat} {acc:List (ByteArray×ByteArray)} {l:List Tok} {q:List (ByteArray×ByteArray)×List Tok},kn l→acc.length≤6→(∀x∈acc,aU x.1=true∧cW x.2 3=true)→fY e f acc l=.ok q→q.1.length≤6∧(∀x∈q.1,aU x.1=true∧cW x.2 3=true)∧kn q.2
 |0,_,_,_,_,_,_,h=>by
  unfold fY at h;cases h
 |f+1,acc,l,q,ht,hl,hx,h=>by
  unfold fY at h
  split at h
  ·cases h;exact ⟨hl,hx,ht.tail⟩
  ·obtain ⟨l1,hl1,h⟩:=aj h;have ht1:kn l1:=by
    split at hl1
    ·cases hl1;exact ht
    ·exact ju ht hl1
   split at h
   ·cases h
   ·rename_i h6;obtain ⟨x,hx1,h⟩:=aj h;obtain ⟨y,hy1,h⟩:=aj h;obtain ⟨h1,h2⟩:=cJ ht1 hx1;obtain ⟨h3,h4⟩:=BD h2 (by simp) (fun c hc=>absurd hc List.not_mem_nil) hy1
    refine Ce h4 (by simp;omega) (fun z hz=>?_) h
    rcases Z3.1 hz with hz|hz
    ·exact hx z hz
    ·rw [Qf.1 hz];exact ⟨h1,h3⟩
theorem EB {e:Int}{d:Nat}{l:List Tok}{q:Sh×List Tok}{at_:Int}{deep:Nat}(ht:kn l)(h1:1≤d)(h11:d < 11)(h:cz e d l=.ok q):Sw deep (.mk (d:Nat) at_ q.1.a q.1.b q.1.t q.1.n q.1.e [] [])∧kn q.2:=by
 have hd:d=1∨d=2∨d=3∨d=4∨d=5∨d=6∨d=7∨d=8∨d=9∨d=10:=by omega
 unfold cz at h;rcases hd with rfl|rfl|rfl|rfl|rfl|rfl|rfl|rfl|rfl|rfl
 ·rw [if_neg (by decide)] at h
  obtain ⟨a,ha,h⟩:=aj h;rw [if_pos (by decide)] at h
  obtain ⟨w,hw,h⟩:=aj h;obtain ⟨x,hx,h⟩:=aj h;obtain ⟨n1,t1⟩:=cJ ht ha;obtain ⟨x1,t2⟩:=np (ju t1 hw) hx;cases h;exact ⟨.let_ (.inl rfl) n1 x1,t2⟩
 ·rw [if_neg (by decide)] at h
  obtain ⟨a,ha,h⟩:=aj h;rw [if_pos (by decide)] at h
  obtain ⟨w,hw,h⟩:=aj h;obtain ⟨x,hx,h⟩:=aj h;obtain ⟨n1,t1⟩:=cJ ht ha;obtain ⟨x1,t2⟩:=np (ju t1 hw) hx;cases h;exact ⟨.let_ (.inr rfl) n1 x1,t2⟩
 ·rw [if_pos rfl] at h;obtain ⟨x,hx,h⟩:=aj h;obtain ⟨x1,t2⟩:=np ht hx;cases h;exact ⟨.emit x1,t2⟩
 ·rw [if_neg (by decide)] at h
  obtain ⟨a,ha,h⟩:=aj h;rw [if_neg (by decide),if_pos rfl] at h
  obtain ⟨b,hb,h⟩:=aj h;obtain ⟨ty,hty,h⟩:=aj h;obtain ⟨n,hn,h⟩:=aj h;obtain ⟨n1,t1⟩:=cJ ht ha;obtain ⟨n2,t2⟩:=cJ t1 hb;obtain ⟨y1,t3⟩:=BD t2 (by simp) (fun c hc=>absurd hc List.not_mem_nil) hty
  obtain ⟨m1,m2,t4⟩:=LQ t3 hn;cases h;exact ⟨.chan n1 n2 y1 m1 m2,t4⟩
 ·rw [if_neg (by decide)] at h
  obtain ⟨a,ha,h⟩:=aj h;rw [if_neg (by decide),if_neg (by decide),if_pos rfl] at h
  obtain ⟨b,hb,h⟩:=aj h;obtain ⟨n1,t1⟩:=cJ ht ha;obtain ⟨n2,t2⟩:=cJ t1 hb;cases h;exact ⟨.clone n1 n2,t2⟩
 ·rw [if_neg (by decide)] at h
  obtain ⟨a,ha,h⟩:=aj h;rw [if_neg (by decide),if_neg (by decide),if_neg (by decide),if_pos rfl] at h
  obtain ⟨x,hx,h⟩:=aj h;obtain ⟨n1,t1⟩:=cJ ht ha;obtain ⟨x1,t2⟩:=np t1 hx;cases h;exact ⟨.send n1 x1,t2⟩
 ·rw [if_neg (by decide)] at h
  obtain ⟨a,ha,h⟩:=aj h;rw [if_neg (by decide),if_neg (by decide),if_neg (by decide),if_neg (by decide),if_neg (by decide)] at h
  obtain ⟨n1,t1⟩:=cJ ht ha;cases h;exact ⟨.one (.inl rfl) n1,t1⟩
 ·rw [if_neg (by decide)] at h
  obtain ⟨a,ha,h⟩:=aj h;rw [if_neg (by decide),if_neg (by decide),if_neg (by decide),if_neg (by decide),if_neg (by decide)] at h
  obtain ⟨n1,t1⟩:=cJ ht ha;cases h;exact ⟨.one (.inr (.inl rfl)) n1,t1⟩
 ·rw [if_neg (by decide)] at h
  obtain ⟨a,ha,h⟩:=aj h;rw [if_neg (by decide),if_neg (by decide),if_neg (by decide),if_neg (by decide),if_neg (by decide)] at h
  obtain ⟨n1,t1⟩:=cJ ht ha;cases h;exact ⟨.one (.inr (.inr rfl)) n1,t1⟩
 ·rw [if_neg (by decide)] at h
  obtain ⟨a,ha,h⟩:=aj h;rw [if_neg (by decide),if_neg (by decide),if_neg (by decide),if_neg (by decide),if_pos rfl] at h
  obtain ⟨w,hw,h⟩:=aj h;obtain ⟨x,hx,h⟩:=aj h;obtain ⟨n1,t1⟩:=cJ ht ha;obtain ⟨a1,a2,t2⟩:=Dp (ju t1 hw) (by simp) (fun y hy=>absurd hy List.not_mem_nil) hx
  cases h;exact ⟨.spawn n1 a1 a2,t2⟩
theorem Jp {e:Int}{d:Nat}{l:List Tok}{q:Sh×List Tok}(ht:kn l)(h11:11≤d)(h14:d≤14)(h:iD e d l=.ok q):kn q.2∧∀{at_:Int} {deep:Nat} {body els:List St},deep < 8→(∀y∈body,Sw (deep+1) y)→(∀y∈els,Sw (deep+1) y)→(d=12∨d=13→els=[])→Sw deep (.mk (d:Nat) at_ q.1.a q.1.b ⟨#[]⟩ 0 q.1.e body els):=by
 have hd:d=11∨d=12∨d=13∨d=14:=by omega
 unfold iD at h;rcases hd with rfl|rfl|rfl|rfl
 ·rw [if_pos (by decide)] at h
  obtain ⟨a,ha,h⟩:=aj h;obtain ⟨w,hw,h⟩:=aj h;obtain ⟨b,hb,h⟩:=aj h;obtain ⟨n1,t1⟩:=cJ ht ha;obtain ⟨n2,t2⟩:=cJ (ju t1 hw) hb;cases h;exact ⟨t2,fun h1 h2 h3 _=>.take n1 n2 h1 h2 h3⟩
 ·rw [if_pos (by decide)] at h
  obtain ⟨a,ha,h⟩:=aj h;obtain ⟨w,hw,h⟩:=aj h;obtain ⟨b,hb,h⟩:=aj h;obtain ⟨n1,t1⟩:=cJ ht ha;obtain ⟨n2,t2⟩:=cJ (ju t1 hw) hb;cases h;refine ⟨t2,fun h1 h2 _ h4=>?_⟩;rw [h4 (.inl rfl)];exact .for_ n1 n2 h1 h2
 ·rw [if_neg (by decide)] at h
  obtain ⟨x,hx,h⟩:=aj h;obtain ⟨x1,t2⟩:=np ht hx;cases h;refine ⟨t2,fun h1 h2 _ h4=>?_⟩;rw [h4 (.inr rfl)];exact .rep x1 h1 h2
 ·rw [if_neg (by decide)] at h
  obtain ⟨x,hx,h⟩:=aj h;obtain ⟨x1,t2⟩:=np ht hx;cases h;exact ⟨t2,fun h1 h2 h3 _=>.if_ x1 h1 h2 h3⟩
theorem HS (e:Int):∀f:Nat,(∀{deep n l r},kn l→deep≤8→bQ e f deep n l=.ok r→deep < 8∧(∀y∈r.1,Sw (deep+1) y)∧kn r.2.2)∧(∀{deep acc n l r},kn l→deep≤8→(∀y∈acc,Sw deep y)→dC e f deep acc n l=.ok r→(∀y∈r.1,Sw deep y)∧kn r.2.2)∧(∀{deep n l r},kn l→deep≤8→eY e f deep n l=.ok r→Sw deep r.1∧kn r.2.2):=by
 intro f
 induction f with
 |zero =>
  refine ⟨?_,?_,?_⟩
  ·intro deep n l r _ _ h;unfold bQ at h;cases h
  ·intro deep acc n l r _ _ _ h;unfold dC at h;cases h
  ·intro deep n l r _ _ h;unfold eY at h;cases h
 |succ f ih =>
  obtain ⟨i1,i2,i3⟩:=ih;refine ⟨?_,?_,?_⟩
  ·intro deep n l r ht hd h;rw [iw] at h
   split at h
   ·split at h
    ·cases h
    ·rename_i h8;obtain ⟨a,b⟩:=i2 ht.tail (by omega) (fun y hy=>absurd hy List.not_mem_nil) h
     exact ⟨by omega,a,b⟩
   ·cases h
  ·intro deep acc n l r ht hd hacc h;rw [lN] at h
   split at h
   ·cases h;exact ⟨hacc,ht.tail⟩
   ·obtain ⟨x,hx,h⟩:=aj h;obtain ⟨h1,h2⟩:=i3 ht hd hx;refine i2 h2 hd (fun y hy=>?_) h;rcases Z3.1 hy with hy|hy
    ·exact hacc y hy
    ·rw [Qf.1 hy];exact h1
  ·intro deep n l r ht hd h;cases l with
   |nil =>
    rw [jP] at h;cases h
   |cons t l =>
    rw [gO] at h
    split at h
    ·rename_i hw
     split at h
     ·cases h
     have hle:=KI (bytesOf t.text)
     split at h
     ·rename_i h11;obtain ⟨s,hs,h⟩:=aj h;obtain ⟨w,hw2,h⟩:=aj h;obtain ⟨s1,s2⟩:=EB (at_:=t.at_) (deep:=deep) ht.cdr (by omega) h11 hs
      cases h;exact ⟨s1,ju s2 hw2⟩
     ·rename_i h11;obtain ⟨s,hs,h⟩:=aj h;obtain ⟨b,hb,h⟩:=aj h;obtain ⟨s1,s2⟩:=Jp ht.cdr (by omega) hle hs
      obtain ⟨b1,b2,b3⟩:=i1 s1 hd hb
      split at h
      ·rename_i hel;obtain ⟨c,hc,h⟩:=aj h;obtain ⟨c1,c2,c3⟩:=i1 b3.tail hd hc;cases h;refine ⟨s2 b1 b2 c2 fun hh=>?_,c3⟩;rcases hel.1 with h1|h1<;>omega
      ·cases h;exact ⟨s2 b1 b2 (fun y hy=>absurd hy List.not_mem_nil) fun _=>rfl,b3⟩
    ·cases h
theorem kC {a b:Int}(ha:a=0)(hb:b=0):orF a b=0:=by rw [ha,ov,hb]
theorem E2:emp (⟨#[]⟩:ByteArray):=by unfold emp;rfl
theorem CP {x:Ex}(h1:1≤x.op∧x.op≤8)(h2:(x.l.length:Int)=fD x.op)(h3:x.n≠0→x.op=1)(h4:¬emp x.nm→x.op=2)(h5:x.op=2→aU x.nm=true)(h6:0≤x.n∧x.n < 1000000000000000000):exH x=0:=by
 unfold exH;rw [if_neg,if_neg,if_neg (by omega)]
 ·rintro ⟨g1,g2⟩;rw [h5 g1] at g2;cases g2
 ·rintro (g|g|g|⟨g1,g2⟩|⟨g1,g2⟩)
  ·omega
  ·omega
  ·exact g h2
  ·exact g2 (h3 g1)
  ·exact g2 (h4 g1)
theorem zN0:0≤(0:Int)∧(0:Int) < 1000000000000000000:=by decide
theorem xw_F:∀{x:Ex},Xw x→exF x=0:=by
 intro x h
 induction h with
 |@num n h0 h1 =>
  rw [nw];refine kC (CP (x:=nX n) ⟨by show (1:Int)≤1;decide,by show (1:Int)≤8;decide⟩ rfl (fun _=>rfl) (fun g=>absurd E2 g) (fun g=>absurd (show (1:Int)=2 from g) (by decide)) ⟨h0,h1⟩) rfl
 |@name s hs =>
  rw [nw];exact kC (CP (x:=fI s) ⟨by show (1:Int)≤2;decide,by show (2:Int)≤8;decide⟩ rfl (fun g=>absurd rfl g) (fun _=>rfl) (fun _=>hs) zN0) rfl
 |@neg a _ ih =>
  rw [nw];refine kC (CP (x:=px a) ⟨by show (1:Int)≤3;decide,by show (3:Int)≤8;decide⟩ rfl (fun g=>absurd rfl g) (fun g=>absurd E2 g) (fun g=>absurd (show (3:Int)=2 from g) (by decide)) zN0) ?_
  show orF (exF a) (pI [])=0;exact kC ih rfl
 |@T op a b h4 h8 _ _ iha ihb =>
  rw [nw];have hw:fD op=2:=by unfold fD;rw [if_neg (by omega),if_neg (by omega)]
  refine kC (CP (x:=bR op a b) ⟨by show 1≤op;omega,h8⟩ (by show _=fD op;rw [hw];rfl) (fun g=>absurd rfl g) (fun g=>absurd E2 g) (fun g=>by have:op=2:=g;omega) zN0) ?_
  show orF (exF a) (orF (exF b) (pI []))=0;exact kC iha (kC ihb rfl)
theorem Ju:∀{l:List Ex},(∀x∈l,XwL x)→esF l=0
 |[],_=>rfl
 |x::r,h=>by
  unfold esF;refine kC ?_ (Ju fun y hy=>h y (Q9 _ hy));obtain ⟨h1,h2⟩:=h x Qg;unfold eF1;rw [if_neg (by omega),ov]
  exact xw_F h1
theorem kF {x:St}{m deep:Int}{f:Fm}(h300:m < 300)(hf:bV x.d=some f)(hb:sY f x=false)(he:x.e.length≤6)(hs:stR f x deep=0):stH x m deep=0:=by
 unfold stH;rw [if_neg (by omega),hf]
 show (if sY f x then 5 else if 6 < x.e.length then 8 else stR f x deep)=0
 rw [hb,if_neg Qe,if_neg (by omega),hs]
theorem rG {s:ByteArray}(h:aU s=true):nmF true s=0:=by
 unfold nmF;rw [h];rfl
theorem tn:nmF false e0=0:=by decide
theorem kD {f:Fm}{x:St}{deep:Int}(h1:nmF f.a x.a=0)(h2:nmF f.b x.b=0)(h3:(f.t&&!cW x.t 3)=false)(h4:0≤x.n∧x.n < 1000000000000000000)(h5:∀y∈x.e,XwL y)(h6:f.body=true→deep < 8):stR f x deep=0:=by
 unfold stR;refine kC h1 (kC h2 (kC ?_ (kC ?_ (kC (Ju h5) ?_))))
 ·rw [h3];rfl
 ·rw [Z0 (by omega)]
  rfl
 ·cases hb:f.body with
  |false=>rfl
  |true =>
   have:=h6 hb;rw [Z0 (by omega)]
   rfl
theorem uB {x:Ex}(h:XwL x):∀y∈[x],XwL y:=fun y hy=>by rw [Qf.1 hy];exact h
theorem Bp:∀y∈([]:List Ex),XwL y:=fun y hy=>absurd hy List.not_mem_nil
theorem rm {deep:Nat}:∀y∈([]:List St),Sw deep y:=fun y hy=>absurd hy List.not_mem_nil
theorem tyk {s:ByteArray}(h:cW s 3=true):(true&&!cW s 3)=false:=by
 rw [h];rfl
theorem sw_H {deep:Nat}{x:St}(h:Sw deep x):(∀y∈x.body,Sw (deep+1) y)∧(∀y∈x.els,Sw (deep+1) y)∧∀m:Int,m < 300→stH x m deep=0:=by
 cases h with
 |@let_ _ _ _ _ x hd hn hx =>
  refine ⟨rm,rm,fun m hm=>?_⟩;rcases hd with rfl|rfl
  ·exact kF hm rfl rfl (by show 1≤6;decide) (kD (rG hn) tn rfl zN0 (uB hx) fun h=>by cases h)
  ·exact kF hm rfl rfl (by show 1≤6;decide) (kD (rG hn) tn rfl zN0 (uB hx) fun h=>by cases h)
 |@emit _ _ x hx=>exact ⟨rm,rm,fun m hm=>kF hm rfl rfl (by show 1≤6;decide) (kD tn tn rfl zN0 (uB hx) fun h=>by cases h)⟩
 |chan ha hb hty h0 h1=>exact ⟨rm,rm,fun m hm=>kF hm rfl rfl (by show 0≤6;decide) (kD (rG ha) (rG hb) (tyk hty) ⟨h0,h1⟩ Bp fun h=>by cases h)⟩
 |clone ha hb=>exact ⟨rm,rm,fun m hm=>kF hm rfl rfl (by show 0≤6;decide) (kD (rG ha) (rG hb) rfl zN0 Bp fun h=>by cases h)⟩
 |@send _ _ _ x ha hx=>exact ⟨rm,rm,fun m hm=>kF hm rfl rfl (by show 1≤6;decide) (kD (rG ha) tn rfl zN0 (uB hx) fun h=>by cases h)⟩
 |one hd ha =>
  refine ⟨rm,rm,fun m hm=>?_⟩;rcases hd with rfl|rfl|rfl
  ·exact kF hm rfl rfl (by show 0≤6;decide) (kD (rG ha) tn rfl zN0 Bp fun h=>by cases h)
  ·exact kF hm rfl rfl (by show 0≤6;decide) (kD (rG ha) tn rfl zN0 Bp fun h=>by cases h)
  ·exact kF hm rfl rfl (by show 0≤6;decide) (kD (rG ha) tn rfl zN0 Bp fun h=>by cases h)
 |@spawn _ _ _ es ha hl hx=>exact ⟨rm,rm,fun m hm=>kF hm rfl rfl hl (kD (rG ha) tn rfl zN0 hx fun h=>by cases h)⟩
 |take ha hb hd hbd hel=>exact ⟨hbd,hel,fun m hm=>kF hm rfl rfl (by show 0≤6;decide) (kD (rG ha) (rG hb) rfl zN0 Bp fun _=>by omega)⟩
 |for_ ha hb hd hbd=>exact ⟨hbd,rm,fun m hm=>kF hm rfl rfl (by show 0≤6;decide) (kD (rG ha) (rG hb) rfl zN0 Bp fun _=>by omega)⟩
 |@rep _ _ x _ hx hd hbd=>exact ⟨hbd,rm,fun m hm=>kF hm rfl rfl (by show 1≤6;decide) (kD tn tn rfl zN0 (uB hx) fun _=>by omega)⟩
 |@if_ _ _ x _ _ hx hd hbd hel=>exact ⟨hbd,hel,fun m hm=>kF hm rfl rfl (by show 1≤6;decide) (kD tn tn rfl zN0 (uB hx) fun _=>by omega)⟩
mutual
theorem Nx:∀(x:St) {deep:Nat} {m:Int},Sw deep x→m+stQ x≤300→stF x m deep=.ok (m+stQ x)
 |.mk d at_ a b t n e body els,deep,m,h,hm=>by
  obtain ⟨h1,h2,h3⟩:=sw_H h;have hQ:stQ (.mk d at_ a b t n e body els)=1+eS body+eS els:=zX _;rw [hQ] at hm ⊢;have e1:=xJ body (deep:=deep+1) (m:=m+1) h1 (by omega)
  have e2:=xJ els (deep:=deep+1) (m:=m+1+eS body) h2 (by omega)
  rw [Int.natCast_add] at e1 e2;have e1:kg body (m+1) ((deep:Int)+1)=_:=e1;have e2:kg els (m+1+eS body) ((deep:Int)+1)=_:=e2;rw [Ag,h3 m (by omega),if_neg (fun h=>h rfl)]
  show sD (kg body (m+1) ((deep:Int)+1)) (fun n=>kg els n ((deep:Int)+1))=_;rw [e1,mR,e2]
  congr 1
  omega
theorem xJ:∀(l:List St) {deep:Nat} {m:Int},(∀y∈l,Sw deep y)→m+eS l≤300→kg l m deep=.ok (m+eS l)
 |[],deep,m,_,_=>by
  rw [qG];show Except.ok m=Except.ok (m+((0:Nat):Int))
  congr 1
  omega
 |x::r,deep,m,h,hm=>by
  rw [sF] at hm ⊢;have e1:=Nx x (deep:=deep) (m:=m) (h x Qg) (by omega)
  have e2:=xJ r (deep:=deep) (m:=m+stQ x) (fun y hy=>h y (Q9 _ hy)) (by omega)
  rw [mu,e1,mR,e2]
  congr 1
  omega
end
structure SgP (s:Sg):Prop where
 nm:aU s.nm=true
 pl:s.ps.length≤6
 ps:∀q∈s.ps,aU q.1=true∧cW q.2 3=true
 body:∀y∈s.body,Sw 1 y
theorem Ez {e:Int}{n:Nat}{l:List Tok}{r:Sg×Nat×List Tok}(ht:kn l)(h:iE e n l=.ok r):SgP r.1∧kn r.2.2:=by
 cases l with
 |nil=>cases h
 |cons t l =>
  rw [jD] at h;obtain ⟨a,ha,h⟩:=aj h;obtain ⟨w,hw,h⟩:=aj h;obtain ⟨ps,hps,h⟩:=aj h;obtain ⟨b,hb,h⟩:=aj h;obtain ⟨n1,t1⟩:=cJ ht.cdr ha;obtain ⟨p1,p2,t2⟩:=Ce (ju t1 hw) (by simp) (fun y hy=>absurd hy List.not_mem_nil) hps
  obtain ⟨_,b1,t3⟩:=(HS e _).1 t2 (by omega) hb
  cases h;exact ⟨⟨n1,p1,p2,b1⟩,t3⟩
theorem xc {e:Int}:∀(f:Nat) {n:Nat} {acc p:List Sg} {l:List Tok},kn l→(∀s∈acc,SgP s)→dw e f acc n l=.ok p→∀s∈p,SgP s
 |0,_,_,_,_,_,_,h=>by
  unfold dw at h;cases h
 |f+1,n,acc,p,l,ht,hacc,h=>by
  rw [mj] at h
  split at h
  ·cases h;exact hacc
  split at h
  ·split at h
   ·cases h
   obtain ⟨q,hq,h⟩:=aj h;obtain ⟨q1,q2⟩:=Ez ht hq;refine xc f q2 (fun s hs=>?_) h;rcases Z3.1 hs with hs|hs
   ·exact hacc s hs
   ·rw [Qf.1 hs];exact q1
  ·cases h
theorem GK:∀{l:List (ByteArray×ByteArray)},(∀q∈l,aU q.1=true∧cW q.2 3=true)→ti l=0
 |[],_=>rfl
 |q::r,h=>by
  unfold ti;obtain ⟨h1,h2⟩:=h q Qg;refine kC ?_ (GK fun y hy=>h y (Q9 _ hy));unfold prF;rw [h1,h2];rfl
theorem No {s:Sg}(h:SgP s):sgH s=0:=by
 have:=h.pl;unfold sgH;rw [h.nm,GK h.ps,Z0 (by omega)]
 rfl
theorem F0:∀{p:List Sg} {i m:Int},(∀s∈p,SgP s)→m+pgQ p≤300→vE p i m=.ok (m+pgQ p)
 |[],i,m,_,_=>by
  show Except.ok m=Except.ok (m+((0:Nat):Int))
  congr 1
  omega
 |s::r,i,m,h,hm=>by
  have hQ:pgQ (s::r)=eS s.body+pgQ r:=by unfold pgQ;rw [List.map_cons,List.sum_cons]
  rw [hQ] at hm ⊢;have h1:=h s Qg;unfold vE;rw [No h1,if_neg (fun h=>h rfl)];have e1:=xJ s.body (deep:=1) (m:=m) h1.body (by omega)
  have e1:kg s.body m 1=_:=e1;rw [e1,mR,F0 (fun y hy=>h y (Q9 _ hy)) (by omega)]
  congr 1
  omega
theorem j4 {s:ByteArray}(h:aU s=true):okN s:=by
 unfold aU ei at h;simp only [Qq,decide_eq_true_eq] at h;unfold okN;omega
theorem ty_N {s:ByteArray}(h:cW s 3=true):okN s:=by
 unfold cW at h;rw [decide_eq_true_eq] at h;unfold okN;omega
theorem vw:okN e0:=by unfold okN;decide
theorem PC:∀{x:Ex},Xw x→Dw x:=by
 intro x h
 induction h with
 |num _ _=>exact gX.2 ⟨vw,trivial⟩
 |name hs=>exact gX.2 ⟨j4 hs,trivial⟩
 |neg _ ih=>exact gX.2 ⟨vw,ih,trivial⟩
 |T _ _ _ _ iha ihb=>exact gX.2 ⟨vw,iha,ihb,trivial⟩
theorem ux:∀{l:List Ex},(∀x∈l,XwL x)→lZ l
 |[],_=>trivial
 |x::r,h=>⟨PC (h x Qg).1,ux fun y hy=>h y (Q9 _ hy)⟩
theorem sw_N {deep:Nat}{x:St}(h:Sw deep x):okN x.a∧okN x.b∧okN x.t∧lZ x.e:=by
 cases h with
 |let_ hd hn hx=>exact ⟨j4 hn,vw,vw,ux (uB hx)⟩
 |emit hx=>exact ⟨vw,vw,vw,ux (uB hx)⟩
 |chan ha hb hty h0 h1=>exact ⟨j4 ha,j4 hb,ty_N hty,trivial⟩
 |clone ha hb=>exact ⟨j4 ha,j4 hb,vw,trivial⟩
 |send ha hx=>exact ⟨j4 ha,vw,vw,ux (uB hx)⟩
 |one hd ha=>exact ⟨j4 ha,vw,vw,trivial⟩
 |spawn ha hl hx=>exact ⟨j4 ha,vw,vw,ux hx⟩
 |take ha hb hd hbd hel=>exact ⟨j4 ha,j4 hb,vw,trivial⟩
 |for_ ha hb hd hbd=>exact ⟨j4 ha,j4 hb,vw,trivial⟩
 |rep hx hd hbd=>exact ⟨vw,vw,vw,ux (uB hx)⟩
 |if_ hx hd hbd hel=>exact ⟨vw,vw,vw,ux (uB hx)⟩
mutual
theorem Ph:∀(x:St) {deep:Nat},Sw deep x→Es x
 |.mk d at_ a b t n e body els,deep,h=>by
  obtain ⟨h1,h2,_⟩:=sw_H h;obtain ⟨n1,n2,n3,n4⟩:=sw_N h;exact ⟨n1,n2,n3,n4,Da body h1,Da els h2⟩
theorem Da:∀(l:List St) {deep:Nat},(∀y∈l,Sw deep y)→jk l
 |[],_,_=>trivial
 |x::r,deep,h=>⟨Ph x (h x Qg),Da r fun y hy=>h y (Q9 _ hy)⟩
end
theorem FC {e:Int}{ts:List Tok}{p:List Sg}(ht:kn ts)(hl:ts.length≤12000)(h:tc e ts=.ok p):Small p∧∃n,bX p=.ok n:=by
 have hsg:∀s∈p,SgP s:=xc _ ht (fun s hs=>absurd hs List.not_mem_nil) h;obtain ⟨_,m,_,_,h3,h4,h5,h6⟩:=FI (e':=0) (y:=[]) h;obtain ⟨hN,_⟩:=MK h;refine ⟨⟨by omega,fun s hs=>?_,?_⟩,m,?_⟩
 ·have:=hsg s hs;exact ⟨j4 this.nm,by have:=this.pl;omega,fun q hq=>⟨j4 (this.ps q hq).1,ty_N (this.ps q hq).2⟩,Da _ this.body⟩
 ·have:(p.map fun s=>cq s.body).sum≤IZ p:=by
   unfold IZ;exact Zc _
  omega
 ·unfold bX;rw [if_neg (fun hh=>h5 (List.eq_nil_of_length_eq_zero hh)),if_neg (by omega),F0 hsg (by omega),h4]
  congr 1
  omega
end Go.Proofs.YtkeeboomikkojaaGreatDoor
