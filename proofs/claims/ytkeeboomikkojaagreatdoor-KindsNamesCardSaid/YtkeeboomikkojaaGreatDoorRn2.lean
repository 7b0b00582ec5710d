import Derived.Test.YtkeeboomikkojaaGreatDoorRn1
import Derived.Test.YtkeeboomikkojaaGreatDoorY9
namespace Go.Proofs.YtkeeboomikkojaaGreatDoor
open Go Go.Sx Go.Sx.Tk Go.Sx.Rn Go.Proofs.YtkeeboomikkojaaGreatDoor.Sx
theorem G1 {a b:UInt8}:a=b↔a.toNat=b.toNat:=⟨fun h=>by rw [h],fun h=>UInt8.toNat.inj h⟩
def ck (s:ByteArray)(ends:Int):Bool:=decide (1≤s.size∧(s.size:Int) - 1≤ends∧cAt s (s.size - 1)=105∧∀k,k < s.size - 1→cAt s k=115∨cAt s k=114)
section
variable  {ω:Amb}
theorem CG (s:ByteArray)(ends:Int)(hs:s.size≤20000)(h:Hp)(X:XT) :
  aa Tryz.prog ω xb [.string s,.int .i64 ends] h (fun r h'=>r=.bool (ck s ends)∧h'=h) X:=by
 refine xc ω _ _ h _ X ?_;unfold rP;simp only [asS_str,asK_int];rw [i64_in (by omega) (by omega)]
 refine ⟨decide ¬(1≤s.size∧(s.size:Int) - 1≤ends∧cAt s (s.size - 1)=105),?_,fun _=>ae (fun hc=>?_) (fun hc=>?_)⟩
 ·refine ae (fun hc=>?_) (fun hc=>?_)
  ·have:=Qj hc;rw [Z7 (by omega)]
   exact ⟨rfl,trivial⟩
  have h1:=Qc hc;refine ae (fun hc=>?_) (fun hc=>?_)
  ·have:=Qj hc;rw [Z7 (by omega)]
   exact ⟨rfl,trivial⟩
  have h2:=Qc hc;refine ⟨by omega,by omega,?_,trivial⟩
  rw [show (s.size:Int) - 1=((s.size - 1:Nat):Int) by omega,cN]
  congr 1
  rw [Qz];simp only [Ze,ne_eq,decide_eq_true_eq,G1];rw [show UInt8.toNat 105=105 from rfl]
  omega
 ·refine ⟨?_,trivial⟩;have:=Qj hc;rw [ck,Z0];rintro ⟨h1,h2,h3,_⟩;exact this ⟨h1,h2,h3⟩
 have hh:=Decidable.not_not.1 (Qc hc);refine ⟨fun t h'=>∃k:Nat,t=.int .i64 k∧k≤s.size - 1∧(∀j,j < k→cAt s j=115∨cAt s j=114)∧h'=h,fun t _=>match t with|.int _ k=>s.size - k.toNat|_=>0,⟨0,rfl,by omega,by omega,rfl⟩,?_⟩
 rintro _ _ _ ⟨k,rfl,hk,hq,rfl⟩;simp only [asK_int,asI_int];refine ae (fun hc=>?_) (fun hc=>?_)
 rotate_left
 ·have hc:=Qc hc;obtain rfl:k=s.size - 1:=by omega
  exact ⟨by rw [ck,Z7 ⟨hh.1,hh.2.1,hh.2.2,hq⟩],trivial⟩
 have hkl:=Qj hc;refine ⟨decide ¬(cAt s k=115∨cAt s k=114),?_,fun _=>ae (fun hc=>?_) (fun hc=>?_)⟩
 ·rw [cN];refine ⟨by omega,by omega,ae (fun hc=>?_) (fun hc=>?_)⟩
  ·refine ⟨by omega,by omega,?_,trivial⟩
   congr 1
   rw [Qz];simp only [Ze,ne_eq,decide_eq_true_eq,G1] at hc ⊢;rw [show UInt8.toNat 115=115 from rfl,show UInt8.toNat 114=114 from rfl]
   omega
  ·refine ⟨?_,trivial⟩;rw [Z0];simp only [bne_eq_false_iff_eq] at hc;simp only [G1];rw [show UInt8.toNat 115=115 from rfl,show UInt8.toNat 114=114 from rfl]
   omega
 ·refine ⟨?_,trivial⟩;rw [ck,Z0];rintro ⟨_,_,_,h4⟩;exact Qj hc (h4 k (by omega))
 ·rw [i64_in (by omega) (by omega)]
  have hc:=Decidable.not_not.1 (Qc hc);refine ⟨⟨k+1,by simp,by omega,fun j hj=>?_,trivial⟩,by simp;omega⟩
  rcases Nat.lt_or_ge j k with h|h
  ·exact hq j h
  ·obtain rfl:j=k:=by omega
   exact hc
end
def orF (a b:Int):Int:=if a=0 then b else a
theorem nF (b:Int):orF 0 b=b:=rfl
theorem DF (a:Int):orF a 0=a:=by unfold orF;split<;>simp_all
theorem cT (a b c:Int):orF (orF a b) c=orF a (orF b c):=by unfold orF;by_cases h:a=0<;>simp [h]
theorem tT {a b:Int}(h:a≠0):orF a b=a:=if_neg h
def eO (op:Int):Int:=if op=1∨op=2 then 0 else if op=3 then 1 else 2
def emp (s:ByteArray):Prop:=bytesOf s=[]
instance  (s:ByteArray):Decidable (emp s):=inferInstanceAs (Decidable (_=_))
theorem eqE (s:ByteArray):(s.toList==ByteArray.toList ⟨#[]⟩)=decide (emp s):=eqS s _
def exH (x:Ex):Int :=
 if x.op < 1∨8 < x.op∨(x.l.length:Int)≠eO x.op∨(x.n≠0∧x.op≠1)∨(¬emp x.nm∧x.op≠2) then 5
 else if x.op=2∧aL x.nm=false then 4
 else if x.n < 0∨1000000000000000000≤x.n then 3 else 0
mutual
def exF:Ex→Int
 |.mk op nm n l=>orF (exH (.mk op nm n l)) (nP l)
def nP:List Ex→Int
 |[]=>0
 |x::r=>orF (exF x) (nP r)
end
theorem mn (x:Ex):exF x=orF (exH x) (nP x.l):=by cases x;rfl
theorem uK:∀(l:List Ex) (x:Ex),nP (l++[x])=orF (nP l) (exF x)
 |[],x=>by simp only [Z4,nP,DF,nF]
 |y::r,x=>by simp only [Qu,nP,uK,cT]
theorem eI (x:Ex)(w:Value):Value.cells (.agg (exC x w).toArray)=(exC x w).toArray:=rfl
section
variable  {ω:Amb}
theorem FV:∀(N:Nat) (x:Ex),exN x < N→∀(h:Hp) (w:Value) (left:Int),ExS h w x.l→0≤left→left≤100000→∀(X:XT),
  aa Tryz.prog ω vA [.agg (exC x w).toArray,.int .i64 left] h (fun r h'=>(∃z:Int,r=.int .i64 z∧z < left∧-100≤z∧(0≤z→z=left - exN x)∧(z < 0→left < exN x))∧KF h h') X:=by
 intro N
 induction N with
 |zero=>exact fun l hN=>absurd hN (Nat.not_lt_zero _)
 |succ N ih =>
  intro x hN h w left hw hl0 hl1 X;refine vi ω _ _ h _ X ?_;unfold qg;simp only [eI];rw [asK_int,i64_in (by omega) (by omega)]
  have hxe:=gA x;have hmax:=hw.max;have hb1:=ah (h:=h) (o:=.cells (exC x w).toArray 36 (0,0));have kp:=ar.push (S:=fun _=>False) h (.cells (exC x w).toArray 36 (0,0));generalize h.push (.cells (exC x w).toArray 36 (0,0))=h1 at *;refine ⟨fun v t h'=>∃(z:Int) (k:Nat),v=.int .i64 z∧t=.int .i64 k∧k≤x.l.length∧z < left∧-100≤z∧cw (x.l.take k)+cw (x.l.drop k)=cw x.l∧(0≤z→z=left - 1 - cw (x.l.take k))∧(z < 0→left - 1 < cw (x.l.take k))∧KF h1 h',fun _ t _=>match t with|.int _ k=>x.l.length - k.toNat|_=>0,
   ⟨left - 1,0,rfl,rfl,by omega,by omega,by omega,by simp [cw],by simp [cw],by simp [cw],ar.refl _ _⟩,?_⟩
  rintro _ _ _ h5 ⟨z,k,rfl,rfl,hk,hz1,hz2,hs,hz3,hz4,k1⟩;have hb5:=k1.get hb1 (by simp)
  have hw5:=hw.aC (kp.trans k1);refine ⟨decide (k < x.l.length∧0≤z),?_,fun _=>ae (fun hc=>?_) (fun hc=>?_)⟩
  ·refine lx hb5 (j:=3) rfl ?_;refine hw5.sl fun _ _=>?_;rw [asK_int,asK_int];refine ae (fun hc=>?_) (fun hc=>?_)
   ·have:=Qj hc;refine ⟨?_,trivial⟩
    congr 1
    rw [Qz];simp;omega
   ·have:=Qc hc;rw [Z0 (by omega)]
    exact ⟨rfl,trivial⟩
  rotate_left
  ·have hc:=Qc hc;refine ⟨⟨z,rfl,by omega,by omega,fun h0=>?_,fun h0=>?_⟩,kp.trans k1⟩
   ·obtain rfl:k=x.l.length:=by omega
    rw [Qo] at hz3;have:=hz3 h0;omega
   ·have:=hz4 h0;omega
  obtain ⟨hkl,hz0⟩:=Qj hc;have hx:=Q7 hkl;have hdr:=gT hx;have hmem:x.l[k]∈x.l:=Qv hkl;generalize x.l[k]=y at hx hmem hdr;have hyn:=cr hmem;refine lx hb5 (j:=3) rfl ?_;refine hw5.rdC hx fun w' hw'=>?_;refine aa.use (ih y (by omega) h5 w' z hw' hz0 (by omega)) ?_
  rintro _ h6 ⟨⟨z2,rfl,e1,e2,e3,e4⟩,k6⟩;rw [hdr] at hs;have hcons:cw (y::x.l.drop (k+1))=exN y+cw (x.l.drop (k+1)):=rfl;simp only [asK_int];rw [i64_in (by omega) (by omega)]
  have hz3:=hz3 hz0;refine ⟨⟨z2,k+1,rfl,by simp,by omega,by omega,e2,?_,fun h0=>?_,fun h0=>?_,k1.trans k6⟩,by simp;omega⟩
  ·rw [aZ hx,gH];omega
  ·rw [aZ hx,gH];have:=e3 h0;omega
  ·rw [aZ hx,gH];have:=e4 h0;omega
end
def wst (p:Int×Int)(e at_:Int):Int×Int:=if p.1=0∧e≠0 then (e,at_) else p
theorem Gi (p:Int×Int)(a:Int):wst p 0 a=p:=if_neg fun h=>h.2 rfl
theorem kZ (p:Int×Int)(e f a:Int):wst (wst p e a) f a=wst p (orF e f) a:=by
 unfold wst orF
 by_cases h1:p.1=0<;>by_cases h2:e=0<;>by_cases h3:f=0<;>simp [h1,h2,h3]
theorem KA {p:Int×Int}(h:p.1≠0)(e a:Int):wst p e a=p:=if_neg fun hh=>h hh.1
structure WS (h0:Hp)(b:Nat)(h:Hp)(n:Int)(p:Int×Int):Prop where
 k:KF h0 h
 lt:h0.size≤b
 wk:h[b]?=some (.cells [.int .i64 n,.int .i64 p.1,.int .i64 p.2].toArray 116 (0,0))
abbrev wp (b:Nat):Value:=.pointer (some ⟨b,0,none⟩)
abbrev KB (b:Nat):Hp→Hp→Prop:=ar (fun k=>k=b)
theorem WS.next {h0:Hp}{b:Nat}{h h':Hp}{n n':Int}{p p':Int×Int}(ws:WS h0 b h n p)(k:KB b h h')(hw:h'[b]?=some (.cells [.int .i64 n',.int .i64 p'.1,.int .i64 p'.2].toArray 116 (0,0))):WS h0 b h' n' p' :=
 ⟨((ws.k.mono (S':=fun k=>k=b) fun _ _ h=>h.elim).trans k).mono fun i hi e=>by have:=ws.lt;omega,ws.lt,hw⟩
theorem WS.aC {h0:Hp}{b:Nat}{h h':Hp}{n:Int}{p:Int×Int}(ws:WS h0 b h n p)(k:KF h h'):WS h0 b h' n p :=
 ⟨ws.k.trans k,ws.lt,k.get ws.wk (by simp)⟩
theorem KB.of {b:Nat}{h h':Hp}(k:KF h h'):KB b h h':=k.mono fun _ _ h=>h.elim
theorem WS.blt {h0:Hp}{b:Nat}{h:Hp}{n:Int}{p:Int×Int}(ws:WS h0 b h n p):b < h.size:=gd ws.wk
theorem WS.code {h0:Hp}{b:Nat}{h:Hp}{n:Int}{p:Int×Int}(ws:WS h0 b h n p){K:Value→Prop}(hk:K (.int .i64 p.1)):∃v,af h (Addr.add (Addr.add ⟨b,0,none⟩ 1) 0)=some v∧K v :=
 lx ws.wk (j:=1) rfl hk
section
variable  {ω:Amb}{h0:Hp}{b:Nat}
theorem qM {h:Hp}{n:Int}{p:Int×Int}(ws:WS h0 b h n p){code at_:Int}(hc:code≠0)(X:XT) :
  aa Tryz.prog ω fo [wp b,.int .i64 code,.int .i64 at_] h (fun _ h'=>WS h0 b h' n (wst p code at_)∧KB b h h') X:=by
 refine mz ω _ _ _ h _ X ?_;unfold fD;show ∃v1,_;refine ws.code ?_;rw [asK_int];refine ⟨fun h'=>WS h0 b h' n (wst p code at_)∧KB b h h',ae (fun hc'=>?_) (fun hc'=>?_),fun _ _ hj=>hj⟩
 ·have h1:p.1=0:=Zg hc';refine ⟨rfl,?_,?_⟩
  ·intro u hu;simp only [List.mem_cons,List.not_mem_nil,or_false] at hu;rcases hu with rfl|rfl<;>rfl
  ·refine aW ws.wk (by simp) ?_
   have kb:=ar.set (S:=fun k=>k=b) (h:=h) (.cells (spl [Value.int .i64 n,.int .i64 p.1,.int .i64 p.2].toArray 1 [.int .i64 code,.int .i64 at_]) 116 (0,0)) (b:=b) rfl;refine ⟨ws.next kb ?_,kb⟩;rw [wst,if_pos ⟨h1,hc⟩];exact aq ws.wk
 ·have h1:p.1≠0:=Qa.1 hc';rw [KA h1];exact ⟨ws,ar.refl _ _⟩
theorem dV {h:Hp}{n:Int}{p:Int×Int}(ws:WS h0 b h n p){q:Bool}{code at_:Int}(hc:code≠0)(X:XT) :
  cond q (aa Tryz.prog ω fo [wp b,.int .i64 code,.int .i64 at_] h (fun _ h'=>WS h0 b h' n (wst p (if q then code else 0) at_)∧KB b h h') X) (WS h0 b h n (wst p (if q then code else 0) at_)∧KB b h h):=by
 cases q with
 |true =>
  rw [if_pos rfl];exact qM ws hc X
 |false =>
  rw [if_neg (by decide),Gi]
  exact ⟨ws,ar.refl _ _⟩
def nmF (is:Bool)(s:ByteArray):Int:=orF (if !is&&!decide (emp s) then 5 else 0) (if is&&!aL s then 4 else 0)
theorem zm {h:Hp}{n:Int}{p:Int×Int}(ws:WS h0 b h n p)(is:Bool)(s:ByteArray)(hs:s.size≤20000)(at_:Int)(X:XT) :
  aa Tryz.prog ω mH [wp b,.bool is,.string s,.int .i64 at_] h (fun _ h'=>WS h0 b h' n (wst p (nmF is s) at_)∧KB b h h') X:=by
 refine nJ ω _ _ _ _ h _ X ?_;unfold fx;refine ⟨!is&&!decide (emp s),?_,fun _=>?_⟩
 ·simp only [asB_bool,asS_str,eqE];cases is
  ·exact ⟨rfl,trivial⟩
  ·exact ⟨rfl,trivial⟩
 refine ⟨_,dV ws (by decide) X,?_⟩
 rintro _ h1 ⟨ws1,k1⟩;refine ⟨fun v h'=>v=.bool (is&&!aL s)∧h1=h',?_,?_⟩
 ·rw [asB_bool];refine ae (fun hc=>?_) (fun hc=>?_)
  ·subst hc;refine aa.use (tn s hs h1) ?_;rintro _ _ ⟨rfl,rfl⟩;exact ⟨rfl,rfl⟩
  ·subst hc;exact ⟨rfl,rfl⟩
 rintro _ _ _ ⟨rfl,rfl⟩;refine ⟨_,dV ws1 (by decide) X,?_⟩
 rintro _ h2 ⟨ws2,k2⟩;rw [kZ] at ws2;exact ⟨ws2,k1.trans k2⟩
set_option maxHeartbeats 400000 in
theorem HN:∀(N:Nat) (x:Ex),exN x < N→exN x≤100000→y2 x→∀(h:Hp) (w:Value) (n:Int) (p:Int×Int) (at_:Int),ExS h0 w x.l→WS h0 b h n p→∀(X:XT),
  aa Tryz.prog ω mq [wp b,.agg (exC x w).toArray,.int .i64 at_] h (fun _ h'=>WS h0 b h' n (wst p (exF x) at_)∧KB b h h') X:=by
 intro N
 induction N with
 |zero=>exact fun l hN=>absurd hN (Nat.not_lt_zero _)
 |succ N ih =>
  intro x hN hle hok h w n p at_ hw ws X;refine nB ω _ _ _ h _ X ?_;unfold fM bh;simp only [eI];show ∃v1,_;obtain ⟨hnm,hokl⟩:=gi.1 hok;have hnm:x.nm.size≤20000:=Nat.le_trans hnm (by omega)
  have hxe:=gA x;have hlen:=gj x.l;have hb1:=ah (h:=h) (o:=.cells (exC x w).toArray 36 (0,0));have kp:=ar.push (S:=fun _=>False) h (.cells (exC x w).toArray 36 (0,0));generalize h.push (.cells (exC x w).toArray 36 (0,0))=h1 at *;have ws1:=ws.aC kp;have kb1:=KB.of (b:=b) kp;have hne:h.size≠b:=by have:=ws.blt;omega
  refine ws1.code ?_;rw [asK_int];refine ae (fun hc=>?_) (fun hc=>?_)
  ·have:=Ze.1 hc;rw [KA this];exact ⟨ws1,kb1⟩
  have hp0:p.1=0:=by simpa using hc
  refine ⟨fun v h'=>v=.int .i64 (eO x.op)∧h1=h'∧¬(x.op < 1∨8 < x.op),?_,?_⟩
  ·refine ⟨fun v h'=>v=.bool (decide (x.op=1∨x.op=2))∧h1=h',?_,?_⟩
   ·refine lx hb1 (j:=0) rfl ?_;rw [asK_int];refine ae (fun hc=>?_) (fun hc=>?_)
    ·have:=Zg hc;rw [Z7 (by omega)]
     exact ⟨rfl,rfl⟩
    ·refine lx hb1 (j:=0) rfl ?_;rw [asK_int];have:=Qa.1 hc;refine ⟨?_,rfl⟩
     congr 1
     rw [Qz];simp;omega
   rintro _ _ _ ⟨rfl,rfl⟩;refine ⟨fun v h'=>v=.int .i64 (eO x.op)∧h1=h'∧¬(x.op < 1∨8 < x.op),?_,fun _ _ _ hj=>hj⟩;rw [asB_bool];refine ae (fun hc=>?_) (fun hc=>?_)
   ·have h2:=Qj hc;refine ⟨?_,rfl,by omega⟩
    rw [eO,if_pos h2]
   have h2:=Qc hc;refine lx hb1 (j:=0) rfl ?_;rw [asK_int];refine ⟨fun v h'=>v=.int .i64 (eO x.op)∧h1=h'∧¬(x.op < 1∨8 < x.op),?_,fun _ _ _ hj=>hj⟩;refine ae (fun hc=>?_) (fun hc=>?_)
   ·have h3:=Zg hc;refine ⟨?_,rfl,by omega⟩
    rw [eO,if_neg h2,if_pos h3]
   have h3:=Qa.1 hc;refine ⟨fun v h'=>v=.bool (decide (x.op < 1∨8 < x.op))∧h1=h',?_,?_⟩
   ·refine lx hb1 (j:=0) rfl ?_;rw [asK_int];refine ae (fun hc=>?_) (fun hc=>?_)
    ·have:=Qj hc;rw [Z7 (by omega)]
     exact ⟨rfl,rfl⟩
    ·refine lx hb1 (j:=0) rfl ?_;rw [asK_int];have:=Qc hc;refine ⟨?_,rfl⟩
     congr 1
     rw [Qz];simp;omega
   rintro _ _ _ ⟨rfl,rfl⟩;rw [asB_bool];refine ae (fun hc=>?_) (fun hc=>?_)
   ·have h4:=Qj hc;refine aa.use (qM ws1 (by decide)) ?_
    rintro _ h2 ⟨ws2,k2⟩;rw [mn,exH,if_pos (by omega),tT (by decide)]
    exact ⟨ws2,kb1.trans k2⟩
   ·refine ⟨?_,rfl,Qc hc⟩;rw [eO,if_neg h2,if_neg h3]
  rintro _ _ _ ⟨rfl,rfl,hop⟩;refine ⟨decide (x.op < 1∨8 < x.op∨(x.l.length:Int)≠eO x.op∨(x.n≠0∧x.op≠1)∨(¬emp x.nm∧x.op≠2)),?_,fun _=>ae (fun hc=>?_) (fun hc=>?_)⟩
  ·refine lx hb1 (j:=3) rfl ?_;refine (hw.aC ws1.k).sl fun _ _=>?_;rw [asK_int];refine ae (fun hc=>?_) (fun hc=>?_)
   ·have:=Ze.1 hc;rw [Z7 (.inr (.inr (.inl this)))];exact ⟨rfl,trivial⟩
   have c3:(x.l.length:Int)=eO x.op:=by simpa using hc
   have c1:¬x.op < 1:=fun h=>hop (.inl h);have c2:¬8 < x.op:=fun h=>hop (.inr h);refine lx hb1 (j:=0) rfl ?_;rw [asK_int];refine ae (fun hc=>?_) (fun hc=>?_)
   ·have o1:=Ze.1 hc;refine lx hb1 (j:=2) rfl ?_;rw [asK_int];refine ae (fun hc=>?_) (fun hc=>?_)
    ·have:=Ze.1 hc;rw [Z7 (.inr (.inr (.inr (.inl ⟨this,o1⟩))))];exact ⟨rfl,trivial⟩
    have n0:x.n=0:=by simpa using hc
    refine lx hb1 (j:=0) rfl ?_;rw [asK_int];refine ae (fun hc=>?_) (fun hc=>?_)
    ·have o2:=Ze.1 hc;refine lx hb1 (j:=1) rfl ?_;rw [asS_str,eqE];refine ⟨?_,trivial⟩
     congr 1
     rw [Qz];simp [o1,o2,c1,c2,c3,n0]
    ·have o2:x.op=2:=by simpa using hc
     refine ⟨?_,trivial⟩
     congr 1
     rw [Qz];simp [o2] at c3 ⊢;simp [c3,n0]
   ·have o1:x.op=1:=by simpa using hc
    refine lx hb1 (j:=0) rfl ?_;rw [asK_int];refine ae (fun hc=>?_) (fun hc=>?_)
    ·refine lx hb1 (j:=1) rfl ?_;rw [asS_str,eqE];refine ⟨?_,trivial⟩
     congr 1
     rw [Qz];simp [o1] at c3 ⊢;simp [c3]
    ·have o2:x.op=2:=by simpa using hc
     omega
  ·refine aa.use (qM ws1 (by decide)) ?_
   rintro _ h2 ⟨ws2,k2⟩;rw [mn,exH,if_pos (Qj hc),tT (by decide)]
   exact ⟨ws2,kb1.trans k2⟩
  have hform:=Qc hc;have hH:exH x=orF (if (decide (x.op=2)&&!aL x.nm) then 4 else 0) (if decide (x.n < 0∨1000000000000000000≤x.n) then 3 else 0):=by
   rw [exH,if_neg hform]
   by_cases h2:x.op=2<;>cases aL x.nm<;>simp [h2,orF]
  refine ⟨fun v h'=>v=.bool (decide (x.op=2)&&!aL x.nm)∧h1=h',?_,?_⟩
  ·refine lx hb1 (j:=0) rfl ?_;rw [asK_int];refine ae (fun hc=>?_) (fun hc=>?_)
   ·have h2:=Zg hc;refine lx hb1 (j:=1) rfl ?_;refine aa.use (tn x.nm hnm h1) ?_;rintro _ _ ⟨rfl,rfl⟩;refine ⟨?_,rfl⟩;rw [Z7 h2];rfl
   ·have h2:=Qa.1 hc;exact ⟨by rw [Z0 h2];rfl,rfl⟩
  rintro _ _ _ ⟨rfl,rfl⟩;refine ⟨_,dV ws1 (by decide) X,?_⟩
  rintro _ h2 ⟨ws2,k2⟩;have hb2:=k2.get hb1 hne;refine ⟨decide (x.n < 0∨1000000000000000000≤x.n),?_,fun _=>?_⟩
  ·refine lx hb2 (j:=2) rfl ?_;rw [asK_int];refine ae (fun hc=>?_) (fun hc=>?_)
   ·rw [Z7 (.inl (Qj hc))];exact ⟨rfl,trivial⟩
   refine lx hb2 (j:=2) rfl ?_;rw [asK_int];have:=Qc hc;refine ⟨?_,trivial⟩
   congr 1
   rw [Qz];simp;omega
  refine ⟨_,dV ws2 (by decide) X,?_⟩
  rintro _ h3 ⟨ws3,k3⟩;rw [kZ,←hH] at ws3;have hb3:=k3.get hb2 hne;have k13:=(kb1.trans k2).trans k3;refine lx hb3 (j:=3) rfl ?_;refine (hw.aC ws3.k).sl fun _ _=>?_;refine ⟨fun t h'=>∃k:Nat,t=.int .i64 k∧k≤x.l.length∧WS h0 b h' n (wst p (orF (exH x) (nP (x.l.take k))) at_)∧KB b h3 h',fun t _=>match t with|.int _ k=>x.l.length - k.toNat|_=>0,
   ⟨0,rfl,by omega,by simpa [nP,DF] using ws3,ar.refl _ _⟩,?_⟩
  rintro _ _ h5 ⟨k,rfl,hk,ws5,k5⟩;have hw5:=hw.aC ws5.k;rw [asK_int];refine ae (fun hc=>?_) (fun hc=>?_)
  rotate_left
  ·have hc:=Qc hc;obtain rfl:k=x.l.length:=by omega
   rw [Qo,←mn] at ws5;exact ⟨ws5,k13.trans k5⟩
  have hkl:k < x.l.length:=by
   have:=Qj hc;omega
  have hx:=Q7 hkl;have hmem:x.l[k]∈x.l:=Qv hkl;generalize x.l[k]=y at hx hmem;have hyn:=cr hmem;refine hw.zU ws5.k hx fun w' hw'=>?_;refine ⟨rfl,dC hw'.b8,aA (cs:=exC y w') rfl ?_⟩;have hb6:=ah (h:=h5) (o:=.cells (exC y w').toArray 36 (0,0));have k6:=ar.push (S:=fun _=>False) h5 (.cells (exC y w').toArray 36 (0,0));generalize h5.push (.cells (exC y w').toArray 36 (0,0))=h6 at *;refine ⟨_,ak hb6 rfl,?_⟩
  refine aa.use (ih y (by omega) (by omega) (cb hokl hmem) h6 w' n _ at_ hw' (ws5.aC k6)) ?_
  rintro _ h7 ⟨ws7,k7⟩;rw [kZ,cT,←uK,←aZ hx] at ws7;rw [asK_int,i64_in (by omega) (by omega)]
  exact ⟨⟨k+1,by simp,by omega,ws7,(k5.trans (KB.of k6)).trans k7⟩,by simp;omega⟩
end
end Go.Proofs.YtkeeboomikkojaaGreatDoor
