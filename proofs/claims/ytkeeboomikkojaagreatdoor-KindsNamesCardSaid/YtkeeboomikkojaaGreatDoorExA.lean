import Derived.Test.YtkeeboomikkojaaGreatDoorRn5
import Derived.Test.YtkeeboomikkojaaGreatDoorYk
import Derived.Test.YtkeeboomikkojaaGreatDoorRx4
import Derived.Test.YtkeeboomikkojaaGreatDoorRy2
import Derived.Test.YtkeeboomikkojaaGreatDoorRn7
import Derived.Test.YtkeeboomikkojaaGreatDoorRn9
import Derived.Test.YtkeeboomikkojaaGreatDoorRk
import Derived.Test.YtkeeboomikkojaaGreatDoorRn6
import Derived.Test.YtkeeboomikkojaaGreatDoorY9
namespace Go.Proofs.YtkeeboomikkojaaGreatDoor
open Go Go.Sx Go.Sx.Tk Go.Sx.Rn Go.Proofs.YtkeeboomikkojaaGreatDoor.Sx
section
variable  {ω:Amb}
theorem On (c a:Int)(h:Hp)(X:XT):aa Tryz.prog ω fQ [.int .i64 c,.int .i64 a] h (fun r h'=>r=.agg (flt c a).toArray∧KF h h') X:=by
 refine sa ω _ _ h _ X ?_;unfold kL;show cq (.int .i64 c) (cq (.int .i64 a) _);refine ⟨rfl,bu c a,aA (cs:=flt c a) rfl ?_⟩;exact ⟨_,tc rfl,rfl,ar.push _ _⟩
end
end Go.Proofs.YtkeeboomikkojaaGreatDoor
namespace Go.Proofs.YtkeeboomikkojaaGreatDoor
open Go Go.Sx Go.Sx.Tk Go.Proofs.YtkeeboomikkojaaGreatDoor.Sx
section
variable  {ω:Amb}
theorem ze (c:UInt8)(h:Hp)(X:XT):aa Tryz.prog ω pn [.int .u8 (c.toNat:Int)] h (fun r h'=>r=.bool (lo c)∧h'=h) X:=by
 refine o0 ω _ h _ X ?_;unfold gD lo;refine ⟨fun r h'=>r=.bool (decide (97≤c.toNat)&&decide (c.toNat≤122))∧h'=h,?_,fun _ _ _ hj=>hj⟩;rw [asK_int];refine ae (fun hc=>?_) (fun hc=>⟨?_,rfl⟩)
 ·rw [asK_int];have:=Qj hc;exact ⟨by congr 1;rw [Qz];simp;omega,rfl⟩
 ·have:=Qc hc;rw [Z0 (by omega),Bool.false_and]
theorem DE (c:UInt8)(h:Hp)(X:XT):aa Tryz.prog ω nX [.int .u8 (c.toNat:Int)] h (fun r h'=>r=.bool (dg c)∧h'=h) X:=by
 refine oI ω _ h _ X ?_;unfold gq dg;refine ⟨fun r h'=>r=.bool (decide (48≤c.toNat)&&decide (c.toNat≤57))∧h'=h,?_,fun _ _ _ hj=>hj⟩;rw [asK_int];refine ae (fun hc=>?_) (fun hc=>⟨?_,rfl⟩)
 ·rw [asK_int];have:=Qj hc;exact ⟨by congr 1;rw [Qz];simp;omega,rfl⟩
 ·have:=Qc hc;rw [Z0 (by omega),Bool.false_and]
end
def AZ:List Value:=words.map fun w=>.string ⟨w.toArray⟩
theorem Jo {k:Nat}{w:List UInt8}(h:words[k]?=some w):AZ[k]?=some (.string ⟨w.toArray⟩):=by rw [AZ,List.getElem?_map,h];rfl
section
variable  {ω:Amb}
theorem D8 (s:ByteArray)(h:Hp)(X:XT):aa Tryz.prog ω mF [.string s] h (fun r h'=>r=.bool (isWord (bytesOf s))∧KF h h') X:=by
 refine mV ω _ h _ X ?_;unfold fh;have hb:(h.push (.cells AZ.toArray 9 (0,0)))[h.size]?=some (.cells AZ.toArray 9 (0,0)):=ah;have kp:KF h (h.push (.cells AZ.toArray 9 (0,0))):=ar.push _ _;refine ⟨fun i h'=>h'=h.push (.cells AZ.toArray 9 (0,0))∧∃k:Nat,i=.int .i64 k∧k≤19∧∀(q:Nat) (w:List UInt8),q < k→words[q]?=some w→w≠bytesOf s,
  fun i _=>match i with|.int _ k=>19 - k.toNat|_=>0,⟨rfl,0,rfl,by omega,fun q w hq=>by omega⟩,?_⟩
 rintro _ _ h4 ⟨hh,k,rfl,hk,hn⟩;rw [hh];generalize h.push (.cells AZ.toArray 9 (0,0))=h1 at *;rw [asK_int];refine ae (fun hc=>?_) (fun hc=>?_)
 ·have hlt:k < 19:=by have:=Qj hc;omega
  have hx:words[k]?=some words[k]:=Q7 hlt;generalize words[k]=w at hx;rw [asI_int];refine ⟨by omega,by omega,?_⟩
  rw [Qm,Nat.mul_one];refine lx hb (Jo hx) ?_;rw [asS_str,asS_str,eqS];refine ae (fun hc=>?_) (fun hc=>?_)
  ·have he:w=bytesOf s:=Qj hc;refine ⟨?_,kp⟩;rw [isWord,Z7 (by rw [←he];exact List.mem_iff_getElem?.2 ⟨k,hx⟩)]
  ·have he:w≠bytesOf s:=Qc hc;rw [asK_int,i64_in (by omega) (by omega)]
   refine ⟨⟨rfl,k+1,by simp,by omega,fun q w' hq hw'=>?_⟩,by simp;omega⟩
   by_cases hqk:q=k
   ·subst hqk;rw [hx] at hw';cases hw';exact he
   ·exact hn q w' (by omega) hw'
 ·have hk19:k=19:=by have:=Qc hc;omega
  subst hk19;refine ⟨?_,kp⟩;rw [isWord,Z0];intro hm;obtain ⟨q,hq⟩:=List.mem_iff_getElem?.1 hm;exact hn q _ (Q6.1 hq).1 hq rfl
end
section
variable  {ω:Amb}
theorem iv (s:ByteArray)(hs:s.size≤20000)(h:Hp)(X:XT):aa Tryz.prog ω nr [.string s] h (fun r h'=>r=.bool (aL s)∧KF h h') X:=by
 refine mG ω _ h _ X ?_;unfold fG;refine ⟨fun r h'=>r=.bool (!dr s)∧KF h h',?_,?_⟩
 ·unfold dr;rw [asS_str];refine ae (fun hc=>?_) (fun hc=>?_)
  ·have:=Qj hc;rw [Z0 (by omega:¬0 < s.size)]
   exact ⟨rfl,ar.refl _ _⟩
  have h0:=Qc hc;rw [asS_str,Z7 (by omega:0 < s.size),Zb]
  refine ae (fun hc=>?_) (fun hc=>?_)
  ·have:=Qj hc;rw [Z0 (by omega:¬s.size≤12)]
   exact ⟨rfl,ar.refl _ _⟩
  have h1:=Qc hc;rw [asS_str,Z7 (by omega:s.size≤12),Zb,tD]
  refine ⟨by omega,by omega,?_⟩
  refine aa.use (ze _ h) ?_;rintro _ _ ⟨rfl,hh⟩;rw [hh,asB_bool];refine ae (fun hc=>?_) (fun hc=>?_)
  ·have hc:lo (cAt s 0)=false:=by simpa using hc
   rw [hc];exact ⟨rfl,ar.refl _ _⟩
  ·have hc:lo (cAt s 0)=true:=by simpa using hc
   rw [hc,Zb,Bool.not_not];exact D8 s h X
 rintro _ _ h1 ⟨rfl,k1⟩;rw [asB_bool];unfold aL;refine ae (fun hc=>?_) (fun hc=>?_)
 ·have hc:dr s=false:=by simpa using hc
  rw [hc];exact ⟨rfl,k1⟩
 have hc:dr s=true:=by simpa using hc
 rw [hc,Zb];refine ⟨fun i h'=>h'=h1∧∃k:Nat,i=.int .i64 k∧k≤s.size∧((bytesOf s).take k).all ld=true,
  fun i _=>match i with|.int _ k=>s.size - k.toNat|_=>0,⟨rfl,0,rfl,by omega,rfl⟩,?_⟩
 rintro _ _ h4 ⟨hh,k,rfl,hk,hd⟩;rw [hh,asS_str,asK_int];refine ae (fun hc=>?_) (fun hc=>?_)
 ·have hlt:k < s.size:=by have:=Qj hc;omega
  refine ⟨fun r h'=>r=.bool (!ld (cAt s k))∧h'=h1,?_,?_⟩
  ·rw [asS_str,asI_int,cN];refine ⟨by omega,by omega,?_⟩
   refine aa.use (ze _ h1) ?_;rintro _ _ ⟨rfl,hh⟩;rw [hh,asB_bool,Tk.ld];refine ae (fun hc=>?_) (fun hc=>?_)
   ·have hc:lo (cAt s k)=false:=by simpa using hc
    rw [asS_str,asI_int,cN,hc,Za];refine ⟨by omega,by omega,?_⟩
    refine aa.use (DE _ h1) ?_;rintro _ _ ⟨rfl,hh⟩;rw [hh,asB_bool];exact ⟨rfl,rfl⟩
   ·have hc:lo (cAt s k)=true:=by simpa using hc
    rw [hc];exact ⟨rfl,rfl⟩
  rintro _ _ _ ⟨rfl,hh⟩;rw [hh,asB_bool];refine ae (fun hc=>?_) (fun hc=>?_)
  ·have hc:ld (cAt s k)=false:=by simpa using hc
   refine ⟨?_,k1⟩;cases ha:(bytesOf s).all ld
   ·rfl
   ·rw [E1 ha hlt] at hc;cases hc
  ·have hc:ld (cAt s k)=true:=by simpa using hc
   rw [asK_int,i64_in (by omega) (by omega)]
   refine ⟨⟨rfl,k+1,by simp,by omega,?_⟩,by simp;omega⟩
   rw [lc s hlt,List.all_append,hd];simpa using hc
 ·have hke:k=s.size:=by have:=Qc hc;omega
  subst hke;rw [ru] at hd;rw [hd];exact ⟨rfl,k1⟩
end
end Go.Proofs.YtkeeboomikkojaaGreatDoor
namespace Go.Proofs.YtkeeboomikkojaaGreatDoor
open Go Go.Sx Go.Sx.Tk Go.Sx.Rn Go.Proofs.YtkeeboomikkojaaGreatDoor.Sx
theorem gg (s:ByteArray){i:Nat}(hi:i < s.size)(c:UInt8):(ByteArray.toList (s.extract i (i+1))==ByteArray.toList ⟨#[c]⟩)=decide (cAt s i=c):=by
 rw [eqS,il,Nat.add_sub_cancel_left,sC s hi];rw [show bytesOf ⟨#[c]⟩=[c] from rfl,List.take_succ_cons,List.take_zero]
 rw [Qz];simp
section
variable  {ω:Amb}
theorem wA (s:ByteArray)(ends:Int)(hs:s.size≤20000)(h:Hp)(X:XT) :
  aa Tryz.prog ω nj [.string s,.int .i64 ends] h (fun r h'=>r=.bool (ck s ends)∧h'=h) X:=by
 refine nK ω _ _ h _ X ?_;unfold fN;simp only [asS_str,asK_int];rw [i64_in (by omega) (by omega)]
 refine ⟨decide ¬(1≤s.size∧(s.size:Int) - 1≤ends∧cAt s (s.size - 1)=105),?_,fun _=>ae (fun hc=>?_) (fun hc=>?_)⟩
 ·refine ae (fun hc=>?_) (fun hc=>?_)
  ·have:=Qj hc;rw [Z7 (by omega)]
   exact ⟨rfl,trivial⟩
  have h1:=Qc hc;refine ae (fun hc=>?_) (fun hc=>?_)
  ·have:=Qj hc;rw [Z7 (by omega)]
   exact ⟨rfl,trivial⟩
  have h2:=Qc hc;refine ⟨by omega,by omega,by omega,?_,trivial⟩
  rw [show Int.toNat ((s.size:Int) - 1)=s.size - 1 by omega,Qm]
  have:=gg s (i:=s.size - 1) (by omega) 105
  rw [show s.size - 1+1=s.size by omega] at this
  rw [this]
  congr 1
  rw [Qz];simp only [Bool.not_eq_true',decide_eq_false_iff_not,decide_eq_true_eq]
  constructor
  ·rintro h ⟨_,_,h3⟩;exact h h3
  ·intro h h3;exact h ⟨by omega,by omega,h3⟩
 ·refine ⟨?_,trivial⟩;have:=Qj hc;rw [ck,Z0];rintro ⟨h1,h2,h3,_⟩;exact this ⟨h1,h2,h3⟩
 have hh:=Decidable.not_not.1 (Qc hc);refine ⟨fun t h'=>∃k:Nat,t=.int .i64 k∧k≤s.size - 1∧(∀j,j < k→cAt s j=115∨cAt s j=114)∧h'=h,fun t _=>match t with|.int _ k=>s.size - k.toNat|_=>0,⟨0,rfl,by omega,by omega,rfl⟩,?_⟩
 rintro _ _ _ ⟨k,rfl,hk,hq,rfl⟩;simp only [asK_int,asI_int];refine ae (fun hc=>?_) (fun hc=>?_)
 rotate_left
 ·have hc:=Qc hc;obtain rfl:k=s.size - 1:=by omega
  exact ⟨by rw [ck,Z7 ⟨hh.1,hh.2.1,hh.2.2,hq⟩],trivial⟩
 have hkl:=Qj hc;rw [i64_in (by omega) (by omega)]
 refine ⟨decide ¬(cAt s k=115∨cAt s k=114),?_,fun _=>ae (fun hc=>?_) (fun hc=>?_)⟩
 ·rw [Qm,show Int.toNat ((k:Int)+1)=k+1 by omega,gg s (by omega) 115,gg s (by omega) 114]
  refine ⟨by omega,by omega,by omega,ae (fun hc=>?_) (fun hc=>?_)⟩
  ·refine ⟨by omega,by omega,by omega,?_,trivial⟩
   congr 1
   rw [Qz];simp only [Bool.not_eq_true',decide_eq_false_iff_not,decide_eq_true_eq] at hc ⊢;simp [hc]
  ·refine ⟨?_,trivial⟩;rw [Z0];simp only [Bool.not_eq_false',decide_eq_true_eq] at hc;simp [hc]
 ·refine ⟨?_,trivial⟩;rw [ck,Z0];rintro ⟨_,_,_,h4⟩;exact Qj hc (h4 k (by omega))
 ·have hc:=Decidable.not_not.1 (Qc hc);refine ⟨⟨k+1,by simp,by omega,fun j hj=>?_,trivial⟩,by simp;omega⟩
  rcases Nat.lt_or_ge j k with h|h
  ·exact hq j h
  ·obtain rfl:j=k:=by omega
   exact hc
end
theorem Di:∀(l m:List Ex),nP (l++m)=orF (nP l) (nP m)
 |[],m=>by simp only [Z4,nP,nF]
 |y::r,m=>by simp only [Qu,nP,Di r m,cT]
theorem Fg {l:List Ex}{k:Nat}(h:nP (l.take k)≠0):nP l=nP (l.take k):=by
 have:=Di (l.take k) (l.drop k);rw [Q8] at this;rw [this,tT h]
section
variable  {ω:Amb}
theorem ED:∀(N:Nat) (x:Ex),exN x < N→exN x≤100000→∀(h:Hp) (w:Value),ExS h w x.l→∀(X:XT),
  aa Tryz.prog ω oN [.agg (exC x w).toArray] h (fun r h'=>r=.int .i64 (exN x)∧KF h h') X:=by
 intro N
 induction N with
 |zero=>exact fun l hN=>absurd hN (Nat.not_lt_zero _)
 |succ N ih =>
  intro x hN hle h w hw X;refine oZ ω _ h _ X ?_;unfold gv;simp only [eI];have hxe:=gA x;have hlen:=gj x.l;have hb1:=ah (h:=h) (o:=.cells (exC x w).toArray 36 (0,0));have kp:=ar.push (S:=fun _=>False) h (.cells (exC x w).toArray 36 (0,0));generalize h.push (.cells (exC x w).toArray 36 (0,0))=h1 at *;refine ⟨fun v t h'=>∃k:Nat,v=.int .i64 ((1+cw (x.l.take k):Nat):Int)∧t=.int .i64 k∧k≤x.l.length∧cw (x.l.take k)+cw (x.l.drop k)=cw x.l∧KF h1 h',fun _ t _=>match t with|.int _ k=>x.l.length - k.toNat|_=>0,
   ⟨0,by simp [cw],rfl,by omega,by simp [cw],ar.refl _ _⟩,?_⟩
  rintro _ _ _ h5 ⟨k,rfl,rfl,hk,hs,k1⟩;have hb5:=k1.get hb1 (by simp)
  have hw5:=hw.aC (kp.trans k1);refine lx hb5 (j:=3) rfl ?_;refine hw5.sl fun _ _=>?_;rw [asK_int];refine ae (fun hc=>?_) (fun hc=>?_)
  rotate_left
  ·have hc:=Qc hc;obtain rfl:k=x.l.length:=by omega
   rw [Qo];exact ⟨by rw [gA],kp.trans k1⟩
  have hkl:k < x.l.length:=by
   have:=Qj hc;omega
  have hx:=Q7 hkl;have hdr:=gT hx;have hmem:x.l[k]∈x.l:=Qv hkl;generalize x.l[k]=y at hx hmem hdr;have hyn:=cr hmem;refine lx hb5 (j:=3) rfl ?_;refine hw5.rdC hx fun w' hw'=>?_;refine aa.use (ih y (by omega) (by omega) h5 w' hw') ?_
  rintro _ h6 ⟨rfl,k6⟩;rw [hdr] at hs;have hcons:cw (y::x.l.drop (k+1))=exN y+cw (x.l.drop (k+1)):=rfl;simp only [asK_int];rw [i64_in (by omega) (by omega),i64_in (by omega) (by omega)]
  refine ⟨⟨k+1,?_,by simp,by omega,?_,k1.trans k6⟩,by simp;omega⟩
  ·rw [aZ hx,gH]
   congr 1
   omega
  ·rw [aZ hx,gH];omega
set_option maxHeartbeats 400000 in
theorem xU:∀(N:Nat) (x:Ex),exN x < N→exN x≤100000→y2 x→∀(h:Hp) (w:Value),ExS h w x.l→∀(X:XT),
  aa Tryz.prog ω jX [.agg (exC x w).toArray] h (fun r h'=>r=.int .i64 (exF x)∧KF h h') X:=by
 intro N
 induction N with
 |zero=>exact fun l hN=>absurd hN (Nat.not_lt_zero _)
 |succ N ih =>
  intro x hN hle hok h w hw X;refine kc ω _ h _ X ?_;unfold dL aO;simp only [eI];obtain ⟨hnm,hokl⟩:=gi.1 hok;have hnm:x.nm.size≤20000:=Nat.le_trans hnm (by omega)
  have hxe:=gA x;have hlen:=gj x.l;have hb1:=ah (h:=h) (o:=.cells (exC x w).toArray 36 (0,0));have kp:=ar.push (S:=fun _=>False) h (.cells (exC x w).toArray 36 (0,0));generalize h.push (.cells (exC x w).toArray 36 (0,0))=h1 at *;have hw1:=hw.aC kp;refine ⟨decide (x.op=1∨x.op=2),?_,fun _=>?_⟩
  ·refine lx hb1 (j:=0) rfl ?_;rw [asK_int];refine ae (fun hc=>?_) (fun hc=>?_)
   ·have:=Zg hc;rw [Z7 (by omega)]
    exact ⟨rfl,trivial⟩
   ·refine lx hb1 (j:=0) rfl ?_;rw [asK_int];have:=Qa.1 hc;refine ⟨?_,trivial⟩
    congr 1
    rw [Qz];simp;omega
  refine ⟨fun v h'=>v=.int .i64 (if x.op=1∨x.op=2 then 0 else 2)∧h1=h',ae (fun hc=>?_) (fun hc=>?_),?_⟩
  ·rw [if_pos (Qj hc)];exact ⟨rfl,rfl⟩
  ·rw [if_neg (Qc hc)];exact ⟨rfl,rfl⟩
  rintro _ _ _ ⟨rfl,rfl⟩;refine lx hb1 (j:=0) rfl ?_;rw [asK_int];refine ⟨fun v h'=>v=.int .i64 (eO x.op)∧h1=h',ae (fun hc=>?_) (fun hc=>?_),?_⟩
  ·have:=Zg hc;refine ⟨?_,rfl⟩;rw [eO,if_neg (by omega),if_pos this]
  ·have:=Qa.1 hc;refine ⟨?_,rfl⟩;unfold eO;rw [if_neg this]
  rintro _ _ _ ⟨rfl,rfl⟩;refine ⟨decide (x.op < 1∨8 < x.op∨(x.l.length:Int)≠eO x.op∨(x.n≠0∧x.op≠1)∨(¬emp x.nm∧x.op≠2)),?_,fun _=>ae (fun hc=>?_) (fun hc=>?_)⟩
  ·refine lx hb1 (j:=0) rfl ?_;rw [asK_int];refine ae (fun hc=>?_) (fun hc=>?_)
   ·have:=Qj hc;rw [Z7 (.inl this)];exact ⟨rfl,trivial⟩
   have c1:=Qc hc;refine lx hb1 (j:=0) rfl ?_;rw [asK_int];refine ae (fun hc=>?_) (fun hc=>?_)
   ·have:=Qj hc;rw [Z7 (.inr (.inl this))];exact ⟨rfl,trivial⟩
   have c2:=Qc hc;refine lx hb1 (j:=3) rfl ?_;refine hw1.sl fun _ _=>?_;rw [asK_int];refine ae (fun hc=>?_) (fun hc=>?_)
   ·have:=Ze.1 hc;rw [Z7 (.inr (.inr (.inl this)))];exact ⟨rfl,trivial⟩
   have c3:(x.l.length:Int)=eO x.op:=by simpa using hc
   have tl:(¬emp x.nm∧x.op≠2)→(x.op < 1∨8 < x.op∨(x.l.length:Int)≠eO x.op∨(x.n≠0∧x.op≠1)∨(¬emp x.nm∧x.op≠2)):=fun h=>.inr (.inr (.inr (.inr h)));have tf:¬(x.n≠0∧x.op≠1)→¬(¬emp x.nm∧x.op≠2)→¬(x.op < 1∨8 < x.op∨(x.l.length:Int)≠eO x.op∨(x.n≠0∧x.op≠1)∨(¬emp x.nm∧x.op≠2)):=by
    rintro h1 h2 (h|h|h|h|h)
    ·exact c1 h
    ·exact c2 h
    ·exact h c3
    ·exact h1 h
    ·exact h2 h
   have fin:¬(x.n≠0∧x.op≠1)→∃v,af h1 (Addr.add ⟨h.size,0,none⟩ 1)=some v∧asS v fun s=>cond (!(s.toList==ByteArray.toList ⟨#[]⟩))
     (∃v,af h1 (Addr.add ⟨h.size,0,none⟩ 0)=some v∧asK .i64 v fun n=>(Value.bool (n !=(2:Int)))=.bool (decide (x.op < 1∨8 < x.op∨(x.l.length:Int)≠eO x.op∨(x.n≠0∧x.op≠1)∨(¬emp x.nm∧x.op≠2)))∧True)
     ((Value.bool false)=.bool (decide (x.op < 1∨8 < x.op∨(x.l.length:Int)≠eO x.op∨(x.n≠0∧x.op≠1)∨(¬emp x.nm∧x.op≠2)))∧True):=by
    intro hn;refine lx hb1 (j:=1) rfl ?_;rw [asS_str,eqE];refine ae (fun hc=>?_) (fun hc=>?_)
    ·have he:¬emp x.nm:=by simpa using hc
     refine lx hb1 (j:=0) rfl ?_;rw [asK_int];refine ⟨?_,trivial⟩
     by_cases h2:x.op=2
     ·rw [Z0 (tf hn fun h=>h.2 h2)];simp [h2]
     ·rw [Z7 (tl ⟨he,h2⟩)];simp [h2]
    ·have he:emp x.nm:=by simpa using hc
     rw [Z0 (tf hn fun h=>h.1 he)];exact ⟨rfl,trivial⟩
   refine lx hb1 (j:=2) rfl ?_;rw [asK_int];refine ae (fun hc=>?_) (fun hc=>?_)
   ·have c4:=Ze.1 hc;refine lx hb1 (j:=0) rfl ?_;rw [asK_int];refine ae (fun hc=>?_) (fun hc=>?_)
    ·have:=Ze.1 hc;rw [Z7 (.inr (.inr (.inr (.inl ⟨c4,this⟩))))];exact ⟨rfl,trivial⟩
    ·have:x.op=1:=by simpa using hc
     exact fin fun h=>h.2 this
   ·have c4:x.n=0:=by simpa using hc
    exact fin fun h=>h.1 c4
  ·have:=Qj hc;refine ⟨?_,kp⟩;rw [mn,exH,if_pos this];rfl
  have hform:=Qc hc;have hH:exH x=if x.op=2∧aL x.nm=false then 4 else if x.n < 0∨1000000000000000000≤x.n then 3 else 0:=by rw [exH,if_neg hform]
  refine ⟨fun v h'=>v=.bool (decide (x.op=2∧aL x.nm=false))∧KF h1 h',?_,?_⟩
  ·refine lx hb1 (j:=0) rfl ?_;rw [asK_int];refine ae (fun hc=>?_) (fun hc=>?_)
   ·have h2:=Zg hc;refine lx hb1 (j:=1) rfl ?_;refine aa.use (iv x.nm hnm h1) ?_;rintro _ h2' ⟨rfl,k2⟩;refine ⟨?_,k2⟩
    congr 1
    rw [Qz];simp [h2]
   ·have h2:=Qa.1 hc;exact ⟨by rw [Z0 fun h=>h2 h.1],ar.refl _ _⟩
  rintro _ _ h2 ⟨rfl,k2⟩;have hb2:=k2.get hb1 (by simp)
  rw [asB_bool];refine ae (fun hc=>?_) (fun hc=>?_)
  ·refine ⟨?_,kp.trans k2⟩;rw [mn,hH,if_pos (Qj hc)];rfl
  rw [if_neg (Qc hc)] at hH;refine ⟨decide (x.n < 0∨1000000000000000000≤x.n),?_,fun _=>ae (fun hc=>?_) (fun hc=>?_)⟩
  ·refine lx hb2 (j:=2) rfl ?_;rw [asK_int];refine ae (fun hc=>?_) (fun hc=>?_)
   ·rw [Z7 (.inl (Qj hc))];exact ⟨rfl,trivial⟩
   refine lx hb2 (j:=2) rfl ?_;rw [asK_int];have:=Qc hc;refine ⟨?_,trivial⟩
   congr 1
   rw [Qz];simp;omega
  ·refine ⟨?_,kp.trans k2⟩;rw [mn,hH,if_pos (Qj hc)];rfl
  rw [if_neg (Qc hc)] at hH;have hF:exF x=nP x.l:=by rw [mn,hH,nF]
  refine ⟨fun t h'=>∃k:Nat,t=.int .i64 k∧k≤x.l.length∧nP (x.l.take k)=0∧KF h2 h',fun t _=>match t with|.int _ k=>x.l.length - k.toNat|_=>0,
   ⟨0,rfl,by omega,rfl,ar.refl _ _⟩,?_⟩
  rintro _ _ h5 ⟨k,rfl,hk,hs,k5⟩;have hb5:=k5.get hb2 (by simp)
  have hw5:=hw.aC ((kp.trans k2).trans k5);refine lx hb5 (j:=3) rfl ?_;refine hw5.sl fun _ _=>?_;rw [asK_int];refine ae (fun hc=>?_) (fun hc=>?_)
  rotate_left
  ·have hc:=Qc hc;obtain rfl:k=x.l.length:=by omega
   rw [Qo] at hs;exact ⟨by rw [hF,hs],(kp.trans k2).trans k5⟩
  have hkl:k < x.l.length:=by
   have:=Qj hc;omega
  have hx:=Q7 hkl;have hmem:x.l[k]∈x.l:=Qv hkl;generalize x.l[k]=y at hx hmem;have hyn:=cr hmem;refine lx hb5 (j:=3) rfl ?_;refine hw5.rdC hx fun w' hw'=>?_;refine aa.use (ih y (by omega) (by omega) (cb hokl hmem) h5 w' hw') ?_
  rintro _ h6 ⟨rfl,k6⟩;have hsn:nP (x.l.take (k+1))=exF y:=by rw [aZ hx,uK,hs,nF]
  rw [asK_int];refine ae (fun hc=>?_) (fun hc=>?_)
  ·have:=Ze.1 hc;refine ⟨?_,((kp.trans k2).trans k5).trans k6⟩;rw [hF,Fg (k:=k+1) (by rw [hsn];exact this),hsn]
  ·have:exF y=0:=by simpa using hc
   rw [asK_int,i64_in (by omega) (by omega)]
   exact ⟨⟨k+1,by simp,by omega,by rw [hsn,this],k5.trans k6⟩,by simp;omega⟩
end
def Oa:List Value:=[(.string ⟨#[]⟩),(.string ⟨#[65,45,45,45,49,45,45]⟩),(.string ⟨#[65,45,45,45,49,45,45]⟩),(.string ⟨#[45,45,45,45,49,45,45]⟩),(.string ⟨#[65,66,84,78,48,45,45]⟩),(.string ⟨#[65,66,45,45,48,45,45]⟩),(.string ⟨#[65,45,45,45,49,45,45]⟩),(.string ⟨#[65,45,45,45,48,45,45]⟩),(.string ⟨#[65,45,45,45,48,45,45]⟩),(.string ⟨#[65,45,45,45,48,45,45]⟩),(.string ⟨#[65,45,45,45,42,45,45]⟩),(.string ⟨#[65,66,45,45,48,66,69]⟩),(.string ⟨#[65,66,45,45,48,66,45]⟩),(.string ⟨#[45,45,45,45,49,66,45]⟩),(.string ⟨#[45,45,45,45,49,66,69]⟩)]
def ecF (f:Fm):UInt8:=if f.e=-1 then 42 else if f.e=0 then 48 else 49
def rW (f:Fm):ByteArray:=⟨#[if f.a then 65 else 45,if f.b then 66 else 45,if f.t then 84 else 45,if f.n then 78 else 45,ecF f,if f.body then 66 else 45,if f.els then 69 else 45]⟩
def OK (d:Int):ByteArray:=match aT d with|some f=>rW f|none=>⟨#[]⟩
theorem bI (f:Fm):(rW f).size=7:=rfl
theorem Od:∀k:Nat,k < 15→Oa[k]?=some (.string (OK k))
 |0,_=>rfl
 |1,_=>rfl
 |2,_=>rfl
 |3,_=>rfl
 |4,_=>rfl
 |5,_=>rfl
 |6,_=>rfl
 |7,_=>rfl
 |8,_=>rfl
 |9,_=>rfl
 |10,_=>rfl
 |11,_=>rfl
 |12,_=>rfl
 |13,_=>rfl
 |14,_=>rfl
 |k+15,h=>absurd h (by omega)
theorem IM {d:Int}{f:Fm}(h:aT d=some f):f.e=-1∨f.e=0∨f.e=1:=by
 unfold aT at h
 repeat' split at h
 all_goals first|(cases h;simp;done)|cases h
section
variable  {ω:Amb}
theorem we (d:Int)(h:Hp)(X:XT):aa Tryz.prog ω mX [.int .i64 d] h (fun r h'=>r=.string (OK d)∧KF h h') X:=by
 refine nq ω _ h _ X ?_;unfold ft aV;have e:(List.toArray [(.string ⟨#[]⟩),(.string ⟨#[65,45,45,45,49,45,45]⟩),(.string ⟨#[65,45,45,45,49,45,45]⟩),(.string ⟨#[45,45,45,45,49,45,45]⟩),(.string ⟨#[65,66,84,78,48,45,45]⟩),(.string ⟨#[65,66,45,45,48,45,45]⟩),(.string ⟨#[65,45,45,45,49,45,45]⟩),(.string ⟨#[65,45,45,45,48,45,45]⟩),(.string ⟨#[65,45,45,45,48,45,45]⟩),(.string ⟨#[65,45,45,45,48,45,45]⟩),(.string ⟨#[65,45,45,45,42,45,45]⟩),(.string ⟨#[65,66,45,45,48,66,69]⟩),(.string ⟨#[65,66,45,45,48,66,45]⟩),(.string ⟨#[45,45,45,45,49,66,45]⟩),(.string ⟨#[45,45,45,45,49,66,69]⟩)])=Oa.toArray:=rfl
 simp only [e];clear e;have hb:=ah (h:=h) (o:=.cells Oa.toArray 9 (0,0));have kp:=ar.push (S:=fun _=>False) h (.cells Oa.toArray 9 (0,0));generalize h.push (.cells Oa.toArray 9 (0,0))=h1 at *;refine ⟨decide (d < 1∨14 < d),?_,fun _=>ae (fun hc=>?_) (fun hc=>?_)⟩
 ·rw [asK_int];refine ae (fun hc=>?_) (fun hc=>?_)
  ·rw [Z7 (.inl (Qj hc))];exact ⟨rfl,trivial⟩
  ·have:=Qc hc;rw [asK_int];refine ⟨?_,trivial⟩
   congr 1
   rw [Qz];simp;omega
 ·refine ⟨?_,kp⟩;rw [OK,sw (Qj hc)]
 ·have hc:=Qc hc;obtain ⟨k,rfl⟩:∃k:Nat,d=k:=⟨d.toNat,by omega⟩
  rw [asI_int];refine ⟨by omega,by omega,?_⟩
  rw [Qm,Nat.mul_one];exact lx hb (Od k (by omega)) ⟨rfl,kp⟩
theorem ir (s:ByteArray){i j:Nat}(hj:j=i+1)(hi:i < s.size)(is:Bool)(h:Hp)(X:XT) :
  aa Tryz.prog ω mD [.string (s.extract i j),.bool is] h (fun r h'=>r=.bool (!decide (cAt s i=45)||is)∧h'=h) X:=by
 refine nw ω _ _ h _ X ?_;unfold fE;refine ⟨fun v h'=>v=.bool (!decide (cAt s i=45)||is)∧h'=h,?_,fun _ _ _ hj=>hj⟩;rw [asS_str,hj,gg s hi];refine ae (fun hc=>?_) (fun hc=>?_)
 ·rw [hc];exact ⟨rfl,rfl⟩
 ·rw [hc];exact ⟨rfl,rfl⟩
end
def PE (x:St):Bool:=match aT x.d with|none=>false|some f=>!qP f x
theorem Av {u:Nat}{c:UInt8}(h:[c]=Lib.decDigits u):u < 10:=by
 have:=congrArg List.length h;rw [Lib.decDigits_length] at this;rcases Nat.lt_or_ge u 10 with h1|h1
 ·exact h1
 ·rw [Lib.nDigits_big (by omega)] at this
  have:=Lib.nDigits_pos (u / 10);simp at *;omega
theorem PQ {f:Fm}(he:f.e=-1∨f.e=0∨f.e=1)(n:Nat):(decide (ecF f=42)||decide ([ecF f]=Lib.itoa (n:Int)))=!(decide (0≤f.e)&&decide ((n:Int)≠f.e)):=by
 rw [Lib.itoa_nonneg];rcases he with he|he|he
 ·rw [ecF,if_pos he,he];rfl
 ·rw [ecF,if_neg (by omega),if_pos he,he]
  rw [Qz];simp only [Bool.or_eq_true,decide_eq_true_eq,Bool.not_eq_true',Bool.and_eq_false_iff,decide_eq_false_iff_not]
  constructor
  ·rintro (h|h)
   ·cases h
   ·have h1:=Av h;rw [Lib.decDigits_one h1] at h
    injection h with h _
    have:(48:UInt8).toNat=(UInt8.ofNat (48+n)).toNat:=by rw [←h]
    rw [UInt8.toNat_ofNat'] at this;rw [show (48:UInt8).toNat=48 from rfl] at this
    exact .inr fun hh=>hh (by omega)
  ·rintro (h|h)
   ·exact absurd (Int.le_refl 0) h
   ·obtain rfl:n=0:=by omega
    exact .inr (by rw [Lib.decDigits_one (by decide)];rfl)
 ·rw [ecF,if_neg (by omega),if_neg (by omega),he]
  rw [Qz];simp only [Bool.or_eq_true,decide_eq_true_eq,Bool.not_eq_true',Bool.and_eq_false_iff,decide_eq_false_iff_not]
  constructor
  ·rintro (h|h)
   ·cases h
   ·have h1:=Av h;rw [Lib.decDigits_one h1] at h
    injection h with h _
    have:(49:UInt8).toNat=(UInt8.ofNat (48+n)).toNat:=by rw [←h]
    rw [UInt8.toNat_ofNat'] at this;rw [show (49:UInt8).toNat=49 from rfl] at this
    exact .inr fun hh=>hh (by omega)
  ·rintro (h|h)
   ·exact absurd (by decide) h
   ·obtain rfl:n=1:=by omega
    exact .inr (by rw [Lib.decDigits_one (by decide)];rfl)
theorem fc0 (f:Fm):decide (cAt (rW f) (Int.toNat 0)=45)=!f.a:=by cases f with|mk a b t n e bo el=>cases a<;>rfl
theorem fc1 (f:Fm):decide (cAt (rW f) (Int.toNat 1)=45)=!f.b:=by cases f with|mk a b t n e bo el=>cases b<;>rfl
theorem fc2 (f:Fm):decide (cAt (rW f) (Int.toNat 2)=45)=!f.t:=by cases f with|mk a b t n e bo el=>cases t<;>rfl
theorem fc3 (f:Fm):decide (cAt (rW f) (Int.toNat 3)=45)=!f.n:=by cases f with|mk a b t n e bo el=>cases n<;>rfl
theorem fc5 (f:Fm):decide (cAt (rW f) (Int.toNat 5)=45)=!f.body:=by cases f with|mk a b t n e bo el=>cases bo<;>rfl
theorem fc6 (f:Fm):decide (cAt (rW f) (Int.toNat 6)=45)=!f.els:=by cases f with|mk a b t n e bo el=>cases el<;>rfl
theorem zq (p q:Bool):(!(!(!p)||q))=(!p&&!q):=by cases p<;>cases q<;>rfl
theorem len0 (n:Nat):(!((n:Int)==0))=decide (0 < n):=by
 rw [Qz];simp;omega
theorem ne0 (n:Int):(!(n==0))=decide (n≠0):=by
 rw [Qz];simp
section
variable  {ω:Amb}
theorem zp (x:St)(ve vb vl:Value)(h:Hp)(he:ExS h ve x.e)(hbd:StS h vb x.body)(hel:StS h vl x.els)(hle:x.e.length≤100000)(ht:fe h)(X:XT) :
  aa Tryz.prog ω kR [.agg (stC x ve vb vl).toArray] h (fun r h'=>r=.bool (PE x)∧KF h h') X:=by
 refine kY ω _ h _ X ?_;unfold ef;simp only [show Value.cells (.agg (stC x ve vb vl).toArray)=(stC x ve vb vl).toArray from rfl]
 have hb1:=ah (h:=h) (o:=.cells (stC x ve vb vl).toArray 39 (0,0));have kp:=ar.push (S:=fun _=>False) h (.cells (stC x ve vb vl).toArray 39 (0,0));generalize h.push (.cells (stC x ve vb vl).toArray 39 (0,0))=h1 at *;refine lx hb1 (j:=0) rfl ?_;refine aa.use (we x.d h1) ?_;rintro _ h2 ⟨rfl,k2⟩;have hb2:=k2.get hb1 (by simp)
 have k02:=kp.trans k2;have he2:=he.aC k02;have hbd2:=hbd.aC k02;have hel2:=hel.aC k02;have htk:fe h2:=ht.more k02;rw [asS_str,eqE];unfold OK PE;cases hf:aT x.d with
 |none=>exact cx (by decide) ⟨rfl,k02⟩
 |some f =>
 refine ba (Z0 fun h=>by cases h) ?_
 simp only [asS_str];refine ⟨fun v h'=>v=.bool (zA f x||(zB f x||(zT f x||(zN f x||(zBo f x||zEl f x)))))∧h2=h',?_,?_⟩
 ·refine ⟨by decide,by decide,by rw [bI];decide,?_⟩
  refine lx hb2 (j:=2) rfl ?_;rw [asS_str,eqE];refine aa.use (ir (rW f) rfl (by rw [bI];decide) _ h2) ?_
  rintro _ _ ⟨rfl,rfl⟩;rw [asB_bool,fc0,zq];refine ae (fun hc=>?_) (fun c0=>?_)
  ·exact ⟨by rw [zA,hc];rfl,rfl⟩
  refine ⟨by decide,by decide,by rw [bI];decide,?_⟩
  refine lx hb2 (j:=3) rfl ?_;rw [asS_str,eqE];refine aa.use (ir (rW f) rfl (by rw [bI];decide) _ _) ?_
  rintro _ _ ⟨rfl,rfl⟩;rw [asB_bool,fc1,zq];refine ae (fun hc=>?_) (fun c1=>?_)
  ·exact ⟨by rw [zA,c0,zB,hc];rfl,rfl⟩
  refine ⟨by decide,by decide,by rw [bI];decide,?_⟩
  refine lx hb2 (j:=4) rfl ?_;rw [asS_str,eqE];refine aa.use (ir (rW f) rfl (by rw [bI];decide) _ _) ?_
  rintro _ _ ⟨rfl,rfl⟩;rw [asB_bool,fc2,zq];refine ae (fun hc=>?_) (fun c2=>?_)
  ·exact ⟨by rw [zA,c0,zB,c1,zT,hc];rfl,rfl⟩
  refine ⟨by decide,by decide,by rw [bI];decide,?_⟩
  refine lx hb2 (j:=5) rfl ?_;rw [asK_int];refine aa.use (ir (rW f) rfl (by rw [bI];decide) _ _) ?_
  rintro _ _ ⟨rfl,rfl⟩;rw [asB_bool,fc3,zq,ne0];refine ae (fun hc=>?_) (fun c3=>?_)
  ·exact ⟨by rw [zA,c0,zB,c1,zT,c2,zN,hc];rfl,rfl⟩
  refine ⟨by decide,by decide,by rw [bI];decide,?_⟩
  refine lx hb2 (j:=7) rfl ?_;refine hbd2.sl fun _ _=>?_;refine aa.use (ir (rW f) rfl (by rw [bI];decide) _ _) ?_
  rintro _ _ ⟨rfl,rfl⟩;rw [asB_bool,fc5,zq,len0];refine ae (fun hc=>?_) (fun c5=>?_)
  ·exact ⟨by rw [zA,c0,zB,c1,zT,c2,zN,c3,zBo,hc];rfl,rfl⟩
  refine ⟨by decide,by decide,by rw [bI];decide,?_⟩
  refine lx hb2 (j:=8) rfl ?_;refine hel2.sl fun _ _=>?_;refine aa.use (ir (rW f) rfl (by rw [bI];decide) _ _) ?_
  rintro _ _ ⟨rfl,rfl⟩;rw [asB_bool,fc6,zq,len0];exact ⟨by rw [zA,c0,zB,c1,zT,c2,zN,c3,zBo,c5,zEl];rfl,rfl⟩
 rintro _ _ _ ⟨rfl,rfl⟩;rw [asB_bool];have hbad:qP f x=((zA f x||(zB f x||(zT f x||(zN f x||(zBo f x||zEl f x)))))||zE f x):=by
  unfold qP;generalize zA f x=a,zB f x=b,zT f x=t,zN f x=n,zBo f x=bo,zEl f x=el,zE f x=e;cases a<;>cases b<;>cases t<;>cases n<;>cases bo<;>cases el<;>cases e<;>rfl
 refine ae (fun hc=>?_) (fun hc=>?_)
 ·exact ⟨by simp only [hbad,hc];rfl,k02⟩
 rw [hc,Za] at hbad;refine ⟨fun v h'=>v=.bool (!zE f x)∧KF h2 h',?_,?_⟩
 ·refine ⟨by decide,by decide,by rw [bI];decide,?_⟩
  have ho:(ByteArray.toList (ByteArray.extract (rW f) (Int.toNat 4) (Int.toNat 5))==ByteArray.toList ⟨#[42]⟩)=decide (ecF f=42):=gg (rW f) (i:=4) (by rw [bI];decide) 42
  have hec:=PQ (IM hf) x.e.length;have hz:zE f x=(decide (0≤f.e)&&decide ((x.e.length:Int)≠f.e)):=rfl;rw [←hz] at hec;rw [ho];refine ae (fun hc=>?_) (fun hc=>?_)
  ·rw [hc,Bool.true_or] at hec;exact ⟨by rw [←hec],ar.refl _ _⟩
  rw [hc,Za] at hec;refine ⟨by decide,by decide,by rw [bI];decide,?_⟩
  refine lx hb2 (j:=6) rfl ?_;refine he2.sl fun _ _=>?_;refine aa.use (xR x.e.length (by omega) (by omega) h2 htk) ?_
  rintro _ h3 ⟨rfl,k3⟩;rw [asS_str];refine ⟨?_,k3⟩;rw [←hec,eqS];rfl
 rintro _ _ h3 ⟨rfl,k3⟩;simp only [hbad];exact ⟨trivial,k02.trans k3⟩
end
theorem Cw {l:List Ex}{k:Nat}(h:esF (l.take k)≠0):esF l=esF (l.take k):=by
 have:=BI (l.take k) (l.drop k);rw [Q8] at this;rw [this,tT h]
theorem fa0 (f:Fm):decide (cAt (rW f) 0=65)=f.a:=by cases f with|mk a b t n e bo el=>cases a<;>rfl
theorem fa1 (f:Fm):decide (cAt (rW f) 1=66)=f.b:=by cases f with|mk a b t n e bo el=>cases b<;>rfl
theorem fa2 (f:Fm):decide (cAt (rW f) 2=84)=f.t:=by cases f with|mk a b t n e bo el=>cases t<;>rfl
theorem fa5 (f:Fm):decide (cAt (rW f) 5=66)=f.body:=by cases f with|mk a b t n e bo el=>cases bo<;>rfl
theorem ob0 (f:Fm):(ByteArray.toList (ByteArray.extract (rW f) (Int.toNat 0) (Int.toNat 1))==ByteArray.toList ⟨#[65]⟩)=f.a:=(gg (rW f) (i:=0) (by rw [bI];decide) 65).trans (fa0 f)
theorem ob1 (f:Fm):(ByteArray.toList (ByteArray.extract (rW f) (Int.toNat 1) (Int.toNat 2))==ByteArray.toList ⟨#[66]⟩)=f.b:=(gg (rW f) (i:=1) (by rw [bI];decide) 66).trans (fa1 f)
theorem ob2 (f:Fm):(ByteArray.toList (ByteArray.extract (rW f) (Int.toNat 2) (Int.toNat 3))==ByteArray.toList ⟨#[84]⟩)=f.t:=(gg (rW f) (i:=2) (by rw [bI];decide) 84).trans (fa2 f)
theorem ob5 (f:Fm):(ByteArray.toList (ByteArray.extract (rW f) (Int.toNat 5) (Int.toNat 6))==ByteArray.toList ⟨#[66]⟩)=f.body:=(gg (rW f) (i:=5) (by rw [bI];decide) 66).trans (fa5 f)
section
variable  {ω:Amb}
set_option maxHeartbeats 400000 in
theorem xF (x:St)(ve vb vl:Value)(at_ deep:Int)(h:Hp)(he:ExS h ve x.e)(hbd:StS h vb x.body)(hel:StS h vl x.els)(hle:stN x≤100000)(hok:AB x)(ht:fe h)(X:XT) :
  aa Tryz.prog ω j3 [.agg (stC x ve vb vl).toArray,.int .i64 at_,.int .i64 deep] h (fun r h'=>r=.int .i64 (stH x at_ deep)∧KF h h') X:=by
 refine j7 ω _ _ _ h _ X ?_;unfold dN;simp only [show Value.cells (.agg (stC x ve vb vl).toArray)=(stC x ve vb vl).toArray from rfl]
 have hb1:=ah (h:=h) (o:=.cells (stC x ve vb vl).toArray 39 (0,0));have kp:=ar.push (S:=fun _=>False) h (.cells (stC x ve vb vl).toArray 39 (0,0));generalize h.push (.cells (stC x ve vb vl).toArray 39 (0,0))=h1 at *;obtain ⟨ha,hb,hty,hok3⟩:=gl.1 hok;have hxe:=jN x;have hlen:=gj x.e;have ha:x.a.size≤20000:=Nat.le_trans ha (by omega)
 have hb:x.b.size≤20000:=Nat.le_trans hb (by omega)
 have hty:x.t.size≤20000:=Nat.le_trans hty (by omega)
 rw [asK_int];refine ae (fun hc=>?_) (fun hc=>?_)
 ·have:=Qj hc;exact ⟨by rw [stH,if_pos (by omega)],kp⟩
 have hat:=Qc hc;have hH:stH x at_ deep=match aT x.d with|none=>5|some f=>if qP f x then 5 else if 6 < x.e.length then 8 else stR f x deep:=by (rw [stH,if_neg (by omega)];try rfl)
 refine ⟨_,ak hb1 rfl,?_⟩;refine aa.use (zp x ve vb vl h1 (he.aC kp) (hbd.aC kp) (hel.aC kp) (by omega) (ht.more kp)) ?_
 rintro _ h2 ⟨rfl,k2⟩;have hb2:=k2.get hb1 (by simp)
 have k02:=kp.trans k2;rw [asB_bool];unfold PE;cases hf:aT x.d with
 |none=>exact cx rfl ⟨by rw [hH,hf],k02⟩
 |some f =>
 rw [hf] at hH
 dsimp only at hH ⊢
 rw [Bool.not_not];refine ae (fun hc=>?_) (fun hbad=>?_)
 ·exact ⟨by rw [hH,if_pos hc],k02⟩
 rw [if_neg (by rw [hbad];decide)] at hH
 refine lx hb2 (j:=6) rfl ?_;have he2:=he.aC k02;refine he2.sl fun _ _=>?_;refine ae (fun hc=>?_) (fun hc=>?_)
 ·have:=Qj hc;exact ⟨by rw [hH,if_pos (by omega)],k02⟩
 have h6:=Qc hc;rw [if_neg (by omega)] at hH
 obtain ⟨bA,bB,bT,bN,bE,bBo,bEl⟩:=Bw hbad;refine lx hb2 (j:=0) rfl ?_;refine aa.use (we x.d h2) ?_;rintro _ h3 ⟨rfl,k3⟩;have hb3:=k3.get hb2 (by simp)
 have k03:=k02.trans k3;rw [OK,hf]
 dsimp only
 simp only [asS_str,bI,ob0,ob1,ob2,ob5];have hR:stR f x deep=orF (if f.a&&!aL x.a then 4 else 0) (orF (if f.b&&!aL x.b then 4 else 0) (orF (if f.t&&!ck x.t 3 then 11 else 0) (orF (if decide (x.n < 0∨1000000000000000000≤x.n) then 14 else 0) (orF (esF x.e) (if f.body&&decide (8≤deep) then 7 else 0))))):=by
  rw [stR,tx bA,tx bB]
 rw [hR] at hH;refine ⟨fun v h'=>v=.bool ((f.a&&!aL x.a)||(f.b&&!aL x.b))∧KF h3 h',?_,?_⟩
 ·refine ⟨by decide,by decide,by decide,ae (fun hfa=>?_) (fun hfa=>?_)⟩
  ·refine lx hb3 (j:=2) rfl ?_;refine aa.use (iv x.a ha h3) ?_;rintro _ h4 ⟨rfl,k4⟩;have hb4:=k4.get hb3 (by simp)
   rw [asB_bool,hfa,Zb];refine ae (fun hc=>?_) (fun hc=>?_)
   ·exact ⟨by rw [hc];rfl,k4⟩
   rw [hc,Za];refine ⟨by decide,by decide,by decide,ae (fun hfb=>?_) (fun hfb=>?_)⟩
   ·refine lx hb4 (j:=3) rfl ?_;refine aa.use (iv x.b hb h4) ?_;rintro _ h5 ⟨rfl,k5⟩;rw [asB_bool,hfb];exact ⟨rfl,k4.trans k5⟩
   ·rw [hfb];exact ⟨rfl,k4⟩
  ·rw [hfa,Bool.false_and,Za];refine ⟨by decide,by decide,by decide,ae (fun hfb=>?_) (fun hfb=>?_)⟩
   ·refine lx hb3 (j:=3) rfl ?_;refine aa.use (iv x.b hb h3) ?_;rintro _ h5 ⟨rfl,k5⟩;rw [asB_bool,hfb];exact ⟨rfl,k5⟩
   ·rw [hfb];exact ⟨rfl,ar.refl _ _⟩
 rintro _ _ h4 ⟨rfl,k4⟩;have hb4:=k4.get hb3 (by simp)
 have k04:=k03.trans k4;rw [asB_bool];refine ae (fun hc=>?_) (fun hc=>?_)
 ·refine ⟨?_,k04⟩;rw [hH];rcases Bool.or_eq_true_iff.1 hc with h|h
  ·rw [h,if_pos rfl];rfl
  ·rw [h,if_pos rfl];cases (f.a&&!aL x.a)<;>rfl
 obtain ⟨n1,n2⟩:=Bool.or_eq_false_iff.1 hc;rw [n1,n2,if_neg (by decide),nF,nF] at hH
 refine ⟨fun v h'=>v=.bool (f.t&&!ck x.t 3)∧KF h4 h',?_,?_⟩
 ·refine ⟨by decide,by decide,by decide,ae (fun hft=>?_) (fun hft=>?_)⟩
  ·refine lx hb4 (j:=4) rfl ?_;refine aa.use (wA x.t 3 hty h4) ?_;rintro _ h5 ⟨rfl,rfl⟩;rw [asB_bool,hft];exact ⟨rfl,ar.refl _ _⟩
  ·rw [hft];exact ⟨rfl,ar.refl _ _⟩
 rintro _ _ h5 ⟨rfl,k5⟩;have hb5:=k5.get hb4 (by simp)
 have k05:=k04.trans k5;rw [asB_bool];refine ae (fun hc=>?_) (fun hc=>?_)
 ·refine ⟨?_,k05⟩;rw [hH,hc];rfl
 rw [hc,if_neg (by decide),nF] at hH
 refine ⟨decide (x.n < 0∨1000000000000000000≤x.n),?_,fun _=>ae (fun hc=>?_) (fun hc=>?_)⟩
 ·refine lx hb5 (j:=5) rfl ?_;rw [asK_int];refine ae (fun hc=>?_) (fun hc=>?_)
  ·rw [Z7 (.inl (Qj hc))];exact ⟨rfl,trivial⟩
  refine lx hb5 (j:=5) rfl ?_;rw [asK_int];have:=Qc hc;refine ⟨?_,trivial⟩
  congr 1
  rw [Qz];simp;omega
 ·refine ⟨?_,k05⟩;rw [hH,hc];rfl
 rw [hc,if_neg (by decide),nF] at hH
 refine ⟨fun t h'=>∃k:Nat,t=.int .i64 k∧k≤x.e.length∧esF (x.e.take k)=0∧KF h5 h',fun t _=>match t with|.int _ k=>x.e.length - k.toNat|_=>0,
  ⟨0,rfl,by omega,rfl,ar.refl _ _⟩,?_⟩
 rintro _ _ h6' ⟨k,rfl,hk,hs,k6⟩;have hb6:=k6.get hb5 (by simp)
 have k06:=k05.trans k6;have he6:=he.aC k06;refine lx hb6 (j:=6) rfl ?_;refine he6.sl fun _ _=>?_;rw [asK_int];refine ae (fun hc=>?_) (fun hc=>?_)
 rotate_left
 ·have hc:=Qc hc;obtain rfl:k=x.e.length:=by omega
  rw [Qo] at hs;rw [hs,nF] at hH;refine ⟨f.body&&decide (8≤deep),?_,fun _=>ae (fun hc=>?_) (fun hc=>?_)⟩
  ·refine ⟨by decide,by decide,by decide,ae (fun hc=>?_) (fun hc=>?_)⟩
   ·rw [hc,asK_int];exact ⟨rfl,trivial⟩
   ·rw [hc];exact ⟨rfl,trivial⟩
  ·exact ⟨by rw [hH,hc];rfl,k06⟩
  ·exact ⟨by rw [hH,hc];rfl,k06⟩
 have hkl:k < x.e.length:=by
  have:=Qj hc;omega
 have hx:=Q7 hkl;have hmem:x.e[k]∈x.e:=Qv hkl;generalize x.e[k]=y at hx hmem;have hyn:=cr hmem;have hyo:=cb hok3.1 hmem;refine lx hb6 (j:=6) rfl ?_;refine he6.rdC hx fun w hw=>?_;refine aa.use (ED _ y (Qw _) (by omega) h6' w hw) ?_
 rintro _ h7 ⟨rfl,k7⟩;have hb7:=k7.get hb6 (by simp)
 have k07:=k06.trans k7;have hsn:esF (x.e.take (k+1))=eF1 y:=by rw [aZ hx,Cr,hs,nF]
 rw [asK_int];refine ae (fun hc=>?_) (fun hc=>?_)
 ·have hgt:=Qj hc;have h8:eF1 y=8:=by rw [eF1,if_pos (by omega)];rfl
  refine ⟨?_,k07⟩;rw [hH,Cw (k:=k+1) (by rw [hsn,h8];decide),hsn,h8]
  rfl
 have hgt:=Qc hc;have h8:eF1 y=exF y:=by rw [eF1,if_neg (by omega)];rfl
 refine lx hb7 (j:=6) rfl ?_;refine (he.aC k07).rdC hx fun w' hw'=>?_;refine aa.use (xU _ y (Qw _) (by omega) hyo h7 w' hw') ?_
 rintro _ h9 ⟨rfl,k9⟩;rw [asK_int];refine ae (fun hc=>?_) (fun hc=>?_)
 ·have hne:=Ze.1 hc;refine ⟨?_,k07.trans k9⟩;rw [hH,Cw (k:=k+1) (by rw [hsn,h8];exact hne),hsn,h8,tT hne]
 ·have hne:exF y=0:=by simpa using hc
  rw [asK_int,i64_in (by omega) (by omega)]
  exact ⟨⟨k+1,by simp,by omega,by rw [hsn,h8,hne],(k6.trans k7).trans k9⟩,by simp;omega⟩
end
theorem uD (e:Int×Int)(f:Int→FR):rO (.error e) f=.error e:=rfl
def sRes (r:FR)(v:Value):Prop:=match r with
 |.ok n=>v=.tuple #[.agg (flt 0 0).toArray,.int .i64 n]
 |.error e=>∃m,v=.tuple #[.agg (flt e.1 e.2).toArray,.int .i64 m]
theorem O0 {h h1 h2:Hp}(k:KF h h1)(k2:ar (fun b=>b=h.size) h1 h2):KF h h2 :=
 ((k.mono (fun _ _ h=>h.elim)).trans k2).mono fun b hb e=>by omega
section
variable  {ω:Amb}
set_option maxHeartbeats 400000 in
theorem vg:∀(N:Nat) (l:List St),cc l < N→cc l≤100000→ey l→∀(v:Value) (at_ deep:Int) (h:Hp),StS h v l→fe h→0≤at_→at_≤300→0≤deep→deep+cc l≤200000→∀(X:XT),
  aa Tryz.prog ω js [v,.int .i64 at_,.int .i64 deep] h (fun r h'=>sRes (jk l at_ deep) r∧KF h h') X:=by
 intro N
 induction N with
 |zero=>exact fun l hN=>absurd hN (Nat.not_lt_zero _)
 |succ N ih =>
  intro l hN hle hok v at_ deep h hs ht ha0 ha1 hd0 hd1 X;refine jq ω _ _ _ h _ X ?_;unfold dy;have hlen:=pz l;have hb0:=ah (h:=h) (o:=.cells (flt 0 0).toArray 28 (0,0));have kp:=ar.push (S:=fun _=>False) h (.cells (flt 0 0).toArray 28 (0,0));simp only [show [(.int .i64 0),(.int .i64 0)]=flt 0 0 from rfl]
  generalize h.push (.cells (flt 0 0).toArray 28 (0,0))=h0 at *;refine ⟨fun m t h'=>∃(z:Int) (k:Nat),m=.int .i64 z∧t=.int .i64 k∧k≤l.length∧0≤z∧z≤300∧jk l at_ deep=jk (l.drop k) z deep∧KF h0 h',
   fun _ t _=>match t with|.int _ k=>l.length - k.toNat|_=>0,⟨at_,0,rfl,rfl,by omega,ha0,ha1,rfl,ar.refl _ _⟩,?_⟩
  rintro _ _ _ h5 ⟨z,k,rfl,rfl,hk,hz0,hz1,hz2,k5⟩;have hb5:=k5.get hb0 (by simp)
  have k05:=kp.trans k5;have hs5:=hs.aC k05;refine hs5.sl fun _ _=>?_;rw [asK_int];refine ae (fun hc=>?_) (fun hc=>?_)
  rotate_left
  ·have hc:=Qc hc;obtain rfl:k=l.length:=by omega
   rw [Qt] at hz2;refine ⟨trivial,bu 0 0,zd hb5 rfl rfl fun h' kk hb'=>⟨?_,O0 k05 kk⟩⟩;rw [hz2];rfl
  have hkl:k < l.length:=by
   have:=Qj hc;omega
  have hx:=Q7 hkl;have hdr:=gT hx;have hmem:l[k]∈l:=Qv hkl;generalize l[k]=x at hx hmem hdr;have hxn:=im hmem;have hxe:=jN x;have hxo:=oT hok hmem;obtain ⟨_,_,_,_,hob,hoe⟩:=gl.1 hxo;rw [hdr,kE,Aj] at hz2;refine hs5.rdC hx fun ve vb vl he hbd hel=>?_;refine aa.use (xF x ve vb vl z deep h5 he hbd hel (by omega) hxo (ht.more k05)) ?_
  rintro _ h6 ⟨rfl,k6⟩;have hb6:=k6.get hb5 (by simp)
  have k06:=k05.trans k6;rw [asK_int];refine ae (fun hc=>?_) (fun hc=>?_)
  ·have hne:=Ze.1 hc;rw [if_pos hne,uD] at hz2;refine aa.use (On _ z h6) ?_;rintro _ h7 ⟨rfl,k7⟩;have hb7:=k7.get hb6 (by simp)
   rw [asA_agg];refine ⟨rfl,bu _ z,zd hb7 rfl rfl fun h' kk hb'=>⟨?_,O0 (k06.trans k7) kk⟩⟩;rw [hz2];exact ⟨z,rfl⟩
  have hH0:stH x z deep=0:=by simpa using hc
  rw [if_neg (fun h=>h hH0)] at hz2;have hz3:z < 300:=by
   rcases Int.lt_or_le z 300 with h1|h1
   ·exact h1
   ·rw [stH,if_pos h1] at hH0;cases hH0
  rw [asK_int];refine (hs.aC k06).rdO hx (o:=7) fun ve vb vl he hbd hel=>⟨vb,rfl,?_⟩;rw [asK_int,i64_in (by omega) (by omega),i64_in (by omega) (by omega)]
  refine aa.use (ih x.body (by omega) (by omega) hob vb (z+1) (deep+1) h6 hbd (ht.more k06) (by omega) (by omega) (by omega) (by omega)) ?_
  rintro r h7 ⟨hr,k7⟩;have hb7:=k7.get hb6 (by simp)
  have k07:=k06.trans k7;have hok1:=kg x.body (z+1) (deep+1) (by omega)
  obtain ⟨c,a,m,rfl,hq⟩:∃c a m,r=.tuple #[.agg (flt c a).toArray,.int .i64 m]∧((c≠0∧jk x.body (z+1) (deep+1)=.error (c,a))∨(c=0∧a=0∧jk x.body (z+1) (deep+1)=.ok m∧z+1≤m∧m≤300)):=by
   revert hr hok1
   cases jk x.body (z+1) (deep+1) with
   |error e=>exact fun ⟨m,hm⟩ hne=>⟨e.1,e.2,m,hm,.inl ⟨hne,rfl⟩⟩
   |ok n=>exact fun hm hne=>⟨0,0,n,hm,.inr ⟨rfl,rfl,rfl,hne⟩⟩
  rw [IJ,asA_agg];refine ⟨rfl,bu c a,aA (cs:=flt c a) rfl ?_⟩;have hb8:=ah (h:=h7) (o:=.cells (flt c a).toArray 28 (0,0));have k8:=ar.push (S:=fun _=>False) h7 (.cells (flt c a).toArray 28 (0,0));have z8:(h7.push (.cells (flt c a).toArray 28 (0,0))).size=h7.size+1:=by simp
  have k7s:=k07.size;generalize h7.push (.cells (flt c a).toArray 28 (0,0))=h8 at *;have k08:=k07.trans k8;have hL0:=gd hb7;refine lx hb8 (j:=0) rfl ?_;rw [asK_int];refine ⟨fun mv h'=>∃c' a' m',mv=.int .i64 m'∧h'[h7.size]?=some (.cells (flt c' a').toArray 28 (0,0))∧KF h7 h' ∧
   ((c'≠0∧rO (jk x.body (z+1) (deep+1)) (fun n=>jk x.els n (deep+1))=.error (c',a'))∨(c'=0∧rO (jk x.body (z+1) (deep+1)) (fun n=>jk x.els n (deep+1))=.ok m'∧0≤m'∧m'≤300)),?_,?_⟩
  ·refine ae (fun hc=>?_) (fun hc=>?_)
   ·have h0:c=0:=Zg hc;obtain ⟨_,rfl,hm,hm1,hm2⟩:=hq.resolve_left fun hh=>hh.1 h0;subst h0;rw [hm,lP];refine (hs.aC k08).rdO hx (o:=8) fun ve vb vl he hbd hel=>⟨vl,rfl,?_⟩;rw [asK_int,i64_in (by omega) (by omega)]
    refine aa.use (ih x.els (by omega) (by omega) hoe vl m (deep+1) h8 hel (ht.more k08) (by omega) (by omega) (by omega) (by omega)) ?_
    rintro r h9 ⟨hr,k9⟩;have hb9:=k9.get hb8 (by simp)
    have hok2:=kg x.els m (deep+1) (by omega)
    obtain ⟨c,a,m2,rfl,hq⟩:∃c a m2,r=.tuple #[.agg (flt c a).toArray,.int .i64 m2]∧((c≠0∧jk x.els m (deep+1)=.error (c,a))∨(c=0∧jk x.els m (deep+1)=.ok m2∧0≤m2∧m2≤300)):=by
     revert hr hok2
     cases jk x.els m (deep+1) with
     |error e=>exact fun ⟨m,hm⟩ hne=>⟨e.1,e.2,m,hm,.inl ⟨hne,rfl⟩⟩
     |ok n=>exact fun hm hne=>⟨0,0,n,hm,.inr ⟨rfl,rfl,by have:=hne.1;omega,hne.2⟩⟩
    rw [IJ,asA_agg];refine ⟨rfl,bu c a,aW hb9 (by simp [flt]) ?_⟩
    rw [ca (by simp [flt])]
    exact ⟨c,a,m2,rfl,aq hb9,O0 (k8.trans k9) (ar.set (S:=fun b=>b=h7.size) _ rfl),hq⟩
   ·have hne:c≠0:=Qa.1 hc;obtain ⟨_,hm⟩:=hq.resolve_right fun hh=>hne hh.1;exact ⟨c,a,m,rfl,hb8,k8,.inl ⟨hne,by rw [hm];rfl⟩⟩
  rintro _ _ h9 ⟨c',a',m',rfl,hb9,k79,hr'⟩;have k09:=k07.trans k79;have hbL:=k79.get hb7 (by simp)
  refine lx hb9 (j:=0) rfl ?_;rw [asK_int];refine ae (fun hc=>?_) (fun hc=>?_)
  ·have hne:=Ze.1 hc;obtain ⟨_,hm⟩:=hr'.resolve_right fun hh=>hne hh.1;rw [hm,uD] at hz2;refine ⟨_,ak hb9 rfl,rfl,bu c' a',zd hbL rfl rfl fun h' kk hb'=>⟨?_,O0 k09 kk⟩⟩;rw [hz2];exact ⟨m',rfl⟩
  ·have h0:c'=0:=by simpa using hc
   obtain ⟨_,hm,hm1,hm2⟩:=hr'.resolve_left fun hh=>hh.1 h0;rw [hm,lP] at hz2;rw [asK_int,i64_in (by omega) (by omega)]
   exact ⟨⟨m',k+1,rfl,by simp,by omega,hm1,hm2,hz2,((k5.trans k6).trans k7).trans k79⟩,by simp;omega⟩
end
theorem Af {l:List (ByteArray×ByteArray)}{k:Nat}(h:rV (l.take k)≠0):rV l=rV (l.take k):=by
 have:=tN (l.take k) (l.drop k);rw [Q8] at this;rw [this,tT h]
section
variable  {ω:Amb}
theorem O7 {hc:Hp}{L:Nat}{ds:List Value}(hw:hc[L]?=some (.cells ds.toArray 28 (0,0)))(hd:ds.length=2)(c a:Int){R:RT}
  (hR:∀h',ar (fun k=>k=L) hc h'→R (.agg (flt c a).toArray) h') (X:XT) :
  aa Tryz.prog ω fQ [.int .i64 c,.int .i64 a] hc (fun r h'=>asA r fun A=>A.size=2∧(∀u∈A.toList,one u)∧av h' ⟨L,0,none⟩ A.toList fun h''=>∃C,aj h'' ⟨L,0,none⟩ 2 C∧R (.agg C.toArray) h'') X:=by
 refine aa.use (On c a hc) ?_;rintro _ h7 ⟨rfl,k7⟩;rw [asA_agg];exact ⟨rfl,bu c a,zd (k7.get hw (by simp)) hd rfl fun h' kk _=>hR h' ((k7.mono fun _ _ h=>h.elim).trans kk)⟩
set_option maxHeartbeats 400000 in
theorem xD (p:List Sg)(hsm:Small p)(v:Value)(h:Hp)(hp:PgS h v p)(ht:fe h)(X:XT) :
  aa Tryz.prog ω kq [v] h (fun r h'=>r=.agg (flt (ji (bC p)).1 (ji (bC p)).2).toArray∧KF h h') X:=by
 obtain ⟨w0,rfl,hs⟩:=hp;refine jW ω _ h _ X ?_;unfold dE bb au;simp only [show Value.cells (.agg #[w0])=[w0].toArray from rfl,show [(.int .i64 0),(.int .i64 0)]=flt 0 0 from rfl]
 have hlen:=hsm.len;have hb0:=ah (h:=h) (o:=.cells [w0].toArray 24 (0,0));have k0:=ar.push (S:=fun _=>False) h (.cells [w0].toArray 24 (0,0));have z0:(h.push (.cells [w0].toArray 24 (0,0))).size=h.size+1:=by simp
 generalize h.push (.cells [w0].toArray 24 (0,0))=h1 at *;have hb1:=ah (h:=h1) (o:=.cells (flt 0 0).toArray 28 (0,0));have k1:=ar.push (S:=fun _=>False) h1 (.cells (flt 0 0).toArray 28 (0,0));generalize h1.push (.cells (flt 0 0).toArray 28 (0,0))=h2 at *;have hb0:=k1.get hb0 (by simp)
 have k02:=k0.trans k1;have hs2:=hs.aC k02;have hL:h.size≤h1.size:=by omega
 refine lx hb0 (j:=0) rfl ?_;refine hs2.sl fun _ _=>?_;refine ae (fun hc=>?_) (fun hc=>?_)
 ·have h0:p.length=0:=by simpa using hc
  refine O7 hb1 rfl 10 (-1) (R:=fun r h'=>r=Value.agg (flt (ji (bC p)).1 (ji (bC p)).2).toArray∧KF h h') (fun h' kk=>⟨?_,GW k02 hL kk⟩) X;rw [bC,if_pos h0];rfl
 have hn0:p.length≠0:=by simpa using hc
 refine lx hb0 (j:=0) rfl ?_;refine hs2.sl fun _ _=>?_;refine ae (fun hc=>?_) (fun hc=>?_)
 ·have h0:=Qj hc;refine O7 hb1 rfl 8 (-1) (R:=fun r h'=>r=Value.agg (flt (ji (bC p)).1 (ji (bC p)).2).toArray∧KF h h') (fun h' kk=>⟨?_,GW k02 hL kk⟩) X;rw [bC,if_neg hn0,if_pos (by omega)]
  rfl
 have hn1:=Qc hc;have hF:bC p=uZ p 0 0:=by rw [bC,if_neg hn0,if_neg (by omega)]
 rw [hF];refine ⟨fun m t h'=>∃(z:Int) (k:Nat),m=.int .i64 z∧t=.int .i64 k∧k≤p.length∧0≤z∧z≤300∧uZ p 0 0=uZ (p.drop k) k z∧KF h2 h',
  fun _ t _=>match t with|.int _ k=>p.length - k.toNat|_=>0,⟨0,0,rfl,rfl,by omega,by omega,by omega,rfl,ar.refl _ _⟩,?_⟩
 rintro _ _ _ h3 ⟨z,k,rfl,rfl,hk,hz0,hz1,hz2,k3⟩;have hb03:=k3.get hb0 (by simp)
 have hb13:=k3.get hb1 (by simp)
 have k03:=k02.trans k3;have hs3:=hs.aC k03;refine lx hb03 (j:=0) rfl ?_;refine hs3.sl fun _ _=>?_;rw [asK_int];refine ae (fun hc=>?_) (fun hc=>?_)
 rotate_left
 ·have hc:=Qc hc;obtain rfl:k=p.length:=by omega
  rw [Qt] at hz2;refine ⟨trivial,bu 0 0,zd hb13 rfl rfl fun h' kk hb'=>⟨?_,GW k03 hL kk⟩⟩;rw [hz2];rfl
 have hkl:k < p.length:=by
  have:=Qj hc;omega
 have hx:=Q7 hkl;have hdr:=gT hx;have hmem:p[k]∈p:=Qv hkl;generalize p[k]=x at hx hmem hdr;obtain ⟨hnm,hpl,hpn,hbo⟩:=hsm.nm x hmem;have hnm:x.nm.size≤20000:=Nat.le_trans hnm (by omega)
 have hxb:cc x.body≤20000:=Nat.le_trans (ue hmem) hsm.tot;rw [hdr] at hz2;have hz2:uZ p 0 0=if sgH x≠0 then .error (sgH x,-2 - k) else rO (jk x.body z 1) fun n=>uZ (p.drop (k+1)) (k+1) n:=hz2
 refine lx hb03 (j:=0) rfl ?_;refine hs3.rdC hx fun vp vb hps hbd=>?_;refine ⟨rfl,lY (ew hps.2) hbd.b8,aA (cs:=sgC x vp vb) rfl ?_⟩;have hb4:=ah (h:=h3) (o:=.cells (sgC x vp vb).toArray 41 (0,0));have k4:=ar.push (S:=fun _=>False) h3 (.cells (sgC x vp vb).toArray 41 (0,0));generalize h3.push (.cells (sgC x vp vb).toArray 41 (0,0))=h4 at *;have hps:=(hps.aC k4).1;have hbd:=hbd.aC k4;have hb14:=k4.get hb13 (by simp)
 have k04:=k03.trans k4;refine lx hb4 (j:=0) rfl ?_;refine aa.use (iv x.nm hnm h4) ?_;rintro _ h5 ⟨rfl,k5⟩;have hb5:=k5.get hb4 (by simp)
 have hb15:=k5.get hb14 (by simp)
 have k05:=k04.trans k5;rw [asB_bool];have bad:∀{hh:Hp} (c:Int),sgH x=c→c≠0→KF h hh→hh[h1.size]?=some (.cells (flt 0 0).toArray 28 (0,0)) →
   asK .i64 (.int .i64 k) fun n=>aa Tryz.prog ω fQ [.int .i64 c,.int .i64 (IntKind.wrap .i64 (-2 - n))] hh (fun r h'=>asA r fun A=>A.size=2∧(∀u∈A.toList,one u)∧av h' ⟨h1.size,0,none⟩ A.toList fun h''=>∃C,aj h'' ⟨h1.size,0,none⟩ 2 C ∧
    (fun r h'=>r=Value.agg (flt (ji (uZ p 0 0)).1 (ji (uZ p 0 0)).2).toArray∧KF h h') (.agg C.toArray) h'') X:=by
  intro hh c hc hne kh hbh;rw [asK_int,i64_in (by omega) (by omega)]
  refine O7 hbh rfl c (-2 - k) (R:=fun r h'=>r=Value.agg (flt (ji (uZ p 0 0)).1 (ji (uZ p 0 0)).2).toArray∧KF h h') (fun h' kk=>⟨?_,GW kh hL kk⟩) X;rw [hz2,hc,if_pos hne];rfl
 refine ae (fun hc=>?_) (fun hc=>?_)
 ·exact bad 4 (by rw [sgH,if_pos hc];rfl) (by decide) k05 hb15
 have hH1:sgH x=orF (if decide (6 < x.ps.length) then 8 else 0) (rV x.ps):=by rw [sgH,if_neg (by rw [hc];decide),nF]
 refine lx hb5 (j:=2) rfl ?_;have hps5:=bm.aC hps k5;refine bm.sl hps5 fun _ _=>?_;refine ae (fun hc=>?_) (fun hc=>?_)
 ·have h6:=Qj hc;exact bad 8 (by rw [hH1,Z7 (by omega)];rfl) (by decide) k05 hb15
 have h6:=Qc hc;have hH2:sgH x=rV x.ps:=by rw [hH1,Z0 (by omega)];rfl
 refine ⟨fun t h'=>∃j:Nat,t=.int .i64 j∧j≤x.ps.length∧rV (x.ps.take j)=0∧KF h5 h',fun t _=>match t with|.int _ k=>x.ps.length - k.toNat|_=>0,⟨0,rfl,by omega,rfl,ar.refl _ _⟩,?_⟩
 rintro _ _ h6' ⟨j,rfl,hj,hq,k6⟩;have hb6:=k6.get hb5 (by simp)
 have hb16:=k6.get hb15 (by simp)
 have k06:=k05.trans k6;have hps6:=bm.aC hps5 k6;refine lx hb6 (j:=2) rfl ?_;refine bm.sl hps6 fun _ _=>?_;rw [asK_int];refine ae (fun hc=>?_) (fun hc=>?_)
 ·have hjl:j < x.ps.length:=by
   have:=Qj hc;omega
  have hy:=Q7 hjl;have hqm:x.ps[j]∈x.ps:=Qv hjl;generalize x.ps[j]=q at hy hqm;obtain ⟨hq1,hq2⟩:=hpn q hqm;have hq1:q.1.size≤20000:=Nat.le_trans hq1 (by omega)
  have hq2:q.2.size≤20000:=Nat.le_trans hq2 (by omega)
  have hsn:rV (x.ps.take (j+1))=prF q:=by rw [aZ hy,zt,hq,nF]
  refine lx hb6 (j:=2) rfl ?_;refine bm.rdT (f:=pf) hps6 ic hy (o:=0) rfl ?_;refine aa.use (iv q.1 hq1 h6') ?_;rintro _ h7 ⟨rfl,k7⟩;have hb7:=k7.get hb6 (by simp)
  have hb17:=k7.get hb16 (by simp)
  have k07:=k06.trans k7;rw [asB_bool];refine ae (fun hc=>?_) (fun hc=>?_)
  ·have h4:prF q=4:=by rw [prF,if_pos hc];rfl
   exact bad 4 (by rw [hH2,Af (k:=j+1) (by rw [hsn,h4];decide),hsn,h4]) (by decide) k07 hb17
  have h4:prF q=if !ck q.2 3 then 11 else 0:=by rw [prF,if_neg (by rw [hc];decide),nF]
  refine lx hb7 (j:=2) rfl ?_;refine bm.rdT (f:=pf) (bm.aC hps6 k7) ic hy (o:=1) rfl ?_;refine aa.use (wA q.2 3 hq2 h7) ?_;rintro _ h8 ⟨rfl,hh8⟩;subst hh8;rw [asB_bool];refine ae (fun hc=>?_) (fun hc=>?_)
  ·have h4:prF q=11:=by rw [h4,if_pos hc]
   exact bad 11 (by rw [hH2,Af (k:=j+1) (by rw [hsn,h4];decide),hsn,h4]) (by decide) k07 hb17
  ·have h4:prF q=0:=by rw [h4,if_neg (by rw [hc];decide)]
   rw [asK_int,i64_in (by omega) (by omega)]
   exact ⟨⟨j+1,by simp,by omega,by rw [hsn,h4],k6.trans k7⟩,by simp;omega⟩
 ·have hj':=Qc hc;obtain rfl:j=x.ps.length:=by omega
  rw [Qo] at hq;rw [hH2,hq,if_neg (fun h=>h rfl)] at hz2;refine lx hb6 (j:=3) rfl ?_;refine aa.use (vg _ x.body (Qw _) (by omega) hbo vb z 1 h6' (hbd.aC (k5.trans k6)) (ht.more k06) hz0 hz1 (by omega) (by omega)) ?_
  rintro r h7 ⟨hr,k7⟩;have hb17:=k7.get hb16 (by simp)
  have k07:=k06.trans k7;have hok1:=kg x.body z 1 (by omega)
  obtain ⟨c,a,m,rfl,hq⟩:∃c a m,r=.tuple #[.agg (flt c a).toArray,.int .i64 m]∧((c≠0∧jk x.body z 1=.error (c,a))∨(c=0∧jk x.body z 1=.ok m∧0≤m∧m≤300)):=by
   revert hr hok1
   cases jk x.body z 1 with
   |error e=>exact fun ⟨m,hm⟩ hne=>⟨e.1,e.2,m,hm,.inl ⟨hne,rfl⟩⟩
   |ok n=>exact fun hm hne=>⟨0,0,n,hm,.inr ⟨rfl,rfl,by have:=hne.1;omega,hne.2⟩⟩
  rw [IJ,asA_agg];refine ⟨rfl,bu c a,aA (cs:=flt c a) rfl ?_⟩;have hb8:=ah (h:=h7) (o:=.cells (flt c a).toArray 28 (0,0));have k8:=ar.push (S:=fun _=>False) h7 (.cells (flt c a).toArray 28 (0,0));generalize h7.push (.cells (flt c a).toArray 28 (0,0))=h8 at *;have hb18:=k8.get hb17 (by simp)
  have k08:=k07.trans k8;refine lx hb8 (j:=0) rfl ?_;rw [asK_int];refine ae (fun hc=>?_) (fun hc=>?_)
  ·have hne:=Ze.1 hc;obtain ⟨_,hm⟩:=hq.resolve_right fun hh=>hne hh.1;rw [hm,uD] at hz2;refine ⟨_,ak hb8 rfl,rfl,bu c a,zd hb18 rfl rfl fun h' kk hb'=>⟨?_,GW k08 hL kk⟩⟩;rw [hz2];rfl
  ·have h0:c=0:=by simpa using hc
   obtain ⟨_,hm,hm1,hm2⟩:=hq.resolve_left fun hh=>hh.1 h0;rw [hm,lP] at hz2;rw [asK_int,i64_in (by omega) (by omega)]
   exact ⟨⟨m,k+1,rfl,by simp,by omega,hm1,hm2,hz2,((((k3.trans k4).trans k5).trans k6).trans k7).trans k8⟩,by simp;omega⟩
end
end Go.Proofs.YtkeeboomikkojaaGreatDoor
namespace Go.Proofs.YtkeeboomikkojaaGreatDoor
open Go Go.Sx Go.Sx.Rn Go.Proofs.YtkeeboomikkojaaGreatDoor.Sx
section
variable  {ω:Amb}
theorem Ik (x:St)(a b c r:Value):(stC x a b c).toArray.setIfInBounds 6 r=(stC x r b c).toArray:=by simp [stC]
theorem IF (x:St)(a b c r:Value):(stC x a b c).toArray.setIfInBounds 7 r=(stC x a r c).toArray:=by simp [stC]
theorem Jf (x:St)(a b c r:Value):(stC x a b c).toArray.setIfInBounds 8 r=(stC x a b r).toArray:=by simp [stC]
end
theorem y9 {h:Hp}{base n sz:Nat}{t:TypeId}{v:Value}{ys:List Value}(ho:bX h base t sz v n ys):AL v:=B0 ho
theorem Oe {h:Hp}{v:Value}{l:List (ByteArray×ByteArray)}(hs:PsS h v l):E4 h v l.length 2 (l.flatMap pf):=by
 refine ⟨hs.1.1,?_⟩;rcases hs.1.2 with ⟨h0,a,c,rfl⟩|⟨b,o,c,rfl,hc⟩
 ·rcases hs.2 with h1|⟨a',l',c',h1⟩
  ·exact .inl ⟨h1,h0⟩
  ·cases h1;refine .inr ⟨a',c,by rw [h0],fun j u hu=>?_⟩
   obtain rfl:=List.eq_nil_of_length_eq_zero h0;simp at hu
 ·refine .inr ⟨⟨b,o,none⟩,c,rfl,fun j u hu=>?_⟩;rw [aP];exact hc j u hu
theorem Jz (x:Sg)(a b r:Value):(sgC x a b).toArray.setIfInBounds 2 r=(sgC x r b).toArray:=by simp [sgC]
theorem Is (x:Sg)(a b r:Value):(sgC x a b).toArray.setIfInBounds 3 r=(sgC x a r).toArray:=by simp [sgC]
section
variable  {ω:Amb}
end
section
variable  {ω:Amb}
end
end Go.Proofs.YtkeeboomikkojaaGreatDoor
