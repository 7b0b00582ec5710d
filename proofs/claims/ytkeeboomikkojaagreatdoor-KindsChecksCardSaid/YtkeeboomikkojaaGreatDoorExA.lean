import Derived.Test.YtkeeboomikkojaaGreatDoorRn5
import Derived.Test.YtkeeboomikkojaaGreatDoorYk
import Derived.Test.YtkeeboomikkojaaGreatDoorRx4
import Derived.Test.YtkeeboomikkojaaGreatDoorRy2
import Derived.Test.YtkeeboomikkojaaGreatDoorRn7
import Derived.Test.YtkeeboomikkojaaGreatDoorRn9
import Derived.Test.YtkeeboomikkojaaGreatDoorRk
import Derived.Test.YtkeeboomikkojaaGreatDoorRn6
import Derived.Test.YtkeeboomikkojaaGreatDoorY9
set_option maxRecDepth 100000
namespace Go.Proofs.YtkeeboomikkojaaGreatDoor
open Go Go.Sx Go.Sx.Tk Go.Sx.Rn Go.Proofs.YtkeeboomikkojaaGreatDoor.Sx
section
variable  {ω:Amb}
theorem Hb (c a:Int)(h:Hp)(X:XT):ae Tryz.prog ω gP [.int .i64 c,.int .i64 a] h (fun r h'=>r=.agg (flt c a).toArray∧KF h h') X:=by
 refine tK ω _ _ h _ X ?_;unfold lU;show cD (.int .i64 c) (cD (.int .i64 a) _);refine ⟨rfl,bq c a,aA (cs:=flt c a) rfl ?_⟩;exact ⟨_,tL rfl,rfl,ay.push _ _⟩
end
end Go.Proofs.YtkeeboomikkojaaGreatDoor
namespace Go.Proofs.YtkeeboomikkojaaGreatDoor
open Go Go.Sx Go.Sx.Tk Go.Proofs.YtkeeboomikkojaaGreatDoor.Sx
section
variable  {ω:Amb}
theorem ze (c:UInt8)(h:Hp)(X:XT):ae Tryz.prog ω qe [.int .u8 (c.toNat:Int)] h (fun r h'=>r=.bool (lo c)∧h'=h) X:=by
 refine ph ω _ h _ X ?_;unfold ic lo;refine ⟨fun r h'=>r=.bool (decide (97≤c.toNat)&&decide (c.toNat≤122))∧h'=h,?_,fun _ _ _ hj=>hj⟩;rw [asK_int];refine ah (fun hc=>?_) (fun hc=>⟨?_,rfl⟩)
 ·rw [asK_int];have:=Qj hc;exact ⟨by congr 1;rw [Qz];simp;omega,rfl⟩
 ·have:=Qc hc;rw [Z0 (by omega),Bool.false_and]
theorem DG (c:UInt8)(h:Hp)(X:XT):ae Tryz.prog ω qb [.int .u8 (c.toNat:Int)] h (fun r h'=>r=.bool (dg c)∧h'=h) X:=by
 refine qd ω _ h _ X ?_;unfold ie dg;refine ⟨fun r h'=>r=.bool (decide (48≤c.toNat)&&decide (c.toNat≤57))∧h'=h,?_,fun _ _ _ hj=>hj⟩;rw [asK_int];refine ah (fun hc=>?_) (fun hc=>⟨?_,rfl⟩)
 ·rw [asK_int];have:=Qj hc;exact ⟨by congr 1;rw [Qz];simp;omega,rfl⟩
 ·have:=Qc hc;rw [Z0 (by omega),Bool.false_and]
end
def BG:List Value:=words.map fun w=>.string ⟨w.toArray⟩
theorem IL {k:Nat}{w:List UInt8}(h:words[k]?=some w):BG[k]?=some (.string ⟨w.toArray⟩):=by rw [BG,List.getElem?_map,h];rfl
section
variable  {ω:Amb}
theorem D7 (s:ByteArray)(h:Hp)(X:XT):ae Tryz.prog ω oJ [.string s] h (fun r h'=>r=.bool (isWord (bytesOf s))∧KF h h') X:=by
 refine od ω _ h _ X ?_;unfold gH;have hb:(h.push (.cells BG.toArray 9 (0,0)))[h.size]?=some (.cells BG.toArray 9 (0,0)):=ai;have kp:KF h (h.push (.cells BG.toArray 9 (0,0))):=ay.push _ _;refine ⟨fun i h'=>h'=h.push (.cells BG.toArray 9 (0,0))∧∃k:Nat,i=.int .i64 k∧k≤19∧∀(q:Nat) (w:List UInt8),q < k→words[q]?=some w→w≠bytesOf s,
  fun i _=>match i with|.int _ k=>19 - k.toNat|_=>0,⟨rfl,0,rfl,by omega,fun q w hq=>by omega⟩,?_⟩
 rintro _ _ h4 ⟨hh,k,rfl,hk,hn⟩;rw [hh];generalize h.push (.cells BG.toArray 9 (0,0))=h1 at *;rw [asK_int];refine ah (fun hc=>?_) (fun hc=>?_)
 ·have hlt:k < 19:=by have:=Qj hc;omega
  have hx:words[k]?=some words[k]:=Q7 hlt;generalize words[k]=w at hx;rw [asI_int];refine ⟨by omega,by omega,?_⟩
  rw [Qm,Nat.mul_one];refine lx hb (IL hx) ?_;rw [asS_str,asS_str,eqS];refine ah (fun hc=>?_) (fun hc=>?_)
  ·have he:w=bytesOf s:=Qj hc;refine ⟨?_,kp⟩;rw [isWord,Z6 (by rw [←he];exact List.mem_iff_getElem?.2 ⟨k,hx⟩)]
  ·have he:w≠bytesOf s:=Qc hc;rw [asK_int,i64_in (by omega) (by omega)]
   refine ⟨⟨rfl,k+1,by simp,by omega,fun q w' hq hw'=>?_⟩,by simp;omega⟩
   by_cases hqk:q=k
   ·subst hqk;rw [hx] at hw';cases hw';exact he
   ·exact hn q w' (by omega) hw'
 ·have hk19:k=19:=by have:=Qc hc;omega
  subst hk19;refine ⟨?_,kp⟩;rw [isWord,Z0];intro hm;obtain ⟨q,hq⟩:=List.mem_iff_getElem?.1 hm;exact hn q _ (Q6.1 hq).1 hq rfl
end
section
variable  {ω:Amb}
theorem jw (s:ByteArray)(hs:s.size≤20000)(h:Hp)(X:XT):ae Tryz.prog ω nG [.string s] h (fun r h'=>r=.bool (aU s)∧KF h h') X:=by
 refine nL ω _ h _ X ?_;unfold gy;refine ⟨fun r h'=>r=.bool (!ei s)∧KF h h',?_,?_⟩
 ·unfold ei;rw [asS_str];refine ah (fun hc=>?_) (fun hc=>?_)
  ·have:=Qj hc;rw [Z0 (by omega:¬0 < s.size)]
   exact ⟨rfl,ay.refl _ _⟩
  have h0:=Qc hc;rw [asS_str,Z6 (by omega:0 < s.size),Za]
  refine ah (fun hc=>?_) (fun hc=>?_)
  ·have:=Qj hc;rw [Z0 (by omega:¬s.size≤12)]
   exact ⟨rfl,ay.refl _ _⟩
  have h1:=Qc hc;rw [asS_str,Z6 (by omega:s.size≤12),Za,ud]
  refine ⟨by omega,by omega,?_⟩
  refine ae.use (ze _ h) ?_;rintro _ _ ⟨rfl,hh⟩;rw [hh,asB_bool];refine ah (fun hc=>?_) (fun hc=>?_)
  ·have hc:lo (cAt s 0)=false:=by simpa using hc
   rw [hc];exact ⟨rfl,ay.refl _ _⟩
  ·have hc:lo (cAt s 0)=true:=by simpa using hc
   rw [hc,Za,Bool.not_not];exact D7 s h X
 rintro _ _ h1 ⟨rfl,k1⟩;rw [asB_bool];unfold aU;refine ah (fun hc=>?_) (fun hc=>?_)
 ·have hc:ei s=false:=by simpa using hc
  rw [hc];exact ⟨rfl,k1⟩
 have hc:ei s=true:=by simpa using hc
 rw [hc,Za];refine ⟨fun i h'=>h'=h1∧∃k:Nat,i=.int .i64 k∧k≤s.size∧((bytesOf s).take k).all ld=true,
  fun i _=>match i with|.int _ k=>s.size - k.toNat|_=>0,⟨rfl,0,rfl,by omega,rfl⟩,?_⟩
 rintro _ _ h4 ⟨hh,k,rfl,hk,hd⟩;rw [hh,asS_str,asK_int];refine ah (fun hc=>?_) (fun hc=>?_)
 ·have hlt:k < s.size:=by have:=Qj hc;omega
  refine ⟨fun r h'=>r=.bool (!ld (cAt s k))∧h'=h1,?_,?_⟩
  ·rw [asS_str,asI_int,dA];refine ⟨by omega,by omega,?_⟩
   refine ae.use (ze _ h1) ?_;rintro _ _ ⟨rfl,hh⟩;rw [hh,asB_bool,Tk.ld];refine ah (fun hc=>?_) (fun hc=>?_)
   ·have hc:lo (cAt s k)=false:=by simpa using hc
    rw [asS_str,asI_int,dA,hc,Z9];refine ⟨by omega,by omega,?_⟩
    refine ae.use (DG _ h1) ?_;rintro _ _ ⟨rfl,hh⟩;rw [hh,asB_bool];exact ⟨rfl,rfl⟩
   ·have hc:lo (cAt s k)=true:=by simpa using hc
    rw [hc];exact ⟨rfl,rfl⟩
  rintro _ _ _ ⟨rfl,hh⟩;rw [hh,asB_bool];refine ah (fun hc=>?_) (fun hc=>?_)
  ·have hc:ld (cAt s k)=false:=by simpa using hc
   refine ⟨?_,k1⟩;cases ha:(bytesOf s).all ld
   ·rfl
   ·rw [EW ha hlt] at hc;cases hc
  ·have hc:ld (cAt s k)=true:=by simpa using hc
   rw [asK_int,i64_in (by omega) (by omega)]
   refine ⟨⟨rfl,k+1,by simp,by omega,?_⟩,by simp;omega⟩
   rw [mn s hlt,List.all_append,hd];simpa using hc
 ·have hke:k=s.size:=by have:=Qc hc;omega
  subst hke;rw [sy] at hd;rw [hd];exact ⟨rfl,k1⟩
end
end Go.Proofs.YtkeeboomikkojaaGreatDoor
namespace Go.Proofs.YtkeeboomikkojaaGreatDoor
open Go Go.Sx Go.Sx.Tk Go.Sx.Rn Go.Proofs.YtkeeboomikkojaaGreatDoor.Sx
theorem hY (s:ByteArray){i:Nat}(hi:i < s.size)(c:UInt8):(ByteArray.toList (s.extract i (i+1))==ByteArray.toList ⟨#[c]⟩)=decide (cAt s i=c):=by
 rw [eqS,fx,Nat.add_sub_cancel_left,tz s hi];rw [show bytesOf ⟨#[c]⟩=[c] from rfl,List.take_succ_cons,List.take_zero]
 rw [Qz];simp
section
variable  {ω:Amb}
theorem wL (s:ByteArray)(ends:Int)(hs:s.size≤20000)(h:Hp)(X:XT) :
  ae Tryz.prog ω nI [.string s,.int .i64 ends] h (fun r h'=>r=.bool (cW s ends)∧h'=h) X:=by
 refine o7 ω _ _ h _ X ?_;unfold gv;simp only [asS_str,asK_int];rw [i64_in (by omega) (by omega)]
 refine ⟨decide ¬(1≤s.size∧(s.size:Int) - 1≤ends∧cAt s (s.size - 1)=105),?_,fun _=>ah (fun hc=>?_) (fun hc=>?_)⟩
 ·refine ah (fun hc=>?_) (fun hc=>?_)
  ·have:=Qj hc;rw [Z6 (by omega)]
   exact ⟨rfl,trivial⟩
  have h1:=Qc hc;refine ah (fun hc=>?_) (fun hc=>?_)
  ·have:=Qj hc;rw [Z6 (by omega)]
   exact ⟨rfl,trivial⟩
  have h2:=Qc hc;refine ⟨by omega,by omega,by omega,?_,trivial⟩
  rw [show Int.toNat ((s.size:Int) - 1)=s.size - 1 by omega,Qm]
  have:=hY s (i:=s.size - 1) (by omega) 105
  rw [show s.size - 1+1=s.size by omega] at this
  rw [this]
  congr 1
  rw [Qz];simp only [Bool.not_eq_true',decide_eq_false_iff_not,decide_eq_true_eq]
  constructor
  ·rintro h ⟨_,_,h3⟩;exact h h3
  ·intro h h3;exact h ⟨by omega,by omega,h3⟩
 ·refine ⟨?_,trivial⟩;have:=Qj hc;rw [cW,Z0];rintro ⟨h1,h2,h3,_⟩;exact this ⟨h1,h2,h3⟩
 have hh:=Decidable.not_not.1 (Qc hc);refine ⟨fun t h'=>∃k:Nat,t=.int .i64 k∧k≤s.size - 1∧(∀j,j < k→cAt s j=115∨cAt s j=114)∧h'=h,fun t _=>match t with|.int _ k=>s.size - k.toNat|_=>0,⟨0,rfl,by omega,by omega,rfl⟩,?_⟩
 rintro _ _ _ ⟨k,rfl,hk,hq,rfl⟩;simp only [asK_int,asI_int];refine ah (fun hc=>?_) (fun hc=>?_)
 rotate_left
 ·have hc:=Qc hc;obtain rfl:k=s.size - 1:=by omega
  exact ⟨by rw [cW,Z6 ⟨hh.1,hh.2.1,hh.2.2,hq⟩],trivial⟩
 have hkl:=Qj hc;rw [i64_in (by omega) (by omega)]
 refine ⟨decide ¬(cAt s k=115∨cAt s k=114),?_,fun _=>ah (fun hc=>?_) (fun hc=>?_)⟩
 ·rw [Qm,show Int.toNat ((k:Int)+1)=k+1 by omega,hY s (by omega) 115,hY s (by omega) 114]
  refine ⟨by omega,by omega,by omega,ah (fun hc=>?_) (fun hc=>?_)⟩
  ·refine ⟨by omega,by omega,by omega,?_,trivial⟩
   congr 1
   rw [Qz];simp only [Bool.not_eq_true',decide_eq_false_iff_not,decide_eq_true_eq] at hc ⊢;simp [hc]
  ·refine ⟨?_,trivial⟩;rw [Z0];simp only [Bool.not_eq_false',decide_eq_true_eq] at hc;simp [hc]
 ·refine ⟨?_,trivial⟩;rw [cW,Z0];rintro ⟨_,_,_,h4⟩;exact Qj hc (h4 k (by omega))
 ·have hc:=Decidable.not_not.1 (Qc hc);refine ⟨⟨k+1,by simp,by omega,fun j hj=>?_,trivial⟩,by simp;omega⟩
  rcases Nat.lt_or_ge j k with h|h
  ·exact hq j h
  ·obtain rfl:j=k:=by omega
   exact hc
end
theorem CA:∀(l m:List Ex),pI (l++m)=orF (pI l) (pI m)
 |[],m=>by simp only [Z4,pI,ov]
 |y::r,m=>by simp only [Qu,pI,CA r m,dB]
theorem EC {l:List Ex}{k:Nat}(h:pI (l.take k)≠0):pI l=pI (l.take k):=by
 have:=CA (l.take k) (l.drop k);rw [Q8] at this;rw [this,uY h]
section
variable  {ω:Amb}
theorem HG:∀(N:Nat) (x:Ex),exN x < N→exN x≤100000→∀(h:Hp) (w:Value),ExS h w x.l→∀(X:XT),
  ae Tryz.prog ω pU [.agg (exC x w).toArray] h (fun r h'=>r=.int .i64 (exN x)∧KF h h') X:=by
 intro N
 induction N with
 |zero=>exact fun l hN=>absurd hN (Nat.not_lt_zero _)
 |succ N ih =>
  intro x hN hle h w hw X;refine pd ω _ h _ X ?_;unfold ij;simp only [dS];have hxe:=gF x;have hlen:=gY x.l;have hb1:=ai (h:=h) (o:=.cells (exC x w).toArray 36 (0,0));have kp:=ay.push (S:=fun _=>False) h (.cells (exC x w).toArray 36 (0,0));generalize h.push (.cells (exC x w).toArray 36 (0,0))=h1 at *;refine ⟨fun v t h'=>∃k:Nat,v=.int .i64 ((1+cZ (x.l.take k):Nat):Int)∧t=.int .i64 k∧k≤x.l.length∧cZ (x.l.take k)+cZ (x.l.drop k)=cZ x.l∧KF h1 h',fun _ t _=>match t with|.int _ k=>x.l.length - k.toNat|_=>0,
   ⟨0,by simp [cZ],rfl,by omega,by simp [cZ],ay.refl _ _⟩,?_⟩
  rintro _ _ _ h5 ⟨k,rfl,rfl,hk,hs,k1⟩;have hb5:=k1.get hb1 (by simp)
  have hw5:=hw.aE (kp.trans k1);refine lx hb5 (j:=3) rfl ?_;refine hw5.sl fun _ _=>?_;rw [asK_int];refine ah (fun hc=>?_) (fun hc=>?_)
  rotate_left
  ·have hc:=Qc hc;obtain rfl:k=x.l.length:=by omega
   rw [Qo];exact ⟨by rw [gF],kp.trans k1⟩
  have hkl:k < x.l.length:=by
   have:=Qj hc;omega
  have hx:=Q7 hkl;have hdr:=iS hx;have hmem:x.l[k]∈x.l:=Qv hkl;generalize x.l[k]=y at hx hmem hdr;have hyn:=cG hmem;refine lx hb5 (j:=3) rfl ?_;refine hw5.rdC hx fun w' hw'=>?_;refine ae.use (ih y (by omega) (by omega) h5 w' hw') ?_
  rintro _ h6 ⟨rfl,k6⟩;rw [hdr] at hs;have hcons:cZ (y::x.l.drop (k+1))=exN y+cZ (x.l.drop (k+1)):=rfl;simp only [asK_int];rw [i64_in (by omega) (by omega),i64_in (by omega) (by omega)]
  refine ⟨⟨k+1,?_,by simp,by omega,?_,k1.trans k6⟩,by simp;omega⟩
  ·rw [aW hx,iu]
   congr 1
   omega
  ·rw [aW hx,iu];omega
set_option maxHeartbeats 400000 in
theorem xL:∀(N:Nat) (x:Ex),exN x < N→exN x≤100000→Dw x→∀(h:Hp) (w:Value),ExS h w x.l→∀(X:XT),
  ae Tryz.prog ω lH [.agg (exC x w).toArray] h (fun r h'=>r=.int .i64 (exF x)∧KF h h') X:=by
 intro N
 induction N with
 |zero=>exact fun l hN=>absurd hN (Nat.not_lt_zero _)
 |succ N ih =>
  intro x hN hle hok h w hw X;refine lc ω _ h _ X ?_;unfold eD aX;simp only [dS];obtain ⟨hnm,hokl⟩:=gX.1 hok;have hnm:x.nm.size≤20000:=Nat.le_trans hnm (by omega)
  have hxe:=gF x;have hlen:=gY x.l;have hb1:=ai (h:=h) (o:=.cells (exC x w).toArray 36 (0,0));have kp:=ay.push (S:=fun _=>False) h (.cells (exC x w).toArray 36 (0,0));generalize h.push (.cells (exC x w).toArray 36 (0,0))=h1 at *;have hw1:=hw.aE kp;refine ⟨decide (x.op=1∨x.op=2),?_,fun _=>?_⟩
  ·refine lx hb1 (j:=0) rfl ?_;rw [asK_int];refine ah (fun hc=>?_) (fun hc=>?_)
   ·have:=Ze hc;rw [Z6 (by omega)]
    exact ⟨rfl,trivial⟩
   ·refine lx hb1 (j:=0) rfl ?_;rw [asK_int];have:=Qa.1 hc;refine ⟨?_,trivial⟩
    congr 1
    rw [Qz];simp;omega
  refine ⟨fun v h'=>v=.int .i64 (if x.op=1∨x.op=2 then 0 else 2)∧h1=h',ah (fun hc=>?_) (fun hc=>?_),?_⟩
  ·rw [if_pos (Qj hc)];exact ⟨rfl,rfl⟩
  ·rw [if_neg (Qc hc)];exact ⟨rfl,rfl⟩
  rintro _ _ _ ⟨rfl,rfl⟩;refine lx hb1 (j:=0) rfl ?_;rw [asK_int];refine ⟨fun v h'=>v=.int .i64 (fD x.op)∧h1=h',ah (fun hc=>?_) (fun hc=>?_),?_⟩
  ·have:=Ze hc;refine ⟨?_,rfl⟩;rw [fD,if_neg (by omega),if_pos this]
  ·have:=Qa.1 hc;refine ⟨?_,rfl⟩;unfold fD;rw [if_neg this]
  rintro _ _ _ ⟨rfl,rfl⟩;refine ⟨decide (x.op < 1∨8 < x.op∨(x.l.length:Int)≠fD x.op∨(x.n≠0∧x.op≠1)∨(¬emp x.nm∧x.op≠2)),?_,fun _=>ah (fun hc=>?_) (fun hc=>?_)⟩
  ·refine lx hb1 (j:=0) rfl ?_;rw [asK_int];refine ah (fun hc=>?_) (fun hc=>?_)
   ·have:=Qj hc;rw [Z6 (.inl this)];exact ⟨rfl,trivial⟩
   have c1:=Qc hc;refine lx hb1 (j:=0) rfl ?_;rw [asK_int];refine ah (fun hc=>?_) (fun hc=>?_)
   ·have:=Qj hc;rw [Z6 (.inr (.inl this))];exact ⟨rfl,trivial⟩
   have c2:=Qc hc;refine lx hb1 (j:=3) rfl ?_;refine hw1.sl fun _ _=>?_;rw [asK_int];refine ah (fun hc=>?_) (fun hc=>?_)
   ·have:=Zd.1 hc;rw [Z6 (.inr (.inr (.inl this)))];exact ⟨rfl,trivial⟩
   have c3:(x.l.length:Int)=fD x.op:=by simpa using hc
   have tl:(¬emp x.nm∧x.op≠2)→(x.op < 1∨8 < x.op∨(x.l.length:Int)≠fD x.op∨(x.n≠0∧x.op≠1)∨(¬emp x.nm∧x.op≠2)):=fun h=>.inr (.inr (.inr (.inr h)));have tf:¬(x.n≠0∧x.op≠1)→¬(¬emp x.nm∧x.op≠2)→¬(x.op < 1∨8 < x.op∨(x.l.length:Int)≠fD x.op∨(x.n≠0∧x.op≠1)∨(¬emp x.nm∧x.op≠2)):=by
    rintro h1 h2 (h|h|h|h|h)
    ·exact c1 h
    ·exact c2 h
    ·exact h c3
    ·exact h1 h
    ·exact h2 h
   have fin:¬(x.n≠0∧x.op≠1)→∃v,af h1 (Addr.add ⟨h.size,0,none⟩ 1)=some v∧asS v fun s=>cond (!(s.toList==ByteArray.toList ⟨#[]⟩))
     (∃v,af h1 (Addr.add ⟨h.size,0,none⟩ 0)=some v∧asK .i64 v fun n=>(Value.bool (n !=(2:Int)))=.bool (decide (x.op < 1∨8 < x.op∨(x.l.length:Int)≠fD x.op∨(x.n≠0∧x.op≠1)∨(¬emp x.nm∧x.op≠2)))∧True)
     ((Value.bool false)=.bool (decide (x.op < 1∨8 < x.op∨(x.l.length:Int)≠fD x.op∨(x.n≠0∧x.op≠1)∨(¬emp x.nm∧x.op≠2)))∧True):=by
    intro hn;refine lx hb1 (j:=1) rfl ?_;rw [asS_str,eqE];refine ah (fun hc=>?_) (fun hc=>?_)
    ·have he:¬emp x.nm:=by simpa using hc
     refine lx hb1 (j:=0) rfl ?_;rw [asK_int];refine ⟨?_,trivial⟩
     by_cases h2:x.op=2
     ·rw [Z0 (tf hn fun h=>h.2 h2)];simp [h2]
     ·rw [Z6 (tl ⟨he,h2⟩)];simp [h2]
    ·have he:emp x.nm:=by simpa using hc
     rw [Z0 (tf hn fun h=>h.1 he)];exact ⟨rfl,trivial⟩
   refine lx hb1 (j:=2) rfl ?_;rw [asK_int];refine ah (fun hc=>?_) (fun hc=>?_)
   ·have c4:=Zd.1 hc;refine lx hb1 (j:=0) rfl ?_;rw [asK_int];refine ah (fun hc=>?_) (fun hc=>?_)
    ·have:=Zd.1 hc;rw [Z6 (.inr (.inr (.inr (.inl ⟨c4,this⟩))))];exact ⟨rfl,trivial⟩
    ·have:x.op=1:=by simpa using hc
     exact fin fun h=>h.2 this
   ·have c4:x.n=0:=by simpa using hc
    exact fin fun h=>h.1 c4
  ·have:=Qj hc;refine ⟨?_,kp⟩;rw [nw,exH,if_pos this];rfl
  have hform:=Qc hc;have hH:exH x=if x.op=2∧aU x.nm=false then 4 else if x.n < 0∨1000000000000000000≤x.n then 3 else 0:=by rw [exH,if_neg hform]
  refine ⟨fun v h'=>v=.bool (decide (x.op=2∧aU x.nm=false))∧KF h1 h',?_,?_⟩
  ·refine lx hb1 (j:=0) rfl ?_;rw [asK_int];refine ah (fun hc=>?_) (fun hc=>?_)
   ·have h2:=Ze hc;refine lx hb1 (j:=1) rfl ?_;refine ae.use (jw x.nm hnm h1) ?_;rintro _ h2' ⟨rfl,k2⟩;refine ⟨?_,k2⟩
    congr 1
    rw [Qz];simp [h2]
   ·have h2:=Qa.1 hc;exact ⟨by rw [Z0 fun h=>h2 h.1],ay.refl _ _⟩
  rintro _ _ h2 ⟨rfl,k2⟩;have hb2:=k2.get hb1 (by simp)
  rw [asB_bool];refine ah (fun hc=>?_) (fun hc=>?_)
  ·refine ⟨?_,kp.trans k2⟩;rw [nw,hH,if_pos (Qj hc)];rfl
  rw [if_neg (Qc hc)] at hH;refine ⟨decide (x.n < 0∨1000000000000000000≤x.n),?_,fun _=>ah (fun hc=>?_) (fun hc=>?_)⟩
  ·refine lx hb2 (j:=2) rfl ?_;rw [asK_int];refine ah (fun hc=>?_) (fun hc=>?_)
   ·rw [Z6 (.inl (Qj hc))];exact ⟨rfl,trivial⟩
   refine lx hb2 (j:=2) rfl ?_;rw [asK_int];have:=Qc hc;refine ⟨?_,trivial⟩
   congr 1
   rw [Qz];simp;omega
  ·refine ⟨?_,kp.trans k2⟩;rw [nw,hH,if_pos (Qj hc)];rfl
  rw [if_neg (Qc hc)] at hH;have hF:exF x=pI x.l:=by rw [nw,hH,ov]
  refine ⟨fun t h'=>∃k:Nat,t=.int .i64 k∧k≤x.l.length∧pI (x.l.take k)=0∧KF h2 h',fun t _=>match t with|.int _ k=>x.l.length - k.toNat|_=>0,
   ⟨0,rfl,by omega,rfl,ay.refl _ _⟩,?_⟩
  rintro _ _ h5 ⟨k,rfl,hk,hs,k5⟩;have hb5:=k5.get hb2 (by simp)
  have hw5:=hw.aE ((kp.trans k2).trans k5);refine lx hb5 (j:=3) rfl ?_;refine hw5.sl fun _ _=>?_;rw [asK_int];refine ah (fun hc=>?_) (fun hc=>?_)
  rotate_left
  ·have hc:=Qc hc;obtain rfl:k=x.l.length:=by omega
   rw [Qo] at hs;exact ⟨by rw [hF,hs],(kp.trans k2).trans k5⟩
  have hkl:k < x.l.length:=by
   have:=Qj hc;omega
  have hx:=Q7 hkl;have hmem:x.l[k]∈x.l:=Qv hkl;generalize x.l[k]=y at hx hmem;have hyn:=cG hmem;refine lx hb5 (j:=3) rfl ?_;refine hw5.rdC hx fun w' hw'=>?_;refine ae.use (ih y (by omega) (by omega) (cw hokl hmem) h5 w' hw') ?_
  rintro _ h6 ⟨rfl,k6⟩;have hsn:pI (x.l.take (k+1))=exF y:=by rw [aW hx,uX,hs,ov]
  rw [asK_int];refine ah (fun hc=>?_) (fun hc=>?_)
  ·have:=Zd.1 hc;refine ⟨?_,((kp.trans k2).trans k5).trans k6⟩;rw [hF,EC (k:=k+1) (by rw [hsn];exact this),hsn]
  ·have:exF y=0:=by simpa using hc
   rw [asK_int,i64_in (by omega) (by omega)]
   exact ⟨⟨k+1,by simp,by omega,by rw [hsn,this],k5.trans k6⟩,by simp;omega⟩
end
def Ni:List Value:=[(.string ⟨#[]⟩),(.string ⟨#[65,45,45,45,49,45,45]⟩),(.string ⟨#[65,45,45,45,49,45,45]⟩),(.string ⟨#[45,45,45,45,49,45,45]⟩),(.string ⟨#[65,66,84,78,48,45,45]⟩),(.string ⟨#[65,66,45,45,48,45,45]⟩),(.string ⟨#[65,45,45,45,49,45,45]⟩),(.string ⟨#[65,45,45,45,48,45,45]⟩),(.string ⟨#[65,45,45,45,48,45,45]⟩),(.string ⟨#[65,45,45,45,48,45,45]⟩),(.string ⟨#[65,45,45,45,42,45,45]⟩),(.string ⟨#[65,66,45,45,48,66,69]⟩),(.string ⟨#[65,66,45,45,48,66,45]⟩),(.string ⟨#[45,45,45,45,49,66,45]⟩),(.string ⟨#[45,45,45,45,49,66,69]⟩)]
def ecF (f:Fm):UInt8:=if f.e=-1 then 42 else if f.e=0 then 48 else 49
def tj (f:Fm):ByteArray:=⟨#[if f.a then 65 else 45,if f.b then 66 else 45,if f.t then 84 else 45,if f.n then 78 else 45,ecF f,if f.body then 66 else 45,if f.els then 69 else 45]⟩
def OO (d:Int):ByteArray:=match bV d with|some f=>tj f|none=>⟨#[]⟩
theorem bZ (f:Fm):(tj f).size=7:=rfl
theorem Oj:∀k:Nat,k < 15→Ni[k]?=some (.string (OO k))
 |0,_=>rfl
 |1,_=>rfl
 |2,_=>rfl
 |3,_=>rfl
 |4,_=>rfl
 |5,_=>rfl
 |6,_=>rfl
 |7,_=>rfl
 |8,_=>rfl
 |9,_=>rfl
 |10,_=>rfl
 |11,_=>rfl
 |12,_=>rfl
 |13,_=>rfl
 |14,_=>rfl
 |k+15,h=>absurd h (by omega)
theorem IJ {d:Int}{f:Fm}(h:bV d=some f):f.e=-1∨f.e=0∨f.e=1:=by
 unfold bV at h
 repeat' split at h
 all_goals first|(cases h;simp;done)|cases h
section
variable  {ω:Amb}
theorem xu (d:Int)(h:Hp)(X:XT):ae Tryz.prog ω ol [.int .i64 d] h (fun r h'=>r=.string (OO d)∧KF h h') X:=by
 refine ox ω _ h _ X ?_;unfold gx bk;have e:(List.toArray [(.string ⟨#[]⟩),(.string ⟨#[65,45,45,45,49,45,45]⟩),(.string ⟨#[65,45,45,45,49,45,45]⟩),(.string ⟨#[45,45,45,45,49,45,45]⟩),(.string ⟨#[65,66,84,78,48,45,45]⟩),(.string ⟨#[65,66,45,45,48,45,45]⟩),(.string ⟨#[65,45,45,45,49,45,45]⟩),(.string ⟨#[65,45,45,45,48,45,45]⟩),(.string ⟨#[65,45,45,45,48,45,45]⟩),(.string ⟨#[65,45,45,45,48,45,45]⟩),(.string ⟨#[65,45,45,45,42,45,45]⟩),(.string ⟨#[65,66,45,45,48,66,69]⟩),(.string ⟨#[65,66,45,45,48,66,45]⟩),(.string ⟨#[45,45,45,45,49,66,45]⟩),(.string ⟨#[45,45,45,45,49,66,69]⟩)])=Ni.toArray:=rfl
 simp only [e];clear e;have hb:=ai (h:=h) (o:=.cells Ni.toArray 9 (0,0));have kp:=ay.push (S:=fun _=>False) h (.cells Ni.toArray 9 (0,0));generalize h.push (.cells Ni.toArray 9 (0,0))=h1 at *;refine ⟨decide (d < 1∨14 < d),?_,fun _=>ah (fun hc=>?_) (fun hc=>?_)⟩
 ·rw [asK_int];refine ah (fun hc=>?_) (fun hc=>?_)
  ·rw [Z6 (.inl (Qj hc))];exact ⟨rfl,trivial⟩
  ·have:=Qc hc;rw [asK_int];refine ⟨?_,trivial⟩
   congr 1
   rw [Qz];simp;omega
 ·refine ⟨?_,kp⟩;rw [OO,tq (Qj hc)]
 ·have hc:=Qc hc;obtain ⟨k,rfl⟩:∃k:Nat,d=k:=⟨d.toNat,by omega⟩
  rw [asI_int];refine ⟨by omega,by omega,?_⟩
  rw [Qm,Nat.mul_one];exact lx hb (Oj k (by omega)) ⟨rfl,kp⟩
theorem jx (s:ByteArray){i j:Nat}(hj:j=i+1)(hi:i < s.size)(is:Bool)(h:Hp)(X:XT) :
  ae Tryz.prog ω oZ [.string (s.extract i j),.bool is] h (fun r h'=>r=.bool (!decide (cAt s i=45)||is)∧h'=h) X:=by
 refine oq ω _ _ h _ X ?_;unfold gq;refine ⟨fun v h'=>v=.bool (!decide (cAt s i=45)||is)∧h'=h,?_,fun _ _ _ hj=>hj⟩;rw [asS_str,hj,hY s hi];refine ah (fun hc=>?_) (fun hc=>?_)
 ·rw [hc];exact ⟨rfl,rfl⟩
 ·rw [hc];exact ⟨rfl,rfl⟩
end
def P4 (x:St):Bool:=match bV x.d with|none=>false|some f=>!sY f x
theorem zr {u:Nat}{c:UInt8}(h:[c]=Lib.decDigits u):u < 10:=by
 have:=congrArg List.length h;rw [Lib.decDigits_length] at this;rcases Nat.lt_or_ge u 10 with h1|h1
 ·exact h1
 ·rw [Lib.nDigits_big (by omega)] at this
  have:=Lib.nDigits_pos (u / 10);simp at *;omega
theorem PI {f:Fm}(he:f.e=-1∨f.e=0∨f.e=1)(n:Nat):(decide (ecF f=42)||decide ([ecF f]=Lib.itoa (n:Int)))=!(decide (0≤f.e)&&decide ((n:Int)≠f.e)):=by
 rw [Lib.itoa_nonneg];rcases he with he|he|he
 ·rw [ecF,if_pos he,he];rfl
 ·rw [ecF,if_neg (by omega),if_pos he,he]
  rw [Qz];simp only [Bool.or_eq_true,decide_eq_true_eq,Bool.not_eq_true',Bool.and_eq_false_iff,decide_eq_false_iff_not]
  constructor
  ·rintro (h|h)
   ·cases h
   ·have h1:=zr h;rw [Lib.decDigits_one h1] at h
    injection h with h _
    have:(48:UInt8).toNat=(UInt8.ofNat (48+n)).toNat:=by rw [←h]
    rw [UInt8.toNat_ofNat'] at this;rw [show (48:UInt8).toNat=48 from rfl] at this
    exact .inr fun hh=>hh (by omega)
  ·rintro (h|h)
   ·exact absurd (Int.le_refl 0) h
   ·obtain rfl:n=0:=by omega
    exact .inr (by rw [Lib.decDigits_one (by decide)];rfl)
 ·rw [ecF,if_neg (by omega),if_neg (by omega),he]
  rw [Qz];simp only [Bool.or_eq_true,decide_eq_true_eq,Bool.not_eq_true',Bool.and_eq_false_iff,decide_eq_false_iff_not]
  constructor
  ·rintro (h|h)
   ·cases h
   ·have h1:=zr h;rw [Lib.decDigits_one h1] at h
    injection h with h _
    have:(49:UInt8).toNat=(UInt8.ofNat (48+n)).toNat:=by rw [←h]
    rw [UInt8.toNat_ofNat'] at this;rw [show (49:UInt8).toNat=49 from rfl] at this
    exact .inr fun hh=>hh (by omega)
  ·rintro (h|h)
   ·exact absurd (by decide) h
   ·obtain rfl:n=1:=by omega
    exact .inr (by rw [Lib.decDigits_one (by decide)];rfl)
theorem fc0 (f:Fm):decide (cAt (tj f) (Int.toNat 0)=45)=!f.a:=by cases f with|mk a b t n e bo el=>cases a<;>rfl
theorem fc1 (f:Fm):decide (cAt (tj f) (Int.toNat 1)=45)=!f.b:=by cases f with|mk a b t n e bo el=>cases b<;>rfl
theorem fc2 (f:Fm):decide (cAt (tj f) (Int.toNat 2)=45)=!f.t:=by cases f with|mk a b t n e bo el=>cases t<;>rfl
theorem fc3 (f:Fm):decide (cAt (tj f) (Int.toNat 3)=45)=!f.n:=by cases f with|mk a b t n e bo el=>cases n<;>rfl
theorem fc5 (f:Fm):decide (cAt (tj f) (Int.toNat 5)=45)=!f.body:=by cases f with|mk a b t n e bo el=>cases bo<;>rfl
theorem fc6 (f:Fm):decide (cAt (tj f) (Int.toNat 6)=45)=!f.els:=by cases f with|mk a b t n e bo el=>cases el<;>rfl
theorem zq (p q:Bool):(!(!(!p)||q))=(!p&&!q):=by cases p<;>cases q<;>rfl
theorem len0 (n:Nat):(!((n:Int)==0))=decide (0 < n):=by
 rw [Qz];simp;omega
theorem ne0 (n:Int):(!(n==0))=decide (n≠0):=by
 rw [Qz];simp
section
variable  {ω:Amb}
theorem AP (x:St)(ve vb vl:Value)(h:Hp)(he:ExS h ve x.e)(hbd:StS h vb x.body)(hel:StS h vl x.els)(hle:x.e.length≤100000)(ht:ft h)(X:XT) :
  ae Tryz.prog ω lY [.agg (stC x ve vb vl).toArray] h (fun r h'=>r=.bool (P4 x)∧KF h h') X:=by
 refine mb ω _ h _ X ?_;unfold ff;simp only [show Value.cells (.agg (stC x ve vb vl).toArray)=(stC x ve vb vl).toArray from rfl]
 have hb1:=ai (h:=h) (o:=.cells (stC x ve vb vl).toArray 39 (0,0));have kp:=ay.push (S:=fun _=>False) h (.cells (stC x ve vb vl).toArray 39 (0,0));generalize h.push (.cells (stC x ve vb vl).toArray 39 (0,0))=h1 at *;refine lx hb1 (j:=0) rfl ?_;refine ae.use (xu x.d h1) ?_;rintro _ h2 ⟨rfl,k2⟩;have hb2:=k2.get hb1 (by simp)
 have k02:=kp.trans k2;have he2:=he.aE k02;have hbd2:=hbd.aE k02;have hel2:=hel.aE k02;have htk:ft h2:=ht.more k02;rw [asS_str,eqE];unfold OO P4;cases hf:bV x.d with
 |none=>exact cf (by decide) ⟨rfl,k02⟩
 |some f =>
 refine ba (Z0 fun h=>by cases h) ?_
 simp only [asS_str];refine ⟨fun v h'=>v=.bool (zA f x||(zB f x||(zT f x||(zN f x||(zBo f x||zEl f x)))))∧h2=h',?_,?_⟩
 ·refine ⟨by decide,by decide,by rw [bZ];decide,?_⟩
  refine lx hb2 (j:=2) rfl ?_;rw [asS_str,eqE];refine ae.use (jx (tj f) rfl (by rw [bZ];decide) _ h2) ?_
  rintro _ _ ⟨rfl,rfl⟩;rw [asB_bool,fc0,zq];refine ah (fun hc=>?_) (fun c0=>?_)
  ·exact ⟨by rw [zA,hc];rfl,rfl⟩
  refine ⟨by decide,by decide,by rw [bZ];decide,?_⟩
  refine lx hb2 (j:=3) rfl ?_;rw [asS_str,eqE];refine ae.use (jx (tj f) rfl (by rw [bZ];decide) _ _) ?_
  rintro _ _ ⟨rfl,rfl⟩;rw [asB_bool,fc1,zq];refine ah (fun hc=>?_) (fun c1=>?_)
  ·exact ⟨by rw [zA,c0,zB,hc];rfl,rfl⟩
  refine ⟨by decide,by decide,by rw [bZ];decide,?_⟩
  refine lx hb2 (j:=4) rfl ?_;rw [asS_str,eqE];refine ae.use (jx (tj f) rfl (by rw [bZ];decide) _ _) ?_
  rintro _ _ ⟨rfl,rfl⟩;rw [asB_bool,fc2,zq];refine ah (fun hc=>?_) (fun c2=>?_)
  ·exact ⟨by rw [zA,c0,zB,c1,zT,hc];rfl,rfl⟩
  refine ⟨by decide,by decide,by rw [bZ];decide,?_⟩
  refine lx hb2 (j:=5) rfl ?_;rw [asK_int];refine ae.use (jx (tj f) rfl (by rw [bZ];decide) _ _) ?_
  rintro _ _ ⟨rfl,rfl⟩;rw [asB_bool,fc3,zq,ne0];refine ah (fun hc=>?_) (fun c3=>?_)
  ·exact ⟨by rw [zA,c0,zB,c1,zT,c2,zN,hc];rfl,rfl⟩
  refine ⟨by decide,by decide,by rw [bZ];decide,?_⟩
  refine lx hb2 (j:=7) rfl ?_;refine hbd2.sl fun _ _=>?_;refine ae.use (jx (tj f) rfl (by rw [bZ];decide) _ _) ?_
  rintro _ _ ⟨rfl,rfl⟩;rw [asB_bool,fc5,zq,len0];refine ah (fun hc=>?_) (fun c5=>?_)
  ·exact ⟨by rw [zA,c0,zB,c1,zT,c2,zN,c3,zBo,hc];rfl,rfl⟩
  refine ⟨by decide,by decide,by rw [bZ];decide,?_⟩
  refine lx hb2 (j:=8) rfl ?_;refine hel2.sl fun _ _=>?_;refine ae.use (jx (tj f) rfl (by rw [bZ];decide) _ _) ?_
  rintro _ _ ⟨rfl,rfl⟩;rw [asB_bool,fc6,zq,len0];exact ⟨by rw [zA,c0,zB,c1,zT,c2,zN,c3,zBo,c5,zEl];rfl,rfl⟩
 rintro _ _ _ ⟨rfl,rfl⟩;rw [asB_bool];have hbad:sY f x=((zA f x||(zB f x||(zT f x||(zN f x||(zBo f x||zEl f x)))))||zE f x):=by
  unfold sY;generalize zA f x=a,zB f x=b,zT f x=t,zN f x=n,zBo f x=bo,zEl f x=el,zE f x=e;cases a<;>cases b<;>cases t<;>cases n<;>cases bo<;>cases el<;>cases e<;>rfl
 refine ah (fun hc=>?_) (fun hc=>?_)
 ·exact ⟨by simp only [hbad,hc];rfl,k02⟩
 rw [hc,Z9] at hbad;refine ⟨fun v h'=>v=.bool (!zE f x)∧KF h2 h',?_,?_⟩
 ·refine ⟨by decide,by decide,by rw [bZ];decide,?_⟩
  have ho:(ByteArray.toList (ByteArray.extract (tj f) (Int.toNat 4) (Int.toNat 5))==ByteArray.toList ⟨#[42]⟩)=decide (ecF f=42):=hY (tj f) (i:=4) (by rw [bZ];decide) 42
  have hec:=PI (IJ hf) x.e.length;have hz:zE f x=(decide (0≤f.e)&&decide ((x.e.length:Int)≠f.e)):=rfl;rw [←hz] at hec;rw [ho];refine ah (fun hc=>?_) (fun hc=>?_)
  ·rw [hc,Bool.true_or] at hec;exact ⟨by rw [←hec],ay.refl _ _⟩
  rw [hc,Z9] at hec;refine ⟨by decide,by decide,by rw [bZ];decide,?_⟩
  refine lx hb2 (j:=6) rfl ?_;refine he2.sl fun _ _=>?_;refine ae.use (yM x.e.length (by omega) (by omega) h2 htk) ?_
  rintro _ h3 ⟨rfl,k3⟩;rw [asS_str];refine ⟨?_,k3⟩;rw [←hec,eqS];rfl
 rintro _ _ h3 ⟨rfl,k3⟩;simp only [hbad];exact ⟨trivial,k02.trans k3⟩
end
theorem Cf {l:List Ex}{k:Nat}(h:esF (l.take k)≠0):esF l=esF (l.take k):=by
 have:=BR (l.take k) (l.drop k);rw [Q8] at this;rw [this,uY h]
theorem fa0 (f:Fm):decide (cAt (tj f) 0=65)=f.a:=by cases f with|mk a b t n e bo el=>cases a<;>rfl
theorem fa1 (f:Fm):decide (cAt (tj f) 1=66)=f.b:=by cases f with|mk a b t n e bo el=>cases b<;>rfl
theorem fa2 (f:Fm):decide (cAt (tj f) 2=84)=f.t:=by cases f with|mk a b t n e bo el=>cases t<;>rfl
theorem fa5 (f:Fm):decide (cAt (tj f) 5=66)=f.body:=by cases f with|mk a b t n e bo el=>cases bo<;>rfl
theorem ob0 (f:Fm):(ByteArray.toList (ByteArray.extract (tj f) (Int.toNat 0) (Int.toNat 1))==ByteArray.toList ⟨#[65]⟩)=f.a:=(hY (tj f) (i:=0) (by rw [bZ];decide) 65).trans (fa0 f)
theorem ob1 (f:Fm):(ByteArray.toList (ByteArray.extract (tj f) (Int.toNat 1) (Int.toNat 2))==ByteArray.toList ⟨#[66]⟩)=f.b:=(hY (tj f) (i:=1) (by rw [bZ];decide) 66).trans (fa1 f)
theorem ob2 (f:Fm):(ByteArray.toList (ByteArray.extract (tj f) (Int.toNat 2) (Int.toNat 3))==ByteArray.toList ⟨#[84]⟩)=f.t:=(hY (tj f) (i:=2) (by rw [bZ];decide) 84).trans (fa2 f)
theorem ob5 (f:Fm):(ByteArray.toList (ByteArray.extract (tj f) (Int.toNat 5) (Int.toNat 6))==ByteArray.toList ⟨#[66]⟩)=f.body:=(hY (tj f) (i:=5) (by rw [bZ];decide) 66).trans (fa5 f)
section
variable  {ω:Amb}
set_option maxHeartbeats 400000 in
theorem yd (x:St)(ve vb vl:Value)(at_ deep:Int)(h:Hp)(he:ExS h ve x.e)(hbd:StS h vb x.body)(hel:StS h vl x.els)(hle:stN x≤100000)(hok:Es x)(ht:ft h)(X:XT) :
  ae Tryz.prog ω lB [.agg (stC x ve vb vl).toArray,.int .i64 at_,.int .i64 deep] h (fun r h'=>r=.int .i64 (stH x at_ deep)∧KF h h') X:=by
 refine lm ω _ _ _ h _ X ?_;unfold eK;simp only [show Value.cells (.agg (stC x ve vb vl).toArray)=(stC x ve vb vl).toArray from rfl]
 have hb1:=ai (h:=h) (o:=.cells (stC x ve vb vl).toArray 39 (0,0));have kp:=ay.push (S:=fun _=>False) h (.cells (stC x ve vb vl).toArray 39 (0,0));generalize h.push (.cells (stC x ve vb vl).toArray 39 (0,0))=h1 at *;obtain ⟨ha,hb,hty,hok3⟩:=ib.1 hok;have hxe:=jH x;have hlen:=gY x.e;have ha:x.a.size≤20000:=Nat.le_trans ha (by omega)
 have hb:x.b.size≤20000:=Nat.le_trans hb (by omega)
 have hty:x.t.size≤20000:=Nat.le_trans hty (by omega)
 rw [asK_int];refine ah (fun hc=>?_) (fun hc=>?_)
 ·have:=Qj hc;exact ⟨by rw [stH,if_pos (by omega)],kp⟩
 have hat:=Qc hc;have hH:stH x at_ deep=match bV x.d with|none=>5|some f=>if sY f x then 5 else if 6 < x.e.length then 8 else stR f x deep:=by (rw [stH,if_neg (by omega)];try rfl)
 refine ⟨_,aq hb1 rfl,?_⟩;refine ae.use (AP x ve vb vl h1 (he.aE kp) (hbd.aE kp) (hel.aE kp) (by omega) (ht.more kp)) ?_
 rintro _ h2 ⟨rfl,k2⟩;have hb2:=k2.get hb1 (by simp)
 have k02:=kp.trans k2;rw [asB_bool];unfold P4;cases hf:bV x.d with
 |none=>exact cf rfl ⟨by rw [hH,hf],k02⟩
 |some f =>
 rw [hf] at hH
 dsimp only at hH ⊢
 rw [Bool.not_not];refine ah (fun hc=>?_) (fun hbad=>?_)
 ·exact ⟨by rw [hH,if_pos hc],k02⟩
 rw [if_neg (by rw [hbad];decide)] at hH
 refine lx hb2 (j:=6) rfl ?_;have he2:=he.aE k02;refine he2.sl fun _ _=>?_;refine ah (fun hc=>?_) (fun hc=>?_)
 ·have:=Qj hc;exact ⟨by rw [hH,if_pos (by omega)],k02⟩
 have h6:=Qc hc;rw [if_neg (by omega)] at hH
 obtain ⟨bA,bB,bT,bN,bE,bBo,bEl⟩:=Br hbad;refine lx hb2 (j:=0) rfl ?_;refine ae.use (xu x.d h2) ?_;rintro _ h3 ⟨rfl,k3⟩;have hb3:=k3.get hb2 (by simp)
 have k03:=k02.trans k3;rw [OO,hf]
 dsimp only
 simp only [asS_str,bZ,ob0,ob1,ob2,ob5];have hR:stR f x deep=orF (if f.a&&!aU x.a then 4 else 0) (orF (if f.b&&!aU x.b then 4 else 0) (orF (if f.t&&!cW x.t 3 then 11 else 0) (orF (if decide (x.n < 0∨1000000000000000000≤x.n) then 14 else 0) (orF (esF x.e) (if f.body&&decide (8≤deep) then 7 else 0))))):=by
  rw [stR,ui bA,ui bB]
 rw [hR] at hH;refine ⟨fun v h'=>v=.bool ((f.a&&!aU x.a)||(f.b&&!aU x.b))∧KF h3 h',?_,?_⟩
 ·refine ⟨by decide,by decide,by decide,ah (fun hfa=>?_) (fun hfa=>?_)⟩
  ·refine lx hb3 (j:=2) rfl ?_;refine ae.use (jw x.a ha h3) ?_;rintro _ h4 ⟨rfl,k4⟩;have hb4:=k4.get hb3 (by simp)
   rw [asB_bool,hfa,Za];refine ah (fun hc=>?_) (fun hc=>?_)
   ·exact ⟨by rw [hc];rfl,k4⟩
   rw [hc,Z9];refine ⟨by decide,by decide,by decide,ah (fun hfb=>?_) (fun hfb=>?_)⟩
   ·refine lx hb4 (j:=3) rfl ?_;refine ae.use (jw x.b hb h4) ?_;rintro _ h5 ⟨rfl,k5⟩;rw [asB_bool,hfb];exact ⟨rfl,k4.trans k5⟩
   ·rw [hfb];exact ⟨rfl,k4⟩
  ·rw [hfa,Bool.false_and,Z9];refine ⟨by decide,by decide,by decide,ah (fun hfb=>?_) (fun hfb=>?_)⟩
   ·refine lx hb3 (j:=3) rfl ?_;refine ae.use (jw x.b hb h3) ?_;rintro _ h5 ⟨rfl,k5⟩;rw [asB_bool,hfb];exact ⟨rfl,k5⟩
   ·rw [hfb];exact ⟨rfl,ay.refl _ _⟩
 rintro _ _ h4 ⟨rfl,k4⟩;have hb4:=k4.get hb3 (by simp)
 have k04:=k03.trans k4;rw [asB_bool];refine ah (fun hc=>?_) (fun hc=>?_)
 ·refine ⟨?_,k04⟩;rw [hH];rcases Bool.or_eq_true_iff.1 hc with h|h
  ·rw [h,if_pos rfl];rfl
  ·rw [h,if_pos rfl];cases (f.a&&!aU x.a)<;>rfl
 obtain ⟨n1,n2⟩:=Bool.or_eq_false_iff.1 hc;rw [n1,n2,if_neg (by decide),ov,ov] at hH
 refine ⟨fun v h'=>v=.bool (f.t&&!cW x.t 3)∧KF h4 h',?_,?_⟩
 ·refine ⟨by decide,by decide,by decide,ah (fun hft=>?_) (fun hft=>?_)⟩
  ·refine lx hb4 (j:=4) rfl ?_;refine ae.use (wL x.t 3 hty h4) ?_;rintro _ h5 ⟨rfl,rfl⟩;rw [asB_bool,hft];exact ⟨rfl,ay.refl _ _⟩
  ·rw [hft];exact ⟨rfl,ay.refl _ _⟩
 rintro _ _ h5 ⟨rfl,k5⟩;have hb5:=k5.get hb4 (by simp)
 have k05:=k04.trans k5;rw [asB_bool];refine ah (fun hc=>?_) (fun hc=>?_)
 ·refine ⟨?_,k05⟩;rw [hH,hc];rfl
 rw [hc,if_neg (by decide),ov] at hH
 refine ⟨decide (x.n < 0∨1000000000000000000≤x.n),?_,fun _=>ah (fun hc=>?_) (fun hc=>?_)⟩
 ·refine lx hb5 (j:=5) rfl ?_;rw [asK_int];refine ah (fun hc=>?_) (fun hc=>?_)
  ·rw [Z6 (.inl (Qj hc))];exact ⟨rfl,trivial⟩
  refine lx hb5 (j:=5) rfl ?_;rw [asK_int];have:=Qc hc;refine ⟨?_,trivial⟩
  congr 1
  rw [Qz];simp;omega
 ·refine ⟨?_,k05⟩;rw [hH,hc];rfl
 rw [hc,if_neg (by decide),ov] at hH
 refine ⟨fun t h'=>∃k:Nat,t=.int .i64 k∧k≤x.e.length∧esF (x.e.take k)=0∧KF h5 h',fun t _=>match t with|.int _ k=>x.e.length - k.toNat|_=>0,
  ⟨0,rfl,by omega,rfl,ay.refl _ _⟩,?_⟩
 rintro _ _ h6' ⟨k,rfl,hk,hs,k6⟩;have hb6:=k6.get hb5 (by simp)
 have k06:=k05.trans k6;have he6:=he.aE k06;refine lx hb6 (j:=6) rfl ?_;refine he6.sl fun _ _=>?_;rw [asK_int];refine ah (fun hc=>?_) (fun hc=>?_)
 rotate_left
 ·have hc:=Qc hc;obtain rfl:k=x.e.length:=by omega
  rw [Qo] at hs;rw [hs,ov] at hH;refine ⟨f.body&&decide (8≤deep),?_,fun _=>ah (fun hc=>?_) (fun hc=>?_)⟩
  ·refine ⟨by decide,by decide,by decide,ah (fun hc=>?_) (fun hc=>?_)⟩
   ·rw [hc,asK_int];exact ⟨rfl,trivial⟩
   ·rw [hc];exact ⟨rfl,trivial⟩
  ·exact ⟨by rw [hH,hc];rfl,k06⟩
  ·exact ⟨by rw [hH,hc];rfl,k06⟩
 have hkl:k < x.e.length:=by
  have:=Qj hc;omega
 have hx:=Q7 hkl;have hmem:x.e[k]∈x.e:=Qv hkl;generalize x.e[k]=y at hx hmem;have hyn:=cG hmem;have hyo:=cw hok3.1 hmem;refine lx hb6 (j:=6) rfl ?_;refine he6.rdC hx fun w hw=>?_;refine ae.use (HG _ y (Qw _) (by omega) h6' w hw) ?_
 rintro _ h7 ⟨rfl,k7⟩;have hb7:=k7.get hb6 (by simp)
 have k07:=k06.trans k7;have hsn:esF (x.e.take (k+1))=eF1 y:=by rw [aW hx,B4,hs,ov]
 rw [asK_int];refine ah (fun hc=>?_) (fun hc=>?_)
 ·have hgt:=Qj hc;have h8:eF1 y=8:=by rw [eF1,if_pos (by omega)];rfl
  refine ⟨?_,k07⟩;rw [hH,Cf (k:=k+1) (by rw [hsn,h8];decide),hsn,h8]
  rfl
 have hgt:=Qc hc;have h8:eF1 y=exF y:=by rw [eF1,if_neg (by omega)];rfl
 refine lx hb7 (j:=6) rfl ?_;refine (he.aE k07).rdC hx fun w' hw'=>?_;refine ae.use (xL _ y (Qw _) (by omega) hyo h7 w' hw') ?_
 rintro _ h9 ⟨rfl,k9⟩;rw [asK_int];refine ah (fun hc=>?_) (fun hc=>?_)
 ·have hne:=Zd.1 hc;refine ⟨?_,k07.trans k9⟩;rw [hH,Cf (k:=k+1) (by rw [hsn,h8];exact hne),hsn,h8,uY hne]
 ·have hne:exF y=0:=by simpa using hc
  rw [asK_int,i64_in (by omega) (by omega)]
  exact ⟨⟨k+1,by simp,by omega,by rw [hsn,h8,hne],(k6.trans k7).trans k9⟩,by simp;omega⟩
end
theorem uZ (e:Int×Int)(f:Int→FR):sD (.error e) f=.error e:=rfl
def sRes (r:FR)(v:Value):Prop:=match r with
 |.ok n=>v=.tuple #[.agg (flt 0 0).toArray,.int .i64 n]
 |.error e=>∃m,v=.tuple #[.agg (flt e.1 e.2).toArray,.int .i64 m]
theorem KW {h h1 h2:Hp}(k:KF h h1)(k2:ay (fun b=>b=h.size) h1 h2):KF h h2 :=
 ((k.mono (fun _ _ h=>h.elim)).trans k2).mono fun b hb e=>by omega
section
variable  {ω:Amb}
set_option maxHeartbeats 400000 in
theorem vT:∀(N:Nat) (l:List St),cq l < N→cq l≤100000→jk l→∀(v:Value) (at_ deep:Int) (h:Hp),StS h v l→ft h→0≤at_→at_≤300→0≤deep→deep+cq l≤200000→∀(X:XT),
  ae Tryz.prog ω ke [v,.int .i64 at_,.int .i64 deep] h (fun r h'=>sRes (kg l at_ deep) r∧KF h h') X:=by
 intro N
 induction N with
 |zero=>exact fun l hN=>absurd hN (Nat.not_lt_zero _)
 |succ N ih =>
  intro l hN hle hok v at_ deep h hs ht ha0 ha1 hd0 hd1 X;refine kq ω _ _ _ h _ X ?_;unfold ep;have hlen:=qw l;have hb0:=ai (h:=h) (o:=.cells (flt 0 0).toArray 28 (0,0));have kp:=ay.push (S:=fun _=>False) h (.cells (flt 0 0).toArray 28 (0,0));simp only [show [(.int .i64 0),(.int .i64 0)]=flt 0 0 from rfl]
  generalize h.push (.cells (flt 0 0).toArray 28 (0,0))=h0 at *;refine ⟨fun m t h'=>∃(z:Int) (k:Nat),m=.int .i64 z∧t=.int .i64 k∧k≤l.length∧0≤z∧z≤300∧kg l at_ deep=kg (l.drop k) z deep∧KF h0 h',
   fun _ t _=>match t with|.int _ k=>l.length - k.toNat|_=>0,⟨at_,0,rfl,rfl,by omega,ha0,ha1,rfl,ay.refl _ _⟩,?_⟩
  rintro _ _ _ h5 ⟨z,k,rfl,rfl,hk,hz0,hz1,hz2,k5⟩;have hb5:=k5.get hb0 (by simp)
  have k05:=kp.trans k5;have hs5:=hs.aE k05;refine hs5.sl fun _ _=>?_;rw [asK_int];refine ah (fun hc=>?_) (fun hc=>?_)
  rotate_left
  ·have hc:=Qc hc;obtain rfl:k=l.length:=by omega
   rw [Qt] at hz2;refine ⟨trivial,bq 0 0,xf hb5 rfl rfl fun h' kk hb'=>⟨?_,KW k05 kk⟩⟩;rw [hz2];rfl
  have hkl:k < l.length:=by
   have:=Qj hc;omega
  have hx:=Q7 hkl;have hdr:=iS hx;have hmem:l[k]∈l:=Qv hkl;generalize l[k]=x at hx hmem hdr;have hxn:=gW hmem;have hxe:=jH x;have hxo:=pG hok hmem;obtain ⟨_,_,_,_,hob,hoe⟩:=ib.1 hxo;rw [hdr,mu,Ag] at hz2;refine hs5.rdC hx fun ve vb vl he hbd hel=>?_;refine ae.use (yd x ve vb vl z deep h5 he hbd hel (by omega) hxo (ht.more k05)) ?_
  rintro _ h6 ⟨rfl,k6⟩;have hb6:=k6.get hb5 (by simp)
  have k06:=k05.trans k6;rw [asK_int];refine ah (fun hc=>?_) (fun hc=>?_)
  ·have hne:=Zd.1 hc;rw [if_pos hne,uZ] at hz2;refine ae.use (Hb _ z h6) ?_;rintro _ h7 ⟨rfl,k7⟩;have hb7:=k7.get hb6 (by simp)
   rw [asA_agg];refine ⟨rfl,bq _ z,xf hb7 rfl rfl fun h' kk hb'=>⟨?_,KW (k06.trans k7) kk⟩⟩;rw [hz2];exact ⟨z,rfl⟩
  have hH0:stH x z deep=0:=by simpa using hc
  rw [if_neg (fun h=>h hH0)] at hz2;have hz3:z < 300:=by
   rcases Int.lt_or_le z 300 with h1|h1
   ·exact h1
   ·rw [stH,if_pos h1] at hH0;cases hH0
  rw [asK_int];refine (hs.aE k06).rdO hx (o:=7) fun ve vb vl he hbd hel=>⟨vb,rfl,?_⟩;rw [asK_int,i64_in (by omega) (by omega),i64_in (by omega) (by omega)]
  refine ae.use (ih x.body (by omega) (by omega) hob vb (z+1) (deep+1) h6 hbd (ht.more k06) (by omega) (by omega) (by omega) (by omega)) ?_
  rintro r h7 ⟨hr,k7⟩;have hb7:=k7.get hb6 (by simp)
  have k07:=k06.trans k7;have hok1:=kR x.body (z+1) (deep+1) (by omega)
  obtain ⟨c,a,m,rfl,hq⟩:∃c a m,r=.tuple #[.agg (flt c a).toArray,.int .i64 m]∧((c≠0∧kg x.body (z+1) (deep+1)=.error (c,a))∨(c=0∧a=0∧kg x.body (z+1) (deep+1)=.ok m∧z+1≤m∧m≤300)):=by
   revert hr hok1
   cases kg x.body (z+1) (deep+1) with
   |error e=>exact fun ⟨m,hm⟩ hne=>⟨e.1,e.2,m,hm,.inl ⟨hne,rfl⟩⟩
   |ok n=>exact fun hm hne=>⟨0,0,n,hm,.inr ⟨rfl,rfl,rfl,hne⟩⟩
  rw [HT,asA_agg];refine ⟨rfl,bq c a,aA (cs:=flt c a) rfl ?_⟩;have hb8:=ai (h:=h7) (o:=.cells (flt c a).toArray 28 (0,0));have k8:=ay.push (S:=fun _=>False) h7 (.cells (flt c a).toArray 28 (0,0));have z8:(h7.push (.cells (flt c a).toArray 28 (0,0))).size=h7.size+1:=by simp
  have k7s:=k07.size;generalize h7.push (.cells (flt c a).toArray 28 (0,0))=h8 at *;have k08:=k07.trans k8;have hL0:=fu hb7;refine lx hb8 (j:=0) rfl ?_;rw [asK_int];refine ⟨fun mv h'=>∃c' a' m',mv=.int .i64 m'∧h'[h7.size]?=some (.cells (flt c' a').toArray 28 (0,0))∧KF h7 h' ∧
   ((c'≠0∧sD (kg x.body (z+1) (deep+1)) (fun n=>kg x.els n (deep+1))=.error (c',a'))∨(c'=0∧sD (kg x.body (z+1) (deep+1)) (fun n=>kg x.els n (deep+1))=.ok m'∧0≤m'∧m'≤300)),?_,?_⟩
  ·refine ah (fun hc=>?_) (fun hc=>?_)
   ·have h0:c=0:=Ze hc;obtain ⟨_,rfl,hm,hm1,hm2⟩:=hq.resolve_left fun hh=>hh.1 h0;subst h0;rw [hm,mR];refine (hs.aE k08).rdO hx (o:=8) fun ve vb vl he hbd hel=>⟨vl,rfl,?_⟩;rw [asK_int,i64_in (by omega) (by omega)]
    refine ae.use (ih x.els (by omega) (by omega) hoe vl m (deep+1) h8 hel (ht.more k08) (by omega) (by omega) (by omega) (by omega)) ?_
    rintro r h9 ⟨hr,k9⟩;have hb9:=k9.get hb8 (by simp)
    have hok2:=kR x.els m (deep+1) (by omega)
    obtain ⟨c,a,m2,rfl,hq⟩:∃c a m2,r=.tuple #[.agg (flt c a).toArray,.int .i64 m2]∧((c≠0∧kg x.els m (deep+1)=.error (c,a))∨(c=0∧kg x.els m (deep+1)=.ok m2∧0≤m2∧m2≤300)):=by
     revert hr hok2
     cases kg x.els m (deep+1) with
     |error e=>exact fun ⟨m,hm⟩ hne=>⟨e.1,e.2,m,hm,.inl ⟨hne,rfl⟩⟩
     |ok n=>exact fun hm hne=>⟨0,0,n,hm,.inr ⟨rfl,rfl,by have:=hne.1;omega,hne.2⟩⟩
    rw [HT,asA_agg];refine ⟨rfl,bq c a,bh hb9 (by simp [flt]) ?_⟩
    rw [cp (by simp [flt])]
    exact ⟨c,a,m2,rfl,av hb9,KW (k8.trans k9) (ay.set (S:=fun b=>b=h7.size) _ rfl),hq⟩
   ·have hne:c≠0:=Qa.1 hc;obtain ⟨_,hm⟩:=hq.resolve_right fun hh=>hne hh.1;exact ⟨c,a,m,rfl,hb8,k8,.inl ⟨hne,by rw [hm];rfl⟩⟩
  rintro _ _ h9 ⟨c',a',m',rfl,hb9,k79,hr'⟩;have k09:=k07.trans k79;have hbL:=k79.get hb7 (by simp)
  refine lx hb9 (j:=0) rfl ?_;rw [asK_int];refine ah (fun hc=>?_) (fun hc=>?_)
  ·have hne:=Zd.1 hc;obtain ⟨_,hm⟩:=hr'.resolve_right fun hh=>hne hh.1;rw [hm,uZ] at hz2;refine ⟨_,aq hb9 rfl,rfl,bq c' a',xf hbL rfl rfl fun h' kk hb'=>⟨?_,KW k09 kk⟩⟩;rw [hz2];exact ⟨m',rfl⟩
  ·have h0:c'=0:=by simpa using hc
   obtain ⟨_,hm,hm1,hm2⟩:=hr'.resolve_left fun hh=>hh.1 h0;rw [hm,mR] at hz2;rw [asK_int,i64_in (by omega) (by omega)]
   exact ⟨⟨m',k+1,rfl,by simp,by omega,hm1,hm2,hz2,((k5.trans k6).trans k7).trans k79⟩,by simp;omega⟩
end
theorem Au {l:List (ByteArray×ByteArray)}{k:Nat}(h:ti (l.take k)≠0):ti l=ti (l.take k):=by
 have:=ul (l.take k) (l.drop k);rw [Q8] at this;rw [this,uY h]
section
variable  {ω:Amb}
theorem OV {hc:Hp}{L:Nat}{ds:List Value}(hw:hc[L]?=some (.cells ds.toArray 28 (0,0)))(hd:ds.length=2)(c a:Int){R:RT}
  (hR:∀h',ay (fun k=>k=L) hc h'→R (.agg (flt c a).toArray) h') (X:XT) :
  ae Tryz.prog ω gP [.int .i64 c,.int .i64 a] hc (fun r h'=>asA r fun A=>A.size=2∧(∀u∈A.toList,one u)∧az h' ⟨L,0,none⟩ A.toList fun h''=>∃C,ak h'' ⟨L,0,none⟩ 2 C∧R (.agg C.toArray) h'') X:=by
 refine ae.use (Hb c a hc) ?_;rintro _ h7 ⟨rfl,k7⟩;rw [asA_agg];exact ⟨rfl,bq c a,xf (k7.get hw (by simp)) hd rfl fun h' kk _=>hR h' ((k7.mono fun _ _ h=>h.elim).trans kk)⟩
set_option maxHeartbeats 400000 in
theorem xG (p:List Sg)(hsm:Small p)(v:Value)(h:Hp)(hp:PgS h v p)(ht:ft h)(X:XT) :
  ae Tryz.prog ω lC [v] h (fun r h'=>r=.agg (flt (kd (bX p)).1 (kd (bX p)).2).toArray∧KF h h') X:=by
 obtain ⟨w0,rfl,hs⟩:=hp;refine kZ ω _ h _ X ?_;unfold ey bu aB;simp only [show Value.cells (.agg #[w0])=[w0].toArray from rfl,show [(.int .i64 0),(.int .i64 0)]=flt 0 0 from rfl]
 have hlen:=hsm.len;have hb0:=ai (h:=h) (o:=.cells [w0].toArray 24 (0,0));have k0:=ay.push (S:=fun _=>False) h (.cells [w0].toArray 24 (0,0));have z0:(h.push (.cells [w0].toArray 24 (0,0))).size=h.size+1:=by simp
 generalize h.push (.cells [w0].toArray 24 (0,0))=h1 at *;have hb1:=ai (h:=h1) (o:=.cells (flt 0 0).toArray 28 (0,0));have k1:=ay.push (S:=fun _=>False) h1 (.cells (flt 0 0).toArray 28 (0,0));generalize h1.push (.cells (flt 0 0).toArray 28 (0,0))=h2 at *;have hb0:=k1.get hb0 (by simp)
 have k02:=k0.trans k1;have hs2:=hs.aE k02;have hL:h.size≤h1.size:=by omega
 refine lx hb0 (j:=0) rfl ?_;refine hs2.sl fun _ _=>?_;refine ah (fun hc=>?_) (fun hc=>?_)
 ·have h0:p.length=0:=by simpa using hc
  refine OV hb1 rfl 10 (-1) (R:=fun r h'=>r=Value.agg (flt (kd (bX p)).1 (kd (bX p)).2).toArray∧KF h h') (fun h' kk=>⟨?_,BP k02 hL kk⟩) X;rw [bX,if_pos h0];rfl
 have hn0:p.length≠0:=by simpa using hc
 refine lx hb0 (j:=0) rfl ?_;refine hs2.sl fun _ _=>?_;refine ah (fun hc=>?_) (fun hc=>?_)
 ·have h0:=Qj hc;refine OV hb1 rfl 8 (-1) (R:=fun r h'=>r=Value.agg (flt (kd (bX p)).1 (kd (bX p)).2).toArray∧KF h h') (fun h' kk=>⟨?_,BP k02 hL kk⟩) X;rw [bX,if_neg hn0,if_pos (by omega)]
  rfl
 have hn1:=Qc hc;have hF:bX p=vE p 0 0:=by rw [bX,if_neg hn0,if_neg (by omega)]
 rw [hF];refine ⟨fun m t h'=>∃(z:Int) (k:Nat),m=.int .i64 z∧t=.int .i64 k∧k≤p.length∧0≤z∧z≤300∧vE p 0 0=vE (p.drop k) k z∧KF h2 h',
  fun _ t _=>match t with|.int _ k=>p.length - k.toNat|_=>0,⟨0,0,rfl,rfl,by omega,by omega,by omega,rfl,ay.refl _ _⟩,?_⟩
 rintro _ _ _ h3 ⟨z,k,rfl,rfl,hk,hz0,hz1,hz2,k3⟩;have hb03:=k3.get hb0 (by simp)
 have hb13:=k3.get hb1 (by simp)
 have k03:=k02.trans k3;have hs3:=hs.aE k03;refine lx hb03 (j:=0) rfl ?_;refine hs3.sl fun _ _=>?_;rw [asK_int];refine ah (fun hc=>?_) (fun hc=>?_)
 rotate_left
 ·have hc:=Qc hc;obtain rfl:k=p.length:=by omega
  rw [Qt] at hz2;refine ⟨trivial,bq 0 0,xf hb13 rfl rfl fun h' kk hb'=>⟨?_,BP k03 hL kk⟩⟩;rw [hz2];rfl
 have hkl:k < p.length:=by
  have:=Qj hc;omega
 have hx:=Q7 hkl;have hdr:=iS hx;have hmem:p[k]∈p:=Qv hkl;generalize p[k]=x at hx hmem hdr;obtain ⟨hnm,hpl,hpn,hbo⟩:=hsm.nm x hmem;have hnm:x.nm.size≤20000:=Nat.le_trans hnm (by omega)
 have hxb:cq x.body≤20000:=Nat.le_trans (vm hmem) hsm.tot;rw [hdr] at hz2;have hz2:vE p 0 0=if sgH x≠0 then .error (sgH x,-2 - k) else sD (kg x.body z 1) fun n=>vE (p.drop (k+1)) (k+1) n:=hz2
 refine lx hb03 (j:=0) rfl ?_;refine hs3.rdC hx fun vp vb hps hbd=>?_;refine ⟨rfl,fy (cB hps.2) hbd.ca,aA (cs:=sgC x vp vb) rfl ?_⟩;have hb4:=ai (h:=h3) (o:=.cells (sgC x vp vb).toArray 41 (0,0));have k4:=ay.push (S:=fun _=>False) h3 (.cells (sgC x vp vb).toArray 41 (0,0));generalize h3.push (.cells (sgC x vp vb).toArray 41 (0,0))=h4 at *;have hps:=(hps.aE k4).1;have hbd:=hbd.aE k4;have hb14:=k4.get hb13 (by simp)
 have k04:=k03.trans k4;refine lx hb4 (j:=0) rfl ?_;refine ae.use (jw x.nm hnm h4) ?_;rintro _ h5 ⟨rfl,k5⟩;have hb5:=k5.get hb4 (by simp)
 have hb15:=k5.get hb14 (by simp)
 have k05:=k04.trans k5;rw [asB_bool];have bad:∀{hh:Hp} (c:Int),sgH x=c→c≠0→KF h hh→hh[h1.size]?=some (.cells (flt 0 0).toArray 28 (0,0)) →
   asK .i64 (.int .i64 k) fun n=>ae Tryz.prog ω gP [.int .i64 c,.int .i64 (IntKind.wrap .i64 (-2 - n))] hh (fun r h'=>asA r fun A=>A.size=2∧(∀u∈A.toList,one u)∧az h' ⟨h1.size,0,none⟩ A.toList fun h''=>∃C,ak h'' ⟨h1.size,0,none⟩ 2 C ∧
    (fun r h'=>r=Value.agg (flt (kd (vE p 0 0)).1 (kd (vE p 0 0)).2).toArray∧KF h h') (.agg C.toArray) h'') X:=by
  intro hh c hc hne kh hbh;rw [asK_int,i64_in (by omega) (by omega)]
  refine OV hbh rfl c (-2 - k) (R:=fun r h'=>r=Value.agg (flt (kd (vE p 0 0)).1 (kd (vE p 0 0)).2).toArray∧KF h h') (fun h' kk=>⟨?_,BP kh hL kk⟩) X;rw [hz2,hc,if_pos hne];rfl
 refine ah (fun hc=>?_) (fun hc=>?_)
 ·exact bad 4 (by rw [sgH,if_pos hc];rfl) (by decide) k05 hb15
 have hH1:sgH x=orF (if decide (6 < x.ps.length) then 8 else 0) (ti x.ps):=by rw [sgH,if_neg (by rw [hc];decide),ov]
 refine lx hb5 (j:=2) rfl ?_;have hps5:=bP.aE hps k5;refine bP.sl hps5 fun _ _=>?_;refine ah (fun hc=>?_) (fun hc=>?_)
 ·have h6:=Qj hc;exact bad 8 (by rw [hH1,Z6 (by omega)];rfl) (by decide) k05 hb15
 have h6:=Qc hc;have hH2:sgH x=ti x.ps:=by rw [hH1,Z0 (by omega)];rfl
 refine ⟨fun t h'=>∃j:Nat,t=.int .i64 j∧j≤x.ps.length∧ti (x.ps.take j)=0∧KF h5 h',fun t _=>match t with|.int _ k=>x.ps.length - k.toNat|_=>0,⟨0,rfl,by omega,rfl,ay.refl _ _⟩,?_⟩
 rintro _ _ h6' ⟨j,rfl,hj,hq,k6⟩;have hb6:=k6.get hb5 (by simp)
 have hb16:=k6.get hb15 (by simp)
 have k06:=k05.trans k6;have hps6:=bP.aE hps5 k6;refine lx hb6 (j:=2) rfl ?_;refine bP.sl hps6 fun _ _=>?_;rw [asK_int];refine ah (fun hc=>?_) (fun hc=>?_)
 ·have hjl:j < x.ps.length:=by
   have:=Qj hc;omega
  have hy:=Q7 hjl;have hqm:x.ps[j]∈x.ps:=Qv hjl;generalize x.ps[j]=q at hy hqm;obtain ⟨hq1,hq2⟩:=hpn q hqm;have hq1:q.1.size≤20000:=Nat.le_trans hq1 (by omega)
  have hq2:q.2.size≤20000:=Nat.le_trans hq2 (by omega)
  have hsn:ti (x.ps.take (j+1))=prF q:=by rw [aW hy,zI,hq,ov]
  refine lx hb6 (j:=2) rfl ?_;refine bP.rdT (f:=pf) hps6 eA hy (o:=0) rfl ?_;refine ae.use (jw q.1 hq1 h6') ?_;rintro _ h7 ⟨rfl,k7⟩;have hb7:=k7.get hb6 (by simp)
  have hb17:=k7.get hb16 (by simp)
  have k07:=k06.trans k7;rw [asB_bool];refine ah (fun hc=>?_) (fun hc=>?_)
  ·have h4:prF q=4:=by rw [prF,if_pos hc];rfl
   exact bad 4 (by rw [hH2,Au (k:=j+1) (by rw [hsn,h4];decide),hsn,h4]) (by decide) k07 hb17
  have h4:prF q=if !cW q.2 3 then 11 else 0:=by rw [prF,if_neg (by rw [hc];decide),ov]
  refine lx hb7 (j:=2) rfl ?_;refine bP.rdT (f:=pf) (bP.aE hps6 k7) eA hy (o:=1) rfl ?_;refine ae.use (wL q.2 3 hq2 h7) ?_;rintro _ h8 ⟨rfl,hh8⟩;subst hh8;rw [asB_bool];refine ah (fun hc=>?_) (fun hc=>?_)
  ·have h4:prF q=11:=by rw [h4,if_pos hc]
   exact bad 11 (by rw [hH2,Au (k:=j+1) (by rw [hsn,h4];decide),hsn,h4]) (by decide) k07 hb17
  ·have h4:prF q=0:=by rw [h4,if_neg (by rw [hc];decide)]
   rw [asK_int,i64_in (by omega) (by omega)]
   exact ⟨⟨j+1,by simp,by omega,by rw [hsn,h4],k6.trans k7⟩,by simp;omega⟩
 ·have hj':=Qc hc;obtain rfl:j=x.ps.length:=by omega
  rw [Qo] at hq;rw [hH2,hq,if_neg (fun h=>h rfl)] at hz2;refine lx hb6 (j:=3) rfl ?_;refine ae.use (vT _ x.body (Qw _) (by omega) hbo vb z 1 h6' (hbd.aE (k5.trans k6)) (ht.more k06) hz0 hz1 (by omega) (by omega)) ?_
  rintro r h7 ⟨hr,k7⟩;have hb17:=k7.get hb16 (by simp)
  have k07:=k06.trans k7;have hok1:=kR x.body z 1 (by omega)
  obtain ⟨c,a,m,rfl,hq⟩:∃c a m,r=.tuple #[.agg (flt c a).toArray,.int .i64 m]∧((c≠0∧kg x.body z 1=.error (c,a))∨(c=0∧kg x.body z 1=.ok m∧0≤m∧m≤300)):=by
   revert hr hok1
   cases kg x.body z 1 with
   |error e=>exact fun ⟨m,hm⟩ hne=>⟨e.1,e.2,m,hm,.inl ⟨hne,rfl⟩⟩
   |ok n=>exact fun hm hne=>⟨0,0,n,hm,.inr ⟨rfl,rfl,by have:=hne.1;omega,hne.2⟩⟩
  rw [HT,asA_agg];refine ⟨rfl,bq c a,aA (cs:=flt c a) rfl ?_⟩;have hb8:=ai (h:=h7) (o:=.cells (flt c a).toArray 28 (0,0));have k8:=ay.push (S:=fun _=>False) h7 (.cells (flt c a).toArray 28 (0,0));generalize h7.push (.cells (flt c a).toArray 28 (0,0))=h8 at *;have hb18:=k8.get hb17 (by simp)
  have k08:=k07.trans k8;refine lx hb8 (j:=0) rfl ?_;rw [asK_int];refine ah (fun hc=>?_) (fun hc=>?_)
  ·have hne:=Zd.1 hc;obtain ⟨_,hm⟩:=hq.resolve_right fun hh=>hne hh.1;rw [hm,uZ] at hz2;refine ⟨_,aq hb8 rfl,rfl,bq c a,xf hb18 rfl rfl fun h' kk hb'=>⟨?_,BP k08 hL kk⟩⟩;rw [hz2];rfl
  ·have h0:c=0:=by simpa using hc
   obtain ⟨_,hm,hm1,hm2⟩:=hq.resolve_left fun hh=>hh.1 h0;rw [hm,mR] at hz2;rw [asK_int,i64_in (by omega) (by omega)]
   exact ⟨⟨m,k+1,rfl,by simp,by omega,hm1,hm2,hz2,((((k3.trans k4).trans k5).trans k6).trans k7).trans k8⟩,by simp;omega⟩
end
end Go.Proofs.YtkeeboomikkojaaGreatDoor
namespace Go.Proofs.YtkeeboomikkojaaGreatDoor
open Go Go.Sx Go.Sx.Rn Go.Proofs.YtkeeboomikkojaaGreatDoor.Sx
section
variable  {ω:Amb}
theorem E8:∀(N:Nat) (l:List Ex),cZ l < N→cZ l≤20000→∀(h:Hp) (v:Value),ExS h v l→∀(X:XT),
  ae Tryz.prog ω lr [v] h (fun r h'=>gf h' (Nw h h') r l∧KF h h') X:=by
 intro N
 induction N with
 |zero=>exact fun l hN=>absurd hN (Nat.not_lt_zero _)
 |succ N ih =>
  intro l hN hle h v hs X;refine kY ω _ h _ X ?_;unfold eB;have hlen:=gY l;refine ⟨fun out t h'=>∃(k:Nat) (us:List Value),t=.int .i64 k∧k≤l.length∧cI h' h.size 36 4 out k us∧cv h' (fun b=>Nw h h' b∧out.ownBlock≠some b) (l.take k) us∧KF h h',
   fun _ t _=>match t with|.int _ k=>l.length - k.toNat|_=>0,⟨0,[],rfl,by omega,cI.nil,xi,ay.refl _ _⟩,?_⟩
  rintro out _ _ h5 ⟨k,us,rfl,hk,ho,hat,k1⟩;have hs1:=hs.aE k1;refine hs1.sl fun _ _=>?_;rw [asK_int];refine ah (fun hc=>?_) (fun hc=>?_)
  rotate_left
  ·have hc:=Qc hc;obtain rfl:k=l.length:=by omega
   rw [Qo] at hat;refine ⟨⟨us,SlN.own ho (by omega),gV (fun sz v n us hs=>hs.mono fun b hb=>hb.1) l hat⟩,k1⟩
  have hkl:k < l.length:=by
   have:=Qj hc;omega
  have hx:=Q7 hkl;have hmem:l[k]∈l:=Qv hkl;generalize l[k]=x at hx hmem;have hxn:=cG hmem;have hxe:=gF x;refine hs1.rdC hx fun w hw=>?_;refine ⟨rfl,eu hw.ca,aA (cs:=exC x w) rfl ?_⟩;have hb6:=ai (h:=h5) (o:=.cells (exC x w).toArray 36 (0,0));have k6:=ay.push (S:=fun _=>False) h5 (.cells (exC x w).toArray 36 (0,0));have z6:(h5.push (.cells (exC x w).toArray 36 (0,0))).size=h5.size+1:=by simp
  have hw6:=hw.aE k6;generalize h5.push (.cells (exC x w).toArray 36 (0,0))=h6 at *;refine lx hb6 (j:=3) rfl ?_;refine ae.use (ih x.l (by omega) (by omega) h6 w hw6) ?_
  rintro r h7 ⟨hr,k7⟩;have hb7:=k7.get hb6 (by simp)
  refine dm hr.ca.one ?_;refine aR hb7 (by simp [exC]) ?_
  rw [show (exC x w).toArray.setIfInBounds 3 r=(exC x r).toArray from by simp [exC]]
  have hb8:=av (o:=.cells (exC x r).toArray 36 (0,0)) hb7;have k8:=ay.set (S:=fun b=>b=h5.size) (h:=h7) (.cells (exC x r).toArray 36 (0,0)) (b:=h5.size) rfl;have z8:(h7.setIfInBounds h5.size (.cells (exC x r).toArray 36 (0,0))).size=h7.size:=by simp
  generalize h7.setIfInBounds h5.size (.cells (exC x r).toArray 36 (0,0))=h8 at *;have k58:KF h5 h8:=((k6.trans k7).mono (S':=fun b=>b=h5.size) (fun _ _ h=>h.elim)).trans k8 |>.mono (fun b hb e=>by omega)
  refine ⟨exC x r,aq hb8 rfl,rfl,?_⟩;refine du (bt:=56) (cs:=exC x r) (by kernel_rfl) (ho.more k58) rfl (eu hr.ca) (by omega) (by omega) (by have:=k1.size;have:=k58.size;omega) fun w2 h9 ho2 hg _ hv=>?_
  have hlt:=ho.lt;have k7s:=k7.size;have k58s:=k58.size;have hg9:=hg.size;have k89:ay (fun b=>some b=out.ownBlock) h8 h9:=ay.grown hg fun b hb _=>hb.symm;have k59:ay (fun b=>some b=out.ownBlock) h5 h9:=(k58.mono (fun _ _ h=>h.elim)).trans k89;have k09:KF h h9:=ay.mono (k1.mono (S':=fun b=>some b=out.ownBlock) (fun _ _ h=>h.elim) |>.trans k59) (fun b hb e=>by have:=hlt b e.symm;omega)
  rw [asK_int,i64_in (by omega) (by omega)]
  refine ⟨⟨k+1,us++exC x r,by simp,by omega,ho2,?_,k09⟩,by simp;omega⟩
  rw [aW hx];refine rT (gV (fun sz v n us hs=>(hs.aE k59 fun b hb e=>hb.2 e.symm).mono fun b hb=>⟨⟨hb.1.1,by omega⟩,eP hv (by omega) hb.2⟩) _ hat) (by rw [ho.1,Qp];congr 1;omega) ?_ rfl
  refine lS.2 ⟨r,rfl,hr.map fun sz v n us hs=>?_⟩;refine ((hs.aE k8 fun b hb=>by omega).aE k89 fun b hb e=>by have:=hlt b e.symm;omega).mono fun b hb=>⟨⟨by have:=k1.size;omega,by omega⟩,eP hv (by omega) fun e=>?_⟩
  have:=hlt b e;omega
theorem Is (x:St)(a b c r:Value):(stC x a b c).toArray.setIfInBounds 6 r=(stC x r b c).toArray:=by simp [stC]
theorem Jm (x:St)(a b c r:Value):(stC x a b c).toArray.setIfInBounds 7 r=(stC x a r c).toArray:=by simp [stC]
theorem Ji (x:St)(a b c r:Value):(stC x a b c).toArray.setIfInBounds 8 r=(stC x a b r).toArray:=by simp [stC]
theorem ES:∀(N:Nat) (l:List St),cq l < N→cq l≤20000→∀(h:Hp) (v:Value),StS h v l→∀(X:XT),
  ae Tryz.prog ω kX [v] h (fun r h'=>qQ h' (Nw h h') r l∧KF h h') X:=by
 intro N
 induction N with
 |zero=>exact fun l hN=>absurd hN (Nat.not_lt_zero _)
 |succ N ih =>
  intro l hN hle h v hs X;refine lD ω _ h _ X ?_;unfold eE;have hlen:=qw l;refine ⟨fun out t h'=>∃(k:Nat) (us:List Value),t=.int .i64 k∧k≤l.length∧cI h' h.size 39 9 out k us∧cV h' (fun b=>Nw h h' b∧out.ownBlock≠some b) (l.take k) us∧KF h h',
   fun _ t _=>match t with|.int _ k=>l.length - k.toNat|_=>0,⟨0,[],rfl,by omega,cI.nil,wM,ay.refl _ _⟩,?_⟩
  rintro out _ _ h5 ⟨k,us,rfl,hk,ho,hat,k1⟩;have hs1:=hs.aE k1;refine hs1.sl fun _ _=>?_;rw [asK_int];refine ah (fun hc=>?_) (fun hc=>?_)
  rotate_left
  ·have hc:=Qc hc;obtain rfl:k=l.length:=by omega
   rw [Qo] at hat;refine ⟨⟨us,SlN.own ho (by omega),fa (fun sz v n us hs=>hs.mono fun b hb=>hb.1) l hat⟩,k1⟩
  have hkl:k < l.length:=by
   have:=Qj hc;omega
  have hx:=Q7 hkl;have hmem:l[k]∈l:=Qv hkl;generalize l[k]=x at hx hmem;have hxn:=gW hmem;have hxe:=jH x;refine hs1.rdC hx fun ve vb vl he hbd hel=>?_;refine ⟨rfl,iT he.ca hbd.ca hel.ca,aA (cs:=stC x ve vb vl) rfl ?_⟩;have hb6:=ai (h:=h5) (o:=.cells (stC x ve vb vl).toArray 39 (0,0));have k6:=ay.push (S:=fun _=>False) h5 (.cells (stC x ve vb vl).toArray 39 (0,0));have z6:(h5.push (.cells (stC x ve vb vl).toArray 39 (0,0))).size=h5.size+1:=by simp
  have he:=he.aE k6;generalize h5.push (.cells (stC x ve vb vl).toArray 39 (0,0))=h6 at *;refine lx hb6 (j:=6) rfl ?_;refine ae.use (E8 _ x.e (Qw _) (by omega) h6 ve he) ?_
  rintro r1 h7 ⟨hr1,k7⟩;have hb7:=k7.get hb6 (by simp)
  refine dm hr1.ca.one ?_;refine aR hb7 (by simp [stC]) ?_
  rw [Is];have hb8:=av (o:=.cells (stC x r1 vb vl).toArray 39 (0,0)) hb7;have k8:=ay.set (S:=fun b=>b=h5.size) (h:=h7) (.cells (stC x r1 vb vl).toArray 39 (0,0)) (b:=h5.size) rfl;have z8:(h7.setIfInBounds h5.size (.cells (stC x r1 vb vl).toArray 39 (0,0))).size=h7.size:=by simp
  generalize h7.setIfInBounds h5.size (.cells (stC x r1 vb vl).toArray 39 (0,0))=h8 at *;have k58:ay (fun b=>b=h5.size) h5 h8:=((k6.trans k7).mono (fun _ _ h=>h.elim)).trans k8;have f58:KF h5 h8:=k58.mono (fun b hb e=>by omega)
  refine lx hb8 (j:=7) rfl ?_;refine ae.use (ih x.body (by omega) (by omega) h8 vb (hbd.aE f58)) ?_
  rintro r2 h9 ⟨hr2,k9⟩;have hb9:=k9.get hb8 (by simp)
  refine dm hr2.ca.one ?_;refine aR hb9 (by simp [stC]) ?_
  rw [Jm];have hb10:=av (o:=.cells (stC x r1 r2 vl).toArray 39 (0,0)) hb9;have k10:=ay.set (S:=fun b=>b=h5.size) (h:=h9) (.cells (stC x r1 r2 vl).toArray 39 (0,0)) (b:=h5.size) rfl;have z10:(h9.setIfInBounds h5.size (.cells (stC x r1 r2 vl).toArray 39 (0,0))).size=h9.size:=by simp
  generalize h9.setIfInBounds h5.size (.cells (stC x r1 r2 vl).toArray 39 (0,0))=h10 at *;have k810:ay (fun b=>b=h5.size) h8 h10:=(k9.mono (fun _ _ h=>h.elim)).trans k10;have k510:=k58.trans k810;have f510:KF h5 h10:=k510.mono (fun b hb e=>by omega)
  refine lx hb10 (j:=8) rfl ?_;refine ae.use (ih x.els (by omega) (by omega) h10 vl (hel.aE f510)) ?_
  rintro r3 h11 ⟨hr3,k11⟩;have hb11:=k11.get hb10 (by simp)
  refine dm hr3.ca.one ?_;refine aR hb11 (by simp [stC]) ?_
  rw [Ji];have hb12:=av (o:=.cells (stC x r1 r2 r3).toArray 39 (0,0)) hb11;have k12:=ay.set (S:=fun b=>b=h5.size) (h:=h11) (.cells (stC x r1 r2 r3).toArray 39 (0,0)) (b:=h5.size) rfl;have z12:(h11.setIfInBounds h5.size (.cells (stC x r1 r2 r3).toArray 39 (0,0))).size=h11.size:=by simp
  generalize h11.setIfInBounds h5.size (.cells (stC x r1 r2 r3).toArray 39 (0,0))=h12 at *;have k1012:ay (fun b=>b=h5.size) h10 h12:=(k11.mono (fun _ _ h=>h.elim)).trans k12;have k912:ay (fun b=>b=h5.size) h9 h12:=k10.trans k1012;have k712:ay (fun b=>b=h5.size) h7 h12:=k8.trans (k810.trans k1012);have f512:KF h5 h12:=(k510.trans k1012).mono (fun b hb e=>by omega)
  refine ⟨stC x r1 r2 r3,aq hb12 rfl,rfl,?_⟩;refine du (bt:=144) (cs:=stC x r1 r2 r3) (by kernel_rfl) (ho.more f512) rfl (iT hr1.ca hr2.ca hr3.ca) (by omega) (by omega) (by have:=k1.size;have:=f512.size;omega) fun w2 h13 ho2 hg _ hv=>?_
  have hlt:=ho.lt;have k7s:=k7.size;have k9s:=k9.size;have k11s:=k11.size;have k58s:=f512.size;have hg9:=hg.size;have k89:ay (fun b=>some b=out.ownBlock) h12 h13:=ay.grown hg fun b hb _=>hb.symm;have k59:ay (fun b=>some b=out.ownBlock) h5 h13:=(f512.mono (fun _ _ h=>h.elim)).trans k89;have k09:KF h h13:=ay.mono (k1.mono (S':=fun b=>some b=out.ownBlock) (fun _ _ h=>h.elim) |>.trans k59) (fun b hb e=>by have:=hlt b e.symm;omega)
  have hf:∀{ha hb:Hp},ay (fun b=>b=h5.size) hb h12→h5.size < ha.size→hb.size≤h12.size→∀sz v n us,SlN hb (Nw ha hb) sz v n us→SlN h13 (fun b=>Nw h h13 b∧w2.ownBlock≠some b) sz v n us:=by
   intro ha hb kk h1 h2 sz v n us hs;refine ((hs.aE kk fun b hb e=>by omega).aE k89 fun b hb e=>by have:=hlt b e.symm;omega).mono fun b hb=>⟨⟨by have:=k1.size;omega,by omega⟩,eP hv (by omega) fun e=>?_⟩
   have:=hlt b e;omega
  rw [asK_int,i64_in (by omega) (by omega)]
  refine ⟨⟨k+1,us++stC x r1 r2 r3,by simp,by omega,ho2,?_,k09⟩,by simp;omega⟩
  rw [aW hx];refine rI (fa (fun sz v n us hs=>(hs.aE k59 fun b hb e=>hb.2 e.symm).mono fun b hb=>⟨⟨hb.1.1,by omega⟩,eP hv (by omega) hb.2⟩) _ hat) (by rw [ho.1,Qp];congr 1;omega) ?_ rfl
  exact Ak.2 ⟨r1,r2,r3,rfl,hr1.map (hf k712 (by omega) k712.size),hr2.map (hf k912 (by omega) k912.size),hr3.map (hf k12 (by omega) k12.size)⟩
end
theorem zV {h:Hp}{base n sz:Nat}{t:TypeId}{v:Value}{ys:List Value}(ho:cI h base t sz v n ys):DY v:=CK ho
theorem NJ {h:Hp}{v:Value}{l:List (ByteArray×ByteArray)}(hs:PsS h v l):FX h v l.length 2 (l.flatMap pf):=by
 refine ⟨hs.1.1,?_⟩;rcases hs.1.2 with ⟨h0,a,c,rfl⟩|⟨b,o,c,rfl,hc⟩
 ·rcases hs.2 with h1|⟨a',l',c',h1⟩
  ·exact .inl ⟨h1,h0⟩
  ·cases h1;refine .inr ⟨a',c,by rw [h0],fun j u hu=>?_⟩
   obtain rfl:=List.eq_nil_of_length_eq_zero h0;simp at hu
 ·refine .inr ⟨⟨b,o,none⟩,c,rfl,fun j u hu=>?_⟩;rw [aT];exact hc j u hu
theorem IU (x:Sg)(a b r:Value):(sgC x a b).toArray.setIfInBounds 2 r=(sgC x r b).toArray:=by simp [sgC]
theorem I9 (x:Sg)(a b r:Value):(sgC x a b).toArray.setIfInBounds 3 r=(sgC x a r).toArray:=by simp [sgC]
section
variable  {ω:Amb}
end
section
variable  {ω:Amb}
theorem EX (p:List Sg)(hlen:p.length≤100)(hnm:∀s∈p,s.ps.length≤100)(htot:(p.map fun s=>cq s.body).sum≤20000)(v:Value)(h:Hp)(hp:PgS h v p)(X:XT) :
  ae Tryz.prog ω j3 [v] h (fun r h'=>∃w us,r=.agg #[w]∧cI h' h.size 41 4 w p.length us∧dO h' (fun b=>Nw h h' b∧w.ownBlock≠some b) p us∧KF h h') X:=by
 obtain ⟨w0,rfl,hs⟩:=hp;refine jZ ω _ h _ X ?_;unfold dW bJ;simp only [show Value.cells (.agg #[w0])=[w0].toArray from rfl]
 have hb0:=ai (h:=h) (o:=.cells [w0].toArray 24 (0,0));have k0:=ay.push (S:=fun _=>False) h (.cells [w0].toArray 24 (0,0));have z0:(h.push (.cells [w0].toArray 24 (0,0))).size=h.size+1:=by simp
 generalize h.push (.cells [w0].toArray 24 (0,0))=h1 at *;have hb1:=ai (h:=h1) (o:=.cells [.slice none 0 0].toArray 24 (0,0));have k1:=ay.push (S:=fun _=>False) h1 (.cells [.slice none 0 0].toArray 24 (0,0));have z1:(h1.push (.cells [.slice none 0 0].toArray 24 (0,0))).size=h1.size+1:=by simp
 generalize h1.push (.cells [.slice none 0 0].toArray 24 (0,0))=h2 at *;have hb2:=ai (h:=h2) (o:=.cells [.slice none 0 0].toArray 24 (0,0));have k2:=ay.push (S:=fun _=>False) h2 (.cells [.slice none 0 0].toArray 24 (0,0));have z2:(h2.push (.cells [.slice none 0 0].toArray 24 (0,0))).size=h2.size+1:=by simp
 generalize h2.push (.cells [.slice none 0 0].toArray 24 (0,0))=h3 at *;have hb0:=(k1.trans k2).get hb0 (by simp)
 have hb1:=k2.get hb1 (by simp)
 have k03:=(k0.trans k1).trans k2;refine ⟨fun t h'=>∃(k:Nat) (out:Value) (us:List Value),t=.int .i64 k∧k≤p.length∧cI h' h3.size 41 4 out k us∧dO h' (fun b=>Nw h3 h' b∧out.ownBlock≠some b) (p.take k) us∧KF h h' ∧
   h'[h.size]?=some (.cells [w0].toArray 24 (0,0))∧h'[h1.size]?=some (.cells [.slice none 0 0].toArray 24 (0,0))∧h'[h2.size]?=some (.cells [out].toArray 24 (0,0))∧h3.size≤h'.size,
  fun t _=>match t with|.int _ k=>p.length - k.toNat|_=>0,⟨0,.slice none 0 0,[],rfl,by omega,cI.nil,wO,k03,hb0,hb1,hb2,by omega⟩,?_⟩
 clear hb0 hb1 hb2;rintro _ _ h4 ⟨k,out,us,rfl,hk,ho,hat,kk,hb0,hb1,hb2,hz⟩;have hs1:=hs.aE kk;refine lx hb0 (j:=0) rfl ?_;refine hs1.sl fun _ _=>?_;rw [asK_int];refine ah (fun hc=>?_) (fun hc=>?_)
 rotate_left
 ·have hc:=Qc hc;obtain rfl:k=p.length:=by omega
  rw [Qo] at hat;refine ⟨[out],aq hb2 rfl,rfl,?_,?_⟩
  ·intro u hu;obtain rfl:=Qf.1 (by simpa using hu)
   exact rp ho
  refine bh hb1 (by simp) ?_
  rw [cp (by rfl)]
  have hb9:=av (o:=.cells [out].toArray 24 (0,0)) hb1;have k9:=ay.set (S:=fun b=>b=h1.size) (h:=h4) (.cells [out].toArray 24 (0,0)) (b:=h1.size) rfl;generalize h4.setIfInBounds h1.size (.cells [out].toArray 24 (0,0))=h9 at *;have z9:=k9.size;refine ⟨[out],aq hb9 rfl,out,us,rfl,?_,?_,(kk.mono (fun _ _ h=>h.elim)).trans k9 |>.mono fun b hb e=>by omega⟩
  ·exact (ho.aE fun b hb hl=>k9.block b hl fun e=>by have:=ho.lt b hb;omega).base (by omega)
  ·exact me (fun sz v n us hs=>(hs.aE k9 fun b hb e=>by have:=hb.1;omega).mono fun b hb=>⟨⟨by have:=hb.1;omega,by have:=hb.1;omega⟩,hb.2⟩) p hat
 have hkl:k < p.length:=by
  have:=Qj hc;omega
 have hx:=Q7 hkl;have hmem:p[k]∈p:=Qv hkl;generalize p[k]=x at hx hmem;have hxp:=hnm x hmem;have hxb:cq x.body≤20000:=Nat.le_trans (vm hmem) htot;refine lx hb0 (j:=0) rfl ?_;refine hs1.rdC hx fun vp vb hps hbd=>?_;refine ⟨rfl,fy (cB hps.2) hbd.ca,aA (cs:=sgC x vp vb) rfl ?_⟩;have hb6:=ai (h:=h4) (o:=.cells (sgC x vp vb).toArray 41 (0,0));have k6:=ay.push (S:=fun _=>False) h4 (.cells (sgC x vp vb).toArray 41 (0,0))
 have z6:(h4.push (.cells (sgC x vp vb).toArray 41 (0,0))).size=h4.size+1:=by simp
 have hps:=hps.aE k6;generalize h4.push (.cells (sgC x vp vb).toArray 41 (0,0))=h6 at *;refine lx hb6 (j:=2) rfl ?_;refine FL (bt:=32) (el:=32) (sz:=2) (base:=h6.size) (n:=0) (xs:=[]) (by kernel_rfl) cI.nil (NJ hps) (fun u hu=>?_) (by omega) (by omega) (Zc _) fun r1 h7 hr1 hg7 _ _=>?_
 ·obtain ⟨q,_,hq⟩:=List.mem_flatMap.1 hu;exact CC q u hq
 rw [Zb,Z4] at hr1;have k7:KF h6 h7:=ay.grown hg7 fun b hb _=>by cases hb
 have hb7:=k7.get hb6 (by simp)
 refine dm (rp hr1) ?_;refine aR hb7 (by simp [sgC]) ?_
 rw [IU];have hb8:=av (o:=.cells (sgC x r1 vb).toArray 41 (0,0)) hb7;have k8:=ay.set (S:=fun b=>b=h4.size) (h:=h7) (.cells (sgC x r1 vb).toArray 41 (0,0)) (b:=h4.size) rfl;have z8:(h7.setIfInBounds h4.size (.cells (sgC x r1 vb).toArray 41 (0,0))).size=h7.size:=by simp
 generalize h7.setIfInBounds h4.size (.cells (sgC x r1 vb).toArray 41 (0,0))=h8 at *;have k58:ay (fun b=>b=h4.size) h4 h8:=((k6.trans k7).mono (fun _ _ h=>h.elim)).trans k8;have f58:KF h4 h8:=k58.mono (fun b hb e=>by omega)
 refine lx hb8 (j:=3) rfl ?_;refine ae.use (ES _ x.body (Qw _) hxb h8 vb (hbd.aE f58)) ?_;rintro r2 h9 ⟨hr2,k9⟩;have hb9:=k9.get hb8 (by simp)
 refine dm hr2.ca.one ?_;refine aR hb9 (by simp [sgC]) ?_
 rw [I9];have hb10:=av (o:=.cells (sgC x r1 r2).toArray 41 (0,0)) hb9;have k10:=ay.set (S:=fun b=>b=h4.size) (h:=h9) (.cells (sgC x r1 r2).toArray 41 (0,0)) (b:=h4.size) rfl;have z10:(h9.setIfInBounds h4.size (.cells (sgC x r1 r2).toArray 41 (0,0))).size=h9.size:=by simp
 generalize h9.setIfInBounds h4.size (.cells (sgC x r1 r2).toArray 41 (0,0))=h10 at *;have k810:ay (fun b=>b=h4.size) h8 h10:=(k9.mono (fun _ _ h=>h.elim)).trans k10;have k710:ay (fun b=>b=h4.size) h7 h10:=k8.trans k810;have f510:KF h4 h10:=(k58.trans k810).mono (fun b hb e=>by omega)
 refine lx (f510.get hb2 (by simp)) (j:=0) rfl ?_
 refine ⟨sgC x r1 r2,aq hb10 rfl,rfl,?_⟩;refine du (bt:=72) (cs:=sgC x r1 r2) (by kernel_rfl) (ho.more f510) rfl (fy (cB (zV hr1)) hr2.ca) (by omega) (by omega) (by have:=f510.size;omega) fun w2 h13 ho2 hg _ hv=>?_
 have hlt:=ho.lt;have k7s:=k7.size;have k9s:=k9.size;have k58s:=f510.size;have hg9:=hg.size;have k89:ay (fun b=>some b=out.ownBlock) h10 h13:=ay.grown hg fun b hb _=>hb.symm;have k59:ay (fun b=>some b=out.ownBlock) h4 h13:=(f510.mono (fun _ _ h=>h.elim)).trans k89;have hnb:∀b,b < h3.size→some b≠out.ownBlock:=fun b hb e=>by have:=hlt b e.symm;omega
 have hb2':=k59.get hb2 (hnb _ (by omega))
 have hb0':=k59.get hb0 (hnb _ (by omega))
 have hb1':=k59.get hb1 (hnb _ (by omega))
 refine dm (rp ho2) ?_;refine aR hb2' (by simp) ?_
 rw [show ([out].toArray).setIfInBounds 0 w2=[w2].toArray from rfl]
 have hb14:=av (o:=.cells [w2].toArray 24 (0,0)) hb2';have k14:=ay.set (S:=fun b=>b=h2.size) (h:=h13) (.cells [w2].toArray 24 (0,0)) (b:=h2.size) rfl;have z14:(h13.setIfInBounds h2.size (.cells [w2].toArray 24 (0,0))).size=h13.size:=by simp
 generalize h13.setIfInBounds h2.size (.cells [w2].toArray 24 (0,0))=h14 at *;have hlt2:=ho2.lt;have kz:=k03.size;have k09:KF h h14:=ay.mono ((kk.mono (S':=fun b=>some b=out.ownBlock∨b=h2.size) (fun _ _ h=>h.elim)).trans ((k59.mono fun _ _ h=>.inl h).trans (k14.mono fun _ _ h=>.inr h))) (fun b hb e=>by
  rcases e with e|e
  ·have:=hlt b e.symm;omega
  ·omega)
 have hf:∀{ha hb:Hp},ay (fun b=>b=h4.size) hb h10→h4.size < ha.size→hb.size≤h10.size→∀sz v n us,SlN hb (Nw ha hb) sz v n us→SlN h14 (fun b=>Nw h3 h14 b∧w2.ownBlock≠some b) sz v n us:=by
  intro ha hb kk h1 h2 sz v n us hs;refine (((hs.aE kk fun b hb e=>by omega).aE k89 fun b hb e=>by have:=hlt b e.symm;omega).aE k14 fun b hb e=>by omega).mono fun b hb=>⟨⟨by omega,by omega⟩,eP hv (by omega) fun e=>?_⟩
  have:=hlt b e;omega
 rw [asK_int,i64_in (by omega) (by omega)]
 refine ⟨⟨k+1,w2,us++sgC x r1 r2,by simp,by omega,ho2.aE fun b hb hl=>k14.block b hl fun e=>by have:=hlt2 b hb;omega,?_,k09,k14.get hb0' (by omega),k14.get hb1' (by omega),hb14,by omega⟩,by simp;omega⟩
 rw [aW hx];refine rS (me (fun sz v n us hs=>((hs.aE k59 fun b hb e=>hb.2 e.symm).aE k14 fun b hb e=>by have:=hb.1;omega).mono fun b hb=>⟨⟨hb.1.1,by have:=hb.1;omega⟩,eP hv (by have:=hb.1;omega) hb.2⟩) _ hat) (by rw [ho.1,Qp];congr 1;omega) ?_ rfl
 exact ⟨r1,r2,rfl,hf k710 (by omega) k710.size _ _ _ _ (SlN.own hr1 (by omega)),zV hr1,hr2.map (hf k10 (by omega) k10.size)⟩
end
end Go.Proofs.YtkeeboomikkojaaGreatDoor
