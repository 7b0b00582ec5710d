import Derived.Test.YtkeeboomikkojaaGreatDoorRn5
import Derived.Test.YtkeeboomikkojaaGreatDoorYk
import Derived.Test.YtkeeboomikkojaaGreatDoorRx4
import Derived.Test.YtkeeboomikkojaaGreatDoorRy2
import Derived.Test.YtkeeboomikkojaaGreatDoorRn7
import Derived.Test.YtkeeboomikkojaaGreatDoorRn9
import Derived.Test.YtkeeboomikkojaaGreatDoorRk
import Derived.Test.YtkeeboomikkojaaGreatDoorRn6
import Derived.Test.YtkeeboomikkojaaGreatDoorY9
namespace Go.Proofs.YtkeeboomikkojaaGreatDoor
open Go Go.Sx Go.Sx.Tk Go.Sx.Rn Go.Proofs.YtkeeboomikkojaaGreatDoor.Sx
section
variable  {ω:Amb}
theorem Im (c a:Int)(h:Hp)(X:XT):aa Tryz.prog ω eU [.int .i64 c,.int .i64 a] h (fun r h'=>r=.agg (flt c a).toArray∧KF h h') X:=by
 refine qE ω _ _ h _ X ?_;unfold jz;show bO (.int .i64 c) (bO (.int .i64 a) _);refine ⟨rfl,aW c a,ay (cs:=flt c a) rfl ?_⟩;exact ⟨_,qW rfl,rfl,ar.push _ _⟩
end
end Go.Proofs.YtkeeboomikkojaaGreatDoor
namespace Go.Proofs.YtkeeboomikkojaaGreatDoor
open Go Go.Sx Go.Sx.Tk Go.Proofs.YtkeeboomikkojaaGreatDoor.Sx
section
variable  {ω:Amb}
theorem wZ (c:UInt8)(h:Hp)(X:XT):aa Tryz.prog ω nu [.int .u8 (c.toNat:Int)] h (fun r h'=>r=.bool (lo c)∧h'=h) X:=by
 refine nI ω _ h _ X ?_;unfold fM lo;refine ⟨fun r h'=>r=.bool (decide (97≤c.toNat)&&decide (c.toNat≤122))∧h'=h,?_,fun _ _ _ hj=>hj⟩;rw [asK_int];refine ae (fun hc=>?_) (fun hc=>⟨?_,rfl⟩)
 ·rw [asK_int];have:=of_decide_eq_true hc;exact ⟨by congr 1;rw [Bool.eq_iff_iff];simp;omega,rfl⟩
 ·have:=of_decide_eq_false hc;rw [decide_eq_false (by omega),Bool.false_and]
theorem Bh (c:UInt8)(h:Hp)(X:XT):aa Tryz.prog ω nE [.int .u8 (c.toNat:Int)] h (fun r h'=>r=.bool (dg c)∧h'=h) X:=by
 refine mY ω _ h _ X ?_;unfold fw dg;refine ⟨fun r h'=>r=.bool (decide (48≤c.toNat)&&decide (c.toNat≤57))∧h'=h,?_,fun _ _ _ hj=>hj⟩;rw [asK_int];refine ae (fun hc=>?_) (fun hc=>⟨?_,rfl⟩)
 ·rw [asK_int];have:=of_decide_eq_true hc;exact ⟨by congr 1;rw [Bool.eq_iff_iff];simp;omega,rfl⟩
 ·have:=of_decide_eq_false hc;rw [decide_eq_false (by omega),Bool.false_and]
end
def yA:List Value:=words.map fun w=>.string ⟨w.toArray⟩
theorem EC {k:Nat}{w:List UInt8}(h:words[k]?=some w):yA[k]?=some (.string ⟨w.toArray⟩):=by rw [yA,List.getElem?_map,h];rfl
section
variable  {ω:Amb}
theorem Bj (s:ByteArray)(h:Hp)(X:XT):aa Tryz.prog ω lL [.string s] h (fun r h'=>r=.bool (isWord (bytesOf s))∧KF h h') X:=by
 refine lS ω _ h _ X ?_;unfold eQ;have hb:(h.push (.cells yA.toArray 9 (0,0)))[h.size]?=some (.cells yA.toArray 9 (0,0)):=af;have kp:KF h (h.push (.cells yA.toArray 9 (0,0))):=ar.push _ _;refine ⟨fun i h'=>h'=h.push (.cells yA.toArray 9 (0,0))∧∃k:Nat,i=.int .i64 k∧k≤19∧∀(q:Nat) (w:List UInt8),q < k→words[q]?=some w→w≠bytesOf s,
  fun i _=>match i with|.int _ k=>19 - k.toNat|_=>0,⟨rfl,0,rfl,by omega,fun q w hq=>by omega⟩,?_⟩
 rintro _ _ h4 ⟨hh,k,rfl,hk,hn⟩;rw [hh];generalize h.push (.cells yA.toArray 9 (0,0))=h1 at *;rw [asK_int];refine ae (fun hc=>?_) (fun hc=>?_)
 ·have hlt:k < 19:=by have:=of_decide_eq_true hc;omega
  have hx:words[k]?=some words[k]:=List.getElem?_eq_getElem hlt;generalize words[k]=w at hx;rw [asI_int];refine ⟨by omega,by omega,?_⟩
  rw [Int.toNat_natCast,Nat.mul_one];refine lx hb (EC hx) ?_;rw [asS_str,asS_str,eqS];refine ae (fun hc=>?_) (fun hc=>?_)
  ·have he:w=bytesOf s:=of_decide_eq_true hc;refine ⟨?_,kp⟩;rw [isWord,decide_eq_true (by rw [←he];exact List.mem_iff_getElem?.2 ⟨k,hx⟩)]
  ·have he:w≠bytesOf s:=of_decide_eq_false hc;rw [asK_int,i64_in (by omega) (by omega)]
   refine ⟨⟨rfl,k+1,by simp,by omega,fun q w' hq hw'=>?_⟩,by simp;omega⟩
   by_cases hqk:q=k
   ·subst hqk;rw [hx] at hw';cases hw';exact he
   ·exact hn q w' (by omega) hw'
 ·have hk19:k=19:=by have:=of_decide_eq_false hc;omega
  subst hk19;refine ⟨?_,kp⟩;rw [isWord,decide_eq_false];intro hm;obtain ⟨q,hq⟩:=List.mem_iff_getElem?.1 hm;exact hn q _ (List.getElem?_eq_some_iff.1 hq).1 hq rfl
end
section
variable  {ω:Amb}
theorem gu (s:ByteArray)(hs:s.size≤20000)(h:Hp)(X:XT):aa Tryz.prog ω li [.string s] h (fun r h'=>r=.bool (aF s)∧KF h h') X:=by
 refine kX ω _ h _ X ?_;unfold eP;refine ⟨fun r h'=>r=.bool (!cK s)∧KF h h',?_,?_⟩
 ·unfold cK;rw [asS_str];refine ae (fun hc=>?_) (fun hc=>?_)
  ·have:=of_decide_eq_true hc;rw [decide_eq_false (by omega:¬0 < s.size)]
   exact ⟨rfl,ar.refl _ _⟩
  have h0:=of_decide_eq_false hc;rw [asS_str,decide_eq_true (by omega:0 < s.size),Bool.true_and]
  refine ae (fun hc=>?_) (fun hc=>?_)
  ·have:=of_decide_eq_true hc;rw [decide_eq_false (by omega:¬s.size≤12)]
   exact ⟨rfl,ar.refl _ _⟩
  have h1:=of_decide_eq_false hc;rw [asS_str,decide_eq_true (by omega:s.size≤12),Bool.true_and,rF]
  refine ⟨by omega,by omega,?_⟩
  refine aa.use (wZ _ h) ?_;rintro _ _ ⟨rfl,hh⟩;rw [hh,asB_bool];refine ae (fun hc=>?_) (fun hc=>?_)
  ·have hc:lo (cAt s 0)=false:=by simpa using hc
   rw [hc];exact ⟨rfl,ar.refl _ _⟩
  ·have hc:lo (cAt s 0)=true:=by simpa using hc
   rw [hc,Bool.true_and,Bool.not_not];exact Bj s h X
 rintro _ _ h1 ⟨rfl,k1⟩;rw [asB_bool];unfold aF;refine ae (fun hc=>?_) (fun hc=>?_)
 ·have hc:cK s=false:=by simpa using hc
  rw [hc];exact ⟨rfl,k1⟩
 have hc:cK s=true:=by simpa using hc
 rw [hc,Bool.true_and];refine ⟨fun i h'=>h'=h1∧∃k:Nat,i=.int .i64 k∧k≤s.size∧((bytesOf s).take k).all ld=true,
  fun i _=>match i with|.int _ k=>s.size - k.toNat|_=>0,⟨rfl,0,rfl,by omega,rfl⟩,?_⟩
 rintro _ _ h4 ⟨hh,k,rfl,hk,hd⟩;rw [hh,asS_str,asK_int];refine ae (fun hc=>?_) (fun hc=>?_)
 ·have hlt:k < s.size:=by have:=of_decide_eq_true hc;omega
  refine ⟨fun r h'=>r=.bool (!ld (cAt s k))∧h'=h1,?_,?_⟩
  ·rw [asS_str,asI_int,cj];refine ⟨by omega,by omega,?_⟩
   refine aa.use (wZ _ h1) ?_;rintro _ _ ⟨rfl,hh⟩;rw [hh,asB_bool,Tk.ld];refine ae (fun hc=>?_) (fun hc=>?_)
   ·have hc:lo (cAt s k)=false:=by simpa using hc
    rw [asS_str,asI_int,cj,hc,Bool.false_or];refine ⟨by omega,by omega,?_⟩
    refine aa.use (Bh _ h1) ?_;rintro _ _ ⟨rfl,hh⟩;rw [hh,asB_bool];exact ⟨rfl,rfl⟩
   ·have hc:lo (cAt s k)=true:=by simpa using hc
    rw [hc];exact ⟨rfl,rfl⟩
  rintro _ _ _ ⟨rfl,hh⟩;rw [hh,asB_bool];refine ae (fun hc=>?_) (fun hc=>?_)
  ·have hc:ld (cAt s k)=false:=by simpa using hc
   refine ⟨?_,k1⟩;cases ha:(bytesOf s).all ld
   ·rfl
   ·rw [Dn ha hlt] at hc;cases hc
  ·have hc:ld (cAt s k)=true:=by simpa using hc
   rw [asK_int,i64_in (by omega) (by omega)]
   refine ⟨⟨rfl,k+1,by simp,by omega,?_⟩,by simp;omega⟩
   rw [jD s hlt,List.all_append,hd];simpa using hc
 ·have hke:k=s.size:=by have:=of_decide_eq_false hc;omega
  subst hke;rw [pX] at hd;rw [hd];exact ⟨rfl,k1⟩
end
end Go.Proofs.YtkeeboomikkojaaGreatDoor
namespace Go.Proofs.YtkeeboomikkojaaGreatDoor
open Go Go.Sx Go.Sx.Tk Go.Sx.Rn Go.Proofs.YtkeeboomikkojaaGreatDoor.Sx
theorem fj (s:ByteArray){i:Nat}(hi:i < s.size)(c:UInt8):(ByteArray.toList (s.extract i (i+1))==ByteArray.toList ⟨#[c]⟩)=decide (cAt s i=c):=by
 rw [eqS,gr,Nat.add_sub_cancel_left,qz s hi];rw [show bytesOf ⟨#[c]⟩=[c] from rfl,List.take_succ_cons,List.take_zero]
 rw [Bool.eq_iff_iff];simp
section
variable  {ω:Amb}
theorem ub (s:ByteArray)(ends:Int)(hs:s.size≤20000)(h:Hp)(X:XT) :
  aa Tryz.prog ω lR [.string s,.int .i64 ends] h (fun r h'=>r=.bool (bJ s ends)∧h'=h) X:=by
 refine l6 ω _ _ h _ X ?_;unfold eS;simp only [asS_str,asK_int];rw [i64_in (by omega) (by omega)]
 refine ⟨decide ¬(1≤s.size∧(s.size:Int) - 1≤ends∧cAt s (s.size - 1)=105),?_,fun _=>ae (fun hc=>?_) (fun hc=>?_)⟩
 ·refine ae (fun hc=>?_) (fun hc=>?_)
  ·have:=of_decide_eq_true hc;rw [decide_eq_true (by omega)]
   exact ⟨rfl,trivial⟩
  have h1:=of_decide_eq_false hc;refine ae (fun hc=>?_) (fun hc=>?_)
  ·have:=of_decide_eq_true hc;rw [decide_eq_true (by omega)]
   exact ⟨rfl,trivial⟩
  have h2:=of_decide_eq_false hc;refine ⟨by omega,by omega,by omega,?_,trivial⟩
  rw [show Int.toNat ((s.size:Int) - 1)=s.size - 1 by omega,Int.toNat_natCast]
  have:=fj s (i:=s.size - 1) (by omega) 105
  rw [show s.size - 1+1=s.size by omega] at this
  rw [this]
  congr 1
  rw [Bool.eq_iff_iff];simp only [Bool.not_eq_true',decide_eq_false_iff_not,decide_eq_true_eq]
  constructor
  ·rintro h ⟨_,_,h3⟩;exact h h3
  ·intro h h3;exact h ⟨by omega,by omega,h3⟩
 ·refine ⟨?_,trivial⟩;have:=of_decide_eq_true hc;rw [bJ,decide_eq_false];rintro ⟨h1,h2,h3,_⟩;exact this ⟨h1,h2,h3⟩
 have hh:=Decidable.not_not.1 (of_decide_eq_false hc);refine ⟨fun t h'=>∃k:Nat,t=.int .i64 k∧k≤s.size - 1∧(∀j,j < k→cAt s j=115∨cAt s j=114)∧h'=h,fun t _=>match t with|.int _ k=>s.size - k.toNat|_=>0,⟨0,rfl,by omega,by omega,rfl⟩,?_⟩
 rintro _ _ _ ⟨k,rfl,hk,hq,rfl⟩;simp only [asK_int,asI_int];refine ae (fun hc=>?_) (fun hc=>?_)
 rotate_left
 ·have hc:=of_decide_eq_false hc;obtain rfl:k=s.size - 1:=by omega
  exact ⟨by rw [bJ,decide_eq_true ⟨hh.1,hh.2.1,hh.2.2,hq⟩],trivial⟩
 have hkl:=of_decide_eq_true hc;rw [i64_in (by omega) (by omega)]
 refine ⟨decide ¬(cAt s k=115∨cAt s k=114),?_,fun _=>ae (fun hc=>?_) (fun hc=>?_)⟩
 ·rw [Int.toNat_natCast,show Int.toNat ((k:Int)+1)=k+1 by omega,fj s (by omega) 115,fj s (by omega) 114]
  refine ⟨by omega,by omega,by omega,ae (fun hc=>?_) (fun hc=>?_)⟩
  ·refine ⟨by omega,by omega,by omega,?_,trivial⟩
   congr 1
   rw [Bool.eq_iff_iff];simp only [Bool.not_eq_true',decide_eq_false_iff_not,decide_eq_true_eq] at hc ⊢;simp [hc]
  ·refine ⟨?_,trivial⟩;rw [decide_eq_false];simp only [Bool.not_eq_false',decide_eq_true_eq] at hc;simp [hc]
 ·refine ⟨?_,trivial⟩;rw [bJ,decide_eq_false];rintro ⟨_,_,_,h4⟩;exact of_decide_eq_true hc (h4 k (by omega))
 ·have hc:=Decidable.not_not.1 (of_decide_eq_false hc);refine ⟨⟨k+1,by simp,by omega,fun j hj=>?_,trivial⟩,by simp;omega⟩
  rcases Nat.lt_or_ge j k with h|h
  ·exact hq j h
  ·obtain rfl:j=k:=by omega
   exact hc
end
theorem zb:∀(l m:List Ex),nt (l++m)=orF (nt l) (nt m)
 |[],m=>by simp only [List.nil_append,nt,ln]
 |y::r,m=>by simp only [List.cons_append,nt,zb r m,cp]
theorem DN {l:List Ex}{k:Nat}(h:nt (l.take k)≠0):nt l=nt (l.take k):=by
 have:=zb (l.take k) (l.drop k);rw [List.take_append_drop] at this;rw [this,rX h]
section
variable  {ω:Amb}
theorem Bx:∀(N:Nat) (x:Ex),exN x < N→exN x≤100000→∀(h:Hp) (w:Value),ExS h w x.l→∀(X:XT),
  aa Tryz.prog ω mP [.agg (exC x w).toArray] h (fun r h'=>r=.int .i64 (exN x)∧KF h h') X:=by
 intro N
 induction N with
 |zero=>exact fun l hN=>absurd hN (Nat.not_lt_zero _)
 |succ N ih =>
  intro x hN hle h w hw X;refine nz ω _ h _ X ?_;unfold fD;simp only [dN];have hxe:=fZ x;have hlen:=fh x.l;have hb1:=af (h:=h) (o:=.cells (exC x w).toArray 36 (0,0));have kp:=ar.push (S:=fun _=>False) h (.cells (exC x w).toArray 36 (0,0));generalize h.push (.cells (exC x w).toArray 36 (0,0))=h1 at *;refine ⟨fun v t h'=>∃k:Nat,v=.int .i64 ((1+bV (x.l.take k):Nat):Int)∧t=.int .i64 k∧k≤x.l.length∧bV (x.l.take k)+bV (x.l.drop k)=bV x.l∧KF h1 h',fun _ t _=>match t with|.int _ k=>x.l.length - k.toNat|_=>0,
   ⟨0,by simp [bV],rfl,by omega,by simp [bV],ar.refl _ _⟩,?_⟩
  rintro _ _ _ h5 ⟨k,rfl,rfl,hk,hs,k1⟩;have hb5:=k1.get hb1 (by simp)
  have hw5:=hw.az (kp.trans k1);refine lx hb5 (j:=3) rfl ?_;refine hw5.sl fun _ _=>?_;rw [asK_int];refine ae (fun hc=>?_) (fun hc=>?_)
  rotate_left
  ·have hc:=of_decide_eq_false hc;obtain rfl:k=x.l.length:=by omega
   rw [List.take_length];exact ⟨by rw [fZ],kp.trans k1⟩
  have hkl:k < x.l.length:=by
   have:=of_decide_eq_true hc;omega
  have hx:=List.getElem?_eq_getElem hkl;have hdr:=fS hx;have hmem:x.l[k]∈x.l:=List.getElem_mem hkl;generalize x.l[k]=y at hx hmem hdr;have hyn:=bY hmem;refine lx hb5 (j:=3) rfl ?_;refine hw5.rdC hx fun w' hw'=>?_;refine aa.use (ih y (by omega) (by omega) h5 w' hw') ?_
  rintro _ h6 ⟨rfl,k6⟩;rw [hdr] at hs;have hcons:bV (y::x.l.drop (k+1))=exN y+bV (x.l.drop (k+1)):=rfl;simp only [asK_int];rw [i64_in (by omega) (by omega),i64_in (by omega) (by omega)]
  refine ⟨⟨k+1,?_,by simp,by omega,?_,k1.trans k6⟩,by simp;omega⟩
  ·rw [aP hx,fA]
   congr 1
   omega
  ·rw [aP hx,fA];omega
set_option maxHeartbeats 400000 in
theorem wm:∀(N:Nat) (x:Ex),exN x < N→exN x≤100000→yf x→∀(h:Hp) (w:Value),ExS h w x.l→∀(X:XT),
  aa Tryz.prog ω je [.agg (exC x w).toArray] h (fun r h'=>r=.int .i64 (exF x)∧KF h h') X:=by
 intro N
 induction N with
 |zero=>exact fun l hN=>absurd hN (Nat.not_lt_zero _)
 |succ N ih =>
  intro x hN hle hok h w hw X;refine iQ ω _ h _ X ?_;unfold cR;simp only [dN];obtain ⟨hnm,hokl⟩:=ff.1 hok;have hnm:x.nm.size≤20000:=Nat.le_trans hnm (by omega)
  have hxe:=fZ x;have hlen:=fh x.l;have hb1:=af (h:=h) (o:=.cells (exC x w).toArray 36 (0,0));have kp:=ar.push (S:=fun _=>False) h (.cells (exC x w).toArray 36 (0,0));generalize h.push (.cells (exC x w).toArray 36 (0,0))=h1 at *;have hw1:=hw.az kp;refine ⟨decide (x.op=1∨x.op=2),?_,fun _=>?_⟩
  ·refine lx hb1 (j:=0) rfl ?_;rw [asK_int];refine ae (fun hc=>?_) (fun hc=>?_)
   ·have:=eq_of_beq hc;rw [decide_eq_true (by omega)]
    exact ⟨rfl,trivial⟩
   ·refine lx hb1 (j:=0) rfl ?_;rw [asK_int];have:=beq_eq_false_iff_ne.1 hc;refine ⟨?_,trivial⟩
    congr 1
    rw [Bool.eq_iff_iff];simp;omega
  refine ⟨fun v h'=>v=.int .i64 (if x.op=1∨x.op=2 then 0 else 2)∧h1=h',ae (fun hc=>?_) (fun hc=>?_),?_⟩
  ·rw [if_pos (of_decide_eq_true hc)];exact ⟨rfl,rfl⟩
  ·rw [if_neg (of_decide_eq_false hc)];exact ⟨rfl,rfl⟩
  rintro _ _ _ ⟨rfl,rfl⟩;refine lx hb1 (j:=0) rfl ?_;rw [asK_int];refine ⟨fun v h'=>v=.int .i64 (dL x.op)∧h1=h',ae (fun hc=>?_) (fun hc=>?_),?_⟩
  ·have:=eq_of_beq hc;refine ⟨?_,rfl⟩;rw [dL,if_neg (by omega),if_pos this]
  ·have:=beq_eq_false_iff_ne.1 hc;refine ⟨?_,rfl⟩;unfold dL;rw [if_neg this]
  rintro _ _ _ ⟨rfl,rfl⟩;refine ⟨decide (x.op < 1∨8 < x.op∨(x.l.length:Int)≠dL x.op∨(x.n≠0∧x.op≠1)∨(¬emp x.nm∧x.op≠2)),?_,fun _=>ae (fun hc=>?_) (fun hc=>?_)⟩
  ·refine lx hb1 (j:=0) rfl ?_;rw [asK_int];refine ae (fun hc=>?_) (fun hc=>?_)
   ·have:=of_decide_eq_true hc;rw [decide_eq_true (.inl this)];exact ⟨rfl,trivial⟩
   have c1:=of_decide_eq_false hc;refine lx hb1 (j:=0) rfl ?_;rw [asK_int];refine ae (fun hc=>?_) (fun hc=>?_)
   ·have:=of_decide_eq_true hc;rw [decide_eq_true (.inr (.inl this))];exact ⟨rfl,trivial⟩
   have c2:=of_decide_eq_false hc;refine lx hb1 (j:=3) rfl ?_;refine hw1.sl fun _ _=>?_;rw [asK_int];refine ae (fun hc=>?_) (fun hc=>?_)
   ·have:=bne_iff_ne.1 hc;rw [decide_eq_true (.inr (.inr (.inl this)))];exact ⟨rfl,trivial⟩
   have c3:(x.l.length:Int)=dL x.op:=by simpa using hc
   have tl:(¬emp x.nm∧x.op≠2)→(x.op < 1∨8 < x.op∨(x.l.length:Int)≠dL x.op∨(x.n≠0∧x.op≠1)∨(¬emp x.nm∧x.op≠2)):=fun h=>.inr (.inr (.inr (.inr h)));have tf:¬(x.n≠0∧x.op≠1)→¬(¬emp x.nm∧x.op≠2)→¬(x.op < 1∨8 < x.op∨(x.l.length:Int)≠dL x.op∨(x.n≠0∧x.op≠1)∨(¬emp x.nm∧x.op≠2)):=by
    rintro h1 h2 (h|h|h|h|h)
    ·exact c1 h
    ·exact c2 h
    ·exact h c3
    ·exact h1 h
    ·exact h2 h
   have fin:¬(x.n≠0∧x.op≠1)→∃v,ah h1 (Addr.add ⟨h.size,0,none⟩ 1)=some v∧asS v fun s=>cond (!(s.toList==ByteArray.toList ⟨#[]⟩))
     (∃v,ah h1 (Addr.add ⟨h.size,0,none⟩ 0)=some v∧asK .i64 v fun n=>(Value.bool (n !=(2:Int)))=.bool (decide (x.op < 1∨8 < x.op∨(x.l.length:Int)≠dL x.op∨(x.n≠0∧x.op≠1)∨(¬emp x.nm∧x.op≠2)))∧True)
     ((Value.bool false)=.bool (decide (x.op < 1∨8 < x.op∨(x.l.length:Int)≠dL x.op∨(x.n≠0∧x.op≠1)∨(¬emp x.nm∧x.op≠2)))∧True):=by
    intro hn;refine lx hb1 (j:=1) rfl ?_;rw [asS_str,eqE];refine ae (fun hc=>?_) (fun hc=>?_)
    ·have he:¬emp x.nm:=by simpa using hc
     refine lx hb1 (j:=0) rfl ?_;rw [asK_int];refine ⟨?_,trivial⟩
     by_cases h2:x.op=2
     ·rw [decide_eq_false (tf hn fun h=>h.2 h2)];simp [h2]
     ·rw [decide_eq_true (tl ⟨he,h2⟩)];simp [h2]
    ·have he:emp x.nm:=by simpa using hc
     rw [decide_eq_false (tf hn fun h=>h.1 he)];exact ⟨rfl,trivial⟩
   refine lx hb1 (j:=2) rfl ?_;rw [asK_int];refine ae (fun hc=>?_) (fun hc=>?_)
   ·have c4:=bne_iff_ne.1 hc;refine lx hb1 (j:=0) rfl ?_;rw [asK_int];refine ae (fun hc=>?_) (fun hc=>?_)
    ·have:=bne_iff_ne.1 hc;rw [decide_eq_true (.inr (.inr (.inr (.inl ⟨c4,this⟩))))];exact ⟨rfl,trivial⟩
    ·have:x.op=1:=by simpa using hc
     exact fin fun h=>h.2 this
   ·have c4:x.n=0:=by simpa using hc
    exact fin fun h=>h.1 c4
  ·have:=of_decide_eq_true hc;refine ⟨?_,kp⟩;rw [kO,exH,if_pos this];rfl
  have hform:=of_decide_eq_false hc;have hH:exH x=if x.op=2∧aF x.nm=false then 4 else if x.n < 0∨1000000000000000000≤x.n then 3 else 0:=by rw [exH,if_neg hform]
  refine ⟨fun v h'=>v=.bool (decide (x.op=2∧aF x.nm=false))∧KF h1 h',?_,?_⟩
  ·refine lx hb1 (j:=0) rfl ?_;rw [asK_int];refine ae (fun hc=>?_) (fun hc=>?_)
   ·have h2:=eq_of_beq hc;refine lx hb1 (j:=1) rfl ?_;refine aa.use (gu x.nm hnm h1) ?_;rintro _ h2' ⟨rfl,k2⟩;refine ⟨?_,k2⟩
    congr 1
    rw [Bool.eq_iff_iff];simp [h2]
   ·have h2:=beq_eq_false_iff_ne.1 hc;exact ⟨by rw [decide_eq_false fun h=>h2 h.1],ar.refl _ _⟩
  rintro _ _ h2 ⟨rfl,k2⟩;have hb2:=k2.get hb1 (by simp)
  rw [asB_bool];refine ae (fun hc=>?_) (fun hc=>?_)
  ·refine ⟨?_,kp.trans k2⟩;rw [kO,hH,if_pos (of_decide_eq_true hc)];rfl
  rw [if_neg (of_decide_eq_false hc)] at hH;refine ⟨decide (x.n < 0∨1000000000000000000≤x.n),?_,fun _=>ae (fun hc=>?_) (fun hc=>?_)⟩
  ·refine lx hb2 (j:=2) rfl ?_;rw [asK_int];refine ae (fun hc=>?_) (fun hc=>?_)
   ·rw [decide_eq_true (.inl (of_decide_eq_true hc))];exact ⟨rfl,trivial⟩
   refine lx hb2 (j:=2) rfl ?_;rw [asK_int];have:=of_decide_eq_false hc;refine ⟨?_,trivial⟩
   congr 1
   rw [Bool.eq_iff_iff];simp;omega
  ·refine ⟨?_,kp.trans k2⟩;rw [kO,hH,if_pos (of_decide_eq_true hc)];rfl
  rw [if_neg (of_decide_eq_false hc)] at hH;have hF:exF x=nt x.l:=by rw [kO,hH,ln]
  refine ⟨fun t h'=>∃k:Nat,t=.int .i64 k∧k≤x.l.length∧nt (x.l.take k)=0∧KF h2 h',fun t _=>match t with|.int _ k=>x.l.length - k.toNat|_=>0,
   ⟨0,rfl,by omega,rfl,ar.refl _ _⟩,?_⟩
  rintro _ _ h5 ⟨k,rfl,hk,hs,k5⟩;have hb5:=k5.get hb2 (by simp)
  have hw5:=hw.az ((kp.trans k2).trans k5);refine lx hb5 (j:=3) rfl ?_;refine hw5.sl fun _ _=>?_;rw [asK_int];refine ae (fun hc=>?_) (fun hc=>?_)
  rotate_left
  ·have hc:=of_decide_eq_false hc;obtain rfl:k=x.l.length:=by omega
   rw [List.take_length] at hs;exact ⟨by rw [hF,hs],(kp.trans k2).trans k5⟩
  have hkl:k < x.l.length:=by
   have:=of_decide_eq_true hc;omega
  have hx:=List.getElem?_eq_getElem hkl;have hmem:x.l[k]∈x.l:=List.getElem_mem hkl;generalize x.l[k]=y at hx hmem;have hyn:=bY hmem;refine lx hb5 (j:=3) rfl ?_;refine hw5.rdC hx fun w' hw'=>?_;refine aa.use (ih y (by omega) (by omega) (bD hokl hmem) h5 w' hw') ?_
  rintro _ h6 ⟨rfl,k6⟩;have hsn:nt (x.l.take (k+1))=exF y:=by rw [aP hx,rN,hs,ln]
  rw [asK_int];refine ae (fun hc=>?_) (fun hc=>?_)
  ·have:=bne_iff_ne.1 hc;refine ⟨?_,((kp.trans k2).trans k5).trans k6⟩;rw [hF,DN (k:=k+1) (by rw [hsn];exact this),hsn]
  ·have:exF y=0:=by simpa using hc
   rw [asK_int,i64_in (by omega) (by omega)]
   exact ⟨⟨k+1,by simp,by omega,by rw [hsn,this],k5.trans k6⟩,by simp;omega⟩
end
def Ib:List Value:=[(.string ⟨#[]⟩),(.string ⟨#[65,45,45,45,49,45,45]⟩),(.string ⟨#[65,45,45,45,49,45,45]⟩),(.string ⟨#[45,45,45,45,49,45,45]⟩),(.string ⟨#[65,66,84,78,48,45,45]⟩),(.string ⟨#[65,66,45,45,48,45,45]⟩),(.string ⟨#[65,45,45,45,49,45,45]⟩),(.string ⟨#[65,45,45,45,48,45,45]⟩),(.string ⟨#[65,45,45,45,48,45,45]⟩),(.string ⟨#[65,45,45,45,48,45,45]⟩),(.string ⟨#[65,45,45,45,42,45,45]⟩),(.string ⟨#[65,66,45,45,48,66,69]⟩),(.string ⟨#[65,66,45,45,48,66,45]⟩),(.string ⟨#[45,45,45,45,49,66,45]⟩),(.string ⟨#[45,45,45,45,49,66,69]⟩)]
def ecF (f:Fm):UInt8:=if f.e=-1 then 42 else if f.e=0 then 48 else 49
def qp (f:Fm):ByteArray:=⟨#[if f.a then 65 else 45,if f.b then 66 else 45,if f.t then 84 else 45,if f.n then 78 else 45,ecF f,if f.body then 66 else 45,if f.els then 69 else 45]⟩
def IY (d:Int):ByteArray:=match aL d with|some f=>qp f|none=>⟨#[]⟩
theorem bb (f:Fm):(qp f).size=7:=rfl
theorem HV:∀k:Nat,k < 15→Ib[k]?=some (.string (IY k))
 |0,_=>rfl
 |1,_=>rfl
 |2,_=>rfl
 |3,_=>rfl
 |4,_=>rfl
 |5,_=>rfl
 |6,_=>rfl
 |7,_=>rfl
 |8,_=>rfl
 |9,_=>rfl
 |10,_=>rfl
 |11,_=>rfl
 |12,_=>rfl
 |13,_=>rfl
 |14,_=>rfl
 |k+15,h=>absurd h (by omega)
theorem Ff {d:Int}{f:Fm}(h:aL d=some f):f.e=-1∨f.e=0∨f.e=1:=by
 unfold aL at h
 repeat' split at h
 all_goals first|(cases h;simp;done)|cases h
section
variable  {ω:Amb}
theorem tN (d:Int)(h:Hp)(X:XT):aa Tryz.prog ω mg [.int .i64 d] h (fun r h'=>r=.string (IY d)∧KF h h') X:=by
 refine mz ω _ h _ X ?_;unfold eA;have e:(List.toArray [(.string ⟨#[]⟩),(.string ⟨#[65,45,45,45,49,45,45]⟩),(.string ⟨#[65,45,45,45,49,45,45]⟩),(.string ⟨#[45,45,45,45,49,45,45]⟩),(.string ⟨#[65,66,84,78,48,45,45]⟩),(.string ⟨#[65,66,45,45,48,45,45]⟩),(.string ⟨#[65,45,45,45,49,45,45]⟩),(.string ⟨#[65,45,45,45,48,45,45]⟩),(.string ⟨#[65,45,45,45,48,45,45]⟩),(.string ⟨#[65,45,45,45,48,45,45]⟩),(.string ⟨#[65,45,45,45,42,45,45]⟩),(.string ⟨#[65,66,45,45,48,66,69]⟩),(.string ⟨#[65,66,45,45,48,66,45]⟩),(.string ⟨#[45,45,45,45,49,66,45]⟩),(.string ⟨#[45,45,45,45,49,66,69]⟩)])=Ib.toArray:=rfl
 simp only [e];clear e;have hb:=af (h:=h) (o:=.cells Ib.toArray 9 (0,0));have kp:=ar.push (S:=fun _=>False) h (.cells Ib.toArray 9 (0,0));generalize h.push (.cells Ib.toArray 9 (0,0))=h1 at *;refine ⟨decide (d < 1∨14 < d),?_,fun _=>ae (fun hc=>?_) (fun hc=>?_)⟩
 ·rw [asK_int];refine ae (fun hc=>?_) (fun hc=>?_)
  ·rw [decide_eq_true (.inl (of_decide_eq_true hc))];exact ⟨rfl,trivial⟩
  ·have:=of_decide_eq_false hc;rw [asK_int];refine ⟨?_,trivial⟩
   congr 1
   rw [Bool.eq_iff_iff];simp;omega
 ·refine ⟨?_,kp⟩;rw [IY,qM (of_decide_eq_true hc)]
 ·have hc:=of_decide_eq_false hc;obtain ⟨k,rfl⟩:∃k:Nat,d=k:=⟨d.toNat,by omega⟩
  rw [asI_int];refine ⟨by omega,by omega,?_⟩
  rw [Int.toNat_natCast,Nat.mul_one];exact lx hb (HV k (by omega)) ⟨rfl,kp⟩
theorem gw (s:ByteArray){i j:Nat}(hj:j=i+1)(hi:i < s.size)(is:Bool)(h:Hp)(X:XT) :
  aa Tryz.prog ω mr [.string (s.extract i j),.bool is] h (fun r h'=>r=.bool (!decide (cAt s i=45)||is)∧h'=h) X:=by
 refine ma ω _ _ h _ X ?_;unfold eH;refine ⟨fun v h'=>v=.bool (!decide (cAt s i=45)||is)∧h'=h,?_,fun _ _ _ hj=>hj⟩;rw [asS_str,hj,fj s hi];refine ae (fun hc=>?_) (fun hc=>?_)
 ·rw [hc];exact ⟨rfl,rfl⟩
 ·rw [hc];exact ⟨rfl,rfl⟩
end
def Jo (x:St):Bool:=match aL x.d with|none=>false|some f=>!pK f x
theorem wB {u:Nat}{c:UInt8}(h:[c]=Lib.decDigits u):u < 10:=by
 have:=congrArg List.length h;rw [Lib.decDigits_length] at this;rcases Nat.lt_or_ge u 10 with h1|h1
 ·exact h1
 ·rw [Lib.nDigits_big (by omega)] at this
  have:=Lib.nDigits_pos (u / 10);simp at *;omega
theorem JQ {f:Fm}(he:f.e=-1∨f.e=0∨f.e=1)(n:Nat):(decide (ecF f=42)||decide ([ecF f]=Lib.itoa (n:Int)))=!(decide (0≤f.e)&&decide ((n:Int)≠f.e)):=by
 rw [Lib.itoa_nonneg];rcases he with he|he|he
 ·rw [ecF,if_pos he,he];rfl
 ·rw [ecF,if_neg (by omega),if_pos he,he]
  rw [Bool.eq_iff_iff];simp only [Bool.or_eq_true,decide_eq_true_eq,Bool.not_eq_true',Bool.and_eq_false_iff,decide_eq_false_iff_not]
  constructor
  ·rintro (h|h)
   ·cases h
   ·have h1:=wB h;rw [Lib.decDigits_one h1] at h
    injection h with h _
    have:(48:UInt8).toNat=(UInt8.ofNat (48+n)).toNat:=by rw [←h]
    rw [UInt8.toNat_ofNat'] at this;rw [show (48:UInt8).toNat=48 from rfl] at this
    exact .inr fun hh=>hh (by omega)
  ·rintro (h|h)
   ·exact absurd (Int.le_refl 0) h
   ·obtain rfl:n=0:=by omega
    exact .inr (by rw [Lib.decDigits_one (by decide)];rfl)
 ·rw [ecF,if_neg (by omega),if_neg (by omega),he]
  rw [Bool.eq_iff_iff];simp only [Bool.or_eq_true,decide_eq_true_eq,Bool.not_eq_true',Bool.and_eq_false_iff,decide_eq_false_iff_not]
  constructor
  ·rintro (h|h)
   ·cases h
   ·have h1:=wB h;rw [Lib.decDigits_one h1] at h
    injection h with h _
    have:(49:UInt8).toNat=(UInt8.ofNat (48+n)).toNat:=by rw [←h]
    rw [UInt8.toNat_ofNat'] at this;rw [show (49:UInt8).toNat=49 from rfl] at this
    exact .inr fun hh=>hh (by omega)
  ·rintro (h|h)
   ·exact absurd (by decide) h
   ·obtain rfl:n=1:=by omega
    exact .inr (by rw [Lib.decDigits_one (by decide)];rfl)
theorem fc0 (f:Fm):decide (cAt (qp f) (Int.toNat 0)=45)=!f.a:=by cases f with|mk a b t n e bo el=>cases a<;>rfl
theorem fc1 (f:Fm):decide (cAt (qp f) (Int.toNat 1)=45)=!f.b:=by cases f with|mk a b t n e bo el=>cases b<;>rfl
theorem fc2 (f:Fm):decide (cAt (qp f) (Int.toNat 2)=45)=!f.t:=by cases f with|mk a b t n e bo el=>cases t<;>rfl
theorem fc3 (f:Fm):decide (cAt (qp f) (Int.toNat 3)=45)=!f.n:=by cases f with|mk a b t n e bo el=>cases n<;>rfl
theorem fc5 (f:Fm):decide (cAt (qp f) (Int.toNat 5)=45)=!f.body:=by cases f with|mk a b t n e bo el=>cases bo<;>rfl
theorem fc6 (f:Fm):decide (cAt (qp f) (Int.toNat 6)=45)=!f.els:=by cases f with|mk a b t n e bo el=>cases el<;>rfl
theorem zq (p q:Bool):(!(!(!p)||q))=(!p&&!q):=by cases p<;>cases q<;>rfl
theorem len0 (n:Nat):(!((n:Int)==0))=decide (0 < n):=by
 rw [Bool.eq_iff_iff];simp;omega
theorem ne0 (n:Int):(!(n==0))=decide (n≠0):=by
 rw [Bool.eq_iff_iff];simp
section
variable  {ω:Amb}
theorem x6 (x:St)(ve vb vl:Value)(h:Hp)(he:ExS h ve x.e)(hbd:StS h vb x.body)(hel:StS h vl x.els)(hle:x.e.length≤100000)(ht:ee h)(X:XT) :
  aa Tryz.prog ω jy [.agg (stC x ve vb vl).toArray] h (fun r h'=>r=.bool (Jo x)∧KF h h') X:=by
 refine jF ω _ h _ X ?_;unfold dy;simp only [show Value.cells (.agg (stC x ve vb vl).toArray)=(stC x ve vb vl).toArray from rfl]
 have hb1:=af (h:=h) (o:=.cells (stC x ve vb vl).toArray 39 (0,0));have kp:=ar.push (S:=fun _=>False) h (.cells (stC x ve vb vl).toArray 39 (0,0));generalize h.push (.cells (stC x ve vb vl).toArray 39 (0,0))=h1 at *;refine lx hb1 (j:=0) rfl ?_;refine aa.use (tN x.d h1) ?_;rintro _ h2 ⟨rfl,k2⟩;have hb2:=k2.get hb1 (by simp)
 have k02:=kp.trans k2;have he2:=he.az k02;have hbd2:=hbd.az k02;have hel2:=hel.az k02;have htk:ee h2:=ht.more k02;rw [asS_str,eqE];unfold IY Jo;cases hf:aL x.d with
 |none=>exact bR (by decide) ⟨rfl,k02⟩
 |some f =>
 refine aS (decide_eq_false fun h=>by cases h) ?_
 simp only [asS_str];refine ⟨fun v h'=>v=.bool (zA f x||(zB f x||(zT f x||(zN f x||(zBo f x||zEl f x)))))∧h2=h',?_,?_⟩
 ·refine ⟨by decide,by decide,by rw [bb];decide,?_⟩
  refine lx hb2 (j:=2) rfl ?_;rw [asS_str,eqE];refine aa.use (gw (qp f) rfl (by rw [bb];decide) _ h2) ?_
  rintro _ _ ⟨rfl,rfl⟩;rw [asB_bool,fc0,zq];refine ae (fun hc=>?_) (fun c0=>?_)
  ·exact ⟨by rw [zA,hc];rfl,rfl⟩
  refine ⟨by decide,by decide,by rw [bb];decide,?_⟩
  refine lx hb2 (j:=3) rfl ?_;rw [asS_str,eqE];refine aa.use (gw (qp f) rfl (by rw [bb];decide) _ _) ?_
  rintro _ _ ⟨rfl,rfl⟩;rw [asB_bool,fc1,zq];refine ae (fun hc=>?_) (fun c1=>?_)
  ·exact ⟨by rw [zA,c0,zB,hc];rfl,rfl⟩
  refine ⟨by decide,by decide,by rw [bb];decide,?_⟩
  refine lx hb2 (j:=4) rfl ?_;rw [asS_str,eqE];refine aa.use (gw (qp f) rfl (by rw [bb];decide) _ _) ?_
  rintro _ _ ⟨rfl,rfl⟩;rw [asB_bool,fc2,zq];refine ae (fun hc=>?_) (fun c2=>?_)
  ·exact ⟨by rw [zA,c0,zB,c1,zT,hc];rfl,rfl⟩
  refine ⟨by decide,by decide,by rw [bb];decide,?_⟩
  refine lx hb2 (j:=5) rfl ?_;rw [asK_int];refine aa.use (gw (qp f) rfl (by rw [bb];decide) _ _) ?_
  rintro _ _ ⟨rfl,rfl⟩;rw [asB_bool,fc3,zq,ne0];refine ae (fun hc=>?_) (fun c3=>?_)
  ·exact ⟨by rw [zA,c0,zB,c1,zT,c2,zN,hc];rfl,rfl⟩
  refine ⟨by decide,by decide,by rw [bb];decide,?_⟩
  refine lx hb2 (j:=7) rfl ?_;refine hbd2.sl fun _ _=>?_;refine aa.use (gw (qp f) rfl (by rw [bb];decide) _ _) ?_
  rintro _ _ ⟨rfl,rfl⟩;rw [asB_bool,fc5,zq,len0];refine ae (fun hc=>?_) (fun c5=>?_)
  ·exact ⟨by rw [zA,c0,zB,c1,zT,c2,zN,c3,zBo,hc];rfl,rfl⟩
  refine ⟨by decide,by decide,by rw [bb];decide,?_⟩
  refine lx hb2 (j:=8) rfl ?_;refine hel2.sl fun _ _=>?_;refine aa.use (gw (qp f) rfl (by rw [bb];decide) _ _) ?_
  rintro _ _ ⟨rfl,rfl⟩;rw [asB_bool,fc6,zq,len0];exact ⟨by rw [zA,c0,zB,c1,zT,c2,zN,c3,zBo,c5,zEl];rfl,rfl⟩
 rintro _ _ _ ⟨rfl,rfl⟩;rw [asB_bool];have hbad:pK f x=((zA f x||(zB f x||(zT f x||(zN f x||(zBo f x||zEl f x)))))||zE f x):=by
  unfold pK;generalize zA f x=a,zB f x=b,zT f x=t,zN f x=n,zBo f x=bo,zEl f x=el,zE f x=e;cases a<;>cases b<;>cases t<;>cases n<;>cases bo<;>cases el<;>cases e<;>rfl
 refine ae (fun hc=>?_) (fun hc=>?_)
 ·exact ⟨by simp only [hbad,hc];rfl,k02⟩
 rw [hc,Bool.false_or] at hbad;refine ⟨fun v h'=>v=.bool (!zE f x)∧KF h2 h',?_,?_⟩
 ·refine ⟨by decide,by decide,by rw [bb];decide,?_⟩
  have ho:(ByteArray.toList (ByteArray.extract (qp f) (Int.toNat 4) (Int.toNat 5))==ByteArray.toList ⟨#[42]⟩)=decide (ecF f=42):=fj (qp f) (i:=4) (by rw [bb];decide) 42
  have hec:=JQ (Ff hf) x.e.length;have hz:zE f x=(decide (0≤f.e)&&decide ((x.e.length:Int)≠f.e)):=rfl;rw [←hz] at hec;rw [ho];refine ae (fun hc=>?_) (fun hc=>?_)
  ·rw [hc,Bool.true_or] at hec;exact ⟨by rw [←hec],ar.refl _ _⟩
  rw [hc,Bool.false_or] at hec;refine ⟨by decide,by decide,by rw [bb];decide,?_⟩
  refine lx hb2 (j:=6) rfl ?_;refine he2.sl fun _ _=>?_;refine aa.use (uv x.e.length (by omega) (by omega) h2 htk) ?_
  rintro _ h3 ⟨rfl,k3⟩;rw [asS_str];refine ⟨?_,k3⟩;rw [←hec,eqS];rfl
 rintro _ _ h3 ⟨rfl,k3⟩;simp only [hbad];exact ⟨trivial,k02.trans k3⟩
end
theorem Ah {l:List Ex}{k:Nat}(h:esF (l.take k)≠0):esF l=esF (l.take k):=by
 have:=yg (l.take k) (l.drop k);rw [List.take_append_drop] at this;rw [this,rX h]
theorem fa0 (f:Fm):decide (cAt (qp f) 0=65)=f.a:=by cases f with|mk a b t n e bo el=>cases a<;>rfl
theorem fa1 (f:Fm):decide (cAt (qp f) 1=66)=f.b:=by cases f with|mk a b t n e bo el=>cases b<;>rfl
theorem fa2 (f:Fm):decide (cAt (qp f) 2=84)=f.t:=by cases f with|mk a b t n e bo el=>cases t<;>rfl
theorem fa5 (f:Fm):decide (cAt (qp f) 5=66)=f.body:=by cases f with|mk a b t n e bo el=>cases bo<;>rfl
theorem ob0 (f:Fm):(ByteArray.toList (ByteArray.extract (qp f) (Int.toNat 0) (Int.toNat 1))==ByteArray.toList ⟨#[65]⟩)=f.a:=(fj (qp f) (i:=0) (by rw [bb];decide) 65).trans (fa0 f)
theorem ob1 (f:Fm):(ByteArray.toList (ByteArray.extract (qp f) (Int.toNat 1) (Int.toNat 2))==ByteArray.toList ⟨#[66]⟩)=f.b:=(fj (qp f) (i:=1) (by rw [bb];decide) 66).trans (fa1 f)
theorem ob2 (f:Fm):(ByteArray.toList (ByteArray.extract (qp f) (Int.toNat 2) (Int.toNat 3))==ByteArray.toList ⟨#[84]⟩)=f.t:=(fj (qp f) (i:=2) (by rw [bb];decide) 84).trans (fa2 f)
theorem ob5 (f:Fm):(ByteArray.toList (ByteArray.extract (qp f) (Int.toNat 5) (Int.toNat 6))==ByteArray.toList ⟨#[66]⟩)=f.body:=(fj (qp f) (i:=5) (by rw [bb];decide) 66).trans (fa5 f)
section
variable  {ω:Amb}
set_option maxHeartbeats 400000 in
theorem vA (x:St)(ve vb vl:Value)(at_ deep:Int)(h:Hp)(he:ExS h ve x.e)(hbd:StS h vb x.body)(hel:StS h vl x.els)(hle:stN x≤100000)(hok:y8 x)(ht:ee h)(X:XT) :
  aa Tryz.prog ω jt [.agg (stC x ve vb vl).toArray,.int .i64 at_,.int .i64 deep] h (fun r h'=>r=.int .i64 (stH x at_ deep)∧KF h h') X:=by
 refine iP ω _ _ _ h _ X ?_;unfold cV;simp only [show Value.cells (.agg (stC x ve vb vl).toArray)=(stC x ve vb vl).toArray from rfl]
 have hb1:=af (h:=h) (o:=.cells (stC x ve vb vl).toArray 39 (0,0));have kp:=ar.push (S:=fun _=>False) h (.cells (stC x ve vb vl).toArray 39 (0,0));generalize h.push (.cells (stC x ve vb vl).toArray 39 (0,0))=h1 at *;obtain ⟨ha,hb,hty,hok3⟩:=fi.1 hok;have hxe:=iG x;have hlen:=fh x.e;have ha:x.a.size≤20000:=Nat.le_trans ha (by omega)
 have hb:x.b.size≤20000:=Nat.le_trans hb (by omega)
 have hty:x.t.size≤20000:=Nat.le_trans hty (by omega)
 rw [asK_int];refine ae (fun hc=>?_) (fun hc=>?_)
 ·have:=of_decide_eq_true hc;exact ⟨by rw [stH,if_pos (by omega)],kp⟩
 have hat:=of_decide_eq_false hc;have hH:stH x at_ deep=match aL x.d with|none=>5|some f=>if pK f x then 5 else if 6 < x.e.length then 8 else stR f x deep:=by (rw [stH,if_neg (by omega)];try rfl)
 refine ⟨_,ak hb1 rfl,?_⟩;refine aa.use (x6 x ve vb vl h1 (he.az kp) (hbd.az kp) (hel.az kp) (by omega) (ht.more kp)) ?_
 rintro _ h2 ⟨rfl,k2⟩;have hb2:=k2.get hb1 (by simp)
 have k02:=kp.trans k2;rw [asB_bool];unfold Jo;cases hf:aL x.d with
 |none=>exact bR rfl ⟨by rw [hH,hf],k02⟩
 |some f =>
 rw [hf] at hH
 dsimp only at hH ⊢
 rw [Bool.not_not];refine ae (fun hc=>?_) (fun hbad=>?_)
 ·exact ⟨by rw [hH,if_pos hc],k02⟩
 rw [if_neg (by rw [hbad];decide)] at hH
 refine lx hb2 (j:=6) rfl ?_;have he2:=he.az k02;refine he2.sl fun _ _=>?_;refine ae (fun hc=>?_) (fun hc=>?_)
 ·have:=of_decide_eq_true hc;exact ⟨by rw [hH,if_pos (by omega)],k02⟩
 have h6:=of_decide_eq_false hc;rw [if_neg (by omega)] at hH
 obtain ⟨bA,bB,bT,bN,bE,bBo,bEl⟩:=yV hbad;refine lx hb2 (j:=0) rfl ?_;refine aa.use (tN x.d h2) ?_;rintro _ h3 ⟨rfl,k3⟩;have hb3:=k3.get hb2 (by simp)
 have k03:=k02.trans k3;rw [IY,hf]
 dsimp only
 simp only [asS_str,bb,ob0,ob1,ob2,ob5];have hR:stR f x deep=orF (if f.a&&!aF x.a then 4 else 0) (orF (if f.b&&!aF x.b then 4 else 0) (orF (if f.t&&!bJ x.t 3 then 11 else 0) (orF (if decide (x.n < 0∨1000000000000000000≤x.n) then 14 else 0) (orF (esF x.e) (if f.body&&decide (8≤deep) then 7 else 0))))):=by
  rw [stR,rv bA,rv bB]
 rw [hR] at hH;refine ⟨fun v h'=>v=.bool ((f.a&&!aF x.a)||(f.b&&!aF x.b))∧KF h3 h',?_,?_⟩
 ·refine ⟨by decide,by decide,by decide,ae (fun hfa=>?_) (fun hfa=>?_)⟩
  ·refine lx hb3 (j:=2) rfl ?_;refine aa.use (gu x.a ha h3) ?_;rintro _ h4 ⟨rfl,k4⟩;have hb4:=k4.get hb3 (by simp)
   rw [asB_bool,hfa,Bool.true_and];refine ae (fun hc=>?_) (fun hc=>?_)
   ·exact ⟨by rw [hc];rfl,k4⟩
   rw [hc,Bool.false_or];refine ⟨by decide,by decide,by decide,ae (fun hfb=>?_) (fun hfb=>?_)⟩
   ·refine lx hb4 (j:=3) rfl ?_;refine aa.use (gu x.b hb h4) ?_;rintro _ h5 ⟨rfl,k5⟩;rw [asB_bool,hfb];exact ⟨rfl,k4.trans k5⟩
   ·rw [hfb];exact ⟨rfl,k4⟩
  ·rw [hfa,Bool.false_and,Bool.false_or];refine ⟨by decide,by decide,by decide,ae (fun hfb=>?_) (fun hfb=>?_)⟩
   ·refine lx hb3 (j:=3) rfl ?_;refine aa.use (gu x.b hb h3) ?_;rintro _ h5 ⟨rfl,k5⟩;rw [asB_bool,hfb];exact ⟨rfl,k5⟩
   ·rw [hfb];exact ⟨rfl,ar.refl _ _⟩
 rintro _ _ h4 ⟨rfl,k4⟩;have hb4:=k4.get hb3 (by simp)
 have k04:=k03.trans k4;rw [asB_bool];refine ae (fun hc=>?_) (fun hc=>?_)
 ·refine ⟨?_,k04⟩;rw [hH];rcases Bool.or_eq_true_iff.1 hc with h|h
  ·rw [h,if_pos rfl];rfl
  ·rw [h,if_pos rfl];cases (f.a&&!aF x.a)<;>rfl
 obtain ⟨n1,n2⟩:=Bool.or_eq_false_iff.1 hc;rw [n1,n2,if_neg (by decide),ln,ln] at hH
 refine ⟨fun v h'=>v=.bool (f.t&&!bJ x.t 3)∧KF h4 h',?_,?_⟩
 ·refine ⟨by decide,by decide,by decide,ae (fun hft=>?_) (fun hft=>?_)⟩
  ·refine lx hb4 (j:=4) rfl ?_;refine aa.use (ub x.t 3 hty h4) ?_;rintro _ h5 ⟨rfl,rfl⟩;rw [asB_bool,hft];exact ⟨rfl,ar.refl _ _⟩
  ·rw [hft];exact ⟨rfl,ar.refl _ _⟩
 rintro _ _ h5 ⟨rfl,k5⟩;have hb5:=k5.get hb4 (by simp)
 have k05:=k04.trans k5;rw [asB_bool];refine ae (fun hc=>?_) (fun hc=>?_)
 ·refine ⟨?_,k05⟩;rw [hH,hc];rfl
 rw [hc,if_neg (by decide),ln] at hH
 refine ⟨decide (x.n < 0∨1000000000000000000≤x.n),?_,fun _=>ae (fun hc=>?_) (fun hc=>?_)⟩
 ·refine lx hb5 (j:=5) rfl ?_;rw [asK_int];refine ae (fun hc=>?_) (fun hc=>?_)
  ·rw [decide_eq_true (.inl (of_decide_eq_true hc))];exact ⟨rfl,trivial⟩
  refine lx hb5 (j:=5) rfl ?_;rw [asK_int];have:=of_decide_eq_false hc;refine ⟨?_,trivial⟩
  congr 1
  rw [Bool.eq_iff_iff];simp;omega
 ·refine ⟨?_,k05⟩;rw [hH,hc];rfl
 rw [hc,if_neg (by decide),ln] at hH
 refine ⟨fun t h'=>∃k:Nat,t=.int .i64 k∧k≤x.e.length∧esF (x.e.take k)=0∧KF h5 h',fun t _=>match t with|.int _ k=>x.e.length - k.toNat|_=>0,
  ⟨0,rfl,by omega,rfl,ar.refl _ _⟩,?_⟩
 rintro _ _ h6' ⟨k,rfl,hk,hs,k6⟩;have hb6:=k6.get hb5 (by simp)
 have k06:=k05.trans k6;have he6:=he.az k06;refine lx hb6 (j:=6) rfl ?_;refine he6.sl fun _ _=>?_;rw [asK_int];refine ae (fun hc=>?_) (fun hc=>?_)
 rotate_left
 ·have hc:=of_decide_eq_false hc;obtain rfl:k=x.e.length:=by omega
  rw [List.take_length] at hs;rw [hs,ln] at hH;refine ⟨f.body&&decide (8≤deep),?_,fun _=>ae (fun hc=>?_) (fun hc=>?_)⟩
  ·refine ⟨by decide,by decide,by decide,ae (fun hc=>?_) (fun hc=>?_)⟩
   ·rw [hc,asK_int];exact ⟨rfl,trivial⟩
   ·rw [hc];exact ⟨rfl,trivial⟩
  ·exact ⟨by rw [hH,hc];rfl,k06⟩
  ·exact ⟨by rw [hH,hc];rfl,k06⟩
 have hkl:k < x.e.length:=by
  have:=of_decide_eq_true hc;omega
 have hx:=List.getElem?_eq_getElem hkl;have hmem:x.e[k]∈x.e:=List.getElem_mem hkl;generalize x.e[k]=y at hx hmem;have hyn:=bY hmem;have hyo:=bD hok3.1 hmem;refine lx hb6 (j:=6) rfl ?_;refine he6.rdC hx fun w hw=>?_;refine aa.use (Bx _ y (Nat.lt_succ_self _) (by omega) h6' w hw) ?_
 rintro _ h7 ⟨rfl,k7⟩;have hb7:=k7.get hb6 (by simp)
 have k07:=k06.trans k7;have hsn:esF (x.e.take (k+1))=eF1 y:=by rw [aP hx,za,hs,ln]
 rw [asK_int];refine ae (fun hc=>?_) (fun hc=>?_)
 ·have hgt:=of_decide_eq_true hc;have h8:eF1 y=8:=by rw [eF1,if_pos (by omega)];rfl
  refine ⟨?_,k07⟩;rw [hH,Ah (k:=k+1) (by rw [hsn,h8];decide),hsn,h8]
  rfl
 have hgt:=of_decide_eq_false hc;have h8:eF1 y=exF y:=by rw [eF1,if_neg (by omega)];rfl
 refine lx hb7 (j:=6) rfl ?_;refine (he.az k07).rdC hx fun w' hw'=>?_;refine aa.use (wm _ y (Nat.lt_succ_self _) (by omega) hyo h7 w' hw') ?_
 rintro _ h9 ⟨rfl,k9⟩;rw [asK_int];refine ae (fun hc=>?_) (fun hc=>?_)
 ·have hne:=bne_iff_ne.1 hc;refine ⟨?_,k07.trans k9⟩;rw [hH,Ah (k:=k+1) (by rw [hsn,h8];exact hne),hsn,h8,rX hne]
 ·have hne:exF y=0:=by simpa using hc
  rw [asK_int,i64_in (by omega) (by omega)]
  exact ⟨⟨k+1,by simp,by omega,by rw [hsn,h8,hne],(k6.trans k7).trans k9⟩,by simp;omega⟩
end
theorem su (e:Int×Int)(f:Int→FR):pZ (.error e) f=.error e:=rfl
def sRes (r:FR)(v:Value):Prop:=match r with
 |.ok n=>v=.tuple #[.agg (flt 0 0).toArray,.int .i64 n]
 |.error e=>∃m,v=.tuple #[.agg (flt e.1 e.2).toArray,.int .i64 m]
theorem Jh {h h1 h2:Hp}(k:KF h h1)(k2:ar (fun b=>b=h.size) h1 h2):KF h h2 :=
 ((k.mono (fun _ _ h=>h.elim)).trans k2).mono fun b hb e=>by omega
section
variable  {ω:Amb}
set_option maxHeartbeats 400000 in
theorem tk:∀(N:Nat) (l:List St),br l < N→br l≤100000→dK l→∀(v:Value) (at_ deep:Int) (h:Hp),StS h v l→ee h→0≤at_→at_≤300→0≤deep→deep+br l≤200000→∀(X:XT),
  aa Tryz.prog ω im [v,.int .i64 at_,.int .i64 deep] h (fun r h'=>sRes (hY l at_ deep) r∧KF h h') X:=by
 intro N
 induction N with
 |zero=>exact fun l hN=>absurd hN (Nat.not_lt_zero _)
 |succ N ih =>
  intro l hN hle hok v at_ deep h hs ht ha0 ha1 hd0 hd1 X;refine ig ω _ _ _ h _ X ?_;unfold cN;have hlen:=om l;have hb0:=af (h:=h) (o:=.cells (flt 0 0).toArray 28 (0,0));have kp:=ar.push (S:=fun _=>False) h (.cells (flt 0 0).toArray 28 (0,0));simp only [show [(.int .i64 0),(.int .i64 0)]=flt 0 0 from rfl]
  generalize h.push (.cells (flt 0 0).toArray 28 (0,0))=h0 at *;refine ⟨fun m t h'=>∃(z:Int) (k:Nat),m=.int .i64 z∧t=.int .i64 k∧k≤l.length∧0≤z∧z≤300∧hY l at_ deep=hY (l.drop k) z deep∧KF h0 h',
   fun _ t _=>match t with|.int _ k=>l.length - k.toNat|_=>0,⟨at_,0,rfl,rfl,by omega,ha0,ha1,rfl,ar.refl _ _⟩,?_⟩
  rintro _ _ _ h5 ⟨z,k,rfl,rfl,hk,hz0,hz1,hz2,k5⟩;have hb5:=k5.get hb0 (by simp)
  have k05:=kp.trans k5;have hs5:=hs.az k05;refine hs5.sl fun _ _=>?_;rw [asK_int];refine ae (fun hc=>?_) (fun hc=>?_)
  rotate_left
  ·have hc:=of_decide_eq_false hc;obtain rfl:k=l.length:=by omega
   rw [List.drop_length] at hz2;refine ⟨trivial,aW 0 0,wD hb5 rfl rfl fun h' kk hb'=>⟨?_,Jh k05 kk⟩⟩;rw [hz2];rfl
  have hkl:k < l.length:=by
   have:=of_decide_eq_true hc;omega
  have hx:=List.getElem?_eq_getElem hkl;have hdr:=fS hx;have hmem:l[k]∈l:=List.getElem_mem hkl;generalize l[k]=x at hx hmem hdr;have hxn:=iK hmem;have hxe:=iG x;have hxo:=mG hok hmem;obtain ⟨_,_,_,_,hob,hoe⟩:=fi.1 hxo;rw [hdr,jQ,xV] at hz2;refine hs5.rdC hx fun ve vb vl he hbd hel=>?_;refine aa.use (vA x ve vb vl z deep h5 he hbd hel (by omega) hxo (ht.more k05)) ?_
  rintro _ h6 ⟨rfl,k6⟩;have hb6:=k6.get hb5 (by simp)
  have k06:=k05.trans k6;rw [asK_int];refine ae (fun hc=>?_) (fun hc=>?_)
  ·have hne:=bne_iff_ne.1 hc;rw [if_pos hne,su] at hz2;refine aa.use (Im _ z h6) ?_;rintro _ h7 ⟨rfl,k7⟩;have hb7:=k7.get hb6 (by simp)
   rw [asA_agg];refine ⟨rfl,aW _ z,wD hb7 rfl rfl fun h' kk hb'=>⟨?_,Jh (k06.trans k7) kk⟩⟩;rw [hz2];exact ⟨z,rfl⟩
  have hH0:stH x z deep=0:=by simpa using hc
  rw [if_neg (fun h=>h hH0)] at hz2;have hz3:z < 300:=by
   rcases Int.lt_or_le z 300 with h1|h1
   ·exact h1
   ·rw [stH,if_pos h1] at hH0;cases hH0
  rw [asK_int];refine (hs.az k06).rdO hx (o:=7) fun ve vb vl he hbd hel=>⟨vb,rfl,?_⟩;rw [asK_int,i64_in (by omega) (by omega),i64_in (by omega) (by omega)]
  refine aa.use (ih x.body (by omega) (by omega) hob vb (z+1) (deep+1) h6 hbd (ht.more k06) (by omega) (by omega) (by omega) (by omega)) ?_
  rintro r h7 ⟨hr,k7⟩;have hb7:=k7.get hb6 (by simp)
  have k07:=k06.trans k7;have hok1:=iY x.body (z+1) (deep+1) (by omega)
  obtain ⟨c,a,m,rfl,hq⟩:∃c a m,r=.tuple #[.agg (flt c a).toArray,.int .i64 m]∧((c≠0∧hY x.body (z+1) (deep+1)=.error (c,a))∨(c=0∧a=0∧hY x.body (z+1) (deep+1)=.ok m∧z+1≤m∧m≤300)):=by
   revert hr hok1
   cases hY x.body (z+1) (deep+1) with
   |error e=>exact fun ⟨m,hm⟩ hne=>⟨e.1,e.2,m,hm,.inl ⟨hne,rfl⟩⟩
   |ok n=>exact fun hm hne=>⟨0,0,n,hm,.inr ⟨rfl,rfl,rfl,hne⟩⟩
  rw [G0,asA_agg];refine ⟨rfl,aW c a,ay (cs:=flt c a) rfl ?_⟩;have hb8:=af (h:=h7) (o:=.cells (flt c a).toArray 28 (0,0));have k8:=ar.push (S:=fun _=>False) h7 (.cells (flt c a).toArray 28 (0,0));have z8:(h7.push (.cells (flt c a).toArray 28 (0,0))).size=h7.size+1:=by simp
  have k7s:=k07.size;generalize h7.push (.cells (flt c a).toArray 28 (0,0))=h8 at *;have k08:=k07.trans k8;have hL0:=cH hb7;refine lx hb8 (j:=0) rfl ?_;rw [asK_int];refine ⟨fun mv h'=>∃c' a' m',mv=.int .i64 m'∧h'[h7.size]?=some (.cells (flt c' a').toArray 28 (0,0))∧KF h7 h' ∧
   ((c'≠0∧pZ (hY x.body (z+1) (deep+1)) (fun n=>hY x.els n (deep+1))=.error (c',a'))∨(c'=0∧pZ (hY x.body (z+1) (deep+1)) (fun n=>hY x.els n (deep+1))=.ok m'∧0≤m'∧m'≤300)),?_,?_⟩
  ·refine ae (fun hc=>?_) (fun hc=>?_)
   ·have h0:c=0:=eq_of_beq hc;obtain ⟨_,rfl,hm,hm1,hm2⟩:=hq.resolve_left fun hh=>hh.1 h0;subst h0;rw [hm,kJ];refine (hs.az k08).rdO hx (o:=8) fun ve vb vl he hbd hel=>⟨vl,rfl,?_⟩;rw [asK_int,i64_in (by omega) (by omega)]
    refine aa.use (ih x.els (by omega) (by omega) hoe vl m (deep+1) h8 hel (ht.more k08) (by omega) (by omega) (by omega) (by omega)) ?_
    rintro r h9 ⟨hr,k9⟩;have hb9:=k9.get hb8 (by simp)
    have hok2:=iY x.els m (deep+1) (by omega)
    obtain ⟨c,a,m2,rfl,hq⟩:∃c a m2,r=.tuple #[.agg (flt c a).toArray,.int .i64 m2]∧((c≠0∧hY x.els m (deep+1)=.error (c,a))∨(c=0∧hY x.els m (deep+1)=.ok m2∧0≤m2∧m2≤300)):=by
     revert hr hok2
     cases hY x.els m (deep+1) with
     |error e=>exact fun ⟨m,hm⟩ hne=>⟨e.1,e.2,m,hm,.inl ⟨hne,rfl⟩⟩
     |ok n=>exact fun hm hne=>⟨0,0,n,hm,.inr ⟨rfl,rfl,by have:=hne.1;omega,hne.2⟩⟩
    rw [G0,asA_agg];refine ⟨rfl,aW c a,aM hb9 (by simp [flt]) ?_⟩
    rw [bu (by simp [flt])]
    exact ⟨c,a,m2,rfl,aq hb9,Jh (k8.trans k9) (ar.set (S:=fun b=>b=h7.size) _ rfl),hq⟩
   ·have hne:c≠0:=beq_eq_false_iff_ne.1 hc;obtain ⟨_,hm⟩:=hq.resolve_right fun hh=>hne hh.1;exact ⟨c,a,m,rfl,hb8,k8,.inl ⟨hne,by rw [hm];rfl⟩⟩
  rintro _ _ h9 ⟨c',a',m',rfl,hb9,k79,hr'⟩;have k09:=k07.trans k79;have hbL:=k79.get hb7 (by simp)
  refine lx hb9 (j:=0) rfl ?_;rw [asK_int];refine ae (fun hc=>?_) (fun hc=>?_)
  ·have hne:=bne_iff_ne.1 hc;obtain ⟨_,hm⟩:=hr'.resolve_right fun hh=>hne hh.1;rw [hm,su] at hz2;refine ⟨_,ak hb9 rfl,rfl,aW c' a',wD hbL rfl rfl fun h' kk hb'=>⟨?_,Jh k09 kk⟩⟩;rw [hz2];exact ⟨m',rfl⟩
  ·have h0:c'=0:=by simpa using hc
   obtain ⟨_,hm,hm1,hm2⟩:=hr'.resolve_left fun hh=>hh.1 h0;rw [hm,kJ] at hz2;rw [asK_int,i64_in (by omega) (by omega)]
   exact ⟨⟨m',k+1,rfl,by simp,by omega,hm1,hm2,hz2,((k5.trans k6).trans k7).trans k79⟩,by simp;omega⟩
end
theorem xx {l:List (ByteArray×ByteArray)}{k:Nat}(h:qq (l.take k)≠0):qq l=qq (l.take k):=by
 have:=rM (l.take k) (l.drop k);rw [List.take_append_drop] at this;rw [this,rX h]
section
variable  {ω:Amb}
theorem Ji {hc:Hp}{L:Nat}{ds:List Value}(hw:hc[L]?=some (.cells ds.toArray 28 (0,0)))(hd:ds.length=2)(c a:Int){R:RT}
  (hR:∀h',ar (fun k=>k=L) hc h'→R (.agg (flt c a).toArray) h') (X:XT) :
  aa Tryz.prog ω eU [.int .i64 c,.int .i64 a] hc (fun r h'=>asA r fun A=>A.size=2∧(∀u∈A.toList,one u)∧au h' ⟨L,0,none⟩ A.toList fun h''=>∃C,aj h'' ⟨L,0,none⟩ 2 C∧R (.agg C.toArray) h'') X:=by
 refine aa.use (Im c a hc) ?_;rintro _ h7 ⟨rfl,k7⟩;rw [asA_agg];exact ⟨rfl,aW c a,wD (k7.get hw (by simp)) hd rfl fun h' kk _=>hR h' ((k7.mono fun _ _ h=>h.elim).trans kk)⟩
set_option maxHeartbeats 400000 in
theorem uW (p:List Sg)(hsm:Small p)(v:Value)(h:Hp)(hp:PgS h v p)(ht:ee h)(X:XT) :
  aa Tryz.prog ω ja [v] h (fun r h'=>r=.agg (flt (gY (aV p)).1 (gY (aV p)).2).toArray∧KF h h') X:=by
 obtain ⟨w0,rfl,hs⟩:=hp;refine jk ω _ h _ X ?_;unfold cY;simp only [show Value.cells (.agg #[w0])=[w0].toArray from rfl,show [(.int .i64 0),(.int .i64 0)]=flt 0 0 from rfl]
 have hlen:=hsm.len;have hb0:=af (h:=h) (o:=.cells [w0].toArray 24 (0,0));have k0:=ar.push (S:=fun _=>False) h (.cells [w0].toArray 24 (0,0));have z0:(h.push (.cells [w0].toArray 24 (0,0))).size=h.size+1:=by simp
 generalize h.push (.cells [w0].toArray 24 (0,0))=h1 at *;have hb1:=af (h:=h1) (o:=.cells (flt 0 0).toArray 28 (0,0));have k1:=ar.push (S:=fun _=>False) h1 (.cells (flt 0 0).toArray 28 (0,0));generalize h1.push (.cells (flt 0 0).toArray 28 (0,0))=h2 at *;have hb0:=k1.get hb0 (by simp)
 have k02:=k0.trans k1;have hs2:=hs.az k02;have hL:h.size≤h1.size:=by omega
 refine lx hb0 (j:=0) rfl ?_;refine hs2.sl fun _ _=>?_;refine ae (fun hc=>?_) (fun hc=>?_)
 ·have h0:p.length=0:=by simpa using hc
  refine Ji hb1 rfl 10 (-1) (R:=fun r h'=>r=Value.agg (flt (gY (aV p)).1 (gY (aV p)).2).toArray∧KF h h') (fun h' kk=>⟨?_,DC k02 hL kk⟩) X;rw [aV,if_pos h0];rfl
 have hn0:p.length≠0:=by simpa using hc
 refine lx hb0 (j:=0) rfl ?_;refine hs2.sl fun _ _=>?_;refine ae (fun hc=>?_) (fun hc=>?_)
 ·have h0:=of_decide_eq_true hc;refine Ji hb1 rfl 8 (-1) (R:=fun r h'=>r=Value.agg (flt (gY (aV p)).1 (gY (aV p)).2).toArray∧KF h h') (fun h' kk=>⟨?_,DC k02 hL kk⟩) X;rw [aV,if_neg hn0,if_pos (by omega)]
  rfl
 have hn1:=of_decide_eq_false hc;have hF:aV p=sR p 0 0:=by rw [aV,if_neg hn0,if_neg (by omega)]
 rw [hF];refine ⟨fun m t h'=>∃(z:Int) (k:Nat),m=.int .i64 z∧t=.int .i64 k∧k≤p.length∧0≤z∧z≤300∧sR p 0 0=sR (p.drop k) k z∧KF h2 h',
  fun _ t _=>match t with|.int _ k=>p.length - k.toNat|_=>0,⟨0,0,rfl,rfl,by omega,by omega,by omega,rfl,ar.refl _ _⟩,?_⟩
 rintro _ _ _ h3 ⟨z,k,rfl,rfl,hk,hz0,hz1,hz2,k3⟩;have hb03:=k3.get hb0 (by simp)
 have hb13:=k3.get hb1 (by simp)
 have k03:=k02.trans k3;have hs3:=hs.az k03;refine lx hb03 (j:=0) rfl ?_;refine hs3.sl fun _ _=>?_;rw [asK_int];refine ae (fun hc=>?_) (fun hc=>?_)
 rotate_left
 ·have hc:=of_decide_eq_false hc;obtain rfl:k=p.length:=by omega
  rw [List.drop_length] at hz2;refine ⟨trivial,aW 0 0,wD hb13 rfl rfl fun h' kk hb'=>⟨?_,DC k03 hL kk⟩⟩;rw [hz2];rfl
 have hkl:k < p.length:=by
  have:=of_decide_eq_true hc;omega
 have hx:=List.getElem?_eq_getElem hkl;have hdr:=fS hx;have hmem:p[k]∈p:=List.getElem_mem hkl;generalize p[k]=x at hx hmem hdr;obtain ⟨hnm,hpl,hpn,hbo⟩:=hsm.nm x hmem;have hnm:x.nm.size≤20000:=Nat.le_trans hnm (by omega)
 have hxb:br x.body≤20000:=Nat.le_trans (sD hmem) hsm.tot;rw [hdr] at hz2;have hz2:sR p 0 0=if sgH x≠0 then .error (sgH x,-2 - k) else pZ (hY x.body z 1) fun n=>sR (p.drop (k+1)) (k+1) n:=hz2
 refine lx hb03 (j:=0) rfl ?_;refine hs3.rdC hx fun vp vb hps hbd=>?_;refine ⟨rfl,jc (du hps.2) hbd.bp,ay (cs:=sgC x vp vb) rfl ?_⟩;have hb4:=af (h:=h3) (o:=.cells (sgC x vp vb).toArray 41 (0,0));have k4:=ar.push (S:=fun _=>False) h3 (.cells (sgC x vp vb).toArray 41 (0,0));generalize h3.push (.cells (sgC x vp vb).toArray 41 (0,0))=h4 at *;have hps:=(hps.az k4).1;have hbd:=hbd.az k4;have hb14:=k4.get hb13 (by simp)
 have k04:=k03.trans k4;refine lx hb4 (j:=0) rfl ?_;refine aa.use (gu x.nm hnm h4) ?_;rintro _ h5 ⟨rfl,k5⟩;have hb5:=k5.get hb4 (by simp)
 have hb15:=k5.get hb14 (by simp)
 have k05:=k04.trans k5;rw [asB_bool];have bad:∀{hh:Hp} (c:Int),sgH x=c→c≠0→KF h hh→hh[h1.size]?=some (.cells (flt 0 0).toArray 28 (0,0)) →
   asK .i64 (.int .i64 k) fun n=>aa Tryz.prog ω eU [.int .i64 c,.int .i64 (IntKind.wrap .i64 (-2 - n))] hh (fun r h'=>asA r fun A=>A.size=2∧(∀u∈A.toList,one u)∧au h' ⟨h1.size,0,none⟩ A.toList fun h''=>∃C,aj h'' ⟨h1.size,0,none⟩ 2 C ∧
    (fun r h'=>r=Value.agg (flt (gY (sR p 0 0)).1 (gY (sR p 0 0)).2).toArray∧KF h h') (.agg C.toArray) h'') X:=by
  intro hh c hc hne kh hbh;rw [asK_int,i64_in (by omega) (by omega)]
  refine Ji hbh rfl c (-2 - k) (R:=fun r h'=>r=Value.agg (flt (gY (sR p 0 0)).1 (gY (sR p 0 0)).2).toArray∧KF h h') (fun h' kk=>⟨?_,DC kh hL kk⟩) X;rw [hz2,hc,if_pos hne];rfl
 refine ae (fun hc=>?_) (fun hc=>?_)
 ·exact bad 4 (by rw [sgH,if_pos hc];rfl) (by decide) k05 hb15
 have hH1:sgH x=orF (if decide (6 < x.ps.length) then 8 else 0) (qq x.ps):=by rw [sgH,if_neg (by rw [hc];decide),ln]
 refine lx hb5 (j:=2) rfl ?_;have hps5:=bh.az hps k5;refine bh.sl hps5 fun _ _=>?_;refine ae (fun hc=>?_) (fun hc=>?_)
 ·have h6:=of_decide_eq_true hc;exact bad 8 (by rw [hH1,decide_eq_true (by omega)];rfl) (by decide) k05 hb15
 have h6:=of_decide_eq_false hc;have hH2:sgH x=qq x.ps:=by rw [hH1,decide_eq_false (by omega)];rfl
 refine ⟨fun t h'=>∃j:Nat,t=.int .i64 j∧j≤x.ps.length∧qq (x.ps.take j)=0∧KF h5 h',fun t _=>match t with|.int _ k=>x.ps.length - k.toNat|_=>0,⟨0,rfl,by omega,rfl,ar.refl _ _⟩,?_⟩
 rintro _ _ h6' ⟨j,rfl,hj,hq,k6⟩;have hb6:=k6.get hb5 (by simp)
 have hb16:=k6.get hb15 (by simp)
 have k06:=k05.trans k6;have hps6:=bh.az hps5 k6;refine lx hb6 (j:=2) rfl ?_;refine bh.sl hps6 fun _ _=>?_;rw [asK_int];refine ae (fun hc=>?_) (fun hc=>?_)
 ·have hjl:j < x.ps.length:=by
   have:=of_decide_eq_true hc;omega
  have hy:=List.getElem?_eq_getElem hjl;have hqm:x.ps[j]∈x.ps:=List.getElem_mem hjl;generalize x.ps[j]=q at hy hqm;obtain ⟨hq1,hq2⟩:=hpn q hqm;have hq1:q.1.size≤20000:=Nat.le_trans hq1 (by omega)
  have hq2:q.2.size≤20000:=Nat.le_trans hq2 (by omega)
  have hsn:qq (x.ps.take (j+1))=prF q:=by rw [aP hy,xC,hq,ln]
  refine lx hb6 (j:=2) rfl ?_;refine bh.rdT (f:=pf) hps6 iF hy (o:=0) rfl ?_;refine aa.use (gu q.1 hq1 h6') ?_;rintro _ h7 ⟨rfl,k7⟩;have hb7:=k7.get hb6 (by simp)
  have hb17:=k7.get hb16 (by simp)
  have k07:=k06.trans k7;rw [asB_bool];refine ae (fun hc=>?_) (fun hc=>?_)
  ·have h4:prF q=4:=by rw [prF,if_pos hc];rfl
   exact bad 4 (by rw [hH2,xx (k:=j+1) (by rw [hsn,h4];decide),hsn,h4]) (by decide) k07 hb17
  have h4:prF q=if !bJ q.2 3 then 11 else 0:=by rw [prF,if_neg (by rw [hc];decide),ln]
  refine lx hb7 (j:=2) rfl ?_;refine bh.rdT (f:=pf) (bh.az hps6 k7) iF hy (o:=1) rfl ?_;refine aa.use (ub q.2 3 hq2 h7) ?_;rintro _ h8 ⟨rfl,hh8⟩;subst hh8;rw [asB_bool];refine ae (fun hc=>?_) (fun hc=>?_)
  ·have h4:prF q=11:=by rw [h4,if_pos hc]
   exact bad 11 (by rw [hH2,xx (k:=j+1) (by rw [hsn,h4];decide),hsn,h4]) (by decide) k07 hb17
  ·have h4:prF q=0:=by rw [h4,if_neg (by rw [hc];decide)]
   rw [asK_int,i64_in (by omega) (by omega)]
   exact ⟨⟨j+1,by simp,by omega,by rw [hsn,h4],k6.trans k7⟩,by simp;omega⟩
 ·have hj':=of_decide_eq_false hc;obtain rfl:j=x.ps.length:=by omega
  rw [List.take_length] at hq;rw [hH2,hq,if_neg (fun h=>h rfl)] at hz2;refine lx hb6 (j:=3) rfl ?_;refine aa.use (tk _ x.body (Nat.lt_succ_self _) (by omega) hbo vb z 1 h6' (hbd.az (k5.trans k6)) (ht.more k06) hz0 hz1 (by omega) (by omega)) ?_
  rintro r h7 ⟨hr,k7⟩;have hb17:=k7.get hb16 (by simp)
  have k07:=k06.trans k7;have hok1:=iY x.body z 1 (by omega)
  obtain ⟨c,a,m,rfl,hq⟩:∃c a m,r=.tuple #[.agg (flt c a).toArray,.int .i64 m]∧((c≠0∧hY x.body z 1=.error (c,a))∨(c=0∧hY x.body z 1=.ok m∧0≤m∧m≤300)):=by
   revert hr hok1
   cases hY x.body z 1 with
   |error e=>exact fun ⟨m,hm⟩ hne=>⟨e.1,e.2,m,hm,.inl ⟨hne,rfl⟩⟩
   |ok n=>exact fun hm hne=>⟨0,0,n,hm,.inr ⟨rfl,rfl,by have:=hne.1;omega,hne.2⟩⟩
  rw [G0,asA_agg];refine ⟨rfl,aW c a,ay (cs:=flt c a) rfl ?_⟩;have hb8:=af (h:=h7) (o:=.cells (flt c a).toArray 28 (0,0));have k8:=ar.push (S:=fun _=>False) h7 (.cells (flt c a).toArray 28 (0,0));generalize h7.push (.cells (flt c a).toArray 28 (0,0))=h8 at *;have hb18:=k8.get hb17 (by simp)
  have k08:=k07.trans k8;refine lx hb8 (j:=0) rfl ?_;rw [asK_int];refine ae (fun hc=>?_) (fun hc=>?_)
  ·have hne:=bne_iff_ne.1 hc;obtain ⟨_,hm⟩:=hq.resolve_right fun hh=>hne hh.1;rw [hm,su] at hz2;refine ⟨_,ak hb8 rfl,rfl,aW c a,wD hb18 rfl rfl fun h' kk hb'=>⟨?_,DC k08 hL kk⟩⟩;rw [hz2];rfl
  ·have h0:c=0:=by simpa using hc
   obtain ⟨_,hm,hm1,hm2⟩:=hq.resolve_left fun hh=>hh.1 h0;rw [hm,kJ] at hz2;rw [asK_int,i64_in (by omega) (by omega)]
   exact ⟨⟨m,k+1,rfl,by simp,by omega,hm1,hm2,hz2,((((k3.trans k4).trans k5).trans k6).trans k7).trans k8⟩,by simp;omega⟩
end
end Go.Proofs.YtkeeboomikkojaaGreatDoor
namespace Go.Proofs.YtkeeboomikkojaaGreatDoor
open Go Go.Sx Go.Sx.Rn Go.Proofs.YtkeeboomikkojaaGreatDoor.Sx
section
variable  {ω:Amb}
set_option maxRecDepth 100000 in
theorem BW:∀(N:Nat) (l:List Ex),bV l < N→bV l≤20000→∀(h:Hp) (v:Value),ExS h v l→∀(X:XT),
  aa Tryz.prog ω jg [v] h (fun r h'=>eR h' (Nw h h') r l∧KF h h') X:=by
 intro N
 induction N with
 |zero=>exact fun l hN=>absurd hN (Nat.not_lt_zero _)
 |succ N ih =>
  intro l hN hle h v hs X;refine jd ω _ h _ X ?_;unfold cQ;have hlen:=fh l;refine ⟨fun out t h'=>∃(k:Nat) (us:List Value),t=.int .i64 k∧k≤l.length∧bW h' h.size 36 4 out k us∧bC h' (fun b=>Nw h h' b∧out.ownBlock≠some b) (l.take k) us∧KF h h',
   fun _ t _=>match t with|.int _ k=>l.length - k.toNat|_=>0,⟨0,[],rfl,by omega,bW.nil,tR,ar.refl _ _⟩,?_⟩
  rintro out _ _ h5 ⟨k,us,rfl,hk,ho,hat,k1⟩;have hs1:=hs.az k1;refine hs1.sl fun _ _=>?_;rw [asK_int];refine ae (fun hc=>?_) (fun hc=>?_)
  rotate_left
  ·have hc:=of_decide_eq_false hc;obtain rfl:k=l.length:=by omega
   rw [List.take_length] at hat;refine ⟨⟨us,SlN.own ho (by omega),eY (fun sz v n us hs=>hs.mono fun b hb=>hb.1) l hat⟩,k1⟩
  have hkl:k < l.length:=by
   have:=of_decide_eq_true hc;omega
  have hx:=List.getElem?_eq_getElem hkl;have hmem:l[k]∈l:=List.getElem_mem hkl;generalize l[k]=x at hx hmem;have hxn:=bY hmem;have hxe:=fZ x;refine hs1.rdC hx fun w hw=>?_;refine ⟨rfl,cP hw.bp,ay (cs:=exC x w) rfl ?_⟩;have hb6:=af (h:=h5) (o:=.cells (exC x w).toArray 36 (0,0));have k6:=ar.push (S:=fun _=>False) h5 (.cells (exC x w).toArray 36 (0,0));have z6:(h5.push (.cells (exC x w).toArray 36 (0,0))).size=h5.size+1:=by simp
  have hw6:=hw.az k6;generalize h5.push (.cells (exC x w).toArray 36 (0,0))=h6 at *;refine lx hb6 (j:=3) rfl ?_;refine aa.use (ih x.l (by omega) (by omega) h6 w hw6) ?_
  rintro r h7 ⟨hr,k7⟩;have hb7:=k7.get hb6 (by simp)
  refine bQ hr.bp.one ?_;refine aG hb7 (by simp [exC]) ?_
  rw [show (exC x w).toArray.setIfInBounds 3 r=(exC x r).toArray from by simp [exC]]
  have hb8:=aq (o:=.cells (exC x r).toArray 36 (0,0)) hb7;have k8:=ar.set (S:=fun b=>b=h5.size) (h:=h7) (.cells (exC x r).toArray 36 (0,0)) (b:=h5.size) rfl;have z8:(h7.setIfInBounds h5.size (.cells (exC x r).toArray 36 (0,0))).size=h7.size:=by simp
  generalize h7.setIfInBounds h5.size (.cells (exC x r).toArray 36 (0,0))=h8 at *;have k58:KF h5 h8:=((k6.trans k7).mono (S':=fun b=>b=h5.size) (fun _ _ h=>h.elim)).trans k8 |>.mono (fun b hb e=>by omega)
  refine ⟨exC x r,ak hb8 rfl,rfl,?_⟩;refine cE (bt:=56) (cs:=exC x r) (by kernel_rfl) (ho.more k58) rfl (cP hr.bp) (by omega) (by omega) (by have:=k1.size;have:=k58.size;omega) fun w2 h9 ho2 hg _ hv=>?_
  have hlt:=ho.lt;have k7s:=k7.size;have k58s:=k58.size;have hg9:=hg.size;have k89:ar (fun b=>some b=out.ownBlock) h8 h9:=ar.grown hg fun b hb _=>hb.symm;have k59:ar (fun b=>some b=out.ownBlock) h5 h9:=(k58.mono (fun _ _ h=>h.elim)).trans k89;have k09:KF h h9:=ar.mono (k1.mono (S':=fun b=>some b=out.ownBlock) (fun _ _ h=>h.elim) |>.trans k59) (fun b hb e=>by have:=hlt b e.symm;omega)
  rw [asK_int,i64_in (by omega) (by omega)]
  refine ⟨⟨k+1,us++exC x r,by simp,by omega,ho2,?_,k09⟩,by simp;omega⟩
  rw [aP hx];refine pn (eY (fun sz v n us hs=>(hs.az k59 fun b hb e=>hb.2 e.symm).mono fun b hb=>⟨⟨hb.1.1,by omega⟩,c7 hv (by omega) hb.2⟩) _ hat) (by rw [ho.1,List.length_take];congr 1;omega) ?_ rfl
  refine jB.2 ⟨r,rfl,hr.map fun sz v n us hs=>?_⟩;refine ((hs.az k8 fun b hb=>by omega).az k89 fun b hb e=>by have:=hlt b e.symm;omega).mono fun b hb=>⟨⟨by have:=k1.size;omega,by omega⟩,c7 hv (by omega) fun e=>?_⟩
  have:=hlt b e;omega
theorem EP (x:St)(a b c r:Value):(stC x a b c).toArray.setIfInBounds 6 r=(stC x r b c).toArray:=by simp [stC]
theorem Fi (x:St)(a b c r:Value):(stC x a b c).toArray.setIfInBounds 7 r=(stC x a r c).toArray:=by simp [stC]
theorem Eu (x:St)(a b c r:Value):(stC x a b c).toArray.setIfInBounds 8 r=(stC x a b r).toArray:=by simp [stC]
set_option maxRecDepth 100000 in
theorem CJ:∀(N:Nat) (l:List St),br l < N→br l≤20000→∀(h:Hp) (v:Value),StS h v l→∀(X:XT),
  aa Tryz.prog ω jn [v] h (fun r h'=>oF h' (Nw h h') r l∧KF h h') X:=by
 intro N
 induction N with
 |zero=>exact fun l hN=>absurd hN (Nat.not_lt_zero _)
 |succ N ih =>
  intro l hN hle h v hs X;refine iR ω _ h _ X ?_;unfold cZ;have hlen:=om l;refine ⟨fun out t h'=>∃(k:Nat) (us:List Value),t=.int .i64 k∧k≤l.length∧bW h' h.size 39 9 out k us∧bS h' (fun b=>Nw h h' b∧out.ownBlock≠some b) (l.take k) us∧KF h h',
   fun _ t _=>match t with|.int _ k=>l.length - k.toNat|_=>0,⟨0,[],rfl,by omega,bW.nil,tJ,ar.refl _ _⟩,?_⟩
  rintro out _ _ h5 ⟨k,us,rfl,hk,ho,hat,k1⟩;have hs1:=hs.az k1;refine hs1.sl fun _ _=>?_;rw [asK_int];refine ae (fun hc=>?_) (fun hc=>?_)
  rotate_left
  ·have hc:=of_decide_eq_false hc;obtain rfl:k=l.length:=by omega
   rw [List.take_length] at hat;refine ⟨⟨us,SlN.own ho (by omega),dn (fun sz v n us hs=>hs.mono fun b hb=>hb.1) l hat⟩,k1⟩
  have hkl:k < l.length:=by
   have:=of_decide_eq_true hc;omega
  have hx:=List.getElem?_eq_getElem hkl;have hmem:l[k]∈l:=List.getElem_mem hkl;generalize l[k]=x at hx hmem;have hxn:=iK hmem;have hxe:=iG x;refine hs1.rdC hx fun ve vb vl he hbd hel=>?_;refine ⟨rfl,oY he.bp hbd.bp hel.bp,ay (cs:=stC x ve vb vl) rfl ?_⟩;have hb6:=af (h:=h5) (o:=.cells (stC x ve vb vl).toArray 39 (0,0));have k6:=ar.push (S:=fun _=>False) h5 (.cells (stC x ve vb vl).toArray 39 (0,0))
  have z6:(h5.push (.cells (stC x ve vb vl).toArray 39 (0,0))).size=h5.size+1:=by simp
  have he:=he.az k6;generalize h5.push (.cells (stC x ve vb vl).toArray 39 (0,0))=h6 at *;refine lx hb6 (j:=6) rfl ?_;refine aa.use (BW _ x.e (Nat.lt_succ_self _) (by omega) h6 ve he) ?_
  rintro r1 h7 ⟨hr1,k7⟩;have hb7:=k7.get hb6 (by simp)
  refine bQ hr1.bp.one ?_;refine aG hb7 (by simp [stC]) ?_
  rw [EP];have hb8:=aq (o:=.cells (stC x r1 vb vl).toArray 39 (0,0)) hb7;have k8:=ar.set (S:=fun b=>b=h5.size) (h:=h7) (.cells (stC x r1 vb vl).toArray 39 (0,0)) (b:=h5.size) rfl;have z8:(h7.setIfInBounds h5.size (.cells (stC x r1 vb vl).toArray 39 (0,0))).size=h7.size:=by simp
  generalize h7.setIfInBounds h5.size (.cells (stC x r1 vb vl).toArray 39 (0,0))=h8 at *;have k58:ar (fun b=>b=h5.size) h5 h8:=((k6.trans k7).mono (fun _ _ h=>h.elim)).trans k8;have f58:KF h5 h8:=k58.mono (fun b hb e=>by omega)
  refine lx hb8 (j:=7) rfl ?_;refine aa.use (ih x.body (by omega) (by omega) h8 vb (hbd.az f58)) ?_
  rintro r2 h9 ⟨hr2,k9⟩;have hb9:=k9.get hb8 (by simp)
  refine bQ hr2.bp.one ?_;refine aG hb9 (by simp [stC]) ?_
  rw [Fi];have hb10:=aq (o:=.cells (stC x r1 r2 vl).toArray 39 (0,0)) hb9;have k10:=ar.set (S:=fun b=>b=h5.size) (h:=h9) (.cells (stC x r1 r2 vl).toArray 39 (0,0)) (b:=h5.size) rfl;have z10:(h9.setIfInBounds h5.size (.cells (stC x r1 r2 vl).toArray 39 (0,0))).size=h9.size:=by simp
  generalize h9.setIfInBounds h5.size (.cells (stC x r1 r2 vl).toArray 39 (0,0))=h10 at *;have k810:ar (fun b=>b=h5.size) h8 h10:=(k9.mono (fun _ _ h=>h.elim)).trans k10;have k510:=k58.trans k810;have f510:KF h5 h10:=k510.mono (fun b hb e=>by omega)
  refine lx hb10 (j:=8) rfl ?_;refine aa.use (ih x.els (by omega) (by omega) h10 vl (hel.az f510)) ?_
  rintro r3 h11 ⟨hr3,k11⟩;have hb11:=k11.get hb10 (by simp)
  refine bQ hr3.bp.one ?_;refine aG hb11 (by simp [stC]) ?_
  rw [Eu];have hb12:=aq (o:=.cells (stC x r1 r2 r3).toArray 39 (0,0)) hb11;have k12:=ar.set (S:=fun b=>b=h5.size) (h:=h11) (.cells (stC x r1 r2 r3).toArray 39 (0,0)) (b:=h5.size) rfl;have z12:(h11.setIfInBounds h5.size (.cells (stC x r1 r2 r3).toArray 39 (0,0))).size=h11.size:=by simp
  generalize h11.setIfInBounds h5.size (.cells (stC x r1 r2 r3).toArray 39 (0,0))=h12 at *;have k1012:ar (fun b=>b=h5.size) h10 h12:=(k11.mono (fun _ _ h=>h.elim)).trans k12;have k912:ar (fun b=>b=h5.size) h9 h12:=k10.trans k1012;have k712:ar (fun b=>b=h5.size) h7 h12:=k8.trans (k810.trans k1012);have f512:KF h5 h12:=(k510.trans k1012).mono (fun b hb e=>by omega)
  refine ⟨stC x r1 r2 r3,ak hb12 rfl,rfl,?_⟩;refine cE (bt:=144) (cs:=stC x r1 r2 r3) (by kernel_rfl) (ho.more f512) rfl (oY hr1.bp hr2.bp hr3.bp) (by omega) (by omega) (by have:=k1.size;have:=f512.size;omega) fun w2 h13 ho2 hg _ hv=>?_
  have hlt:=ho.lt;have k7s:=k7.size;have k9s:=k9.size;have k11s:=k11.size;have k58s:=f512.size;have hg9:=hg.size;have k89:ar (fun b=>some b=out.ownBlock) h12 h13:=ar.grown hg fun b hb _=>hb.symm;have k59:ar (fun b=>some b=out.ownBlock) h5 h13:=(f512.mono (fun _ _ h=>h.elim)).trans k89;have k09:KF h h13:=ar.mono (k1.mono (S':=fun b=>some b=out.ownBlock) (fun _ _ h=>h.elim) |>.trans k59) (fun b hb e=>by have:=hlt b e.symm;omega)
  have hf:∀{ha hb:Hp},ar (fun b=>b=h5.size) hb h12→h5.size < ha.size→hb.size≤h12.size→∀sz v n us,SlN hb (Nw ha hb) sz v n us→SlN h13 (fun b=>Nw h h13 b∧w2.ownBlock≠some b) sz v n us:=by
   intro ha hb kk h1 h2 sz v n us hs;refine ((hs.az kk fun b hb e=>by omega).az k89 fun b hb e=>by have:=hlt b e.symm;omega).mono fun b hb=>⟨⟨by have:=k1.size;omega,by omega⟩,c7 hv (by omega) fun e=>?_⟩
   have:=hlt b e;omega
  rw [asK_int,i64_in (by omega) (by omega)]
  refine ⟨⟨k+1,us++stC x r1 r2 r3,by simp,by omega,ho2,?_,k09⟩,by simp;omega⟩
  rw [aP hx];refine pt (dn (fun sz v n us hs=>(hs.az k59 fun b hb e=>hb.2 e.symm).mono fun b hb=>⟨⟨hb.1.1,by omega⟩,c7 hv (by omega) hb.2⟩) _ hat) (by rw [ho.1,List.length_take];congr 1;omega) ?_ rfl
  exact wT.2 ⟨r1,r2,r3,rfl,hr1.map (hf k712 (by omega) k712.size),hr2.map (hf k912 (by omega) k912.size),hr3.map (hf k12 (by omega) k12.size)⟩
end
theorem xE {h:Hp}{base n sz:Nat}{t:TypeId}{v:Value}{ys:List Value}(ho:bW h base t sz v n ys):AR v:=y9 ho
theorem Io {h:Hp}{v:Value}{l:List (ByteArray×ByteArray)}(hs:PsS h v l):CX h v l.length 2 (l.flatMap pf):=by
 refine ⟨hs.1.1,?_⟩;rcases hs.1.2 with ⟨h0,a,c,rfl⟩|⟨b,o,c,rfl,hc⟩
 ·rcases hs.2 with h1|⟨a',l',c',h1⟩
  ·exact .inl ⟨h1,h0⟩
  ·cases h1;refine .inr ⟨a',c,by rw [h0],fun j u hu=>?_⟩
   obtain rfl:=List.eq_nil_of_length_eq_zero h0;simp at hu
 ·refine .inr ⟨⟨b,o,none⟩,c,rfl,fun j u hu=>?_⟩;rw [aH];exact hc j u hu
theorem EM (x:Sg)(a b r:Value):(sgC x a b).toArray.setIfInBounds 2 r=(sgC x r b).toArray:=by simp [sgC]
theorem Es (x:Sg)(a b r:Value):(sgC x a b).toArray.setIfInBounds 3 r=(sgC x a r).toArray:=by simp [sgC]
section
variable  {ω:Amb}
end
section
variable  {ω:Amb}
set_option maxRecDepth 100000 in
theorem xc (p:List Sg)(hlen:p.length≤100)(hnm:∀s∈p,s.ps.length≤100)(htot:(p.map fun s=>br s.body).sum≤20000)(v:Value)(h:Hp)(hp:PgS h v p)(X:XT) :
  aa Tryz.prog ω gL [v] h (fun r h'=>∃w us,r=.agg #[w]∧bW h' h.size 41 4 w p.length us∧b8 h' (fun b=>Nw h h' b∧w.ownBlock≠some b) p us∧KF h h') X:=by
 obtain ⟨w0,rfl,hs⟩:=hp;refine gG ω _ h _ X ?_;unfold cC;simp only [show Value.cells (.agg #[w0])=[w0].toArray from rfl]
 have hb0:=af (h:=h) (o:=.cells [w0].toArray 24 (0,0));have k0:=ar.push (S:=fun _=>False) h (.cells [w0].toArray 24 (0,0));have z0:(h.push (.cells [w0].toArray 24 (0,0))).size=h.size+1:=by simp
 generalize h.push (.cells [w0].toArray 24 (0,0))=h1 at *;have hb1:=af (h:=h1) (o:=.cells [.slice none 0 0].toArray 24 (0,0));have k1:=ar.push (S:=fun _=>False) h1 (.cells [.slice none 0 0].toArray 24 (0,0));have z1:(h1.push (.cells [.slice none 0 0].toArray 24 (0,0))).size=h1.size+1:=by simp
 generalize h1.push (.cells [.slice none 0 0].toArray 24 (0,0))=h2 at *;have hb2:=af (h:=h2) (o:=.cells [.slice none 0 0].toArray 24 (0,0));have k2:=ar.push (S:=fun _=>False) h2 (.cells [.slice none 0 0].toArray 24 (0,0));have z2:(h2.push (.cells [.slice none 0 0].toArray 24 (0,0))).size=h2.size+1:=by simp
 generalize h2.push (.cells [.slice none 0 0].toArray 24 (0,0))=h3 at *;have hb0:=(k1.trans k2).get hb0 (by simp)
 have hb1:=k2.get hb1 (by simp)
 have k03:=(k0.trans k1).trans k2;refine ⟨fun t h'=>∃(k:Nat) (out:Value) (us:List Value),t=.int .i64 k∧k≤p.length∧bW h' h3.size 41 4 out k us∧b8 h' (fun b=>Nw h3 h' b∧out.ownBlock≠some b) (p.take k) us∧KF h h' ∧
   h'[h.size]?=some (.cells [w0].toArray 24 (0,0))∧h'[h1.size]?=some (.cells [.slice none 0 0].toArray 24 (0,0))∧h'[h2.size]?=some (.cells [out].toArray 24 (0,0))∧h3.size≤h'.size,
  fun t _=>match t with|.int _ k=>p.length - k.toNat|_=>0,⟨0,.slice none 0 0,[],rfl,by omega,bW.nil,ud,k03,hb0,hb1,hb2,by omega⟩,?_⟩
 clear hb0 hb1 hb2;rintro _ _ h4 ⟨k,out,us,rfl,hk,ho,hat,kk,hb0,hb1,hb2,hz⟩;have hs1:=hs.az kk;refine lx hb0 (j:=0) rfl ?_;refine hs1.sl fun _ _=>?_;rw [asK_int];refine ae (fun hc=>?_) (fun hc=>?_)
 rotate_left
 ·have hc:=of_decide_eq_false hc;obtain rfl:k=p.length:=by omega
  rw [List.take_length] at hat;refine ⟨[out],ak hb2 rfl,rfl,?_,?_⟩
  ·intro u hu;obtain rfl:=List.mem_singleton.1 (by simpa using hu)
   exact qT ho
  refine aM hb1 (by simp) ?_
  rw [bu (by rfl)]
  have hb9:=aq (o:=.cells [out].toArray 24 (0,0)) hb1;have k9:=ar.set (S:=fun b=>b=h1.size) (h:=h4) (.cells [out].toArray 24 (0,0)) (b:=h1.size) rfl;generalize h4.setIfInBounds h1.size (.cells [out].toArray 24 (0,0))=h9 at *;have z9:=k9.size;refine ⟨[out],ak hb9 rfl,out,us,rfl,?_,?_,(kk.mono (fun _ _ h=>h.elim)).trans k9 |>.mono fun b hb e=>by omega⟩
  ·exact (ho.az fun b hb hl=>k9.block b hl fun e=>by have:=ho.lt b hb;omega).base (by omega)
  ·exact dt (fun sz v n us hs=>(hs.az k9 fun b hb e=>by have:=hb.1;omega).mono fun b hb=>⟨⟨by have:=hb.1;omega,by have:=hb.1;omega⟩,hb.2⟩) p hat
 have hkl:k < p.length:=by
  have:=of_decide_eq_true hc;omega
 have hx:=List.getElem?_eq_getElem hkl;have hmem:p[k]∈p:=List.getElem_mem hkl;generalize p[k]=x at hx hmem;have hxp:=hnm x hmem;have hxb:br x.body≤20000:=Nat.le_trans (sD hmem) htot;refine lx hb0 (j:=0) rfl ?_;refine hs1.rdC hx fun vp vb hps hbd=>?_;refine ⟨rfl,jc (du hps.2) hbd.bp,ay (cs:=sgC x vp vb) rfl ?_⟩;have hb6:=af (h:=h4) (o:=.cells (sgC x vp vb).toArray 41 (0,0));have k6:=ar.push (S:=fun _=>False) h4 (.cells (sgC x vp vb).toArray 41 (0,0))
 have z6:(h4.push (.cells (sgC x vp vb).toArray 41 (0,0))).size=h4.size+1:=by simp
 have hps:=hps.az k6;generalize h4.push (.cells (sgC x vp vb).toArray 41 (0,0))=h6 at *;refine lx hb6 (j:=2) rfl ?_;refine Cd (bt:=32) (el:=32) (sz:=2) (base:=h6.size) (n:=0) (xs:=[]) (by kernel_rfl) bW.nil (Io hps) (fun u hu=>?_) (by omega) (by omega) (Nat.le_refl _) fun r1 h7 hr1 hg7 _ _=>?_
 ·obtain ⟨q,_,hq⟩:=List.mem_flatMap.1 hu;exact zJ q u hq
 rw [Nat.zero_add,List.nil_append] at hr1;have k7:KF h6 h7:=ar.grown hg7 fun b hb _=>by cases hb
 have hb7:=k7.get hb6 (by simp)
 refine bQ (qT hr1) ?_;refine aG hb7 (by simp [sgC]) ?_
 rw [EM];have hb8:=aq (o:=.cells (sgC x r1 vb).toArray 41 (0,0)) hb7;have k8:=ar.set (S:=fun b=>b=h4.size) (h:=h7) (.cells (sgC x r1 vb).toArray 41 (0,0)) (b:=h4.size) rfl;have z8:(h7.setIfInBounds h4.size (.cells (sgC x r1 vb).toArray 41 (0,0))).size=h7.size:=by simp
 generalize h7.setIfInBounds h4.size (.cells (sgC x r1 vb).toArray 41 (0,0))=h8 at *;have k58:ar (fun b=>b=h4.size) h4 h8:=((k6.trans k7).mono (fun _ _ h=>h.elim)).trans k8;have f58:KF h4 h8:=k58.mono (fun b hb e=>by omega)
 refine lx hb8 (j:=3) rfl ?_;refine aa.use (CJ _ x.body (Nat.lt_succ_self _) hxb h8 vb (hbd.az f58)) ?_;rintro r2 h9 ⟨hr2,k9⟩;have hb9:=k9.get hb8 (by simp)
 refine bQ hr2.bp.one ?_;refine aG hb9 (by simp [sgC]) ?_
 rw [Es];have hb10:=aq (o:=.cells (sgC x r1 r2).toArray 41 (0,0)) hb9;have k10:=ar.set (S:=fun b=>b=h4.size) (h:=h9) (.cells (sgC x r1 r2).toArray 41 (0,0)) (b:=h4.size) rfl;have z10:(h9.setIfInBounds h4.size (.cells (sgC x r1 r2).toArray 41 (0,0))).size=h9.size:=by simp
 generalize h9.setIfInBounds h4.size (.cells (sgC x r1 r2).toArray 41 (0,0))=h10 at *;have k810:ar (fun b=>b=h4.size) h8 h10:=(k9.mono (fun _ _ h=>h.elim)).trans k10;have k710:ar (fun b=>b=h4.size) h7 h10:=k8.trans k810;have f510:KF h4 h10:=(k58.trans k810).mono (fun b hb e=>by omega)
 refine lx (f510.get hb2 (by simp)) (j:=0) rfl ?_
 refine ⟨sgC x r1 r2,ak hb10 rfl,rfl,?_⟩;refine cE (bt:=72) (cs:=sgC x r1 r2) (by kernel_rfl) (ho.more f510) rfl (jc (du (xE hr1)) hr2.bp) (by omega) (by omega) (by have:=f510.size;omega) fun w2 h13 ho2 hg _ hv=>?_
 have hlt:=ho.lt;have k7s:=k7.size;have k9s:=k9.size;have k58s:=f510.size;have hg9:=hg.size;have k89:ar (fun b=>some b=out.ownBlock) h10 h13:=ar.grown hg fun b hb _=>hb.symm;have k59:ar (fun b=>some b=out.ownBlock) h4 h13:=(f510.mono (fun _ _ h=>h.elim)).trans k89;have hnb:∀b,b < h3.size→some b≠out.ownBlock:=fun b hb e=>by have:=hlt b e.symm;omega
 have hb2':=k59.get hb2 (hnb _ (by omega))
 have hb0':=k59.get hb0 (hnb _ (by omega))
 have hb1':=k59.get hb1 (hnb _ (by omega))
 refine bQ (qT ho2) ?_;refine aG hb2' (by simp) ?_
 rw [show ([out].toArray).setIfInBounds 0 w2=[w2].toArray from rfl]
 have hb14:=aq (o:=.cells [w2].toArray 24 (0,0)) hb2';have k14:=ar.set (S:=fun b=>b=h2.size) (h:=h13) (.cells [w2].toArray 24 (0,0)) (b:=h2.size) rfl;have z14:(h13.setIfInBounds h2.size (.cells [w2].toArray 24 (0,0))).size=h13.size:=by simp
 generalize h13.setIfInBounds h2.size (.cells [w2].toArray 24 (0,0))=h14 at *;have hlt2:=ho2.lt;have kz:=k03.size;have k09:KF h h14:=ar.mono ((kk.mono (S':=fun b=>some b=out.ownBlock∨b=h2.size) (fun _ _ h=>h.elim)).trans ((k59.mono fun _ _ h=>.inl h).trans (k14.mono fun _ _ h=>.inr h))) (fun b hb e=>by
  rcases e with e|e
  ·have:=hlt b e.symm;omega
  ·omega)
 have hf:∀{ha hb:Hp},ar (fun b=>b=h4.size) hb h10→h4.size < ha.size→hb.size≤h10.size→∀sz v n us,SlN hb (Nw ha hb) sz v n us→SlN h14 (fun b=>Nw h3 h14 b∧w2.ownBlock≠some b) sz v n us:=by
  intro ha hb kk h1 h2 sz v n us hs;refine (((hs.az kk fun b hb e=>by omega).az k89 fun b hb e=>by have:=hlt b e.symm;omega).az k14 fun b hb e=>by omega).mono fun b hb=>⟨⟨by omega,by omega⟩,c7 hv (by omega) fun e=>?_⟩
  have:=hlt b e;omega
 rw [asK_int,i64_in (by omega) (by omega)]
 refine ⟨⟨k+1,w2,us++sgC x r1 r2,by simp,by omega,ho2.az fun b hb hl=>k14.block b hl fun e=>by have:=hlt2 b hb;omega,?_,k09,k14.get hb0' (by omega),k14.get hb1' (by omega),hb14,by omega⟩,by simp;omega⟩
 rw [aP hx];refine oZ (dt (fun sz v n us hs=>((hs.az k59 fun b hb e=>hb.2 e.symm).az k14 fun b hb e=>by have:=hb.1;omega).mono fun b hb=>⟨⟨hb.1.1,by have:=hb.1;omega⟩,c7 hv (by have:=hb.1;omega) hb.2⟩) _ hat) (by rw [ho.1,List.length_take];congr 1;omega) ?_ rfl
 exact ⟨r1,r2,rfl,hf k710 (by omega) k710.size _ _ _ _ (SlN.own hr1 (by omega)),xE hr1,hr2.map (hf k10 (by omega) k10.size)⟩
end
end Go.Proofs.YtkeeboomikkojaaGreatDoor
