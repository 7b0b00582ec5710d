import Derived.Test.YtkeeboomikkojaaGreatDoorRnA
import Derived.Test.YtkeeboomikkojaaGreatDoorY9
namespace Go.Proofs.YtkeeboomikkojaaGreatDoor
open Go Go.Sx Go.Sx.Tk Go.Proofs.YtkeeboomikkojaaGreatDoor.Sx
def bytesOf (s:ByteArray):List UInt8:=s.data.toList
theorem aH (s:ByteArray):(bytesOf s).length=s.size:=by simp [bytesOf]
def cAt (s:ByteArray)(k:Nat):UInt8:=(bytesOf s).getD k 0
theorem cN (s:ByteArray)(k:Nat):aU s (k:Int)=((cAt s k).toNat:Int):=by rw [aU,Qm];rfl
theorem sC (s:ByteArray){k:Nat}(hk:k < s.size):(bytesOf s).drop k=cAt s k::(bytesOf s).drop (k+1):=by
 have hl:k < (bytesOf s).length:=by rw [aH];exact hk
 rw [Q4 hl]
 congr 1
 rw [cAt,List.getD_eq_getElem?_getD,Q7 hl,Option.getD_some]
theorem eqS (a b:ByteArray):(a.toList==b.toList)=decide (bytesOf a=bytesOf b):=by
 rw [ByteArray.toList_eq,ByteArray.toList_eq,Qz];simp [bytesOf]
theorem bG {a b:ByteArray}(h:bytesOf a=bytesOf b):a=b:=by
 cases a;cases b;simp only [bytesOf] at h
 congr 1
 exact Array.ext' h
theorem il (s:ByteArray)(i j:Nat):bytesOf (s.extract i j)=((bytesOf s).drop i).take (j - i):=by
 rw [bytesOf,ByteArray.data_extract,Array.toList_extract];rfl
theorem extract_eq (s:ByteArray)(i n:Nat):s.extract i (i+n)=⟨(((bytesOf s).drop i).take n).toArray⟩:=by
 refine bG ?_;rw [il,Nat.add_sub_cancel_left];rfl
section
variable  {ω:Amb}
theorem pA (c:UInt8)(h:Hp)(X:XT):aa Tryz.prog ω vh [.int .u8 (c.toNat:Int)] h (fun r h'=>r=.bool (lo c)∧h'=h) X:=by
 refine vJ ω _ h _ X ?_;unfold qh lo;refine ⟨fun r h'=>r=.bool (decide (97≤c.toNat)&&decide (c.toNat≤122))∧h'=h,?_,fun _ _ _ hj=>hj⟩;rw [asK_int];refine ae (fun hc=>?_) (fun hc=>⟨?_,rfl⟩)
 ·rw [asK_int];have:=Qj hc;exact ⟨by congr 1;rw [Qz];simp;omega,rfl⟩
 ·have:=Qc hc;rw [Z0 (by omega),Bool.false_and]
theorem rH (c:UInt8)(h:Hp)(X:XT):aa Tryz.prog ω wZ [.int .u8 (c.toNat:Int)] h (fun r h'=>r=.bool (dg c)∧h'=h) X:=by
 refine ya ω _ h _ X ?_;unfold rM dg;refine ⟨fun r h'=>r=.bool (decide (48≤c.toNat)&&decide (c.toNat≤57))∧h'=h,?_,fun _ _ _ hj=>hj⟩;rw [asK_int];refine ae (fun hc=>?_) (fun hc=>⟨?_,rfl⟩)
 ·rw [asK_int];have:=Qj hc;exact ⟨by congr 1;rw [Qz];simp;omega,rfl⟩
 ·have:=Qc hc;rw [Z0 (by omega),Bool.false_and]
theorem cX {l w:List UInt8}(hw:w∈words)(h:decide (l=w)=true):Value.bool (decide (l=w))=.bool (isWord l):=by
 have:=Qj h;subst this;rw [h,isWord,Z7 hw]
theorem Dw (s:ByteArray)(h:Hp)(X:XT):aa Tryz.prog ω zD [.string s] h (fun r h'=>r=.bool (isWord (bytesOf s))∧h'=h) X:=by
 refine Az ω _ h _ X ?_;unfold sP;rw [asS_str];refine ⟨fun r h'=>r=.bool (isWord (bytesOf s))∧h'=h,?_,?_⟩
 rotate_left
 ·rintro _ _ _ ⟨rfl,hh⟩;rw [hh,asB_bool];exact ae (fun hc=>⟨by rw [hc],rfl⟩) (fun hc=>⟨by rw [hc],rfl⟩)
 rw [eqS];refine ae (fun hc=>⟨cX (by decide) hc,rfl⟩) (fun hc=>?_)
 have n0:=Qc hc;rw [asS_str];refine ⟨fun r h'=>r=.bool (isWord (bytesOf s))∧h'=h,?_,fun _ _ _ hj=>hj⟩;rw [eqS];refine ae (fun hc=>⟨cX (by decide) hc,rfl⟩) (fun hc=>?_)
 have n1:=Qc hc;rw [asS_str];refine ⟨fun r h'=>r=.bool (isWord (bytesOf s))∧h'=h,?_,fun _ _ _ hj=>hj⟩;rw [eqS];refine ae (fun hc=>⟨cX (by decide) hc,rfl⟩) (fun hc=>?_)
 have n2:=Qc hc;rw [asS_str];refine ⟨fun r h'=>r=.bool (isWord (bytesOf s))∧h'=h,?_,fun _ _ _ hj=>hj⟩;rw [eqS];refine ae (fun hc=>⟨cX (by decide) hc,rfl⟩) (fun hc=>?_)
 have n3:=Qc hc;rw [asS_str];refine ⟨fun r h'=>r=.bool (isWord (bytesOf s))∧h'=h,?_,fun _ _ _ hj=>hj⟩;rw [eqS];refine ae (fun hc=>⟨cX (by decide) hc,rfl⟩) (fun hc=>?_)
 have n4:=Qc hc;rw [asS_str];refine ⟨fun r h'=>r=.bool (isWord (bytesOf s))∧h'=h,?_,fun _ _ _ hj=>hj⟩;rw [eqS];refine ae (fun hc=>⟨cX (by decide) hc,rfl⟩) (fun hc=>?_)
 have n5:=Qc hc;rw [asS_str];refine ⟨fun r h'=>r=.bool (isWord (bytesOf s))∧h'=h,?_,fun _ _ _ hj=>hj⟩;rw [eqS];refine ae (fun hc=>⟨cX (by decide) hc,rfl⟩) (fun hc=>?_)
 have n6:=Qc hc;rw [asS_str];refine ⟨fun r h'=>r=.bool (isWord (bytesOf s))∧h'=h,?_,fun _ _ _ hj=>hj⟩;rw [eqS];refine ae (fun hc=>⟨cX (by decide) hc,rfl⟩) (fun hc=>?_)
 have n7:=Qc hc;rw [asS_str];refine ⟨fun r h'=>r=.bool (isWord (bytesOf s))∧h'=h,?_,fun _ _ _ hj=>hj⟩;rw [eqS];refine ae (fun hc=>⟨cX (by decide) hc,rfl⟩) (fun hc=>?_)
 have n8:=Qc hc;rw [asS_str];refine ⟨fun r h'=>r=.bool (isWord (bytesOf s))∧h'=h,?_,fun _ _ _ hj=>hj⟩;rw [eqS];refine ae (fun hc=>⟨cX (by decide) hc,rfl⟩) (fun hc=>?_)
 have n9:=Qc hc;rw [asS_str];refine ⟨fun r h'=>r=.bool (isWord (bytesOf s))∧h'=h,?_,fun _ _ _ hj=>hj⟩;rw [eqS];refine ae (fun hc=>⟨cX (by decide) hc,rfl⟩) (fun hc=>?_)
 have n10:=Qc hc;rw [asS_str];refine ⟨fun r h'=>r=.bool (isWord (bytesOf s))∧h'=h,?_,fun _ _ _ hj=>hj⟩;rw [eqS];refine ae (fun hc=>⟨cX (by decide) hc,rfl⟩) (fun hc=>?_)
 have n11:=Qc hc;rw [asS_str];refine ⟨fun r h'=>r=.bool (isWord (bytesOf s))∧h'=h,?_,fun _ _ _ hj=>hj⟩;rw [eqS];refine ae (fun hc=>⟨cX (by decide) hc,rfl⟩) (fun hc=>?_)
 have n12:=Qc hc;rw [asS_str];refine ⟨fun r h'=>r=.bool (isWord (bytesOf s))∧h'=h,?_,fun _ _ _ hj=>hj⟩;rw [eqS];refine ae (fun hc=>⟨cX (by decide) hc,rfl⟩) (fun hc=>?_)
 have n13:=Qc hc;rw [asS_str];refine ⟨fun r h'=>r=.bool (isWord (bytesOf s))∧h'=h,?_,fun _ _ _ hj=>hj⟩;rw [eqS];refine ae (fun hc=>⟨cX (by decide) hc,rfl⟩) (fun hc=>?_)
 have n14:=Qc hc;rw [asS_str];refine ⟨fun r h'=>r=.bool (isWord (bytesOf s))∧h'=h,?_,fun _ _ _ hj=>hj⟩;rw [eqS];refine ae (fun hc=>⟨cX (by decide) hc,rfl⟩) (fun hc=>?_)
 have n15:=Qc hc;rw [asS_str];refine ⟨fun r h'=>r=.bool (isWord (bytesOf s))∧h'=h,?_,fun _ _ _ hj=>hj⟩;rw [eqS];refine ae (fun hc=>⟨cX (by decide) hc,rfl⟩) (fun hc=>?_)
 have n16:=Qc hc;rw [asS_str];refine ⟨fun r h'=>r=.bool (isWord (bytesOf s))∧h'=h,?_,fun _ _ _ hj=>hj⟩;rw [eqS];refine ae (fun hc=>⟨cX (by decide) hc,rfl⟩) (fun hc=>?_)
 have n17:=Qc hc;rw [asS_str];refine ⟨?_,rfl⟩;rw [eqS]
 congr 1
 rw [isWord,Qz,decide_eq_true_eq,decide_eq_true_eq];refine ⟨fun e=>by rw [e];decide,fun e=>?_⟩
 simp only [words,List.mem_cons,List.not_mem_nil,or_false] at e;rcases e with e|e|e|e|e|e|e|e|e|e|e|e|e|e|e|e|e|e|e
 ·exact absurd e n0
 ·exact absurd e n1
 ·exact absurd e n2
 ·exact absurd e n3
 ·exact absurd e n4
 ·exact absurd e n5
 ·exact absurd e n6
 ·exact absurd e n7
 ·exact absurd e n8
 ·exact absurd e n9
 ·exact absurd e n10
 ·exact absurd e n11
 ·exact absurd e n12
 ·exact absurd e n13
 ·exact absurd e n14
 ·exact absurd e n15
 ·exact absurd e n16
 ·exact absurd e n17
 ·exact e
end
theorem ua (l:List UInt8)(c:UInt8):uW (l++[c])=10*uW l+((c.toNat:Int) - 48):=by simp [uW]
theorem Fj:∀(n:Nat) (l:List UInt8),l.length=n→l.all dg=true→0≤uW l∧uW l < 10 ^ n
 |0,l,h,_=>by
  have:l=[]:=List.eq_nil_of_length_eq_zero h;subst this;exact ⟨by decide,by decide⟩
 |n+1,l,h,hd=>by
  obtain ⟨l',c,rfl⟩:∃l' c,l=l'++[c]:=by
   rcases List.eq_nil_or_concat l with rfl|⟨l',c,rfl⟩
   ·simp at h
   ·exact ⟨l',c,by simp⟩
  rw [List.all_append,Qq] at hd;obtain ⟨h1,h2⟩:=Fj n l' (by simp at h;omega) hd.1
  have hc:dg c=true:=by simpa using hd.2
  simp only [dg,Qq,decide_eq_true_eq] at hc;rw [ua,Int.pow_succ];omega
theorem lc (s:ByteArray){k:Nat}(hk:k < s.size):(bytesOf s).take (k+1)=(bytesOf s).take k++[cAt s k]:=by
 have hl:k < (bytesOf s).length:=by rw [aH];exact hk
 rw [List.take_succ_eq_append_getElem hl]
 congr 2
 rw [cAt,List.getD_eq_getElem?_getD,Q7 hl,Option.getD_some]
theorem FC {s:ByteArray}(h:(bytesOf s).all dg=true){k:Nat}(hk:k < s.size):dg (cAt s k)=true:=by
 have hl:k < (bytesOf s).length:=by rw [aH];exact hk
 rw [cAt,List.getD_eq_getElem?_getD,Q7 hl,Option.getD_some];exact List.all_eq_true.1 h _ (Qv hl)
theorem CV {l:List UInt8}(h:l.all dg=true)(k:Nat):(l.take k).all dg=true:=by
 rw [List.all_eq_true] at h ⊢;exact fun x hx=>h x (List.mem_of_mem_take hx)
theorem ru (s:ByteArray):(bytesOf s).take s.size=bytesOf s:=List.take_of_length_le (by rw [aH];exact Zd _)
theorem CN {s:ByteArray}{k:Nat}(hk:k≤s.size)(h18:s.size≤18)(hd:((bytesOf s).take k).all dg=true):0≤uW ((bytesOf s).take k)∧uW ((bytesOf s).take k) < 10 ^ k∧(10:Int) ^ k≤1000000000000000000∧(k < s.size→(10:Int) ^ k≤100000000000000000):=by
 have h1:((bytesOf s).take k).length=k:=by rw [Qp,aH];omega
 obtain ⟨h2,h3⟩:=Fj k _ h1 hd;refine ⟨h2,h3,?_,fun hlt=>?_⟩
 ·have:∀m:Fin 19,(10:Int) ^ (m:Nat)≤1000000000000000000:=by decide
  exact this ⟨k,by omega⟩
 ·have:∀m:Fin 18,(10:Int) ^ (m:Nat)≤100000000000000000:=by decide
  exact this ⟨k,by omega⟩
def flt (code at_:Int):List Value:=[.int .i64 code,.int .i64 at_]
theorem bu (c a:Int):∀u∈flt c a,one u:=by
 intro u hu;simp only [flt,List.mem_cons,List.not_mem_nil,or_false] at hu;rcases hu with rfl|rfl<;>rfl
section
variable  {ω:Amb}
end
theorem tD (s:ByteArray):aU s 0=((cAt s 0).toNat:Int):=cN s 0
def dr (s:ByteArray):Bool:=decide (0 < s.size)&&(decide (s.size≤12)&&(lo (cAt s 0)&&!isWord (bytesOf s)))
def aL (s:ByteArray):Bool:=dr s&&(bytesOf s).all ld
theorem E1 {s:ByteArray}(h:(bytesOf s).all ld=true){k:Nat}(hk:k < s.size):ld (cAt s k)=true:=by
 have hl:k < (bytesOf s).length:=by rw [aH];exact hk
 rw [cAt,List.getD_eq_getElem?_getD,Q7 hl,Option.getD_some];exact List.all_eq_true.1 h _ (Qv hl)
section
variable  {ω:Amb}
theorem tn (s:ByteArray)(hs:s.size≤20000)(h:Hp)(X:XT):aa Tryz.prog ω zr [.string s] h (fun r h'=>r=.bool (aL s)∧h'=h) X:=by
 refine zl ω _ h _ X ?_;unfold sR;refine ⟨fun r h'=>r=.bool (!dr s)∧h'=h,?_,?_⟩
 ·unfold dr;rw [asS_str,Qz.2 (⟨fun he=>?_,fun he=>?_⟩:(s.toList==ByteArray.toList ⟨#[]⟩)=true↔decide (s.size=0)=true)]
  rotate_left
  ·rw [eqS] at he;have:=congrArg List.length (Qj he);rw [aH,aH] at this;simp only [decide_eq_true_eq];rw [this];rfl
  ·rw [eqS,decide_eq_true_eq];refine List.eq_nil_of_length_eq_zero ?_;rw [aH];exact Qj he
  refine ae (fun hc=>?_) (fun hc=>?_)
  ·have:=Qj hc;rw [Z0 (by omega:¬0 < s.size)]
   exact ⟨rfl,rfl⟩
  have h0:=Qc hc;rw [asS_str,Z7 (by omega:0 < s.size),Zb]
  refine ae (fun hc=>?_) (fun hc=>?_)
  ·have:=Qj hc;rw [Z0 (by omega:¬s.size≤12)]
   exact ⟨rfl,rfl⟩
  have h1:=Qc hc;rw [asS_str,Z7 (by omega:s.size≤12),Zb,tD]
  refine ⟨by omega,by omega,?_⟩
  refine aa.use (pA _ h) ?_;rintro _ _ ⟨rfl,hh⟩;rw [hh,asB_bool];refine ae (fun hc=>?_) (fun hc=>?_)
  ·have hc:lo (cAt s 0)=false:=by simpa using hc
   rw [hc];exact ⟨rfl,rfl⟩
  ·have hc:lo (cAt s 0)=true:=by simpa using hc
   rw [hc,Zb,Bool.not_not];exact Dw s h X
 rintro _ _ _ ⟨rfl,hh⟩;rw [hh,asB_bool];unfold aL;refine ae (fun hc=>?_) (fun hc=>?_)
 ·have hc:dr s=false:=by simpa using hc
  rw [hc];exact ⟨rfl,rfl⟩
 have hc:dr s=true:=by simpa using hc
 rw [hc,Zb,asS_str];refine ⟨fun i h'=>h'=h∧∃k:Nat,i=.int .i64 k∧k≤s.size∧((bytesOf s).take k).all ld=true,
  fun i _=>match i with|.int _ k=>s.size - k.toNat|_=>0,⟨rfl,0,rfl,by omega,rfl⟩,?_⟩
 rintro _ _ h4 ⟨hh,k,rfl,hk,hd⟩;rw [hh,asK_int];refine ae (fun hc=>?_) (fun hc=>?_)
 ·have hlt:k < s.size:=by have:=Qj hc;omega
  refine ⟨fun r h'=>r=.bool (!ld (cAt s k))∧h'=h,?_,?_⟩
  ·rw [asS_str,asI_int,cN];refine ⟨by omega,by omega,?_⟩
   refine aa.use (pA _ h) ?_;rintro _ _ ⟨rfl,hh⟩;rw [hh,asB_bool,Tk.ld];refine ae (fun hc=>?_) (fun hc=>?_)
   ·have hc:lo (cAt s k)=false:=by simpa using hc
    rw [asS_str,asI_int,cN,hc,Za];refine ⟨by omega,by omega,?_⟩
    refine aa.use (rH _ h) ?_;rintro _ _ ⟨rfl,hh⟩;rw [hh,asB_bool];exact ⟨rfl,rfl⟩
   ·have hc:lo (cAt s k)=true:=by simpa using hc
    rw [hc];exact ⟨rfl,rfl⟩
  rintro _ _ _ ⟨rfl,hh⟩;rw [hh,asB_bool];refine ae (fun hc=>?_) (fun hc=>?_)
  ·have hc:ld (cAt s k)=false:=by simpa using hc
   refine ⟨?_,rfl⟩;cases ha:(bytesOf s).all ld
   ·rfl
   ·rw [E1 ha hlt] at hc;cases hc
  ·have hc:ld (cAt s k)=true:=by simpa using hc
   rw [asK_int,i64_in (by omega) (by omega)]
   refine ⟨⟨rfl,k+1,by simp,by omega,?_⟩,by simp;omega⟩
   rw [lc s hlt,List.all_append,hd];simpa using hc
 ·have hke:k=s.size:=by have:=Qc hc;omega
  subst hke;rw [ru] at hd;rw [hd];exact ⟨rfl,rfl⟩
end
end Go.Proofs.YtkeeboomikkojaaGreatDoor
namespace Go.Proofs.YtkeeboomikkojaaGreatDoor
open Go Go.Sx Go.Sx.Rn Go.Proofs.YtkeeboomikkojaaGreatDoor.Sx
def okN (s:ByteArray):Prop:=s.size≤100
mutual
def y2:Ex→Prop
 |.mk _ nm _ l=>okN nm∧gW l
def gW:List Ex→Prop
 |[]=>True
 |x::r=>y2 x∧gW r
end
mutual
def AB:St→Prop
 |.mk _ _ a b t _ e body els=>okN a∧okN b∧okN t∧gW e∧ey body∧ey els
def ey:List St→Prop
 |[]=>True
 |x::r=>AB x∧ey r
end
theorem gi {x:Ex}:y2 x↔okN x.nm∧gW x.l:=by cases x;exact Iff.rfl
theorem gl {x:St}:AB x↔okN x.a∧okN x.b∧okN x.t∧gW x.e∧ey x.body∧ey x.els:=by cases x;exact Iff.rfl
theorem wo:∀{l:List Ex} {x:Ex},gW (l++[x])↔gW l∧y2 x
 |[],x=>by simp [gW]
 |y::r,x=>by simp only [Qu,gW,wo,and_assoc]
theorem vZ:∀{l:List St} {x:St},ey (l++[x])↔ey l∧AB x
 |[],x=>by simp [ey]
 |y::r,x=>by simp only [Qu,ey,vZ,and_assoc]
theorem cb:∀{l:List Ex} {x:Ex},gW l→x∈l→y2 x
 |y::r,x,h,hx=>by
  unfold gW at h;rcases List.mem_cons.1 hx with rfl|hx
  ·exact h.1
  ·exact cb h.2 hx
theorem oT:∀{l:List St} {x:St},ey l→x∈l→AB x
 |y::r,x,h,hx=>by
  unfold ey at h;rcases List.mem_cons.1 hx with rfl|hx
  ·exact h.1
  ·exact oT h.2 hx
theorem gH:∀(l:List Ex) (x:Ex),cw (l++[x])=cw l+exN x
 |[],x=>by simp [cw]
 |y::r,x=>by simp only [Qu,cw,gH];omega
theorem ub:∀(l:List St) (x:St),cc (l++[x])=cc l+stN x
 |[],x=>by simp [cc]
 |y::r,x=>by simp only [Qu,cc,ub];omega
theorem aZ {α:Type}{l:List α}{i:Nat}{x:α}(hx:l[i]?=some x):l.take (i+1)=l.take i++[x]:=by rw [List.take_add_one,hx];rfl
structure Small (p:List Sg):Prop where
 len:p.length≤100
 nm:∀s∈p,okN s.nm∧s.ps.length≤100∧(∀q∈s.ps,okN q.1∧okN q.2)∧ey s.body
 tot:(p.map fun s=>cc s.body).sum≤20000
section
variable  {ω:Amb}
theorem Eo:∀(N:Nat) (l:List Ex),cw l < N→∀(h:Hp) (v:Value) (left:Int),ExS h v l→left≤8000→0≤left→∀(X:XT),
  aa Tryz.prog ω ju [v,.int .i64 left] h (fun r h'=>∃z:Int,r=.int .i64 z∧z≤8000∧-9223372036854775808≤z∧(0≤z→gW l∧z+cw l≤left)∧KF h h') X:=by
 intro N
 induction N with
 |zero=>exact fun l hN=>absurd hN (Nat.not_lt_zero _)
 |succ N ih =>
  intro l hN h v left hs hle hge X;refine jj ω _ _ h _ X ?_;unfold dA;have hmax:=hs.max;refine hs.sl fun _ _=>?_;rw [asK_int,i64_in (by omega) (by omega)]
  refine ⟨fun lv t h'=>∃(z:Int) (k:Nat),lv=.int .i64 z∧t=.int .i64 k∧k≤l.length∧z≤8000∧-9223372036854775808≤z∧(0≤z→gW (l.take k)∧z+(l.length - k:Nat)+cw (l.take k)≤left)∧KF h h',
   fun _ t _=>match t with|.int _ k=>l.length - k.toNat|_=>0,⟨_,0,rfl,rfl,by omega,by omega,by omega,fun _=>⟨trivial,by simp [cw]⟩,ar.refl _ _⟩,?_⟩
  rintro _ _ _ h1 ⟨z,k,rfl,rfl,hk,hz1,hz2,hz3,k1⟩;have hs1:=hs.aC k1;refine ⟨decide (k < l.length∧0≤z),?_,fun _=>ae (fun hc=>?_) (fun hc=>?_)⟩
  ·refine hs1.sl fun _ _=>?_;rw [asK_int,asK_int];refine ae (fun hc=>?_) (fun hc=>?_)
   ·have:=Qj hc;refine ⟨?_,rfl⟩
    congr 1
    rw [Qz];simp;omega
   ·have:=Qc hc;rw [Z0 (by omega)]
    exact ⟨rfl,rfl⟩
  ·obtain ⟨hkl,hz0⟩:=Qj hc;have hx:=Q7 hkl;have hmem:l[k]∈l:=Qv hkl;generalize l[k]=x at hx hmem;obtain ⟨h3,h4⟩:=hz3 hz0;have hxn:=cr hmem;have hxe:=gA x;refine hs1.rdO hx (o:=1) fun w _=>⟨_,rfl,?_⟩;rw [asS_str];refine ae (fun hc=>?_) (fun hc=>?_)
   ·exact ⟨-1,rfl,by omega,by omega,fun h=>by omega,k1⟩
   ·have hnm:okN x.nm:=by
     have:=Qc hc;unfold okN;omega
    refine hs1.rdO hx (o:=3) fun w hw=>⟨_,rfl,?_⟩;refine aa.use (ih x.l (by omega) h1 w z hw hz1 hz0) ?_
    rintro _ h2 ⟨z2,rfl,g1,g2,g3,k2⟩;rw [asK_int,i64_in (by omega) (by omega)]
    refine ⟨⟨z2,k+1,rfl,by simp,by omega,g1,g2,fun h0=>?_,k1.trans k2⟩,by simp;omega⟩
    obtain ⟨g4,g5⟩:=g3 h0;rw [aZ hx,wo,gH];exact ⟨⟨h3,gi.2 ⟨hnm,g4⟩⟩,by omega⟩
  ·have hc:=Qc hc;refine ⟨z,rfl,hz1,hz2,fun h0=>?_,k1⟩;obtain ⟨h3,h4⟩:=hz3 h0;obtain rfl:k=l.length:=by omega
   rw [Qo] at h3 h4;exact ⟨h3,by omega⟩
theorem Ep:∀(N:Nat) (l:List St),cc l < N→∀(h:Hp) (v:Value) (left:Int),StS h v l→left≤8000→0≤left→∀(X:XT),
  aa Tryz.prog ω jD [v,.int .i64 left] h (fun r h'=>∃z:Int,r=.int .i64 z∧z≤8000∧-9223372036854775808≤z∧(0≤z→ey l∧z+cc l≤left)∧KF h h') X:=by
 intro N
 induction N with
 |zero=>exact fun l hN=>absurd hN (Nat.not_lt_zero _)
 |succ N ih =>
  intro l hN h v left hs hle hge X;refine jl ω _ _ h _ X ?_;unfold dB;have hmax:=hs.max;refine hs.sl fun _ _=>?_;rw [asK_int,i64_in (by omega) (by omega)]
  refine ⟨fun lv t h'=>∃(z:Int) (k:Nat),lv=.int .i64 z∧t=.int .i64 k∧k≤l.length∧z≤8000∧-9223372036854775808≤z∧(0≤z→ey (l.take k)∧z+(l.length - k:Nat)+cc (l.take k)≤left)∧KF h h',
   fun _ t _=>match t with|.int _ k=>l.length - k.toNat|_=>0,⟨_,0,rfl,rfl,by omega,by omega,by omega,fun _=>⟨trivial,by simp [cc]⟩,ar.refl _ _⟩,?_⟩
  rintro _ _ _ h1 ⟨z,k,rfl,rfl,hk,hz1,hz2,hz3,k1⟩;have hs1:=hs.aC k1;refine ⟨decide (k < l.length∧0≤z),?_,fun _=>ae (fun hc=>?_) (fun hc=>?_)⟩
  ·refine hs1.sl fun _ _=>?_;rw [asK_int,asK_int];refine ae (fun hc=>?_) (fun hc=>?_)
   ·have:=Qj hc;refine ⟨?_,rfl⟩
    congr 1
    rw [Qz];simp;omega
   ·have:=Qc hc;rw [Z0 (by omega)]
    exact ⟨rfl,rfl⟩
  rotate_left
  ·have hc:=Qc hc;refine ⟨z,rfl,hz1,hz2,fun h0=>?_,k1⟩;obtain ⟨h3,h4⟩:=hz3 h0;obtain rfl:k=l.length:=by omega
   rw [Qo] at h3 h4;exact ⟨h3,by omega⟩
  obtain ⟨hkl,hz0⟩:=Qj hc;have hx:=Q7 hkl;have hmem:l[k]∈l:=Qv hkl;generalize l[k]=x at hx hmem;obtain ⟨h3,h4⟩:=hz3 hz0;have hxn:=im hmem;have hxe:=jN x;refine ⟨fun lv h'=>∃z2:Int,lv=.int .i64 z2∧z2≤8000∧-9223372036854775808≤z2∧(0≤z2→AB x∧z2+cw x.e+cc x.body+cc x.els≤z)∧KF h h',?_,?_⟩
  rotate_left
  ·rintro _ _ h2 ⟨z2,rfl,g1,g2,g3,k2⟩;rw [asK_int,i64_in (by omega) (by omega)]
   refine ⟨⟨z2,k+1,rfl,by simp,by omega,g1,g2,fun h0=>?_,k2⟩,by simp;omega⟩
   obtain ⟨g4,g5⟩:=g3 h0;rw [aZ hx,vZ,ub];exact ⟨⟨h3,g4⟩,by omega⟩
  refine hs1.rdC hx fun ve vb vl he hb hl=>?_;refine ⟨rfl,qt he.b8 hb.b8 hl.b8,aA (cs:=stC x ve vb vl) rfl ?_⟩;have hb2:=ah (h:=h1) (o:=.cells (stC x ve vb vl).toArray 39 (0,0));have kp2:=ar.push (S:=fun _=>False) h1 (.cells (stC x ve vb vl).toArray 39 (0,0));have he:=he.aC kp2;have hb:=hb.aC kp2;have hl:=hl.aC kp2;have k2:=k1.trans kp2;generalize h1.push (.cells (stC x ve vb vl).toArray 39 (0,0))=h2 at *
  refine ⟨decide (100 < x.a.size∨100 < x.b.size∨100 < x.t.size),?_,fun _=>ae (fun hc=>?_) (fun hc=>?_)⟩
  ·refine lx hb2 (j:=2) rfl ?_;rw [asS_str];refine ae (fun hc=>?_) (fun hc=>?_)
   ·have:=Qj hc;rw [Z7 (by omega)]
    exact ⟨rfl,rfl⟩
   refine lx hb2 (j:=3) rfl ?_;rw [asS_str];have h1':=Qc hc;refine ae (fun hc=>?_) (fun hc=>?_)
   ·have:=Qj hc;rw [Z7 (by omega)]
    exact ⟨rfl,rfl⟩
   refine lx hb2 (j:=4) rfl ?_;rw [asS_str];have h2':=Qc hc;refine ⟨?_,rfl⟩
   congr 1
   rw [Qz];simp;omega
  ·exact ⟨-1,rfl,by omega,by omega,fun h=>by omega,k2⟩
  have hc:=Qc hc;have hnm:okN x.a∧okN x.b∧okN x.t:=by
   unfold okN;omega
  refine lx hb2 (j:=6) rfl ?_;refine aa.use (Eo _ x.e (Qw _) h2 ve z he hz1 hz0) ?_;rintro _ h3' ⟨z3,rfl,e1,e2,e3,k3⟩;have hb3:=k3.get hb2 (by simp)
  rw [asK_int];refine ⟨fun lv h'=>∃z2:Int,lv=.int .i64 z2∧z2≤8000∧-9223372036854775808≤z2∧(0≤z2→gW x.e∧ey x.body∧z2+cw x.e+cc x.body≤z)∧KF h2 h',?_,?_⟩
  ·refine ae (fun hc=>?_) (fun hc=>?_)
   ·have h0:0≤z3:=Qj hc;refine lx hb3 (j:=7) rfl ?_;refine aa.use (ih x.body (by omega) h3' vb z3 (hb.aC k3) e1 h0) ?_
    rintro _ h4' ⟨z4,rfl,f1,f2,f3,k4⟩;refine ⟨z4,rfl,f1,f2,fun h0'=>?_,k3.trans k4⟩;obtain ⟨f4,f5⟩:=f3 h0';obtain ⟨e4,e5⟩:=e3 h0;exact ⟨e4,f4,by omega⟩
   ·have h0:¬0≤z3:=Qc hc;exact ⟨z3,rfl,e1,e2,fun h=>absurd h h0,k3⟩
  rintro _ _ h4' ⟨z4,rfl,f1,f2,f3,k4⟩;have hb4:=k4.get hb2 (by simp)
  rw [asK_int];refine ⟨fun lv h'=>∃z2:Int,lv=.int .i64 z2∧z2≤8000∧-9223372036854775808≤z2∧(0≤z2→AB x∧z2+cw x.e+cc x.body+cc x.els≤z)∧KF h h',?_,fun _ _ _ hj=>hj⟩;refine ae (fun hc=>?_) (fun hc=>?_)
  ·have h0:0≤z4:=Qj hc;refine lx hb4 (j:=8) rfl ?_;refine aa.use (ih x.els (by omega) h4' vl z4 (hl.aC k4) f1 h0) ?_
   rintro _ h5' ⟨z5,rfl,g1,g2,g3,k5⟩;refine ⟨z5,rfl,g1,g2,fun h0'=>?_,(k2.trans k4).trans k5⟩;obtain ⟨g4,g5⟩:=g3 h0';obtain ⟨f4,f5,f6⟩:=f3 h0;exact ⟨gl.2 ⟨hnm.1,hnm.2.1,hnm.2.2,f4,f5,g4⟩,by omega⟩
  ·have h0:¬0≤z4:=Qc hc;exact ⟨z4,rfl,f1,f2,fun h=>absurd h h0,k2.trans k4⟩
end
def PgS (h:Hp)(v:Value)(p:List Sg):Prop:=∃w,v=.agg #[w]∧SgS h w p
def okS (s:Sg):Prop:=okN s.nm∧s.ps.length≤100∧(∀q∈s.ps,okN q.1∧okN q.2)∧ey s.body
theorem SgS.b8 {h:Hp}{v:Value}{l:List Sg}(hs:SgS h v l):b8 v:=by
 obtain ⟨us,h1,_⟩:=hs;exact bm.b8 h1.1
theorem Jr {l:List Sg}{x:Sg}:((l++[x]).map fun s=>cc s.body).sum=(l.map fun s=>cc s.body).sum+cc x.body:=by simp
section
variable  {ω:Amb}
theorem GK (p:List Sg)(v:Value)(h:Hp)(hp:PgS h v p)(X:XT) :
  aa Tryz.prog ω om [v] h (fun r h'=>∃g:Bool,r=.bool g∧KF h h'∧(g=false→Small p)) X:=by
 obtain ⟨w,rfl,hs⟩:=hp;refine pi ω _ h _ X ?_;unfold gI;simp only [show Value.cells (.agg #[w])=[w].toArray from rfl]
 have hb0:=ah (h:=h) (o:=.cells [w].toArray 24 (0,0));have k0:=ar.push (S:=fun _=>False) h (.cells [w].toArray 24 (0,0));generalize h.push (.cells [w].toArray 24 (0,0))=h0 at *;have hs0:=hs.aC k0;refine lx hb0 (j:=0) rfl ?_;refine hs0.sl fun _ _=>ae (fun hc=>⟨true,rfl,k0,fun h=>by cases h⟩) (fun hc=>?_)
 have hlen:p.length≤100:=by
  have:=Qc hc;omega
 refine ⟨fun lv t h'=>∃(z:Int) (k:Nat),lv=.int .i64 z∧t=.int .i64 k∧k≤p.length∧0≤z∧z≤8000∧(∀s∈p.take k,okS s)∧z+((p.take k).map fun s=>cc s.body).sum≤8000∧KF h0 h',
  fun _ t _=>match t with|.int _ k=>p.length - k.toNat|_=>0,⟨_,0,rfl,rfl,by omega,by omega,by omega,by simp,by simp,ar.refl _ _⟩,?_⟩
 rintro _ _ _ h1 ⟨z,k,rfl,rfl,hk,hz0,hz1,hz2,hz3,k1⟩;have hs1:=hs0.aC k1;have hb1:=k1.get hb0 (by simp)
 refine lx hb1 (j:=0) rfl ?_;refine hs1.sl fun _ _=>?_;rw [asK_int];refine ae (fun hc=>?_) (fun hc=>?_)
 rotate_left
 ·have hc:=Qc hc;obtain rfl:k=p.length:=by omega
  rw [Qo] at hz2 hz3;exact ⟨false,rfl,k0.trans k1,fun _=>⟨hlen,hz2,by omega⟩⟩
 have hkl:k < p.length:=by
  have:=Qj hc;omega
 have hx:=Q7 hkl;have hmem:p[k]∈p:=Qv hkl;generalize p[k]=x at hx hmem;refine lx hb1 (j:=0) rfl ?_;refine hs1.rdC hx fun vp vb hps hbd=>?_;have hvp:=bm.b8 hps.1;refine ⟨rfl,lY hvp hbd.b8,aA (cs:=sgC x vp vb) rfl ?_⟩;have hb2:=ah (h:=h1) (o:=.cells (sgC x vp vb).toArray 41 (0,0));have kp2:=ar.push (S:=fun _=>False) h1 (.cells (sgC x vp vb).toArray 41 (0,0));have hps:=(hps.aC kp2).1;have hbd:=hbd.aC kp2
 have k2:=k1.trans kp2;generalize h1.push (.cells (sgC x vp vb).toArray 41 (0,0))=h2 at *;refine ⟨decide (100 < x.nm.size∨100 < x.ps.length),?_,fun _=>ae (fun hc=>?_) (fun hc=>?_)⟩
 ·refine lx hb2 (j:=0) rfl ?_;rw [asS_str];refine ae (fun hc=>?_) (fun hc=>?_)
  ·have:=Qj hc;rw [Z7 (by omega)]
   exact ⟨rfl,trivial⟩
  refine lx hb2 (j:=2) rfl ?_;have h1':=Qc hc;refine bm.sl hps fun _ _=>⟨?_,trivial⟩
  congr 1
  rw [Qz];simp;omega
 ·exact ⟨true,rfl,k0.trans k2,fun h=>by cases h⟩
 have hc:=Qc hc;refine ⟨fun t h'=>∃j:Nat,t=.int .i64 j∧j≤x.ps.length∧(∀q∈x.ps.take j,okN q.1∧okN q.2)∧h2=h',fun t _=>match t with|.int _ k=>x.ps.length - k.toNat|_=>0,⟨0,rfl,by omega,by simp,rfl⟩,?_⟩
 rintro _ _ _ ⟨j,rfl,hj,hq,rfl⟩;refine lx hb2 (j:=2) rfl ?_;refine bm.sl hps fun _ _=>?_;rw [asK_int];refine ae (fun hc=>?_) (fun hc=>?_)
 ·have hjl:j < x.ps.length:=by
   have:=Qj hc;omega
  have hy:=Q7 hjl;generalize x.ps[j]=q at hy;refine ⟨decide (100 < q.1.size∨100 < q.2.size),?_,fun _=>ae (fun hc=>?_) (fun hc=>?_)⟩
  ·refine lx hb2 (j:=2) rfl ?_;refine bm.rdT (f:=pf) hps ic hy (o:=0) rfl ?_;rw [asS_str];refine ae (fun hc=>?_) (fun hc=>?_)
   ·have:=Qj hc;rw [Z7 (by omega)]
    exact ⟨rfl,trivial⟩
   refine lx hb2 (j:=2) rfl ?_;have h1':=Qc hc;refine bm.rdT (f:=pf) hps ic hy (o:=1) rfl ?_;rw [asS_str];refine ⟨?_,trivial⟩
   congr 1
   rw [Qz];simp;omega
  ·exact ⟨true,rfl,k0.trans k2,fun h=>by cases h⟩
  ·have hc:=Qc hc;rw [asK_int,i64_in (by omega) (by omega)]
   refine ⟨⟨j+1,by simp,by omega,fun r hr=>?_,rfl⟩,by simp;omega⟩
   rw [aZ hy] at hr;rcases Z3.1 hr with hr|hr
   ·exact hq r hr
   ·obtain rfl:=Qf.1 hr;unfold okN;omega
 ·have hj':=Qc hc;obtain rfl:j=x.ps.length:=by omega
  rw [Qo] at hq;refine lx hb2 (j:=3) rfl ?_;refine aa.use (Ep _ x.body (Qw _) h2 vb z hbd hz1 hz0) ?_;rintro _ h3 ⟨z3,rfl,e1,e2,e3,k3⟩;rw [asK_int];refine ae (fun hc=>⟨true,rfl,(k0.trans k2).trans k3,fun h=>by cases h⟩) (fun hc=>?_)
  have h0:0≤z3:=by
   have:=Qc hc;omega
  obtain ⟨e4,e5⟩:=e3 h0;rw [asK_int,i64_in (by omega) (by omega)]
  refine ⟨⟨z3,k+1,rfl,by simp,by omega,h0,e1,fun s hs=>?_,?_,k2.trans k3⟩,by simp;omega⟩
  ·rw [aZ hx] at hs;rcases Z3.1 hs with hs|hs
   ·exact hz2 s hs
   ·obtain rfl:=Qf.1 hs;refine ⟨by unfold okN;omega,by omega,hq,e4⟩
  ·rw [aZ hx,Jr];omega
end
abbrev Nw (h h':Hp)(b:Nat):Prop:=h.size≤b∧b < h'.size
theorem dS {h':Hp}{out w:Value}{b:Nat}(hw:∀k,w.ownBlock=some k→out.ownBlock=some k∨h'.size≤k)(hb:b < h'.size)(hn:out.ownBlock≠some b):w.ownBlock≠some b:=by
 intro e;rcases hw b e with h1|h1
 ·exact hn h1
 ·omega
section
variable  {ω:Amb}
end
theorem ew {v:Value}(h:AL v):b8 v:=by
 rcases h with rfl|⟨a,l,c,rfl⟩
 ·exact ⟨_,_,_,rfl⟩
 ·exact ⟨_,_,_,rfl⟩
theorem ue {p:List Sg}{x:Sg}(hx:x∈p):cc x.body≤(p.map fun s=>cc s.body).sum:=by
 induction p with
 |nil=>cases hx
 |cons y r ih =>
  simp only [List.map_cons,List.sum_cons];rcases List.mem_cons.1 hx with rfl|hx
  ·omega
  ·have:=ih hx;omega
section
variable  {ω:Amb}
end
end Go.Proofs.YtkeeboomikkojaaGreatDoor
