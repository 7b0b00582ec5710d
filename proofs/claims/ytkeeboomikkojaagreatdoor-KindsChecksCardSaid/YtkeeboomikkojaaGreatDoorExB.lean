import Derived.Test.YtkeeboomikkojaaGreatDoorExA
import Derived.Test.YtkeeboomikkojaaGreatDoorRx4
import Derived.Test.YtkeeboomikkojaaGreatDoorRy2
import Derived.Test.YtkeeboomikkojaaGreatDoorRn7
import Derived.Test.YtkeeboomikkojaaGreatDoorRn9
import Derived.Test.YtkeeboomikkojaaGreatDoorRk
import Derived.Test.YtkeeboomikkojaaGreatDoorRn6
import Derived.Test.YtkeeboomikkojaaGreatDoorRn5
import Derived.Test.YtkeeboomikkojaaGreatDoorYk
import Derived.Test.YtkeeboomikkojaaGreatDoorY9
namespace Go.Proofs.YtkeeboomikkojaaGreatDoor
open Go Go.Sx Go.Sx.Tk Go.Sx.Rn Go.Proofs.YtkeeboomikkojaaGreatDoor.Sx
def t9L:List Value:=[(.int .i64 0),(.int .i64 9),(.int .i64 9),(.int .i64 4),(.int .i64 2),(.int .i64 2),(.int .i64 3),(.int .i64 1),(.int .i64 1)]
def sgL:List Value:=[(.string ⟨#[32,43,32]⟩),(.string ⟨#[32,45,32]⟩),(.string ⟨#[32,42,32]⟩),(.string ⟨#[32,60,32]⟩),(.string ⟨#[32,61,61,32]⟩)]
def bdO (op:Int):Int:=if op=1∨op=2 then 9 else rk op
theorem Pu:∀k:Nat,1≤k→k≤8→t9L[k]?=some (.int .i64 (bdO (k:Int)))
 |0,h,_=>absurd h (by decide)
 |1,_,_=>rfl
 |2,_,_=>rfl
 |3,_,_=>rfl
 |4,_,_=>rfl
 |5,_,_=>rfl
 |6,_,_=>rfl
 |7,_,_=>rfl
 |8,_,_=>rfl
 |k+9,_,h=>absurd h (by omega)
theorem Pn:∀k:Nat,k < 5→sgL[k]?=some (.string (bs (sgn ((k:Int)+4))))
 |0,_=>rfl
 |1,_=>rfl
 |2,_=>rfl
 |3,_=>rfl
 |4,_=>rfl
 |k+5,h=>absurd h (by omega)
section
variable  {ω:Amb}
set_option maxHeartbeats 800000 in
theorem AR:∀(N:Nat) (x:Ex),exN x < N→exN x≤100000→Dw x→exF x=0→∀(h:Hp) (w:Value) (m:Int),ExS h w x.l→ft h→m≤4→∀(X:XT),
  ae Tryz.prog ω da [.agg (exC x w).toArray,.int .i64 m] h (fun r h'=>r=.string (bs (brk m (x.op,exT x)))∧KF h h') X:=by
 intro N
 induction N with
 |zero=>exact fun l hN=>absurd hN (Nat.not_lt_zero _)
 |succ N ih =>
  intro x hN hle hok hF h w m hw ht hm X;refine mh ω _ _ h _ X ?_;unfold fi aJ aD;simp only [dS,show List.toArray [(.int .i64 0),(.int .i64 9),(.int .i64 9),(.int .i64 4),(.int .i64 2),(.int .i64 2),(.int .i64 3),(.int .i64 1),(.int .i64 1)]=t9L.toArray from rfl,
   show List.toArray [(.string ⟨#[32,43,32]⟩),(.string ⟨#[32,45,32]⟩),(.string ⟨#[32,42,32]⟩),(.string ⟨#[32,60,32]⟩),(.string ⟨#[32,61,61,32]⟩)]=sgL.toArray from rfl]
  obtain ⟨hnm,hokl⟩:=gX.1 hok;have hxe:=gF x;obtain ⟨hH,hFl⟩:=Iu hF;obtain ⟨g1,g2,g3,g4,g5,g6,g7,g8⟩:=IV hH;have hlen:=yy x hF hok;have hb1:=ai (h:=h) (o:=.cells (exC x w).toArray 36 (0,0));have kp:=ay.push (S:=fun _=>False) h (.cells (exC x w).toArray 36 (0,0));generalize h.push (.cells (exC x w).toArray 36 (0,0))=h1 at *;have ht2:=ai (h:=h1) (o:=.cells t9L.toArray 3 (0,0));have k1:=ay.push (S:=fun _=>False) h1 (.cells t9L.toArray 3 (0,0))
  generalize h1.push (.cells t9L.toArray 3 (0,0))=h2 at *;have hb2:=k1.get hb1 (by simp)
  have k02:=kp.trans k1;have hw2:=hw.aE k02;have htk:=ht.more k02;refine lx hb2 (j:=0) rfl ?_;obtain ⟨o,ho⟩:∃o:Nat,x.op=o:=⟨x.op.toNat,by omega⟩
  rw [ho,asI_int];refine ⟨by omega,by omega,?_⟩
  rw [Qm,Nat.mul_one];refine lx ht2 (Pu o (by omega) (by omega)) ?_
  rw [←ho];refine lx hb2 (j:=0) rfl ?_;refine ⟨fun v h'=>v=.string (bs (exT x))∧KF h2 h',?_,?_⟩
  rotate_left
  ·rintro _ _ h3 ⟨rfl,k3⟩;rw [asK_int,asK_int];have hbr:decide (bdO x.op < m)=decide (rk x.op < m):=by
    rw [Qz];simp only [decide_eq_true_eq];unfold bdO
    split
    ·rename_i h12;have:rk x.op=5:=by
      rcases h12 with h|h<;>rw [h]<;>rfl
     omega
    ·rfl
   rw [hbr,asS_str,show (⟨#[40]⟩:ByteArray)=bs [40] from rfl,show (⟨#[41]⟩:ByteArray)=bs [41] from rfl,bL,bL]
   simp only [aP];refine ah (fun hc=>?_) (fun hc=>?_)
   ·refine ⟨by simp;omega,by simp;omega,?_,k02.trans k3⟩
    rw [brk,if_pos (Qj hc)];rfl
   ·exact ⟨by rw [brk,if_neg (Qc hc)],k02.trans k3⟩
  rw [asK_int];refine ⟨fun v h'=>v=.string (bs (exT x))∧KF h2 h',?_,fun _ _ _ hj=>hj⟩;refine ah (fun hc=>?_) (fun hc=>?_)
  ·have h1o:x.op=1:=Ze hc;refine lx hb2 (j:=2) rfl ?_;refine ae.use (sI x.n (by omega) (by omega) _ htk) ?_
   rintro _ h3 ⟨rfl,k3⟩;refine ⟨?_,k3⟩;rw [wH,exB,if_pos h1o];rfl
  have n1:x.op≠1:=Qa.1 hc;rw [asK_int];refine ⟨fun v h'=>v=.string (bs (exT x))∧KF h2 h',?_,fun _ _ _ hj=>hj⟩;refine ah (fun hc=>?_) (fun hc=>?_)
  ·have h2o:x.op=2:=Ze hc;refine lx hb2 (j:=1) rfl ⟨?_,ay.refl _ _⟩;rw [wH,exB,if_neg n1,if_pos h2o,jn]
  have n2:x.op≠2:=Qa.1 hc;rw [asK_int];refine ⟨fun v h'=>v=.string (bs (exT x))∧KF h2 h',?_,fun _ _ _ hj=>hj⟩;refine ah (fun hc=>?_) (fun hc=>?_)
  ·have h3o:x.op=3:=Ze hc;have hl1:x.l.length=1:=by
    rw [fD,if_neg (by omega),if_pos h3o] at g3
    omega
   obtain ⟨a,ha⟩:=FE hl1;have hma:a∈x.l:=by rw [ha];exact Qf.2 rfl
   have han:=cG hma;refine lx hb2 (j:=3) rfl ?_;refine hw2.rdC (i:=0) (x:=a) (by rw [ha];rfl) fun wa hwa=>?_
   refine ae.use (ih a (by omega) (by omega) (cw hokl hma) (nA hFl hma) _ wa 4 hwa htk (by decide)) ?_
   rintro _ h3 ⟨rfl,k3⟩;have hlen:=tG (nA hFl hma) (cw hokl hma) 4;rw [asS_str,show (⟨#[45]⟩:ByteArray)=bs [45] from rfl,bL]
   simp only [aP];refine ⟨by simp;omega,?_,k3⟩
   rw [Ey ha h3o];rfl
  have n3:x.op≠3:=Qa.1 hc;have hl2:x.l.length=2:=by
   rw [fD,if_neg (by omega),if_neg n3] at g3
   omega
  have hbd:bdO x.op=rk x.op:=by rw [bdO,if_neg (by omega)]
  have hrk:1≤rk x.op∧rk x.op≤3:=by
   have:x.op=4∨x.op=5∨x.op=6∨x.op=7∨x.op=8:=by omega
   rcases this with h|h|h|h|h<;>rw [h]<;>decide
  have hlm:lmO x.op≤3:=by
   unfold lmO
   split<;>omega
  have hr78:(x.op=7∨x.op=8)↔rk x.op=1:=by
   unfold rk
   repeat' split
   all_goals omega
  obtain ⟨a,b,hab⟩:=La hl2;have hma:a∈x.l:=by rw [hab];simp
  have hmb:b∈x.l:=by rw [hab];simp
  have han:=cG hma;have hbn:=cG hmb;have ga:x.l[0]?=some a:=by rw [hab];rfl
  have gb:x.l[1]?=some b:=by rw [hab];rfl
  have hT:=FH hab n1 n2 n3;have l1:=tG (nA hFl hma) (cw hokl hma) (lmO x.op);have l2:=tG (nA hFl hmb) (cw hokl hmb) (rk x.op+1);have l3:=BE x.op;rw [asK_int,hbd];refine ⟨fun v h'=>v=.int .i64 (lmO x.op)∧h2=h',ah (fun hc=>?_) (fun hc=>?_),?_⟩
  ·have h78:=hr78.2 (Ze hc);exact ⟨by rw [lmO,if_pos h78],rfl⟩
  ·have h78:¬(x.op=7∨x.op=8):=fun h=>Qa.1 hc (hr78.1 h);exact ⟨by rw [lmO,if_neg h78],rfl⟩
  rintro _ _ _ ⟨rfl,rfl⟩;refine lx hb2 (j:=3) rfl ?_;refine Lb hw2 (ay.refl _ _) ga fun axa wa hwa hca=>?_;refine lx hb2 (j:=0) rfl ?_;rw [asK_int];refine lx hb2 (j:=3) rfl ?_;refine Lb hw2 (ay.refl _ _) gb fun axb wb hwb hcb=>?_;rw [asK_int,i64_in (by omega) (by omega),i64_in (by omega) (by omega)]
  have hA:∀hh,KF h2 hh→∀Y,ae Tryz.prog ω da [.agg (exC a wa).toArray,.int .i64 (lmO x.op)] hh (fun r h'=>r=.string (bs (brk (lmO x.op) (a.op,exT a)))∧KF hh h') Y:=fun hh kk Y =>
   ih a (by omega) (by omega) (cw hokl hma) (nA hFl hma) hh wa _ (hwa.aE kk) (htk.more kk) (by omega) Y
  have hB:∀hh,KF h2 hh→∀Y,ae Tryz.prog ω da [.agg (exC b wb).toArray,.int .i64 (rk x.op+1)] hh (fun r h'=>r=.string (bs (brk (rk x.op+1) (b.op,exT b)))∧KF hh h') Y:=fun hh kk Y =>
   ih b (by omega) (by omega) (cw hokl hmb) (nA hFl hmb) hh wb _ (hwb.aE kk) (htk.more kk) (by omega) Y
  have hsg:∀(hh:Hp),af (hh.push (.cells sgL.toArray 9 (0,0))) (Addr.add ⟨hh.size,0,none⟩ (Int.toNat (x.op - 4)*1))=some (.string (bs (sgn x.op))):=fun hh=>by
   refine lx' ai ?_;have:=Pn (x.op - 4).toNat (by omega)
   rw [Nat.mul_one,this]
   congr 4
   omega
  have fin:∀{hh:Hp},KF h2 hh→((.string (bs (brk (lmO x.op) (a.op,exT a)++sgn x.op++brk (rk x.op+1) (b.op,exT b))):Value)=.string (bs (exT x))∧KF h2 hh):=fun kk=>⟨by rw [hT],kk⟩
  have z0:0≤x.op - 4:=by omega
  have z5:x.op - 4 < 5:=by omega
  refine ⟨?_,?_⟩
  ·refine ae.use (hA h2 (ay.refl _ _)) ?_;rintro _ h3 ⟨rfl,k3⟩;have ks:=ay.push (S:=fun _=>False) h3 (.cells sgL.toArray 9 (0,0));have hb3:=k3.get hb2 (by simp)
   refine ⟨ay.cells k3 hcb,lx' hb3 rfl,lx' hb3 rfl,⟨ay.cells (k3.trans ks) hcb,lx' (ks.get hb3 (by simp)) rfl,lx' (ks.get hb3 (by simp)) rfl,z0,z5,_,hsg h3,?_⟩,?_⟩
   ·rw [asS_str,asS_str,bL];simp only [aP];refine ⟨by omega,?_⟩
    refine ae.use (hB _ (k3.trans ks)) ?_;rintro _ h5 ⟨rfl,k5⟩;refine ⟨k5.cell (hsg h3) (by simp),lx' (k5.get (ks.get hb3 (by simp)) (by simp)) rfl,?_⟩
    rw [asS_str,bL];simp only [aP,Qd];exact ⟨by omega,fin ((k3.trans ks).trans k5)⟩
   ·refine ae.use (hB h3 k3) ?_;rintro _ h5 ⟨rfl,k5⟩;have ks5:=ay.push (S:=fun _=>False) h5 (.cells sgL.toArray 9 (0,0));have hb5:=k5.get hb3 (by simp)
    refine ⟨lx' hb5 rfl,lx' (ks5.get hb5 (by simp)) rfl,z0,z5,_,hsg h5,?_⟩
    simp only [asS_str,bL,aP,Qd];exact ⟨by omega,by omega,fin ((k3.trans k5).trans ks5)⟩
  ·have ks:=ay.push (S:=fun _=>False) h2 (.cells sgL.toArray 9 (0,0));have hbs:=ks.get hb2 (by simp)
   have hs2:=hsg h2;generalize h2.push (.cells sgL.toArray 9 (0,0))=hS at *;refine ⟨ay.cells ks hcb,lx' hbs rfl,lx' hbs rfl,ay.cells ks hca,lx' hbs rfl,?_,z0,z5,?_,_,hs2,?_⟩
   ·refine ae.use (hA hS ks) ?_;rintro _ h3 ⟨rfl,k3⟩;have hb3:=k3.get hbs (by simp)
    refine ⟨ay.cells (ks.trans k3) hcb,lx' hb3 rfl,lx' hb3 rfl,z0,z5,_,k3.cell hs2 (by simp),?_⟩
    rw [asS_str,asS_str,bL];simp only [aP];refine ⟨by omega,?_⟩
    refine ae.use (hB _ (ks.trans k3)) ?_;rintro _ h5 ⟨rfl,k5⟩;refine ⟨(k3.trans k5).cell hs2 (by simp),lx' (k5.get hb3 (by simp)) rfl,?_⟩
    rw [asS_str,bL];simp only [aP,Qd];exact ⟨by omega,fin ((ks.trans k3).trans k5)⟩
   ·refine ae.use (hA hS ks) ?_;rintro _ h3 ⟨rfl,k3⟩;have hb3:=k3.get hbs (by simp)
    refine ⟨ay.cells (ks.trans k3) hcb,lx' hb3 rfl,lx' hb3 rfl,_,k3.cell hs2 (by simp),?_⟩
    rw [asS_str,asS_str,bL];simp only [aP];refine ⟨by omega,?_⟩
    refine ae.use (hB _ (ks.trans k3)) ?_;rintro _ h5 ⟨rfl,k5⟩;refine ⟨(k3.trans k5).cell hs2 (by simp),lx' (k5.get hb3 (by simp)) rfl,?_⟩
    rw [asS_str,bL];simp only [aP,Qd];exact ⟨by omega,fin ((ks.trans k3).trans k5)⟩
   ·refine ae.use (hA hS ks) ?_;rintro _ h3 ⟨rfl,k3⟩;have hb3:=k3.get hbs (by simp)
    refine ⟨ay.cells (ks.trans k3) hcb,lx' hb3 rfl,lx' hb3 rfl,?_⟩;rw [asS_str,asS_str,bL];simp only [aP];refine ⟨by omega,?_⟩
    refine ae.use (hB _ (ks.trans k3)) ?_;rintro _ h5 ⟨rfl,k5⟩;refine ⟨lx' (k5.get hb3 (by simp)) rfl,?_⟩
    rw [asS_str,bL];simp only [aP,Qd];exact ⟨by omega,fin ((ks.trans k3).trans k5)⟩
end
section
variable  {ω:Amb}
theorem tX (s:ByteArray)(hs:s.size≤1000)(h:Hp)(X:XT) :
  ae Tryz.prog ω mm [.string s] h (fun r h'=>r=.string (bs (wg s))∧h'=h) X:=by
 refine ma ω _ h _ X ?_;unfold e9;refine ⟨fun o t h'=>∃k:Nat,t=.int .i64 k∧k≤s.size - 1∧o=.string (bs (((bytesOf s).take k).flatMap kwd))∧h=h',fun _ t _=>match t with|.int _ k=>s.size - k.toNat|_=>0,
  ⟨0,rfl,by omega,rfl,rfl⟩,?_⟩
 rintro _ _ _ _ ⟨k,rfl,hk,rfl,rfl⟩;have hlen:=CX ((bytesOf s).take k);rw [Qp,aN] at hlen;rw [asS_str,asK_int,i64_in (by omega) (by omega)]
 refine ah (fun hc=>?_) (fun hc=>?_)
 ·have hkl:=Qj hc;refine ⟨fun v h'=>v=.string (bs (((bytesOf s).take (k+1)).flatMap kwd))∧h=h',?_,?_⟩
  ·rw [asK_int,asS_str,asI_int,i64_in (by omega) (by omega)]
   refine ⟨by omega,by omega,by omega,?_⟩
   rw [Qm,show Int.toNat ((k:Int)+1)=k+1 by omega,hY s (by omega) 115,G5 s (by omega)]
   refine ⟨fun v h'=>v=.string (bs (((bytesOf s).take k).flatMap kwd++kwd (cAt s k)))∧h=h',ah (fun hc=>?_) (fun hc=>?_),fun _ _ _ hj=>hj⟩
   ·simp only [asS_str,lit,bL,aP];rw [kwd,if_pos (Qj hc)];exact ⟨by simp only [Qn,Qy];omega,rfl,trivial⟩
   ·simp only [asS_str,lit,bL,aP];rw [kwd,if_neg (Qc hc)];exact ⟨by simp only [Qn,Qy];omega,rfl,trivial⟩
  ·rintro _ _ _ ⟨rfl,rfl⟩;rw [asK_int,i64_in (by omega) (by omega)]
   exact ⟨⟨k+1,by simp,by omega,rfl,rfl⟩,by simp;omega⟩
 ·have hc:=Qc hc;obtain rfl:k=s.size - 1:=by omega
  simp only [asS_str,lit,bL,aP];exact ⟨by simp only [Qn,Qy];omega,rfl,trivial⟩
end
def wdL (d:Int):List UInt8 :=
 if d=1 then [108,101,116]
 else if d=2 then [115,101,116]
 else if d=3 then [101,109,105,116]
 else if d=4 then [99,104,97,110]
 else if d=5 then [99,108,111,110,101]
 else if d=6 then [115,101,110,100]
 else if d=7 then [99,108,111,115,101]
 else if d=8 then [97,98,97,110,100,111,110]
 else if d=9 then [100,114,97,105,110]
 else if d=10 then [115,112,97,119,110]
 else if d=11 then [116,97,107,101]
 else if d=12 then [102,111,114]
 else if d=13 then [114,101,112,101,97,116]
 else if d=14 then [105,102]
 else []
def wdT:List Value:=[(.string ⟨#[]⟩),(.string ⟨#[108,101,116]⟩),(.string ⟨#[115,101,116]⟩),(.string ⟨#[101,109,105,116]⟩),(.string ⟨#[99,104,97,110]⟩),(.string ⟨#[99,108,111,110,101]⟩),(.string ⟨#[115,101,110,100]⟩),(.string ⟨#[99,108,111,115,101]⟩),(.string ⟨#[97,98,97,110,100,111,110]⟩),(.string ⟨#[100,114,97,105,110]⟩),(.string ⟨#[115,112,97,119,110]⟩),(.string ⟨#[116,97,107,101]⟩),(.string ⟨#[102,111,114]⟩),(.string ⟨#[114,101,112,101,97,116]⟩),(.string ⟨#[105,102]⟩)]
theorem Pd:∀k:Nat,k < 15→wdT[k]?=some (.string (bs (wdL (k:Int))))
 |0,_=>rfl
 |1,_=>rfl
 |2,_=>rfl
 |3,_=>rfl
 |4,_=>rfl
 |5,_=>rfl
 |6,_=>rfl
 |7,_=>rfl
 |8,_=>rfl
 |9,_=>rfl
 |10,_=>rfl
 |11,_=>rfl
 |12,_=>rfl
 |13,_=>rfl
 |14,_=>rfl
 |k+15,h=>absurd h (by omega)
def p1R (x:St):List UInt8:=if emp x.a then [] else [32]++bytesOf x.a
def p2R (x:St):List UInt8:=if x.d=1∨x.d=2 then [32,61] else []
def p3R (x:St):List UInt8:=if x.d=11∨x.d=12 then [32,102,114,111,109] else []
def p4R (x:St):List UInt8:=if emp x.b then [] else [32]++bytesOf x.b
def p5R (x:St):List UInt8:=if x.d=4 then [32]++wg x.t++[32]++Lib.itoa x.n else []
def p6R (x:St):List UInt8:=if x.d=10 then [40] else []
def esR (d:Int):List Ex→List UInt8
 |[]=>[]
 |x::r=>(if d=10 then [] else [32])++dJ (x::r)
def p7R (x:St):List UInt8:=if x.d=10 then [41] else []
theorem zp (sep:List UInt8)(l:List (List UInt8))(y:List UInt8):Lib.join (l++[y]) sep=if l.length=0 then y else Lib.join l sep++sep++y:=by
 cases l with
 |nil=>simp [Lib.join_one]
 |cons a r =>
  rw [if_neg (by simp),Qu,Lib.join_cons,Lib.join_cons]
  unfold Lib.joinTail;simp
theorem Ec (l:List Ex)(y:Ex):dJ (l++[y])=if l.length=0 then exT y else dJ l++[44,32]++exT y:=by
 unfold dJ;rw [List.map_append,List.map_singleton,zp,Z5]
theorem Ch (d:Int)(l:List Ex)(y:Ex):esR d (l++[y])=esR d l++((if 0 < l.length then [44,32] else if d=10 then [] else [32])++exT y):=by
 cases l with
 |nil=>simp [esR,dJ,Lib.join_one]
 |cons a r =>
  rw [if_pos (show 0 < (a::r).length by simp)]
  show (if d=10 then [] else [32])++dJ ((a::r)++[y])=_
  rw [Ec,if_neg (show ¬(a::r).length=0 by simp)]
  simp [esR]
theorem eX {s:ByteArray}(h:aU s=true):¬emp s:=by
 unfold aU ei at h;simp only [Qq,decide_eq_true_eq] at h;intro he;have h0:s.size=0:=by
  rw [←aN,show bytesOf s=[] from he]
  rfl
 have:=h.1.1;omega
theorem MN {l:List Ex}(h:(l.length:Int)=1):∃y,l=[y]:=FE (by omega)
theorem BZ {l:List Ex}(h:(l.length:Int)=0):l=[]:=List.eq_nil_of_length_eq_zero (by omega)
set_option maxHeartbeats 1000000 in
theorem LN {x:St}{f:Fm}{deep:Int}(h:M4 x f deep):wdL x.d++p1R x++p2R x++p3R x++p4R x++p5R x++p6R x++esR x.d x.e=cS x++dJ x.e:=by
 have hf:=h.form;have h1:=h.d1;have h2:=h.d2;have na:=h.na;have nb:=h.nb;have ea:=h.ea;have eb:=h.eb;have ne:=h.ne;have hd:x.d=1∨x.d=2∨x.d=3∨x.d=4∨x.d=5∨x.d=6∨x.d=7∨x.d=8∨x.d=9∨x.d=10∨x.d=11∨x.d=12∨x.d=13∨x.d=14:=by omega
 rcases hd with hd|hd|hd|hd|hd|hd|hd|hd|hd|hd|hd|hd|hd|hd
 ·rw [hd] at hf;obtain rfl:=Z2 hf;have ha:=eX (na rfl);have hb:=eb rfl;obtain ⟨y,hy⟩:=MN (ne (by decide))
  simp [p1R,p2R,p3R,p4R,p5R,p6R,wdL,cS,hd,ha,hb,hy,esR,dJ,Lib.join_one]
 ·rw [hd] at hf;obtain rfl:=Z2 hf;have ha:=eX (na rfl);have hb:=eb rfl;obtain ⟨y,hy⟩:=MN (ne (by decide))
  simp [p1R,p2R,p3R,p4R,p5R,p6R,wdL,cS,hd,ha,hb,hy,esR,dJ,Lib.join_one]
 ·rw [hd] at hf;obtain rfl:=Z2 hf;have ha:=ea rfl;have hb:=eb rfl;obtain ⟨y,hy⟩:=MN (ne (by decide))
  simp [p1R,p2R,p3R,p4R,p5R,p6R,wdL,cS,hd,ha,hb,hy,esR,dJ,Lib.join_one]
 ·rw [hd] at hf;obtain rfl:=Z2 hf;have ha:=eX (na rfl);have hb:=eX (nb rfl);have hy:=BZ (ne (by decide))
  simp [p1R,p2R,p3R,p4R,p5R,p6R,wdL,cS,hd,ha,hb,hy,esR,dJ,Lib.join_nil]
 ·rw [hd] at hf;obtain rfl:=Z2 hf;have ha:=eX (na rfl);have hb:=eX (nb rfl);have hy:=BZ (ne (by decide))
  simp [p1R,p2R,p3R,p4R,p5R,p6R,wdL,cS,hd,ha,hb,hy,esR,dJ,Lib.join_nil]
 ·rw [hd] at hf;obtain rfl:=Z2 hf;have ha:=eX (na rfl);have hb:=eb rfl;obtain ⟨y,hy⟩:=MN (ne (by decide))
  simp [p1R,p2R,p3R,p4R,p5R,p6R,wdL,cS,hd,ha,hb,hy,esR,dJ,Lib.join_one]
 ·rw [hd] at hf;obtain rfl:=Z2 hf;have ha:=eX (na rfl);have hb:=eb rfl;have hy:=BZ (ne (by decide))
  simp [p1R,p2R,p3R,p4R,p5R,p6R,wdL,cS,hd,ha,hb,hy,esR,dJ,Lib.join_nil]
 ·rw [hd] at hf;obtain rfl:=Z2 hf;have ha:=eX (na rfl);have hb:=eb rfl;have hy:=BZ (ne (by decide))
  simp [p1R,p2R,p3R,p4R,p5R,p6R,wdL,cS,hd,ha,hb,hy,esR,dJ,Lib.join_nil]
 ·rw [hd] at hf;obtain rfl:=Z2 hf;have ha:=eX (na rfl);have hb:=eb rfl;have hy:=BZ (ne (by decide))
  simp [p1R,p2R,p3R,p4R,p5R,p6R,wdL,cS,hd,ha,hb,hy,esR,dJ,Lib.join_nil]
 ·rw [hd] at hf;obtain rfl:=Z2 hf;have ha:=eX (na rfl);have hb:=eb rfl;cases hy:x.e with
  |nil=>simp [p1R,p2R,p3R,p4R,p5R,p6R,wdL,cS,hd,ha,hb,esR,dJ,Lib.join_nil]
  |cons y r=>simp [p1R,p2R,p3R,p4R,p5R,p6R,wdL,cS,hd,ha,hb,esR]
 ·rw [hd] at hf;obtain rfl:=Z2 hf;have ha:=eX (na rfl);have hb:=eX (nb rfl);have hy:=BZ (ne (by decide))
  simp [p1R,p2R,p3R,p4R,p5R,p6R,wdL,cS,hd,ha,hb,hy,esR,dJ,Lib.join_nil]
 ·rw [hd] at hf;obtain rfl:=Z2 hf;have ha:=eX (na rfl);have hb:=eX (nb rfl);have hy:=BZ (ne (by decide))
  simp [p1R,p2R,p3R,p4R,p5R,p6R,wdL,cS,hd,ha,hb,hy,esR,dJ,Lib.join_nil]
 ·rw [hd] at hf;obtain rfl:=Z2 hf;have ha:=ea rfl;have hb:=eb rfl;obtain ⟨y,hy⟩:=MN (ne (by decide))
  simp [p1R,p2R,p3R,p4R,p5R,p6R,wdL,cS,hd,ha,hb,hy,esR,dJ,Lib.join_one]
 ·rw [hd] at hf;obtain rfl:=Z2 hf;have ha:=ea rfl;have hb:=eb rfl;obtain ⟨y,hy⟩:=MN (ne (by decide))
  simp [p1R,p2R,p3R,p4R,p5R,p6R,wdL,cS,hd,ha,hb,hy,esR,dJ,Lib.join_one]
theorem Bk {x:St}{f:Fm}{deep:Int}(h:M4 x f deep):f.body=decide (11≤x.d):=by
 have hf:=h.form;have h1:=h.d1;have h2:=h.d2;have hd:x.d=1∨x.d=2∨x.d=3∨x.d=4∨x.d=5∨x.d=6∨x.d=7∨x.d=8∨x.d=9∨x.d=10∨x.d=11∨x.d=12∨x.d=13∨x.d=14:=by omega
 rcases hd with hd|hd|hd|hd|hd|hd|hd|hd|hd|hd|hd|hd|hd|hd<;>rw [hd] at hf<;>obtain rfl:=Z2 hf<;>rw [hd]<;>rfl
theorem JM (s:ByteArray){A B:Prop}(ha:¬emp s→A)(hb:emp s→B):cond (!(s.toList==ByteArray.toList ⟨#[]⟩)) A B:=by
 rw [eqE]
 by_cases h:emp s
 ·rw [Z6 h];exact hb h
 ·rw [Z0 h];exact ha h
section
variable  {ω:Amb}
def P1 (ω:Amb)(l:List St):Prop:=∀(h:Hp) (v:Value) (k:Nat),StS h v l→ft h→vV (k+1) l→k≤7→(uo k l).length≤100000000→∀(X:XT),
 ae Tryz.prog ω lk [v,.string (bs (uc k))] h (fun r h'=>r=.string (bs (uo k l))∧KF h h') X
set_option maxHeartbeats 800000 in
theorem zg (x:St)(hle:stN x≤80000)(hok:Es x)(hB:P1 ω x.body)(hE:P1 ω x.els)(h:Hp)(ve vb vl:Value)(k:Nat)(he:ExS h ve x.e)(hbd:StS h vb x.body)(hel:StS h vl x.els)
  (ht:ft h) (hg:stG k x) (hd:k≤8) (hlen:(stT k x).length≤100000000) (X:XT) :
  ae Tryz.prog ω mr [.agg (stC x ve vb vl).toArray,.string (bs (uc k))] h (fun r h'=>r=.string (bs (stT k x))∧KF h h') X:=by
 refine lR ω _ _ h _ X ?_;unfold fc bm;simp only [show Value.cells (.agg (stC x ve vb vl).toArray)=(stC x ve vb vl).toArray from rfl,show List.toArray [(.string ⟨#[]⟩),(.string ⟨#[108,101,116]⟩),(.string ⟨#[115,101,116]⟩),(.string ⟨#[101,109,105,116]⟩),(.string ⟨#[99,104,97,110]⟩),(.string ⟨#[99,108,111,110,101]⟩),(.string ⟨#[115,101,110,100]⟩),(.string ⟨#[99,108,111,115,101]⟩),(.string ⟨#[97,98,97,110,100,111,110]⟩),(.string ⟨#[100,114,97,105,110]⟩),(.string ⟨#[115,112,97,119,110]⟩),(.string ⟨#[116,97,107,101]⟩),(.string ⟨#[102,111,114]⟩),(.string ⟨#[114,101,112,101,97,116]⟩),(.string ⟨#[105,102]⟩)]=wdT.toArray from rfl]
 obtain ⟨oa,ob,ot,oe,o5,o6⟩:=ib.1 hok;have oa:x.a.size≤100:=oa;have ob:x.b.size≤100:=ob;have ot:x.t.size≤100:=ot;obtain ⟨hg1,hg2,hg3⟩:=jR.1 hg;obtain ⟨f,hf⟩:=tP hg1;have hxe:=jH x;have hT:=G1 k x;have hle':=LN hf;rw [hf.fm,Qk (uc k),←hle'] at hT;have hTl:=congrArg List.length hT;simp only [Qd,cj] at hTl;have d1:=hf.d1;have d2:=hf.d2;have hb1:=ai (h:=h) (o:=.cells (stC x ve vb vl).toArray 39 (0,0))
 have kp:=ay.push (S:=fun _=>False) h (.cells (stC x ve vb vl).toArray 39 (0,0));generalize h.push (.cells (stC x ve vb vl).toArray 39 (0,0))=h1 at *;have hw2:=ai (h:=h1) (o:=.cells wdT.toArray 9 (0,0));have k1:=ay.push (S:=fun _=>False) h1 (.cells wdT.toArray 9 (0,0));generalize h1.push (.cells wdT.toArray 9 (0,0))=h2 at *;have hb2:=k1.get hb1 (by simp)
 have k02:=kp.trans k1;refine lx hb2 (j:=0) rfl ?_;obtain ⟨o,ho⟩:∃o:Nat,x.d=o:=⟨x.d.toNat,by omega⟩
 rw [ho,asI_int];refine ⟨by omega,by omega,?_⟩
 rw [Qm,Nat.mul_one];refine lx hw2 (Pd o (by omega)) ?_
 rw [←ho,asS_str,asS_str];simp only [bL,aP,Qd,cj];refine ⟨by omega,?_⟩
 refine lx hb2 (j:=2) rfl ?_;rw [asS_str];refine ⟨fun v h'=>v=.string (bs (uc k++wdL x.d++p1R x))∧h2=h',JM x.a (fun hc=>?_) (fun hc=>?_),?_⟩
 ·refine lx hb2 (j:=2) rfl ?_;rw [asS_str];have hp:p1R x=[32]++bytesOf x.a:=by rw [p1R,if_neg hc]
  have hpl:=congrArg List.length hp;simp only [Qd,aN,Qn,Qy] at hpl;simp only [lit,eO,aP,Qn,Qy];refine ⟨by omega,by omega,?_,trivial⟩
  rw [hp];simp only [←bL,jn]
 ·rw [p1R,if_pos hc,Z1];exact ⟨rfl,rfl⟩
 rintro _ _ _ ⟨rfl,rfl⟩;refine ⟨decide (x.d=1∨x.d=2),?_,fun _=>?_⟩
 ·refine lx hb2 (j:=0) rfl ?_;rw [asK_int];refine ah (fun hc=>?_) (fun hc=>?_)
  ·rw [Z6 (.inl (Ze hc))];exact ⟨rfl,trivial⟩
  ·refine lx hb2 (j:=0) rfl ?_;rw [asK_int];have:=Qa.1 hc;refine ⟨?_,trivial⟩
   congr 1
   rw [Qz];simp [this]
 refine ⟨fun v h'=>v=.string (bs (uc k++wdL x.d++p1R x++p2R x))∧h2=h',ah (fun hc=>?_) (fun hc=>?_),?_⟩
 ·have hp:p2R x=[32,61]:=by rw [p2R,if_pos (Qj hc)]
  rw [asS_str];simp only [lit,bL,aP,Qd,cj,Qn,Qy];exact ⟨by omega,by rw [hp],trivial⟩
 ·have hp:p2R x=[]:=by rw [p2R,if_neg (Qc hc)]
  rw [hp,Z1];exact ⟨rfl,rfl⟩
 rintro _ _ _ ⟨rfl,rfl⟩;refine ⟨decide (x.d=11∨x.d=12),?_,fun _=>?_⟩
 ·refine lx hb2 (j:=0) rfl ?_;rw [asK_int];refine ah (fun hc=>?_) (fun hc=>?_)
  ·rw [Z6 (.inl (Ze hc))];exact ⟨rfl,trivial⟩
  ·refine lx hb2 (j:=0) rfl ?_;rw [asK_int];have:=Qa.1 hc;refine ⟨?_,trivial⟩
   congr 1
   rw [Qz];simp [this]
 refine ⟨fun v h'=>v=.string (bs (uc k++wdL x.d++p1R x++p2R x++p3R x))∧h2=h',ah (fun hc=>?_) (fun hc=>?_),?_⟩
 ·have hp:p3R x=[32,102,114,111,109]:=by rw [p3R,if_pos (Qj hc)]
  rw [asS_str];simp only [lit,bL,aP,Qd,cj,Qn,Qy];exact ⟨by omega,by rw [hp],trivial⟩
 ·have hp:p3R x=[]:=by rw [p3R,if_neg (Qc hc)]
  rw [hp,Z1];exact ⟨rfl,rfl⟩
 rintro _ _ _ ⟨rfl,rfl⟩;refine lx hb2 (j:=3) rfl ?_;rw [asS_str];refine ⟨fun v h'=>v=.string (bs (uc k++wdL x.d++p1R x++p2R x++p3R x++p4R x))∧h2=h',JM x.b (fun hc=>?_) (fun hc=>?_),?_⟩
 ·refine lx hb2 (j:=3) rfl ?_;rw [asS_str];have hp:p4R x=[32]++bytesOf x.b:=by rw [p4R,if_neg hc]
  have hpl:=congrArg List.length hp;simp only [Qd,aN,Qn,Qy] at hpl;simp only [lit,asS_str,eO,aP,Qd,cj,Qn,Qy];refine ⟨by omega,by omega,?_,trivial⟩
  rw [hp];simp only [←bL,jn]
 ·rw [p4R,if_pos hc,Z1];exact ⟨rfl,rfl⟩
 rintro _ _ _ ⟨rfl,rfl⟩;refine lx hb2 (j:=0) rfl ?_;rw [asK_int];refine ⟨fun v h'=>v=.string (bs (uc k++wdL x.d++p1R x++p2R x++p3R x++p4R x++p5R x))∧KF h2 h',ah (fun hc=>?_) (fun hc=>?_),?_⟩
 ·have hp:p5R x=[32]++wg x.t++[32]++Lib.itoa x.n:=by rw [p5R,if_pos (Ze hc)]
  have hpl:=congrArg List.length hp;simp only [Qd,Qn,Qy] at hpl;have n0:=hf.n0;have n1:=hf.n1;refine lx hb2 (j:=4) rfl ?_;refine lx hb2 (j:=5) rfl ?_;refine ae.use (tX x.t (by omega) h2) ?_
  rintro _ _ ⟨rfl,rfl⟩;refine ⟨lx' hb2 rfl,?_⟩;rw [asS_str];simp only [lit,bL,aP,Qd,Qn,Qy];refine ⟨by omega,by omega,?_⟩
  refine ae.use (yM x.n (by omega) (by omega) _ (ht.more k02)) ?_
  rintro _ h3 ⟨rfl,k3⟩;have hib:itB x.n=bs (Lib.itoa x.n):=rfl;rw [hib];simp only [asS_str,bL,aP,Qd,Qn,Qy,cj];exact ⟨by omega,by omega,by rw [hp],k3⟩
 ·have hp:p5R x=[]:=by rw [p5R,if_neg (Qa.1 hc)]
  rw [hp,Z1];exact ⟨rfl,ay.refl _ _⟩
 rintro _ _ h3 ⟨rfl,k3⟩;have hb3:=k3.get hb2 (by simp)
 have k03:=k02.trans k3;refine lx hb3 (j:=0) rfl ?_;rw [asK_int];refine ⟨fun v h'=>v=.string (bs (uc k++wdL x.d++p1R x++p2R x++p3R x++p4R x++p5R x++p6R x))∧h3=h',ah (fun hc=>?_) (fun hc=>?_),?_⟩
 ·have hp:p6R x=[40]:=by rw [p6R,if_pos (Ze hc)]
  rw [asS_str];simp only [lit,bL,aP,Qd,cj,Qn,Qy];exact ⟨by omega,by rw [hp],trivial⟩
 ·have hp:p6R x=[]:=by rw [p6R,if_neg (Qa.1 hc)]
  rw [hp,Z1];exact ⟨rfl,rfl⟩
 rintro _ _ _ ⟨rfl,rfl⟩;generalize hpre:uc k++wdL x.d++p1R x++p2R x++p3R x++p4R x++p5R x++p6R x=pre;have hprel:=congrArg List.length hpre;simp only [Qd,cj] at hprel;have hlx:=gY x.e;refine ⟨fun o t h'=>∃j:Nat,t=.int .i64 j∧j≤x.e.length∧o=.string (bs (pre++esR x.d (x.e.take j)))∧(esR x.d (x.e.take j)).length≤(esR x.d x.e).length∧KF h3 h',fun _ t _=>match t with|.int _ j=>x.e.length - j.toNat|_=>0,
  ⟨0,rfl,by omega,by simp [esR],by simp [esR],ay.refl _ _⟩,?_⟩
 rintro _ _ _ h4 ⟨j,rfl,hj,rfl,hjl,k4⟩;have hb4:=k4.get hb3 (by simp)
 have k04:=k03.trans k4;have he4:=he.aE k04;refine lx hb4 (j:=6) rfl ?_;refine he4.sl fun _ _=>?_;rw [asK_int];refine ah (fun hc=>?_) (fun hc=>?_)
 ·have hkl:j < x.e.length:=by
   have:=Qj hc;omega
  have hx:=Q7 hkl;have hdr:=iS hx;have hmem:x.e[j]∈x.e:=Qv hkl;generalize x.e[j]=y at hx hmem hdr;have hyn:=cG hmem;have hyo:=cw oe hmem;have hyF:=nA hf.ex hmem;have hsn:=Ch x.d (x.e.take j) y;rw [←aW hx,Qp,Nat.min_eq_left hj] at hsn;have hmono:(esR x.d (x.e.take (j+1))).length≤(esR x.d x.e).length:=by
   have:∀m:List Ex,∀l:List Ex,(esR x.d l).length≤(esR x.d (l++m)).length:=by
    intro m
    induction m with
    |nil=>intro l;simp
    |cons z r ih =>
     intro l;have h1:=ih (l++[z]);rw [Qk,List.singleton_append] at h1;rw [Ch] at h1;simp only [Qd] at h1;omega
   have:=this (x.e.drop (j+1)) (x.e.take (j+1))
   rwa [Q8] at this
  have hsl:=congrArg List.length hsn;simp only [Qd] at hsl;rw [asK_int];refine ⟨fun v h'=>v=.string (bs (pre++esR x.d (x.e.take j)++(if 0 < j then [44] else [])))∧h4=h',ah (fun hc=>?_) (fun hc=>?_),?_⟩
  ·have h0:0 < j:=by
    have:=Qj hc;omega
   rw [if_pos h0] at hsl ⊢;simp only [Qn,Qy] at hsl;simp only [asS_str,lit,bL,aP,Qd,Qn,Qy];exact ⟨by omega,trivial,trivial⟩
  ·have h0:¬0 < j:=by
    have:=Qc hc;omega
   rw [if_neg h0,Z1];exact ⟨rfl,rfl⟩
  rintro _ _ _ ⟨rfl,rfl⟩;refine ⟨decide (0 < j∨x.d≠10),?_,fun _=>?_⟩
  ·rw [asK_int];refine ah (fun hc=>?_) (fun hc=>?_)
   ·have:=Qj hc;rw [Z6 (.inl (by omega))]
    exact ⟨rfl,trivial⟩
   ·have:=Qc hc;refine lx hb4 (j:=0) rfl ?_;rw [asK_int];refine ⟨?_,trivial⟩
    congr 1
    rw [Qz];simp;omega
  refine ⟨fun v h'=>v=.string (bs (pre++esR x.d (x.e.take j)++(if 0 < j then [44,32] else if x.d=10 then [] else [32])))∧h4=h',ah (fun hc=>?_) (fun hc=>?_),?_⟩
  ·have hor:=Qj hc
   by_cases h0:0 < j
   ·rw [if_pos h0] at hsl;rw [if_pos h0,if_pos h0];simp only [Qn,Qy] at hsl;simp only [asS_str,lit,bL,aP,Qd,Qn,Qy];refine ⟨by omega,?_,trivial⟩
    simp
   ·have h10:¬x.d=10:=hor.resolve_left h0;rw [if_neg h0,if_neg h10] at hsl;rw [if_neg h0,if_neg h0,if_neg h10];simp only [Qn,Qy] at hsl;simp only [asS_str,lit,bL,aP,Qd,Qn,Qy];refine ⟨by omega,?_,trivial⟩
    simp
  ·have hor:=Qc hc;have h0:¬0 < j:=fun h=>hor (.inl h);have h10:x.d=10:=Decidable.not_not.1 fun h=>hor (.inr h);rw [if_neg h0,if_neg h0,if_pos h10];exact ⟨rfl,rfl⟩
  rintro _ _ _ ⟨rfl,rfl⟩;refine lx hb4 (j:=6) rfl ?_;refine he4.rdC hx fun w hw=>?_;refine ae.use (AR _ y (Qw _) (by omega) hyo hyF h4 w 0 hw (ht.more k04) (by decide)) ?_
  rintro _ h5 ⟨rfl,k5⟩;have hbr:brk 0 (y.op,exT y)=exT y:=by
   unfold brk;rw [if_neg];unfold rk
   repeat' split
   all_goals simp
  rw [hbr];simp only [asS_str,bL,aP,Qd];rw [asK_int,i64_in (by omega) (by omega)]
  refine ⟨by omega,⟨j+1,by simp,by omega,?_,hmono,k4.trans k5⟩,by simp;omega⟩
  rw [hsn];simp only [Qk]
 have hc:=Qc hc;obtain rfl:j=x.e.length:=by omega
 rw [Qo] at hjl ⊢;refine lx hb4 (j:=0) rfl ?_;rw [asK_int];have hpe:uc k++(wdL x.d++p1R x++p2R x++p3R x++p4R x++p5R x++p6R x++esR x.d x.e)=pre++esR x.d x.e:=by
  rw [←hpre];simp only [Qk]
 rw [hpe,Bk hf] at hT;rw [Bk hf] at hTl;have htotal:=congrArg List.length hT;simp only [Qd] at htotal;refine ⟨fun v h'=>v=.string (bs (pre++esR x.d x.e++p7R x))∧h4=h',ah (fun hc=>?_) (fun hc=>?_),?_⟩
 ·have h10:x.d=10:=Ze hc;have hp:p7R x=[41]:=by rw [p7R,if_pos h10]
  rw [h10] at htotal;have htotal:=htotal;simp only [show decide ((11:Int)≤10)=false from rfl,Bool.false_eq_true,if_false,if_true,Qd,Qn,Qy] at htotal
  simp only [asS_str,lit,bL,aP,Qd,Qn,Qy];exact ⟨by rw [h10];omega,by rw [hp],trivial⟩
 ·have hp:p7R x=[]:=by rw [p7R,if_neg (Qa.1 hc)]
  rw [hp,Z1];exact ⟨rfl,rfl⟩
 rintro _ _ _ ⟨rfl,rfl⟩;refine lx hb4 (j:=0) rfl ?_;rw [asK_int];refine ah (fun hc=>?_) (fun hc=>?_)
 ·have hlt:=Qj hc;rw [Z0 (by omega),if_neg (by decide)] at hT htotal
  have hp7:p7R x=if x.d=10 then [41] else []:=rfl
  simp only [asS_str,lit,bL,aP,Qd,Qn,Qy] at htotal ⊢;rw [←hp7] at htotal;refine ⟨by omega,?_,k04⟩
  rw [hT,←hp7];simp only [Qk]
 ·have hge:=Qc hc;rw [Z6 (by omega),if_pos rfl] at hT htotal
  have hp7:p7R x=[]:=by rw [p7R,if_neg (by omega)]
  have hbo:f.body=true:=by rw [Bk hf,Z6 (by omega)]
  have hd8:=hf.dp hbo;simp only [Qd,Qn,Qy] at htotal;rw [hp7,Z1];refine lx hb4 (j:=7) rfl ?_;refine ae.use (hB h4 vb k (hbd.aE k04) (ht.more k04) hg2 (by omega) (by omega)) ?_
  rintro _ h5 ⟨rfl,k5⟩;have hb5:=k5.get hb4 (by simp)
  have k05:=k04.trans k5;simp only [asS_str,bL,aP,Qd];refine ⟨by omega,?_⟩
  refine lx hb5 (j:=8) rfl ?_;refine (hel.aE k05).sl fun _ _=>?_;refine ⟨fun v h'=>v=.string (bs (pre++esR x.d x.e++uo k x.body++(if x.els.length=0 then [] else [32,101,108,115,101]++uo k x.els)))∧KF h5 h',ah (fun hc=>?_) (fun hc=>?_),?_⟩
  ·have hne:¬x.els.length=0:=by
    have:=Qj hc;omega
   rw [if_neg hne] at htotal ⊢;simp only [Qd,Qn,Qy] at htotal;refine lx hb5 (j:=8) rfl ?_;refine ae.use (hE h5 vl k (hel.aE k05) (ht.more k05) hg3 (by omega) (by omega)) ?_
   rintro _ h6 ⟨rfl,k6⟩;simp only [asS_str,lit,bL,aP,Qd,Qn,Qy];exact ⟨by omega,by omega,trivial,k6⟩
  ·have hne:x.els.length=0:=by
    have:=Qc hc;omega
   rw [if_pos hne,Z1];exact ⟨rfl,ay.refl _ _⟩
  ·rintro _ _ h6 ⟨rfl,k6⟩;simp only [asS_str,lit,bL,aP,Qd,Qn,Qy];refine ⟨by omega,?_,k05.trans k6⟩
   rw [hT];simp only [Qk]
theorem IX (k:Nat):uc k++[9]=uc (k+1):=by
 unfold uc;rw [←List.replicate_succ']
theorem xY:∀(N:Nat) (l:List St),cq l < N→cq l≤80000→jk l→P1 ω l:=by
 intro N
 induction N with
 |zero=>exact fun l hN=>absurd hN (Nat.not_lt_zero _)
 |succ N ih =>
  intro l hN hle hok h v k hs ht hg hd hlen X;refine kM ω _ _ h _ X ?_;unfold eG;have hll:=qw l;have hbl:(uo k l).length=3+(tC (k+1) l).length+k+1:=by
   unfold uo;simp only [Qd,cj,Qn,Qy]
  refine ⟨fun o t h'=>∃j:Nat,t=.int .i64 j∧j≤l.length∧o=.string (bs ([32,123,10]++tC (k+1) (l.take j)))∧KF h h',fun _ t _=>match t with|.int _ k=>l.length - k.toNat|_=>0,
   ⟨0,rfl,by omega,rfl,ay.refl _ _⟩,?_⟩
  rintro _ _ _ h3 ⟨j,rfl,hj,rfl,k3⟩;have hs3:=hs.aE k3;refine hs3.sl fun _ _=>?_;rw [asK_int];refine ah (fun hc=>?_) (fun hc=>?_)
  ·have hkl:j < l.length:=by
    have:=Qj hc;omega
   have hx:=Q7 hkl;have hdr:=iS hx;have hmem:l[j]∈l:=Qv hkl;generalize l[j]=x at hx hmem hdr;have hxn:=gW hmem;have hxe:=jH x;have hxo:=pG hok hmem;obtain ⟨_,_,_,_,hob,hoe⟩:=ib.1 hxo;have hsp:=um (k+1) (l.take j) (l.drop j);rw [Q8,hdr] at hsp;have hsp:=congrArg List.length hsp;simp only [tC,Qd] at hsp;have hgx:stG ((k+1:Nat):Int) x:=sa hg hmem;refine hs3.rdC hx fun ve vb vl he hbd hel=>?_;rw [asS_str,lit]
   simp only [bL,aP,Qd,cj,Qn,Qy];refine ⟨by omega,?_⟩
   rw [IX];refine ae.use (zg x (by omega) hxo (ih x.body (by omega) (by omega) hob) (ih x.els (by omega) (by omega) hoe) h3 ve vb vl (k+1) he hbd hel (ht.more k3) hgx (by omega) (by omega)) ?_
   rintro _ h5 ⟨rfl,k5⟩;simp only [asS_str,asK_int,bL,aP,Qd,Qn,Qy];rw [i64_in (by omega) (by omega)]
   refine ⟨by omega,⟨j+1,by simp,by omega,?_,k3.trans k5⟩,by simp;omega⟩
   rw [aW hx,AN];simp only [Qk]
  ·have hc:=Qc hc;obtain rfl:j=l.length:=by omega
   rw [Qo];simp only [asS_str,lit,bL,aP,Qd,cj,Qn,Qy];exact ⟨by omega,by omega,rfl,k3⟩
end
theorem AM (l:List (ByteArray×ByteArray))(q:ByteArray×ByteArray):vF (l++[q])=vF l++(if 0 < l.length then [44,32] else [])++prT q:=by
 unfold vF;rw [List.map_append,List.map_singleton,zp,Z5];cases l with
 |nil=>simp [Lib.join_nil]
 |cons a r=>simp
section
variable  {ω:Amb}
set_option maxHeartbeats 400000 in
theorem H5 (p:List Sg)(hsm:Small p)(hok:ON p)(v:Value)(h:Hp)(hp:PgS h v p)(ht:ft h)(X:XT) :
  ae Tryz.prog ω qX [v] h (fun r h'=>r=.string (bs (pgT p))∧KF h h') X:=by
 obtain ⟨w0,rfl,hs⟩:=hp;refine qS ω _ h _ X ?_;unfold je;simp only [show Value.cells (.agg #[w0])=[w0].toArray from rfl]
 have hlen:=hok.len;have htl:=Bq p fun s hs=>⟨hsm.nm s hs,hok.ok s hs⟩;have htot:=hsm.tot;have hb0:=ai (h:=h) (o:=.cells [w0].toArray 24 (0,0));have k0:=ay.push (S:=fun _=>False) h (.cells [w0].toArray 24 (0,0));generalize h.push (.cells [w0].toArray 24 (0,0))=h1 at *;refine ⟨fun o t h'=>∃k:Nat,t=.int .i64 k∧k≤p.length∧o=.string (bs (pgT (p.take k)))∧KF h1 h',fun _ t _=>match t with|.int _ k=>p.length - k.toNat|_=>0,
  ⟨0,rfl,by omega,rfl,ay.refl _ _⟩,?_⟩
 rintro _ _ _ h3 ⟨k,rfl,hk,rfl,k3⟩;have hb3:=k3.get hb0 (by simp)
 have k03:=k0.trans k3;have hs3:=hs.aE k03;refine lx hb3 (j:=0) rfl ?_;refine hs3.sl fun _ _=>?_;rw [asK_int];refine ah (fun hc=>?_) (fun hc=>?_)
 rotate_left
 ·have hc:=Qc hc;obtain rfl:k=p.length:=by omega
  rw [Qo];exact ⟨rfl,k03⟩
 have hkl:k < p.length:=by
  have:=Qj hc;omega
 have hx:=Q7 hkl;have hdr:=iS hx;have hmem:p[k]∈p:=Qv hkl;generalize p[k]=x at hx hmem hdr;have hxok:=hok.ok x hmem;obtain ⟨hnm,hpl,hpn,hbo⟩:=hsm.nm x hmem;have hnm:x.nm.size≤100:=hnm;have hxb:cq x.body≤20000:=Nat.le_trans (vm hmem) hsm.tot;have hpp:=yE x.ps hpn;have hpl6:=hxok.pl;have hsp:pgT p=pgT (p.take k)++(sgT x++pgT (p.drop (k+1))):=by
  conv=>lhs;rw [←Q8 k p,hdr]
  unfold pgT;rw [Qb,Ql]
 have hsp:=congrArg List.length hsp;simp only [Qd] at hsp;have hsl:(sgT x).length=8+x.nm.size+(vF x.ps).length+(uo 0 x.body).length+1:=by
  unfold sgT;simp only [Qd,aN,Qn,Qy];omega
 refine lx hb3 (j:=0) rfl ?_;refine hs3.rdC hx fun vp vb hps hbd=>?_;refine ⟨rfl,fy (cB hps.2) hbd.ca,aA (cs:=sgC x vp vb) rfl ?_⟩;have hb4:=ai (h:=h3) (o:=.cells (sgC x vp vb).toArray 41 (0,0));have k4:=ay.push (S:=fun _=>False) h3 (.cells (sgC x vp vb).toArray 41 (0,0));generalize h3.push (.cells (sgC x vp vb).toArray 41 (0,0))=h4 at *;have hps4:=hps.1.aE k4;have hbd4:=hbd.aE k4;have k04:=k03.trans k4
 refine lx hb4 (j:=0) rfl ?_;rw [asS_str];simp only [lit,asS_str,eO,aP,Qn,Qy];refine ⟨by omega,by omega,by omega,?_⟩
 refine ⟨fun o t h'=>∃j:Nat,t=.int .i64 j∧j≤x.ps.length∧o=.string (bs (pgT (p.take k)++([115,116,97,103,101,32]++bytesOf x.nm++[40])++vF (x.ps.take j)))∧(vF (x.ps.take j)).length≤(vF x.ps).length∧KF h4 h',fun _ t _=>match t with|.int _ j=>x.ps.length - j.toNat|_=>0,
  ⟨0,rfl,by omega,?_,by simp [vF,Lib.join_nil],ay.refl _ _⟩,?_⟩
 ·rw [show vF (x.ps.take 0)=[] from rfl,Z1]
  simp only [←bL,jn]
 rintro _ _ _ h5 ⟨j,rfl,hj,rfl,hjl,k5⟩;have hb5:=k5.get hb4 (by simp)
 have k05:=k04.trans k5;refine lx hb5 (j:=2) rfl ?_;refine bP.sl (hps4.aE k5) fun _ _=>?_;rw [asK_int];refine ah (fun hc=>?_) (fun hc=>?_)
 ·have hjl':j < x.ps.length:=by
   have:=Qj hc;omega
  have hy:=Q7 hjl';have hqm:x.ps[j]∈x.ps:=Qv hjl';generalize x.ps[j]=q at hy hqm;obtain ⟨hq1,hq2⟩:=hpn q hqm;have hq1:q.1.size≤100:=hq1;have hq2:q.2.size≤100:=hq2;have hkl:=sC q.2;have hsn:=AM (x.ps.take j) q;rw [←aW hy,Qp,Nat.min_eq_left hj] at hsn;have hmono:(vF (x.ps.take (j+1))).length≤(vF x.ps).length:=by
   have:∀m:List (ByteArray×ByteArray),∀l:List (ByteArray×ByteArray),(vF l).length≤(vF (l++m)).length:=by
    intro m
    induction m with
    |nil=>intro l;simp
    |cons z r ih =>
     intro l;have h1:=ih (l++[z]);rw [Qk,List.singleton_append] at h1;rw [AM] at h1;simp only [Qd] at h1;omega
   have:=this (x.ps.drop (j+1)) (x.ps.take (j+1))
   rwa [Q8] at this
  have hsl':=congrArg List.length hsn;simp only [Qd] at hsl';have hprl:(prT q).length=q.1.size+1+(wg q.2).length:=by
   unfold prT;simp only [Qd,aN,Qn,Qy]
  rw [asK_int];refine ⟨fun v h'=>v=.string (bs (pgT (p.take k)++([115,116,97,103,101,32]++bytesOf x.nm++[40])++vF (x.ps.take j)++(if 0 < j then [44,32] else [])))∧h5=h',ah (fun hc=>?_) (fun hc=>?_),?_⟩
  ·have h0:0 < j:=by
    have:=Qj hc;omega
   rw [if_pos h0] at hsl' ⊢;simp only [Qn,Qy] at hsl';simp only [asS_str,bL,aP,Qd,Qn,Qy,aN];exact ⟨by omega,trivial,trivial⟩
  ·have h0:¬0 < j:=by
    have:=Qc hc;omega
   rw [if_neg h0,Z1];exact ⟨rfl,rfl⟩
  rintro _ _ _ ⟨rfl,rfl⟩;refine lx hb5 (j:=2) rfl ?_;refine bP.rdTa (f:=pf) (hps4.aE k5) eA hy (o:=0) rfl fun a0 ha0=>?_;rw [asS_str];refine ⟨by omega,?_⟩
  refine lx hb5 (j:=2) rfl ?_;refine bP.rdT (f:=pf) (hps4.aE k5) eA hy (o:=1) rfl ?_;refine ae.use (tX q.2 (by omega) h5) ?_
  rintro _ _ ⟨rfl,rfl⟩;refine ⟨ha0,lx' hb5 rfl,?_⟩;simp only [asS_str,asK_int,aP,Qd,Qn,Qy,aN];rw [i64_in (by omega) (by omega)]
  refine ⟨by omega,by omega,⟨j+1,by simp,by omega,?_,hmono,k5⟩,by simp;omega⟩
  rw [hsn];unfold prT;refine congrArg Value.string (bW ?_);simp only [di,aL,Qk]
 ·have hc:=Qc hc;obtain rfl:j=x.ps.length:=by omega
  rw [Qo];refine lx hb5 (j:=3) rfl ?_;refine ae.use (xY _ x.body (Qw _) (by omega) hbo h5 vb 0 (hbd4.aE k5) (ht.more k05) (by exact hxok.body) (by omega) (by omega)) ?_
  rintro _ h6 ⟨rfl,k6⟩;simp only [asS_str,asK_int,bL,aP,Qd,Qn,Qy,aN];rw [i64_in (by omega) (by omega)]
  refine ⟨by omega,by omega,by omega,⟨k+1,by simp,by omega,?_,((k3.trans k4).trans k5).trans k6⟩,by simp;omega⟩
  have he:pgT (p.take (k+1))=pgT (p.take k)++sgT x:=by
   rw [aW hx];unfold pgT;rw [Qb];simp
  rw [he];unfold sgT;simp only [Qk]
end
section
variable  {ω:Amb}
theorem Dx (p:List Sg)(hsm:Small p)(v:Value)(h:Hp)(hp:PgS h v p)(ht:ft h)(X:XT) :
  ae Tryz.prog ω j2 [v] h (fun r h'=>r=.agg (flt (dF p).1 (dF p).2).toArray∧KF h h') X:=by
 obtain ⟨w0,rfl,hs⟩:=hp;refine jK ω _ h _ X ?_;unfold dR cb bb;simp only [show Value.cells (.agg #[w0])=[w0].toArray from rfl]
 have hb0:=ai (h:=h) (o:=.cells [w0].toArray 24 (0,0));have k0:=ay.push (S:=fun _=>False) h (.cells [w0].toArray 24 (0,0));have z0:(h.push (.cells [w0].toArray 24 (0,0))).size=h.size+1:=by simp
 generalize h.push (.cells [w0].toArray 24 (0,0))=h1 at *;have hb1:=ai (h:=h1) (o:=.cells (flt 0 0).toArray 28 (0,0));have k1:=ay.push (S:=fun _=>False) h1 (.cells (flt 0 0).toArray 28 (0,0));simp only [show (Obj.cells #[(.int .i64 0),(.int .i64 0)] 28 (0,0))=Obj.cells (flt 0 0).toArray 28 (0,0) from rfl]
 generalize h1.push (.cells (flt 0 0).toArray 28 (0,0))=h2 at *;have hb0:=k1.get hb0 (by simp)
 have k02:=k0.trans k1;have hL:h.size≤h1.size:=by omega
 refine ⟨_,aq hb0 rfl,?_⟩;refine ae.use (xG p hsm (.agg #[w0]) h2 ⟨w0,rfl,hs.aE k02⟩ (ht.more k02)) ?_;rintro _ h3 ⟨rfl,k3⟩;have hb03:=k3.get hb0 (by simp)
 have hb13:=k3.get hb1 (by simp)
 have k03:=k02.trans k3;rw [asA_agg];refine ⟨rfl,bq _ _,aA (cs:=flt (kd (bX p)).1 (kd (bX p)).2) rfl ?_⟩;have hb4:=ai (h:=h3) (o:=.cells (flt (kd (bX p)).1 (kd (bX p)).2).toArray 28 (0,0));have k4:=ay.push (S:=fun _=>False) h3 (.cells (flt (kd (bX p)).1 (kd (bX p)).2).toArray 28 (0,0));generalize h3.push (.cells (flt (kd (bX p)).1 (kd (bX p)).2).toArray 28 (0,0))=h4 at *;have hb04:=k4.get hb03 (by simp)
 have hb14:=k4.get hb13 (by simp)
 have k04:=k03.trans k4;refine ⟨fun v h'=>v=.bool (decide ((kd (bX p)).1=0∧12000 < (pgT p).length))∧KF h4 h',?_,?_⟩
 ·refine lx hb4 (j:=0) rfl ?_;rw [asK_int];refine ah (fun hc=>?_) (fun hc=>?_)
  ·have h0:(kd (bX p)).1=0:=Ze hc;refine ⟨_,aq hb04 rfl,?_⟩;refine ae.use (H5 p hsm (vu h0).1 (.agg #[w0]) h4 ⟨w0,rfl,hs.aE k04⟩ (ht.more k04)) ?_;rintro _ h5 ⟨rfl,k5⟩;rw [asS_str,aP];refine ⟨?_,k5⟩
   congr 1
   rw [Qz];simp [h0];omega
  ·have h0:¬(kd (bX p)).1=0:=Qa.1 hc;exact ⟨by rw [Z0 fun h=>h0 h.1],ay.refl _ _⟩
 rintro _ _ h5 ⟨rfl,k5⟩;have hb5:=k5.get hb4 (by simp)
 have hb15:=k5.get hb14 (by simp)
 have k05:=k04.trans k5;have hR:dF p=if (kd (bX p)).1=0∧12000 < (pgT p).length then (1,-1) else kd (bX p):=by
  unfold dF
  by_cases h0:(kd (bX p)).1=0
  ·rw [if_pos h0,(vu h0).2.1]
   by_cases h1:12000 < (pgT p).length<;>simp [h1]
  ·rw [if_neg h0,if_neg fun h=>h0 h.1]
 rw [asB_bool];refine ah (fun hc=>?_) (fun hc=>?_)
 ·rw [hR,if_pos (Qj hc)];exact OV hb15 rfl 1 (-1) (R:=fun r h'=>r=Value.agg (flt (1,(-1:Int)).1 (1,-1).2).toArray∧KF h h') (fun h' kk=>⟨rfl,BP k05 hL kk⟩) X
 ·rw [hR,if_neg (Qc hc)];exact ⟨_,aq hb5 rfl,rfl,bq _ _,xf hb15 rfl rfl fun h' kk _=>⟨rfl,BP k05 hL kk⟩⟩
end
section
variable  {ω:Amb}
theorem GY:∀(N:Nat) (l:List Ex),cZ l < N→∀(m:List Ex) (h:Hp) (va vb:Value),ExS h va l→ExS h vb m→∀(X:XT),
  ae Tryz.prog ω lp [va,vb] h (fun r h'=>(∃b:Bool,r=.bool b∧(b=true↔l=m))∧KF h h') X:=by
 intro N
 induction N with
 |zero=>exact fun l hN=>absurd hN (Nat.not_lt_zero _)
 |succ N ih =>
  intro l hN m h va vb ha hb X;refine ln ω _ _ h _ X ?_;unfold ez;have hmax:=ha.max;refine ha.sl fun _ _=>?_;refine hb.sl fun _ _=>?_;refine ah (fun hc=>?_) (fun hc=>?_)
  ·have hne:=Zd.1 hc;refine ⟨⟨false,rfl,by simp;exact fun h=>hne (by rw [h])⟩,ay.refl _ _⟩
  have hlen:l.length=m.length:=by
   have:(l.length:Int)=m.length:=by simpa using hc
   omega
  refine ⟨fun t h'=>∃k:Nat,t=.int .i64 k∧k≤l.length∧l.take k=m.take k∧KF h h',fun t _=>match t with|.int _ k=>l.length - k.toNat|_=>0,
   ⟨0,rfl,by omega,rfl,ay.refl _ _⟩,?_⟩
  rintro _ _ h3 ⟨k,rfl,hk,heq,k3⟩;have ha3:=ha.aE k3;have hb3:=hb.aE k3;refine ha3.sl fun _ _=>?_;rw [asK_int];refine ah (fun hc=>?_) (fun hc=>?_)
  rotate_left
  ·have hc:=Qc hc;obtain rfl:k=l.length:=by omega
   rw [Qo,List.take_of_length_le (by omega)] at heq
   exact ⟨⟨true,rfl,by simp [heq]⟩,k3⟩
  have hkl:k < l.length:=by
   have:=Qj hc;omega
  have hx:=Q7 hkl;have hy:=Q7 (show k < m.length by omega)
  have hmem:l[k]∈l:=Qv hkl;generalize l[k]=x at hx hmem;generalize m[k]=y at hy;have hxn:=cG hmem;have hxe:=gF x;refine ⟨fun v h'=>(∃b:Bool,v=.bool b∧(b=true↔x≠y))∧KF h3 h',?_,?_⟩
  ·refine ha3.rdO hx (o:=0) fun _ _=>⟨_,rfl,?_⟩;refine hb3.rdO hy (o:=0) fun _ _=>⟨_,rfl,?_⟩;rw [asK_int,asK_int];refine ah (fun hc=>?_) (fun hc=>?_)
   ·have:=Zd.1 hc;exact ⟨⟨true,rfl,by simp;exact fun h=>this (by rw [h])⟩,ay.refl _ _⟩
   have e1:x.op=y.op:=by simpa using hc
   refine ha3.rdO hx (o:=1) fun _ _=>⟨_,rfl,?_⟩;refine hb3.rdO hy (o:=1) fun _ _=>⟨_,rfl,?_⟩;rw [asS_str,asS_str,eqB];refine ah (fun hc=>?_) (fun hc=>?_)
   ·have:x.nm≠y.nm:=by simpa using hc
    exact ⟨⟨true,rfl,by simp;exact fun h=>this (by rw [h])⟩,ay.refl _ _⟩
   have e2:x.nm=y.nm:=by simpa using hc
   refine ha3.rdO hx (o:=2) fun _ _=>⟨_,rfl,?_⟩;refine hb3.rdO hy (o:=2) fun _ _=>⟨_,rfl,?_⟩;rw [asK_int,asK_int];refine ah (fun hc=>?_) (fun hc=>?_)
   ·have:=Zd.1 hc;exact ⟨⟨true,rfl,by simp;exact fun h=>this (by rw [h])⟩,ay.refl _ _⟩
   have e3:x.n=y.n:=by simpa using hc
   refine ha3.rdO hx (o:=3) fun wa hwa=>⟨_,rfl,?_⟩;refine hb3.rdO hy (o:=3) fun wb hwb=>⟨_,rfl,?_⟩;refine ae.use (ih x.l (by omega) y.l h3 wa wb hwa hwb) ?_
   rintro _ h4 ⟨⟨b,rfl,hbb⟩,k4⟩;rw [asB_bool];refine ⟨⟨!b,rfl,?_⟩,k4⟩;rw [Ne,FM,Bool.not_eq_true',←Bool.not_eq_true,hbb];simp [e1,e2,e3]
  ·rintro _ _ h4 ⟨⟨b,rfl,hbb⟩,k4⟩;rw [asB_bool];refine ah (fun hc=>?_) (fun hc=>?_)
   ·exact ⟨⟨false,rfl,by simp;exact xU hx hy (hbb.1 hc)⟩,k3.trans k4⟩
   ·have he:x=y:=Classical.byContradiction fun hn=>by
     rw [hbb.2 hn] at hc;cases hc
    rw [asK_int,i64_in (by omega) (by omega)]
    exact ⟨⟨k+1,by simp,by omega,by rw [aW hx,aW hy,heq,he],k3.trans k4⟩,by simp;omega⟩
end
theorem Ob {h0 h:Hp}{v:Value}{l:List St}(hs:StS h0 v l)(k:KF h0 h){i:Nat}{x:St}(hx:l[i]?=some x){K:Addr→List Value→Prop}
  (hk:∀a ve vb vl,ExS h0 ve x.e→StS h0 vb x.body→StS h0 vl x.els→ak h (Addr.add a (Int.toNat (i:Int)*9)) 9 (stC x ve vb vl)→K a (stC x ve vb vl)) :
  aO v fun a l _=>0≤(i:Int)∧(i:Int) < (l:Int)∧∃C,ak h (Addr.add a (Int.toNat (i:Int)*9)) 9 C∧K a C:=by
 obtain ⟨us,ve,vb,vl,h1,h2,h3,h4,h5⟩:=hs.at_ hx;have h1':=h1.aE k;have hi:=(Q6.1 hx).1;rcases h1'.2 with ⟨h0',_⟩|⟨b,o,cap,rfl,hc⟩
 ·omega
 ·rw [asSl1_sl];have hcc:ak h (Addr.add ⟨b,o,none⟩ (Int.toNat (i:Int)*9)) 9 (stC x ve vb vl):=by
   refine ⟨rfl,fun j u hu=>?_⟩;rw [aT,aT,Qm,Nat.add_assoc];rw [←h2,Qh] at hu
   split at hu
   ·rw [Qi] at hu;exact hc _ u hu
   ·cases hu
  exact ⟨by omega,by omega,_,hcc,hk _ ve vb vl h3 h4 h5 hcc⟩
def Nb (ω:Amb)(bO i_8:Value)(h10:Hp)(R:RT)(X:XT)(I6:RT)(μ7:Value→Hp→Nat)(A B:Addr)(h26:Hp):Prop :=
 ∃β27:Bool,
 (∃v29,af h26 (Addr.add A 0)=some v29 ∧
 ∃v30,af h26 (Addr.add B 0)=some v30 ∧
 asK .i64 v29 fun n31=>asK .i64 v30 fun n32=>cond (n31 !=(n32:Int))
 (((.bool true):Value)=.bool β27∧h26=h26)
 (∃v33,af h26 (Addr.add A 2)=some v33 ∧
 ∃v34,af h26 (Addr.add B 2)=some v34 ∧
 asS v33 fun s35=>asS v34 fun s36=>cond (!(s35.toList==s36.toList))
 (((.bool true):Value)=.bool β27∧h26=h26)
 (∃v37,af h26 (Addr.add A 3)=some v37 ∧
 ∃v38,af h26 (Addr.add B 3)=some v38 ∧
 asS v37 fun s39=>asS v38 fun s40=>cond (!(s39.toList==s40.toList))
 (((.bool true):Value)=.bool β27∧h26=h26)
 (∃v41,af h26 (Addr.add A 4)=some v41 ∧
 ∃v42,af h26 (Addr.add B 4)=some v42 ∧
 asS v41 fun s43=>asS v42 fun s44=>cond (!(s43.toList==s44.toList))
 (((.bool true):Value)=.bool β27∧h26=h26)
 (∃v45,af h26 (Addr.add A 5)=some v45 ∧
 ∃v46,af h26 (Addr.add B 5)=some v46 ∧
 asK .i64 v45 fun n47=>asK .i64 v46 fun n48=>cond (n47 !=(n48:Int))
 (((.bool true):Value)=.bool β27∧h26=h26)
 (asB bO fun b49=>cond b49
 (∃v50,af h26 (Addr.add A 1)=some v50 ∧
 ∃v51,af h26 (Addr.add B 1)=some v51 ∧
 asK .i64 v50 fun n52=>asK .i64 v51 fun n53=>((.bool (n52 !=(n53:Int))):Value)=.bool β27∧h26=h26)
 (((.bool false):Value)=.bool β27∧h26=h26))))))) ∧
 ∀d28:Nat→Value,
 cond β27
 (R (.bool false) h26)
 (∃J54:RT,
 (∃v58,af h26 (Addr.add A 6)=some v58 ∧
 ∃v59,af h26 (Addr.add B 6)=some v59 ∧
 ae Tryz.prog ω 74 [v58,v59] h26 (fun r60 h61 =>
 asB r60 fun b62=>cond (!b62)
 (J54 (.bool true) h61)
 (∃v63,af h61 (Addr.add A 7)=some v63 ∧
 ∃v64,af h61 (Addr.add B 7)=some v64 ∧
 ae Tryz.prog ω 43 [v63,v64,bO] h61 (fun r65 h66 =>
 asB r65 fun b67=>cond (!b67)
 (J54 (.bool true) h66)
 (∃v68,af h66 (Addr.add A 8)=some v68 ∧
 ∃v69,af h66 (Addr.add B 8)=some v69 ∧
 ae Tryz.prog ω 43 [v68,v69,bO] h66 (fun r70 h71 =>
 asB r70 fun b72=>J54 (.bool (!b72)) h71) X)) X)) X) ∧
 ∀AJ (d56:Nat→Value) (h57:Hp),J54 AJ h57 →
 asB AJ fun b73=>cond b73
 (R (.bool false) h57)
 (asK .i64 i_8 fun n74=>I6 (.int .i64 (IntKind.wrap .i64 (n74+1))) h57∧μ7 (.int .i64 (IntKind.wrap .i64 (n74+1))) h57 < μ7 i_8 h10))
section
variable  {ω:Amb}
def zU (ω:Amb)(pl:Bool)(l:List St):Prop:=∀(m:List St) (h:Hp) (va vb:Value),StS h va l→StS h vb m→∀(X:XT),
 ae Tryz.prog ω eL [va,vb,.bool pl] h (fun r h'=>(∃b:Bool,r=.bool b∧(b=true↔er pl l=er pl m))∧KF h h') X
theorem OK (pl:Bool)(x y:St)(hB:zU ω pl x.body)(hE:zU ω pl x.els)(hh h10 h26:Hp)(LA LB:Nat)(ve vb vl we wb wl:Value)
  (hA:h26[LA]?=some (.cells (stC x ve vb vl).toArray 39 (0,0))) (hBk:h26[LB]?=some (.cells (stC y we wb wl).toArray 39 (0,0)))
  (a1:ExS h26 ve x.e) (a2:StS h26 vb x.body) (a3:StS h26 vl x.els) (b1:ExS h26 we y.e) (b2:StS h26 wb y.body) (b3:StS h26 wl y.els) (kh:KF hh h26)
  {R:RT} {X:XT} {I6:RT} {μ7:Value→Hp→Nat} (k:Nat) (hk0:(k:Int)+1≤9223372036854775807)
  (hne:∀h',KF hh h'→stZ pl x≠stZ pl y→R (.bool false) h') (heq:∀h',KF hh h'→stZ pl x=stZ pl y→I6 (.int .i64 ((k:Int)+1)) h'∧μ7 (.int .i64 ((k:Int)+1)) h' < μ7 (.int .i64 k) h10) :
  Nb ω (.bool pl) (.int .i64 k) h10 R X I6 μ7 ⟨LA,0,none⟩ ⟨LB,0,none⟩ h26:=by
 unfold Nb;refine ⟨!decide (x.d=y.d∧x.a=y.a∧x.b=y.b∧x.t=y.t∧x.n=y.n∧(pl=true→x.at_=y.at_)),?_,fun _=>ah (fun hc=>?_) (fun hc=>?_)⟩
 ·refine lx hA (j:=0) rfl ?_;refine lx hBk (j:=0) rfl ?_;rw [asK_int,asK_int];refine ah (fun hc=>?_) (fun hc=>?_)
  ·have:=Zd.1 hc;rw [Z0 (fun h=>this h.1)];exact ⟨rfl,rfl⟩
  have e1:x.d=y.d:=by simpa using hc
  refine lx hA (j:=2) rfl ?_;refine lx hBk (j:=2) rfl ?_;rw [asS_str,asS_str,eqB];refine ah (fun hc=>?_) (fun hc=>?_)
  ·have:x.a≠y.a:=by simpa using hc
   rw [Z0 (fun h=>this h.2.1)];exact ⟨rfl,rfl⟩
  have e2:x.a=y.a:=by simpa using hc
  refine lx hA (j:=3) rfl ?_;refine lx hBk (j:=3) rfl ?_;rw [asS_str,asS_str,eqB];refine ah (fun hc=>?_) (fun hc=>?_)
  ·have:x.b≠y.b:=by simpa using hc
   rw [Z0 (fun h=>this h.2.2.1)];exact ⟨rfl,rfl⟩
  have e3:x.b=y.b:=by simpa using hc
  refine lx hA (j:=4) rfl ?_;refine lx hBk (j:=4) rfl ?_;rw [asS_str,asS_str,eqB];refine ah (fun hc=>?_) (fun hc=>?_)
  ·have:x.t≠y.t:=by simpa using hc
   rw [Z0 (fun h=>this h.2.2.2.1)];exact ⟨rfl,rfl⟩
  have e4:x.t=y.t:=by simpa using hc
  refine lx hA (j:=5) rfl ?_;refine lx hBk (j:=5) rfl ?_;rw [asK_int,asK_int];refine ah (fun hc=>?_) (fun hc=>?_)
  ·have:=Zd.1 hc;rw [Z0 (fun h=>this h.2.2.2.2.1)];exact ⟨rfl,rfl⟩
  have e5:x.n=y.n:=by simpa using hc
  rw [asB_bool];refine ah (fun hc=>?_) (fun hc=>?_)
  ·refine lx hA (j:=1) rfl ?_;refine lx hBk (j:=1) rfl ?_;rw [asK_int,asK_int];refine ⟨?_,rfl⟩
   congr 1
   rw [Qz];simp [e1,e2,e3,e4,e5,hc]
  ·refine ⟨?_,rfl⟩
   congr 1
   rw [Qz];simp [e1,e2,e3,e4,e5,hc]
 ·refine hne _ kh fun h=>(show ¬(x.d=y.d∧x.a=y.a∧x.b=y.b∧x.t=y.t∧x.n=y.n∧(pl=true→x.at_=y.at_)) from by rw [Bool.not_eq_true'] at hc;exact Qc hc) ?_
  obtain ⟨c1,c2,c3,c4,c5,c6,_⟩:=uz.1 h;exact ⟨c1,c2,c3,c4,c5,c6⟩
 have hh1:x.d=y.d∧x.a=y.a∧x.b=y.b∧x.t=y.t∧x.n=y.n∧(pl=true→x.at_=y.at_):=by simpa using hc
 refine ⟨fun v h'=>(∃b:Bool,v=.bool b∧(b=true↔stZ pl x≠stZ pl y))∧KF h26 h',?_,?_⟩
 ·refine lx hA (j:=6) rfl ?_;refine lx hBk (j:=6) rfl ?_;refine ae.use (GY _ x.e (Qw _) y.e h26 ve we a1 b1) ?_;rintro _ h27 ⟨⟨c,rfl,hc1⟩,k27⟩;have hA27:=k27.get hA (by simp)
  have hB27:=k27.get hBk (by simp)
  rw [asB_bool];refine ah (fun hc=>?_) (fun hc=>?_)
  ·have:¬x.e=y.e:=fun h=>by
    rw [hc1.2 h] at hc;cases hc
   exact ⟨⟨true,rfl,by simp;exact fun h=>this (uz.1 h).2.2.2.2.2.2.1⟩,k27⟩
  have e7:x.e=y.e:=hc1.1 (by simpa using hc)
  refine lx hA27 (j:=7) rfl ?_;refine lx hB27 (j:=7) rfl ?_;refine ae.use (hB y.body h27 vb wb (a2.aE k27) (b2.aE k27)) ?_;rintro _ h28 ⟨⟨c,rfl,hc2⟩,k28⟩;have hA28:=k28.get hA27 (by simp)
  have hB28:=k28.get hB27 (by simp)
  rw [asB_bool];refine ah (fun hc=>?_) (fun hc=>?_)
  ·have:¬er pl x.body=er pl y.body:=fun h=>by
    rw [hc2.2 h] at hc;cases hc
   exact ⟨⟨true,rfl,by simp;exact fun h=>this (uz.1 h).2.2.2.2.2.2.2.1⟩,k27.trans k28⟩
  have e8:=hc2.1 (by simpa using hc)
  refine lx hA28 (j:=8) rfl ?_;refine lx hB28 (j:=8) rfl ?_;refine ae.use (hE y.els h28 vl wl (a3.aE (k27.trans k28)) (b3.aE (k27.trans k28))) ?_;rintro _ h29 ⟨⟨c,rfl,hc3⟩,k29⟩;rw [asB_bool];refine ⟨⟨!c,rfl,?_⟩,(k27.trans k28).trans k29⟩
  constructor
  ·intro h hall;have:c=true:=hc3.2 (uz.1 hall).2.2.2.2.2.2.2.2;rw [this] at h;cases h
  ·intro hn;cases c with
   |false=>rfl
   |true=>exact absurd (uz.2 ⟨hh1.1,hh1.2.1,hh1.2.2.1,hh1.2.2.2.1,hh1.2.2.2.2.1,hh1.2.2.2.2.2,e7,e8,hc3.1 rfl⟩) hn
 ·rintro _ _ h27 ⟨⟨c,rfl,hcc⟩,k27⟩;rw [asB_bool];refine ah (fun hc=>?_) (fun hc=>?_)
  ·exact hne _ (kh.trans k27) (hcc.1 hc)
  ·have he:stZ pl x=stZ pl y:=Classical.byContradiction fun hn=>by
    rw [hcc.2 hn] at hc;cases hc
   rw [asK_int,i64_in (by omega) (by omega)]
   exact heq _ (kh.trans k27) he
end
theorem Hv {h:Hp}{z:Array Value}{T:TypeId}:(Array.push (h.push (.cells z T (0,0))) (.cells z T (0,0)))[h.size]?=some (.cells z T (0,0))∧(Array.push (h.push (.cells z T (0,0))) (.cells z T (0,0)))[(h.push (.cells z T (0,0))).size]?=some (.cells z T (0,0))∧(h.push (.cells z T (0,0))).size=h.size+1 :=
 ⟨jQ ai,ai,by simp⟩
theorem PM {h:Hp}(o o':Obj):KF h (Array.push (h.push o) o'):=(ay.push (S:=fun _=>False) h o).trans (ay.push _ o')
theorem AK {h:Hp}{L:Nat}{z:Array Value}{T:TypeId}{cs:List Value}{K:Hp→Prop}(hz:h[L]?=some (.cells z T (0,0)))(hc:cs.length=z.size)
  (hk:∀h',ay (fun k=>k=L) h h'→h'[L]?=some (.cells cs.toArray T (0,0))→K h'):az h ⟨L,0,none⟩ cs K:=by
 refine bh (o:=0) hz (by omega) ?_
 rw [cp hc];exact hk _ (ay.set (S:=fun k=>k=L) _ rfl) (av hz)
theorem CV (pl:Bool)(l:List St):(er pl l).length=l.length:=by rw [sZ,Z5]
theorem CQ {pl:Bool}{l:List St}{k:Nat}{x:St}(h:l[k]?=some x):(er pl l)[k]?=some (stZ pl x):=by rw [sZ,List.getElem?_map,h];rfl
theorem zd (pl:Bool)(l:List St)(x:St):er pl (l++[x])=er pl l++[stZ pl x]:=by rw [sZ,sZ,List.map_append];rfl
section
variable  {ω:Amb}
theorem EI (pl:Bool):∀(N:Nat) (l:List St),cq l < N→zU ω pl l:=by
 intro N
 induction N with
 |zero=>exact fun l hN=>absurd hN (Nat.not_lt_zero _)
 |succ N ih =>
  intro l hN m h va vb ha hb X;refine kT ω _ _ _ h _ X ?_;unfold eI bi ar;have hmax:=ha.max;refine ha.sl fun _ _=>?_;refine hb.sl fun _ _=>?_;refine ah (fun hc=>?_) (fun hc=>?_)
  ·have hne:=Zd.1 hc;refine ⟨⟨false,rfl,by simp;exact fun h=>hne (by rw [←CV pl l,h,CV])⟩,ay.refl _ _⟩
  have hlen:l.length=m.length:=by
   have:(l.length:Int)=m.length:=by simpa using hc
   omega
  refine ⟨fun t h'=>∃k:Nat,t=.int .i64 k∧k≤l.length∧er pl (l.take k)=er pl (m.take k)∧KF h h',fun t _=>match t with|.int _ k=>l.length - k.toNat|_=>0,
   ⟨0,rfl,by omega,rfl,ay.refl _ _⟩,?_⟩
  rintro _ _ h3 ⟨k,rfl,hk,heq,k3⟩;have ha3:=ha.aE k3;have hb3:=hb.aE k3;refine ha3.sl fun _ _=>?_;rw [asK_int];refine ah (fun hc=>?_) (fun hc=>?_)
  rotate_left
  ·have hc:=Qc hc;obtain rfl:k=l.length:=by omega
   rw [Qo,List.take_of_length_le (by omega)] at heq
   exact ⟨⟨true,rfl,by simp [heq]⟩,k3⟩
  have hkl:k < l.length:=by
   have:=Qj hc;omega
  have hx:=Q7 hkl;have hy:=Q7 (show k < m.length by omega)
  have hmem:l[k]∈l:=Qv hkl;generalize l[k]=x at hx hmem;generalize m[k]=y at hy;have hxn:=gW hmem;have hxe:=jH x;refine Ob ha3 (ay.refl _ _) hx fun aa ve vb' vl he hbd hel hca=>?_;refine Ob hb3 (ay.refl _ _) hy fun ab we wb' wl he' hbd' hel' hcb=>?_;have kz1:=ay.push (S:=fun _=>False) h3 (.cells #[(.int .i64 0),(.int .i64 0),(.string ⟨#[]⟩),(.string ⟨#[]⟩),(.string ⟨#[]⟩),(.int .i64 0),(.slice none 0 0),(.slice none 0 0),(.slice none 0 0)] 39 (0,0))
  have kz2:=kz1.trans (ay.push (S:=fun _=>False) (h3.push (.cells #[(.int .i64 0),(.int .i64 0),(.string ⟨#[]⟩),(.string ⟨#[]⟩),(.string ⟨#[]⟩),(.int .i64 0),(.slice none 0 0),(.slice none 0 0),(.slice none 0 0)] 39 (0,0))) (.cells #[(.int .i64 0),(.int .i64 0),(.string ⟨#[]⟩),(.string ⟨#[]⟩),(.string ⟨#[]⟩),(.int .i64 0),(.slice none 0 0),(.slice none 0 0),(.slice none 0 0)] 39 (0,0)));have hne:stZ pl x≠stZ pl y→er pl l≠er pl m:=fun hn=>xU (CQ hx) (CQ hy) hn
  have hfin:∀h',KF h3 h'→stZ pl x=stZ pl y→(∃k':Nat,Value.int .i64 ((k:Int)+1)=.int .i64 k'∧k'≤l.length∧er pl (l.take k')=er pl (m.take k')∧KF h h'):=fun h' kk he =>
   ⟨k+1,by simp,by omega,by rw [aW hx,aW hy,zd,zd,heq,he],k3.trans kk⟩
  have hBd:zU ω pl x.body:=ih x.body (by omega)
  have hEl:zU ω pl x.els:=ih x.els (by omega)
  have hgt:(k:Int)+1≤9223372036854775807:=by omega
  refine ⟨⟨ay.cells kz1 hcb,ay.cells kz1 hca,ay.cells kz2 hcb,ay.cells kz2 hca,rfl,iT he.ca hbd.ca hel.ca,?_⟩,ay.cells kz1 hcb,ay.cells kz1 hca,ay.cells kz2 hcb,ay.cells kz2 hca,rfl,iT he.ca hbd.ca hel.ca,?_⟩
  ·obtain ⟨hA,hB,hsz⟩:=Hv (h:=h3) (z:=#[(.int .i64 0),(.int .i64 0),(.string ⟨#[]⟩),(.string ⟨#[]⟩),(.string ⟨#[]⟩),(.int .i64 0),(.slice none 0 0),(.slice none 0 0),(.slice none 0 0)]) (T:=39);refine AK hA rfl fun h25 k25 hA25=>?_;have kk:=KW kz2 k25;refine ⟨ay.cells kk hcb,rfl,iT he'.ca hbd'.ca hel'.ca,?_⟩;refine AK (k25.get hB (by omega)) rfl fun h26 k26 hB26=>?_
   have kk2:=BP kk (by omega) k26
   refine OK pl x y hBd hEl h3 h3 h26 h3.size _ ve vb' vl we wb' wl (k26.get hA25 (by omega)) hB26 (he.aE kk2) (hbd.aE kk2) (hel.aE kk2) (he'.aE kk2) (hbd'.aE kk2) (hel'.aE kk2) kk2 (R:=fun r h'=>(∃b:Bool,r=.bool b∧(b=true↔er pl l=er pl m))∧KF h h') (X:=X) (I6:=fun t h'=>∃k:Nat,t=.int .i64 k∧k≤l.length∧er pl (l.take k)=er pl (m.take k)∧KF h h') (μ7:=fun t _=>match t with|.int _ k=>l.length - k.toNat|_=>0) k hgt (fun h'' k'' hn=>?_) (fun h'' k'' he=>?_)
   ·exact ⟨⟨false,rfl,by simp;exact hne hn⟩,k3.trans k''⟩
   ·exact ⟨hfin h'' k'' he,by simp;omega⟩
  ·obtain ⟨hA,hB,hsz⟩:=Hv (h:=h3) (z:=#[(.int .i64 0),(.int .i64 0),(.string ⟨#[]⟩),(.string ⟨#[]⟩),(.string ⟨#[]⟩),(.int .i64 0),(.slice none 0 0),(.slice none 0 0),(.slice none 0 0)]) (T:=39);refine AK hB rfl fun h25 k25 hA25=>?_;have kk:=BP kz2 (by omega) k25
   refine ⟨ay.cells kk hcb,rfl,iT he'.ca hbd'.ca hel'.ca,?_⟩;refine AK (k25.get hA (by omega)) rfl fun h26 k26 hB26=>?_
   have kk2:=KW kk k26;refine OK pl x y hBd hEl h3 h3 h26 _ h3.size ve vb' vl we wb' wl (k26.get hA25 (by omega)) hB26 (he.aE kk2) (hbd.aE kk2) (hel.aE kk2) (he'.aE kk2) (hbd'.aE kk2) (hel'.aE kk2) kk2 (R:=fun r h'=>(∃b:Bool,r=.bool b∧(b=true↔er pl l=er pl m))∧KF h h') (X:=X) (I6:=fun t h'=>∃k:Nat,t=.int .i64 k∧k≤l.length∧er pl (l.take k)=er pl (m.take k)∧KF h h') (μ7:=fun t _=>match t with|.int _ k=>l.length - k.toNat|_=>0) k hgt (fun h'' k'' hn=>?_) (fun h'' k'' he=>?_)
   ·exact ⟨⟨false,rfl,by simp;exact hne hn⟩,k3.trans k''⟩
   ·exact ⟨hfin h'' k'' he,by simp;omega⟩
end
theorem zF (pl:Bool)(l:List Sg)(x:Sg):ml pl (l++[x])=ml pl l++[sgZ pl x]:=by unfold ml;rw [List.map_append];rfl
theorem Cs {pl:Bool}{l:List Sg}{k:Nat}{x:Sg}(h:l[k]?=some x):(ml pl l)[k]?=some (sgZ pl x):=by unfold ml;rw [List.getElem?_map,h];rfl
theorem OI {h0 h:Hp}{v:Value}{l:List Sg}(hs:SgS h0 v l)(k:KF h0 h){i:Nat}{x:Sg}(hx:l[i]?=some x){K:Addr→List Value→Prop}
  (hk:∀a vp vb,PsS h0 vp x.ps→StS h0 vb x.body→ak h (Addr.add a (Int.toNat (i:Int)*4)) 4 (sgC x vp vb)→K a (sgC x vp vb)) :
  aO v fun a l _=>0≤(i:Int)∧(i:Int) < (l:Int)∧∃C,ak h (Addr.add a (Int.toNat (i:Int)*4)) 4 C∧K a C:=by
 obtain ⟨us,vp,vb,h1,h2,h3,h4⟩:=hs.at_ hx;have h1':=h1.aE k;have hi:=(Q6.1 hx).1;rcases h1'.2 with ⟨h0',_⟩|⟨b,o,cap,rfl,hc⟩
 ·omega
 ·rw [asSl1_sl];have hcc:ak h (Addr.add ⟨b,o,none⟩ (Int.toNat (i:Int)*4)) 4 (sgC x vp vb):=by
   refine ⟨rfl,fun j u hu=>?_⟩;rw [aT,aT,Qm,Nat.add_assoc];rw [←h2,Qh] at hu
   split at hu
   ·rw [Qi] at hu;exact hc _ u hu
   ·cases hu
  exact ⟨by omega,by omega,_,hcc,hk _ vp vb h3 h4 hcc⟩
def M8 (ω:Amb)(bO AO:Value)(h12:Hp)(R:RT)(X:XT)(I8:RT)(μ9:Value→Hp→Nat)(A B:Addr)(h31:Hp):Prop :=
 ∃J32:RT,
 (∃v36,af h31 (Addr.add A 0)=some v36 ∧
 ∃v37,af h31 (Addr.add B 0)=some v37 ∧
 asS v36 fun s38=>asS v37 fun s39=>cond (!(s38.toList==s39.toList))
 (J32 (.bool true) h31)
 (asB bO fun b40=>cond b40
 (∃v41,af h31 (Addr.add A 1)=some v41 ∧
 ∃v42,af h31 (Addr.add B 1)=some v42 ∧
 asK .i64 v41 fun n43=>asK .i64 v42 fun n44=>cond (n43 !=(n44:Int))
 (J32 (.bool true) h31)
 (∃v45,af h31 (Addr.add A 2)=some v45 ∧
 bD v45 fun a46 l47 c48=>∃v49,af h31 (Addr.add B 2)=some v49 ∧
 bD v49 fun a50 l51 c52=>cond ((l47:Int) !=((l51:Int):Int))
 (J32 (.bool true) h31)
 (∃v53,af h31 (Addr.add A 3)=some v53 ∧
 ∃v54,af h31 (Addr.add B 3)=some v54 ∧
 ae Tryz.prog ω 43 [v53,v54,bO] h31 (fun r55 h56 =>
 asB r55 fun b57=>J32 (.bool (!b57)) h56) X)))
 (∃v58,af h31 (Addr.add A 2)=some v58 ∧
 bD v58 fun a59 l60 c61=>∃v62,af h31 (Addr.add B 2)=some v62 ∧
 bD v62 fun a63 l64 c65=>cond ((l60:Int) !=((l64:Int):Int))
 (J32 (.bool true) h31)
 (∃v66,af h31 (Addr.add A 3)=some v66 ∧
 ∃v67,af h31 (Addr.add B 3)=some v67 ∧
 ae Tryz.prog ω 43 [v66,v67,bO] h31 (fun r68 h69 =>
 asB r68 fun b70=>J32 (.bool (!b70)) h69) X)))) ∧
 ∀zm (d34:Nat→Value) (h35:Hp),J32 zm h35 →
 asB zm fun b71=>cond b71
 (R (.bool false) h35)
 (∃(I72:RT) (μ73:Value→Hp→Nat),I72 (.int .i64 0) h35∧∀D2 (d75:Nat→Value) (h76:Hp),I72 D2 h76 →
 ∃v77,af h76 (Addr.add A 2)=some v77 ∧
 bD v77 fun a78 l79 c80=>asK .i64 D2 fun n81=>cond (decide ((n81:Int) < (l79:Int)))
 (∃v82,af h76 (Addr.add A 2)=some v82 ∧
 aO v82 fun a83 l84 c85=>asI D2 fun n86=>0≤(n86:Int)∧n86 < (l84:Int)∧∃C87,ak h76 (Addr.add a83 (n86.toNat*2)) 2 C87 ∧
 ∃v88,af h76 (Addr.add B 2)=some v88 ∧
 aO v88 fun a89 l90 c91=>asI D2 fun n92=>0≤(n92:Int)∧n92 < (l90:Int)∧∃C93,ak h76 (Addr.add a89 (n92.toNat*2)) 2 C93 ∧
 asO C87.toArray[0]? fun v94=>asO C93.toArray[0]? fun v95=>asS v94 fun s96=>asS v95 fun s97=>asO C87.toArray[1]? fun v98=>asO C93.toArray[1]? fun v99=>asS v98 fun s100=>asS v99 fun s101=>cond (!((s96.toList==s97.toList)&&((s100.toList==s101.toList)&&true)))
 (R (.bool false) h76)
 (asK .i64 D2 fun n102=>I72 (.int .i64 (IntKind.wrap .i64 (n102+1))) h76∧μ73 (.int .i64 (IntKind.wrap .i64 (n102+1))) h76 < μ73 D2 h76))
 (asK .i64 AO fun n103=>I8 (.int .i64 (IntKind.wrap .i64 (n103+1))) h76∧μ9 (.int .i64 (IntKind.wrap .i64 (n103+1))) h76 < μ9 AO h12))
section
variable  {ω:Amb}
theorem On (pl:Bool)(x y:Sg)(hh h12 h31:Hp)(LA LB:Nat)(vp vb wp wb:Value)
  (hA:h31[LA]?=some (.cells (sgC x vp vb).toArray 41 (0,0))) (hBk:h31[LB]?=some (.cells (sgC y wp wb).toArray 41 (0,0)))
  (a1:PsS h31 vp x.ps) (a2:StS h31 vb x.body) (b1:PsS h31 wp y.ps) (b2:StS h31 wb y.body) (hpl:x.ps.length≤4611686018427387904) (kh:KF hh h31)
  {R:RT} {X:XT} {I8:RT} {μ9:Value→Hp→Nat} (k:Nat) (hk0:(k:Int)+1≤9223372036854775807)
  (hne:∀h',KF hh h'→sgZ pl x≠sgZ pl y→R (.bool false) h') (heq:∀h',KF hh h'→sgZ pl x=sgZ pl y→I8 (.int .i64 ((k:Int)+1)) h'∧μ9 (.int .i64 ((k:Int)+1)) h' < μ9 (.int .i64 k) h12) :
  M8 ω (.bool pl) (.int .i64 k) h12 R X I8 μ9 ⟨LA,0,none⟩ ⟨LB,0,none⟩ h31:=by
 unfold M8;refine ⟨fun v h'=>(∃b:Bool,v=.bool b∧(b=true↔¬(x.nm=y.nm∧(pl=true→x.at_=y.at_)∧x.ps.length=y.ps.length∧er pl x.body=er pl y.body)))∧KF h31 h',?_,?_⟩
 ·refine lx hA (j:=0) rfl ?_;refine lx hBk (j:=0) rfl ?_;rw [asS_str,asS_str,eqB];refine ah (fun hc=>?_) (fun hc=>?_)
  ·have:x.nm≠y.nm:=by simpa using hc
   exact ⟨⟨true,rfl,by simp only [true_iff];exact fun h=>this h.1⟩,ay.refl _ _⟩
  have e1:x.nm=y.nm:=by simpa using hc
  have fin:∀(hat:pl=true→x.at_=y.at_),∃v45,af h31 (Addr.add ⟨LA,0,none⟩ 2)=some v45∧bD v45 fun _ l47 _=>∃v49,af h31 (Addr.add ⟨LB,0,none⟩ 2)=some v49∧bD v49 fun _ l51 _=>cond ((l47:Int) !=((l51:Int):Int))
    ((∃b:Bool,(.bool true:Value)=.bool b∧(b=true↔¬(x.nm=y.nm∧(pl=true→x.at_=y.at_)∧x.ps.length=y.ps.length∧er pl x.body=er pl y.body)))∧KF h31 h31)
    (∃v53,af h31 (Addr.add ⟨LA,0,none⟩ 3)=some v53∧∃v54,af h31 (Addr.add ⟨LB,0,none⟩ 3)=some v54 ∧
     ae Tryz.prog ω eL [v53,v54,.bool pl] h31 (fun r55 h56=>asB r55 fun b57=>(∃b:Bool,(.bool (!b57):Value)=.bool b∧(b=true↔¬(x.nm=y.nm∧(pl=true→x.at_=y.at_)∧x.ps.length=y.ps.length∧er pl x.body=er pl y.body)))∧KF h31 h56) X):=by
   intro hat;refine lx hA (j:=2) rfl ?_;refine bP.sl a1.1 fun _ _=>?_;refine lx hBk (j:=2) rfl ?_;refine bP.sl b1.1 fun _ _=>?_;refine ah (fun hc=>?_) (fun hc=>?_)
   ·have:=Zd.1 hc;exact ⟨⟨true,rfl,by simp only [true_iff];exact fun h=>this (by rw [h.2.2.1])⟩,ay.refl _ _⟩
   have e3:x.ps.length=y.ps.length:=by
    have:(x.ps.length:Int)=y.ps.length:=by simpa using hc
    omega
   refine lx hA (j:=3) rfl ?_;refine lx hBk (j:=3) rfl ?_;refine ae.use (EI pl _ x.body (Qw _) y.body h31 vb wb a2 b2) ?_;rintro _ h4 ⟨⟨c,rfl,hcc⟩,k4⟩;rw [asB_bool];refine ⟨⟨!c,rfl,?_⟩,k4⟩;rw [Bool.not_eq_true',←Bool.not_eq_true,hcc];exact ⟨fun h hall=>h hall.2.2.2,fun h hall=>h ⟨e1,hat,e3,hall⟩⟩
  rw [asB_bool];refine ah (fun hp=>?_) (fun hp=>?_)
  ·refine lx hA (j:=1) rfl ?_;refine lx hBk (j:=1) rfl ?_;rw [asK_int,asK_int];refine ah (fun hc=>?_) (fun hc=>?_)
   ·have:=Zd.1 hc;exact ⟨⟨true,rfl,by simp only [true_iff];exact fun h=>this (h.2.1 hp)⟩,ay.refl _ _⟩
   have e2:x.at_=y.at_:=by simpa using hc
   exact fin fun _=>e2
  ·exact fin fun h=>by rw [hp] at h;cases h
 rintro _ _ h32 ⟨⟨c,rfl,hcc⟩,k32⟩;have hA32:=k32.get hA (by simp)
 have hB32:=k32.get hBk (by simp)
 rw [asB_bool];refine ah (fun hc=>?_) (fun hc=>?_)
 ·refine hne _ (kh.trans k32) fun h=>hcc.1 hc ?_;obtain ⟨q1,q2,q3,q4⟩:=yf.1 h;exact ⟨q1,q2,by rw [q3],q4⟩
 have hall:x.nm=y.nm∧(pl=true→x.at_=y.at_)∧x.ps.length=y.ps.length∧er pl x.body=er pl y.body:=Classical.byContradiction fun hn=>by
  rw [hcc.2 hn] at hc;cases hc
 obtain ⟨e1,e2,e3,e4⟩:=hall;refine ⟨fun t h'=>∃j:Nat,t=.int .i64 j∧j≤x.ps.length∧x.ps.take j=y.ps.take j∧h32=h',fun t _=>match t with|.int _ j=>x.ps.length - j.toNat|_=>0,⟨0,rfl,by omega,rfl,rfl⟩,?_⟩
 rintro _ _ _ ⟨j,rfl,hj,htk,rfl⟩;refine lx hA32 (j:=2) rfl ?_;refine bP.sl (a1.aE k32).1 fun _ _=>?_;rw [asK_int];refine ah (fun hc=>?_) (fun hc=>?_)
 ·have hjl:j < x.ps.length:=by
   have:=Qj hc;omega
  have hx:=Q7 hjl;have hy:=Q7 (show j < y.ps.length by omega)
  generalize x.ps[j]=p at hx;generalize y.ps[j]=q at hy;refine lx hA32 (j:=2) rfl ?_;refine bP.rdS (f:=pf) (a1.aE k32).1 eA hx ?_;refine lx hB32 (j:=2) rfl ?_;refine bP.rdS (f:=pf) (b1.aE k32).1 eA hy ?_;have g0:∀p:ByteArray×ByteArray,(pf p).toArray[0]?=some (.string p.1):=fun _=>rfl;have g1:∀p:ByteArray×ByteArray,(pf p).toArray[1]?=some (.string p.2):=fun _=>rfl;simp only [g0,g1,asO_some,asS_str]
  rw [LO];refine ah (fun hc=>?_) (fun hc=>?_)
  ·have:p≠q:=by simpa using hc
   exact hne _ (kh.trans k32) fun h=>xU hx hy this (yf.1 h).2.2.1
  ·have he:p=q:=by simpa using hc
   rw [asK_int,i64_in (by omega) (by omega)]
   exact ⟨⟨j+1,by simp,by omega,by rw [aW hx,aW hy,htk,he],trivial⟩,by simp;omega⟩
 ·have hc:=Qc hc;obtain rfl:j=x.ps.length:=by omega
  rw [Qo,List.take_of_length_le (by omega)] at htk
  rw [asK_int,i64_in (by omega) (by omega)]
  exact heq _ (kh.trans k32) (yf.2 ⟨e1,e2,htk,e4⟩)
theorem GQ (pl:Bool)(p q:List Sg)(hpn:p.length≤1000)(hps:∀s∈p,s.ps.length≤1000)(h:Hp)(va vb:Value)(ha:PgS h va p)(hb:PgS h vb q)(X:XT) :
  ae Tryz.prog ω jC [va,vb,.bool pl] h (fun r h'=>(∃b:Bool,r=.bool b∧(b=true↔ml pl p=ml pl q))∧KF h h') X:=by
 obtain ⟨wa,rfl,ha⟩:=ha;obtain ⟨wb,rfl,hb⟩:=hb;refine j5 ω _ _ _ h _ X ?_;unfold dU bI aK aQ al;simp only [show ∀w:Value,Value.cells (.agg #[w])=[w].toArray from fun _=>rfl]
 have hb0:=ai (h:=h) (o:=.cells [wa].toArray 24 (0,0));have k0:=ay.push (S:=fun _=>False) h (.cells [wa].toArray 24 (0,0));generalize h.push (.cells [wa].toArray 24 (0,0))=h1 at *;have hb1:=ai (h:=h1) (o:=.cells [wb].toArray 24 (0,0));have k1:=ay.push (S:=fun _=>False) h1 (.cells [wb].toArray 24 (0,0));generalize h1.push (.cells [wb].toArray 24 (0,0))=h2 at *;have hb0:=k1.get hb0 (by simp)
 have k02:=k0.trans k1;have ha:=ha.aE k02;have hb:=hb.aE k02;refine lx hb0 (j:=0) rfl ?_;refine ha.sl fun _ _=>?_;refine lx hb1 (j:=0) rfl ?_;refine hb.sl fun _ _=>?_;have hzl:ml pl p=ml pl q→p.length=q.length:=fun h=>by
  have:=congrArg List.length h;simpa [ml] using this
 refine ah (fun hc=>?_) (fun hc=>?_)
 ·have hne:=Zd.1 hc;refine ⟨⟨false,rfl,by simp;exact fun h=>hne (by rw [hzl h])⟩,k02⟩
 have hlen:p.length=q.length:=by
  have:(p.length:Int)=q.length:=by simpa using hc
  omega
 refine ⟨fun t h'=>∃k:Nat,t=.int .i64 k∧k≤p.length∧ml pl (p.take k)=ml pl (q.take k)∧KF h2 h',fun t _=>match t with|.int _ k=>p.length - k.toNat|_=>0,
  ⟨0,rfl,by omega,rfl,ay.refl _ _⟩,?_⟩
 rintro _ _ h3 ⟨k,rfl,hk,heq,k3⟩;have ha3:=ha.aE k3;have hb3:=hb.aE k3;have hb03:=k3.get hb0 (by simp)
 have hb13:=k3.get hb1 (by simp)
 refine lx hb03 (j:=0) rfl ?_;refine ha3.sl fun _ _=>?_;rw [asK_int];refine ah (fun hc=>?_) (fun hc=>?_)
 rotate_left
 ·have hc:=Qc hc;obtain rfl:k=p.length:=by omega
  rw [Qo,List.take_of_length_le (by omega)] at heq
  exact ⟨⟨true,rfl,by simp [heq]⟩,k02.trans k3⟩
 have hkl:k < p.length:=by
  have:=Qj hc;omega
 have hx:=Q7 hkl;have hy:=Q7 (show k < q.length by omega)
 have hmem:p[k]∈p:=Qv hkl;generalize p[k]=x at hx hmem;generalize q[k]=y at hy;have hxps:=hps x hmem;refine lx hb03 (j:=0) rfl ?_;refine OI ha3 (ay.refl _ _) hx fun aa vp vb hpp hbd hca=>?_;refine lx hb13 (j:=0) rfl ?_;refine OI hb3 (ay.refl _ _) hy fun ab wp wb' hpp' hbd' hcb=>?_;have kz1:=ay.push (S:=fun _=>False) h3 (.cells #[(.string ⟨#[]⟩),(.int .i64 0),(.slice none 0 0),(.slice none 0 0)] 41 (0,0))
 have kz2:=PM (h:=h3) (.cells #[(.string ⟨#[]⟩),(.int .i64 0),(.slice none 0 0),(.slice none 0 0)] 41 (0,0)) (.cells #[(.string ⟨#[]⟩),(.int .i64 0),(.slice none 0 0),(.slice none 0 0)] 41 (0,0));have hne:sgZ pl x≠sgZ pl y→ml pl p≠ml pl q:=fun hn=>xU (Cs hx) (Cs hy) hn;have hfin:∀h',KF h3 h'→sgZ pl x=sgZ pl y→(∃k':Nat,Value.int .i64 ((k:Int)+1)=.int .i64 k'∧k'≤p.length∧ml pl (p.take k')=ml pl (q.take k')∧KF h2 h'):=fun h' kk he =>
  ⟨k+1,by simp,by omega,by rw [aW hx,aW hy,zF,zF,heq,he],k3.trans kk⟩
 have hgt:(k:Int)+1≤9223372036854775807:=by omega
 have g0:∀{hh:Hp},KF h3 hh→af hh (Addr.add ⟨h.size,0,none⟩ 0)=some wa:=fun kk=>lx' (kk.get hb03 (by simp)) rfl
 have g1:∀{hh:Hp},KF h3 hh→af hh (Addr.add ⟨h1.size,0,none⟩ 0)=some wb:=fun kk=>lx' (kk.get hb13 (by simp)) rfl
 obtain ⟨hA,hB,hsz⟩:=Hv (h:=h3) (z:=#[(.string ⟨#[]⟩),(.int .i64 0),(.slice none 0 0),(.slice none 0 0)]) (T:=41);refine ⟨⟨ay.cells kz1 hcb,g1 kz1,ay.cells kz1 hca,g0 kz1,ay.cells kz2 hcb,g1 kz2,ay.cells kz2 hca,g0 kz2,rfl,fy (cB hpp.2) hbd.ca,?_⟩,ay.cells kz1 hcb,g1 kz1,ay.cells kz1 hca,g0 kz1,ay.cells kz2 hcb,g1 kz2,ay.cells kz2 hca,g0 kz2,rfl,fy (cB hpp.2) hbd.ca,?_⟩
 ·refine AK hA rfl fun h25 k25 hA25=>?_;have kk:=KW kz2 k25;refine ⟨ay.cells kk hcb,g1 kk,rfl,fy (cB hpp'.2) hbd'.ca,?_⟩;refine AK (k25.get hB (by omega)) rfl fun h26 k26 hB26=>?_
  have kk2:=BP kk (by omega) k26
  refine On pl x y h3 h3 h26 h3.size _ vp vb wp wb' (k26.get hA25 (by omega)) hB26 (hpp.aE kk2) (hbd.aE kk2) (hpp'.aE kk2) (hbd'.aE kk2) (by omega) kk2 (R:=fun r h'=>(∃b:Bool,r=.bool b∧(b=true↔ml pl p=ml pl q))∧KF h h') (X:=X) (I8:=fun t h'=>∃k:Nat,t=.int .i64 k∧k≤p.length∧ml pl (p.take k)=ml pl (q.take k)∧KF h2 h') (μ9:=fun t _=>match t with|.int _ k=>p.length - k.toNat|_=>0) k hgt (fun h'' k'' hn=>?_) (fun h'' k'' he=>?_)
  ·exact ⟨⟨false,rfl,by simp;exact hne hn⟩,(k02.trans k3).trans k''⟩
  ·exact ⟨hfin h'' k'' he,by simp;omega⟩
 ·refine AK hB rfl fun h25 k25 hA25=>?_;have kk:=BP kz2 (by omega) k25
  refine ⟨ay.cells kk hcb,g1 kk,rfl,fy (cB hpp'.2) hbd'.ca,?_⟩;refine AK (k25.get hA (by omega)) rfl fun h26 k26 hB26=>?_
  have kk2:=KW kk k26;refine On pl x y h3 h3 h26 _ h3.size vp vb wp wb' (k26.get hA25 (by omega)) hB26 (hpp.aE kk2) (hbd.aE kk2) (hpp'.aE kk2) (hbd'.aE kk2) (by omega) kk2 (R:=fun r h'=>(∃b:Bool,r=.bool b∧(b=true↔ml pl p=ml pl q))∧KF h h') (X:=X) (I8:=fun t h'=>∃k:Nat,t=.int .i64 k∧k≤p.length∧ml pl (p.take k)=ml pl (q.take k)∧KF h2 h') (μ9:=fun t _=>match t with|.int _ k=>p.length - k.toNat|_=>0) k hgt (fun h'' k'' hn=>?_) (fun h'' k'' he=>?_)
  ·exact ⟨⟨false,rfl,by simp;exact hne hn⟩,(k02.trans k3).trans k''⟩
  ·exact ⟨hfin h'' k'' he,by simp;omega⟩
end
end Go.Proofs.YtkeeboomikkojaaGreatDoor
