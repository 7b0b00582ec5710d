import Derived.Test.YtkeeboomikkojaaGreatDoorExA
import Derived.Test.YtkeeboomikkojaaGreatDoorRx4
import Derived.Test.YtkeeboomikkojaaGreatDoorRy2
import Derived.Test.YtkeeboomikkojaaGreatDoorRn7
import Derived.Test.YtkeeboomikkojaaGreatDoorRn9
import Derived.Test.YtkeeboomikkojaaGreatDoorRk
import Derived.Test.YtkeeboomikkojaaGreatDoorRn6
import Derived.Test.YtkeeboomikkojaaGreatDoorRn5
import Derived.Test.YtkeeboomikkojaaGreatDoorYk
import Derived.Test.YtkeeboomikkojaaGreatDoorY9
namespace Go.Proofs.YtkeeboomikkojaaGreatDoor
open Go Go.Sx Go.Sx.Tk Go.Sx.Rn Go.Proofs.YtkeeboomikkojaaGreatDoor.Sx
def t9L:List Value:=[(.int .i64 0),(.int .i64 9),(.int .i64 9),(.int .i64 4),(.int .i64 2),(.int .i64 2),(.int .i64 3),(.int .i64 1),(.int .i64 1)]
def sgL:List Value:=[(.string ⟨#[32,43,32]⟩),(.string ⟨#[32,45,32]⟩),(.string ⟨#[32,42,32]⟩),(.string ⟨#[32,60,32]⟩),(.string ⟨#[32,61,61,32]⟩)]
def bdO (op:Int):Int:=if op=1∨op=2 then 9 else rk op
theorem JP:∀k:Nat,1≤k→k≤8→t9L[k]?=some (.int .i64 (bdO (k:Int)))
 |0,h,_=>absurd h (by decide)
 |1,_,_=>rfl
 |2,_,_=>rfl
 |3,_,_=>rfl
 |4,_,_=>rfl
 |5,_,_=>rfl
 |6,_,_=>rfl
 |7,_,_=>rfl
 |8,_,_=>rfl
 |k+9,_,h=>absurd h (by omega)
theorem JZ:∀k:Nat,k < 5→sgL[k]?=some (.string (bs (sgn ((k:Int)+4))))
 |0,_=>rfl
 |1,_=>rfl
 |2,_=>rfl
 |3,_=>rfl
 |4,_=>rfl
 |k+5,h=>absurd h (by omega)
section
variable  {ω:Amb}
set_option maxHeartbeats 800000 in
theorem xU:∀(N:Nat) (x:Ex),exN x < N→exN x≤100000→yf x→exF x=0→∀(h:Hp) (w:Value) (m:Int),ExS h w x.l→ee h→m≤4→∀(X:XT),
  aa Tryz.prog ω ca [.agg (exC x w).toArray,.int .i64 m] h (fun r h'=>r=.string (bs (brk m (x.op,exT x)))∧KF h h') X:=by
 intro N
 induction N with
 |zero=>exact fun l hN=>absurd hN (Nat.not_lt_zero _)
 |succ N ih =>
  intro x hN hle hok hF h w m hw ht hm X;refine jM ω _ _ h _ X ?_;unfold dr;simp only [dN,show List.toArray [(.int .i64 0),(.int .i64 9),(.int .i64 9),(.int .i64 4),(.int .i64 2),(.int .i64 2),(.int .i64 3),(.int .i64 1),(.int .i64 1)]=t9L.toArray from rfl,
   show List.toArray [(.string ⟨#[32,43,32]⟩),(.string ⟨#[32,45,32]⟩),(.string ⟨#[32,42,32]⟩),(.string ⟨#[32,60,32]⟩),(.string ⟨#[32,61,61,32]⟩)]=sgL.toArray from rfl]
  obtain ⟨hnm,hokl⟩:=ff.1 hok;have hxe:=fZ x;obtain ⟨hH,hFl⟩:=Fu hF;obtain ⟨g1,g2,g3,g4,g5,g6,g7,g8⟩:=Fp hH;have hlen:=vL x hF hok;have hb1:=af (h:=h) (o:=.cells (exC x w).toArray 36 (0,0));have kp:=ar.push (S:=fun _=>False) h (.cells (exC x w).toArray 36 (0,0));generalize h.push (.cells (exC x w).toArray 36 (0,0))=h1 at *;have ht2:=af (h:=h1) (o:=.cells t9L.toArray 3 (0,0));have k1:=ar.push (S:=fun _=>False) h1 (.cells t9L.toArray 3 (0,0))
  generalize h1.push (.cells t9L.toArray 3 (0,0))=h2 at *;have hb2:=k1.get hb1 (by simp)
  have k02:=kp.trans k1;have hw2:=hw.az k02;have htk:=ht.more k02;refine lx hb2 (j:=0) rfl ?_;obtain ⟨o,ho⟩:∃o:Nat,x.op=o:=⟨x.op.toNat,by omega⟩
  rw [ho,asI_int];refine ⟨by omega,by omega,?_⟩
  rw [Int.toNat_natCast,Nat.mul_one];refine lx ht2 (JP o (by omega) (by omega)) ?_
  rw [←ho];refine lx hb2 (j:=0) rfl ?_;refine ⟨fun v h'=>v=.string (bs (exT x))∧KF h2 h',?_,?_⟩
  rotate_left
  ·rintro _ _ h3 ⟨rfl,k3⟩;rw [asK_int,asK_int];have hbr:decide (bdO x.op < m)=decide (rk x.op < m):=by
    rw [Bool.eq_iff_iff];simp only [decide_eq_true_eq];unfold bdO
    split
    ·rename_i h12;have:rk x.op=5:=by
      rcases h12 with h|h<;>rw [h]<;>rfl
     omega
    ·rfl
   rw [hbr,asS_str,show (⟨#[40]⟩:ByteArray)=bs [40] from rfl,show (⟨#[41]⟩:ByteArray)=bs [41] from rfl,aT,aT]
   simp only [aD];refine ae (fun hc=>?_) (fun hc=>?_)
   ·refine ⟨by simp;omega,by simp;omega,?_,k02.trans k3⟩
    rw [brk,if_pos (of_decide_eq_true hc)];rfl
   ·exact ⟨by rw [brk,if_neg (of_decide_eq_false hc)],k02.trans k3⟩
  rw [asK_int];refine ⟨fun v h'=>v=.string (bs (exT x))∧KF h2 h',?_,fun _ _ _ hj=>hj⟩;refine ae (fun hc=>?_) (fun hc=>?_)
  ·have h1o:x.op=1:=eq_of_beq hc;refine lx hb2 (j:=2) rfl ?_;refine aa.use (qd x.n (by omega) (by omega) _ htk) ?_
   rintro _ h3 ⟨rfl,k3⟩;refine ⟨?_,k3⟩;rw [tW,exB,if_pos h1o];rfl
  have n1:x.op≠1:=beq_eq_false_iff_ne.1 hc;rw [asK_int];refine ⟨fun v h'=>v=.string (bs (exT x))∧KF h2 h',?_,fun _ _ _ hj=>hj⟩;refine ae (fun hc=>?_) (fun hc=>?_)
  ·have h2o:x.op=2:=eq_of_beq hc;refine lx hb2 (j:=1) rfl ⟨?_,ar.refl _ _⟩;rw [tW,exB,if_neg n1,if_pos h2o,iA]
  have n2:x.op≠2:=beq_eq_false_iff_ne.1 hc;rw [asK_int];refine ⟨fun v h'=>v=.string (bs (exT x))∧KF h2 h',?_,fun _ _ _ hj=>hj⟩;refine ae (fun hc=>?_) (fun hc=>?_)
  ·have h3o:x.op=3:=eq_of_beq hc;have hl1:x.l.length=1:=by
    rw [dL,if_neg (by omega),if_pos h3o] at g3
    omega
   obtain ⟨a,ha⟩:=CM hl1;have hma:a∈x.l:=by rw [ha];exact List.mem_singleton.2 rfl
   have han:=bY hma;refine lx hb2 (j:=3) rfl ?_;refine hw2.rdC (i:=0) (x:=a) (by rw [ha];rfl) fun wa hwa=>?_
   refine aa.use (ih a (by omega) (by omega) (bD hokl hma) (kM hFl hma) _ wa 4 hwa htk (by decide)) ?_
   rintro _ h3 ⟨rfl,k3⟩;have hlen:=qv (kM hFl hma) (bD hokl hma) 4;rw [asS_str,show (⟨#[45]⟩:ByteArray)=bs [45] from rfl,aT]
   simp only [aD];refine ⟨by simp;omega,?_,k3⟩
   rw [DZ ha h3o];rfl
  have n3:x.op≠3:=beq_eq_false_iff_ne.1 hc;have hl2:x.l.length=2:=by
   rw [dL,if_neg (by omega),if_neg n3] at g3
   omega
  have hbd:bdO x.op=rk x.op:=by rw [bdO,if_neg (by omega)]
  have hrk:1≤rk x.op∧rk x.op≤3:=by
   have:x.op=4∨x.op=5∨x.op=6∨x.op=7∨x.op=8:=by omega
   rcases this with h|h|h|h|h<;>rw [h]<;>decide
  have hlm:lmO x.op≤3:=by
   unfold lmO
   split<;>omega
  have hr78:(x.op=7∨x.op=8)↔rk x.op=1:=by
   unfold rk
   repeat' split
   all_goals omega
  obtain ⟨a,b,hab⟩:=Gd hl2;have hma:a∈x.l:=by rw [hab];simp
  have hmb:b∈x.l:=by rw [hab];simp
  have han:=bY hma;have hbn:=bY hmb;have ga:x.l[0]?=some a:=by rw [hab];rfl
  have gb:x.l[1]?=some b:=by rw [hab];rfl
  have hT:=Cs hab n1 n2 n3;have l1:=qv (kM hFl hma) (bD hokl hma) (lmO x.op);have l2:=qv (kM hFl hmb) (bD hokl hmb) (rk x.op+1);have l3:=yr x.op;rw [asK_int,hbd];refine ⟨fun v h'=>v=.int .i64 (lmO x.op)∧h2=h',ae (fun hc=>?_) (fun hc=>?_),?_⟩
  ·have h78:=hr78.2 (eq_of_beq hc);exact ⟨by rw [lmO,if_pos h78],rfl⟩
  ·have h78:¬(x.op=7∨x.op=8):=fun h=>beq_eq_false_iff_ne.1 hc (hr78.1 h);exact ⟨by rw [lmO,if_neg h78],rfl⟩
  rintro _ _ _ ⟨rfl,rfl⟩;refine lx hb2 (j:=3) rfl ?_;refine FQ hw2 (ar.refl _ _) ga fun axa wa hwa hca=>?_;refine lx hb2 (j:=0) rfl ?_;rw [asK_int];refine lx hb2 (j:=3) rfl ?_;refine FQ hw2 (ar.refl _ _) gb fun axb wb hwb hcb=>?_;rw [asK_int,i64_in (by omega) (by omega),i64_in (by omega) (by omega)]
  have hA:∀hh,KF h2 hh→∀Y,aa Tryz.prog ω ca [.agg (exC a wa).toArray,.int .i64 (lmO x.op)] hh (fun r h'=>r=.string (bs (brk (lmO x.op) (a.op,exT a)))∧KF hh h') Y:=fun hh kk Y =>
   ih a (by omega) (by omega) (bD hokl hma) (kM hFl hma) hh wa _ (hwa.az kk) (htk.more kk) (by omega) Y
  have hB:∀hh,KF h2 hh→∀Y,aa Tryz.prog ω ca [.agg (exC b wb).toArray,.int .i64 (rk x.op+1)] hh (fun r h'=>r=.string (bs (brk (rk x.op+1) (b.op,exT b)))∧KF hh h') Y:=fun hh kk Y =>
   ih b (by omega) (by omega) (bD hokl hmb) (kM hFl hmb) hh wb _ (hwb.az kk) (htk.more kk) (by omega) Y
  have hsg:∀(hh:Hp),ah (hh.push (.cells sgL.toArray 9 (0,0))) (Addr.add ⟨hh.size,0,none⟩ (Int.toNat (x.op - 4)*1))=some (.string (bs (sgn x.op))):=fun hh=>by
   refine lx' af ?_;have:=JZ (x.op - 4).toNat (by omega)
   rw [Nat.mul_one,this]
   congr 4
   omega
  have fin:∀{hh:Hp},KF h2 hh→((.string (bs (brk (lmO x.op) (a.op,exT a)++sgn x.op++brk (rk x.op+1) (b.op,exT b))):Value)=.string (bs (exT x))∧KF h2 hh):=fun kk=>⟨by rw [hT],kk⟩
  have z0:0≤x.op - 4:=by omega
  have z5:x.op - 4 < 5:=by omega
  refine ⟨?_,?_⟩
  ·refine aa.use (hA h2 (ar.refl _ _)) ?_;rintro _ h3 ⟨rfl,k3⟩;have ks:=ar.push (S:=fun _=>False) h3 (.cells sgL.toArray 9 (0,0));have hb3:=k3.get hb2 (by simp)
   refine ⟨ar.cells k3 hcb,lx' hb3 rfl,lx' hb3 rfl,⟨ar.cells (k3.trans ks) hcb,lx' (ks.get hb3 (by simp)) rfl,lx' (ks.get hb3 (by simp)) rfl,z0,z5,_,hsg h3,?_⟩,?_⟩
   ·rw [asS_str,asS_str,aT];simp only [aD];refine ⟨by omega,?_⟩
    refine aa.use (hB _ (k3.trans ks)) ?_;rintro _ h5 ⟨rfl,k5⟩;refine ⟨k5.cell (hsg h3) (by simp),lx' (k5.get (ks.get hb3 (by simp)) (by simp)) rfl,?_⟩
    rw [asS_str,aT];simp only [aD,List.length_append];exact ⟨by omega,fin ((k3.trans ks).trans k5)⟩
   ·refine aa.use (hB h3 k3) ?_;rintro _ h5 ⟨rfl,k5⟩;have ks5:=ar.push (S:=fun _=>False) h5 (.cells sgL.toArray 9 (0,0));have hb5:=k5.get hb3 (by simp)
    refine ⟨lx' hb5 rfl,lx' (ks5.get hb5 (by simp)) rfl,z0,z5,_,hsg h5,?_⟩
    simp only [asS_str,aT,aD,List.length_append];exact ⟨by omega,by omega,fin ((k3.trans k5).trans ks5)⟩
  ·have ks:=ar.push (S:=fun _=>False) h2 (.cells sgL.toArray 9 (0,0));have hbs:=ks.get hb2 (by simp)
   have hs2:=hsg h2;generalize h2.push (.cells sgL.toArray 9 (0,0))=hS at *;refine ⟨ar.cells ks hcb,lx' hbs rfl,lx' hbs rfl,ar.cells ks hca,lx' hbs rfl,?_,z0,z5,?_,_,hs2,?_⟩
   ·refine aa.use (hA hS ks) ?_;rintro _ h3 ⟨rfl,k3⟩;have hb3:=k3.get hbs (by simp)
    refine ⟨ar.cells (ks.trans k3) hcb,lx' hb3 rfl,lx' hb3 rfl,z0,z5,_,k3.cell hs2 (by simp),?_⟩
    rw [asS_str,asS_str,aT];simp only [aD];refine ⟨by omega,?_⟩
    refine aa.use (hB _ (ks.trans k3)) ?_;rintro _ h5 ⟨rfl,k5⟩;refine ⟨(k3.trans k5).cell hs2 (by simp),lx' (k5.get hb3 (by simp)) rfl,?_⟩
    rw [asS_str,aT];simp only [aD,List.length_append];exact ⟨by omega,fin ((ks.trans k3).trans k5)⟩
   ·refine aa.use (hA hS ks) ?_;rintro _ h3 ⟨rfl,k3⟩;have hb3:=k3.get hbs (by simp)
    refine ⟨ar.cells (ks.trans k3) hcb,lx' hb3 rfl,lx' hb3 rfl,_,k3.cell hs2 (by simp),?_⟩
    rw [asS_str,asS_str,aT];simp only [aD];refine ⟨by omega,?_⟩
    refine aa.use (hB _ (ks.trans k3)) ?_;rintro _ h5 ⟨rfl,k5⟩;refine ⟨(k3.trans k5).cell hs2 (by simp),lx' (k5.get hb3 (by simp)) rfl,?_⟩
    rw [asS_str,aT];simp only [aD,List.length_append];exact ⟨by omega,fin ((ks.trans k3).trans k5)⟩
   ·refine aa.use (hA hS ks) ?_;rintro _ h3 ⟨rfl,k3⟩;have hb3:=k3.get hbs (by simp)
    refine ⟨ar.cells (ks.trans k3) hcb,lx' hb3 rfl,lx' hb3 rfl,?_⟩;rw [asS_str,asS_str,aT];simp only [aD];refine ⟨by omega,?_⟩
    refine aa.use (hB _ (ks.trans k3)) ?_;rintro _ h5 ⟨rfl,k5⟩;refine ⟨lx' (k5.get hb3 (by simp)) rfl,?_⟩
    rw [asS_str,aT];simp only [aD,List.length_append];exact ⟨by omega,fin ((ks.trans k3).trans k5)⟩
end
section
variable  {ω:Amb}
theorem ri (s:ByteArray)(hs:s.size≤1000)(h:Hp)(X:XT) :
  aa Tryz.prog ω jV [.string s] h (fun r h'=>r=.string (bs (rj s))∧h'=h) X:=by
 refine jI ω _ h _ X ?_;unfold dA;refine ⟨fun o t h'=>∃k:Nat,t=.int .i64 k∧k≤s.size - 1∧o=.string (bs (((bytesOf s).take k).flatMap kwd))∧h=h',fun _ t _=>match t with|.int _ k=>s.size - k.toNat|_=>0,
  ⟨0,rfl,by omega,rfl,rfl⟩,?_⟩
 rintro _ _ _ _ ⟨k,rfl,hk,rfl,rfl⟩;have hlen:=Ao ((bytesOf s).take k);rw [List.length_take,aC] at hlen;rw [asS_str,asK_int,i64_in (by omega) (by omega)]
 refine ae (fun hc=>?_) (fun hc=>?_)
 ·have hkl:=of_decide_eq_true hc;refine ⟨fun v h'=>v=.string (bs (((bytesOf s).take (k+1)).flatMap kwd))∧h=h',?_,?_⟩
  ·rw [asK_int,asS_str,asI_int,i64_in (by omega) (by omega)]
   refine ⟨by omega,by omega,by omega,?_⟩
   rw [Int.toNat_natCast,show Int.toNat ((k:Int)+1)=k+1 by omega,fj s (by omega) 115,Dq s (by omega)]
   refine ⟨fun v h'=>v=.string (bs (((bytesOf s).take k).flatMap kwd++kwd (cAt s k)))∧h=h',ae (fun hc=>?_) (fun hc=>?_),fun _ _ _ hj=>hj⟩
   ·simp only [asS_str,lit,aT,aD];rw [kwd,if_pos (of_decide_eq_true hc)];exact ⟨by simp only [List.length_cons,List.length_nil];omega,rfl,trivial⟩
   ·simp only [asS_str,lit,aT,aD];rw [kwd,if_neg (of_decide_eq_false hc)];exact ⟨by simp only [List.length_cons,List.length_nil];omega,rfl,trivial⟩
  ·rintro _ _ _ ⟨rfl,rfl⟩;rw [asK_int,i64_in (by omega) (by omega)]
   exact ⟨⟨k+1,by simp,by omega,rfl,rfl⟩,by simp;omega⟩
 ·have hc:=of_decide_eq_false hc;obtain rfl:k=s.size - 1:=by omega
  simp only [asS_str,lit,aT,aD];exact ⟨by simp only [List.length_cons,List.length_nil];omega,rfl,trivial⟩
end
def wdL (d:Int):List UInt8 :=
 if d=1 then [108,101,116]
 else if d=2 then [115,101,116]
 else if d=3 then [101,109,105,116]
 else if d=4 then [99,104,97,110]
 else if d=5 then [99,108,111,110,101]
 else if d=6 then [115,101,110,100]
 else if d=7 then [99,108,111,115,101]
 else if d=8 then [97,98,97,110,100,111,110]
 else if d=9 then [100,114,97,105,110]
 else if d=10 then [115,112,97,119,110]
 else if d=11 then [116,97,107,101]
 else if d=12 then [102,111,114]
 else if d=13 then [114,101,112,101,97,116]
 else if d=14 then [105,102]
 else []
def wdT:List Value:=[(.string ⟨#[]⟩),(.string ⟨#[108,101,116]⟩),(.string ⟨#[115,101,116]⟩),(.string ⟨#[101,109,105,116]⟩),(.string ⟨#[99,104,97,110]⟩),(.string ⟨#[99,108,111,110,101]⟩),(.string ⟨#[115,101,110,100]⟩),(.string ⟨#[99,108,111,115,101]⟩),(.string ⟨#[97,98,97,110,100,111,110]⟩),(.string ⟨#[100,114,97,105,110]⟩),(.string ⟨#[115,112,97,119,110]⟩),(.string ⟨#[116,97,107,101]⟩),(.string ⟨#[102,111,114]⟩),(.string ⟨#[114,101,112,101,97,116]⟩),(.string ⟨#[105,102]⟩)]
theorem Kl:∀k:Nat,k < 15→wdT[k]?=some (.string (bs (wdL (k:Int))))
 |0,_=>rfl
 |1,_=>rfl
 |2,_=>rfl
 |3,_=>rfl
 |4,_=>rfl
 |5,_=>rfl
 |6,_=>rfl
 |7,_=>rfl
 |8,_=>rfl
 |9,_=>rfl
 |10,_=>rfl
 |11,_=>rfl
 |12,_=>rfl
 |13,_=>rfl
 |14,_=>rfl
 |k+15,h=>absurd h (by omega)
def p1R (x:St):List UInt8:=if emp x.a then [] else [32]++bytesOf x.a
def p2R (x:St):List UInt8:=if x.d=1∨x.d=2 then [32,61] else []
def p3R (x:St):List UInt8:=if x.d=11∨x.d=12 then [32,102,114,111,109] else []
def p4R (x:St):List UInt8:=if emp x.b then [] else [32]++bytesOf x.b
def p5R (x:St):List UInt8:=if x.d=4 then [32]++rj x.t++[32]++Lib.itoa x.n else []
def p6R (x:St):List UInt8:=if x.d=10 then [40] else []
def esR (d:Int):List Ex→List UInt8
 |[]=>[]
 |x::r=>(if d=10 then [] else [32])++cb (x::r)
def p7R (x:St):List UInt8:=if x.d=10 then [41] else []
theorem xJ (sep:List UInt8)(l:List (List UInt8))(y:List UInt8):Lib.join (l++[y]) sep=if l.length=0 then y else Lib.join l sep++sep++y:=by
 cases l with
 |nil=>simp [Lib.join_one]
 |cons a r =>
  rw [if_neg (by simp),List.cons_append,Lib.join_cons,Lib.join_cons]
  unfold Lib.joinTail;simp
theorem Av (l:List Ex)(y:Ex):cb (l++[y])=if l.length=0 then exT y else cb l++[44,32]++exT y:=by
 unfold cb;rw [List.map_append,List.map_singleton,xJ,List.length_map]
theorem Af (d:Int)(l:List Ex)(y:Ex):esR d (l++[y])=esR d l++((if 0 < l.length then [44,32] else if d=10 then [] else [32])++exT y):=by
 cases l with
 |nil=>simp [esR,cb,Lib.join_one]
 |cons a r =>
  rw [if_pos (show 0 < (a::r).length by simp)]
  show (if d=10 then [] else [32])++cb ((a::r)++[y])=_
  rw [Av,if_neg (show ¬(a::r).length=0 by simp)]
  simp [esR]
theorem db {s:ByteArray}(h:aF s=true):¬emp s:=by
 unfold aF cK at h;simp only [Bool.and_eq_true,decide_eq_true_eq] at h;intro he;have h0:s.size=0:=by
  rw [←aC,show bytesOf s=[] from he]
  rfl
 have:=h.1.1;omega
theorem HJ {l:List Ex}(h:(l.length:Int)=1):∃y,l=[y]:=CM (by omega)
theorem yM {l:List Ex}(h:(l.length:Int)=0):l=[]:=List.eq_nil_of_length_eq_zero (by omega)
set_option maxHeartbeats 1000000 in
theorem Gy {x:St}{f:Fm}{deep:Int}(h:Iv x f deep):wdL x.d++p1R x++p2R x++p3R x++p4R x++p5R x++p6R x++esR x.d x.e=bf x++cb x.e:=by
 have hf:=h.form;have h1:=h.d1;have h2:=h.d2;have na:=h.na;have nb:=h.nb;have ea:=h.ea;have eb:=h.eb;have ne:=h.ne;have hd:x.d=1∨x.d=2∨x.d=3∨x.d=4∨x.d=5∨x.d=6∨x.d=7∨x.d=8∨x.d=9∨x.d=10∨x.d=11∨x.d=12∨x.d=13∨x.d=14:=by omega
 rcases hd with hd|hd|hd|hd|hd|hd|hd|hd|hd|hd|hd|hd|hd|hd
 ·rw [hd] at hf;obtain rfl:=Option.some.inj hf;have ha:=db (na rfl);have hb:=eb rfl;obtain ⟨y,hy⟩:=HJ (ne (by decide))
  simp [p1R,p2R,p3R,p4R,p5R,p6R,wdL,bf,hd,ha,hb,hy,esR,cb,Lib.join_one]
 ·rw [hd] at hf;obtain rfl:=Option.some.inj hf;have ha:=db (na rfl);have hb:=eb rfl;obtain ⟨y,hy⟩:=HJ (ne (by decide))
  simp [p1R,p2R,p3R,p4R,p5R,p6R,wdL,bf,hd,ha,hb,hy,esR,cb,Lib.join_one]
 ·rw [hd] at hf;obtain rfl:=Option.some.inj hf;have ha:=ea rfl;have hb:=eb rfl;obtain ⟨y,hy⟩:=HJ (ne (by decide))
  simp [p1R,p2R,p3R,p4R,p5R,p6R,wdL,bf,hd,ha,hb,hy,esR,cb,Lib.join_one]
 ·rw [hd] at hf;obtain rfl:=Option.some.inj hf;have ha:=db (na rfl);have hb:=db (nb rfl);have hy:=yM (ne (by decide))
  simp [p1R,p2R,p3R,p4R,p5R,p6R,wdL,bf,hd,ha,hb,hy,esR,cb,Lib.join_nil]
 ·rw [hd] at hf;obtain rfl:=Option.some.inj hf;have ha:=db (na rfl);have hb:=db (nb rfl);have hy:=yM (ne (by decide))
  simp [p1R,p2R,p3R,p4R,p5R,p6R,wdL,bf,hd,ha,hb,hy,esR,cb,Lib.join_nil]
 ·rw [hd] at hf;obtain rfl:=Option.some.inj hf;have ha:=db (na rfl);have hb:=eb rfl;obtain ⟨y,hy⟩:=HJ (ne (by decide))
  simp [p1R,p2R,p3R,p4R,p5R,p6R,wdL,bf,hd,ha,hb,hy,esR,cb,Lib.join_one]
 ·rw [hd] at hf;obtain rfl:=Option.some.inj hf;have ha:=db (na rfl);have hb:=eb rfl;have hy:=yM (ne (by decide))
  simp [p1R,p2R,p3R,p4R,p5R,p6R,wdL,bf,hd,ha,hb,hy,esR,cb,Lib.join_nil]
 ·rw [hd] at hf;obtain rfl:=Option.some.inj hf;have ha:=db (na rfl);have hb:=eb rfl;have hy:=yM (ne (by decide))
  simp [p1R,p2R,p3R,p4R,p5R,p6R,wdL,bf,hd,ha,hb,hy,esR,cb,Lib.join_nil]
 ·rw [hd] at hf;obtain rfl:=Option.some.inj hf;have ha:=db (na rfl);have hb:=eb rfl;have hy:=yM (ne (by decide))
  simp [p1R,p2R,p3R,p4R,p5R,p6R,wdL,bf,hd,ha,hb,hy,esR,cb,Lib.join_nil]
 ·rw [hd] at hf;obtain rfl:=Option.some.inj hf;have ha:=db (na rfl);have hb:=eb rfl;cases hy:x.e with
  |nil=>simp [p1R,p2R,p3R,p4R,p5R,p6R,wdL,bf,hd,ha,hb,esR,cb,Lib.join_nil]
  |cons y r=>simp [p1R,p2R,p3R,p4R,p5R,p6R,wdL,bf,hd,ha,hb,esR]
 ·rw [hd] at hf;obtain rfl:=Option.some.inj hf;have ha:=db (na rfl);have hb:=db (nb rfl);have hy:=yM (ne (by decide))
  simp [p1R,p2R,p3R,p4R,p5R,p6R,wdL,bf,hd,ha,hb,hy,esR,cb,Lib.join_nil]
 ·rw [hd] at hf;obtain rfl:=Option.some.inj hf;have ha:=db (na rfl);have hb:=db (nb rfl);have hy:=yM (ne (by decide))
  simp [p1R,p2R,p3R,p4R,p5R,p6R,wdL,bf,hd,ha,hb,hy,esR,cb,Lib.join_nil]
 ·rw [hd] at hf;obtain rfl:=Option.some.inj hf;have ha:=ea rfl;have hb:=eb rfl;obtain ⟨y,hy⟩:=HJ (ne (by decide))
  simp [p1R,p2R,p3R,p4R,p5R,p6R,wdL,bf,hd,ha,hb,hy,esR,cb,Lib.join_one]
 ·rw [hd] at hf;obtain rfl:=Option.some.inj hf;have ha:=ea rfl;have hb:=eb rfl;obtain ⟨y,hy⟩:=HJ (ne (by decide))
  simp [p1R,p2R,p3R,p4R,p5R,p6R,wdL,bf,hd,ha,hb,hy,esR,cb,Lib.join_one]
theorem yZ {x:St}{f:Fm}{deep:Int}(h:Iv x f deep):f.body=decide (11≤x.d):=by
 have hf:=h.form;have h1:=h.d1;have h2:=h.d2;have hd:x.d=1∨x.d=2∨x.d=3∨x.d=4∨x.d=5∨x.d=6∨x.d=7∨x.d=8∨x.d=9∨x.d=10∨x.d=11∨x.d=12∨x.d=13∨x.d=14:=by omega
 rcases hd with hd|hd|hd|hd|hd|hd|hd|hd|hd|hd|hd|hd|hd|hd<;>rw [hd] at hf<;>obtain rfl:=Option.some.inj hf<;>rw [hd]<;>rfl
theorem FP (s:ByteArray){A B:Prop}(ha:¬emp s→A)(hb:emp s→B):cond (!(s.toList==ByteArray.toList ⟨#[]⟩)) A B:=by
 rw [eqE]
 by_cases h:emp s
 ·rw [decide_eq_true h];exact hb h
 ·rw [decide_eq_false h];exact ha h
section
variable  {ω:Amb}
def JB (ω:Amb)(l:List St):Prop:=∀(h:Hp) (v:Value) (k:Nat),StS h v l→ee h→tZ (k+1) l→k≤7→(pw k l).length≤100000000→∀(X:XT),
 aa Tryz.prog ω jr [v,.string (bs (ra k))] h (fun r h'=>r=.string (bs (pw k l))∧KF h h') X
set_option maxHeartbeats 800000 in
theorem xn (x:St)(hle:stN x≤80000)(hok:y8 x)(hB:JB ω x.body)(hE:JB ω x.els)(h:Hp)(ve vb vl:Value)(k:Nat)(he:ExS h ve x.e)(hbd:StS h vb x.body)(hel:StS h vl x.els)
  (ht:ee h) (hg:stG k x) (hd:k≤8) (hlen:(stT k x).length≤100000000) (X:XT) :
  aa Tryz.prog ω jP [.agg (stC x ve vb vl).toArray,.string (bs (ra k))] h (fun r h'=>r=.string (bs (stT k x))∧KF h h') X:=by
 refine jE ω _ _ h _ X ?_;unfold dB;simp only [show Value.cells (.agg (stC x ve vb vl).toArray)=(stC x ve vb vl).toArray from rfl,show List.toArray [(.string ⟨#[]⟩),(.string ⟨#[108,101,116]⟩),(.string ⟨#[115,101,116]⟩),(.string ⟨#[101,109,105,116]⟩),(.string ⟨#[99,104,97,110]⟩),(.string ⟨#[99,108,111,110,101]⟩),(.string ⟨#[115,101,110,100]⟩),(.string ⟨#[99,108,111,115,101]⟩),(.string ⟨#[97,98,97,110,100,111,110]⟩),(.string ⟨#[100,114,97,105,110]⟩),(.string ⟨#[115,112,97,119,110]⟩),(.string ⟨#[116,97,107,101]⟩),(.string ⟨#[102,111,114]⟩),(.string ⟨#[114,101,112,101,97,116]⟩),(.string ⟨#[105,102]⟩)]=wdT.toArray from rfl]
 obtain ⟨oa,ob,ot,oe,o5,o6⟩:=fi.1 hok;have oa:x.a.size≤100:=oa;have ob:x.b.size≤100:=ob;have ot:x.t.size≤100:=ot;obtain ⟨hg1,hg2,hg3⟩:=nj.1 hg;obtain ⟨f,hf⟩:=sK hg1;have hxe:=iG x;have hT:=Ab k x;have hle':=Gy hf;rw [hf.fm,List.append_assoc (ra k),←hle'] at hT;have hTl:=congrArg List.length hT;simp only [List.length_append,bk] at hTl;have d1:=hf.d1;have d2:=hf.d2;have hb1:=af (h:=h) (o:=.cells (stC x ve vb vl).toArray 39 (0,0))
 have kp:=ar.push (S:=fun _=>False) h (.cells (stC x ve vb vl).toArray 39 (0,0));generalize h.push (.cells (stC x ve vb vl).toArray 39 (0,0))=h1 at *;have hw2:=af (h:=h1) (o:=.cells wdT.toArray 9 (0,0));have k1:=ar.push (S:=fun _=>False) h1 (.cells wdT.toArray 9 (0,0));generalize h1.push (.cells wdT.toArray 9 (0,0))=h2 at *;have hb2:=k1.get hb1 (by simp)
 have k02:=kp.trans k1;refine lx hb2 (j:=0) rfl ?_;obtain ⟨o,ho⟩:∃o:Nat,x.d=o:=⟨x.d.toNat,by omega⟩
 rw [ho,asI_int];refine ⟨by omega,by omega,?_⟩
 rw [Int.toNat_natCast,Nat.mul_one];refine lx hw2 (Kl o (by omega)) ?_
 rw [←ho,asS_str,asS_str];simp only [aT,aD,List.length_append,bk];refine ⟨by omega,?_⟩
 refine lx hb2 (j:=2) rfl ?_;rw [asS_str];refine ⟨fun v h'=>v=.string (bs (ra k++wdL x.d++p1R x))∧h2=h',FP x.a (fun hc=>?_) (fun hc=>?_),?_⟩
 ·refine lx hb2 (j:=2) rfl ?_;rw [asS_str];have hp:p1R x=[32]++bytesOf x.a:=by rw [p1R,if_neg hc]
  have hpl:=congrArg List.length hp;simp only [List.length_append,aC,List.length_cons,List.length_nil] at hpl;simp only [lit,da,aD,List.length_cons,List.length_nil];refine ⟨by omega,by omega,?_,trivial⟩
  rw [hp];simp only [←aT,iA]
 ·rw [p1R,if_pos hc,List.append_nil];exact ⟨rfl,rfl⟩
 rintro _ _ _ ⟨rfl,rfl⟩;refine ⟨decide (x.d=1∨x.d=2),?_,fun _=>?_⟩
 ·refine lx hb2 (j:=0) rfl ?_;rw [asK_int];refine ae (fun hc=>?_) (fun hc=>?_)
  ·rw [decide_eq_true (.inl (eq_of_beq hc))];exact ⟨rfl,trivial⟩
  ·refine lx hb2 (j:=0) rfl ?_;rw [asK_int];have:=beq_eq_false_iff_ne.1 hc;refine ⟨?_,trivial⟩
   congr 1
   rw [Bool.eq_iff_iff];simp [this]
 refine ⟨fun v h'=>v=.string (bs (ra k++wdL x.d++p1R x++p2R x))∧h2=h',ae (fun hc=>?_) (fun hc=>?_),?_⟩
 ·have hp:p2R x=[32,61]:=by rw [p2R,if_pos (of_decide_eq_true hc)]
  rw [asS_str];simp only [lit,aT,aD,List.length_append,bk,List.length_cons,List.length_nil];exact ⟨by omega,by rw [hp],trivial⟩
 ·have hp:p2R x=[]:=by rw [p2R,if_neg (of_decide_eq_false hc)]
  rw [hp,List.append_nil];exact ⟨rfl,rfl⟩
 rintro _ _ _ ⟨rfl,rfl⟩;refine ⟨decide (x.d=11∨x.d=12),?_,fun _=>?_⟩
 ·refine lx hb2 (j:=0) rfl ?_;rw [asK_int];refine ae (fun hc=>?_) (fun hc=>?_)
  ·rw [decide_eq_true (.inl (eq_of_beq hc))];exact ⟨rfl,trivial⟩
  ·refine lx hb2 (j:=0) rfl ?_;rw [asK_int];have:=beq_eq_false_iff_ne.1 hc;refine ⟨?_,trivial⟩
   congr 1
   rw [Bool.eq_iff_iff];simp [this]
 refine ⟨fun v h'=>v=.string (bs (ra k++wdL x.d++p1R x++p2R x++p3R x))∧h2=h',ae (fun hc=>?_) (fun hc=>?_),?_⟩
 ·have hp:p3R x=[32,102,114,111,109]:=by rw [p3R,if_pos (of_decide_eq_true hc)]
  rw [asS_str];simp only [lit,aT,aD,List.length_append,bk,List.length_cons,List.length_nil];exact ⟨by omega,by rw [hp],trivial⟩
 ·have hp:p3R x=[]:=by rw [p3R,if_neg (of_decide_eq_false hc)]
  rw [hp,List.append_nil];exact ⟨rfl,rfl⟩
 rintro _ _ _ ⟨rfl,rfl⟩;refine lx hb2 (j:=3) rfl ?_;rw [asS_str];refine ⟨fun v h'=>v=.string (bs (ra k++wdL x.d++p1R x++p2R x++p3R x++p4R x))∧h2=h',FP x.b (fun hc=>?_) (fun hc=>?_),?_⟩
 ·refine lx hb2 (j:=3) rfl ?_;rw [asS_str];have hp:p4R x=[32]++bytesOf x.b:=by rw [p4R,if_neg hc]
  have hpl:=congrArg List.length hp;simp only [List.length_append,aC,List.length_cons,List.length_nil] at hpl;simp only [lit,asS_str,da,aD,List.length_append,bk,List.length_cons,List.length_nil];refine ⟨by omega,by omega,?_,trivial⟩
  rw [hp];simp only [←aT,iA]
 ·rw [p4R,if_pos hc,List.append_nil];exact ⟨rfl,rfl⟩
 rintro _ _ _ ⟨rfl,rfl⟩;refine lx hb2 (j:=0) rfl ?_;rw [asK_int];refine ⟨fun v h'=>v=.string (bs (ra k++wdL x.d++p1R x++p2R x++p3R x++p4R x++p5R x))∧KF h2 h',ae (fun hc=>?_) (fun hc=>?_),?_⟩
 ·have hp:p5R x=[32]++rj x.t++[32]++Lib.itoa x.n:=by rw [p5R,if_pos (eq_of_beq hc)]
  have hpl:=congrArg List.length hp;simp only [List.length_append,List.length_cons,List.length_nil] at hpl;have n0:=hf.n0;have n1:=hf.n1;refine lx hb2 (j:=4) rfl ?_;refine lx hb2 (j:=5) rfl ?_;refine aa.use (ri x.t (by omega) h2) ?_
  rintro _ _ ⟨rfl,rfl⟩;refine ⟨lx' hb2 rfl,?_⟩;rw [asS_str];simp only [lit,aT,aD,List.length_append,List.length_cons,List.length_nil];refine ⟨by omega,by omega,?_⟩
  refine aa.use (uv x.n (by omega) (by omega) _ (ht.more k02)) ?_
  rintro _ h3 ⟨rfl,k3⟩;have hib:itB x.n=bs (Lib.itoa x.n):=rfl;rw [hib];simp only [asS_str,aT,aD,List.length_append,List.length_cons,List.length_nil,bk];exact ⟨by omega,by omega,by rw [hp],k3⟩
 ·have hp:p5R x=[]:=by rw [p5R,if_neg (beq_eq_false_iff_ne.1 hc)]
  rw [hp,List.append_nil];exact ⟨rfl,ar.refl _ _⟩
 rintro _ _ h3 ⟨rfl,k3⟩;have hb3:=k3.get hb2 (by simp)
 have k03:=k02.trans k3;refine lx hb3 (j:=0) rfl ?_;rw [asK_int];refine ⟨fun v h'=>v=.string (bs (ra k++wdL x.d++p1R x++p2R x++p3R x++p4R x++p5R x++p6R x))∧h3=h',ae (fun hc=>?_) (fun hc=>?_),?_⟩
 ·have hp:p6R x=[40]:=by rw [p6R,if_pos (eq_of_beq hc)]
  rw [asS_str];simp only [lit,aT,aD,List.length_append,bk,List.length_cons,List.length_nil];exact ⟨by omega,by rw [hp],trivial⟩
 ·have hp:p6R x=[]:=by rw [p6R,if_neg (beq_eq_false_iff_ne.1 hc)]
  rw [hp,List.append_nil];exact ⟨rfl,rfl⟩
 rintro _ _ _ ⟨rfl,rfl⟩;generalize hpre:ra k++wdL x.d++p1R x++p2R x++p3R x++p4R x++p5R x++p6R x=pre;have hprel:=congrArg List.length hpre;simp only [List.length_append,bk] at hprel;have hlx:=fh x.e;refine ⟨fun o t h'=>∃j:Nat,t=.int .i64 j∧j≤x.e.length∧o=.string (bs (pre++esR x.d (x.e.take j)))∧(esR x.d (x.e.take j)).length≤(esR x.d x.e).length∧KF h3 h',fun _ t _=>match t with|.int _ j=>x.e.length - j.toNat|_=>0,
  ⟨0,rfl,by omega,by simp [esR],by simp [esR],ar.refl _ _⟩,?_⟩
 rintro _ _ _ h4 ⟨j,rfl,hj,rfl,hjl,k4⟩;have hb4:=k4.get hb3 (by simp)
 have k04:=k03.trans k4;have he4:=he.az k04;refine lx hb4 (j:=6) rfl ?_;refine he4.sl fun _ _=>?_;rw [asK_int];refine ae (fun hc=>?_) (fun hc=>?_)
 ·have hkl:j < x.e.length:=by
   have:=of_decide_eq_true hc;omega
  have hx:=List.getElem?_eq_getElem hkl;have hdr:=fS hx;have hmem:x.e[j]∈x.e:=List.getElem_mem hkl;generalize x.e[j]=y at hx hmem hdr;have hyn:=bY hmem;have hyo:=bD oe hmem;have hyF:=kM hf.ex hmem;have hsn:=Af x.d (x.e.take j) y;rw [←aP hx,List.length_take,Nat.min_eq_left hj] at hsn;have hmono:(esR x.d (x.e.take (j+1))).length≤(esR x.d x.e).length:=by
   have:∀m:List Ex,∀l:List Ex,(esR x.d l).length≤(esR x.d (l++m)).length:=by
    intro m
    induction m with
    |nil=>intro l;simp
    |cons z r ih =>
     intro l;have h1:=ih (l++[z]);rw [List.append_assoc,List.singleton_append] at h1;rw [Af] at h1;simp only [List.length_append] at h1;omega
   have:=this (x.e.drop (j+1)) (x.e.take (j+1))
   rwa [List.take_append_drop] at this
  have hsl:=congrArg List.length hsn;simp only [List.length_append] at hsl;rw [asK_int];refine ⟨fun v h'=>v=.string (bs (pre++esR x.d (x.e.take j)++(if 0 < j then [44] else [])))∧h4=h',ae (fun hc=>?_) (fun hc=>?_),?_⟩
  ·have h0:0 < j:=by
    have:=of_decide_eq_true hc;omega
   rw [if_pos h0] at hsl ⊢;simp only [List.length_cons,List.length_nil] at hsl;simp only [asS_str,lit,aT,aD,List.length_append,List.length_cons,List.length_nil];exact ⟨by omega,trivial,trivial⟩
  ·have h0:¬0 < j:=by
    have:=of_decide_eq_false hc;omega
   rw [if_neg h0,List.append_nil];exact ⟨rfl,rfl⟩
  rintro _ _ _ ⟨rfl,rfl⟩;refine ⟨decide (0 < j∨x.d≠10),?_,fun _=>?_⟩
  ·rw [asK_int];refine ae (fun hc=>?_) (fun hc=>?_)
   ·have:=of_decide_eq_true hc;rw [decide_eq_true (.inl (by omega))]
    exact ⟨rfl,trivial⟩
   ·have:=of_decide_eq_false hc;refine lx hb4 (j:=0) rfl ?_;rw [asK_int];refine ⟨?_,trivial⟩
    congr 1
    rw [Bool.eq_iff_iff];simp;omega
  refine ⟨fun v h'=>v=.string (bs (pre++esR x.d (x.e.take j)++(if 0 < j then [44,32] else if x.d=10 then [] else [32])))∧h4=h',ae (fun hc=>?_) (fun hc=>?_),?_⟩
  ·have hor:=of_decide_eq_true hc
   by_cases h0:0 < j
   ·rw [if_pos h0] at hsl;rw [if_pos h0,if_pos h0];simp only [List.length_cons,List.length_nil] at hsl;simp only [asS_str,lit,aT,aD,List.length_append,List.length_cons,List.length_nil];refine ⟨by omega,?_,trivial⟩
    simp
   ·have h10:¬x.d=10:=hor.resolve_left h0;rw [if_neg h0,if_neg h10] at hsl;rw [if_neg h0,if_neg h0,if_neg h10];simp only [List.length_cons,List.length_nil] at hsl;simp only [asS_str,lit,aT,aD,List.length_append,List.length_cons,List.length_nil];refine ⟨by omega,?_,trivial⟩
    simp
  ·have hor:=of_decide_eq_false hc;have h0:¬0 < j:=fun h=>hor (.inl h);have h10:x.d=10:=Decidable.not_not.1 fun h=>hor (.inr h);rw [if_neg h0,if_neg h0,if_pos h10];exact ⟨rfl,rfl⟩
  rintro _ _ _ ⟨rfl,rfl⟩;refine lx hb4 (j:=6) rfl ?_;refine he4.rdC hx fun w hw=>?_;refine aa.use (xU _ y (Nat.lt_succ_self _) (by omega) hyo hyF h4 w 0 hw (ht.more k04) (by decide)) ?_
  rintro _ h5 ⟨rfl,k5⟩;have hbr:brk 0 (y.op,exT y)=exT y:=by
   unfold brk;rw [if_neg];unfold rk
   repeat' split
   all_goals simp
  rw [hbr];simp only [asS_str,aT,aD,List.length_append];rw [asK_int,i64_in (by omega) (by omega)]
  refine ⟨by omega,⟨j+1,by simp,by omega,?_,hmono,k4.trans k5⟩,by simp;omega⟩
  rw [hsn];simp only [List.append_assoc]
 have hc:=of_decide_eq_false hc;obtain rfl:j=x.e.length:=by omega
 rw [List.take_length] at hjl ⊢;refine lx hb4 (j:=0) rfl ?_;rw [asK_int];have hpe:ra k++(wdL x.d++p1R x++p2R x++p3R x++p4R x++p5R x++p6R x++esR x.d x.e)=pre++esR x.d x.e:=by
  rw [←hpre];simp only [List.append_assoc]
 rw [hpe,yZ hf] at hT;rw [yZ hf] at hTl;have htotal:=congrArg List.length hT;simp only [List.length_append] at htotal;refine ⟨fun v h'=>v=.string (bs (pre++esR x.d x.e++p7R x))∧h4=h',ae (fun hc=>?_) (fun hc=>?_),?_⟩
 ·have h10:x.d=10:=eq_of_beq hc;have hp:p7R x=[41]:=by rw [p7R,if_pos h10]
  rw [h10] at htotal;have htotal:=htotal;simp only [show decide ((11:Int)≤10)=false from rfl,Bool.false_eq_true,if_false,if_true,List.length_append,List.length_cons,List.length_nil] at htotal
  simp only [asS_str,lit,aT,aD,List.length_append,List.length_cons,List.length_nil];exact ⟨by rw [h10];omega,by rw [hp],trivial⟩
 ·have hp:p7R x=[]:=by rw [p7R,if_neg (beq_eq_false_iff_ne.1 hc)]
  rw [hp,List.append_nil];exact ⟨rfl,rfl⟩
 rintro _ _ _ ⟨rfl,rfl⟩;refine lx hb4 (j:=0) rfl ?_;rw [asK_int];refine ae (fun hc=>?_) (fun hc=>?_)
 ·have hlt:=of_decide_eq_true hc;rw [decide_eq_false (by omega),if_neg (by decide)] at hT htotal
  have hp7:p7R x=if x.d=10 then [41] else []:=rfl
  simp only [asS_str,lit,aT,aD,List.length_append,List.length_cons,List.length_nil] at htotal ⊢;rw [←hp7] at htotal;refine ⟨by omega,?_,k04⟩
  rw [hT,←hp7];simp only [List.append_assoc]
 ·have hge:=of_decide_eq_false hc;rw [decide_eq_true (by omega),if_pos rfl] at hT htotal
  have hp7:p7R x=[]:=by rw [p7R,if_neg (by omega)]
  have hbo:f.body=true:=by rw [yZ hf,decide_eq_true (by omega)]
  have hd8:=hf.dp hbo;simp only [List.length_append,List.length_cons,List.length_nil] at htotal;rw [hp7,List.append_nil];refine lx hb4 (j:=7) rfl ?_;refine aa.use (hB h4 vb k (hbd.az k04) (ht.more k04) hg2 (by omega) (by omega)) ?_
  rintro _ h5 ⟨rfl,k5⟩;have hb5:=k5.get hb4 (by simp)
  have k05:=k04.trans k5;simp only [asS_str,aT,aD,List.length_append];refine ⟨by omega,?_⟩
  refine lx hb5 (j:=8) rfl ?_;refine (hel.az k05).sl fun _ _=>?_;refine ⟨fun v h'=>v=.string (bs (pre++esR x.d x.e++pw k x.body++(if x.els.length=0 then [] else [32,101,108,115,101]++pw k x.els)))∧KF h5 h',ae (fun hc=>?_) (fun hc=>?_),?_⟩
  ·have hne:¬x.els.length=0:=by
    have:=of_decide_eq_true hc;omega
   rw [if_neg hne] at htotal ⊢;simp only [List.length_append,List.length_cons,List.length_nil] at htotal;refine lx hb5 (j:=8) rfl ?_;refine aa.use (hE h5 vl k (hel.az k05) (ht.more k05) hg3 (by omega) (by omega)) ?_
   rintro _ h6 ⟨rfl,k6⟩;simp only [asS_str,lit,aT,aD,List.length_append,List.length_cons,List.length_nil];exact ⟨by omega,by omega,trivial,k6⟩
  ·have hne:x.els.length=0:=by
    have:=of_decide_eq_false hc;omega
   rw [if_pos hne,List.append_nil];exact ⟨rfl,ar.refl _ _⟩
  ·rintro _ _ h6 ⟨rfl,k6⟩;simp only [asS_str,lit,aT,aD,List.length_append,List.length_cons,List.length_nil];refine ⟨by omega,?_,k05.trans k6⟩
   rw [hT];simp only [List.append_assoc]
theorem E8 (k:Nat):ra k++[9]=ra (k+1):=by
 unfold ra;rw [←List.replicate_succ']
theorem vz:∀(N:Nat) (l:List St),br l < N→br l≤80000→dK l→JB ω l:=by
 intro N
 induction N with
 |zero=>exact fun l hN=>absurd hN (Nat.not_lt_zero _)
 |succ N ih =>
  intro l hN hle hok h v k hs ht hg hd hlen X;refine iW ω _ _ h _ X ?_;unfold cT;have hll:=om l;have hbl:(pw k l).length=3+(pS (k+1) l).length+k+1:=by
   unfold pw;simp only [List.length_append,bk,List.length_cons,List.length_nil]
  refine ⟨fun o t h'=>∃j:Nat,t=.int .i64 j∧j≤l.length∧o=.string (bs ([32,123,10]++pS (k+1) (l.take j)))∧KF h h',fun _ t _=>match t with|.int _ k=>l.length - k.toNat|_=>0,
   ⟨0,rfl,by omega,rfl,ar.refl _ _⟩,?_⟩
  rintro _ _ _ h3 ⟨j,rfl,hj,rfl,k3⟩;have hs3:=hs.az k3;refine hs3.sl fun _ _=>?_;rw [asK_int];refine ae (fun hc=>?_) (fun hc=>?_)
  ·have hkl:j < l.length:=by
    have:=of_decide_eq_true hc;omega
   have hx:=List.getElem?_eq_getElem hkl;have hdr:=fS hx;have hmem:l[j]∈l:=List.getElem_mem hkl;generalize l[j]=x at hx hmem hdr;have hxn:=iK hmem;have hxe:=iG x;have hxo:=mG hok hmem;obtain ⟨_,_,_,_,hob,hoe⟩:=fi.1 hxo;have hsp:=rm (k+1) (l.take j) (l.drop j);rw [List.take_append_drop,hdr] at hsp;have hsp:=congrArg List.length hsp;simp only [pS,List.length_append] at hsp;have hgx:stG ((k+1:Nat):Int) x:=ru hg hmem
   refine hs3.rdC hx fun ve vb vl he hbd hel=>?_;rw [asS_str,lit];simp only [aT,aD,List.length_append,bk,List.length_cons,List.length_nil];refine ⟨by omega,?_⟩
   rw [E8];refine aa.use (xn x (by omega) hxo (ih x.body (by omega) (by omega) hob) (ih x.els (by omega) (by omega) hoe) h3 ve vb vl (k+1) he hbd hel (ht.more k3) hgx (by omega) (by omega)) ?_
   rintro _ h5 ⟨rfl,k5⟩;simp only [asS_str,asK_int,aT,aD,List.length_append,List.length_cons,List.length_nil];rw [i64_in (by omega) (by omega)]
   refine ⟨by omega,⟨j+1,by simp,by omega,?_,k3.trans k5⟩,by simp;omega⟩
   rw [aP hx,xf];simp only [List.append_assoc]
  ·have hc:=of_decide_eq_false hc;obtain rfl:j=l.length:=by omega
   rw [List.take_length];simp only [asS_str,lit,aT,aD,List.length_append,bk,List.length_cons,List.length_nil];exact ⟨by omega,by omega,rfl,k3⟩
end
theorem wN (l:List (ByteArray×ByteArray))(q:ByteArray×ByteArray):rA (l++[q])=rA l++(if 0 < l.length then [44,32] else [])++prT q:=by
 unfold rA;rw [List.map_append,List.map_singleton,xJ,List.length_map];cases l with
 |nil=>simp [Lib.join_nil]
 |cons a r=>simp
section
variable  {ω:Amb}
set_option maxHeartbeats 400000 in
theorem Fg (p:List Sg)(hsm:Small p)(hok:HY p)(v:Value)(h:Hp)(hp:PgS h v p)(ht:ee h)(X:XT) :
  aa Tryz.prog ω ou [v] h (fun r h'=>r=.string (bs (pgT p))∧KF h h') X:=by
 obtain ⟨w0,rfl,hs⟩:=hp;refine ow ω _ h _ X ?_;unfold gj;simp only [show Value.cells (.agg #[w0])=[w0].toArray from rfl]
 have hlen:=hok.len;have htl:=yz p fun s hs=>⟨hsm.nm s hs,hok.ok s hs⟩;have htot:=hsm.tot;have hb0:=af (h:=h) (o:=.cells [w0].toArray 24 (0,0));have k0:=ar.push (S:=fun _=>False) h (.cells [w0].toArray 24 (0,0));generalize h.push (.cells [w0].toArray 24 (0,0))=h1 at *;refine ⟨fun o t h'=>∃k:Nat,t=.int .i64 k∧k≤p.length∧o=.string (bs (pgT (p.take k)))∧KF h1 h',fun _ t _=>match t with|.int _ k=>p.length - k.toNat|_=>0,
  ⟨0,rfl,by omega,rfl,ar.refl _ _⟩,?_⟩
 rintro _ _ _ h3 ⟨k,rfl,hk,rfl,k3⟩;have hb3:=k3.get hb0 (by simp)
 have k03:=k0.trans k3;have hs3:=hs.az k03;refine lx hb3 (j:=0) rfl ?_;refine hs3.sl fun _ _=>?_;rw [asK_int];refine ae (fun hc=>?_) (fun hc=>?_)
 rotate_left
 ·have hc:=of_decide_eq_false hc;obtain rfl:k=p.length:=by omega
  rw [List.take_length];exact ⟨rfl,k03⟩
 have hkl:k < p.length:=by
  have:=of_decide_eq_true hc;omega
 have hx:=List.getElem?_eq_getElem hkl;have hdr:=fS hx;have hmem:p[k]∈p:=List.getElem_mem hkl;generalize p[k]=x at hx hmem hdr;have hxok:=hok.ok x hmem;obtain ⟨hnm,hpl,hpn,hbo⟩:=hsm.nm x hmem;have hnm:x.nm.size≤100:=hnm;have hxb:br x.body≤20000:=Nat.le_trans (sD hmem) hsm.tot;have hpp:=vx x.ps hpn;have hpl6:=hxok.pl;have hsp:pgT p=pgT (p.take k)++(sgT x++pgT (p.drop (k+1))):=by
  conv=>lhs;rw [←List.take_append_drop k p,hdr]
  unfold pgT;rw [List.flatMap_append,List.flatMap_cons]
 have hsp:=congrArg List.length hsp;simp only [List.length_append] at hsp;have hsl:(sgT x).length=8+x.nm.size+(rA x.ps).length+(pw 0 x.body).length+1:=by
  unfold sgT;simp only [List.length_append,aC,List.length_cons,List.length_nil];omega
 refine lx hb3 (j:=0) rfl ?_;refine hs3.rdC hx fun vp vb hps hbd=>?_;refine ⟨rfl,jc (du hps.2) hbd.bp,ay (cs:=sgC x vp vb) rfl ?_⟩;have hb4:=af (h:=h3) (o:=.cells (sgC x vp vb).toArray 41 (0,0));have k4:=ar.push (S:=fun _=>False) h3 (.cells (sgC x vp vb).toArray 41 (0,0));generalize h3.push (.cells (sgC x vp vb).toArray 41 (0,0))=h4 at *;have hps4:=hps.1.az k4;have hbd4:=hbd.az k4;have k04:=k03.trans k4
 refine lx hb4 (j:=0) rfl ?_;rw [asS_str];simp only [lit,asS_str,da,aD,List.length_cons,List.length_nil];refine ⟨by omega,by omega,by omega,?_⟩
 refine ⟨fun o t h'=>∃j:Nat,t=.int .i64 j∧j≤x.ps.length∧o=.string (bs (pgT (p.take k)++([115,116,97,103,101,32]++bytesOf x.nm++[40])++rA (x.ps.take j)))∧(rA (x.ps.take j)).length≤(rA x.ps).length∧KF h4 h',fun _ t _=>match t with|.int _ j=>x.ps.length - j.toNat|_=>0,
  ⟨0,rfl,by omega,?_,by simp [rA,Lib.join_nil],ar.refl _ _⟩,?_⟩
 ·rw [show rA (x.ps.take 0)=[] from rfl,List.append_nil]
  simp only [←aT,iA]
 rintro _ _ _ h5 ⟨j,rfl,hj,rfl,hjl,k5⟩;have hb5:=k5.get hb4 (by simp)
 have k05:=k04.trans k5;refine lx hb5 (j:=2) rfl ?_;refine bh.sl (hps4.az k5) fun _ _=>?_;rw [asK_int];refine ae (fun hc=>?_) (fun hc=>?_)
 ·have hjl':j < x.ps.length:=by
   have:=of_decide_eq_true hc;omega
  have hy:=List.getElem?_eq_getElem hjl';have hqm:x.ps[j]∈x.ps:=List.getElem_mem hjl';generalize x.ps[j]=q at hy hqm;obtain ⟨hq1,hq2⟩:=hpn q hqm;have hq1:q.1.size≤100:=hq1;have hq2:q.2.size≤100:=hq2;have hkl:=pY q.2;have hsn:=wN (x.ps.take j) q;rw [←aP hy,List.length_take,Nat.min_eq_left hj] at hsn;have hmono:(rA (x.ps.take (j+1))).length≤(rA x.ps).length:=by
   have:∀m:List (ByteArray×ByteArray),∀l:List (ByteArray×ByteArray),(rA l).length≤(rA (l++m)).length:=by
    intro m
    induction m with
    |nil=>intro l;simp
    |cons z r ih =>
     intro l;have h1:=ih (l++[z]);rw [List.append_assoc,List.singleton_append] at h1;rw [wN] at h1;simp only [List.length_append] at h1;omega
   have:=this (x.ps.drop (j+1)) (x.ps.take (j+1))
   rwa [List.take_append_drop] at this
  have hsl':=congrArg List.length hsn;simp only [List.length_append] at hsl';have hprl:(prT q).length=q.1.size+1+(rj q.2).length:=by
   unfold prT;simp only [List.length_append,aC,List.length_cons,List.length_nil]
  rw [asK_int];refine ⟨fun v h'=>v=.string (bs (pgT (p.take k)++([115,116,97,103,101,32]++bytesOf x.nm++[40])++rA (x.ps.take j)++(if 0 < j then [44,32] else [])))∧h5=h',ae (fun hc=>?_) (fun hc=>?_),?_⟩
  ·have h0:0 < j:=by
    have:=of_decide_eq_true hc;omega
   rw [if_pos h0] at hsl' ⊢;simp only [List.length_cons,List.length_nil] at hsl';simp only [asS_str,aT,aD,List.length_append,List.length_cons,List.length_nil,aC];exact ⟨by omega,trivial,trivial⟩
  ·have h0:¬0 < j:=by
    have:=of_decide_eq_false hc;omega
   rw [if_neg h0,List.append_nil];exact ⟨rfl,rfl⟩
  rintro _ _ _ ⟨rfl,rfl⟩;refine lx hb5 (j:=2) rfl ?_;refine bh.rdTa (f:=pf) (hps4.az k5) iF hy (o:=0) rfl fun a0 ha0=>?_;rw [asS_str];refine ⟨by omega,?_⟩
  refine lx hb5 (j:=2) rfl ?_;refine bh.rdT (f:=pf) (hps4.az k5) iF hy (o:=1) rfl ?_;refine aa.use (ri q.2 (by omega) h5) ?_
  rintro _ _ ⟨rfl,rfl⟩;refine ⟨ha0,lx' hb5 rfl,?_⟩;simp only [asS_str,asK_int,aD,List.length_append,List.length_cons,List.length_nil,aC];rw [i64_in (by omega) (by omega)]
  refine ⟨by omega,by omega,⟨j+1,by simp,by omega,?_,hmono,k5⟩,by simp;omega⟩
  rw [hsn];unfold prT;refine congrArg Value.string (aZ ?_);simp only [b5,aB,List.append_assoc]
 ·have hc:=of_decide_eq_false hc;obtain rfl:j=x.ps.length:=by omega
  rw [List.take_length];refine lx hb5 (j:=3) rfl ?_;refine aa.use (vz _ x.body (Nat.lt_succ_self _) (by omega) hbo h5 vb 0 (hbd4.az k5) (ht.more k05) (by exact hxok.body) (by omega) (by omega)) ?_
  rintro _ h6 ⟨rfl,k6⟩;simp only [asS_str,asK_int,aT,aD,List.length_append,List.length_cons,List.length_nil,aC];rw [i64_in (by omega) (by omega)]
  refine ⟨by omega,by omega,by omega,⟨k+1,by simp,by omega,?_,((k3.trans k4).trans k5).trans k6⟩,by simp;omega⟩
  have he:pgT (p.take (k+1))=pgT (p.take k)++sgT x:=by
   rw [aP hx];unfold pgT;rw [List.flatMap_append];simp
  rw [he];unfold sgT;simp only [List.append_assoc]
end
section
variable  {ω:Amb}
theorem uq (p:List Sg)(hsm:Small p)(v:Value)(h:Hp)(hp:PgS h v p)(ht:ee h)(X:XT) :
  aa Tryz.prog ω gI [v] h (fun r h'=>r=.agg (flt (bH p).1 (bH p).2).toArray∧KF h h') X:=by
 obtain ⟨w0,rfl,hs⟩:=hp;refine gU ω _ h _ X ?_;unfold cA;simp only [show Value.cells (.agg #[w0])=[w0].toArray from rfl]
 have hb0:=af (h:=h) (o:=.cells [w0].toArray 24 (0,0));have k0:=ar.push (S:=fun _=>False) h (.cells [w0].toArray 24 (0,0));have z0:(h.push (.cells [w0].toArray 24 (0,0))).size=h.size+1:=by simp
 generalize h.push (.cells [w0].toArray 24 (0,0))=h1 at *;have hb1:=af (h:=h1) (o:=.cells (flt 0 0).toArray 28 (0,0));have k1:=ar.push (S:=fun _=>False) h1 (.cells (flt 0 0).toArray 28 (0,0));simp only [show (Obj.cells #[(.int .i64 0),(.int .i64 0)] 28 (0,0))=Obj.cells (flt 0 0).toArray 28 (0,0) from rfl]
 generalize h1.push (.cells (flt 0 0).toArray 28 (0,0))=h2 at *;have hb0:=k1.get hb0 (by simp)
 have k02:=k0.trans k1;have hL:h.size≤h1.size:=by omega
 refine ⟨_,ak hb0 rfl,?_⟩;refine aa.use (uW p hsm (.agg #[w0]) h2 ⟨w0,rfl,hs.az k02⟩ (ht.more k02)) ?_;rintro _ h3 ⟨rfl,k3⟩;have hb03:=k3.get hb0 (by simp)
 have hb13:=k3.get hb1 (by simp)
 have k03:=k02.trans k3;rw [asA_agg];refine ⟨rfl,aW _ _,ay (cs:=flt (gY (aV p)).1 (gY (aV p)).2) rfl ?_⟩;have hb4:=af (h:=h3) (o:=.cells (flt (gY (aV p)).1 (gY (aV p)).2).toArray 28 (0,0));have k4:=ar.push (S:=fun _=>False) h3 (.cells (flt (gY (aV p)).1 (gY (aV p)).2).toArray 28 (0,0));generalize h3.push (.cells (flt (gY (aV p)).1 (gY (aV p)).2).toArray 28 (0,0))=h4 at *;have hb04:=k4.get hb03 (by simp)
 have hb14:=k4.get hb13 (by simp)
 have k04:=k03.trans k4;refine ⟨fun v h'=>v=.bool (decide ((gY (aV p)).1=0∧12000 < (pgT p).length))∧KF h4 h',?_,?_⟩
 ·refine lx hb4 (j:=0) rfl ?_;rw [asK_int];refine ae (fun hc=>?_) (fun hc=>?_)
  ·have h0:(gY (aV p)).1=0:=eq_of_beq hc;refine ⟨_,ak hb04 rfl,?_⟩;refine aa.use (Fg p hsm (qI h0).1 (.agg #[w0]) h4 ⟨w0,rfl,hs.az k04⟩ (ht.more k04)) ?_;rintro _ h5 ⟨rfl,k5⟩;rw [asS_str,aD];refine ⟨?_,k5⟩
   congr 1
   rw [Bool.eq_iff_iff];simp [h0];omega
  ·have h0:¬(gY (aV p)).1=0:=beq_eq_false_iff_ne.1 hc;exact ⟨by rw [decide_eq_false fun h=>h0 h.1],ar.refl _ _⟩
 rintro _ _ h5 ⟨rfl,k5⟩;have hb5:=k5.get hb4 (by simp)
 have hb15:=k5.get hb14 (by simp)
 have k05:=k04.trans k5;have hR:bH p=if (gY (aV p)).1=0∧12000 < (pgT p).length then (1,-1) else gY (aV p):=by
  unfold bH
  by_cases h0:(gY (aV p)).1=0
  ·rw [if_pos h0,(qI h0).2.1]
   by_cases h1:12000 < (pgT p).length<;>simp [h1]
  ·rw [if_neg h0,if_neg fun h=>h0 h.1]
 rw [asB_bool];refine ae (fun hc=>?_) (fun hc=>?_)
 ·rw [hR,if_pos (of_decide_eq_true hc)];exact Ji hb15 rfl 1 (-1) (R:=fun r h'=>r=Value.agg (flt (1,(-1:Int)).1 (1,-1).2).toArray∧KF h h') (fun h' kk=>⟨rfl,DC k05 hL kk⟩) X
 ·rw [hR,if_neg (of_decide_eq_false hc)];exact ⟨_,ak hb5 rfl,rfl,aW _ _,wD hb15 rfl rfl fun h' kk _=>⟨rfl,DC k05 hL kk⟩⟩
end
section
variable  {ω:Amb}
end
section
variable  {ω:Amb}
end
section
variable  {ω:Amb}
end
section
variable  {ω:Amb}
end
end Go.Proofs.YtkeeboomikkojaaGreatDoor
