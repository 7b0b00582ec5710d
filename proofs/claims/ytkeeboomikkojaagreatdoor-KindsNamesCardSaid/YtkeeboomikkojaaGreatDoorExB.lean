import Derived.Test.YtkeeboomikkojaaGreatDoorExA
import Derived.Test.YtkeeboomikkojaaGreatDoorRx4
import Derived.Test.YtkeeboomikkojaaGreatDoorRy2
import Derived.Test.YtkeeboomikkojaaGreatDoorRn7
import Derived.Test.YtkeeboomikkojaaGreatDoorRn9
import Derived.Test.YtkeeboomikkojaaGreatDoorRk
import Derived.Test.YtkeeboomikkojaaGreatDoorRn6
import Derived.Test.YtkeeboomikkojaaGreatDoorRn5
import Derived.Test.YtkeeboomikkojaaGreatDoorYk
import Derived.Test.YtkeeboomikkojaaGreatDoorY9
namespace Go.Proofs.YtkeeboomikkojaaGreatDoor
open Go Go.Sx Go.Sx.Tk Go.Sx.Rn Go.Proofs.YtkeeboomikkojaaGreatDoor.Sx
def t9L:List Value:=[(.int .i64 0),(.int .i64 9),(.int .i64 9),(.int .i64 4),(.int .i64 2),(.int .i64 2),(.int .i64 3),(.int .i64 1),(.int .i64 1)]
def sgL:List Value:=[(.string ⟨#[32,43,32]⟩),(.string ⟨#[32,45,32]⟩),(.string ⟨#[32,42,32]⟩),(.string ⟨#[32,60,32]⟩),(.string ⟨#[32,61,61,32]⟩)]
def bdO (op:Int):Int:=if op=1∨op=2 then 9 else rk op
theorem PX:∀k:Nat,1≤k→k≤8→t9L[k]?=some (.int .i64 (bdO (k:Int)))
 |0,h,_=>absurd h (by decide)
 |1,_,_=>rfl
 |2,_,_=>rfl
 |3,_,_=>rfl
 |4,_,_=>rfl
 |5,_,_=>rfl
 |6,_,_=>rfl
 |7,_,_=>rfl
 |8,_,_=>rfl
 |k+9,_,h=>absurd h (by omega)
theorem Pj:∀k:Nat,k < 5→sgL[k]?=some (.string (bs (sgn ((k:Int)+4))))
 |0,_=>rfl
 |1,_=>rfl
 |2,_=>rfl
 |3,_=>rfl
 |4,_=>rfl
 |k+5,h=>absurd h (by omega)
section
variable  {ω:Amb}
set_option maxHeartbeats 800000 in
theorem Al:∀(N:Nat) (x:Ex),exN x < N→exN x≤100000→y2 x→exF x=0→∀(h:Hp) (w:Value) (m:Int),ExS h w x.l→fe h→m≤4→∀(X:XT),
  aa Tryz.prog ω cA [.agg (exC x w).toArray,.int .i64 m] h (fun r h'=>r=.string (bs (brk m (x.op,exT x)))∧KF h h') X:=by
 intro N
 induction N with
 |zero=>exact fun l hN=>absurd hN (Nat.not_lt_zero _)
 |succ N ih =>
  intro x hN hle hok hF h w m hw ht hm X;refine kw ω _ _ h _ X ?_;unfold eu aG az;simp only [eI,show List.toArray [(.int .i64 0),(.int .i64 9),(.int .i64 9),(.int .i64 4),(.int .i64 2),(.int .i64 2),(.int .i64 3),(.int .i64 1),(.int .i64 1)]=t9L.toArray from rfl,
   show List.toArray [(.string ⟨#[32,43,32]⟩),(.string ⟨#[32,45,32]⟩),(.string ⟨#[32,42,32]⟩),(.string ⟨#[32,60,32]⟩),(.string ⟨#[32,61,61,32]⟩)]=sgL.toArray from rfl]
  obtain ⟨hnm,hokl⟩:=gi.1 hok;have hxe:=gA x;obtain ⟨hH,hFl⟩:=I8 hF;obtain ⟨g1,g2,g3,g4,g5,g6,g7,g8⟩:=Jj hH;have hlen:=yn x hF hok;have hb1:=ah (h:=h) (o:=.cells (exC x w).toArray 36 (0,0));have kp:=ar.push (S:=fun _=>False) h (.cells (exC x w).toArray 36 (0,0));generalize h.push (.cells (exC x w).toArray 36 (0,0))=h1 at *;have ht2:=ah (h:=h1) (o:=.cells t9L.toArray 3 (0,0));have k1:=ar.push (S:=fun _=>False) h1 (.cells t9L.toArray 3 (0,0))
  generalize h1.push (.cells t9L.toArray 3 (0,0))=h2 at *;have hb2:=k1.get hb1 (by simp)
  have k02:=kp.trans k1;have hw2:=hw.aC k02;have htk:=ht.more k02;refine lx hb2 (j:=0) rfl ?_;obtain ⟨o,ho⟩:∃o:Nat,x.op=o:=⟨x.op.toNat,by omega⟩
  rw [ho,asI_int];refine ⟨by omega,by omega,?_⟩
  rw [Qm,Nat.mul_one];refine lx ht2 (PX o (by omega) (by omega)) ?_
  rw [←ho];refine lx hb2 (j:=0) rfl ?_;refine ⟨fun v h'=>v=.string (bs (exT x))∧KF h2 h',?_,?_⟩
  rotate_left
  ·rintro _ _ h3 ⟨rfl,k3⟩;rw [asK_int,asK_int];have hbr:decide (bdO x.op < m)=decide (rk x.op < m):=by
    rw [Qz];simp only [decide_eq_true_eq];unfold bdO
    split
    ·rename_i h12;have:rk x.op=5:=by
      rcases h12 with h|h<;>rw [h]<;>rfl
     omega
    ·rfl
   rw [hbr,asS_str,show (⟨#[40]⟩:ByteArray)=bs [40] from rfl,show (⟨#[41]⟩:ByteArray)=bs [41] from rfl,br,br]
   simp only [aK];refine ae (fun hc=>?_) (fun hc=>?_)
   ·refine ⟨by simp;omega,by simp;omega,?_,k02.trans k3⟩
    rw [brk,if_pos (Qj hc)];rfl
   ·exact ⟨by rw [brk,if_neg (Qc hc)],k02.trans k3⟩
  rw [asK_int];refine ⟨fun v h'=>v=.string (bs (exT x))∧KF h2 h',?_,fun _ _ _ hj=>hj⟩;refine ae (fun hc=>?_) (fun hc=>?_)
  ·have h1o:x.op=1:=Zg hc;refine lx hb2 (j:=2) rfl ?_;refine aa.use (rf x.n (by omega) (by omega) _ htk) ?_
   rintro _ h3 ⟨rfl,k3⟩;refine ⟨?_,k3⟩;rw [wx,exB,if_pos h1o];rfl
  have n1:x.op≠1:=Qa.1 hc;rw [asK_int];refine ⟨fun v h'=>v=.string (bs (exT x))∧KF h2 h',?_,fun _ _ _ hj=>hj⟩;refine ae (fun hc=>?_) (fun hc=>?_)
  ·have h2o:x.op=2:=Zg hc;refine lx hb2 (j:=1) rfl ⟨?_,ar.refl _ _⟩;rw [wx,exB,if_neg n1,if_pos h2o,jI]
  have n2:x.op≠2:=Qa.1 hc;rw [asK_int];refine ⟨fun v h'=>v=.string (bs (exT x))∧KF h2 h',?_,fun _ _ _ hj=>hj⟩;refine ae (fun hc=>?_) (fun hc=>?_)
  ·have h3o:x.op=3:=Zg hc;have hl1:x.l.length=1:=by
    rw [eO,if_neg (by omega),if_pos h3o] at g3
    omega
   obtain ⟨a,ha⟩:=E3 hl1;have hma:a∈x.l:=by rw [ha];exact Qf.2 rfl
   have han:=cr hma;refine lx hb2 (j:=3) rfl ?_;refine hw2.rdC (i:=0) (x:=a) (by rw [ha];rfl) fun wa hwa=>?_
   refine aa.use (ih a (by omega) (by omega) (cb hokl hma) (mm hFl hma) _ wa 4 hwa htk (by decide)) ?_
   rintro _ h3 ⟨rfl,k3⟩;have hlen:=sD (mm hFl hma) (cb hokl hma) 4;rw [asS_str,show (⟨#[45]⟩:ByteArray)=bs [45] from rfl,br]
   simp only [aK];refine ⟨by simp;omega,?_,k3⟩
   rw [Gd ha h3o];rfl
  have n3:x.op≠3:=Qa.1 hc;have hl2:x.l.length=2:=by
   rw [eO,if_neg (by omega),if_neg n3] at g3
   omega
  have hbd:bdO x.op=rk x.op:=by rw [bdO,if_neg (by omega)]
  have hrk:1≤rk x.op∧rk x.op≤3:=by
   have:x.op=4∨x.op=5∨x.op=6∨x.op=7∨x.op=8:=by omega
   rcases this with h|h|h|h|h<;>rw [h]<;>decide
  have hlm:lmO x.op≤3:=by
   unfold lmO
   split<;>omega
  have hr78:(x.op=7∨x.op=8)↔rk x.op=1:=by
   unfold rk
   repeat' split
   all_goals omega
  obtain ⟨a,b,hab⟩:=KQ hl2;have hma:a∈x.l:=by rw [hab];simp
  have hmb:b∈x.l:=by rw [hab];simp
  have han:=cr hma;have hbn:=cr hmb;have ga:x.l[0]?=some a:=by rw [hab];rfl
  have gb:x.l[1]?=some b:=by rw [hab];rfl
  have hT:=HD hab n1 n2 n3;have l1:=sD (mm hFl hma) (cb hokl hma) (lmO x.op);have l2:=sD (mm hFl hmb) (cb hokl hmb) (rk x.op+1);have l3:=Bz x.op;rw [asK_int,hbd];refine ⟨fun v h'=>v=.int .i64 (lmO x.op)∧h2=h',ae (fun hc=>?_) (fun hc=>?_),?_⟩
  ·have h78:=hr78.2 (Zg hc);exact ⟨by rw [lmO,if_pos h78],rfl⟩
  ·have h78:¬(x.op=7∨x.op=8):=fun h=>Qa.1 hc (hr78.1 h);exact ⟨by rw [lmO,if_neg h78],rfl⟩
  rintro _ _ _ ⟨rfl,rfl⟩;refine lx hb2 (j:=3) rfl ?_;refine Kl hw2 (ar.refl _ _) ga fun axa wa hwa hca=>?_;refine lx hb2 (j:=0) rfl ?_;rw [asK_int];refine lx hb2 (j:=3) rfl ?_;refine Kl hw2 (ar.refl _ _) gb fun axb wb hwb hcb=>?_;rw [asK_int,i64_in (by omega) (by omega),i64_in (by omega) (by omega)]
  have hA:∀hh,KF h2 hh→∀Y,aa Tryz.prog ω cA [.agg (exC a wa).toArray,.int .i64 (lmO x.op)] hh (fun r h'=>r=.string (bs (brk (lmO x.op) (a.op,exT a)))∧KF hh h') Y:=fun hh kk Y =>
   ih a (by omega) (by omega) (cb hokl hma) (mm hFl hma) hh wa _ (hwa.aC kk) (htk.more kk) (by omega) Y
  have hB:∀hh,KF h2 hh→∀Y,aa Tryz.prog ω cA [.agg (exC b wb).toArray,.int .i64 (rk x.op+1)] hh (fun r h'=>r=.string (bs (brk (rk x.op+1) (b.op,exT b)))∧KF hh h') Y:=fun hh kk Y =>
   ih b (by omega) (by omega) (cb hokl hmb) (mm hFl hmb) hh wb _ (hwb.aC kk) (htk.more kk) (by omega) Y
  have hsg:∀(hh:Hp),af (hh.push (.cells sgL.toArray 9 (0,0))) (Addr.add ⟨hh.size,0,none⟩ (Int.toNat (x.op - 4)*1))=some (.string (bs (sgn x.op))):=fun hh=>by
   refine lx' ah ?_;have:=Pj (x.op - 4).toNat (by omega)
   rw [Nat.mul_one,this]
   congr 4
   omega
  have fin:∀{hh:Hp},KF h2 hh→((.string (bs (brk (lmO x.op) (a.op,exT a)++sgn x.op++brk (rk x.op+1) (b.op,exT b))):Value)=.string (bs (exT x))∧KF h2 hh):=fun kk=>⟨by rw [hT],kk⟩
  have z0:0≤x.op - 4:=by omega
  have z5:x.op - 4 < 5:=by omega
  refine ⟨?_,?_⟩
  ·refine aa.use (hA h2 (ar.refl _ _)) ?_;rintro _ h3 ⟨rfl,k3⟩;have ks:=ar.push (S:=fun _=>False) h3 (.cells sgL.toArray 9 (0,0));have hb3:=k3.get hb2 (by simp)
   refine ⟨ar.cells k3 hcb,lx' hb3 rfl,lx' hb3 rfl,⟨ar.cells (k3.trans ks) hcb,lx' (ks.get hb3 (by simp)) rfl,lx' (ks.get hb3 (by simp)) rfl,z0,z5,_,hsg h3,?_⟩,?_⟩
   ·rw [asS_str,asS_str,br];simp only [aK];refine ⟨by omega,?_⟩
    refine aa.use (hB _ (k3.trans ks)) ?_;rintro _ h5 ⟨rfl,k5⟩;refine ⟨k5.cell (hsg h3) (by simp),lx' (k5.get (ks.get hb3 (by simp)) (by simp)) rfl,?_⟩
    rw [asS_str,br];simp only [aK,Qd];exact ⟨by omega,fin ((k3.trans ks).trans k5)⟩
   ·refine aa.use (hB h3 k3) ?_;rintro _ h5 ⟨rfl,k5⟩;have ks5:=ar.push (S:=fun _=>False) h5 (.cells sgL.toArray 9 (0,0));have hb5:=k5.get hb3 (by simp)
    refine ⟨lx' hb5 rfl,lx' (ks5.get hb5 (by simp)) rfl,z0,z5,_,hsg h5,?_⟩
    simp only [asS_str,br,aK,Qd];exact ⟨by omega,by omega,fin ((k3.trans k5).trans ks5)⟩
  ·have ks:=ar.push (S:=fun _=>False) h2 (.cells sgL.toArray 9 (0,0));have hbs:=ks.get hb2 (by simp)
   have hs2:=hsg h2;generalize h2.push (.cells sgL.toArray 9 (0,0))=hS at *;refine ⟨ar.cells ks hcb,lx' hbs rfl,lx' hbs rfl,ar.cells ks hca,lx' hbs rfl,?_,z0,z5,?_,_,hs2,?_⟩
   ·refine aa.use (hA hS ks) ?_;rintro _ h3 ⟨rfl,k3⟩;have hb3:=k3.get hbs (by simp)
    refine ⟨ar.cells (ks.trans k3) hcb,lx' hb3 rfl,lx' hb3 rfl,z0,z5,_,k3.cell hs2 (by simp),?_⟩
    rw [asS_str,asS_str,br];simp only [aK];refine ⟨by omega,?_⟩
    refine aa.use (hB _ (ks.trans k3)) ?_;rintro _ h5 ⟨rfl,k5⟩;refine ⟨(k3.trans k5).cell hs2 (by simp),lx' (k5.get hb3 (by simp)) rfl,?_⟩
    rw [asS_str,br];simp only [aK,Qd];exact ⟨by omega,fin ((ks.trans k3).trans k5)⟩
   ·refine aa.use (hA hS ks) ?_;rintro _ h3 ⟨rfl,k3⟩;have hb3:=k3.get hbs (by simp)
    refine ⟨ar.cells (ks.trans k3) hcb,lx' hb3 rfl,lx' hb3 rfl,_,k3.cell hs2 (by simp),?_⟩
    rw [asS_str,asS_str,br];simp only [aK];refine ⟨by omega,?_⟩
    refine aa.use (hB _ (ks.trans k3)) ?_;rintro _ h5 ⟨rfl,k5⟩;refine ⟨(k3.trans k5).cell hs2 (by simp),lx' (k5.get hb3 (by simp)) rfl,?_⟩
    rw [asS_str,br];simp only [aK,Qd];exact ⟨by omega,fin ((ks.trans k3).trans k5)⟩
   ·refine aa.use (hA hS ks) ?_;rintro _ h3 ⟨rfl,k3⟩;have hb3:=k3.get hbs (by simp)
    refine ⟨ar.cells (ks.trans k3) hcb,lx' hb3 rfl,lx' hb3 rfl,?_⟩;rw [asS_str,asS_str,br];simp only [aK];refine ⟨by omega,?_⟩
    refine aa.use (hB _ (ks.trans k3)) ?_;rintro _ h5 ⟨rfl,k5⟩;refine ⟨lx' (k5.get hb3 (by simp)) rfl,?_⟩
    rw [asS_str,br];simp only [aK,Qd];exact ⟨by omega,fin ((ks.trans k3).trans k5)⟩
end
section
variable  {ω:Amb}
theorem sS (s:ByteArray)(hs:s.size≤1000)(h:Hp)(X:XT) :
  aa Tryz.prog ω kB [.string s] h (fun r h'=>r=.string (bs (th s))∧h'=h) X:=by
 refine kT ω _ h _ X ?_;unfold eo;refine ⟨fun o t h'=>∃k:Nat,t=.int .i64 k∧k≤s.size - 1∧o=.string (bs (((bytesOf s).take k).flatMap kwd))∧h=h',fun _ t _=>match t with|.int _ k=>s.size - k.toNat|_=>0,
  ⟨0,rfl,by omega,rfl,rfl⟩,?_⟩
 rintro _ _ _ _ ⟨k,rfl,hk,rfl,rfl⟩;have hlen:=CM ((bytesOf s).take k);rw [Qp,aH] at hlen;rw [asS_str,asK_int,i64_in (by omega) (by omega)]
 refine ae (fun hc=>?_) (fun hc=>?_)
 ·have hkl:=Qj hc;refine ⟨fun v h'=>v=.string (bs (((bytesOf s).take (k+1)).flatMap kwd))∧h=h',?_,?_⟩
  ·rw [asK_int,asS_str,asI_int,i64_in (by omega) (by omega)]
   refine ⟨by omega,by omega,by omega,?_⟩
   rw [Qm,show Int.toNat ((k:Int)+1)=k+1 by omega,gg s (by omega) 115,HC s (by omega)]
   refine ⟨fun v h'=>v=.string (bs (((bytesOf s).take k).flatMap kwd++kwd (cAt s k)))∧h=h',ae (fun hc=>?_) (fun hc=>?_),fun _ _ _ hj=>hj⟩
   ·simp only [asS_str,lit,br,aK];rw [kwd,if_pos (Qj hc)];exact ⟨by simp only [Qn,Qy];omega,rfl,trivial⟩
   ·simp only [asS_str,lit,br,aK];rw [kwd,if_neg (Qc hc)];exact ⟨by simp only [Qn,Qy];omega,rfl,trivial⟩
  ·rintro _ _ _ ⟨rfl,rfl⟩;rw [asK_int,i64_in (by omega) (by omega)]
   exact ⟨⟨k+1,by simp,by omega,rfl,rfl⟩,by simp;omega⟩
 ·have hc:=Qc hc;obtain rfl:k=s.size - 1:=by omega
  simp only [asS_str,lit,br,aK];exact ⟨by simp only [Qn,Qy];omega,rfl,trivial⟩
end
def wdL (d:Int):List UInt8 :=
 if d=1 then [108,101,116]
 else if d=2 then [115,101,116]
 else if d=3 then [101,109,105,116]
 else if d=4 then [99,104,97,110]
 else if d=5 then [99,108,111,110,101]
 else if d=6 then [115,101,110,100]
 else if d=7 then [99,108,111,115,101]
 else if d=8 then [97,98,97,110,100,111,110]
 else if d=9 then [100,114,97,105,110]
 else if d=10 then [115,112,97,119,110]
 else if d=11 then [116,97,107,101]
 else if d=12 then [102,111,114]
 else if d=13 then [114,101,112,101,97,116]
 else if d=14 then [105,102]
 else []
def wdT:List Value:=[(.string ⟨#[]⟩),(.string ⟨#[108,101,116]⟩),(.string ⟨#[115,101,116]⟩),(.string ⟨#[101,109,105,116]⟩),(.string ⟨#[99,104,97,110]⟩),(.string ⟨#[99,108,111,110,101]⟩),(.string ⟨#[115,101,110,100]⟩),(.string ⟨#[99,108,111,115,101]⟩),(.string ⟨#[97,98,97,110,100,111,110]⟩),(.string ⟨#[100,114,97,105,110]⟩),(.string ⟨#[115,112,97,119,110]⟩),(.string ⟨#[116,97,107,101]⟩),(.string ⟨#[102,111,114]⟩),(.string ⟨#[114,101,112,101,97,116]⟩),(.string ⟨#[105,102]⟩)]
theorem PY:∀k:Nat,k < 15→wdT[k]?=some (.string (bs (wdL (k:Int))))
 |0,_=>rfl
 |1,_=>rfl
 |2,_=>rfl
 |3,_=>rfl
 |4,_=>rfl
 |5,_=>rfl
 |6,_=>rfl
 |7,_=>rfl
 |8,_=>rfl
 |9,_=>rfl
 |10,_=>rfl
 |11,_=>rfl
 |12,_=>rfl
 |13,_=>rfl
 |14,_=>rfl
 |k+15,h=>absurd h (by omega)
def p1R (x:St):List UInt8:=if emp x.a then [] else [32]++bytesOf x.a
def p2R (x:St):List UInt8:=if x.d=1∨x.d=2 then [32,61] else []
def p3R (x:St):List UInt8:=if x.d=11∨x.d=12 then [32,102,114,111,109] else []
def p4R (x:St):List UInt8:=if emp x.b then [] else [32]++bytesOf x.b
def p5R (x:St):List UInt8:=if x.d=4 then [32]++th x.t++[32]++Lib.itoa x.n else []
def p6R (x:St):List UInt8:=if x.d=10 then [40] else []
def esR (d:Int):List Ex→List UInt8
 |[]=>[]
 |x::r=>(if d=10 then [] else [32])++cE (x::r)
def p7R (x:St):List UInt8:=if x.d=10 then [41] else []
theorem Ad (sep:List UInt8)(l:List (List UInt8))(y:List UInt8):Lib.join (l++[y]) sep=if l.length=0 then y else Lib.join l sep++sep++y:=by
 cases l with
 |nil=>simp [Lib.join_one]
 |cons a r =>
  rw [if_neg (by simp),Qu,Lib.join_cons,Lib.join_cons]
  unfold Lib.joinTail;simp
theorem Er (l:List Ex)(y:Ex):cE (l++[y])=if l.length=0 then exT y else cE l++[44,32]++exT y:=by
 unfold cE;rw [List.map_append,List.map_singleton,Ad,Z6]
theorem BV (d:Int)(l:List Ex)(y:Ex):esR d (l++[y])=esR d l++((if 0 < l.length then [44,32] else if d=10 then [] else [32])++exT y):=by
 cases l with
 |nil=>simp [esR,cE,Lib.join_one]
 |cons a r =>
  rw [if_pos (show 0 < (a::r).length by simp)]
  show (if d=10 then [] else [32])++cE ((a::r)++[y])=_
  rw [Er,if_neg (show ¬(a::r).length=0 by simp)]
  simp [esR]
theorem dY {s:ByteArray}(h:aL s=true):¬emp s:=by
 unfold aL dr at h;simp only [Qq,decide_eq_true_eq] at h;intro he;have h0:s.size=0:=by
  rw [←aH,show bytesOf s=[] from he]
  rfl
 have:=h.1.1;omega
theorem M0 {l:List Ex}(h:(l.length:Int)=1):∃y,l=[y]:=E3 (by omega)
theorem BE {l:List Ex}(h:(l.length:Int)=0):l=[]:=List.eq_nil_of_length_eq_zero (by omega)
set_option maxHeartbeats 1000000 in
theorem LO {x:St}{f:Fm}{deep:Int}(h:NA x f deep):wdL x.d++p1R x++p2R x++p3R x++p4R x++p5R x++p6R x++esR x.d x.e=bO x++cE x.e:=by
 have hf:=h.form;have h1:=h.d1;have h2:=h.d2;have na:=h.na;have nb:=h.nb;have ea:=h.ea;have eb:=h.eb;have ne:=h.ne;have hd:x.d=1∨x.d=2∨x.d=3∨x.d=4∨x.d=5∨x.d=6∨x.d=7∨x.d=8∨x.d=9∨x.d=10∨x.d=11∨x.d=12∨x.d=13∨x.d=14:=by omega
 rcases hd with hd|hd|hd|hd|hd|hd|hd|hd|hd|hd|hd|hd|hd|hd
 ·rw [hd] at hf;obtain rfl:=Z2 hf;have ha:=dY (na rfl);have hb:=eb rfl;obtain ⟨y,hy⟩:=M0 (ne (by decide))
  simp [p1R,p2R,p3R,p4R,p5R,p6R,wdL,bO,hd,ha,hb,hy,esR,cE,Lib.join_one]
 ·rw [hd] at hf;obtain rfl:=Z2 hf;have ha:=dY (na rfl);have hb:=eb rfl;obtain ⟨y,hy⟩:=M0 (ne (by decide))
  simp [p1R,p2R,p3R,p4R,p5R,p6R,wdL,bO,hd,ha,hb,hy,esR,cE,Lib.join_one]
 ·rw [hd] at hf;obtain rfl:=Z2 hf;have ha:=ea rfl;have hb:=eb rfl;obtain ⟨y,hy⟩:=M0 (ne (by decide))
  simp [p1R,p2R,p3R,p4R,p5R,p6R,wdL,bO,hd,ha,hb,hy,esR,cE,Lib.join_one]
 ·rw [hd] at hf;obtain rfl:=Z2 hf;have ha:=dY (na rfl);have hb:=dY (nb rfl);have hy:=BE (ne (by decide))
  simp [p1R,p2R,p3R,p4R,p5R,p6R,wdL,bO,hd,ha,hb,hy,esR,cE,Lib.join_nil]
 ·rw [hd] at hf;obtain rfl:=Z2 hf;have ha:=dY (na rfl);have hb:=dY (nb rfl);have hy:=BE (ne (by decide))
  simp [p1R,p2R,p3R,p4R,p5R,p6R,wdL,bO,hd,ha,hb,hy,esR,cE,Lib.join_nil]
 ·rw [hd] at hf;obtain rfl:=Z2 hf;have ha:=dY (na rfl);have hb:=eb rfl;obtain ⟨y,hy⟩:=M0 (ne (by decide))
  simp [p1R,p2R,p3R,p4R,p5R,p6R,wdL,bO,hd,ha,hb,hy,esR,cE,Lib.join_one]
 ·rw [hd] at hf;obtain rfl:=Z2 hf;have ha:=dY (na rfl);have hb:=eb rfl;have hy:=BE (ne (by decide))
  simp [p1R,p2R,p3R,p4R,p5R,p6R,wdL,bO,hd,ha,hb,hy,esR,cE,Lib.join_nil]
 ·rw [hd] at hf;obtain rfl:=Z2 hf;have ha:=dY (na rfl);have hb:=eb rfl;have hy:=BE (ne (by decide))
  simp [p1R,p2R,p3R,p4R,p5R,p6R,wdL,bO,hd,ha,hb,hy,esR,cE,Lib.join_nil]
 ·rw [hd] at hf;obtain rfl:=Z2 hf;have ha:=dY (na rfl);have hb:=eb rfl;have hy:=BE (ne (by decide))
  simp [p1R,p2R,p3R,p4R,p5R,p6R,wdL,bO,hd,ha,hb,hy,esR,cE,Lib.join_nil]
 ·rw [hd] at hf;obtain rfl:=Z2 hf;have ha:=dY (na rfl);have hb:=eb rfl;cases hy:x.e with
  |nil=>simp [p1R,p2R,p3R,p4R,p5R,p6R,wdL,bO,hd,ha,hb,esR,cE,Lib.join_nil]
  |cons y r=>simp [p1R,p2R,p3R,p4R,p5R,p6R,wdL,bO,hd,ha,hb,esR]
 ·rw [hd] at hf;obtain rfl:=Z2 hf;have ha:=dY (na rfl);have hb:=dY (nb rfl);have hy:=BE (ne (by decide))
  simp [p1R,p2R,p3R,p4R,p5R,p6R,wdL,bO,hd,ha,hb,hy,esR,cE,Lib.join_nil]
 ·rw [hd] at hf;obtain rfl:=Z2 hf;have ha:=dY (na rfl);have hb:=dY (nb rfl);have hy:=BE (ne (by decide))
  simp [p1R,p2R,p3R,p4R,p5R,p6R,wdL,bO,hd,ha,hb,hy,esR,cE,Lib.join_nil]
 ·rw [hd] at hf;obtain rfl:=Z2 hf;have ha:=ea rfl;have hb:=eb rfl;obtain ⟨y,hy⟩:=M0 (ne (by decide))
  simp [p1R,p2R,p3R,p4R,p5R,p6R,wdL,bO,hd,ha,hb,hy,esR,cE,Lib.join_one]
 ·rw [hd] at hf;obtain rfl:=Z2 hf;have ha:=ea rfl;have hb:=eb rfl;obtain ⟨y,hy⟩:=M0 (ne (by decide))
  simp [p1R,p2R,p3R,p4R,p5R,p6R,wdL,bO,hd,ha,hb,hy,esR,cE,Lib.join_one]
theorem AM {x:St}{f:Fm}{deep:Int}(h:NA x f deep):f.body=decide (11≤x.d):=by
 have hf:=h.form;have h1:=h.d1;have h2:=h.d2;have hd:x.d=1∨x.d=2∨x.d=3∨x.d=4∨x.d=5∨x.d=6∨x.d=7∨x.d=8∨x.d=9∨x.d=10∨x.d=11∨x.d=12∨x.d=13∨x.d=14:=by omega
 rcases hd with hd|hd|hd|hd|hd|hd|hd|hd|hd|hd|hd|hd|hd|hd<;>rw [hd] at hf<;>obtain rfl:=Z2 hf<;>rw [hd]<;>rfl
theorem K6 (s:ByteArray){A B:Prop}(ha:¬emp s→A)(hb:emp s→B):cond (!(s.toList==ByteArray.toList ⟨#[]⟩)) A B:=by
 rw [eqE]
 by_cases h:emp s
 ·rw [Z7 h];exact hb h
 ·rw [Z0 h];exact ha h
section
variable  {ω:Amb}
def PM (ω:Amb)(l:List St):Prop:=∀(h:Hp) (v:Value) (k:Nat),StS h v l→fe h→vL (k+1) l→k≤7→(qG k l).length≤100000000→∀(X:XT),
 aa Tryz.prog ω j8 [v,.string (bs (sV k))] h (fun r h'=>r=.string (bs (qG k l))∧KF h h') X
set_option maxHeartbeats 800000 in
theorem zo (x:St)(hle:stN x≤80000)(hok:AB x)(hB:PM ω x.body)(hE:PM ω x.els)(h:Hp)(ve vb vl:Value)(k:Nat)(he:ExS h ve x.e)(hbd:StS h vb x.body)(hel:StS h vl x.els)
  (ht:fe h) (hg:stG k x) (hd:k≤8) (hlen:(stT k x).length≤100000000) (X:XT) :
  aa Tryz.prog ω kQ [.agg (stC x ve vb vl).toArray,.string (bs (sV k))] h (fun r h'=>r=.string (bs (stT k x))∧KF h h') X:=by
 refine kt ω _ _ h _ X ?_;unfold ep aX;simp only [show Value.cells (.agg (stC x ve vb vl).toArray)=(stC x ve vb vl).toArray from rfl,show List.toArray [(.string ⟨#[]⟩),(.string ⟨#[108,101,116]⟩),(.string ⟨#[115,101,116]⟩),(.string ⟨#[101,109,105,116]⟩),(.string ⟨#[99,104,97,110]⟩),(.string ⟨#[99,108,111,110,101]⟩),(.string ⟨#[115,101,110,100]⟩),(.string ⟨#[99,108,111,115,101]⟩),(.string ⟨#[97,98,97,110,100,111,110]⟩),(.string ⟨#[100,114,97,105,110]⟩),(.string ⟨#[115,112,97,119,110]⟩),(.string ⟨#[116,97,107,101]⟩),(.string ⟨#[102,111,114]⟩),(.string ⟨#[114,101,112,101,97,116]⟩),(.string ⟨#[105,102]⟩)]=wdT.toArray from rfl]
 obtain ⟨oa,ob,ot,oe,o5,o6⟩:=gl.1 hok;have oa:x.a.size≤100:=oa;have ob:x.b.size≤100:=ob;have ot:x.t.size≤100:=ot;obtain ⟨hg1,hg2,hg3⟩:=nT.1 hg;obtain ⟨f,hf⟩:=uv hg1;have hxe:=jN x;have hT:=CZ k x;have hle':=LO hf;rw [hf.fm,Qk (sV k),←hle'] at hT;have hTl:=congrArg List.length hT;simp only [Qd,bS] at hTl;have d1:=hf.d1;have d2:=hf.d2;have hb1:=ah (h:=h) (o:=.cells (stC x ve vb vl).toArray 39 (0,0))
 have kp:=ar.push (S:=fun _=>False) h (.cells (stC x ve vb vl).toArray 39 (0,0));generalize h.push (.cells (stC x ve vb vl).toArray 39 (0,0))=h1 at *;have hw2:=ah (h:=h1) (o:=.cells wdT.toArray 9 (0,0));have k1:=ar.push (S:=fun _=>False) h1 (.cells wdT.toArray 9 (0,0));generalize h1.push (.cells wdT.toArray 9 (0,0))=h2 at *;have hb2:=k1.get hb1 (by simp)
 have k02:=kp.trans k1;refine lx hb2 (j:=0) rfl ?_;obtain ⟨o,ho⟩:∃o:Nat,x.d=o:=⟨x.d.toNat,by omega⟩
 rw [ho,asI_int];refine ⟨by omega,by omega,?_⟩
 rw [Qm,Nat.mul_one];refine lx hw2 (PY o (by omega)) ?_
 rw [←ho,asS_str,asS_str];simp only [br,aK,Qd,bS];refine ⟨by omega,?_⟩
 refine lx hb2 (j:=2) rfl ?_;rw [asS_str];refine ⟨fun v h'=>v=.string (bs (sV k++wdL x.d++p1R x))∧h2=h',K6 x.a (fun hc=>?_) (fun hc=>?_),?_⟩
 ·refine lx hb2 (j:=2) rfl ?_;rw [asS_str];have hp:p1R x=[32]++bytesOf x.a:=by rw [p1R,if_neg hc]
  have hpl:=congrArg List.length hp;simp only [Qd,aH,Qn,Qy] at hpl;simp only [lit,dQ,aK,Qn,Qy];refine ⟨by omega,by omega,?_,trivial⟩
  rw [hp];simp only [←br,jI]
 ·rw [p1R,if_pos hc,Z1];exact ⟨rfl,rfl⟩
 rintro _ _ _ ⟨rfl,rfl⟩;refine ⟨decide (x.d=1∨x.d=2),?_,fun _=>?_⟩
 ·refine lx hb2 (j:=0) rfl ?_;rw [asK_int];refine ae (fun hc=>?_) (fun hc=>?_)
  ·rw [Z7 (.inl (Zg hc))];exact ⟨rfl,trivial⟩
  ·refine lx hb2 (j:=0) rfl ?_;rw [asK_int];have:=Qa.1 hc;refine ⟨?_,trivial⟩
   congr 1
   rw [Qz];simp [this]
 refine ⟨fun v h'=>v=.string (bs (sV k++wdL x.d++p1R x++p2R x))∧h2=h',ae (fun hc=>?_) (fun hc=>?_),?_⟩
 ·have hp:p2R x=[32,61]:=by rw [p2R,if_pos (Qj hc)]
  rw [asS_str];simp only [lit,br,aK,Qd,bS,Qn,Qy];exact ⟨by omega,by rw [hp],trivial⟩
 ·have hp:p2R x=[]:=by rw [p2R,if_neg (Qc hc)]
  rw [hp,Z1];exact ⟨rfl,rfl⟩
 rintro _ _ _ ⟨rfl,rfl⟩;refine ⟨decide (x.d=11∨x.d=12),?_,fun _=>?_⟩
 ·refine lx hb2 (j:=0) rfl ?_;rw [asK_int];refine ae (fun hc=>?_) (fun hc=>?_)
  ·rw [Z7 (.inl (Zg hc))];exact ⟨rfl,trivial⟩
  ·refine lx hb2 (j:=0) rfl ?_;rw [asK_int];have:=Qa.1 hc;refine ⟨?_,trivial⟩
   congr 1
   rw [Qz];simp [this]
 refine ⟨fun v h'=>v=.string (bs (sV k++wdL x.d++p1R x++p2R x++p3R x))∧h2=h',ae (fun hc=>?_) (fun hc=>?_),?_⟩
 ·have hp:p3R x=[32,102,114,111,109]:=by rw [p3R,if_pos (Qj hc)]
  rw [asS_str];simp only [lit,br,aK,Qd,bS,Qn,Qy];exact ⟨by omega,by rw [hp],trivial⟩
 ·have hp:p3R x=[]:=by rw [p3R,if_neg (Qc hc)]
  rw [hp,Z1];exact ⟨rfl,rfl⟩
 rintro _ _ _ ⟨rfl,rfl⟩;refine lx hb2 (j:=3) rfl ?_;rw [asS_str];refine ⟨fun v h'=>v=.string (bs (sV k++wdL x.d++p1R x++p2R x++p3R x++p4R x))∧h2=h',K6 x.b (fun hc=>?_) (fun hc=>?_),?_⟩
 ·refine lx hb2 (j:=3) rfl ?_;rw [asS_str];have hp:p4R x=[32]++bytesOf x.b:=by rw [p4R,if_neg hc]
  have hpl:=congrArg List.length hp;simp only [Qd,aH,Qn,Qy] at hpl;simp only [lit,asS_str,dQ,aK,Qd,bS,Qn,Qy];refine ⟨by omega,by omega,?_,trivial⟩
  rw [hp];simp only [←br,jI]
 ·rw [p4R,if_pos hc,Z1];exact ⟨rfl,rfl⟩
 rintro _ _ _ ⟨rfl,rfl⟩;refine lx hb2 (j:=0) rfl ?_;rw [asK_int];refine ⟨fun v h'=>v=.string (bs (sV k++wdL x.d++p1R x++p2R x++p3R x++p4R x++p5R x))∧KF h2 h',ae (fun hc=>?_) (fun hc=>?_),?_⟩
 ·have hp:p5R x=[32]++th x.t++[32]++Lib.itoa x.n:=by rw [p5R,if_pos (Zg hc)]
  have hpl:=congrArg List.length hp;simp only [Qd,Qn,Qy] at hpl;have n0:=hf.n0;have n1:=hf.n1;refine lx hb2 (j:=4) rfl ?_;refine lx hb2 (j:=5) rfl ?_;refine aa.use (sS x.t (by omega) h2) ?_
  rintro _ _ ⟨rfl,rfl⟩;refine ⟨lx' hb2 rfl,?_⟩;rw [asS_str];simp only [lit,br,aK,Qd,Qn,Qy];refine ⟨by omega,by omega,?_⟩
  refine aa.use (xR x.n (by omega) (by omega) _ (ht.more k02)) ?_
  rintro _ h3 ⟨rfl,k3⟩;have hib:itB x.n=bs (Lib.itoa x.n):=rfl;rw [hib];simp only [asS_str,br,aK,Qd,Qn,Qy,bS];exact ⟨by omega,by omega,by rw [hp],k3⟩
 ·have hp:p5R x=[]:=by rw [p5R,if_neg (Qa.1 hc)]
  rw [hp,Z1];exact ⟨rfl,ar.refl _ _⟩
 rintro _ _ h3 ⟨rfl,k3⟩;have hb3:=k3.get hb2 (by simp)
 have k03:=k02.trans k3;refine lx hb3 (j:=0) rfl ?_;rw [asK_int];refine ⟨fun v h'=>v=.string (bs (sV k++wdL x.d++p1R x++p2R x++p3R x++p4R x++p5R x++p6R x))∧h3=h',ae (fun hc=>?_) (fun hc=>?_),?_⟩
 ·have hp:p6R x=[40]:=by rw [p6R,if_pos (Zg hc)]
  rw [asS_str];simp only [lit,br,aK,Qd,bS,Qn,Qy];exact ⟨by omega,by rw [hp],trivial⟩
 ·have hp:p6R x=[]:=by rw [p6R,if_neg (Qa.1 hc)]
  rw [hp,Z1];exact ⟨rfl,rfl⟩
 rintro _ _ _ ⟨rfl,rfl⟩;generalize hpre:sV k++wdL x.d++p1R x++p2R x++p3R x++p4R x++p5R x++p6R x=pre;have hprel:=congrArg List.length hpre;simp only [Qd,bS] at hprel;have hlx:=gj x.e;refine ⟨fun o t h'=>∃j:Nat,t=.int .i64 j∧j≤x.e.length∧o=.string (bs (pre++esR x.d (x.e.take j)))∧(esR x.d (x.e.take j)).length≤(esR x.d x.e).length∧KF h3 h',fun _ t _=>match t with|.int _ j=>x.e.length - j.toNat|_=>0,
  ⟨0,rfl,by omega,by simp [esR],by simp [esR],ar.refl _ _⟩,?_⟩
 rintro _ _ _ h4 ⟨j,rfl,hj,rfl,hjl,k4⟩;have hb4:=k4.get hb3 (by simp)
 have k04:=k03.trans k4;have he4:=he.aC k04;refine lx hb4 (j:=6) rfl ?_;refine he4.sl fun _ _=>?_;rw [asK_int];refine ae (fun hc=>?_) (fun hc=>?_)
 ·have hkl:j < x.e.length:=by
   have:=Qj hc;omega
  have hx:=Q7 hkl;have hdr:=gT hx;have hmem:x.e[j]∈x.e:=Qv hkl;generalize x.e[j]=y at hx hmem hdr;have hyn:=cr hmem;have hyo:=cb oe hmem;have hyF:=mm hf.ex hmem;have hsn:=BV x.d (x.e.take j) y;rw [←aZ hx,Qp,Nat.min_eq_left hj] at hsn;have hmono:(esR x.d (x.e.take (j+1))).length≤(esR x.d x.e).length:=by
   have:∀m:List Ex,∀l:List Ex,(esR x.d l).length≤(esR x.d (l++m)).length:=by
    intro m
    induction m with
    |nil=>intro l;simp
    |cons z r ih =>
     intro l;have h1:=ih (l++[z]);rw [Qk,List.singleton_append] at h1;rw [BV] at h1;simp only [Qd] at h1;omega
   have:=this (x.e.drop (j+1)) (x.e.take (j+1))
   rwa [Q8] at this
  have hsl:=congrArg List.length hsn;simp only [Qd] at hsl;rw [asK_int];refine ⟨fun v h'=>v=.string (bs (pre++esR x.d (x.e.take j)++(if 0 < j then [44] else [])))∧h4=h',ae (fun hc=>?_) (fun hc=>?_),?_⟩
  ·have h0:0 < j:=by
    have:=Qj hc;omega
   rw [if_pos h0] at hsl ⊢;simp only [Qn,Qy] at hsl;simp only [asS_str,lit,br,aK,Qd,Qn,Qy];exact ⟨by omega,trivial,trivial⟩
  ·have h0:¬0 < j:=by
    have:=Qc hc;omega
   rw [if_neg h0,Z1];exact ⟨rfl,rfl⟩
  rintro _ _ _ ⟨rfl,rfl⟩;refine ⟨decide (0 < j∨x.d≠10),?_,fun _=>?_⟩
  ·rw [asK_int];refine ae (fun hc=>?_) (fun hc=>?_)
   ·have:=Qj hc;rw [Z7 (.inl (by omega))]
    exact ⟨rfl,trivial⟩
   ·have:=Qc hc;refine lx hb4 (j:=0) rfl ?_;rw [asK_int];refine ⟨?_,trivial⟩
    congr 1
    rw [Qz];simp;omega
  refine ⟨fun v h'=>v=.string (bs (pre++esR x.d (x.e.take j)++(if 0 < j then [44,32] else if x.d=10 then [] else [32])))∧h4=h',ae (fun hc=>?_) (fun hc=>?_),?_⟩
  ·have hor:=Qj hc
   by_cases h0:0 < j
   ·rw [if_pos h0] at hsl;rw [if_pos h0,if_pos h0];simp only [Qn,Qy] at hsl;simp only [asS_str,lit,br,aK,Qd,Qn,Qy];refine ⟨by omega,?_,trivial⟩
    simp
   ·have h10:¬x.d=10:=hor.resolve_left h0;rw [if_neg h0,if_neg h10] at hsl;rw [if_neg h0,if_neg h0,if_neg h10];simp only [Qn,Qy] at hsl;simp only [asS_str,lit,br,aK,Qd,Qn,Qy];refine ⟨by omega,?_,trivial⟩
    simp
  ·have hor:=Qc hc;have h0:¬0 < j:=fun h=>hor (.inl h);have h10:x.d=10:=Decidable.not_not.1 fun h=>hor (.inr h);rw [if_neg h0,if_neg h0,if_pos h10];exact ⟨rfl,rfl⟩
  rintro _ _ _ ⟨rfl,rfl⟩;refine lx hb4 (j:=6) rfl ?_;refine he4.rdC hx fun w hw=>?_;refine aa.use (Al _ y (Qw _) (by omega) hyo hyF h4 w 0 hw (ht.more k04) (by decide)) ?_
  rintro _ h5 ⟨rfl,k5⟩;have hbr:brk 0 (y.op,exT y)=exT y:=by
   unfold brk;rw [if_neg];unfold rk
   repeat' split
   all_goals simp
  rw [hbr];simp only [asS_str,br,aK,Qd];rw [asK_int,i64_in (by omega) (by omega)]
  refine ⟨by omega,⟨j+1,by simp,by omega,?_,hmono,k4.trans k5⟩,by simp;omega⟩
  rw [hsn];simp only [Qk]
 have hc:=Qc hc;obtain rfl:j=x.e.length:=by omega
 rw [Qo] at hjl ⊢;refine lx hb4 (j:=0) rfl ?_;rw [asK_int];have hpe:sV k++(wdL x.d++p1R x++p2R x++p3R x++p4R x++p5R x++p6R x++esR x.d x.e)=pre++esR x.d x.e:=by
  rw [←hpre];simp only [Qk]
 rw [hpe,AM hf] at hT;rw [AM hf] at hTl;have htotal:=congrArg List.length hT;simp only [Qd] at htotal;refine ⟨fun v h'=>v=.string (bs (pre++esR x.d x.e++p7R x))∧h4=h',ae (fun hc=>?_) (fun hc=>?_),?_⟩
 ·have h10:x.d=10:=Zg hc;have hp:p7R x=[41]:=by rw [p7R,if_pos h10]
  rw [h10] at htotal;have htotal:=htotal;simp only [show decide ((11:Int)≤10)=false from rfl,Bool.false_eq_true,if_false,if_true,Qd,Qn,Qy] at htotal
  simp only [asS_str,lit,br,aK,Qd,Qn,Qy];exact ⟨by rw [h10];omega,by rw [hp],trivial⟩
 ·have hp:p7R x=[]:=by rw [p7R,if_neg (Qa.1 hc)]
  rw [hp,Z1];exact ⟨rfl,rfl⟩
 rintro _ _ _ ⟨rfl,rfl⟩;refine lx hb4 (j:=0) rfl ?_;rw [asK_int];refine ae (fun hc=>?_) (fun hc=>?_)
 ·have hlt:=Qj hc;rw [Z0 (by omega),if_neg (by decide)] at hT htotal
  have hp7:p7R x=if x.d=10 then [41] else []:=rfl
  simp only [asS_str,lit,br,aK,Qd,Qn,Qy] at htotal ⊢;rw [←hp7] at htotal;refine ⟨by omega,?_,k04⟩
  rw [hT,←hp7];simp only [Qk]
 ·have hge:=Qc hc;rw [Z7 (by omega),if_pos rfl] at hT htotal
  have hp7:p7R x=[]:=by rw [p7R,if_neg (by omega)]
  have hbo:f.body=true:=by rw [AM hf,Z7 (by omega)]
  have hd8:=hf.dp hbo;simp only [Qd,Qn,Qy] at htotal;rw [hp7,Z1];refine lx hb4 (j:=7) rfl ?_;refine aa.use (hB h4 vb k (hbd.aC k04) (ht.more k04) hg2 (by omega) (by omega)) ?_
  rintro _ h5 ⟨rfl,k5⟩;have hb5:=k5.get hb4 (by simp)
  have k05:=k04.trans k5;simp only [asS_str,br,aK,Qd];refine ⟨by omega,?_⟩
  refine lx hb5 (j:=8) rfl ?_;refine (hel.aC k05).sl fun _ _=>?_;refine ⟨fun v h'=>v=.string (bs (pre++esR x.d x.e++qG k x.body++(if x.els.length=0 then [] else [32,101,108,115,101]++qG k x.els)))∧KF h5 h',ae (fun hc=>?_) (fun hc=>?_),?_⟩
  ·have hne:¬x.els.length=0:=by
    have:=Qj hc;omega
   rw [if_neg hne] at htotal ⊢;simp only [Qd,Qn,Qy] at htotal;refine lx hb5 (j:=8) rfl ?_;refine aa.use (hE h5 vl k (hel.aC k05) (ht.more k05) hg3 (by omega) (by omega)) ?_
   rintro _ h6 ⟨rfl,k6⟩;simp only [asS_str,lit,br,aK,Qd,Qn,Qy];exact ⟨by omega,by omega,trivial,k6⟩
  ·have hne:x.els.length=0:=by
    have:=Qc hc;omega
   rw [if_pos hne,Z1];exact ⟨rfl,ar.refl _ _⟩
  ·rintro _ _ h6 ⟨rfl,k6⟩;simp only [asS_str,lit,br,aK,Qd,Qn,Qy];refine ⟨by omega,?_,k05.trans k6⟩
   rw [hT];simp only [Qk]
theorem IA (k:Nat):sV k++[9]=sV (k+1):=by
 unfold sV;rw [←List.replicate_succ']
theorem wV:∀(N:Nat) (l:List St),cc l < N→cc l≤80000→ey l→PM ω l:=by
 intro N
 induction N with
 |zero=>exact fun l hN=>absurd hN (Nat.not_lt_zero _)
 |succ N ih =>
  intro l hN hle hok h v k hs ht hg hd hlen X;refine kl ω _ _ h _ X ?_;unfold dO;have hll:=pz l;have hbl:(qG k l).length=3+(qX (k+1) l).length+k+1:=by
   unfold qG;simp only [Qd,bS,Qn,Qy]
  refine ⟨fun o t h'=>∃j:Nat,t=.int .i64 j∧j≤l.length∧o=.string (bs ([32,123,10]++qX (k+1) (l.take j)))∧KF h h',fun _ t _=>match t with|.int _ k=>l.length - k.toNat|_=>0,
   ⟨0,rfl,by omega,rfl,ar.refl _ _⟩,?_⟩
  rintro _ _ _ h3 ⟨j,rfl,hj,rfl,k3⟩;have hs3:=hs.aC k3;refine hs3.sl fun _ _=>?_;rw [asK_int];refine ae (fun hc=>?_) (fun hc=>?_)
  ·have hkl:j < l.length:=by
    have:=Qj hc;omega
   have hx:=Q7 hkl;have hdr:=gT hx;have hmem:l[j]∈l:=Qv hkl;generalize l[j]=x at hx hmem hdr;have hxn:=im hmem;have hxe:=jN x;have hxo:=oT hok hmem;obtain ⟨_,_,_,_,hob,hoe⟩:=gl.1 hxo;have hsp:=tC (k+1) (l.take j) (l.drop j);rw [Q8,hdr] at hsp;have hsp:=congrArg List.length hsp;simp only [qX,Qd] at hsp;have hgx:stG ((k+1:Nat):Int) x:=tA hg hmem;refine hs3.rdC hx fun ve vb vl he hbd hel=>?_;rw [asS_str,lit]
   simp only [br,aK,Qd,bS,Qn,Qy];refine ⟨by omega,?_⟩
   rw [IA];refine aa.use (zo x (by omega) hxo (ih x.body (by omega) (by omega) hob) (ih x.els (by omega) (by omega) hoe) h3 ve vb vl (k+1) he hbd hel (ht.more k3) hgx (by omega) (by omega)) ?_
   rintro _ h5 ⟨rfl,k5⟩;simp only [asS_str,asK_int,br,aK,Qd,Qn,Qy];rw [i64_in (by omega) (by omega)]
   refine ⟨by omega,⟨j+1,by simp,by omega,?_,k3.trans k5⟩,by simp;omega⟩
   rw [aZ hx,zK];simp only [Qk]
  ·have hc:=Qc hc;obtain rfl:j=l.length:=by omega
   rw [Qo];simp only [asS_str,lit,br,aK,Qd,bS,Qn,Qy];exact ⟨by omega,by omega,rfl,k3⟩
end
theorem yO (l:List (ByteArray×ByteArray))(q:ByteArray×ByteArray):tK (l++[q])=tK l++(if 0 < l.length then [44,32] else [])++prT q:=by
 unfold tK;rw [List.map_append,List.map_singleton,Ad,Z6];cases l with
 |nil=>simp [Lib.join_nil]
 |cons a r=>simp
section
variable  {ω:Amb}
set_option maxHeartbeats 400000 in
theorem Iz (p:List Sg)(hsm:Small p)(hok:NL p)(v:Value)(h:Hp)(hp:PgS h v p)(ht:fe h)(X:XT) :
  aa Tryz.prog ω pT [v] h (fun r h'=>r=.string (bs (pgT p))∧KF h h') X:=by
 obtain ⟨w0,rfl,hs⟩:=hp;refine pV ω _ h _ X ?_;unfold hY;simp only [show Value.cells (.agg #[w0])=[w0].toArray from rfl]
 have hlen:=hok.len;have htl:=AK p fun s hs=>⟨hsm.nm s hs,hok.ok s hs⟩;have htot:=hsm.tot;have hb0:=ah (h:=h) (o:=.cells [w0].toArray 24 (0,0));have k0:=ar.push (S:=fun _=>False) h (.cells [w0].toArray 24 (0,0));generalize h.push (.cells [w0].toArray 24 (0,0))=h1 at *;refine ⟨fun o t h'=>∃k:Nat,t=.int .i64 k∧k≤p.length∧o=.string (bs (pgT (p.take k)))∧KF h1 h',fun _ t _=>match t with|.int _ k=>p.length - k.toNat|_=>0,
  ⟨0,rfl,by omega,rfl,ar.refl _ _⟩,?_⟩
 rintro _ _ _ h3 ⟨k,rfl,hk,rfl,k3⟩;have hb3:=k3.get hb0 (by simp)
 have k03:=k0.trans k3;have hs3:=hs.aC k03;refine lx hb3 (j:=0) rfl ?_;refine hs3.sl fun _ _=>?_;rw [asK_int];refine ae (fun hc=>?_) (fun hc=>?_)
 rotate_left
 ·have hc:=Qc hc;obtain rfl:k=p.length:=by omega
  rw [Qo];exact ⟨rfl,k03⟩
 have hkl:k < p.length:=by
  have:=Qj hc;omega
 have hx:=Q7 hkl;have hdr:=gT hx;have hmem:p[k]∈p:=Qv hkl;generalize p[k]=x at hx hmem hdr;have hxok:=hok.ok x hmem;obtain ⟨hnm,hpl,hpn,hbo⟩:=hsm.nm x hmem;have hnm:x.nm.size≤100:=hnm;have hxb:cc x.body≤20000:=Nat.le_trans (ue hmem) hsm.tot;have hpp:=xw x.ps hpn;have hpl6:=hxok.pl;have hsp:pgT p=pgT (p.take k)++(sgT x++pgT (p.drop (k+1))):=by
  conv=>lhs;rw [←Q8 k p,hdr]
  unfold pgT;rw [Qb,Ql]
 have hsp:=congrArg List.length hsp;simp only [Qd] at hsp;have hsl:(sgT x).length=8+x.nm.size+(tK x.ps).length+(qG 0 x.body).length+1:=by
  unfold sgT;simp only [Qd,aH,Qn,Qy];omega
 refine lx hb3 (j:=0) rfl ?_;refine hs3.rdC hx fun vp vb hps hbd=>?_;refine ⟨rfl,lY (ew hps.2) hbd.b8,aA (cs:=sgC x vp vb) rfl ?_⟩;have hb4:=ah (h:=h3) (o:=.cells (sgC x vp vb).toArray 41 (0,0));have k4:=ar.push (S:=fun _=>False) h3 (.cells (sgC x vp vb).toArray 41 (0,0));generalize h3.push (.cells (sgC x vp vb).toArray 41 (0,0))=h4 at *;have hps4:=hps.1.aC k4;have hbd4:=hbd.aC k4;have k04:=k03.trans k4
 refine lx hb4 (j:=0) rfl ?_;rw [asS_str];simp only [lit,asS_str,dQ,aK,Qn,Qy];refine ⟨by omega,by omega,by omega,?_⟩
 refine ⟨fun o t h'=>∃j:Nat,t=.int .i64 j∧j≤x.ps.length∧o=.string (bs (pgT (p.take k)++([115,116,97,103,101,32]++bytesOf x.nm++[40])++tK (x.ps.take j)))∧(tK (x.ps.take j)).length≤(tK x.ps).length∧KF h4 h',fun _ t _=>match t with|.int _ j=>x.ps.length - j.toNat|_=>0,
  ⟨0,rfl,by omega,?_,by simp [tK,Lib.join_nil],ar.refl _ _⟩,?_⟩
 ·rw [show tK (x.ps.take 0)=[] from rfl,Z1]
  simp only [←br,jI]
 rintro _ _ _ h5 ⟨j,rfl,hj,rfl,hjl,k5⟩;have hb5:=k5.get hb4 (by simp)
 have k05:=k04.trans k5;refine lx hb5 (j:=2) rfl ?_;refine bm.sl (hps4.aC k5) fun _ _=>?_;rw [asK_int];refine ae (fun hc=>?_) (fun hc=>?_)
 ·have hjl':j < x.ps.length:=by
   have:=Qj hc;omega
  have hy:=Q7 hjl';have hqm:x.ps[j]∈x.ps:=Qv hjl';generalize x.ps[j]=q at hy hqm;obtain ⟨hq1,hq2⟩:=hpn q hqm;have hq1:q.1.size≤100:=hq1;have hq2:q.2.size≤100:=hq2;have hkl:=qZ q.2;have hsn:=yO (x.ps.take j) q;rw [←aZ hy,Qp,Nat.min_eq_left hj] at hsn;have hmono:(tK (x.ps.take (j+1))).length≤(tK x.ps).length:=by
   have:∀m:List (ByteArray×ByteArray),∀l:List (ByteArray×ByteArray),(tK l).length≤(tK (l++m)).length:=by
    intro m
    induction m with
    |nil=>intro l;simp
    |cons z r ih =>
     intro l;have h1:=ih (l++[z]);rw [Qk,List.singleton_append] at h1;rw [yO] at h1;simp only [Qd] at h1;omega
   have:=this (x.ps.drop (j+1)) (x.ps.take (j+1))
   rwa [Q8] at this
  have hsl':=congrArg List.length hsn;simp only [Qd] at hsl';have hprl:(prT q).length=q.1.size+1+(th q.2).length:=by
   unfold prT;simp only [Qd,aH,Qn,Qy]
  rw [asK_int];refine ⟨fun v h'=>v=.string (bs (pgT (p.take k)++([115,116,97,103,101,32]++bytesOf x.nm++[40])++tK (x.ps.take j)++(if 0 < j then [44,32] else [])))∧h5=h',ae (fun hc=>?_) (fun hc=>?_),?_⟩
  ·have h0:0 < j:=by
    have:=Qj hc;omega
   rw [if_pos h0] at hsl' ⊢;simp only [Qn,Qy] at hsl';simp only [asS_str,br,aK,Qd,Qn,Qy,aH];exact ⟨by omega,trivial,trivial⟩
  ·have h0:¬0 < j:=by
    have:=Qc hc;omega
   rw [if_neg h0,Z1];exact ⟨rfl,rfl⟩
  rintro _ _ _ ⟨rfl,rfl⟩;refine lx hb5 (j:=2) rfl ?_;refine bm.rdTa (f:=pf) (hps4.aC k5) ic hy (o:=0) rfl fun a0 ha0=>?_;rw [asS_str];refine ⟨by omega,?_⟩
  refine lx hb5 (j:=2) rfl ?_;refine bm.rdT (f:=pf) (hps4.aC k5) ic hy (o:=1) rfl ?_;refine aa.use (sS q.2 (by omega) h5) ?_
  rintro _ _ ⟨rfl,rfl⟩;refine ⟨ha0,lx' hb5 rfl,?_⟩;simp only [asS_str,asK_int,aK,Qd,Qn,Qy,aH];rw [i64_in (by omega) (by omega)]
  refine ⟨by omega,by omega,⟨j+1,by simp,by omega,?_,hmono,k5⟩,by simp;omega⟩
  rw [hsn];unfold prT;refine congrArg Value.string (bG ?_);simp only [cB,aF,Qk]
 ·have hc:=Qc hc;obtain rfl:j=x.ps.length:=by omega
  rw [Qo];refine lx hb5 (j:=3) rfl ?_;refine aa.use (wV _ x.body (Qw _) (by omega) hbo h5 vb 0 (hbd4.aC k5) (ht.more k05) (by exact hxok.body) (by omega) (by omega)) ?_
  rintro _ h6 ⟨rfl,k6⟩;simp only [asS_str,asK_int,br,aK,Qd,Qn,Qy,aH];rw [i64_in (by omega) (by omega)]
  refine ⟨by omega,by omega,by omega,⟨k+1,by simp,by omega,?_,((k3.trans k4).trans k5).trans k6⟩,by simp;omega⟩
  have he:pgT (p.take (k+1))=pgT (p.take k)++sgT x:=by
   rw [aZ hx];unfold pgT;rw [Qb];simp
  rw [he];unfold sgT;simp only [Qk]
end
section
variable  {ω:Amb}
theorem Ed (p:List Sg)(hsm:Small p)(v:Value)(h:Hp)(hp:PgS h v p)(ht:fe h)(X:XT) :
  aa Tryz.prog ω jh [v] h (fun r h'=>r=.agg (flt (cI p).1 (cI p).2).toArray∧KF h h') X:=by
 obtain ⟨w0,rfl,hs⟩:=hp;refine iG ω _ h _ X ?_;unfold di bM aR;simp only [show Value.cells (.agg #[w0])=[w0].toArray from rfl]
 have hb0:=ah (h:=h) (o:=.cells [w0].toArray 24 (0,0));have k0:=ar.push (S:=fun _=>False) h (.cells [w0].toArray 24 (0,0));have z0:(h.push (.cells [w0].toArray 24 (0,0))).size=h.size+1:=by simp
 generalize h.push (.cells [w0].toArray 24 (0,0))=h1 at *;have hb1:=ah (h:=h1) (o:=.cells (flt 0 0).toArray 28 (0,0));have k1:=ar.push (S:=fun _=>False) h1 (.cells (flt 0 0).toArray 28 (0,0));simp only [show (Obj.cells #[(.int .i64 0),(.int .i64 0)] 28 (0,0))=Obj.cells (flt 0 0).toArray 28 (0,0) from rfl]
 generalize h1.push (.cells (flt 0 0).toArray 28 (0,0))=h2 at *;have hb0:=k1.get hb0 (by simp)
 have k02:=k0.trans k1;have hL:h.size≤h1.size:=by omega
 refine ⟨_,ak hb0 rfl,?_⟩;refine aa.use (xD p hsm (.agg #[w0]) h2 ⟨w0,rfl,hs.aC k02⟩ (ht.more k02)) ?_;rintro _ h3 ⟨rfl,k3⟩;have hb03:=k3.get hb0 (by simp)
 have hb13:=k3.get hb1 (by simp)
 have k03:=k02.trans k3;rw [asA_agg];refine ⟨rfl,bu _ _,aA (cs:=flt (ji (bC p)).1 (ji (bC p)).2) rfl ?_⟩;have hb4:=ah (h:=h3) (o:=.cells (flt (ji (bC p)).1 (ji (bC p)).2).toArray 28 (0,0));have k4:=ar.push (S:=fun _=>False) h3 (.cells (flt (ji (bC p)).1 (ji (bC p)).2).toArray 28 (0,0));generalize h3.push (.cells (flt (ji (bC p)).1 (ji (bC p)).2).toArray 28 (0,0))=h4 at *;have hb04:=k4.get hb03 (by simp)
 have hb14:=k4.get hb13 (by simp)
 have k04:=k03.trans k4;refine ⟨fun v h'=>v=.bool (decide ((ji (bC p)).1=0∧12000 < (pgT p).length))∧KF h4 h',?_,?_⟩
 ·refine lx hb4 (j:=0) rfl ?_;rw [asK_int];refine ae (fun hc=>?_) (fun hc=>?_)
  ·have h0:(ji (bC p)).1=0:=Zg hc;refine ⟨_,ak hb04 rfl,?_⟩;refine aa.use (Iz p hsm (sH h0).1 (.agg #[w0]) h4 ⟨w0,rfl,hs.aC k04⟩ (ht.more k04)) ?_;rintro _ h5 ⟨rfl,k5⟩;rw [asS_str,aK];refine ⟨?_,k5⟩
   congr 1
   rw [Qz];simp [h0];omega
  ·have h0:¬(ji (bC p)).1=0:=Qa.1 hc;exact ⟨by rw [Z0 fun h=>h0 h.1],ar.refl _ _⟩
 rintro _ _ h5 ⟨rfl,k5⟩;have hb5:=k5.get hb4 (by simp)
 have hb15:=k5.get hb14 (by simp)
 have k05:=k04.trans k5;have hR:cI p=if (ji (bC p)).1=0∧12000 < (pgT p).length then (1,-1) else ji (bC p):=by
  unfold cI
  by_cases h0:(ji (bC p)).1=0
  ·rw [if_pos h0,(sH h0).2.1]
   by_cases h1:12000 < (pgT p).length<;>simp [h1]
  ·rw [if_neg h0,if_neg fun h=>h0 h.1]
 rw [asB_bool];refine ae (fun hc=>?_) (fun hc=>?_)
 ·rw [hR,if_pos (Qj hc)];exact O7 hb15 rfl 1 (-1) (R:=fun r h'=>r=Value.agg (flt (1,(-1:Int)).1 (1,-1).2).toArray∧KF h h') (fun h' kk=>⟨rfl,GW k05 hL kk⟩) X
 ·rw [hR,if_neg (Qc hc)];exact ⟨_,ak hb5 rfl,rfl,bu _ _,zd hb15 rfl rfl fun h' kk _=>⟨rfl,GW k05 hL kk⟩⟩
end
section
variable  {ω:Amb}
end
section
variable  {ω:Amb}
end
section
variable  {ω:Amb}
end
section
variable  {ω:Amb}
end
end Go.Proofs.YtkeeboomikkojaaGreatDoor
