import Derived.Test.YtkeeboomikkojaaGreatDoorRn1
import Derived.Test.YtkeeboomikkojaaGreatDoorY9
set_option maxRecDepth 100000
namespace Go.Proofs.YtkeeboomikkojaaGreatDoor.Tkz
open Go Go.Sx Go.Sx.Tk Go.Proofs.YtkeeboomikkojaaGreatDoor Go.Proofs.YtkeeboomikkojaaGreatDoor.Sx
def scn (s:ByteArray)(j:Nat)(out:Value):List Value:=[.string s,.int .i64 (j:Int),out]
abbrev uX (h:Hp)(G:Nat)(s:ByteArray)(j:Nat)(out:Value):Prop:=h[G]?=some (.cells (scn s j out).toArray 97 (0,0))
def posOf (G:Nat)(h:Hp):Nat:=match h[G]? with|some (.cells cs _ _)=>(match cs.toList with|[_,.int _ k,_]=>k.toNat|_=>0)|_=>0
theorem kv {G:Nat}{h:Hp}{s:ByteArray}{j:Nat}{out:Value}(hb:uX h G s j out):posOf G h=j:=by
 unfold posOf;rw [hb];simp [scn]
abbrev rest (s:ByteArray)(j:Nat):List UInt8:=(bytesOf s).drop j
theorem xu (s:ByteArray)(j:Nat):(rest s j).length=s.size - j:=by rw [Qs,aH]
theorem wL (s:ByteArray):rest s s.size=[]:=List.drop_eq_nil_of_le (by rw [aH];exact Zd _)
theorem uX.set {h:Hp}{G j j':Nat}{s:ByteArray}{out:Value}(hb:uX h G s j out){x:Int}(hx:x=(j':Int)){K:Hp→Prop}
  (hk:∀h',uX h' G s j' out→ar (fun k=>k=G) h h'→K h'):aJ h (Addr.add ⟨G,0,none⟩ 1) (.int .i64 x) K:=by
 subst hx;rw [aP,Zc];exact aM hb (by show 1 < 3;decide) (hk _ (aq hb) (ar.set (S:=fun k=>k=G) _ rfl))
section
variable  {ω:Amb}
theorem za {h:Hp}{G j:Nat}{s:ByteArray}{out:Value}(hs:s.size≤20000)(hj:j≤s.size)(hb:uX h G s j out)(X:XT) :
  aa Tryz.prog ω lS [.pointer (some ⟨G,0,none⟩)] h (fun _ h'=>uX h' G s (j+bk false (rest s j)) out∧ar (fun k=>k=G) h h') X:=by
 refine lR ω _ h _ X ?_;unfold fa;refine ⟨fun r h'=>∃(k:Nat) (b:Bool),r=.bool b∧k≤s.size∧uX h' G s k out∧ar (fun k=>k=G) h h'∧k+bk b (rest s k)=j+bk false (rest s j),
  fun _ h'=>s.size - posOf G h',⟨j,false,rfl,hj,hb,ar.refl _ _,rfl⟩,?_⟩
 rintro _ _ h4 ⟨k,b,rfl,hk,hb4,k4,he⟩;simp only [nnK_ptr,asP_some];refine lx hb4 rfl ?_;refine lx hb4 rfl ?_;rw [asS_str,asK_int];refine ae (fun hc=>?_) (fun hc=>?_)
 ·have hlt:k < s.size:=by have:=Qj hc;omega
  have hd:=sC s hlt;refine lx hb4 rfl ?_;refine lx hb4 rfl ?_;rw [asS_str,asI_int,cN];refine ⟨by omega,by omega,?_⟩
  show ∃J,_∧_;have hstep:bk b (rest s k)=if (cAt s k).toNat=10 then bk false (rest s (k+1))+1 else if b=true∨(cAt s k).toNat=32∨(cAt s k).toNat=9∨(cAt s k).toNat=13 then bk b (rest s (k+1))+1 else if (cAt s k).toNat=35 then bk true (rest s (k+1))+1 else 0:=by
   rw [rest,hd,bk]
  generalize (cAt s k).toNat=c at *;refine ⟨fun r h'=>∃b',r=.bool b'∧h'=h4∧k+1+bk b' (rest s (k+1))=j+bk false (rest s j),?_,?_⟩
  ·refine ⟨fun r h'=>∃b',r=.bool b'∧h'=h4∧k+1+bk b' (rest s (k+1))=j+bk false (rest s j),?_,fun _ _ _ hj=>hj⟩;refine ae (fun hc=>?_) (fun hc=>?_)
   ·have hc':c=10:=by have:=Zg hc;omega
    rw [if_pos hc'] at hstep;exact ⟨false,rfl,rfl,by omega⟩
   ·have hc':¬c=10:=by have:=Qa.1 hc;omega
    rw [if_neg hc'] at hstep;refine ⟨fun r h'=>r=.bool (decide (b=true∨c=32∨c=9∨c=13))∧h'=h4,?_,?_⟩
    ·rw [asB_bool];refine ae (fun hb=>⟨by rw [Z7 (.inl hb),hb],rfl⟩) (fun hb=>?_)
     refine ⟨fun r h'=>r=.bool (decide (b=true∨c=32∨c=9∨c=13))∧h'=h4,?_,fun _ _ _ hj=>hj⟩;refine ae (fun hc=>?_) (fun hc=>?_)
     ·have:=Zg hc;rw [hc,Z7 (.inr (.inl (by omega)))]
      exact ⟨rfl,rfl⟩
     ·have n1:=Qa.1 hc;refine ⟨fun r h'=>r=.bool (decide (b=true∨c=32∨c=9∨c=13))∧h'=h4,?_,fun _ _ _ hj=>hj⟩;refine ae (fun hc=>?_) (fun hc=>?_)
      ·have:=Zg hc;rw [hc,Z7 (.inr (.inr (.inl (by omega))))]
       exact ⟨rfl,rfl⟩
      ·have n2:=Qa.1 hc;refine ⟨?_,rfl⟩
       congr 1
       subst hb;rw [Qz];simp;omega
    ·rintro _ _ h5 ⟨rfl,hh⟩;rw [hh];refine ⟨fun r h'=>∃b',r=.bool b'∧h'=h4∧k+1+bk b' (rest s (k+1))=j+bk false (rest s j),?_,fun _ _ _ hj=>hj⟩;rw [asB_bool];refine ae (fun hc=>?_) (fun hc=>?_)
     ·rw [if_pos (Qj hc)] at hstep;exact ⟨b,rfl,rfl,by omega⟩
     ·rw [if_neg (Qc hc)] at hstep;refine ae (fun hc=>?_) (fun hc=>?_)
      ·have hc':c=35:=by have:=Zg hc;omega
       rw [if_pos hc'] at hstep;exact ⟨true,rfl,rfl,by omega⟩
      ·have hc':¬c=35:=by have:=Qa.1 hc;omega
       rw [if_neg hc'] at hstep;rw [hstep,Nat.add_zero] at he;rw [←he];exact ⟨hb4,k4⟩
  ·rintro _ _ h5 ⟨b',rfl,hh,he'⟩;rw [hh];refine lx hb4 rfl ?_;rw [asK_int];refine hb4.set (j':=k+1) (by rw [i64_in (by omega) (by omega)];omega) fun h6 hb6 k6=>?_
   refine ⟨⟨k+1,b',rfl,by omega,hb6,k4.trans k6,he'⟩,?_⟩
   rw [kv hb6,kv hb4];omega
 ·have hge:k=s.size:=by have:=Qc hc;omega
  subst hge;rw [wL] at he;rw [←he];exact ⟨hb4,k4⟩
theorem Gy {h:Hp}{G j:Nat}{s:ByteArray}{out:Value}(hs:s.size≤20000)(hj:j≤s.size)(hb:uX h G s j out)(X:XT) :
  aa Tryz.prog ω oy [.pointer (some ⟨G,0,none⟩)] h (fun r h'=>r=.string (s.extract j (j+run (rest s j)))∧uX h' G s (j+run (rest s j)) out∧ar (fun k=>k=G) h h') X:=by
 refine oh ω _ h _ X ?_;unfold gJ;simp only [nnK_ptr,asP_some];refine lx hb rfl ?_;refine ⟨fun h'=>∃k:Nat,k≤s.size∧uX h' G s k out∧ar (fun k=>k=G) h h'∧k+run (rest s k)=j+run (rest s j),
  fun h'=>s.size - posOf G h',⟨j,hj,hb,ar.refl _ _,rfl⟩,?_⟩
 rintro _ h4 ⟨k,hk,hb4,k4,he⟩;refine ⟨fun r h'=>r=.bool (decide (k < s.size)&&ld (cAt s k))∧h'=h4,?_,?_⟩
 ·refine lx hb4 rfl ?_;refine lx hb4 rfl ?_;rw [asS_str,asK_int];refine ae (fun hc=>?_) (fun hc=>?_)
  ·have hlt:k < s.size:=by have:=Qj hc;omega
   refine lx hb4 rfl ?_;refine lx hb4 rfl ?_;rw [asS_str,asI_int,cN];refine ⟨by omega,by omega,?_⟩
   refine aa.use (pA _ h4) ?_;rintro _ _ ⟨rfl,hh⟩;rw [hh,asB_bool,Z7 hlt,Zb,Tk.ld];refine ae (fun hc=>⟨by rw [hc];rfl,rfl⟩) (fun hc=>?_)
   refine lx hb4 rfl ?_;refine lx hb4 rfl ?_;rw [asS_str,asI_int,cN,hc];refine ⟨by omega,by omega,?_⟩
   refine aa.use (rH _ h4) ?_;rintro _ _ ⟨rfl,hh⟩;rw [hh];exact ⟨rfl,rfl⟩
  ·have hge:¬k < s.size:=by have:=Qc hc;omega
   rw [Z0 hge];exact ⟨rfl,rfl⟩
 ·rintro _ _ h5 ⟨rfl,hh⟩;rw [hh,asB_bool];refine ae (fun hc=>?_) (fun hc=>?_)
  ·rw [Qq] at hc;have hlt:=Qj hc.1;rw [rest,sC s hlt,pw,if_pos hc.2] at he;refine lx hb4 rfl ?_;rw [asK_int];refine hb4.set (j':=k+1) (by rw [i64_in (by omega) (by omega)];omega) fun h6 hb6 k6=>?_
   refine ⟨⟨k+1,by omega,hb6,k4.trans k6,by show k+1+run ((bytesOf s).drop (k+1))=_;omega⟩,?_⟩
   show s.size - posOf G h6 < s.size - posOf G h4;rw [kv hb6,kv hb4];omega
  ·have he0:run (rest s k)=0:=by
    by_cases hlt:k < s.size
    ·rw [Z7 hlt,Zb] at hc;rw [rest,sC s hlt,pw,if_neg (by rw [hc];decide)]
    ·have:k=s.size:=by omega
     rw [this,wL];rfl
   rw [he0,Nat.add_zero] at he;refine lx hb4 rfl ?_;refine lx hb4 rfl ?_;rw [asS_str,asI_int,asI_int,Qm,Qm,←he];exact ⟨by omega,by omega,by omega,rfl,hb4,k4⟩
theorem LZ (c:UInt8)(hc:c.toNat < 128):Utf8.encode (IntKind.wrap .i32 (c.toNat:Int))=⟨#[c]⟩:=by
 have h1:IntKind.wrap .i32 (c.toNat:Int)=(c.toNat:Int):=by rw [IntKind.wrap_i32];omega
 rw [h1];have:∀n:Fin 128,Utf8.encode ((n:Nat):Int)=⟨#[UInt8.ofNat n]⟩:=by decide+kernel
 have:=this ⟨c.toNat,hc⟩;rw [this];simp
theorem IE {h:Hp}{G j:Nat}{s:ByteArray}{out:Value}(hs:s.size≤20000)(hj:j < s.size)(hb:uX h G s j out)(X:XT) :
  aa Tryz.prog ω mO [.pointer (some ⟨G,0,none⟩)] h (fun r h'=>h'=h∧r=.string (
   if (cAt s j).toNat=61 then (if j+1 < s.size∧(cAt s (j+1)).toNat=61 then ⟨#[61,61]⟩ else ⟨#[61]⟩) else if qW (cAt s j)=true then ⟨#[cAt s j]⟩ else ⟨#[]⟩)) X:=by
 refine ny ω _ h _ X ?_;unfold fH;simp only [nnK_ptr,asP_some];refine lx hb rfl ?_;refine lx hb rfl ?_;rw [asS_str,asI_int,cN];refine ⟨by omega,by omega,?_⟩
 refine ae (fun hc=>?_) (fun hc=>?_)
 ·have hc':(cAt s j).toNat=61:=by have:=Zg hc;omega
  rw [if_pos hc'];have hw:IntKind.wrap .i64 ((j:Int)+1)=((j+1:Nat):Int):=by rw [i64_in (by omega) (by omega)];omega
  refine ⟨decide (j+1 < s.size∧(cAt s (j+1)).toNat=61),?_,fun _=>?_⟩
  ·refine lx hb rfl ?_;rw [asK_int];refine lx hb rfl ?_;rw [asS_str,hw];refine ae (fun hc=>?_) (fun hc=>?_)
   ·refine lx hb rfl ?_;refine lx hb rfl ?_;have:=Qj hc;rw [asK_int,asS_str,hw,cN];refine ⟨by omega,by omega,?_,trivial⟩
    congr 1
    rw [Qz];simp;omega
   ·have:=Qc hc;rw [Z0 (by omega)]
    exact ⟨rfl,trivial⟩
  ·refine ae (fun hc=>?_) (fun hc=>?_)
   ·rw [if_pos (Qj hc)];exact ⟨trivial,rfl⟩
   ·rw [if_neg (Qc hc)];exact ⟨trivial,rfl⟩
 ·have hc':¬(cAt s j).toNat=61:=by have:=Qa.1 hc;omega
  rw [if_neg hc'];refine ⟨fun r h'=>r=.bool (qW (cAt s j))∧h'=h,?_,?_⟩
  rotate_left
  ·rintro _ _ _ ⟨rfl,hh⟩;rw [hh,asB_bool];refine ae (fun hc=>?_) (fun hc=>?_)
   ·rw [if_pos hc,LZ _ (by
     simp only [qW,Bool.or_eq_true,decide_eq_true_eq] at hc;omega)]
    exact ⟨rfl,rfl⟩
   ·rw [if_neg (by rw [hc];decide)]
    exact ⟨rfl,rfl⟩
  unfold qW;generalize (cAt s j).toNat=c;refine ae (fun hc=>?_) (fun hc=>?_)
  ·have:=Zg hc;rw [hc,Z7 (by omega:c=40)]
   exact ⟨rfl,rfl⟩
  rw [Z0 (by have:=Qa.1 hc;omega:¬c=40),Za]
  refine ⟨fun r h'=>r=_∧h'=h,?_,fun _ _ _ hj=>hj⟩;refine ae (fun hc=>?_) (fun hc=>?_)
  ·have:=Zg hc;rw [hc,Z7 (by omega:c=41)]
   exact ⟨rfl,rfl⟩
  rw [Z0 (by have:=Qa.1 hc;omega:¬c=41),Za]
  refine ⟨fun r h'=>r=_∧h'=h,?_,fun _ _ _ hj=>hj⟩;refine ae (fun hc=>?_) (fun hc=>?_)
  ·have:=Zg hc;rw [hc,Z7 (by omega:c=123)]
   exact ⟨rfl,rfl⟩
  rw [Z0 (by have:=Qa.1 hc;omega:¬c=123),Za]
  refine ⟨fun r h'=>r=_∧h'=h,?_,fun _ _ _ hj=>hj⟩;refine ae (fun hc=>?_) (fun hc=>?_)
  ·have:=Zg hc;rw [hc,Z7 (by omega:c=125)]
   exact ⟨rfl,rfl⟩
  rw [Z0 (by have:=Qa.1 hc;omega:¬c=125),Za]
  refine ⟨fun r h'=>r=_∧h'=h,?_,fun _ _ _ hj=>hj⟩;refine ae (fun hc=>?_) (fun hc=>?_)
  ·have:=Zg hc;rw [hc,Z7 (by omega:c=44)]
   exact ⟨rfl,rfl⟩
  rw [Z0 (by have:=Qa.1 hc;omega:¬c=44),Za]
  refine ⟨fun r h'=>r=_∧h'=h,?_,fun _ _ _ hj=>hj⟩;refine ae (fun hc=>?_) (fun hc=>?_)
  ·have:=Zg hc;rw [hc,Z7 (by omega:c=59)]
   exact ⟨rfl,rfl⟩
  rw [Z0 (by have:=Qa.1 hc;omega:¬c=59),Za]
  refine ⟨fun r h'=>r=_∧h'=h,?_,fun _ _ _ hj=>hj⟩;refine ae (fun hc=>?_) (fun hc=>?_)
  ·have:=Zg hc;rw [hc,Z7 (by omega:c=43)]
   exact ⟨rfl,rfl⟩
  rw [Z0 (by have:=Qa.1 hc;omega:¬c=43),Za]
  refine ⟨fun r h'=>r=_∧h'=h,?_,fun _ _ _ hj=>hj⟩;refine ae (fun hc=>?_) (fun hc=>?_)
  ·have:=Zg hc;rw [hc,Z7 (by omega:c=45)]
   exact ⟨rfl,rfl⟩
  rw [Z0 (by have:=Qa.1 hc;omega:¬c=45),Za]
  refine ⟨fun r h'=>r=_∧h'=h,?_,fun _ _ _ hj=>hj⟩;refine ae (fun hc=>?_) (fun hc=>?_)
  ·have:=Zg hc;rw [hc,Z7 (by omega:c=42)]
   exact ⟨rfl,rfl⟩
  rw [Z0 (by have:=Qa.1 hc;omega:¬c=42),Za]
  refine ⟨?_,rfl⟩
  congr 1
  rw [Qz];simp;omega
end
section
variable  {ω:Amb}
theorem Nl {c:UInt8}(hc:dg c=true):IntKind.wrap .u8 ((c.toNat:Int) - 48)=(c.toNat:Int) - 48:=by
 simp only [dg,Qq,decide_eq_true_eq] at hc;rw [IntKind.wrap_u8];omega
def odd (s:ByteArray):Bool:=decide (18 < s.size)||(decide (1 < s.size)&&decide ((cAt s 0).toNat=48))
theorem GR (s:ByteArray):odd s=true↔18 < s.size∨(1 < s.size∧(cAt s 0).toNat=48):=by simp [odd]
theorem L2 (s:ByteArray):DI (bytesOf s)=if odd s=true∨(bytesOf s).all dg=false then none else some (uW (bytesOf s)):=by
 unfold DI;rw [aH];have:(18 < s.size∨1 < s.size∧((bytesOf s).getD 0 0).toNat=48∨(bytesOf s).all dg=false)↔(odd s=true∨(bytesOf s).all dg=false):=by
  rw [GR,or_assoc];rfl
 by_cases h:odd s=true∨(bytesOf s).all dg=false
 ·rw [if_pos h,if_pos (this.2 h)]
 ·rw [if_neg h,if_neg fun x=>h (this.1 x)]
theorem Jw (s:ByteArray)(h:Hp):(asS (.string s) fun s2=>cond (decide (((s2.size:Int):Int) > 18))
 (((.bool true):Value)=.bool (odd s)∧h=h)
 (asS (.string s) fun s3=>cond (decide (((s3.size:Int):Int) > 1))
 (asS (.string s) fun s4=>0≤(0:Int)∧0 < (s4.size:Int)∧((.bool ((aU s4 0)==(48:Int))):Value)=.bool (odd s)∧h=h)
 (((.bool false):Value)=.bool (odd s)∧h=h))):=by
  unfold odd;rw [asS_str];refine ae (fun hc=>⟨?_,rfl⟩) (fun hc=>?_)
  ·have:=Qj hc;rw [Z7 (by omega:18 < s.size),Bool.true_or]
  ·have n1:=Qc hc;rw [asS_str,Z0 (by omega:¬18 < s.size),Za]
   refine ae (fun hc=>?_) (fun hc=>?_)
   ·have:=Qj hc;rw [asS_str,tD,Z7 (by omega:1 < s.size),Zb]
    refine ⟨by omega,by omega,?_,rfl⟩
    congr 1
    rw [Qz];simp;omega
   ·have:=Qc hc;rw [Z0 (by omega:¬1 < s.size),Bool.false_and]
    exact ⟨rfl,rfl⟩
end
section
variable  {ω:Amb}
theorem t2:(∀a b:Value,(#[a,b]:Array Value)[0]?=some a)∧(∀a b:Value,(#[a,b]:Array Value)[1]?=some b):=⟨fun _ _=>rfl,fun _ _=>rfl⟩
theorem Cj (F:Bool→Prop):L0 .nilIface F=F true:=rfl
theorem ne_nil {s:ByteArray}(h:0 < s.size):(s.toList==ByteArray.toList ⟨#[]⟩)=false:=by
 rw [eqS,Z0];intro e;have:=congrArg List.length e;rw [aH,aH] at this;have h1:ByteArray.size ⟨#[]⟩=0:=rfl;omega
theorem wU {s:ByteArray}(h0:0 < s.size)(h18:s.size≤18)(hd:(bytesOf s).all dg=true)(h:Hp)(X:XT) :
  aa Tryz.prog ω ig [.string s,.int .i64 10,.int .i64 64] h (fun r h'=>r=.tuple #[.int .u64 (uW (bytesOf s)),.nilIface]∧KF h h') X:=by
 refine iq ω _ _ _ h _ X ?_;unfold da;rw [asS_str,ne_nil h0];refine ba rfl ?_;rw [asK_int];refine ⟨fun b t h'=>b=.int .i64 10∧t=.string s∧h'=h,?_,?_⟩
 ·refine ⟨fun r h'=>r=.bool true∧h'=h,?_,?_⟩
  ·rw [asK_int];refine cx rfl ?_;rw [asK_int];exact ⟨rfl,rfl⟩
  rintro _ _ h1 ⟨rfl,hh⟩;rw [hh];refine ⟨fun b t h'=>b=.int .i64 10∧t=.string s∧h'=h,?_,fun _ _ _ _ hj=>hj⟩;rw [asB_bool];exact cx rfl ⟨rfl,rfl,rfl⟩
 rintro _ _ _ h1 ⟨rfl,rfl,hh⟩;rw [hh];refine ⟨fun r h'=>r=.int .i64 64∧h'=h,?_,?_⟩
 ·refine ba rfl ?_;refine ⟨false,?_,fun _=>ba rfl ⟨rfl,rfl⟩⟩;rw [asK_int];refine ba rfl ?_;rw [asK_int];exact ⟨rfl,rfl⟩
 rintro _ _ h2 ⟨rfl,hh⟩;rw [hh];refine ⟨fun r h'=>r=.int .u64 1844674407370955162∧h'=h,?_,?_⟩
 ·rw [asK_int];exact ⟨fun r h'=>r=.int .u64 1844674407370955162∧h'=h,cx rfl ⟨rfl,rfl⟩,fun _ _ _ hj=>hj⟩
 rintro _ _ h3 ⟨rfl,hh⟩;rw [hh,asI_int];refine ⟨by decide,?_⟩
 unfold yX;rw [Tryz.underlying9,Tryz.underlying107];simp only [Tryz.underlying5];rw [asS_str];intro cap h4 hsz hold hcell;have k4:KF h h4:=⟨hsz,fun k hk _=>hold k hk⟩;rw [asSl_sl];refine ⟨fun u n i h'=>h'=h4∧u=.bool false∧∃k:Nat,i=.int .i64 k∧k≤s.size∧n=.int .u64 (uW ((bytesOf s).take k)),
  fun _ _ i _=>match i with|.int _ k=>s.size - k.toNat|_=>0,⟨rfl,rfl,0,rfl,by omega,rfl⟩,?_⟩
 rintro _ _ _ _ h5 ⟨hh,rfl,k,rfl,hk,rfl⟩;rw [hh,asK_int];refine ae (fun hc=>?_) (fun hc=>?_)
 ·have hlt:k < s.size:=by have:=Qj hc;omega
  have hcd:=FC hd hlt;obtain ⟨v0,v1,v2,v3⟩:=CN hk h18 (CV hd k);have v3:=v3 hlt;have hdd:=hcd;simp only [dg,Qq,decide_eq_true_eq] at hdd;have hcl:=hcell k hlt;refine ⟨fun u n h'=>h'=h4∧u=.bool false∧n=.int .u64 (uW ((bytesOf s).take (k+1))),?_,?_⟩
  ·rw [asSl1_sl,asI_int];refine ⟨by omega,by omega,?_⟩
   rw [aP,Qm,Nat.mul_one,Zc];refine ⟨.int .u8 ((cAt s k).toNat:Int),hcl,?_⟩;refine ⟨fun u d h'=>h'=h4∧u=.bool false∧d=.int .u8 (((cAt s k).toNat:Int) - 48),?_,?_⟩
   ·refine ⟨fun r h'=>r=.bool false∧h'=h4,?_,?_⟩
    ·rw [asK_int];exact ba (by simp;omega) ⟨rfl,rfl⟩
    rintro _ _ h6 ⟨rfl,hh⟩;rw [hh,asB_bool];refine ba rfl ?_;refine ⟨fun r h'=>r=.bool true∧h'=h4,?_,?_⟩
    ·rw [asK_int];refine cx (by simp;omega) ?_
     rw [asK_int];exact ⟨by congr 1;simp;omega,rfl⟩
    rintro _ _ h6 ⟨rfl,hh⟩;rw [hh];refine ⟨fun r h'=>r=.int .u8 (((cAt s k).toNat:Int) - 48)∧h'=h4,?_,?_⟩
    ·rw [asB_bool];refine cx rfl ?_;rw [asK_int,Nl hcd];exact ⟨rfl,rfl⟩
    rintro _ _ h6 ⟨rfl,hh⟩;exact ⟨hh,rfl,rfl⟩
   rintro _ _ _ h6 ⟨hh,rfl,rfl⟩;rw [hh,asI_int,asK_int];refine ba ?_ ?_
   ·have:IntKind.wrap .u8 10=10:=by decide
    rw [this];simp;omega
   rw [asK_int,asK_int];refine ba (by simp;omega) ?_
   rw [asI_int,asK_int,asI_int];have e1:IntKind.wrap .u64 10=10:=by decide
   have e2:IntKind.wrap .u64 (uW ((bytesOf s).take k)*10)=uW ((bytesOf s).take k)*10:=by rw [IntKind.wrap_u64];omega
   have e3:IntKind.wrap .u64 (((cAt s k).toNat:Int) - 48)=((cAt s k).toNat:Int) - 48:=by rw [IntKind.wrap_u64];omega
   have e4:IntKind.wrap .u64 (uW ((bytesOf s).take k)*10+(((cAt s k).toNat:Int) - 48))=uW ((bytesOf s).take k)*10+(((cAt s k).toNat:Int) - 48):=by rw [IntKind.wrap_u64];omega
   rw [e1,e2,e3,e4];refine ⟨false,?_,fun _=>ba rfl ⟨rfl,rfl,?_⟩⟩
   ·refine ba (by simp;omega) ⟨?_,trivial⟩
    have e5:IntKind.wrap .u64 (shI .u64 .shl 1 (IntKind.wrap .u64 64) - 1)=18446744073709551615:=by decide
    rw [e5]
    congr 1
    simp;omega
   ·rw [lc s hlt,ua]
    congr 1
    omega
  ·rintro _ _ _ h6 ⟨hh,rfl,rfl⟩;rw [asK_int,i64_in (by omega) (by omega)]
   exact ⟨⟨hh,rfl,k+1,by simp,by omega,rfl⟩,by simp;omega⟩
 ·have hke:k=s.size:=by have:=Qc hc;omega
  subst hke;rw [ru];refine ⟨fun r h'=>r=.bool false∧h'=h4,?_,?_⟩
  ·rw [asB_bool];exact ba rfl ⟨rfl,rfl⟩
  rintro _ _ h6 ⟨rfl,hh⟩;rw [hh,asB_bool];exact ba rfl ⟨rfl,k4⟩
theorem xW {s:ByteArray}(h0:0 < s.size)(h18:s.size≤18)(hd:(bytesOf s).all dg=true)(h:Hp)(X:XT) :
  aa Tryz.prog ω je [.string s,.int .i64 10,.int .i64 64] h (fun r h'=>r=.tuple #[.int .i64 (uW (bytesOf s)),.nilIface]∧KF h h') X:=by
 refine iW ω _ _ _ h _ X ?_;unfold dk;rw [asS_str,ne_nil h0];refine ba rfl ?_;have hc:=FC hd h0;simp only [dg,Qq,decide_eq_true_eq] at hc;rw [asS_str];refine ⟨by omega,by omega,?_⟩
 refine ⟨fun t n h'=>t=.string s∧n=.bool false∧h'=h,?_,?_⟩
 ·refine ⟨fun t n h'=>t=.string s∧n=.bool false∧h'=h,?_,fun _ _ _ _ hj=>hj⟩;rw [tD];refine ba (by simp;omega) ?_
  refine ⟨fun t n h'=>t=.string s∧n=.bool false∧h'=h,?_,fun _ _ _ _ hj=>hj⟩;exact ba (by simp;omega) ⟨rfl,rfl,rfl⟩
 rintro _ _ _ h1 ⟨rfl,rfl,hh⟩;rw [hh];refine aa.use (wU h0 h18 hd h) ?_;rintro _ h2 ⟨rfl,k2⟩;simp only [asT_tup,t2,asO_some];have hv:=CN (Zd _) h18 (CV hd _);rw [ru] at hv;obtain ⟨v0,v1,v2,_⟩:=hv;refine ⟨false,?_,fun _=>ba rfl ?_⟩
 ·rw [Cj];exact ba rfl ⟨rfl,trivial⟩
 rw [asK_int];refine ⟨fun r h'=>r=.int .i64 64∧h'=h2,ba rfl ⟨rfl,rfl⟩,?_⟩;rintro _ _ h3 ⟨rfl,hh⟩;rw [hh,asK_int];refine ⟨by decide,false,?_,fun _=>ba rfl ?_⟩
 ·rw [asB_bool];refine cx rfl ?_;rw [asK_int];refine ⟨?_,trivial⟩;have e5:shI .u64 .shl 1 (IntKind.wrap .u64 (IntKind.wrap .i64 (64 - 1)))=9223372036854775808:=by decide
  rw [e5]
  congr 1
  simp;omega
 refine ⟨false,?_,fun _=>ba rfl ?_⟩
 ·rw [asB_bool];exact ba rfl ⟨rfl,trivial⟩
 rw [asI_int];refine ⟨fun r h'=>r=.int .i64 (uW (bytesOf s))∧h'=h2,?_,?_⟩
 ·rw [asB_bool];refine ba rfl ?_;rw [i64_in (by omega) (by omega)]
  exact ⟨rfl,rfl⟩
 rintro _ _ h3 ⟨rfl,hh⟩;rw [hh];exact ⟨rfl,k2⟩
theorem zw {s:ByteArray}(h0:0 < s.size)(h18:s.size≤18)(hd:(bytesOf s).all dg=true)(h:Hp)(X:XT) :
  aa Tryz.prog ω rl [.string s,.int .i64 10,.int .i64 64] h (fun r h'=>r=.tuple #[.int .i64 (uW (bytesOf s)),.nilIface]∧KF h h') X:=by
 refine ry ω _ _ _ h _ X ?_;unfold jE;refine aa.use (xW h0 h18 hd h) ?_;rintro _ h2 ⟨rfl,k2⟩;simp only [asT_tup,t2,asO_some,Cj];exact ba rfl ⟨trivial,k2⟩
theorem DC {s:ByteArray}(h0:0 < s.size)(hs:s.size≤20000)(h:Hp)(X:XT) :
  aa Tryz.prog ω vG [.string s] h (fun r h'=>r=.tuple #[.int .i64 ((DI (bytesOf s)).getD 0),.bool (DI (bytesOf s)).isSome]∧KF h h') X:=by
 refine vC ω _ h _ X ?_;unfold qe;rw [L2];refine ⟨odd s,Jw s h,fun _=>ae (fun hc=>?_) (fun hno=>?_)⟩
 ·rw [if_pos (.inl hc)];exact ⟨rfl,ar.refl _ _⟩
 ·have h18:s.size≤18:=by
   have:=mt (GR s).2 (by rw [hno];decide)
   omega
  rw [asS_str];refine ⟨fun i h'=>h'=h∧∃k:Nat,i=.int .i64 k∧k≤s.size∧((bytesOf s).take k).all dg=true,
   fun i _=>match i with|.int _ k=>s.size - k.toNat|_=>0,⟨rfl,0,rfl,by omega,rfl⟩,?_⟩
  rintro _ _ h4 ⟨hh,k,rfl,hk,hd⟩;rw [hh,asK_int];refine ae (fun hc=>?_) (fun hc=>?_)
  ·have hlt:k < s.size:=by have:=Qj hc;omega
   rw [asS_str,asI_int,cN];refine ⟨by omega,by omega,?_⟩
   refine aa.use (rH _ h) ?_;rintro _ _ ⟨rfl,hh⟩;rw [hh,asB_bool];refine ae (fun hc=>?_) (fun hc=>?_)
   ·have hc':dg (cAt s k)=false:=by simpa using hc
    have hall:(bytesOf s).all dg=false:=by
     cases ha:(bytesOf s).all dg
     ·rfl
     ·rw [FC ha hlt] at hc';cases hc'
    rw [if_pos (.inr hall)];exact ⟨rfl,ar.refl _ _⟩
   ·have hc':dg (cAt s k)=true:=by simpa using hc
    rw [asK_int,i64_in (by omega) (by omega)]
    refine ⟨⟨rfl,k+1,by simp,by omega,?_⟩,by simp;omega⟩
    rw [lc s hlt,List.all_append,hd];simpa using hc'
  ·have hke:k=s.size:=by have:=Qc hc;omega
   subst hke;rw [ru] at hd;rw [if_neg (by rw [hd];simp [hno])]
   refine aa.use (zw h0 h18 hd h) ?_;rintro _ h2 ⟨rfl,k2⟩;simp only [asT_tup,t2,asO_some];exact ⟨rfl,k2⟩
end
theorem sQ {h:Hp}{L:Nat}{cs:List Value}{t:TypeId}(hb:h[L]?=some (.cells cs.toArray t (0,0))){j:Nat}{v:Value}(hj:j < cs.length){K:Hp→Prop}
  (hk:∀h',h'[L]?=some (.cells (cs.set j v).toArray t (0,0))→ar (fun k=>k=L) h h'→K h'):aJ h (Addr.add ⟨L,0,none⟩ j) v K:=by
 rw [aP,Zc];refine aM hb (by simpa using hj) (hk _ ?_ (ar.set (S:=fun k=>k=L) _ rfl))
 rw [aq hb];simp
theorem Mi (s:ByteArray){j:Nat}(hj:j < s.size):uY 2 3 4 (rest s j) =
  if lo (cAt s j)=true then (if isWord ((rest s j).take (run (rest s j)))=true then .tok 1 (run (rest s j)) 0 else if 12 < run (rest s j) then .bad 4 else .tok 2 (run (rest s j)) 0)
  else if dg (cAt s j)=true then (match DI ((rest s j).take (run (rest s j))) with|none=>.bad 3|some n=>.tok 3 (run (rest s j)) n)
  else if (cAt s j).toNat=61 then (if j+1 < s.size∧(cAt s (j+1)).toNat=61 then .tok 4 2 0 else .tok 4 1 0)
  else if qW (cAt s j)=true then .tok 4 1 0 else .bad 2:=by
 have hd:rest s j=cAt s j::rest s (j+1):=sC s hj;generalize hr:rest s j=l at *;subst hd;unfold uY;simp only
 split
 ·rfl
 ·split
  ·rfl
  ·split
   ·by_cases h1:j+1 < s.size
    ·have h2:rest s (j+1)=cAt s (j+1)::rest s (j+1+1):=sC s h1;rw [h2];simp only [h1,true_and]
    ·rw [if_neg (by omega)]
     have h2:rest s (j+1)=[]:=List.drop_eq_nil_of_le (by rw [aH];omega)
     rw [h2]
   ·rfl
theorem GI (s:ByteArray)(j n:Nat):s.extract j (j+n)=⟨((rest s j).take n).toArray⟩:=extract_eq s j n
theorem wu (s:ByteArray)(j n:Nat):bytesOf (s.extract j (j+n))=(rest s j).take n:=by rw [GI];rfl
theorem GQ (s:ByteArray)(j:Nat):(s.extract j (j+run (rest s j))).size=run (rest s j):=by
 rw [←aH,wu,Qp];have:=yG (rest s j);omega
def uN (s:ByteArray)(j:Nat)(kind:Int)(len:Nat)(n:Int):Tok:=⟨kind,j,⟨((rest s j).take len).toArray⟩,n⟩
def MT (s:ByteArray)(G j:Nat)(out:Value)(base:Nat)(ts:List Tok)(h:Hp)(r:Value)(h':Hp):Prop :=
 match uY 2 3 4 (rest s j) with
 |.bad e=>r=.int .i64 e∧ar (fun k=>k=G) h h'
 |.tok kind len n=>r=.int .i64 0∧∃out',uX h' G s (j+len) out'∧bX h' base 100 4 out' (ts++[uN s j kind len n]).length ((ts++[uN s j kind len n]).flatMap Tok.f) ∧
  ar (fun k=>k=G∨out.ownBlock=some k) h h'∧(∀k,out'.ownBlock=some k→out.ownBlock=some k∨h.size≤k)
section
variable  {ω:Amb}
theorem MA {h:Hp}{G j base:Nat}{s:ByteArray}{out:Value}{ts:List Tok}(hs:s.size≤12000)(hj:j < s.size)(hb:uX h G s j out)
  (ho:bX h base 100 4 out ts.length (ts.flatMap Tok.f)) (hts:ts.length≤j) (hbase:base≤h.size) (X:XT) :
  aa Tryz.prog ω ol [.pointer (some ⟨G,0,none⟩)] h (MT s G j out base ts h) X:=by
 refine oL ω _ h _ X ?_;unfold gB;simp only [nnK_ptr,asP_some];refine lx hb rfl ?_;refine ⟨trivial,?_,aA (cs:=[.int .i64 0,.int .i64 (j:Int),.string ⟨#[]⟩,.int .i64 0]) rfl ?_⟩
 ·intro u hu;simp only [List.mem_cons,List.not_mem_nil,or_false] at hu;rcases hu with rfl|rfl|rfl|rfl<;>rfl
 have hGl:G < h.size:=gd hb;have hb2:uX (h.push (.cells (List.toArray [.int .i64 0,.int .i64 (j:Int),.string ⟨#[]⟩,.int .i64 0]) 100 (0,0))) G s j out:=lz hb;have hl2:=ah (h:=h) (o:=.cells (List.toArray [.int .i64 0,.int .i64 (j:Int),.string ⟨#[]⟩,.int .i64 0]) 100 (0,0));have k2:ar (fun k=>k=G) h (h.push (.cells (List.toArray [.int .i64 0,.int .i64 (j:Int),.string ⟨#[]⟩,.int .i64 0]) 100 (0,0))):=ar.push _ _
 generalize h.push (.cells (List.toArray [.int .i64 0,.int .i64 (j:Int),.string ⟨#[]⟩,.int .i64 0]) 100 (0,0))=h2 at *;refine lx hb2 rfl ?_;refine lx hb2 rfl ?_;rw [asS_str,asI_int,cN];refine ⟨by omega,by omega,?_⟩
 have hone:=Mi s hj;have hrl:=yG (rest s j);have hrn:=xu s j;have htl:=GQ s j;have htb:=wu s j (run (rest s j));have hte:=GI s j (run (rest s j));have hrpos:Tk.ld (cAt s j)=true→0 < run (rest s j):=fun hl=>by rw [rest,sC s hj,pw,if_pos hl];omega
 have hGL:G≠h.size:=by omega
 have kloc:∀{a b:Hp},ar (fun k=>k=G) h a→ar (fun k=>k=h.size) a b→ar (fun k=>k=G) h b:=fun ka kb=>ka.cS (kb.mono fun k _ hk=>.inr (Nat.le_of_eq hk.symm));refine ⟨fun h'=>∃kind len n,uY 2 3 4 (rest s j)=.tok kind len n∧h'[h.size]?=some (.cells (uN s j kind len n).f.toArray 100 (0,0))∧uX h' G s (j+len) out∧ar (fun k=>k=G) h h',?_,?_⟩
 ·refine aa.use (pA _ h2) ?_;rintro _ _ ⟨rfl,hh⟩;rw [hh];refine ⟨fun h'=>∃kind len n,uY 2 3 4 (rest s j)=.tok kind len n∧h'[h.size]?=some (.cells (uN s j kind len n).f.toArray 100 (0,0))∧uX h' G s (j+len) out∧ar (fun k=>k=G) h h',?_,fun _ _ hj=>hj⟩;rw [asB_bool];refine ae (fun hlo=>?_) (fun hlo=>?_)
  ·rw [if_pos hlo] at hone;refine aa.use (Gy (by omega) (by omega) hb2) ?_
   rintro _ h3 ⟨rfl,hb3,k3⟩;generalize s.extract j (j+run (rest s j))=x at *;rw [oneK_str];refine sQ (k3.get hl2 (by omega)) (by simp) fun h4 hl4 k4=>?_
   refine sQ hl4 (by simp) fun h5 hl5 k5=>?_
   have hb5:=k5.get (k4.get hb3 (by omega)) (by omega)
   have kk5:=kloc (kloc (k2.trans k3) k4) k5;simp only [st] at hl5;refine lx hl5 rfl ?_;refine aa.use (Dw x h5) ?_;rintro _ _ ⟨rfl,hh⟩;rw [hh];refine ⟨fun h'=>∃kind len n,uY 2 3 4 (rest s j)=.tok kind len n∧h'[h.size]?=some (.cells (uN s j kind len n).f.toArray 100 (0,0))∧uX h' G s (j+len) out∧ar (fun k=>k=G) h h',?_,fun _ _ hj=>hj⟩;rw [asB_bool,htb];refine ae (fun hw=>?_) (fun hw=>?_)
   ·rw [if_pos hw] at hone;refine sQ hl5 (by simp) fun h6 hl6 k6=>?_
    refine ⟨_,_,_,hone,?_,k6.get hb5 (by omega),kloc kk5 k6⟩
    simp only [st] at hl6;rw [hl6,hte];rfl
   ·rw [if_neg (by rw [hw];decide)] at hone
    refine lx hl5 rfl ?_;rw [asS_str,htl];refine ae (fun hc=>?_) (fun hc=>?_)
    ·have:=Qj hc;rw [if_pos (by omega)] at hone
     unfold MT;rw [hone];exact ⟨rfl,kk5⟩
    ·have:=Qc hc;rw [if_neg (by omega)] at hone
     refine ⟨_,_,_,hone,?_,hb5,kk5⟩;rw [hl5,hte];rfl
  ·rw [if_neg (by rw [hlo];decide)] at hone
   refine aa.use (rH _ h2) ?_;rintro _ _ ⟨rfl,hh⟩;rw [hh];refine ⟨fun h'=>∃kind len n,uY 2 3 4 (rest s j)=.tok kind len n∧h'[h.size]?=some (.cells (uN s j kind len n).f.toArray 100 (0,0))∧uX h' G s (j+len) out∧ar (fun k=>k=G) h h',?_,fun _ _ hj=>hj⟩;rw [asB_bool];refine ae (fun hdg=>?_) (fun hdg=>?_)
   ·rw [if_pos hdg] at hone;have hrp:=hrpos (by rw [Tk.ld,hdg,Bool.or_true])
    refine aa.use (Gy (by omega) (by omega) hb2) ?_
    rintro _ h3 ⟨rfl,hb3,k3⟩;generalize s.extract j (j+run (rest s j))=x at *;rw [oneK_str];refine sQ (k3.get hl2 (by omega)) (by simp) fun h4 hl4 k4=>?_
    simp only [st] at hl4;refine lx hl4 rfl ?_;refine aa.use (DC (by omega) (by omega) h4) ?_
    rintro _ h5 ⟨rfl,k5⟩;simp only [asT_tup,t2,asO_some,asB_bool];rw [htb];have hb5:=k5.get (k4.get hb3 (by omega)) (by simp)
    have kk5:=(kloc (k2.trans k3) k4).trans (k5.mono (by simp))
    have hl5:=k5.get hl4 (by simp)
    cases hn:DI ((rest s j).take (run (rest s j))) with
    |none =>
     rw [hn] at hone;refine cx rfl ?_;unfold MT;rw [hone];exact ⟨rfl,kk5⟩
    |some n =>
     rw [hn] at hone;refine ba rfl ?_;refine sQ hl5 (by simp) fun h6 hl6 k6=>?_
     rw [oneK_int];refine sQ hl6 (by simp) fun h7 hl7 k7=>?_
     simp only [st] at hl7;refine ⟨_,_,_,hone,?_,k7.get (k6.get hb5 (by omega)) (by omega),kloc (kloc kk5 k6) k7⟩
     rw [hl7,hte];rfl
   ·rw [if_neg (by rw [hdg];decide)] at hone
    refine aa.use (IE (by omega) hj hb2) ?_
    rintro _ h3 ⟨hh,rfl⟩;rw [hh];have hsig:∃x:ByteArray,(if (cAt s j).toNat=61 then (if j+1 < s.size∧(cAt s (j+1)).toNat=61 then (⟨#[61,61]⟩:ByteArray) else ⟨#[61]⟩) else if qW (cAt s j)=true then ⟨#[cAt s j]⟩ else ⟨#[]⟩)=x ∧
      ((x.size=0∧uY 2 3 4 (rest s j)=.bad 2)∨(0 < x.size∧x.size≤2∧uY 2 3 4 (rest s j)=.tok 4 x.size 0∧x=⟨((rest s j).take x.size).toArray⟩)):=by
     have hd:rest s j=cAt s j::rest s (j+1):=sC s hj;refine ⟨_,rfl,?_⟩
     split
     ·rename_i h61;rw [if_pos h61] at hone;have hc61:cAt s j=61:=UInt8.toNat_inj.1 (by rw [h61];rfl)
      split
      ·rename_i h2;rw [if_pos h2] at hone;have hd2:rest s (j+1)=cAt s (j+1)::rest s (j+1+1):=sC s h2.1;have hc2:cAt s (j+1)=61:=UInt8.toNat_inj.1 (by rw [h2.2];rfl)
       refine .inr ⟨by decide,by decide,hone,?_⟩
       rw [hd,hd2,hc61,hc2];rfl
      ·rename_i h2;rw [if_neg h2] at hone;refine .inr ⟨by decide,by decide,hone,?_⟩
       rw [hd,hc61];rfl
     ·rename_i h61;rw [if_neg h61] at hone
      split
      ·rename_i h2;rw [if_pos h2] at hone;have h1:ByteArray.size ⟨#[cAt s j]⟩=1:=rfl;refine .inr ⟨by rw [h1];decide,by rw [h1];decide,by rw [h1];exact hone,?_⟩
       rw [h1,hd];rfl
      ·rename_i h2;rw [if_neg h2] at hone;exact .inl ⟨rfl,hone⟩
    obtain ⟨x,hx,hsig⟩:=hsig;rw [hx];refine sQ hl2 (by simp) fun h4 hl4 k4=>?_
    rw [oneK_str];refine sQ hl4 (by simp) fun h5 hl5 k5=>?_
    have hb5:uX h5 G s j out:=k5.get (k4.get hb2 (by omega)) (by omega)
    have kk5:=kloc (kloc k2 k4) k5;simp only [st] at hl5;refine lx hl5 rfl ?_;rw [asS_str];rcases hsig with ⟨h0,hbad⟩|⟨hp,hp2,htok,hxe⟩
    ·refine cx ?_ ?_
     ·rw [eqS,decide_eq_true_eq];refine List.eq_nil_of_length_eq_zero ?_;rw [aH,h0]
     ·unfold MT;rw [hbad];exact ⟨rfl,kk5⟩
    ·rw [ne_nil hp];refine ba rfl ?_;refine lx hb5 rfl ?_;refine lx hl5 rfl ?_;rw [asS_str,asK_int];refine hb5.set (j':=j+x.size) (by rw [i64_in (by omega) (by omega)];omega) fun h6 hb6 k6=>?_
     refine ⟨_,_,_,htok,?_,hb6,kk5.trans k6⟩;rw [k6.get hl5 (by omega),uN,←hxe]
     rfl
 rintro _ h3 ⟨kind,len,n,htok,hl3,hb3,k3⟩;refine lx hb3 rfl ?_;refine ⟨_,ak hl3 rfl,?_⟩;simp only [Z1];refine ⟨rfl,lx' (lz hb3) rfl,?_⟩;have ho3:bX h3 base 100 4 out ts.length (ts.flatMap Tok.f):=ho.Gb k3 (EA.blk hb) (by decide)
 refine dR (bt:=40) (by kernel_rfl) ho3 rfl (uN s j kind len n).one (by omega) (by omega) (Nat.le_trans hbase k3.size) fun w h4 ho4 hg hne hown=>?_
 have hout:∀k,out.ownBlock=some k→k≠G:=fun k hk hkG=>by
  obtain ⟨c,hc⟩:=ho.blk hk;rw [hkG,hb] at hc;cases hc
 have k4:ar (fun k=>out.ownBlock=some k) h3 h4:=ar.grown hg fun k hk _=>hk;have hb4:=k4.get hb3 (fun hk=>hout G hk rfl);rw [FW (tX ho4)];have hwn:w≠.slice none 0 0:=hne;have hwG:∀k,w.ownBlock=some k→k≠G:=fun k hk hkG=>by
  rcases hown k hk with h1|h1
  ·exact hout k h1 hkG
  ·have:=k3.size;omega
 rw [aP,Zc];refine aM hb4 (by show 2 < 3;decide) ?_
 unfold MT;rw [htok];have k5:ar (fun k=>k=G) h4 (h4.setIfInBounds G (.cells ((scn s (j+len) out).toArray.setIfInBounds 2 w) 97 (0,0))):=ar.set (S:=fun k=>k=G) _ rfl;refine ⟨rfl,w,?_,?_,?_,?_⟩
 ·rw [uX,aq hb4];simp [scn]
 ·have:=ho4.aC (h':=h4.setIfInBounds G (.cells ((scn s (j+len) out).toArray.setIfInBounds 2 w) 97 (0,0))) fun k hk hlt=>k5.block k hlt (hwG k hk);rw [Qd,Qb];simpa using this
 ·exact ((k3.mono fun k _ hk=>.inl hk).trans (k4.mono fun k _ hk=>.inr hk)).trans (k5.mono fun k _ hk=>.inl hk)
 ·intro k hk;rcases hown k hk with h1|h1
  ·exact .inl h1
  ·have:=k3.size;exact .inr (by omega)
end
abbrev Sc (l:List UInt8)(a:Int)(res:Res):Prop:=jz 2 3 4 l a res
inductive LY (s:ByteArray) (h:Hp) (r:Value) (h':Hp):Prop
 |big (hb:12000 < s.size) (hr:r=.tuple #[.slice none 0 0,.agg (flt 1 12000).toArray]) (hk:KF h h')
 |ok (ts:List Tok) (v:Value) (hb:s.size≤12000) (hs:Sc (bytesOf s) 0 (.ok ts)) (hr:r=.tuple #[v,.agg (flt 0 0).toArray]) (ho:bX h' h.size 100 4 v ts.length (ts.flatMap Tok.f)) (hk:KF h h')
 |bad (e a:Int) (hb:s.size≤12000) (hs:Sc (bytesOf s) 0 (.error (e,a))) (hr:r=.tuple #[.slice none 0 0,.agg (flt e a).toArray]) (hk:KF h h')
structure St (s:ByteArray)(h:Hp)(j:Nat)(ts:List Tok)(out:Value)(h':Hp):Prop where
 le:j≤s.size
 own:bX h' h.size 100 4 out ts.length (ts.flatMap Tok.f)
 len:ts.length≤j
 aC:KF h h'
 flt:h'[h.size]?=some (.cells (Go.Proofs.YtkeeboomikkojaaGreatDoor.flt 0 0).toArray 28 (0,0))
 run:∀res,Sc (rest s j) j res→Sc (bytesOf s) 0 (Lt ts res)
theorem St.start (s:ByteArray)(h:Hp){h':Hp}(hk:KF h h')(hf:h'[h.size]?=some (.cells (Go.Proofs.YtkeeboomikkojaaGreatDoor.flt 0 0).toArray 28 (0,0))):St s h 0 [] (.slice none 0 0) h' :=
 ⟨Nat.zero_le _,bX.nil,Zd _,hk,hf,fun res hs=>by rw [Iu];exact hs⟩
theorem St.more {s:ByteArray}{h h' h'':Hp}{j:Nat}{ts:List Tok}{out:Value}(hst:St s h j ts out h'){G:Nat}(hk:ar (fun k=>k=G) h' h'')(hG:h.size < G)(hT:∃c,h'[G]?=some (.cells c 97 (0,0))):St s h j ts out h'' :=
 ⟨hst.le,by
  obtain ⟨c,hc⟩:=hT;exact hst.own.Gb hk (EA.blk hc) (by decide),hst.len,hst.aC.cS (hk.mono fun k _ hk=>.inr (by omega)),hk.get hst.flt (by omega),hst.run⟩
theorem St.tok {s:ByteArray}{h h' h'':Hp}{j j1:Nat}{ts:List Tok}{out w:Value}(hst:St s h j ts out h')(hj1:j1=j+bk false (rest s j))(hlt:j1 < s.size){kind:Int}{len:Nat}{n:Int}
  (ht:uY 2 3 4 (rest s j1)=.tok kind len n) (ho:bX h'' h.size 100 4 w (ts++[uN s j1 kind len n]).length ((ts++[uN s j1 kind len n]).flatMap Tok.f)) (hk:KF h h'')
  (hf:h''[h.size]?=some (.cells (Go.Proofs.YtkeeboomikkojaaGreatDoor.flt 0 0).toArray 28 (0,0))):St s h (j1+len) (ts++[uN s j1 kind len n]) w h''∧j1 < j1+len:=by
 obtain ⟨h1,h2⟩:=yj ht;rw [xu] at h2;refine ⟨⟨by omega,ho,?_,hk,hf,fun res hs=>?_⟩,by omega⟩
 ·have:=hst.len;simp;omega
 ·have hd:(rest s j).drop (bk false (rest s j))=cAt s j1::rest s (j1+1):=by
   rw [Z8,←hj1];exact sC s hlt
  have hd1:rest s j1=cAt s j1::rest s (j1+1):=sC s hlt;have hrest:(cAt s j1::rest s (j1+1)).drop len=rest s (j1+len):=by rw [←hd1,Z8]
  have hc1:((j1+len:Nat):Int)=(j:Int)+(bk false (rest s j):Nat)+(len:Nat):=by omega
  have hc2:(j:Int)+(bk false (rest s j):Nat)=(j1:Int):=by omega
  rw [hc1,←hrest] at hs;rw [←Ih];refine hst.run _ ?_;cases res with
  |ok us =>
   have:=jz.tok hd (by rw [←hd1];exact ht) hs
   rw [←hd1,hc2] at this;exact this
  |error x=>exact jz.fail hd (by rw [←hd1];exact ht) hs
theorem St.bad {s:ByteArray}{h h':Hp}{j j1:Nat}{ts:List Tok}{out:Value}(hst:St s h j ts out h')(hj1:j1=j+bk false (rest s j))(hlt:j1 < s.size){e:Int}
  (ht:uY 2 3 4 (rest s j1)=.bad e):Sc (bytesOf s) 0 (.error (e,(j1:Int))):=by
 have hd:(rest s j).drop (bk false (rest s j))=cAt s j1::rest s (j1+1):=by
  rw [Z8,←hj1];exact sC s hlt
 have hd1:rest s j1=cAt s j1::rest s (j1+1):=sC s hlt;have:=hst.run _ (jz.bad hd (by rw [←hd1];exact ht))
 have hc2:(j:Int)+(bk false (rest s j):Nat)=(j1:Int):=by omega
 rw [hc2] at this;exact this
theorem St.stop {s:ByteArray}{h h':Hp}{j:Nat}{ts:List Tok}{out:Value}(hst:St s h j ts out h')(hj1:j+bk false (rest s j)=s.size):Sc (bytesOf s) 0 (.ok ts):=by
 have:=hst.run _ (jz.stop (by rw [Z8,hj1];exact wL s))
 simpa [Lt] using this
theorem Kd {l:List UInt8}{e:Int}(h:uY 2 3 4 l=.bad e):e=2∨e=3∨e=4:=by
 unfold uY at h
 split at h
 ·cases h;exact .inl rfl
 ·repeat' split at h
  all_goals cases h
  all_goals simp
theorem zd {h:Hp}{L:Nat}{cs ds:List Value}(hw:h[L]?=some (.cells ds.toArray 28 (0,0)))(hd:ds.length=2)(hc:cs.length=2){K:List Value→Hp→Prop}
  (hk:∀h',ar (fun k=>k=L) h h'→h'[L]?=some (.cells cs.toArray 28 (0,0))→K cs h'):av h ⟨L,0,none⟩ cs fun h'=>∃C,aj h' ⟨L,0,none⟩ 2 C∧K C h':=by
 refine aW hw (by simp;omega) ?_
 rw [ca (by simp;omega)]
 have hb:=aq (o:=.cells cs.toArray 28 (0,0)) hw;exact ⟨cs,ak hb hc,hk _ (ar.set (S:=fun k=>k=L) _ rfl) hb⟩
section
variable  {ω:Amb}
theorem Jx (s:ByteArray)(h:Hp)(X:XT):aa Tryz.prog ω yK [.string s] h (LY s h) X:=by
 refine Aa ω _ h _ X ?_;unfold sW cp;rw [asS_str];refine ae (fun hc=>?_) (fun hc=>?_)
 ·have:=Qj hc;refine ⟨rfl,bu 1 12000,aA (cs:=flt 1 12000) rfl ?_⟩;exact ⟨_,tc rfl,.big (by omega) rfl (ar.push _ _)⟩
 have hs:s.size≤12000:=by have:=Qc hc;omega
 rw [oneK_str];have hG:Array.size (h.push (.cells #[(.int .i64 0),(.int .i64 0)] 28 (0,0)))=h.size+1:=by simp
 have hb0:uX (Array.push (h.push (.cells #[(.int .i64 0),(.int .i64 0)] 28 (0,0))) (.cells #[.string s,(.int .i64 0),(.slice none 0 0)] 97 (0,0))) (h.size+1) s 0 (.slice none 0 0):=by
  rw [←hG];exact ah
 have hf0:(Array.push (h.push (.cells #[(.int .i64 0),(.int .i64 0)] 28 (0,0))) (.cells #[.string s,(.int .i64 0),(.slice none 0 0)] 97 (0,0)))[h.size]?=some (.cells (flt 0 0).toArray 28 (0,0)):=lz ah;have k0:KF h (Array.push (h.push (.cells #[(.int .i64 0),(.int .i64 0)] 28 (0,0))) (.cells #[.string s,(.int .i64 0),(.slice none 0 0)] 97 (0,0))):=(ar.push _ _).trans (ar.push _ _);rw [hG];generalize Array.push (h.push (.cells #[(.int .i64 0),(.int .i64 0)] 28 (0,0))) (.cells #[.string s,(.int .i64 0),(.slice none 0 0)] 97 (0,0))=h0 at *
 have st0:=St.start s h k0 hf0;refine aa.use (za (by omega) (Nat.zero_le _) hb0) ?_
 rintro _ h1 ⟨hb1,k1⟩;have st1:=st0.more k1 (by omega) ⟨_,hb0⟩
 refine ⟨fun h'=>∃j ts out,St s h j ts out h'∧uX h' (h.size+1) s (j+bk false (rest s j)) out,fun h'=>s.size - posOf (h.size+1) h',⟨0,[],_,st1,hb1⟩,?_⟩;rintro _ h2 ⟨j,ts,out,st2,hb2⟩;have hrl:=xu s j;have hbl:=oV false (rest s j);have hle:=st2.le;have hln:=st2.len;refine lx hb2 rfl ?_;rw [asS_str,asK_int];refine ae (fun hc=>?_) (fun hc=>?_)
 ·have hlt:j+bk false (rest s j) < s.size:=by have:=Qj hc;omega
  refine lx hb2 rfl ?_;refine aa.use (MA hs hlt hb2 st2.own (by omega) st2.aC.size) ?_
  intro r3 h3 hone;unfold MT at hone;cases ht:uY 2 3 4 (rest s (j+bk false (rest s j))) with
  |bad e =>
   rw [ht] at hone;obtain ⟨rfl,k3⟩:=hone;have he:=Kd ht;rw [asK_int];refine cx (by simp;omega) ?_
   rw [oneK_int,oneK_int];have st3:=st2.more k3 (by omega) ⟨_,hb2⟩
   refine ⟨rfl,bu _ _,zd (cs:=flt e _) st3.flt rfl rfl fun h4 k4 _=>?_⟩;exact .bad e _ hs (st2.bad rfl hlt ht) rfl (st3.aC.cS (k4.mono fun k _ hk=>.inr (by omega)))
  |tok kind len n =>
   rw [ht] at hone;obtain ⟨rfl,out3,hb3,ho3,k3,hw3⟩:=hone;rw [asK_int];refine ba rfl ?_;have hnf:∀k,out.ownBlock=some k→k≠h.size:=fun k hk hkh=>by
    obtain ⟨c,hc⟩:=st2.own.blk hk;rw [hkh,st2.flt] at hc;cases hc
   have hf3:=k3.get st2.flt (by
    rintro (hk|hk)
    ·omega
    ·exact hnf _ hk rfl)
   obtain ⟨st3,hgt⟩:=st2.tok rfl hlt ht ho3 (st2.aC.cS (k3.mono fun k hk hkk=>.inr (by
    rcases hkk with rfl|hkk
    ·omega
    ·exact (st2.own.lt k hkk).1))) hf3
   refine aa.use (za (by omega) st3.le hb3) ?_
   rintro _ h4 ⟨hb4,k4⟩;refine ⟨⟨_,_,out3,st3.more k4 (by omega) ⟨_,hb3⟩,hb4⟩,?_⟩
   show s.size - posOf (h.size+1) h4 < s.size - posOf (h.size+1) h2;rw [kv hb4,kv hb2];have:=st3.le;omega
 ·have hge:j+bk false (rest s j)=s.size:=by have:=Qc hc;omega
  refine lx hb2 rfl ?_;refine ⟨rfl,bu 0 0,zd (cs:=flt 0 0) st2.flt rfl rfl fun h4 k4 _=>?_⟩;refine .ok ts out hs (st2.stop hge) rfl ?_ (st2.aC.cS (k4.mono fun k _ hk=>.inr (by omega)))
  exact st2.own.Gb k4 (EA.blk st2.flt) (by decide)
end
def Out (s:ByteArray)(ts:List Tok)(e a:Int):Prop :=
 (12000 < s.size∧ts=[]∧e=1∧a=12000)∨(s.size≤12000∧Sc (bytesOf s) 0 (.ok ts)∧e=0∧a=0)∨(s.size≤12000∧Sc (bytesOf s) 0 (.error (e,a))∧ts=[])
theorem Out.same {s:ByteArray}{ts us:List Tok}{e a e' a':Int}(h:Out s ts e a)(k:Out s us e' a'):ts=us∧e=e'∧a=a':=by
 rcases h with ⟨h0,h1,h2,h3⟩|⟨h0,h1,h2,h3⟩|⟨h0,h1,h2⟩<;>rcases k with ⟨k0,k1,k2,k3⟩|⟨k0,k1,k2,k3⟩|⟨k0,k1,k2⟩<;>try omega
 ·exact ⟨by rw [h1,k1],by rw [h2,k2],by rw [h3,k3]⟩
 ·cases h1.same k1;exact ⟨rfl,by rw [h2,k2],by rw [h3,k3]⟩
 ·cases h1.same k1
 ·cases h1.same k1
 ·cases h1.same k1;exact ⟨by rw [h2,k2],rfl,rfl⟩
theorem Sc.len {l:List UInt8}{at_:Int}{res:Res}(h:Sc l at_ res):∀ts,res=.ok ts→ts.length≤l.length:=by
 induction h with
 |stop _=>rintro _ ⟨⟩;simp
 |bad _ _=>rintro _ ⟨⟩
 |@tok l r at_ c kind len n ts h1 e1 k1 ih =>
  rintro _ ⟨⟩;have:=ih ts rfl;have h2:=yj e1;have h3:=congrArg List.length h1;rw [Qs] at this h3;simp only [Qn] at *;omega
 |fail _ _ _ _=>rintro _ ⟨⟩
theorem Out.len {s:ByteArray}{ts:List Tok}{e a:Int}(h:Out s ts e a):ts.length≤12000:=by
 rcases h with ⟨_,rfl,_⟩|⟨h0,h1,_⟩|⟨_,_,rfl⟩
 ·simp
 ·have:=h1.len ts rfl;rw [aH] at this;omega
 ·simp
theorem Sc.err {l:List UInt8}{at_:Int}{res:Res}(h:Sc l at_ res):∀e a,res=.error (e,a)→e≠0∧at_≤a∧a≤at_+l.length:=by
 induction h with
 |stop _=>rintro _ _ ⟨⟩
 |@bad l r at_ c e0 h1 e1 =>
  rintro _ _ ⟨⟩;have:=Kd e1;have:=oV false l;omega
 |tok _ _ _ _=>rintro _ _ ⟨⟩
 |@fail l r at_ c kind len n x h1 e1 k1 ih =>
  intro e a he;obtain ⟨h4,h5,h6⟩:=ih e a he;have h2:=yj e1;have h3:=congrArg List.length h1;rw [Qs] at h6 h3;simp only [Qn] at *;omega
end Go.Proofs.YtkeeboomikkojaaGreatDoor.Tkz
