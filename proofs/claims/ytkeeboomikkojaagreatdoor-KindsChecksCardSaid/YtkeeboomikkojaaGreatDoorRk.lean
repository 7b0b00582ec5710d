import Derived.Test.YtkeeboomikkojaaGreatDoorRn1
import Derived.Test.YtkeeboomikkojaaGreatDoorY9
set_option maxRecDepth 100000
namespace Go.Proofs.YtkeeboomikkojaaGreatDoor.Tkz
open Go Go.Sx Go.Sx.Tk Go.Proofs.YtkeeboomikkojaaGreatDoor Go.Proofs.YtkeeboomikkojaaGreatDoor.Sx
def scn (s:ByteArray)(j:Nat)(out:Value):List Value:=[.string s,.int .i64 (j:Int),out]
abbrev vH (h:Hp)(G:Nat)(s:ByteArray)(j:Nat)(out:Value):Prop:=h[G]?=some (.cells (scn s j out).toArray 97 (0,0))
def posOf (G:Nat)(h:Hp):Nat:=match h[G]? with|some (.cells cs _ _)=>(match cs.toList with|[_,.int _ k,_]=>k.toNat|_=>0)|_=>0
theorem lX {G:Nat}{h:Hp}{s:ByteArray}{j:Nat}{out:Value}(hb:vH h G s j out):posOf G h=j:=by
 unfold posOf;rw [hb];simp [scn]
abbrev rest (s:ByteArray)(j:Nat):List UInt8:=(bytesOf s).drop j
theorem ye (s:ByteArray)(j:Nat):(rest s j).length=s.size - j:=by rw [Qs,aN]
theorem yk (s:ByteArray):rest s s.size=[]:=List.drop_eq_nil_of_le (by rw [aN];exact Zc _)
theorem vH.set {h:Hp}{G j j':Nat}{s:ByteArray}{out:Value}(hb:vH h G s j out){x:Int}(hx:x=(j':Int)){K:Hp→Prop}
  (hk:∀h',vH h' G s j' out→ay (fun k=>k=G) h h'→K h'):aM h (Addr.add ⟨G,0,none⟩ 1) (.int .i64 x) K:=by
 subst hx;rw [aT,Zb];exact aR hb (by show 1 < 3;decide) (hk _ (av hb) (ay.set (S:=fun k=>k=G) _ rfl))
section
variable  {ω:Amb}
theorem Ah {h:Hp}{G j:Nat}{s:ByteArray}{out:Value}(hs:s.size≤20000)(hj:j≤s.size)(hb:vH h G s j out)(X:XT) :
  ae Tryz.prog ω mX [.pointer (some ⟨G,0,none⟩)] h (fun _ h'=>vH h' G s (j+bG false (rest s j)) out∧ay (fun k=>k=G) h h') X:=by
 refine nf ω _ h _ X ?_;unfold fR;refine ⟨fun r h'=>∃(k:Nat) (b:Bool),r=.bool b∧k≤s.size∧vH h' G s k out∧ay (fun k=>k=G) h h'∧k+bG b (rest s k)=j+bG false (rest s j),
  fun _ h'=>s.size - posOf G h',⟨j,false,rfl,hj,hb,ay.refl _ _,rfl⟩,?_⟩
 rintro _ _ h4 ⟨k,b,rfl,hk,hb4,k4,he⟩;simp only [nnK_ptr,asP_some];refine lx hb4 rfl ?_;refine lx hb4 rfl ?_;rw [asS_str,asK_int];refine ah (fun hc=>?_) (fun hc=>?_)
 ·have hlt:k < s.size:=by have:=Qj hc;omega
  have hd:=tz s hlt;refine lx hb4 rfl ?_;refine lx hb4 rfl ?_;rw [asS_str,asI_int,dA];refine ⟨by omega,by omega,?_⟩
  show ∃J,_∧_;have hstep:bG b (rest s k)=if (cAt s k).toNat=10 then bG false (rest s (k+1))+1 else if b=true∨(cAt s k).toNat=32∨(cAt s k).toNat=9∨(cAt s k).toNat=13 then bG b (rest s (k+1))+1 else if (cAt s k).toNat=35 then bG true (rest s (k+1))+1 else 0:=by
   rw [rest,hd,bG]
  generalize (cAt s k).toNat=c at *;refine ⟨fun r h'=>∃b',r=.bool b'∧h'=h4∧k+1+bG b' (rest s (k+1))=j+bG false (rest s j),?_,?_⟩
  ·refine ⟨fun r h'=>∃b',r=.bool b'∧h'=h4∧k+1+bG b' (rest s (k+1))=j+bG false (rest s j),?_,fun _ _ _ hj=>hj⟩;refine ah (fun hc=>?_) (fun hc=>?_)
   ·have hc':c=10:=by have:=Ze hc;omega
    rw [if_pos hc'] at hstep;exact ⟨false,rfl,rfl,by omega⟩
   ·have hc':¬c=10:=by have:=Qa.1 hc;omega
    rw [if_neg hc'] at hstep;refine ⟨fun r h'=>r=.bool (decide (b=true∨c=32∨c=9∨c=13))∧h'=h4,?_,?_⟩
    ·rw [asB_bool];refine ah (fun hb=>⟨by rw [Z6 (.inl hb),hb],rfl⟩) (fun hb=>?_)
     refine ⟨fun r h'=>r=.bool (decide (b=true∨c=32∨c=9∨c=13))∧h'=h4,?_,fun _ _ _ hj=>hj⟩;refine ah (fun hc=>?_) (fun hc=>?_)
     ·have:=Ze hc;rw [hc,Z6 (.inr (.inl (by omega)))]
      exact ⟨rfl,rfl⟩
     ·have n1:=Qa.1 hc;refine ⟨fun r h'=>r=.bool (decide (b=true∨c=32∨c=9∨c=13))∧h'=h4,?_,fun _ _ _ hj=>hj⟩;refine ah (fun hc=>?_) (fun hc=>?_)
      ·have:=Ze hc;rw [hc,Z6 (.inr (.inr (.inl (by omega))))]
       exact ⟨rfl,rfl⟩
      ·have n2:=Qa.1 hc;refine ⟨?_,rfl⟩
       congr 1
       subst hb;rw [Qz];simp;omega
    ·rintro _ _ h5 ⟨rfl,hh⟩;rw [hh];refine ⟨fun r h'=>∃b',r=.bool b'∧h'=h4∧k+1+bG b' (rest s (k+1))=j+bG false (rest s j),?_,fun _ _ _ hj=>hj⟩;rw [asB_bool];refine ah (fun hc=>?_) (fun hc=>?_)
     ·rw [if_pos (Qj hc)] at hstep;exact ⟨b,rfl,rfl,by omega⟩
     ·rw [if_neg (Qc hc)] at hstep;refine ah (fun hc=>?_) (fun hc=>?_)
      ·have hc':c=35:=by have:=Ze hc;omega
       rw [if_pos hc'] at hstep;exact ⟨true,rfl,rfl,by omega⟩
      ·have hc':¬c=35:=by have:=Qa.1 hc;omega
       rw [if_neg hc'] at hstep;rw [hstep,Nat.add_zero] at he;rw [←he];exact ⟨hb4,k4⟩
  ·rintro _ _ h5 ⟨b',rfl,hh,he'⟩;rw [hh];refine lx hb4 rfl ?_;rw [asK_int];refine hb4.set (j':=k+1) (by rw [i64_in (by omega) (by omega)];omega) fun h6 hb6 k6=>?_
   refine ⟨⟨k+1,b',rfl,by omega,hb6,k4.trans k6,he'⟩,?_⟩
   rw [lX hb6,lX hb4];omega
 ·have hge:k=s.size:=by have:=Qc hc;omega
  subst hge;rw [yk] at he;rw [←he];exact ⟨hb4,k4⟩
theorem GA {h:Hp}{G j:Nat}{s:ByteArray}{out:Value}(hs:s.size≤20000)(hj:j≤s.size)(hb:vH h G s j out)(X:XT) :
  ae Tryz.prog ω pM [.pointer (some ⟨G,0,none⟩)] h (fun r h'=>r=.string (s.extract j (j+run (rest s j)))∧vH h' G s (j+run (rest s j)) out∧ay (fun k=>k=G) h h') X:=by
 refine pt ω _ h _ X ?_;unfold iv;simp only [nnK_ptr,asP_some];refine lx hb rfl ?_;refine ⟨fun h'=>∃k:Nat,k≤s.size∧vH h' G s k out∧ay (fun k=>k=G) h h'∧k+run (rest s k)=j+run (rest s j),
  fun h'=>s.size - posOf G h',⟨j,hj,hb,ay.refl _ _,rfl⟩,?_⟩
 rintro _ h4 ⟨k,hk,hb4,k4,he⟩;refine ⟨fun r h'=>r=.bool (decide (k < s.size)&&ld (cAt s k))∧h'=h4,?_,?_⟩
 ·refine lx hb4 rfl ?_;refine lx hb4 rfl ?_;rw [asS_str,asK_int];refine ah (fun hc=>?_) (fun hc=>?_)
  ·have hlt:k < s.size:=by have:=Qj hc;omega
   refine lx hb4 rfl ?_;refine lx hb4 rfl ?_;rw [asS_str,asI_int,dA];refine ⟨by omega,by omega,?_⟩
   refine ae.use (qF _ h4) ?_;rintro _ _ ⟨rfl,hh⟩;rw [hh,asB_bool,Z6 hlt,Za,Tk.ld];refine ah (fun hc=>⟨by rw [hc];rfl,rfl⟩) (fun hc=>?_)
   refine lx hb4 rfl ?_;refine lx hb4 rfl ?_;rw [asS_str,asI_int,dA,hc];refine ⟨by omega,by omega,?_⟩
   refine ae.use (sW _ h4) ?_;rintro _ _ ⟨rfl,hh⟩;rw [hh];exact ⟨rfl,rfl⟩
  ·have hge:¬k < s.size:=by have:=Qc hc;omega
   rw [Z0 hge];exact ⟨rfl,rfl⟩
 ·rintro _ _ h5 ⟨rfl,hh⟩;rw [hh,asB_bool];refine ah (fun hc=>?_) (fun hc=>?_)
  ·rw [Qq] at hc;have hlt:=Qj hc.1;rw [rest,tz s hlt,qB,if_pos hc.2] at he;refine lx hb4 rfl ?_;rw [asK_int];refine hb4.set (j':=k+1) (by rw [i64_in (by omega) (by omega)];omega) fun h6 hb6 k6=>?_
   refine ⟨⟨k+1,by omega,hb6,k4.trans k6,by show k+1+run ((bytesOf s).drop (k+1))=_;omega⟩,?_⟩
   show s.size - posOf G h6 < s.size - posOf G h4;rw [lX hb6,lX hb4];omega
  ·have he0:run (rest s k)=0:=by
    by_cases hlt:k < s.size
    ·rw [Z6 hlt,Za] at hc;rw [rest,tz s hlt,qB,if_neg (by rw [hc];decide)]
    ·have:k=s.size:=by omega
     rw [this,yk];rfl
   rw [he0,Nat.add_zero] at he;refine lx hb4 rfl ?_;refine lx hb4 rfl ?_;rw [asS_str,asI_int,asI_int,Qm,Qm,←he];exact ⟨by omega,by omega,by omega,rfl,hb4,k4⟩
theorem Mm (c:UInt8)(hc:c.toNat < 128):Utf8.encode (IntKind.wrap .i32 (c.toNat:Int))=⟨#[c]⟩:=by
 have h1:IntKind.wrap .i32 (c.toNat:Int)=(c.toNat:Int):=by rw [IntKind.wrap_i32];omega
 rw [h1];have:∀n:Fin 128,Utf8.encode ((n:Nat):Int)=⟨#[UInt8.ofNat n]⟩:=by decide+kernel
 have:=this ⟨c.toNat,hc⟩;rw [this];simp
theorem IF {h:Hp}{G j:Nat}{s:ByteArray}{out:Value}(hs:s.size≤20000)(hj:j < s.size)(hb:vH h G s j out)(X:XT) :
  ae Tryz.prog ω om [.pointer (some ⟨G,0,none⟩)] h (fun r h'=>h'=h∧r=.string (
   if (cAt s j).toNat=61 then (if j+1 < s.size∧(cAt s (j+1)).toNat=61 then ⟨#[61,61]⟩ else ⟨#[61]⟩) else if sR (cAt s j)=true then ⟨#[cAt s j]⟩ else ⟨#[]⟩)) X:=by
 refine o0 ω _ h _ X ?_;unfold gI;simp only [nnK_ptr,asP_some];refine lx hb rfl ?_;refine lx hb rfl ?_;rw [asS_str,asI_int,dA];refine ⟨by omega,by omega,?_⟩
 refine ah (fun hc=>?_) (fun hc=>?_)
 ·have hc':(cAt s j).toNat=61:=by have:=Ze hc;omega
  rw [if_pos hc'];have hw:IntKind.wrap .i64 ((j:Int)+1)=((j+1:Nat):Int):=by rw [i64_in (by omega) (by omega)];omega
  refine ⟨decide (j+1 < s.size∧(cAt s (j+1)).toNat=61),?_,fun _=>?_⟩
  ·refine lx hb rfl ?_;rw [asK_int];refine lx hb rfl ?_;rw [asS_str,hw];refine ah (fun hc=>?_) (fun hc=>?_)
   ·refine lx hb rfl ?_;refine lx hb rfl ?_;have:=Qj hc;rw [asK_int,asS_str,hw,dA];refine ⟨by omega,by omega,?_,trivial⟩
    congr 1
    rw [Qz];simp;omega
   ·have:=Qc hc;rw [Z0 (by omega)]
    exact ⟨rfl,trivial⟩
  ·refine ah (fun hc=>?_) (fun hc=>?_)
   ·rw [if_pos (Qj hc)];exact ⟨trivial,rfl⟩
   ·rw [if_neg (Qc hc)];exact ⟨trivial,rfl⟩
 ·have hc':¬(cAt s j).toNat=61:=by have:=Qa.1 hc;omega
  rw [if_neg hc'];refine ⟨fun r h'=>r=.bool (sR (cAt s j))∧h'=h,?_,?_⟩
  rotate_left
  ·rintro _ _ _ ⟨rfl,hh⟩;rw [hh,asB_bool];refine ah (fun hc=>?_) (fun hc=>?_)
   ·rw [if_pos hc,Mm _ (by
     simp only [sR,Bool.or_eq_true,decide_eq_true_eq] at hc;omega)]
    exact ⟨rfl,rfl⟩
   ·rw [if_neg (by rw [hc];decide)]
    exact ⟨rfl,rfl⟩
  unfold sR;generalize (cAt s j).toNat=c;refine ah (fun hc=>?_) (fun hc=>?_)
  ·have:=Ze hc;rw [hc,Z6 (by omega:c=40)]
   exact ⟨rfl,rfl⟩
  rw [Z0 (by have:=Qa.1 hc;omega:¬c=40),Z9]
  refine ⟨fun r h'=>r=_∧h'=h,?_,fun _ _ _ hj=>hj⟩;refine ah (fun hc=>?_) (fun hc=>?_)
  ·have:=Ze hc;rw [hc,Z6 (by omega:c=41)]
   exact ⟨rfl,rfl⟩
  rw [Z0 (by have:=Qa.1 hc;omega:¬c=41),Z9]
  refine ⟨fun r h'=>r=_∧h'=h,?_,fun _ _ _ hj=>hj⟩;refine ah (fun hc=>?_) (fun hc=>?_)
  ·have:=Ze hc;rw [hc,Z6 (by omega:c=123)]
   exact ⟨rfl,rfl⟩
  rw [Z0 (by have:=Qa.1 hc;omega:¬c=123),Z9]
  refine ⟨fun r h'=>r=_∧h'=h,?_,fun _ _ _ hj=>hj⟩;refine ah (fun hc=>?_) (fun hc=>?_)
  ·have:=Ze hc;rw [hc,Z6 (by omega:c=125)]
   exact ⟨rfl,rfl⟩
  rw [Z0 (by have:=Qa.1 hc;omega:¬c=125),Z9]
  refine ⟨fun r h'=>r=_∧h'=h,?_,fun _ _ _ hj=>hj⟩;refine ah (fun hc=>?_) (fun hc=>?_)
  ·have:=Ze hc;rw [hc,Z6 (by omega:c=44)]
   exact ⟨rfl,rfl⟩
  rw [Z0 (by have:=Qa.1 hc;omega:¬c=44),Z9]
  refine ⟨fun r h'=>r=_∧h'=h,?_,fun _ _ _ hj=>hj⟩;refine ah (fun hc=>?_) (fun hc=>?_)
  ·have:=Ze hc;rw [hc,Z6 (by omega:c=59)]
   exact ⟨rfl,rfl⟩
  rw [Z0 (by have:=Qa.1 hc;omega:¬c=59),Z9]
  refine ⟨fun r h'=>r=_∧h'=h,?_,fun _ _ _ hj=>hj⟩;refine ah (fun hc=>?_) (fun hc=>?_)
  ·have:=Ze hc;rw [hc,Z6 (by omega:c=43)]
   exact ⟨rfl,rfl⟩
  rw [Z0 (by have:=Qa.1 hc;omega:¬c=43),Z9]
  refine ⟨fun r h'=>r=_∧h'=h,?_,fun _ _ _ hj=>hj⟩;refine ah (fun hc=>?_) (fun hc=>?_)
  ·have:=Ze hc;rw [hc,Z6 (by omega:c=45)]
   exact ⟨rfl,rfl⟩
  rw [Z0 (by have:=Qa.1 hc;omega:¬c=45),Z9]
  refine ⟨fun r h'=>r=_∧h'=h,?_,fun _ _ _ hj=>hj⟩;refine ah (fun hc=>?_) (fun hc=>?_)
  ·have:=Ze hc;rw [hc,Z6 (by omega:c=42)]
   exact ⟨rfl,rfl⟩
  rw [Z0 (by have:=Qa.1 hc;omega:¬c=42),Z9]
  refine ⟨?_,rfl⟩
  congr 1
  rw [Qz];simp;omega
end
section
variable  {ω:Amb}
theorem M9 {c:UInt8}(hc:dg c=true):IntKind.wrap .u8 ((c.toNat:Int) - 48)=(c.toNat:Int) - 48:=by
 simp only [dg,Qq,decide_eq_true_eq] at hc;rw [IntKind.wrap_u8];omega
def odd (s:ByteArray):Bool:=decide (18 < s.size)||(decide (1 < s.size)&&decide ((cAt s 0).toNat=48))
theorem GD (s:ByteArray):odd s=true↔18 < s.size∨(1 < s.size∧(cAt s 0).toNat=48):=by simp [odd]
theorem L8 (s:ByteArray):HL (bytesOf s)=if odd s=true∨(bytesOf s).all dg=false then none else some (wP (bytesOf s)):=by
 unfold HL;rw [aN];have:(18 < s.size∨1 < s.size∧((bytesOf s).getD 0 0).toNat=48∨(bytesOf s).all dg=false)↔(odd s=true∨(bytesOf s).all dg=false):=by
  rw [GD,or_assoc];rfl
 by_cases h:odd s=true∨(bytesOf s).all dg=false
 ·rw [if_pos h,if_pos (this.2 h)]
 ·rw [if_neg h,if_neg fun x=>h (this.1 x)]
theorem IC (s:ByteArray)(h:Hp):(asS (.string s) fun s2=>cond (decide (((s2.size:Int):Int) > 18))
 (((.bool true):Value)=.bool (odd s)∧h=h)
 (asS (.string s) fun s3=>cond (decide (((s3.size:Int):Int) > 1))
 (asS (.string s) fun s4=>0≤(0:Int)∧0 < (s4.size:Int)∧((.bool ((bj s4 0)==(48:Int))):Value)=.bool (odd s)∧h=h)
 (((.bool false):Value)=.bool (odd s)∧h=h))):=by
  unfold odd;rw [asS_str];refine ah (fun hc=>⟨?_,rfl⟩) (fun hc=>?_)
  ·have:=Qj hc;rw [Z6 (by omega:18 < s.size),Bool.true_or]
  ·have n1:=Qc hc;rw [asS_str,Z0 (by omega:¬18 < s.size),Z9]
   refine ah (fun hc=>?_) (fun hc=>?_)
   ·have:=Qj hc;rw [asS_str,ud,Z6 (by omega:1 < s.size),Za]
    refine ⟨by omega,by omega,?_,rfl⟩
    congr 1
    rw [Qz];simp;omega
   ·have:=Qc hc;rw [Z0 (by omega:¬1 < s.size),Bool.false_and]
    exact ⟨rfl,rfl⟩
end
section
variable  {ω:Amb}
theorem t2:(∀a b:Value,(#[a,b]:Array Value)[0]?=some a)∧(∀a b:Value,(#[a,b]:Array Value)[1]?=some b):=⟨fun _ _=>rfl,fun _ _=>rfl⟩
theorem CR (F:Bool→Prop):Ml .nilIface F=F true:=rfl
theorem ne_nil {s:ByteArray}(h:0 < s.size):(s.toList==ByteArray.toList ⟨#[]⟩)=false:=by
 rw [eqS,Z0];intro e;have:=congrArg List.length e;rw [aN,aN] at this;have h1:ByteArray.size ⟨#[]⟩=0:=rfl;omega
theorem xy {s:ByteArray}(h0:0 < s.size)(h18:s.size≤18)(hd:(bytesOf s).all dg=true)(h:Hp)(X:XT) :
  ae Tryz.prog ω jv [.string s,.int .i64 10,.int .i64 64] h (fun r h'=>r=.tuple #[.int .u64 (wP (bytesOf s)),.nilIface]∧KF h h') X:=by
 refine jq ω _ _ _ h _ X ?_;unfold dP;rw [asS_str,ne_nil h0];refine ba rfl ?_;rw [asK_int];refine ⟨fun b t h'=>b=.int .i64 10∧t=.string s∧h'=h,?_,?_⟩
 ·refine ⟨fun r h'=>r=.bool true∧h'=h,?_,?_⟩
  ·rw [asK_int];refine cf rfl ?_;rw [asK_int];exact ⟨rfl,rfl⟩
  rintro _ _ h1 ⟨rfl,hh⟩;rw [hh];refine ⟨fun b t h'=>b=.int .i64 10∧t=.string s∧h'=h,?_,fun _ _ _ _ hj=>hj⟩;rw [asB_bool];exact cf rfl ⟨rfl,rfl,rfl⟩
 rintro _ _ _ h1 ⟨rfl,rfl,hh⟩;rw [hh];refine ⟨fun r h'=>r=.int .i64 64∧h'=h,?_,?_⟩
 ·refine ba rfl ?_;refine ⟨false,?_,fun _=>ba rfl ⟨rfl,rfl⟩⟩;rw [asK_int];refine ba rfl ?_;rw [asK_int];exact ⟨rfl,rfl⟩
 rintro _ _ h2 ⟨rfl,hh⟩;rw [hh];refine ⟨fun r h'=>r=.int .u64 1844674407370955162∧h'=h,?_,?_⟩
 ·rw [asK_int];exact ⟨fun r h'=>r=.int .u64 1844674407370955162∧h'=h,cf rfl ⟨rfl,rfl⟩,fun _ _ _ hj=>hj⟩
 rintro _ _ h3 ⟨rfl,hh⟩;rw [hh,asI_int];refine ⟨by decide,?_⟩
 unfold zO;rw [Tryz.underlying9,Tryz.underlying107];simp only [Tryz.underlying5];rw [asS_str];intro cap h4 hsz hold hcell;have k4:KF h h4:=⟨hsz,fun k hk _=>hold k hk⟩;rw [asSl_sl];refine ⟨fun u n i h'=>h'=h4∧u=.bool false∧∃k:Nat,i=.int .i64 k∧k≤s.size∧n=.int .u64 (wP ((bytesOf s).take k)),
  fun _ _ i _=>match i with|.int _ k=>s.size - k.toNat|_=>0,⟨rfl,rfl,0,rfl,by omega,rfl⟩,?_⟩
 rintro _ _ _ _ h5 ⟨hh,rfl,k,rfl,hk,rfl⟩;rw [hh,asK_int];refine ah (fun hc=>?_) (fun hc=>?_)
 ·have hlt:k < s.size:=by have:=Qj hc;omega
  have hcd:=FV hd hlt;obtain ⟨v0,v1,v2,v3⟩:=Cb hk h18 (Df hd k);have v3:=v3 hlt;have hdd:=hcd;simp only [dg,Qq,decide_eq_true_eq] at hdd;have hcl:=hcell k hlt;refine ⟨fun u n h'=>h'=h4∧u=.bool false∧n=.int .u64 (wP ((bytesOf s).take (k+1))),?_,?_⟩
  ·rw [asSl1_sl,asI_int];refine ⟨by omega,by omega,?_⟩
   rw [aT,Qm,Nat.mul_one,Zb];refine ⟨.int .u8 ((cAt s k).toNat:Int),hcl,?_⟩;refine ⟨fun u d h'=>h'=h4∧u=.bool false∧d=.int .u8 (((cAt s k).toNat:Int) - 48),?_,?_⟩
   ·refine ⟨fun r h'=>r=.bool false∧h'=h4,?_,?_⟩
    ·rw [asK_int];exact ba (by simp;omega) ⟨rfl,rfl⟩
    rintro _ _ h6 ⟨rfl,hh⟩;rw [hh,asB_bool];refine ba rfl ?_;refine ⟨fun r h'=>r=.bool true∧h'=h4,?_,?_⟩
    ·rw [asK_int];refine cf (by simp;omega) ?_
     rw [asK_int];exact ⟨by congr 1;simp;omega,rfl⟩
    rintro _ _ h6 ⟨rfl,hh⟩;rw [hh];refine ⟨fun r h'=>r=.int .u8 (((cAt s k).toNat:Int) - 48)∧h'=h4,?_,?_⟩
    ·rw [asB_bool];refine cf rfl ?_;rw [asK_int,M9 hcd];exact ⟨rfl,rfl⟩
    rintro _ _ h6 ⟨rfl,hh⟩;exact ⟨hh,rfl,rfl⟩
   rintro _ _ _ h6 ⟨hh,rfl,rfl⟩;rw [hh,asI_int,asK_int];refine ba ?_ ?_
   ·have:IntKind.wrap .u8 10=10:=by decide
    rw [this];simp;omega
   rw [asK_int,asK_int];refine ba (by simp;omega) ?_
   rw [asI_int,asK_int,asI_int];have e1:IntKind.wrap .u64 10=10:=by decide
   have e2:IntKind.wrap .u64 (wP ((bytesOf s).take k)*10)=wP ((bytesOf s).take k)*10:=by rw [IntKind.wrap_u64];omega
   have e3:IntKind.wrap .u64 (((cAt s k).toNat:Int) - 48)=((cAt s k).toNat:Int) - 48:=by rw [IntKind.wrap_u64];omega
   have e4:IntKind.wrap .u64 (wP ((bytesOf s).take k)*10+(((cAt s k).toNat:Int) - 48))=wP ((bytesOf s).take k)*10+(((cAt s k).toNat:Int) - 48):=by rw [IntKind.wrap_u64];omega
   rw [e1,e2,e3,e4];refine ⟨false,?_,fun _=>ba rfl ⟨rfl,rfl,?_⟩⟩
   ·refine ba (by simp;omega) ⟨?_,trivial⟩
    have e5:IntKind.wrap .u64 (shI .u64 .shl 1 (IntKind.wrap .u64 64) - 1)=18446744073709551615:=by decide
    rw [e5]
    congr 1
    simp;omega
   ·rw [mn s hlt,zJ]
    congr 1
    omega
  ·rintro _ _ _ h6 ⟨hh,rfl,rfl⟩;rw [asK_int,i64_in (by omega) (by omega)]
   exact ⟨⟨hh,rfl,k+1,by simp,by omega,rfl⟩,by simp;omega⟩
 ·have hke:k=s.size:=by have:=Qc hc;omega
  subst hke;rw [sy];refine ⟨fun r h'=>r=.bool false∧h'=h4,?_,?_⟩
  ·rw [asB_bool];exact ba rfl ⟨rfl,rfl⟩
  rintro _ _ h6 ⟨rfl,hh⟩;rw [hh,asB_bool];exact ba rfl ⟨rfl,k4⟩
theorem xR {s:ByteArray}(h0:0 < s.size)(h18:s.size≤18)(hd:(bytesOf s).all dg=true)(h:Hp)(X:XT) :
  ae Tryz.prog ω jE [.string s,.int .i64 10,.int .i64 64] h (fun r h'=>r=.tuple #[.int .i64 (wP (bytesOf s)),.nilIface]∧KF h h') X:=by
 refine jV ω _ _ _ h _ X ?_;unfold dV;rw [asS_str,ne_nil h0];refine ba rfl ?_;have hc:=FV hd h0;simp only [dg,Qq,decide_eq_true_eq] at hc;rw [asS_str];refine ⟨by omega,by omega,?_⟩
 refine ⟨fun t n h'=>t=.string s∧n=.bool false∧h'=h,?_,?_⟩
 ·refine ⟨fun t n h'=>t=.string s∧n=.bool false∧h'=h,?_,fun _ _ _ _ hj=>hj⟩;rw [ud];refine ba (by simp;omega) ?_
  refine ⟨fun t n h'=>t=.string s∧n=.bool false∧h'=h,?_,fun _ _ _ _ hj=>hj⟩;exact ba (by simp;omega) ⟨rfl,rfl,rfl⟩
 rintro _ _ _ h1 ⟨rfl,rfl,hh⟩;rw [hh];refine ae.use (xy h0 h18 hd h) ?_;rintro _ h2 ⟨rfl,k2⟩;simp only [asT_tup,t2,asO_some];have hv:=Cb (Zc _) h18 (Df hd _);rw [sy] at hv;obtain ⟨v0,v1,v2,_⟩:=hv;refine ⟨false,?_,fun _=>ba rfl ?_⟩
 ·rw [CR];exact ba rfl ⟨rfl,trivial⟩
 rw [asK_int];refine ⟨fun r h'=>r=.int .i64 64∧h'=h2,ba rfl ⟨rfl,rfl⟩,?_⟩;rintro _ _ h3 ⟨rfl,hh⟩;rw [hh,asK_int];refine ⟨by decide,false,?_,fun _=>ba rfl ?_⟩
 ·rw [asB_bool];refine cf rfl ?_;rw [asK_int];refine ⟨?_,trivial⟩;have e5:shI .u64 .shl 1 (IntKind.wrap .u64 (IntKind.wrap .i64 (64 - 1)))=9223372036854775808:=by decide
  rw [e5]
  congr 1
  simp;omega
 refine ⟨false,?_,fun _=>ba rfl ?_⟩
 ·rw [asB_bool];exact ba rfl ⟨rfl,trivial⟩
 rw [asI_int];refine ⟨fun r h'=>r=.int .i64 (wP (bytesOf s))∧h'=h2,?_,?_⟩
 ·rw [asB_bool];refine ba rfl ?_;rw [i64_in (by omega) (by omega)]
  exact ⟨rfl,rfl⟩
 rintro _ _ h3 ⟨rfl,hh⟩;rw [hh];exact ⟨rfl,k2⟩
theorem zt {s:ByteArray}(h0:0 < s.size)(h18:s.size≤18)(hd:(bytesOf s).all dg=true)(h:Hp)(X:XT) :
  ae Tryz.prog ω sw [.string s,.int .i64 10,.int .i64 64] h (fun r h'=>r=.tuple #[.int .i64 (wP (bytesOf s)),.nilIface]∧KF h h') X:=by
 refine sA ω _ _ _ h _ X ?_;unfold kH;refine ae.use (xR h0 h18 hd h) ?_;rintro _ h2 ⟨rfl,k2⟩;simp only [asT_tup,t2,asO_some,CR];exact ba rfl ⟨trivial,k2⟩
theorem DW {s:ByteArray}(h0:0 < s.size)(hs:s.size≤20000)(h:Hp)(X:XT) :
  ae Tryz.prog ω wz [.string s] h (fun r h'=>r=.tuple #[.int .i64 ((HL (bytesOf s)).getD 0),.bool (HL (bytesOf s)).isSome]∧KF h h') X:=by
 refine vM ω _ h _ X ?_;unfold ru;rw [L8];refine ⟨odd s,IC s h,fun _=>ah (fun hc=>?_) (fun hno=>?_)⟩
 ·rw [if_pos (.inl hc)];exact ⟨rfl,ay.refl _ _⟩
 ·have h18:s.size≤18:=by
   have:=mt (GD s).2 (by rw [hno];decide)
   omega
  rw [asS_str];refine ⟨fun i h'=>h'=h∧∃k:Nat,i=.int .i64 k∧k≤s.size∧((bytesOf s).take k).all dg=true,
   fun i _=>match i with|.int _ k=>s.size - k.toNat|_=>0,⟨rfl,0,rfl,by omega,rfl⟩,?_⟩
  rintro _ _ h4 ⟨hh,k,rfl,hk,hd⟩;rw [hh,asK_int];refine ah (fun hc=>?_) (fun hc=>?_)
  ·have hlt:k < s.size:=by have:=Qj hc;omega
   rw [asS_str,asI_int,dA];refine ⟨by omega,by omega,?_⟩
   refine ae.use (sW _ h) ?_;rintro _ _ ⟨rfl,hh⟩;rw [hh,asB_bool];refine ah (fun hc=>?_) (fun hc=>?_)
   ·have hc':dg (cAt s k)=false:=by simpa using hc
    have hall:(bytesOf s).all dg=false:=by
     cases ha:(bytesOf s).all dg
     ·rfl
     ·rw [FV ha hlt] at hc';cases hc'
    rw [if_pos (.inr hall)];exact ⟨rfl,ay.refl _ _⟩
   ·have hc':dg (cAt s k)=true:=by simpa using hc
    rw [asK_int,i64_in (by omega) (by omega)]
    refine ⟨⟨rfl,k+1,by simp,by omega,?_⟩,by simp;omega⟩
    rw [mn s hlt,List.all_append,hd];simpa using hc'
  ·have hke:k=s.size:=by have:=Qc hc;omega
   subst hke;rw [sy] at hd;rw [if_neg (by rw [hd];simp [hno])]
   refine ae.use (zt h0 h18 hd h) ?_;rintro _ h2 ⟨rfl,k2⟩;simp only [asT_tup,t2,asO_some];exact ⟨rfl,k2⟩
end
theorem tO {h:Hp}{L:Nat}{cs:List Value}{t:TypeId}(hb:h[L]?=some (.cells cs.toArray t (0,0))){j:Nat}{v:Value}(hj:j < cs.length){K:Hp→Prop}
  (hk:∀h',h'[L]?=some (.cells (cs.set j v).toArray t (0,0))→ay (fun k=>k=L) h h'→K h'):aM h (Addr.add ⟨L,0,none⟩ j) v K:=by
 rw [aT,Zb];refine aR hb (by simpa using hj) (hk _ ?_ (ay.set (S:=fun k=>k=L) _ rfl))
 rw [av hb];simp
theorem Lm (s:ByteArray){j:Nat}(hj:j < s.size):vD 2 3 4 (rest s j) =
  if lo (cAt s j)=true then (if isWord ((rest s j).take (run (rest s j)))=true then .tok 1 (run (rest s j)) 0 else if 12 < run (rest s j) then .bad 4 else .tok 2 (run (rest s j)) 0)
  else if dg (cAt s j)=true then (match HL ((rest s j).take (run (rest s j))) with|none=>.bad 3|some n=>.tok 3 (run (rest s j)) n)
  else if (cAt s j).toNat=61 then (if j+1 < s.size∧(cAt s (j+1)).toNat=61 then .tok 4 2 0 else .tok 4 1 0)
  else if sR (cAt s j)=true then .tok 4 1 0 else .bad 2:=by
 have hd:rest s j=cAt s j::rest s (j+1):=tz s hj;generalize hr:rest s j=l at *;subst hd;unfold vD;simp only
 split
 ·rfl
 ·split
  ·rfl
  ·split
   ·by_cases h1:j+1 < s.size
    ·have h2:rest s (j+1)=cAt s (j+1)::rest s (j+1+1):=tz s h1;rw [h2];simp only [h1,true_and]
    ·rw [if_neg (by omega)]
     have h2:rest s (j+1)=[]:=List.drop_eq_nil_of_le (by rw [aN];omega)
     rw [h2]
   ·rfl
theorem G3 (s:ByteArray)(j n:Nat):s.extract j (j+n)=⟨((rest s j).take n).toArray⟩:=extract_eq s j n
theorem wU (s:ByteArray)(j n:Nat):bytesOf (s.extract j (j+n))=(rest s j).take n:=by rw [G3];rfl
theorem GS (s:ByteArray)(j:Nat):(s.extract j (j+run (rest s j))).size=run (rest s j):=by
 rw [←aN,wU,Qp];have:=zW (rest s j);omega
def uU (s:ByteArray)(j:Nat)(kind:Int)(len:Nat)(n:Int):Tok:=⟨kind,j,⟨((rest s j).take len).toArray⟩,n⟩
def MV (s:ByteArray)(G j:Nat)(out:Value)(base:Nat)(ts:List Tok)(h:Hp)(r:Value)(h':Hp):Prop :=
 match vD 2 3 4 (rest s j) with
 |.bad e=>r=.int .i64 e∧ay (fun k=>k=G) h h'
 |.tok kind len n=>r=.int .i64 0∧∃out',vH h' G s (j+len) out'∧cI h' base 100 4 out' (ts++[uU s j kind len n]).length ((ts++[uU s j kind len n]).flatMap Tok.f) ∧
  ay (fun k=>k=G∨out.ownBlock=some k) h h'∧(∀k,out'.ownBlock=some k→out.ownBlock=some k∨h.size≤k)
section
variable  {ω:Amb}
theorem LZ {h:Hp}{G j base:Nat}{s:ByteArray}{out:Value}{ts:List Tok}(hs:s.size≤12000)(hj:j < s.size)(hb:vH h G s j out)
  (ho:cI h base 100 4 out ts.length (ts.flatMap Tok.f)) (hts:ts.length≤j) (hbase:base≤h.size) (X:XT) :
  ae Tryz.prog ω pn [.pointer (some ⟨G,0,none⟩)] h (MV s G j out base ts h) X:=by
 refine pP ω _ h _ X ?_;unfold iJ;simp only [nnK_ptr,asP_some];refine lx hb rfl ?_;refine ⟨trivial,?_,aA (cs:=[.int .i64 0,.int .i64 (j:Int),.string ⟨#[]⟩,.int .i64 0]) rfl ?_⟩
 ·intro u hu;simp only [List.mem_cons,List.not_mem_nil,or_false] at hu;rcases hu with rfl|rfl|rfl|rfl<;>rfl
 have hGl:G < h.size:=fu hb;have hb2:vH (h.push (.cells (List.toArray [.int .i64 0,.int .i64 (j:Int),.string ⟨#[]⟩,.int .i64 0]) 100 (0,0))) G s j out:=jQ hb;have hl2:=ai (h:=h) (o:=.cells (List.toArray [.int .i64 0,.int .i64 (j:Int),.string ⟨#[]⟩,.int .i64 0]) 100 (0,0));have k2:ay (fun k=>k=G) h (h.push (.cells (List.toArray [.int .i64 0,.int .i64 (j:Int),.string ⟨#[]⟩,.int .i64 0]) 100 (0,0))):=ay.push _ _
 generalize h.push (.cells (List.toArray [.int .i64 0,.int .i64 (j:Int),.string ⟨#[]⟩,.int .i64 0]) 100 (0,0))=h2 at *;refine lx hb2 rfl ?_;refine lx hb2 rfl ?_;rw [asS_str,asI_int,dA];refine ⟨by omega,by omega,?_⟩
 have hone:=Lm s hj;have hrl:=zW (rest s j);have hrn:=ye s j;have htl:=GS s j;have htb:=wU s j (run (rest s j));have hte:=G3 s j (run (rest s j));have hrpos:Tk.ld (cAt s j)=true→0 < run (rest s j):=fun hl=>by rw [rest,tz s hj,qB,if_pos hl];omega
 have hGL:G≠h.size:=by omega
 have kloc:∀{a b:Hp},ay (fun k=>k=G) h a→ay (fun k=>k=h.size) a b→ay (fun k=>k=G) h b:=fun ka kb=>ka.cA (kb.mono fun k _ hk=>.inr (Nat.le_of_eq hk.symm));refine ⟨fun h'=>∃kind len n,vD 2 3 4 (rest s j)=.tok kind len n∧h'[h.size]?=some (.cells (uU s j kind len n).f.toArray 100 (0,0))∧vH h' G s (j+len) out∧ay (fun k=>k=G) h h',?_,?_⟩
 ·refine ae.use (qF _ h2) ?_;rintro _ _ ⟨rfl,hh⟩;rw [hh];refine ⟨fun h'=>∃kind len n,vD 2 3 4 (rest s j)=.tok kind len n∧h'[h.size]?=some (.cells (uU s j kind len n).f.toArray 100 (0,0))∧vH h' G s (j+len) out∧ay (fun k=>k=G) h h',?_,fun _ _ hj=>hj⟩;rw [asB_bool];refine ah (fun hlo=>?_) (fun hlo=>?_)
  ·rw [if_pos hlo] at hone;refine ae.use (GA (by omega) (by omega) hb2) ?_
   rintro _ h3 ⟨rfl,hb3,k3⟩;generalize s.extract j (j+run (rest s j))=x at *;rw [oneK_str];refine tO (k3.get hl2 (by omega)) (by simp) fun h4 hl4 k4=>?_
   refine tO hl4 (by simp) fun h5 hl5 k5=>?_
   have hb5:=k5.get (k4.get hb3 (by omega)) (by omega)
   have kk5:=kloc (kloc (k2.trans k3) k4) k5;simp only [st] at hl5;refine lx hl5 rfl ?_;refine ae.use (Cn x h5) ?_;rintro _ _ ⟨rfl,hh⟩;rw [hh];refine ⟨fun h'=>∃kind len n,vD 2 3 4 (rest s j)=.tok kind len n∧h'[h.size]?=some (.cells (uU s j kind len n).f.toArray 100 (0,0))∧vH h' G s (j+len) out∧ay (fun k=>k=G) h h',?_,fun _ _ hj=>hj⟩;rw [asB_bool,htb];refine ah (fun hw=>?_) (fun hw=>?_)
   ·rw [if_pos hw] at hone;refine tO hl5 (by simp) fun h6 hl6 k6=>?_
    refine ⟨_,_,_,hone,?_,k6.get hb5 (by omega),kloc kk5 k6⟩
    simp only [st] at hl6;rw [hl6,hte];rfl
   ·rw [if_neg (by rw [hw];decide)] at hone
    refine lx hl5 rfl ?_;rw [asS_str,htl];refine ah (fun hc=>?_) (fun hc=>?_)
    ·have:=Qj hc;rw [if_pos (by omega)] at hone
     unfold MV;rw [hone];exact ⟨rfl,kk5⟩
    ·have:=Qc hc;rw [if_neg (by omega)] at hone
     refine ⟨_,_,_,hone,?_,hb5,kk5⟩;rw [hl5,hte];rfl
  ·rw [if_neg (by rw [hlo];decide)] at hone
   refine ae.use (sW _ h2) ?_;rintro _ _ ⟨rfl,hh⟩;rw [hh];refine ⟨fun h'=>∃kind len n,vD 2 3 4 (rest s j)=.tok kind len n∧h'[h.size]?=some (.cells (uU s j kind len n).f.toArray 100 (0,0))∧vH h' G s (j+len) out∧ay (fun k=>k=G) h h',?_,fun _ _ hj=>hj⟩;rw [asB_bool];refine ah (fun hdg=>?_) (fun hdg=>?_)
   ·rw [if_pos hdg] at hone;have hrp:=hrpos (by rw [Tk.ld,hdg,Bool.or_true])
    refine ae.use (GA (by omega) (by omega) hb2) ?_
    rintro _ h3 ⟨rfl,hb3,k3⟩;generalize s.extract j (j+run (rest s j))=x at *;rw [oneK_str];refine tO (k3.get hl2 (by omega)) (by simp) fun h4 hl4 k4=>?_
    simp only [st] at hl4;refine lx hl4 rfl ?_;refine ae.use (DW (by omega) (by omega) h4) ?_
    rintro _ h5 ⟨rfl,k5⟩;simp only [asT_tup,t2,asO_some,asB_bool];rw [htb];have hb5:=k5.get (k4.get hb3 (by omega)) (by simp)
    have kk5:=(kloc (k2.trans k3) k4).trans (k5.mono (by simp))
    have hl5:=k5.get hl4 (by simp)
    cases hn:HL ((rest s j).take (run (rest s j))) with
    |none =>
     rw [hn] at hone;refine cf rfl ?_;unfold MV;rw [hone];exact ⟨rfl,kk5⟩
    |some n =>
     rw [hn] at hone;refine ba rfl ?_;refine tO hl5 (by simp) fun h6 hl6 k6=>?_
     rw [oneK_int];refine tO hl6 (by simp) fun h7 hl7 k7=>?_
     simp only [st] at hl7;refine ⟨_,_,_,hone,?_,k7.get (k6.get hb5 (by omega)) (by omega),kloc (kloc kk5 k6) k7⟩
     rw [hl7,hte];rfl
   ·rw [if_neg (by rw [hdg];decide)] at hone
    refine ae.use (IF (by omega) hj hb2) ?_
    rintro _ h3 ⟨hh,rfl⟩;rw [hh];have hsig:∃x:ByteArray,(if (cAt s j).toNat=61 then (if j+1 < s.size∧(cAt s (j+1)).toNat=61 then (⟨#[61,61]⟩:ByteArray) else ⟨#[61]⟩) else if sR (cAt s j)=true then ⟨#[cAt s j]⟩ else ⟨#[]⟩)=x ∧
      ((x.size=0∧vD 2 3 4 (rest s j)=.bad 2)∨(0 < x.size∧x.size≤2∧vD 2 3 4 (rest s j)=.tok 4 x.size 0∧x=⟨((rest s j).take x.size).toArray⟩)):=by
     have hd:rest s j=cAt s j::rest s (j+1):=tz s hj;refine ⟨_,rfl,?_⟩
     split
     ·rename_i h61;rw [if_pos h61] at hone;have hc61:cAt s j=61:=UInt8.toNat_inj.1 (by rw [h61];rfl)
      split
      ·rename_i h2;rw [if_pos h2] at hone;have hd2:rest s (j+1)=cAt s (j+1)::rest s (j+1+1):=tz s h2.1;have hc2:cAt s (j+1)=61:=UInt8.toNat_inj.1 (by rw [h2.2];rfl)
       refine .inr ⟨by decide,by decide,hone,?_⟩
       rw [hd,hd2,hc61,hc2];rfl
      ·rename_i h2;rw [if_neg h2] at hone;refine .inr ⟨by decide,by decide,hone,?_⟩
       rw [hd,hc61];rfl
     ·rename_i h61;rw [if_neg h61] at hone
      split
      ·rename_i h2;rw [if_pos h2] at hone;have h1:ByteArray.size ⟨#[cAt s j]⟩=1:=rfl;refine .inr ⟨by rw [h1];decide,by rw [h1];decide,by rw [h1];exact hone,?_⟩
       rw [h1,hd];rfl
      ·rename_i h2;rw [if_neg h2] at hone;exact .inl ⟨rfl,hone⟩
    obtain ⟨x,hx,hsig⟩:=hsig;rw [hx];refine tO hl2 (by simp) fun h4 hl4 k4=>?_
    rw [oneK_str];refine tO hl4 (by simp) fun h5 hl5 k5=>?_
    have hb5:vH h5 G s j out:=k5.get (k4.get hb2 (by omega)) (by omega)
    have kk5:=kloc (kloc k2 k4) k5;simp only [st] at hl5;refine lx hl5 rfl ?_;rw [asS_str];rcases hsig with ⟨h0,hbad⟩|⟨hp,hp2,htok,hxe⟩
    ·refine cf ?_ ?_
     ·rw [eqS,decide_eq_true_eq];refine List.eq_nil_of_length_eq_zero ?_;rw [aN,h0]
     ·unfold MV;rw [hbad];exact ⟨rfl,kk5⟩
    ·rw [ne_nil hp];refine ba rfl ?_;refine lx hb5 rfl ?_;refine lx hl5 rfl ?_;rw [asS_str,asK_int];refine hb5.set (j':=j+x.size) (by rw [i64_in (by omega) (by omega)];omega) fun h6 hb6 k6=>?_
     refine ⟨_,_,_,htok,?_,hb6,kk5.trans k6⟩;rw [k6.get hl5 (by omega),uU,←hxe]
     rfl
 rintro _ h3 ⟨kind,len,n,htok,hl3,hb3,k3⟩;refine lx hb3 rfl ?_;refine ⟨_,aq hl3 rfl,?_⟩;simp only [Z1];refine ⟨rfl,lx' (jQ hb3) rfl,?_⟩;have ho3:cI h3 base 100 4 out ts.length (ts.flatMap Tok.f):=ho.DC k3 (DJ.blk hb) (by decide)
 refine du (bt:=40) (by kernel_rfl) ho3 rfl (uU s j kind len n).one (by omega) (by omega) (Nat.le_trans hbase k3.size) fun w h4 ho4 hg hne hown=>?_
 have hout:∀k,out.ownBlock=some k→k≠G:=fun k hk hkG=>by
  obtain ⟨c,hc⟩:=ho.blk hk;rw [hkG,hb] at hc;cases hc
 have k4:ay (fun k=>out.ownBlock=some k) h3 h4:=ay.grown hg fun k hk _=>hk;have hb4:=k4.get hb3 (fun hk=>hout G hk rfl);rw [yJ (rp ho4)];have hwn:w≠.slice none 0 0:=hne;have hwG:∀k,w.ownBlock=some k→k≠G:=fun k hk hkG=>by
  rcases hown k hk with h1|h1
  ·exact hout k h1 hkG
  ·have:=k3.size;omega
 rw [aT,Zb];refine aR hb4 (by show 2 < 3;decide) ?_
 unfold MV;rw [htok];have k5:ay (fun k=>k=G) h4 (h4.setIfInBounds G (.cells ((scn s (j+len) out).toArray.setIfInBounds 2 w) 97 (0,0))):=ay.set (S:=fun k=>k=G) _ rfl;refine ⟨rfl,w,?_,?_,?_,?_⟩
 ·rw [vH,av hb4];simp [scn]
 ·have:=ho4.aE (h':=h4.setIfInBounds G (.cells ((scn s (j+len) out).toArray.setIfInBounds 2 w) 97 (0,0))) fun k hk hlt=>k5.block k hlt (hwG k hk);rw [Qd,Qb];simpa using this
 ·exact ((k3.mono fun k _ hk=>.inl hk).trans (k4.mono fun k _ hk=>.inr hk)).trans (k5.mono fun k _ hk=>.inl hk)
 ·intro k hk;rcases hown k hk with h1|h1
  ·exact .inl h1
  ·have:=k3.size;exact .inr (by omega)
end
abbrev Sc (l:List UInt8)(a:Int)(res:Res):Prop:=lj 2 3 4 l a res
inductive Li (s:ByteArray) (h:Hp) (r:Value) (h':Hp):Prop
 |big (hb:12000 < s.size) (hr:r=.tuple #[.slice none 0 0,.agg (flt 1 12000).toArray]) (hk:KF h h')
 |ok (ts:List Tok) (v:Value) (hb:s.size≤12000) (hs:Sc (bytesOf s) 0 (.ok ts)) (hr:r=.tuple #[v,.agg (flt 0 0).toArray]) (ho:cI h' h.size 100 4 v ts.length (ts.flatMap Tok.f)) (hk:KF h h')
 |bad (e a:Int) (hb:s.size≤12000) (hs:Sc (bytesOf s) 0 (.error (e,a))) (hr:r=.tuple #[.slice none 0 0,.agg (flt e a).toArray]) (hk:KF h h')
structure St (s:ByteArray)(h:Hp)(j:Nat)(ts:List Tok)(out:Value)(h':Hp):Prop where
 le:j≤s.size
 own:cI h' h.size 100 4 out ts.length (ts.flatMap Tok.f)
 len:ts.length≤j
 aE:KF h h'
 flt:h'[h.size]?=some (.cells (Go.Proofs.YtkeeboomikkojaaGreatDoor.flt 0 0).toArray 28 (0,0))
 run:∀res,Sc (rest s j) j res→Sc (bytesOf s) 0 (LY ts res)
theorem St.start (s:ByteArray)(h:Hp){h':Hp}(hk:KF h h')(hf:h'[h.size]?=some (.cells (Go.Proofs.YtkeeboomikkojaaGreatDoor.flt 0 0).toArray 28 (0,0))):St s h 0 [] (.slice none 0 0) h' :=
 ⟨Nat.zero_le _,cI.nil,Zc _,hk,hf,fun res hs=>by rw [HY];exact hs⟩
theorem St.more {s:ByteArray}{h h' h'':Hp}{j:Nat}{ts:List Tok}{out:Value}(hst:St s h j ts out h'){G:Nat}(hk:ay (fun k=>k=G) h' h'')(hG:h.size < G)(hT:∃c,h'[G]?=some (.cells c 97 (0,0))):St s h j ts out h'' :=
 ⟨hst.le,by
  obtain ⟨c,hc⟩:=hT;exact hst.own.DC hk (DJ.blk hc) (by decide),hst.len,hst.aE.cA (hk.mono fun k _ hk=>.inr (by omega)),hk.get hst.flt (by omega),hst.run⟩
theorem St.tok {s:ByteArray}{h h' h'':Hp}{j j1:Nat}{ts:List Tok}{out w:Value}(hst:St s h j ts out h')(hj1:j1=j+bG false (rest s j))(hlt:j1 < s.size){kind:Int}{len:Nat}{n:Int}
  (ht:vD 2 3 4 (rest s j1)=.tok kind len n) (ho:cI h'' h.size 100 4 w (ts++[uU s j1 kind len n]).length ((ts++[uU s j1 kind len n]).flatMap Tok.f)) (hk:KF h h'')
  (hf:h''[h.size]?=some (.cells (Go.Proofs.YtkeeboomikkojaaGreatDoor.flt 0 0).toArray 28 (0,0))):St s h (j1+len) (ts++[uU s j1 kind len n]) w h''∧j1 < j1+len:=by
 obtain ⟨h1,h2⟩:=xM ht;rw [ye] at h2;refine ⟨⟨by omega,ho,?_,hk,hf,fun res hs=>?_⟩,by omega⟩
 ·have:=hst.len;simp;omega
 ·have hd:(rest s j).drop (bG false (rest s j))=cAt s j1::rest s (j1+1):=by
   rw [Z7,←hj1];exact tz s hlt
  have hd1:rest s j1=cAt s j1::rest s (j1+1):=tz s hlt;have hrest:(cAt s j1::rest s (j1+1)).drop len=rest s (j1+len):=by rw [←hd1,Z7]
  have hc1:((j1+len:Nat):Int)=(j:Int)+(bG false (rest s j):Nat)+(len:Nat):=by omega
  have hc2:(j:Int)+(bG false (rest s j):Nat)=(j1:Int):=by omega
  rw [hc1,←hrest] at hs;rw [←Ia];refine hst.run _ ?_;cases res with
  |ok us =>
   have:=lj.tok hd (by rw [←hd1];exact ht) hs
   rw [←hd1,hc2] at this;exact this
  |error x=>exact lj.fail hd (by rw [←hd1];exact ht) hs
theorem St.bad {s:ByteArray}{h h':Hp}{j j1:Nat}{ts:List Tok}{out:Value}(hst:St s h j ts out h')(hj1:j1=j+bG false (rest s j))(hlt:j1 < s.size){e:Int}
  (ht:vD 2 3 4 (rest s j1)=.bad e):Sc (bytesOf s) 0 (.error (e,(j1:Int))):=by
 have hd:(rest s j).drop (bG false (rest s j))=cAt s j1::rest s (j1+1):=by
  rw [Z7,←hj1];exact tz s hlt
 have hd1:rest s j1=cAt s j1::rest s (j1+1):=tz s hlt;have:=hst.run _ (lj.bad hd (by rw [←hd1];exact ht))
 have hc2:(j:Int)+(bG false (rest s j):Nat)=(j1:Int):=by omega
 rw [hc2] at this;exact this
theorem St.stop {s:ByteArray}{h h':Hp}{j:Nat}{ts:List Tok}{out:Value}(hst:St s h j ts out h')(hj1:j+bG false (rest s j)=s.size):Sc (bytesOf s) 0 (.ok ts):=by
 have:=hst.run _ (lj.stop (by rw [Z7,hj1];exact yk s))
 simpa [LY] using this
theorem Kv {l:List UInt8}{e:Int}(h:vD 2 3 4 l=.bad e):e=2∨e=3∨e=4:=by
 unfold vD at h
 split at h
 ·cases h;exact .inl rfl
 ·repeat' split at h
  all_goals cases h
  all_goals simp
theorem xf {h:Hp}{L:Nat}{cs ds:List Value}(hw:h[L]?=some (.cells ds.toArray 28 (0,0)))(hd:ds.length=2)(hc:cs.length=2){K:List Value→Hp→Prop}
  (hk:∀h',ay (fun k=>k=L) h h'→h'[L]?=some (.cells cs.toArray 28 (0,0))→K cs h'):az h ⟨L,0,none⟩ cs fun h'=>∃C,ak h' ⟨L,0,none⟩ 2 C∧K C h':=by
 refine bh hw (by simp;omega) ?_
 rw [cp (by simp;omega)]
 have hb:=av (o:=.cells cs.toArray 28 (0,0)) hw;exact ⟨cs,aq hb hc,hk _ (ay.set (S:=fun k=>k=L) _ rfl) hb⟩
section
variable  {ω:Amb}
theorem Ir (s:ByteArray)(h:Hp)(X:XT):ae Tryz.prog ω AZ [.string s] h (Li s h) X:=by
 refine y7 ω _ h _ X ?_;unfold tW cN;rw [asS_str];refine ah (fun hc=>?_) (fun hc=>?_)
 ·have:=Qj hc;refine ⟨rfl,bq 1 12000,aA (cs:=flt 1 12000) rfl ?_⟩;exact ⟨_,tL rfl,.big (by omega) rfl (ay.push _ _)⟩
 have hs:s.size≤12000:=by have:=Qc hc;omega
 rw [oneK_str];have hG:Array.size (h.push (.cells #[(.int .i64 0),(.int .i64 0)] 28 (0,0)))=h.size+1:=by simp
 have hb0:vH (Array.push (h.push (.cells #[(.int .i64 0),(.int .i64 0)] 28 (0,0))) (.cells #[.string s,(.int .i64 0),(.slice none 0 0)] 97 (0,0))) (h.size+1) s 0 (.slice none 0 0):=by
  rw [←hG];exact ai
 have hf0:(Array.push (h.push (.cells #[(.int .i64 0),(.int .i64 0)] 28 (0,0))) (.cells #[.string s,(.int .i64 0),(.slice none 0 0)] 97 (0,0)))[h.size]?=some (.cells (flt 0 0).toArray 28 (0,0)):=jQ ai;have k0:KF h (Array.push (h.push (.cells #[(.int .i64 0),(.int .i64 0)] 28 (0,0))) (.cells #[.string s,(.int .i64 0),(.slice none 0 0)] 97 (0,0))):=(ay.push _ _).trans (ay.push _ _);rw [hG];generalize Array.push (h.push (.cells #[(.int .i64 0),(.int .i64 0)] 28 (0,0))) (.cells #[.string s,(.int .i64 0),(.slice none 0 0)] 97 (0,0))=h0 at *
 have st0:=St.start s h k0 hf0;refine ae.use (Ah (by omega) (Nat.zero_le _) hb0) ?_
 rintro _ h1 ⟨hb1,k1⟩;have st1:=st0.more k1 (by omega) ⟨_,hb0⟩
 refine ⟨fun h'=>∃j ts out,St s h j ts out h'∧vH h' (h.size+1) s (j+bG false (rest s j)) out,fun h'=>s.size - posOf (h.size+1) h',⟨0,[],_,st1,hb1⟩,?_⟩;rintro _ h2 ⟨j,ts,out,st2,hb2⟩;have hrl:=ye s j;have hbl:=pF false (rest s j);have hle:=st2.le;have hln:=st2.len;refine lx hb2 rfl ?_;rw [asS_str,asK_int];refine ah (fun hc=>?_) (fun hc=>?_)
 ·have hlt:j+bG false (rest s j) < s.size:=by have:=Qj hc;omega
  refine lx hb2 rfl ?_;refine ae.use (LZ hs hlt hb2 st2.own (by omega) st2.aE.size) ?_
  intro r3 h3 hone;unfold MV at hone;cases ht:vD 2 3 4 (rest s (j+bG false (rest s j))) with
  |bad e =>
   rw [ht] at hone;obtain ⟨rfl,k3⟩:=hone;have he:=Kv ht;rw [asK_int];refine cf (by simp;omega) ?_
   rw [oneK_int,oneK_int];have st3:=st2.more k3 (by omega) ⟨_,hb2⟩
   refine ⟨rfl,bq _ _,xf (cs:=flt e _) st3.flt rfl rfl fun h4 k4 _=>?_⟩;exact .bad e _ hs (st2.bad rfl hlt ht) rfl (st3.aE.cA (k4.mono fun k _ hk=>.inr (by omega)))
  |tok kind len n =>
   rw [ht] at hone;obtain ⟨rfl,out3,hb3,ho3,k3,hw3⟩:=hone;rw [asK_int];refine ba rfl ?_;have hnf:∀k,out.ownBlock=some k→k≠h.size:=fun k hk hkh=>by
    obtain ⟨c,hc⟩:=st2.own.blk hk;rw [hkh,st2.flt] at hc;cases hc
   have hf3:=k3.get st2.flt (by
    rintro (hk|hk)
    ·omega
    ·exact hnf _ hk rfl)
   obtain ⟨st3,hgt⟩:=st2.tok rfl hlt ht ho3 (st2.aE.cA (k3.mono fun k hk hkk=>.inr (by
    rcases hkk with rfl|hkk
    ·omega
    ·exact (st2.own.lt k hkk).1))) hf3
   refine ae.use (Ah (by omega) st3.le hb3) ?_
   rintro _ h4 ⟨hb4,k4⟩;refine ⟨⟨_,_,out3,st3.more k4 (by omega) ⟨_,hb3⟩,hb4⟩,?_⟩
   show s.size - posOf (h.size+1) h4 < s.size - posOf (h.size+1) h2;rw [lX hb4,lX hb2];have:=st3.le;omega
 ·have hge:j+bG false (rest s j)=s.size:=by have:=Qc hc;omega
  refine lx hb2 rfl ?_;refine ⟨rfl,bq 0 0,xf (cs:=flt 0 0) st2.flt rfl rfl fun h4 k4 _=>?_⟩;refine .ok ts out hs (st2.stop hge) rfl ?_ (st2.aE.cA (k4.mono fun k _ hk=>.inr (by omega)))
  exact st2.own.DC k4 (DJ.blk st2.flt) (by decide)
end
def Out (s:ByteArray)(ts:List Tok)(e a:Int):Prop :=
 (12000 < s.size∧ts=[]∧e=1∧a=12000)∨(s.size≤12000∧Sc (bytesOf s) 0 (.ok ts)∧e=0∧a=0)∨(s.size≤12000∧Sc (bytesOf s) 0 (.error (e,a))∧ts=[])
theorem Out.same {s:ByteArray}{ts us:List Tok}{e a e' a':Int}(h:Out s ts e a)(k:Out s us e' a'):ts=us∧e=e'∧a=a':=by
 rcases h with ⟨h0,h1,h2,h3⟩|⟨h0,h1,h2,h3⟩|⟨h0,h1,h2⟩<;>rcases k with ⟨k0,k1,k2,k3⟩|⟨k0,k1,k2,k3⟩|⟨k0,k1,k2⟩<;>try omega
 ·exact ⟨by rw [h1,k1],by rw [h2,k2],by rw [h3,k3]⟩
 ·cases h1.same k1;exact ⟨rfl,by rw [h2,k2],by rw [h3,k3]⟩
 ·cases h1.same k1
 ·cases h1.same k1
 ·cases h1.same k1;exact ⟨by rw [h2,k2],rfl,rfl⟩
theorem Sc.len {l:List UInt8}{at_:Int}{res:Res}(h:Sc l at_ res):∀ts,res=.ok ts→ts.length≤l.length:=by
 induction h with
 |stop _=>rintro _ ⟨⟩;simp
 |bad _ _=>rintro _ ⟨⟩
 |@tok l r at_ c kind len n ts h1 e1 k1 ih =>
  rintro _ ⟨⟩;have:=ih ts rfl;have h2:=xM e1;have h3:=congrArg List.length h1;rw [Qs] at this h3;simp only [Qn] at *;omega
 |fail _ _ _ _=>rintro _ ⟨⟩
theorem Out.len {s:ByteArray}{ts:List Tok}{e a:Int}(h:Out s ts e a):ts.length≤12000:=by
 rcases h with ⟨_,rfl,_⟩|⟨h0,h1,_⟩|⟨_,_,rfl⟩
 ·simp
 ·have:=h1.len ts rfl;rw [aN] at this;omega
 ·simp
theorem Sc.err {l:List UInt8}{at_:Int}{res:Res}(h:Sc l at_ res):∀e a,res=.error (e,a)→e≠0∧at_≤a∧a≤at_+l.length:=by
 induction h with
 |stop _=>rintro _ _ ⟨⟩
 |@bad l r at_ c e0 h1 e1 =>
  rintro _ _ ⟨⟩;have:=Kv e1;have:=pF false l;omega
 |tok _ _ _ _=>rintro _ _ ⟨⟩
 |@fail l r at_ c kind len n x h1 e1 k1 ih =>
  intro e a he;obtain ⟨h4,h5,h6⟩:=ih e a he;have h2:=xM e1;have h3:=congrArg List.length h1;rw [Qs] at h6 h3;simp only [Qn] at *;omega
end Go.Proofs.YtkeeboomikkojaaGreatDoor.Tkz
