import Derived.Test.YtkeeboomikkojaaGreatDoorSxMore
import Derived.Test.YtkeeboomikkojaaGreatDoorPaP
import Derived.Test.YtkeeboomikkojaaGreatDoorSxStr
namespace Go.Sx.Tk
def lo (c:UInt8):Bool:=decide (97≤c.toNat)&&decide (c.toNat≤122)
def dg (c:UInt8):Bool:=decide (48≤c.toNat)&&decide (c.toNat≤57)
def ld (c:UInt8):Bool:=lo c||dg c
def run (l:List UInt8):Nat:=(l.takeWhile ld).length
def bG:Bool→List UInt8→Nat
 |_,[]=>0
 |r,c::l=>if c.toNat=10 then bG false l+1 else if r=true∨c.toNat=32∨c.toNat=9∨c.toNat=13 then bG r l+1 else if c.toNat=35 then bG true l+1 else 0
def words:List (List UInt8) :=
 [[97,98,97,110,100,111,110],[99,104,97,110],[99,108,111,110,101],[99,108,111,115,101],[100,114,97,105,110],[101,108,115,101],[101,109,105,116],[102,111,114],[102,114,111,109],[105,102],[105,110,116],[108,101,116],[114,101,99,118],[114,101,112,101,97,116],[115,101,110,100],[115,101,116],[115,112,97,119,110],[115,116,97,103,101],[116,97,107,101]]
def isWord (l:List UInt8):Bool:=decide (l∈words)
def wP (l:List UInt8):Int:=l.foldl (fun n c=>10*n+((c.toNat:Int) - 48)) 0
def HL (l:List UInt8):Option Int:=if 18 < l.length∨(1 < l.length∧(l.getD 0 0).toNat=48)∨l.all dg=false then none else some (wP l)
inductive One
 |bad (code:Int)
 |tok (kind:Int) (len:Nat) (n:Int)
def sR (c:UInt8):Bool:=decide (c.toNat=40)||(decide (c.toNat=41)||(decide (c.toNat=123)||(decide (c.toNat=125)||(decide (c.toNat=44)||(decide (c.toNat=59)||(decide (c.toNat=43)||(decide (c.toNat=45)||(decide (c.toNat=42)||decide (c.toNat=60)))))))))
def vD (eT eN eM:Int)(l:List UInt8):One :=
 match l with
 |[]=>.bad eT
 |c::r =>
  if lo c=true then (if isWord (l.take (run l))=true then .tok 1 (run l) 0 else if 12 < run l then .bad eM else .tok 2 (run l) 0)
  else if dg c=true then (match HL (l.take (run l)) with|none=>.bad eN|some n=>.tok 3 (run l) n)
  else if c.toNat=61 then (match r with|d::_=>if d.toNat=61 then .tok 4 2 0 else .tok 4 1 0|[]=>.tok 4 1 0)
  else if sR c=true then .tok 4 1 0 else .bad eT
structure Tok where
 kind:Int
 at_:Int
 text:ByteArray
 n:Int
def Tok.f (t:Tok):List Value:=[.int .i64 t.kind,.int .i64 t.at_,.string t.text,.int .i64 t.n]
theorem Tok.len (t:Tok):t.f.length=4:=rfl
theorem Tok.one (t:Tok):∀u∈t.f,one u:=by
 intro u hu;simp only [Tok.f,List.mem_cons,List.not_mem_nil,or_false] at hu;rcases hu with rfl|rfl|rfl|rfl<;>rfl
abbrev Res:=Except (Int×Int) (List Tok)
section
variable  (eT eN eM:Int)
inductive lj:List UInt8→Int→Res→Prop
 |stop {l:List UInt8} {at_:Int}:l.drop (bG false l)=[]→lj l at_ (.ok [])
 |bad {l r:List UInt8} {at_:Int} {c:UInt8} {e:Int}:l.drop (bG false l)=c::r→vD eT eN eM (c::r)=.bad e→lj l at_ (.error (e,at_+bG false l))
 |tok {l r:List UInt8} {at_:Int} {c:UInt8} {kind:Int} {len:Nat} {n:Int} {ts:List Tok}:l.drop (bG false l)=c::r→vD eT eN eM (c::r)=.tok kind len n →
  lj ((c::r).drop len) (at_+bG false l+len) (.ok ts)→lj l at_ (.ok (⟨kind,at_+bG false l,⟨((c::r).take len).toArray⟩,n⟩::ts))
 |fail {l r:List UInt8} {at_:Int} {c:UInt8} {kind:Int} {len:Nat} {n:Int} {x:Int×Int}:l.drop (bG false l)=c::r→vD eT eN eM (c::r)=.tok kind len n →
  lj ((c::r).drop len) (at_+bG false l+len) (.error x)→lj l at_ (.error x)
end
variable  {eT eN eM:Int}
theorem lj.same {l:List UInt8}{at_:Int}{a b:Res}(h:lj eT eN eM l at_ a)(k:lj eT eN eM l at_ b):a=b:=by
 induction h generalizing b with
 |stop h1 =>
  cases k with
  |stop _=>rfl
  |bad h2 _=>rw [h1] at h2;cases h2
  |tok h2 _ _=>rw [h1] at h2;cases h2
  |fail h2 _ _=>rw [h1] at h2;cases h2
 |bad h1 e1 =>
  cases k with
  |stop h2=>rw [h1] at h2;cases h2
  |bad h2 e2 =>
   rw [h1] at h2;cases h2;rw [e1] at e2;cases e2;rfl
  |tok h2 e2 _ =>
   rw [h1] at h2;cases h2;rw [e1] at e2;cases e2
  |fail h2 e2 _ =>
   rw [h1] at h2;cases h2;rw [e1] at e2;cases e2
 |tok h1 e1 _ ih =>
  cases k with
  |stop h2=>rw [h1] at h2;cases h2
  |bad h2 e2 =>
   rw [h1] at h2;cases h2;rw [e1] at e2;cases e2
  |tok h2 e2 k2 =>
   rw [h1] at h2;cases h2;rw [e1] at e2;cases e2;cases ih k2;rfl
  |fail h2 e2 k2 =>
   rw [h1] at h2;cases h2;rw [e1] at e2;cases e2;cases ih k2
 |fail h1 e1 _ ih =>
  cases k with
  |stop h2=>rw [h1] at h2;cases h2
  |bad h2 e2 =>
   rw [h1] at h2;cases h2;rw [e1] at e2;cases e2
  |tok h2 e2 k2 =>
   rw [h1] at h2;cases h2;rw [e1] at e2;cases e2;cases ih k2
  |fail h2 e2 k2 =>
   rw [h1] at h2;cases h2;rw [e1] at e2;cases e2;exact ih k2
theorem pF:∀(r:Bool) (l:List UInt8),bG r l≤l.length
 |_,[]=>Zc _
 |r,c::l=>by
  have h1:=pF false l;have h2:=pF r l;have h3:=pF true l;unfold bG;simp only [Qn]
  split
  ·omega
  ·split
   ·omega
   ·split<;>omega
theorem zW (l:List UInt8):run l≤l.length:=by
 unfold run;have:=congrArg List.length (List.takeWhile_append_dropWhile (p:=ld) (l:=l));rw [Qd] at this;omega
theorem qB {c:UInt8}{l:List UInt8}:run (c::l)=if ld c=true then run l+1 else 0:=by
 unfold run;rw [List.takeWhile_cons]
 split<;>simp
theorem xM {l:List UInt8}{kind:Int}{len:Nat}{n:Int}(h:vD eT eN eM l=.tok kind len n):0 < len∧len≤l.length:=by
 unfold vD at h;have hrl:=zW l;cases l with
 |nil=>cases h
 |cons c r =>
  simp only at h;have hr:ld c=true→0 < run (c::r):=fun hc=>by rw [qB,if_pos hc];omega
  split at h
  ·rename_i hc;have:=hr (by simp [ld,hc])
   split at h
   ·cases h;exact ⟨this,hrl⟩
   ·split at h
    ·cases h
    ·cases h;exact ⟨this,hrl⟩
  ·split at h
   ·rename_i hc;have:=hr (by simp [ld,hc])
    split at h
    ·cases h
    ·cases h;exact ⟨this,hrl⟩
   ·split at h
    ·split at h
     ·split at h<;>cases h<;>simp
     ·cases h;simp
    ·split at h
     ·cases h;simp
     ·cases h
def LY (acc:List Tok):Res→Res
 |.ok ts=>.ok (acc++ts)
 |.error x=>.error x
theorem HY (r:Res):LY [] r=r:=by cases r<;>rfl
theorem Ia (a b:List Tok)(r:Res):LY a (LY b r)=LY (a++b) r:=by cases r<;>simp [LY]
theorem lj.skip {l l':List UInt8}{at_:Int}{k:Nat}{res:Res}(hk:bG false l=k+bG false l')(hd:∀j,l.drop (k+j)=l'.drop j)(h:lj eT eN eM l' (at_+k) res):lj eT eN eM l at_ res:=by
 have hd':l.drop (bG false l)=l'.drop (bG false l'):=by rw [hk,hd]
 have he:at_+(bG false l:Nat)=at_+k+(bG false l':Nat):=by rw [hk];push_cast;omega
 cases h with
 |stop h1=>exact .stop (by rw [hd'];exact h1)
 |bad h1 e1=>rw [←he];exact .bad (by rw [hd'];exact h1) e1
 |tok h1 e1 k1 =>
  rw [←he] at k1 ⊢;exact .tok (by rw [hd'];exact h1) e1 k1
 |fail h1 e1 k1 =>
  rw [←he] at k1;exact .fail (by rw [hd'];exact h1) e1 k1
end Go.Sx.Tk
namespace Go.Sx.Tk
variable  {eT eN eM:Int}
def rq (d:Int)(t:Tok):Tok:={ t with at_:=t.at_+d }
end Go.Sx.Tk
namespace Go.Sx.Rn
inductive Ex where
 |mk (op:Int) (nm:ByteArray) (n:Int) (l:List Ex):Ex
inductive St where
 |mk (d at_:Int) (a b t:ByteArray) (n:Int) (e:List Ex) (body els:List St):St
structure Sg where
 nm:ByteArray
 at_:Int
 ps:List (ByteArray×ByteArray)
 body:List St
def Ex.op:Ex→Int|.mk o _ _ _=>o
def Ex.nm:Ex→ByteArray|.mk _ s _ _=>s
def Ex.n:Ex→Int|.mk _ _ n _=>n
def Ex.l:Ex→List Ex|.mk _ _ _ l=>l
def St.d:St→Int|.mk d _ _ _ _ _ _ _ _=>d
def St.at_:St→Int|.mk _ x _ _ _ _ _ _ _=>x
def St.a:St→ByteArray|.mk _ _ x _ _ _ _ _ _=>x
def St.b:St→ByteArray|.mk _ _ _ x _ _ _ _ _=>x
def St.t:St→ByteArray|.mk _ _ _ _ x _ _ _ _=>x
def St.n:St→Int|.mk _ _ _ _ _ x _ _ _=>x
def St.e:St→List Ex|.mk _ _ _ _ _ _ x _ _=>x
def St.body:St→List St|.mk _ _ _ _ _ _ _ x _=>x
def St.els:St→List St|.mk _ _ _ _ _ _ _ _ x=>x
def SlB (h:Hp)(sz:Nat)(v:Value)(n:Nat)(us:List Value):Prop:=bP h sz v n us∧n≤9223372036854775807
theorem SlB.aE {h h':Hp}{sz n:Nat}{v:Value}{us:List Value}(hs:SlB h sz v n us)(k:KF h h'):SlB h' sz v n us:=⟨hs.1.aE k,hs.2⟩
mutual
def Ej (h:Hp):Ex→List Value→Prop
 |.mk op nm n l,cs=>∃v us,cs=[.int .i64 op,.string nm,.int .i64 n,v]∧SlB h 4 v l.length us∧rf h l us
def rf (h:Hp):List Ex→List Value→Prop
 |[],us=>us=[]
 |x::r,us=>Ej h x (us.take 4)∧rf h r (us.drop 4)
end
def ExS (h:Hp)(v:Value)(l:List Ex):Prop:=∃us,SlB h 4 v l.length us∧rf h l us
mutual
def El (h:Hp):St→List Value→Prop
 |.mk d at_ a b t n e body els,cs=>∃ve vb vl us ws,cs=[.int .i64 d,.int .i64 at_,.string a,.string b,.string t,.int .i64 n,ve,vb,vl]∧ExS h ve e∧SlB h 9 vb body.length us∧pQ h body us∧SlB h 9 vl els.length ws∧pQ h els ws
def pQ (h:Hp):List St→List Value→Prop
 |[],us=>us=[]
 |x::r,us=>El h x (us.take 9)∧pQ h r (us.drop 9)
end
def StS (h:Hp)(v:Value)(l:List St):Prop:=∃us,SlB h 9 v l.length us∧pQ h l us
def pf (p:ByteArray×ByteArray):List Value:=[.string p.1,.string p.2]
theorem eA (p:ByteArray×ByteArray):(pf p).length=2:=rfl
theorem CC (p:ByteArray×ByteArray):∀u∈pf p,one u:=by
 intro u hu;simp only [pf,List.mem_cons,List.not_mem_nil,or_false] at hu;rcases hu with rfl|rfl<;>rfl
def DY (v:Value):Prop:=v=.slice none 0 0∨∃a l c,v=.slice (some a) l c
def PsS (h:Hp)(v:Value)(l:List (ByteArray×ByteArray)):Prop:=bP h 2 v l.length (l.flatMap pf)∧DY v
theorem PsS.aE {h h':Hp}{v:Value}{l:List (ByteArray×ByteArray)}(hs:PsS h v l)(k:KF h h'):PsS h' v l:=⟨hs.1.aE k,hs.2⟩
def ca (v:Value):Prop:=∃a l c,v=.slice a l c
theorem bP.ca {h:Hp}{sz n:Nat}{v:Value}{us:List Value}(hs:bP h sz v n us):ca v:=by
 rcases hs.2 with ⟨_,a,c,rfl⟩|⟨b,o,c,rfl,_⟩
 ·exact ⟨_,_,_,rfl⟩
 ·exact ⟨_,_,_,rfl⟩
theorem ca.one {v:Value}(h:ca v):one v:=by obtain ⟨a,l,c,rfl⟩:=h;rfl
def OU (h:Hp)(s:Sg)(cs:List Value):Prop:=∃vp vb,cs=[.string s.nm,.int .i64 s.at_,vp,vb]∧PsS h vp s.ps∧StS h vb s.body
def kr (h:Hp):List Sg→List Value→Prop
 |[],us=>us=[]
 |x::r,us=>OU h x (us.take 4)∧kr h r (us.drop 4)
def SgS (h:Hp)(v:Value)(l:List Sg):Prop:=∃us,SlB h 4 v l.length us∧kr h l us
theorem Ih {h:Hp}{x:Ex}{cs:List Value}:Ej h x cs↔∃v,cs=[.int .i64 x.op,.string x.nm,.int .i64 x.n,v]∧ExS h v x.l:=by
 cases x;simp only [Ej,ExS,Ex.op,Ex.nm,Ex.n,Ex.l]
 constructor
 ·rintro ⟨v,us,h1,h2,h3⟩;exact ⟨v,h1,us,h2,h3⟩
 ·rintro ⟨v,h1,us,h2,h3⟩;exact ⟨v,us,h1,h2,h3⟩
theorem IP {h:Hp}{x:St}{cs:List Value}:El h x cs↔∃ve vb vl,cs=[.int .i64 x.d,.int .i64 x.at_,.string x.a,.string x.b,.string x.t,.int .i64 x.n,ve,vb,vl]∧ExS h ve x.e∧StS h vb x.body∧StS h vl x.els:=by
 cases x;simp only [El,StS,St.d,St.at_,St.a,St.b,St.t,St.n,St.e,St.body,St.els]
 constructor
 ·rintro ⟨ve,vb,vl,us,ws,h1,h2,h3,h4,h5,h6⟩;exact ⟨ve,vb,vl,h1,h2,⟨us,h3,h4⟩,ws,h5,h6⟩
 ·rintro ⟨ve,vb,vl,h1,h2,⟨us,h3,h4⟩,ws,h5,h6⟩;exact ⟨ve,vb,vl,us,ws,h1,h2,h3,h4,h5,h6⟩
theorem An {h:Hp}:∀{l:List Ex} {us:List Value},rf h l us→∀{i:Nat} {x:Ex},l[i]?=some x→Ej h x ((us.drop (i*4)).take 4)
 |[],_,_,_,_,hx=>by simp at hx
 |y::r,us,hs,0,x,hx=>by
  simp at hx;subst hx;unfold rf at hs;simpa using hs.1
 |y::r,us,hs,i+1,x,hx=>by
  unfold rf at hs;have:=An hs.2 (i:=i) (x:=x) (by simpa using hx)
  rw [Z7] at this;rw [show (i+1)*4=4+i*4 by omega]
  exact this
theorem A0 {h:Hp}:∀{l:List St} {us:List Value},pQ h l us→∀{i:Nat} {x:St},l[i]?=some x→El h x ((us.drop (i*9)).take 9)
 |[],_,_,_,_,hx=>by simp at hx
 |y::r,us,hs,0,x,hx=>by
  simp at hx;subst hx;unfold pQ at hs;simpa using hs.1
 |y::r,us,hs,i+1,x,hx=>by
  unfold pQ at hs;have:=A0 hs.2 (i:=i) (x:=x) (by simpa using hx)
  rw [Z7] at this;rw [show (i+1)*9=9+i*9 by omega]
  exact this
theorem Aq {h:Hp}:∀{l:List Sg} {us:List Value},kr h l us→∀{i:Nat} {x:Sg},l[i]?=some x→OU h x ((us.drop (i*4)).take 4)
 |[],_,_,_,_,hx=>by simp at hx
 |y::r,us,hs,0,x,hx=>by
  simp at hx;subst hx;unfold kr at hs;simpa using hs.1
 |y::r,us,hs,i+1,x,hx=>by
  unfold kr at hs;have:=Aq hs.2 (i:=i) (x:=x) (by simpa using hx)
  rw [Z7] at this;rw [show (i+1)*4=4+i*4 by omega]
  exact this
mutual
theorem Gr {h h':Hp}(k:KF h h'):∀(x:Ex) {cs:List Value},Ej h x cs→Ej h' x cs
 |.mk op nm n l,cs,hx=>by
  unfold Ej at hx ⊢;obtain ⟨v,us,h1,h2,h3⟩:=hx;exact ⟨v,us,h1,h2.aE k,tI k l h3⟩
theorem tI {h h':Hp}(k:KF h h'):∀(l:List Ex) {us:List Value},rf h l us→rf h' l us
 |[],us,hs=>by
  unfold rf at hs ⊢;exact hs
 |x::r,us,hs=>by
  unfold rf at hs ⊢;exact ⟨Gr k x hs.1,tI k r hs.2⟩
end
theorem ExS.aE {h h':Hp}{v:Value}{l:List Ex}(hs:ExS h v l)(k:KF h h'):ExS h' v l:=by
 obtain ⟨us,h1,h2⟩:=hs;exact ⟨us,h1.aE k,tI k l h2⟩
mutual
theorem E7 {h h':Hp}(k:KF h h'):∀(x:St) {cs:List Value},El h x cs→El h' x cs
 |.mk d at_ a b t n e body els,cs,hx=>by
  unfold El at hx ⊢;obtain ⟨ve,vb,vl,us,ws,h1,h2,h3,h4,h5,h6⟩:=hx;exact ⟨ve,vb,vl,us,ws,h1,h2.aE k,h3.aE k,qE k body h4,h5.aE k,qE k els h6⟩
theorem qE {h h':Hp}(k:KF h h'):∀(l:List St) {us:List Value},pQ h l us→pQ h' l us
 |[],us,hs=>by
  unfold pQ at hs ⊢;exact hs
 |x::r,us,hs=>by
  unfold pQ at hs ⊢;exact ⟨E7 k x hs.1,qE k r hs.2⟩
end
theorem StS.aE {h h':Hp}{v:Value}{l:List St}(hs:StS h v l)(k:KF h h'):StS h' v l:=by
 obtain ⟨us,h1,h2⟩:=hs;exact ⟨us,h1.aE k,qE k l h2⟩
theorem xl {h h':Hp}(k:KF h h'):∀(l:List Sg) {us:List Value},kr h l us→kr h' l us
 |[],us,hs=>by
  unfold kr at hs ⊢;exact hs
 |x::r,us,hs=>by
  unfold kr at hs ⊢;obtain ⟨⟨vp,vb,h1,h2,h3⟩,h4⟩:=hs;exact ⟨⟨vp,vb,h1,h2.aE k,h3.aE k⟩,xl k r h4⟩
theorem SgS.aE {h h':Hp}{v:Value}{l:List Sg}(hs:SgS h v l)(k:KF h h'):SgS h' v l:=by
 obtain ⟨us,h1,h2⟩:=hs;exact ⟨us,h1.aE k,xl k l h2⟩
theorem bP.rdC {h:Hp}{sz n:Nat}{v:Value}{us:List Value}(hs:bP h sz v n us){i:Nat}(hi:i < n){K:List Value→Prop}(hk:K ((us.drop (i*sz)).take sz)) :
  aO v fun a l _=>0≤(i:Int)∧(i:Int) < (l:Int)∧∃C,ak h (Addr.add a (Int.toNat (i:Int)*sz)) sz C∧K C:=by
 have hmul:(i+1)*sz≤n*sz:=Nat.mul_le_mul_right sz (by omega)
 rw [Nat.add_mul,Nat.one_mul] at hmul;have h1:=hs.1;rcases hs.2 with ⟨h0,_⟩|⟨b,o,cap,rfl,hc⟩
 ·omega
 ·rw [asSl1_sl];refine ⟨by omega,by omega,_,⟨by rw [Qp,Qs];omega,fun j u hu=>?_⟩,hk⟩
  rw [aT,aT,Qm,Nat.add_assoc];rw [Qh] at hu
  split at hu
  ·rw [Qi] at hu;exact hc _ u hu
  ·cases hu
theorem bP.rdO {h:Hp}{sz n:Nat}{v:Value}{us:List Value}(hs:bP h sz v n us){i o:Nat}(hi:i < n){u:Value}(hu:((us.drop (i*sz)).take sz)[o]?=some u){K:Value→Prop}(hk:K u) :
  aO v fun a l _=>0≤(i:Int)∧(i:Int) < (l:Int)∧∃w,af h (Addr.add (Addr.add a (Int.toNat (i:Int)*sz)) o)=some w∧K w:=by
 refine bP.rdF hs hi (off:=o) (u:=u) ?_ hk;rw [Qh] at hu
 split at hu
 ·rw [Qi] at hu;exact hu
 ·cases hu
theorem ExS.sl {h:Hp}{v:Value}{l:List Ex}(hs:ExS h v l){F:Option Addr→Nat→Nat→Prop}(hf:∀a c,F a l.length c):bD v F:=by
 obtain ⟨us,h1,_⟩:=hs;exact h1.1.sl hf
theorem StS.sl {h:Hp}{v:Value}{l:List St}(hs:StS h v l){F:Option Addr→Nat→Nat→Prop}(hf:∀a c,F a l.length c):bD v F:=by
 obtain ⟨us,h1,_⟩:=hs;exact h1.1.sl hf
theorem SgS.sl {h:Hp}{v:Value}{l:List Sg}(hs:SgS h v l){F:Option Addr→Nat→Nat→Prop}(hf:∀a c,F a l.length c):bD v F:=by
 obtain ⟨us,h1,_⟩:=hs;exact h1.1.sl hf
theorem ExS.max {h:Hp}{v:Value}{l:List Ex}(hs:ExS h v l):l.length≤9223372036854775807:=by
 obtain ⟨us,h1,_⟩:=hs;exact h1.2
theorem StS.max {h:Hp}{v:Value}{l:List St}(hs:StS h v l):l.length≤9223372036854775807:=by
 obtain ⟨us,h1,_⟩:=hs;exact h1.2
theorem ExS.ca {h:Hp}{v:Value}{l:List Ex}(hs:ExS h v l):ca v:=by
 obtain ⟨us,h1,_⟩:=hs;exact bP.ca h1.1
theorem StS.ca {h:Hp}{v:Value}{l:List St}(hs:StS h v l):ca v:=by
 obtain ⟨us,h1,_⟩:=hs;exact bP.ca h1.1
def exC (x:Ex)(v:Value):List Value:=[.int .i64 x.op,.string x.nm,.int .i64 x.n,v]
def stC (x:St)(ve vb vl:Value):List Value:=[.int .i64 x.d,.int .i64 x.at_,.string x.a,.string x.b,.string x.t,.int .i64 x.n,ve,vb,vl]
def sgC (s:Sg)(vp vb:Value):List Value:=[.string s.nm,.int .i64 s.at_,vp,vb]
theorem eu {x:Ex}{v:Value}(h:ca v):∀u∈exC x v,one u:=by
 intro u hu;simp only [exC,List.mem_cons,List.not_mem_nil,or_false] at hu;rcases hu with rfl|rfl|rfl|rfl
 ·rfl
 ·rfl
 ·rfl
 ·exact h.one
theorem iT {x:St}{ve vb vl:Value}(h1:ca ve)(h2:ca vb)(h3:ca vl):∀u∈stC x ve vb vl,one u:=by
 intro u hu;simp only [stC,List.mem_cons,List.not_mem_nil,or_false] at hu;rcases hu with rfl|rfl|rfl|rfl|rfl|rfl|rfl|rfl|rfl
 ·rfl
 ·rfl
 ·rfl
 ·rfl
 ·rfl
 ·rfl
 ·exact h1.one
 ·exact h2.one
 ·exact h3.one
theorem fy {s:Sg}{vp vb:Value}(h1:ca vp)(h2:ca vb):∀u∈sgC s vp vb,one u:=by
 intro u hu;simp only [sgC,List.mem_cons,List.not_mem_nil,or_false] at hu;rcases hu with rfl|rfl|rfl|rfl
 ·rfl
 ·rfl
 ·exact h1.one
 ·exact h2.one
theorem ExS.at_ {h:Hp}{v:Value}{l:List Ex}(hs:ExS h v l){i:Nat}{x:Ex}(hx:l[i]?=some x):∃us w,bP h 4 v l.length us∧(us.drop (i*4)).take 4=exC x w∧ExS h w x.l:=by
 obtain ⟨us,h1,h2⟩:=hs;obtain ⟨w,h3,h4⟩:=Ih.1 (An h2 hx);exact ⟨us,w,h1.1,h3,h4⟩
theorem StS.at_ {h:Hp}{v:Value}{l:List St}(hs:StS h v l){i:Nat}{x:St}(hx:l[i]?=some x):∃us ve vb vl,bP h 9 v l.length us∧(us.drop (i*9)).take 9=stC x ve vb vl∧ExS h ve x.e∧StS h vb x.body∧StS h vl x.els:=by
 obtain ⟨us,h1,h2⟩:=hs;obtain ⟨ve,vb,vl,h3,h4,h5,h6⟩:=IP.1 (A0 h2 hx);exact ⟨us,ve,vb,vl,h1.1,h3,h4,h5,h6⟩
theorem SgS.at_ {h:Hp}{v:Value}{l:List Sg}(hs:SgS h v l){i:Nat}{x:Sg}(hx:l[i]?=some x):∃us vp vb,bP h 4 v l.length us∧(us.drop (i*4)).take 4=sgC x vp vb∧PsS h vp x.ps∧StS h vb x.body:=by
 obtain ⟨us,h1,h2⟩:=hs;obtain ⟨vp,vb,h3,h4,h5⟩:=Aq h2 hx;exact ⟨us,vp,vb,h1.1,h3,h4,h5⟩
theorem ExS.rdC {h:Hp}{v:Value}{l:List Ex}(hs:ExS h v l){i:Nat}{x:Ex}(hx:l[i]?=some x){K:List Value→Prop}(hk:∀w,ExS h w x.l→K (exC x w)) :
  aO v fun a l _=>0≤(i:Int)∧(i:Int) < (l:Int)∧∃C,ak h (Addr.add a (Int.toNat (i:Int)*4)) 4 C∧K C:=by
 obtain ⟨us,w,h1,h2,h3⟩:=hs.at_ hx;exact bP.rdC h1 (Q6.1 hx).1 (by rw [h2];exact hk w h3)
theorem ExS.rdO {h:Hp}{v:Value}{l:List Ex}(hs:ExS h v l){i:Nat}{x:Ex}(hx:l[i]?=some x){o:Nat}{K:Value→Prop}(hk:∀w,ExS h w x.l→∃u,(exC x w)[o]?=some u∧K u) :
  aO v fun a l _=>0≤(i:Int)∧(i:Int) < (l:Int)∧∃w,af h (Addr.add (Addr.add a (Int.toNat (i:Int)*4)) o)=some w∧K w:=by
 obtain ⟨us,w,h1,h2,h3⟩:=hs.at_ hx;obtain ⟨u,h4,h5⟩:=hk w h3;exact bP.rdO h1 (Q6.1 hx).1 (by rw [h2];exact h4) h5
theorem StS.rdC {h:Hp}{v:Value}{l:List St}(hs:StS h v l){i:Nat}{x:St}(hx:l[i]?=some x){K:List Value→Prop}(hk:∀ve vb vl,ExS h ve x.e→StS h vb x.body→StS h vl x.els→K (stC x ve vb vl)) :
  aO v fun a l _=>0≤(i:Int)∧(i:Int) < (l:Int)∧∃C,ak h (Addr.add a (Int.toNat (i:Int)*9)) 9 C∧K C:=by
 obtain ⟨us,ve,vb,vl,h1,h2,h3,h4,h5⟩:=hs.at_ hx;exact bP.rdC h1 (Q6.1 hx).1 (by rw [h2];exact hk _ _ _ h3 h4 h5)
theorem StS.rdO {h:Hp}{v:Value}{l:List St}(hs:StS h v l){i:Nat}{x:St}(hx:l[i]?=some x){o:Nat}{K:Value→Prop}(hk:∀ve vb vl,ExS h ve x.e→StS h vb x.body→StS h vl x.els→∃u,(stC x ve vb vl)[o]?=some u∧K u) :
  aO v fun a l _=>0≤(i:Int)∧(i:Int) < (l:Int)∧∃w,af h (Addr.add (Addr.add a (Int.toNat (i:Int)*9)) o)=some w∧K w:=by
 obtain ⟨us,ve,vb,vl,h1,h2,h3,h4,h5⟩:=hs.at_ hx;obtain ⟨u,h6,h7⟩:=hk _ _ _ h3 h4 h5;exact bP.rdO h1 (Q6.1 hx).1 (by rw [h2];exact h6) h7
theorem SgS.rdC {h:Hp}{v:Value}{l:List Sg}(hs:SgS h v l){i:Nat}{x:Sg}(hx:l[i]?=some x){K:List Value→Prop}(hk:∀vp vb,PsS h vp x.ps→StS h vb x.body→K (sgC x vp vb)) :
  aO v fun a l _=>0≤(i:Int)∧(i:Int) < (l:Int)∧∃C,ak h (Addr.add a (Int.toNat (i:Int)*4)) 4 C∧K C:=by
 obtain ⟨us,vp,vb,h1,h2,h3,h4⟩:=hs.at_ hx;exact bP.rdC h1 (Q6.1 hx).1 (by rw [h2];exact hk _ _ h3 h4)
mutual
def exN:Ex→Nat
 |.mk _ _ _ l=>1+cZ l
def cZ:List Ex→Nat
 |[]=>0
 |x::r=>exN x+cZ r
end
mutual
def stN:St→Nat
 |.mk _ _ _ _ _ _ e body els=>1+cZ e+cq body+cq els
def cq:List St→Nat
 |[]=>0
 |x::r=>stN x+cq r
end
theorem gF (x:Ex):exN x=1+cZ x.l:=by cases x;rfl
theorem jH (x:St):stN x=1+cZ x.e+cq x.body+cq x.els:=by cases x;rfl
theorem cG:∀{l:List Ex} {x:Ex},x∈l→exN x≤cZ l
 |y::r,x,hx=>by
  unfold cZ;rcases List.mem_cons.1 hx with rfl|hx
  ·omega
  ·have:=cG hx;omega
theorem gW:∀{l:List St} {x:St},x∈l→stN x≤cq l
 |y::r,x,hx=>by
  unfold cq;rcases List.mem_cons.1 hx with rfl|hx
  ·omega
  ·have:=gW hx;omega
theorem gY:∀(l:List Ex),l.length≤cZ l
 |[]=>Nat.zero_le _
 |x::r=>by
  unfold cZ;have:=gY r;have:=gF x;simp only [Qn];omega
theorem qw:∀(l:List St),l.length≤cq l
 |[]=>Nat.zero_le _
 |x::r=>by
  unfold cq;have:=qw r;have:=jH x;simp only [Qn];omega
end Go.Sx.Rn
namespace Go.Sx.Rn
def SlN (h:Hp)(N:Nat→Prop)(sz:Nat)(v:Value)(n:Nat)(us:List Value):Prop:=SlB h sz v n us∧∀b,v.ownBlock=some b→N b
theorem SlN.aE {h h':Hp}{N S:Nat→Prop}{sz n:Nat}{v:Value}{us:List Value}(hs:SlN h N sz v n us)(k:ay S h h')(hn:∀b,N b→¬S b):SlN h' N sz v n us:=by
 refine ⟨⟨⟨hs.1.1.1,?_⟩,hs.1.2⟩,hs.2⟩;rcases hs.1.1.2 with h0|⟨b,o,c,rfl,hc⟩
 ·exact .inl h0
 ·exact .inr ⟨b,o,c,rfl,fun j u hu=>k.cell (hc j u hu) (hn b (hs.2 b rfl))⟩
theorem SlN.mono {h:Hp}{N N':Nat→Prop}{sz n:Nat}{v:Value}{us:List Value}(hs:SlN h N sz v n us)(hn:∀b,N b→N' b):SlN h N' sz v n us:=⟨hs.1,fun b hb=>hn b (hs.2 b hb)⟩
theorem SlN.own {h:Hp}{base:Nat}{e:TypeId}{sz n:Nat}{v:Value}{us:List Value}(ho:cI h base e sz v n us)(hn:n≤9223372036854775807):SlN h (fun b=>base≤b∧b < h.size) sz v n us :=
 ⟨⟨ho.tM,hn⟩,ho.lt⟩
mutual
def uP (h:Hp)(N:Nat→Prop):Ex→List Value→Prop
 |.mk op nm n l,cs=>∃v us,cs=[.int .i64 op,.string nm,.int .i64 n,v]∧SlN h N 4 v l.length us∧cv h N l us
def cv (h:Hp)(N:Nat→Prop):List Ex→List Value→Prop
 |[],us=>us=[]
 |x::r,us=>uP h N x (us.take 4)∧cv h N r (us.drop 4)
end
def gf (h:Hp)(N:Nat→Prop)(v:Value)(l:List Ex):Prop:=∃us,SlN h N 4 v l.length us∧cv h N l us
mutual
def uO (h:Hp)(N:Nat→Prop):St→List Value→Prop
 |.mk d at_ a b t n e body els,cs=>∃ve vb vl us ws,cs=[.int .i64 d,.int .i64 at_,.string a,.string b,.string t,.int .i64 n,ve,vb,vl]∧gf h N ve e∧SlN h N 9 vb body.length us∧cV h N body us∧SlN h N 9 vl els.length ws∧cV h N els ws
def cV (h:Hp)(N:Nat→Prop):List St→List Value→Prop
 |[],us=>us=[]
 |x::r,us=>uO h N x (us.take 9)∧cV h N r (us.drop 9)
end
def qQ (h:Hp)(N:Nat→Prop)(v:Value)(l:List St):Prop:=∃us,SlN h N 9 v l.length us∧cV h N l us
theorem lS {h:Hp}{N:Nat→Prop}{x:Ex}{cs:List Value}:uP h N x cs↔∃v,cs=exC x v∧gf h N v x.l:=by
 cases x;simp only [uP,gf,exC,Ex.op,Ex.nm,Ex.n,Ex.l]
 constructor
 ·rintro ⟨v,us,h1,h2,h3⟩;exact ⟨v,h1,us,h2,h3⟩
 ·rintro ⟨v,h1,us,h2,h3⟩;exact ⟨v,us,h1,h2,h3⟩
theorem Ak {h:Hp}{N:Nat→Prop}{x:St}{cs:List Value}:uO h N x cs↔∃ve vb vl,cs=stC x ve vb vl∧gf h N ve x.e∧qQ h N vb x.body∧qQ h N vl x.els:=by
 cases x;simp only [uO,qQ,stC,St.d,St.at_,St.a,St.b,St.t,St.n,St.e,St.body,St.els]
 constructor
 ·rintro ⟨ve,vb,vl,us,ws,h1,h2,h3,h4,h5,h6⟩;exact ⟨ve,vb,vl,h1,h2,⟨us,h3,h4⟩,ws,h5,h6⟩
 ·rintro ⟨ve,vb,vl,h1,h2,⟨us,h3,h4⟩,ws,h5,h6⟩;exact ⟨ve,vb,vl,us,ws,h1,h2,h3,h4,h5,h6⟩
mutual
theorem GX {h h':Hp}{N N':Nat→Prop}(f:∀sz v n us,SlN h N sz v n us→SlN h' N' sz v n us):∀(x:Ex) {cs:List Value},uP h N x cs→uP h' N' x cs
 |.mk op nm n l,cs,hx=>by
  unfold uP at hx ⊢;obtain ⟨v,us,h1,h2,h3⟩:=hx;exact ⟨v,us,h1,f _ _ _ _ h2,gV f l h3⟩
theorem gV {h h':Hp}{N N':Nat→Prop}(f:∀sz v n us,SlN h N sz v n us→SlN h' N' sz v n us):∀(l:List Ex) {us:List Value},cv h N l us→cv h' N' l us
 |[],us,hs=>by
  unfold cv at hs ⊢;exact hs
 |x::r,us,hs=>by
  unfold cv at hs ⊢;exact ⟨GX f x hs.1,gV f r hs.2⟩
end
theorem gf.map {h h':Hp}{N N':Nat→Prop}(f:∀sz v n us,SlN h N sz v n us→SlN h' N' sz v n us){v:Value}{l:List Ex}(hs:gf h N v l):gf h' N' v l:=by
 obtain ⟨us,h1,h2⟩:=hs;exact ⟨us,f _ _ _ _ h1,gV f l h2⟩
mutual
theorem Fa {h h':Hp}{N N':Nat→Prop}(f:∀sz v n us,SlN h N sz v n us→SlN h' N' sz v n us):∀(x:St) {cs:List Value},uO h N x cs→uO h' N' x cs
 |.mk d at_ a b t n e body els,cs,hx=>by
  unfold uO at hx ⊢;obtain ⟨ve,vb,vl,us,ws,h1,h2,h3,h4,h5,h6⟩:=hx;exact ⟨ve,vb,vl,us,ws,h1,h2.map f,f _ _ _ _ h3,fa f body h4,f _ _ _ _ h5,fa f els h6⟩
theorem fa {h h':Hp}{N N':Nat→Prop}(f:∀sz v n us,SlN h N sz v n us→SlN h' N' sz v n us):∀(l:List St) {us:List Value},cV h N l us→cV h' N' l us
 |[],us,hs=>by
  unfold cV at hs ⊢;exact hs
 |x::r,us,hs=>by
  unfold cV at hs ⊢;exact ⟨Fa f x hs.1,fa f r hs.2⟩
end
theorem qQ.map {h h':Hp}{N N':Nat→Prop}(f:∀sz v n us,SlN h N sz v n us→SlN h' N' sz v n us){v:Value}{l:List St}(hs:qQ h N v l):qQ h' N' v l:=by
 obtain ⟨us,h1,h2⟩:=hs;exact ⟨us,f _ _ _ _ h1,fa f l h2⟩
mutual
theorem uP.at {h:Hp}{N:Nat→Prop}:∀(x:Ex) {cs:List Value},uP h N x cs→Ej h x cs
 |.mk op nm n l,cs,hx=>by
  unfold uP at hx;unfold Ej;obtain ⟨v,us,h1,h2,h3⟩:=hx;exact ⟨v,us,h1,h2.1,cv.at l h3⟩
theorem cv.at {h:Hp}{N:Nat→Prop}:∀(l:List Ex) {us:List Value},cv h N l us→rf h l us
 |[],us,hs=>by
  unfold cv at hs;unfold rf;exact hs
 |x::r,us,hs=>by
  unfold cv at hs;unfold rf;exact ⟨uP.at x hs.1,cv.at r hs.2⟩
end
theorem gf.at {h:Hp}{N:Nat→Prop}{v:Value}{l:List Ex}(hs:gf h N v l):ExS h v l:=by
 obtain ⟨us,h1,h2⟩:=hs;exact ⟨us,h1.1,cv.at l h2⟩
mutual
theorem uO.at {h:Hp}{N:Nat→Prop}:∀(x:St) {cs:List Value},uO h N x cs→El h x cs
 |.mk d at_ a b t n e body els,cs,hx=>by
  unfold uO at hx;unfold El;obtain ⟨ve,vb,vl,us,ws,h1,h2,h3,h4,h5,h6⟩:=hx;exact ⟨ve,vb,vl,us,ws,h1,h2.at,h3.1,cV.at body h4,h5.1,cV.at els h6⟩
theorem cV.at {h:Hp}{N:Nat→Prop}:∀(l:List St) {us:List Value},cV h N l us→pQ h l us
 |[],us,hs=>by
  unfold cV at hs;unfold pQ;exact hs
 |x::r,us,hs=>by
  unfold cV at hs;unfold pQ;exact ⟨uO.at x hs.1,cV.at r hs.2⟩
end
theorem qQ.at {h:Hp}{N:Nat→Prop}{v:Value}{l:List St}(hs:qQ h N v l):StS h v l:=by
 obtain ⟨us,h1,h2⟩:=hs;exact ⟨us,h1.1,cV.at l h2⟩
theorem rT {h:Hp}{N:Nat→Prop}:∀{l:List Ex} {us:List Value} {x:Ex} {cs:List Value},cv h N l us→us.length=l.length*4→uP h N x cs→cs.length=4→cv h N (l++[x]) (us++cs)
 |[],us,x,cs,hl,hn,hx,hc=>by
  unfold cv at hl;subst hl;rw [Z4,Z4];unfold cv;rw [List.take_of_length_le (by omega),List.drop_of_length_le (by omega)]
  refine ⟨hx,?_⟩;unfold cv;rfl
 |y::r,us,x,cs,hl,hn,hx,hc=>by
  unfold cv at hl;rw [Qu];unfold cv;simp only [Qn] at hn;rw [Q0 (by omega),Q1 (by omega)]
  exact ⟨hl.1,rT hl.2 (by rw [Qs];omega) hx hc⟩
theorem rI {h:Hp}{N:Nat→Prop}:∀{l:List St} {us:List Value} {x:St} {cs:List Value},cV h N l us→us.length=l.length*9→uO h N x cs→cs.length=9→cV h N (l++[x]) (us++cs)
 |[],us,x,cs,hl,hn,hx,hc=>by
  unfold cV at hl;subst hl;rw [Z4,Z4];unfold cV;rw [List.take_of_length_le (by omega),List.drop_of_length_le (by omega)]
  refine ⟨hx,?_⟩;unfold cV;rfl
 |y::r,us,x,cs,hl,hn,hx,hc=>by
  unfold cV at hl;rw [Qu];unfold cV;simp only [Qn] at hn;rw [Q0 (by omega),Q1 (by omega)]
  exact ⟨hl.1,rI hl.2 (by rw [Qs];omega) hx hc⟩
def M1 (h:Hp)(N:Nat→Prop)(s:Sg)(cs:List Value):Prop:=∃vp vb,cs=sgC s vp vb∧SlN h N 2 vp s.ps.length (s.ps.flatMap pf)∧DY vp∧qQ h N vb s.body
def dO (h:Hp)(N:Nat→Prop):List Sg→List Value→Prop
 |[],us=>us=[]
 |x::r,us=>M1 h N x (us.take 4)∧dO h N r (us.drop 4)
theorem me {h h':Hp}{N N':Nat→Prop}(f:∀sz v n us,SlN h N sz v n us→SlN h' N' sz v n us):∀(l:List Sg) {us:List Value},dO h N l us→dO h' N' l us
 |[],us,hs=>by
  unfold dO at hs ⊢;exact hs
 |x::r,us,hs=>by
  unfold dO at hs ⊢;obtain ⟨⟨vp,vb,h1,h2,hn,h3⟩,h4⟩:=hs;exact ⟨⟨vp,vb,h1,f _ _ _ _ h2,hn,h3.map f⟩,me f r h4⟩
theorem dO.at {h:Hp}{N:Nat→Prop}:∀(l:List Sg) {us:List Value},dO h N l us→kr h l us
 |[],us,hs=>by
  unfold dO at hs;unfold kr;exact hs
 |x::r,us,hs=>by
  unfold dO at hs;unfold kr;obtain ⟨⟨vp,vb,h1,h2,hn,h3⟩,h4⟩:=hs;exact ⟨⟨vp,vb,h1,⟨h2.1.1,hn⟩,h3.at⟩,dO.at r h4⟩
theorem rS {h:Hp}{N:Nat→Prop}:∀{l:List Sg} {us:List Value} {x:Sg} {cs:List Value},dO h N l us→us.length=l.length*4→M1 h N x cs→cs.length=4→dO h N (l++[x]) (us++cs)
 |[],us,x,cs,hl,hn,hx,hc=>by
  unfold dO at hl;subst hl;rw [Z4,Z4];unfold dO;rw [List.take_of_length_le (by omega),List.drop_of_length_le (by omega)]
  refine ⟨hx,?_⟩;unfold dO;rfl
 |y::r,us,x,cs,hl,hn,hx,hc=>by
  unfold dO at hl;rw [Qu];unfold dO;simp only [Qn] at hn;rw [Q0 (by omega),Q1 (by omega)]
  exact ⟨hl.1,rS hl.2 (by rw [Qs];omega) hx hc⟩
theorem xi {h:Hp}{N:Nat→Prop}:cv h N [] []:=by unfold cv;rfl
theorem wM {h:Hp}{N:Nat→Prop}:cV h N [] []:=by unfold cV;rfl
theorem wO {h:Hp}{N:Nat→Prop}:dO h N [] []:=by unfold dO;rfl
theorem gf.ca {h:Hp}{N:Nat→Prop}{v:Value}{l:List Ex}(hs:gf h N v l):ca v:=hs.at.ca
theorem qQ.ca {h:Hp}{N:Nat→Prop}{v:Value}{l:List St}(hs:qQ h N v l):ca v:=hs.at.ca
theorem ExS.vz {h0 h:Hp}{v:Value}{l:List Ex}(hs:ExS h0 v l)(k:KF h0 h){i:Nat}{x:Ex}(hx:l[i]?=some x){K:List Value→Prop}(hk:∀w,ExS h0 w x.l→K (exC x w)) :
  aO v fun a l _=>0≤(i:Int)∧(i:Int) < (l:Int)∧∃C,ak h (Addr.add a (Int.toNat (i:Int)*4)) 4 C∧K C:=by
 obtain ⟨us,w,h1,h2,h3⟩:=hs.at_ hx;exact bP.rdC (h1.aE k) (Q6.1 hx).1 (by rw [h2];exact hk w h3)
theorem StS.vz {h0 h:Hp}{v:Value}{l:List St}(hs:StS h0 v l)(k:KF h0 h){i:Nat}{x:St}(hx:l[i]?=some x){K:List Value→Prop}(hk:∀ve vb vl,ExS h0 ve x.e→StS h0 vb x.body→StS h0 vl x.els→K (stC x ve vb vl)) :
  aO v fun a l _=>0≤(i:Int)∧(i:Int) < (l:Int)∧∃C,ak h (Addr.add a (Int.toNat (i:Int)*9)) 9 C∧K C:=by
 obtain ⟨us,ve,vb,vl,h1,h2,h3,h4,h5⟩:=hs.at_ hx;exact bP.rdC (h1.aE k) (Q6.1 hx).1 (by rw [h2];exact hk _ _ _ h3 h4 h5)
theorem SgS.vz {h0 h:Hp}{v:Value}{l:List Sg}(hs:SgS h0 v l)(k:KF h0 h){i:Nat}{x:Sg}(hx:l[i]?=some x){K:List Value→Prop}(hk:∀vp vb,PsS h0 vp x.ps→StS h0 vb x.body→K (sgC x vp vb)) :
  aO v fun a l _=>0≤(i:Int)∧(i:Int) < (l:Int)∧∃C,ak h (Addr.add a (Int.toNat (i:Int)*4)) 4 C∧K C:=by
 obtain ⟨us,vp,vb,h1,h2,h3,h4⟩:=hs.at_ hx;exact bP.rdC (h1.aE k) (Q6.1 hx).1 (by rw [h2];exact hk _ _ h3 h4)
end Go.Sx.Rn
