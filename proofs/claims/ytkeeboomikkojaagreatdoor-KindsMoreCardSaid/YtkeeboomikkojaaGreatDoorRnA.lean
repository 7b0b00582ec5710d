import Derived.Test.YtkeeboomikkojaaGreatDoorSxMore
import Derived.Test.YtkeeboomikkojaaGreatDoorPaP
import Derived.Test.YtkeeboomikkojaaGreatDoorSxStr
namespace Go.Sx.Tk
def lo (c:UInt8):Bool:=decide (97≤c.toNat)&&decide (c.toNat≤122)
def dg (c:UInt8):Bool:=decide (48≤c.toNat)&&decide (c.toNat≤57)
def ld (c:UInt8):Bool:=lo c||dg c
def run (l:List UInt8):Nat:=(l.takeWhile ld).length
def aQ:Bool→List UInt8→Nat
 |_,[]=>0
 |r,c::l=>if c.toNat=10 then aQ false l+1 else if r=true∨c.toNat=32∨c.toNat=9∨c.toNat=13 then aQ r l+1 else if c.toNat=35 then aQ true l+1 else 0
def words:List (List UInt8) :=
 [[97,98,97,110,100,111,110],[99,104,97,110],[99,108,111,110,101],[99,108,111,115,101],[100,114,97,105,110],[101,108,115,101],[101,109,105,116],[102,111,114],[102,114,111,109],[105,102],[105,110,116],[108,101,116],[114,101,99,118],[114,101,112,101,97,116],[115,101,110,100],[115,101,116],[115,112,97,119,110],[115,116,97,103,101],[116,97,107,101]]
def isWord (l:List UInt8):Bool:=decide (l∈words)
def sV (l:List UInt8):Int:=l.foldl (fun n c=>10*n+((c.toNat:Int) - 48)) 0
def AM (l:List UInt8):Option Int:=if 18 < l.length∨(1 < l.length∧(l.getD 0 0).toNat=48)∨l.all dg=false then none else some (sV l)
inductive One
 |bad (code:Int)
 |tok (kind:Int) (len:Nat) (n:Int)
def pO (c:UInt8):Bool:=decide (c.toNat=40)||(decide (c.toNat=41)||(decide (c.toNat=123)||(decide (c.toNat=125)||(decide (c.toNat=44)||(decide (c.toNat=59)||(decide (c.toNat=43)||(decide (c.toNat=45)||(decide (c.toNat=42)||decide (c.toNat=60)))))))))
def sX (eT eN eM:Int)(l:List UInt8):One :=
 match l with
 |[]=>.bad eT
 |c::r =>
  if lo c=true then (if isWord (l.take (run l))=true then .tok 1 (run l) 0 else if 12 < run l then .bad eM else .tok 2 (run l) 0)
  else if dg c=true then (match AM (l.take (run l)) with|none=>.bad eN|some n=>.tok 3 (run l) n)
  else if c.toNat=61 then (match r with|d::_=>if d.toNat=61 then .tok 4 2 0 else .tok 4 1 0|[]=>.tok 4 1 0)
  else if pO c=true then .tok 4 1 0 else .bad eT
structure Tok where
 kind:Int
 at_:Int
 text:ByteArray
 n:Int
def Tok.f (t:Tok):List Value:=[.int .i64 t.kind,.int .i64 t.at_,.string t.text,.int .i64 t.n]
theorem Tok.len (t:Tok):t.f.length=4:=rfl
theorem Tok.one (t:Tok):∀u∈t.f,one u:=by
 intro u hu;simp only [Tok.f,List.mem_cons,List.not_mem_nil,or_false] at hu;rcases hu with rfl|rfl|rfl|rfl<;>rfl
abbrev Res:=Except (Int×Int) (List Tok)
section
variable  (eT eN eM:Int)
inductive ij:List UInt8→Int→Res→Prop
 |stop {l:List UInt8} {at_:Int}:l.drop (aQ false l)=[]→ij l at_ (.ok [])
 |bad {l r:List UInt8} {at_:Int} {c:UInt8} {e:Int}:l.drop (aQ false l)=c::r→sX eT eN eM (c::r)=.bad e→ij l at_ (.error (e,at_+aQ false l))
 |tok {l r:List UInt8} {at_:Int} {c:UInt8} {kind:Int} {len:Nat} {n:Int} {ts:List Tok}:l.drop (aQ false l)=c::r→sX eT eN eM (c::r)=.tok kind len n →
  ij ((c::r).drop len) (at_+aQ false l+len) (.ok ts)→ij l at_ (.ok (⟨kind,at_+aQ false l,⟨((c::r).take len).toArray⟩,n⟩::ts))
 |fail {l r:List UInt8} {at_:Int} {c:UInt8} {kind:Int} {len:Nat} {n:Int} {x:Int×Int}:l.drop (aQ false l)=c::r→sX eT eN eM (c::r)=.tok kind len n →
  ij ((c::r).drop len) (at_+aQ false l+len) (.error x)→ij l at_ (.error x)
end
variable  {eT eN eM:Int}
theorem ij.same {l:List UInt8}{at_:Int}{a b:Res}(h:ij eT eN eM l at_ a)(k:ij eT eN eM l at_ b):a=b:=by
 induction h generalizing b with
 |stop h1 =>
  cases k with
  |stop _=>rfl
  |bad h2 _=>rw [h1] at h2;cases h2
  |tok h2 _ _=>rw [h1] at h2;cases h2
  |fail h2 _ _=>rw [h1] at h2;cases h2
 |bad h1 e1 =>
  cases k with
  |stop h2=>rw [h1] at h2;cases h2
  |bad h2 e2 =>
   rw [h1] at h2;cases h2;rw [e1] at e2;cases e2;rfl
  |tok h2 e2 _ =>
   rw [h1] at h2;cases h2;rw [e1] at e2;cases e2
  |fail h2 e2 _ =>
   rw [h1] at h2;cases h2;rw [e1] at e2;cases e2
 |tok h1 e1 _ ih =>
  cases k with
  |stop h2=>rw [h1] at h2;cases h2
  |bad h2 e2 =>
   rw [h1] at h2;cases h2;rw [e1] at e2;cases e2
  |tok h2 e2 k2 =>
   rw [h1] at h2;cases h2;rw [e1] at e2;cases e2;cases ih k2;rfl
  |fail h2 e2 k2 =>
   rw [h1] at h2;cases h2;rw [e1] at e2;cases e2;cases ih k2
 |fail h1 e1 _ ih =>
  cases k with
  |stop h2=>rw [h1] at h2;cases h2
  |bad h2 e2 =>
   rw [h1] at h2;cases h2;rw [e1] at e2;cases e2
  |tok h2 e2 k2 =>
   rw [h1] at h2;cases h2;rw [e1] at e2;cases e2;cases ih k2
  |fail h2 e2 k2 =>
   rw [h1] at h2;cases h2;rw [e1] at e2;cases e2;exact ih k2
theorem mW:∀(r:Bool) (l:List UInt8),aQ r l≤l.length
 |_,[]=>Nat.le_refl _
 |r,c::l=>by
  have h1:=mW false l;have h2:=mW r l;have h3:=mW true l;unfold aQ;simp only [List.length_cons]
  split
  ·omega
  ·split
   ·omega
   ·split<;>omega
theorem x5 (l:List UInt8):run l≤l.length:=by
 unfold run;have:=congrArg List.length (List.takeWhile_append_dropWhile (p:=ld) (l:=l));rw [List.length_append] at this;omega
theorem nM {c:UInt8}{l:List UInt8}:run (c::l)=if ld c=true then run l+1 else 0:=by
 unfold run;rw [List.takeWhile_cons]
 split<;>simp
theorem vd {l:List UInt8}{kind:Int}{len:Nat}{n:Int}(h:sX eT eN eM l=.tok kind len n):0 < len∧len≤l.length:=by
 unfold sX at h;have hrl:=x5 l;cases l with
 |nil=>cases h
 |cons c r =>
  simp only at h;have hr:ld c=true→0 < run (c::r):=fun hc=>by rw [nM,if_pos hc];omega
  split at h
  ·rename_i hc;have:=hr (by simp [ld,hc])
   split at h
   ·cases h;exact ⟨this,hrl⟩
   ·split at h
    ·cases h
    ·cases h;exact ⟨this,hrl⟩
  ·split at h
   ·rename_i hc;have:=hr (by simp [ld,hc])
    split at h
    ·cases h
    ·cases h;exact ⟨this,hrl⟩
   ·split at h
    ·split at h
     ·split at h<;>cases h<;>simp
     ·cases h;simp
    ·split at h
     ·cases h;simp
     ·cases h
def GF (acc:List Tok):Res→Res
 |.ok ts=>.ok (acc++ts)
 |.error x=>.error x
theorem EO (r:Res):GF [] r=r:=by cases r<;>rfl
theorem E9 (a b:List Tok)(r:Res):GF a (GF b r)=GF (a++b) r:=by cases r<;>simp [GF]
theorem ij.skip {l l':List UInt8}{at_:Int}{k:Nat}{res:Res}(hk:aQ false l=k+aQ false l')(hd:∀j,l.drop (k+j)=l'.drop j)(h:ij eT eN eM l' (at_+k) res):ij eT eN eM l at_ res:=by
 have hd':l.drop (aQ false l)=l'.drop (aQ false l'):=by rw [hk,hd]
 have he:at_+(aQ false l:Nat)=at_+k+(aQ false l':Nat):=by rw [hk];push_cast;omega
 cases h with
 |stop h1=>exact .stop (by rw [hd'];exact h1)
 |bad h1 e1=>rw [←he];exact .bad (by rw [hd'];exact h1) e1
 |tok h1 e1 k1 =>
  rw [←he] at k1 ⊢;exact .tok (by rw [hd'];exact h1) e1 k1
 |fail h1 e1 k1 =>
  rw [←he] at k1;exact .fail (by rw [hd'];exact h1) e1 k1
end Go.Sx.Tk
namespace Go.Sx.Tk
variable  {eT eN eM:Int}
def oT (d:Int)(t:Tok):Tok:={ t with at_:=t.at_+d }
end Go.Sx.Tk
namespace Go.Sx.Rn
inductive Ex where
 |mk (op:Int) (nm:ByteArray) (n:Int) (l:List Ex):Ex
inductive St where
 |mk (d at_:Int) (a b t:ByteArray) (n:Int) (e:List Ex) (body els:List St):St
structure Sg where
 nm:ByteArray
 at_:Int
 ps:List (ByteArray×ByteArray)
 body:List St
def Ex.op:Ex→Int|.mk o _ _ _=>o
def Ex.nm:Ex→ByteArray|.mk _ s _ _=>s
def Ex.n:Ex→Int|.mk _ _ n _=>n
def Ex.l:Ex→List Ex|.mk _ _ _ l=>l
def St.d:St→Int|.mk d _ _ _ _ _ _ _ _=>d
def St.at_:St→Int|.mk _ x _ _ _ _ _ _ _=>x
def St.a:St→ByteArray|.mk _ _ x _ _ _ _ _ _=>x
def St.b:St→ByteArray|.mk _ _ _ x _ _ _ _ _=>x
def St.t:St→ByteArray|.mk _ _ _ _ x _ _ _ _=>x
def St.n:St→Int|.mk _ _ _ _ _ x _ _ _=>x
def St.e:St→List Ex|.mk _ _ _ _ _ _ x _ _=>x
def St.body:St→List St|.mk _ _ _ _ _ _ _ x _=>x
def St.els:St→List St|.mk _ _ _ _ _ _ _ _ x=>x
def SlB (h:Hp)(sz:Nat)(v:Value)(n:Nat)(us:List Value):Prop:=bh h sz v n us∧n≤9223372036854775807
theorem SlB.az {h h':Hp}{sz n:Nat}{v:Value}{us:List Value}(hs:SlB h sz v n us)(k:KF h h'):SlB h' sz v n us:=⟨hs.1.az k,hs.2⟩
mutual
def Bm (h:Hp):Ex→List Value→Prop
 |.mk op nm n l,cs=>∃v us,cs=[.int .i64 op,.string nm,.int .i64 n,v]∧SlB h 4 v l.length us∧kl h l us
def kl (h:Hp):List Ex→List Value→Prop
 |[],us=>us=[]
 |x::r,us=>Bm h x (us.take 4)∧kl h r (us.drop 4)
end
def ExS (h:Hp)(v:Value)(l:List Ex):Prop:=∃us,SlB h 4 v l.length us∧kl h l us
mutual
def Bu (h:Hp):St→List Value→Prop
 |.mk d at_ a b t n e body els,cs=>∃ve vb vl us ws,cs=[.int .i64 d,.int .i64 at_,.string a,.string b,.string t,.int .i64 n,ve,vb,vl]∧ExS h ve e∧SlB h 9 vb body.length us∧jw h body us∧SlB h 9 vl els.length ws∧jw h els ws
def jw (h:Hp):List St→List Value→Prop
 |[],us=>us=[]
 |x::r,us=>Bu h x (us.take 9)∧jw h r (us.drop 9)
end
def StS (h:Hp)(v:Value)(l:List St):Prop:=∃us,SlB h 9 v l.length us∧jw h l us
def pf (p:ByteArray×ByteArray):List Value:=[.string p.1,.string p.2]
theorem iF (p:ByteArray×ByteArray):(pf p).length=2:=rfl
theorem zJ (p:ByteArray×ByteArray):∀u∈pf p,one u:=by
 intro u hu;simp only [pf,List.mem_cons,List.not_mem_nil,or_false] at hu;rcases hu with rfl|rfl<;>rfl
def AR (v:Value):Prop:=v=.slice none 0 0∨∃a l c,v=.slice (some a) l c
def PsS (h:Hp)(v:Value)(l:List (ByteArray×ByteArray)):Prop:=bh h 2 v l.length (l.flatMap pf)∧AR v
theorem PsS.az {h h':Hp}{v:Value}{l:List (ByteArray×ByteArray)}(hs:PsS h v l)(k:KF h h'):PsS h' v l:=⟨hs.1.az k,hs.2⟩
def bp (v:Value):Prop:=∃a l c,v=.slice a l c
theorem bh.bp {h:Hp}{sz n:Nat}{v:Value}{us:List Value}(hs:bh h sz v n us):bp v:=by
 rcases hs.2 with ⟨_,a,c,rfl⟩|⟨b,o,c,rfl,_⟩
 ·exact ⟨_,_,_,rfl⟩
 ·exact ⟨_,_,_,rfl⟩
theorem bp.one {v:Value}(h:bp v):one v:=by obtain ⟨a,l,c,rfl⟩:=h;rfl
def Jf (h:Hp)(s:Sg)(cs:List Value):Prop:=∃vp vb,cs=[.string s.nm,.int .i64 s.at_,vp,vb]∧PsS h vp s.ps∧StS h vb s.body
def cd (h:Hp):List Sg→List Value→Prop
 |[],us=>us=[]
 |x::r,us=>Jf h x (us.take 4)∧cd h r (us.drop 4)
def SgS (h:Hp)(v:Value)(l:List Sg):Prop:=∃us,SlB h 4 v l.length us∧cd h l us
theorem Ak {h:Hp}{x:Ex}{cs:List Value}:Bm h x cs↔∃v,cs=[.int .i64 x.op,.string x.nm,.int .i64 x.n,v]∧ExS h v x.l:=by
 cases x;simp only [Bm,ExS,Ex.op,Ex.nm,Ex.n,Ex.l]
 constructor
 ·rintro ⟨v,us,h1,h2,h3⟩;exact ⟨v,h1,us,h2,h3⟩
 ·rintro ⟨v,h1,us,h2,h3⟩;exact ⟨v,us,h1,h2,h3⟩
theorem Am {h:Hp}{x:St}{cs:List Value}:Bu h x cs↔∃ve vb vl,cs=[.int .i64 x.d,.int .i64 x.at_,.string x.a,.string x.b,.string x.t,.int .i64 x.n,ve,vb,vl]∧ExS h ve x.e∧StS h vb x.body∧StS h vl x.els:=by
 cases x;simp only [Bu,StS,St.d,St.at_,St.a,St.b,St.t,St.n,St.e,St.body,St.els]
 constructor
 ·rintro ⟨ve,vb,vl,us,ws,h1,h2,h3,h4,h5,h6⟩;exact ⟨ve,vb,vl,h1,h2,⟨us,h3,h4⟩,ws,h5,h6⟩
 ·rintro ⟨ve,vb,vl,h1,h2,⟨us,h3,h4⟩,ws,h5,h6⟩;exact ⟨ve,vb,vl,us,ws,h1,h2,h3,h4,h5,h6⟩
theorem wY {h:Hp}:∀{l:List Ex} {us:List Value},kl h l us→∀{i:Nat} {x:Ex},l[i]?=some x→Bm h x ((us.drop (i*4)).take 4)
 |[],_,_,_,_,hx=>by simp at hx
 |y::r,us,hs,0,x,hx=>by
  simp at hx;subst hx;unfold kl at hs;simpa using hs.1
 |y::r,us,hs,i+1,x,hx=>by
  unfold kl at hs;have:=wY hs.2 (i:=i) (x:=x) (by simpa using hx)
  rw [List.drop_drop] at this;rw [show (i+1)*4=4+i*4 by omega]
  exact this
theorem xY {h:Hp}:∀{l:List St} {us:List Value},jw h l us→∀{i:Nat} {x:St},l[i]?=some x→Bu h x ((us.drop (i*9)).take 9)
 |[],_,_,_,_,hx=>by simp at hx
 |y::r,us,hs,0,x,hx=>by
  simp at hx;subst hx;unfold jw at hs;simpa using hs.1
 |y::r,us,hs,i+1,x,hx=>by
  unfold jw at hs;have:=xY hs.2 (i:=i) (x:=x) (by simpa using hx)
  rw [List.drop_drop] at this;rw [show (i+1)*9=9+i*9 by omega]
  exact this
theorem wW {h:Hp}:∀{l:List Sg} {us:List Value},cd h l us→∀{i:Nat} {x:Sg},l[i]?=some x→Jf h x ((us.drop (i*4)).take 4)
 |[],_,_,_,_,hx=>by simp at hx
 |y::r,us,hs,0,x,hx=>by
  simp at hx;subst hx;unfold cd at hs;simpa using hs.1
 |y::r,us,hs,i+1,x,hx=>by
  unfold cd at hs;have:=wW hs.2 (i:=i) (x:=x) (by simpa using hx)
  rw [List.drop_drop] at this;rw [show (i+1)*4=4+i*4 by omega]
  exact this
mutual
theorem CD {h h':Hp}(k:KF h h'):∀(x:Ex) {cs:List Value},Bm h x cs→Bm h' x cs
 |.mk op nm n l,cs,hx=>by
  unfold Bm at hx ⊢;obtain ⟨v,us,h1,h2,h3⟩:=hx;exact ⟨v,us,h1,h2.az k,qD k l h3⟩
theorem qD {h h':Hp}(k:KF h h'):∀(l:List Ex) {us:List Value},kl h l us→kl h' l us
 |[],us,hs=>by
  unfold kl at hs ⊢;exact hs
 |x::r,us,hs=>by
  unfold kl at hs ⊢;exact ⟨CD k x hs.1,qD k r hs.2⟩
end
theorem ExS.az {h h':Hp}{v:Value}{l:List Ex}(hs:ExS h v l)(k:KF h h'):ExS h' v l:=by
 obtain ⟨us,h1,h2⟩:=hs;exact ⟨us,h1.az k,qD k l h2⟩
mutual
theorem Dy {h h':Hp}(k:KF h h'):∀(x:St) {cs:List Value},Bu h x cs→Bu h' x cs
 |.mk d at_ a b t n e body els,cs,hx=>by
  unfold Bu at hx ⊢;obtain ⟨ve,vb,vl,us,ws,h1,h2,h3,h4,h5,h6⟩:=hx;exact ⟨ve,vb,vl,us,ws,h1,h2.az k,h3.az k,oc k body h4,h5.az k,oc k els h6⟩
theorem oc {h h':Hp}(k:KF h h'):∀(l:List St) {us:List Value},jw h l us→jw h' l us
 |[],us,hs=>by
  unfold jw at hs ⊢;exact hs
 |x::r,us,hs=>by
  unfold jw at hs ⊢;exact ⟨Dy k x hs.1,oc k r hs.2⟩
end
theorem StS.az {h h':Hp}{v:Value}{l:List St}(hs:StS h v l)(k:KF h h'):StS h' v l:=by
 obtain ⟨us,h1,h2⟩:=hs;exact ⟨us,h1.az k,oc k l h2⟩
theorem ug {h h':Hp}(k:KF h h'):∀(l:List Sg) {us:List Value},cd h l us→cd h' l us
 |[],us,hs=>by
  unfold cd at hs ⊢;exact hs
 |x::r,us,hs=>by
  unfold cd at hs ⊢;obtain ⟨⟨vp,vb,h1,h2,h3⟩,h4⟩:=hs;exact ⟨⟨vp,vb,h1,h2.az k,h3.az k⟩,ug k r h4⟩
theorem SgS.az {h h':Hp}{v:Value}{l:List Sg}(hs:SgS h v l)(k:KF h h'):SgS h' v l:=by
 obtain ⟨us,h1,h2⟩:=hs;exact ⟨us,h1.az k,ug k l h2⟩
theorem bh.rdC {h:Hp}{sz n:Nat}{v:Value}{us:List Value}(hs:bh h sz v n us){i:Nat}(hi:i < n){K:List Value→Prop}(hk:K ((us.drop (i*sz)).take sz)) :
  aI v fun a l _=>0≤(i:Int)∧(i:Int) < (l:Int)∧∃C,aj h (Addr.add a (Int.toNat (i:Int)*sz)) sz C∧K C:=by
 have hmul:(i+1)*sz≤n*sz:=Nat.mul_le_mul_right sz (by omega)
 rw [Nat.add_mul,Nat.one_mul] at hmul;have h1:=hs.1;rcases hs.2 with ⟨h0,_⟩|⟨b,o,cap,rfl,hc⟩
 ·omega
 ·rw [asSl1_sl];refine ⟨by omega,by omega,_,⟨by rw [List.length_take,List.length_drop];omega,fun j u hu=>?_⟩,hk⟩
  rw [aH,aH,Int.toNat_natCast,Nat.add_assoc];rw [List.getElem?_take] at hu
  split at hu
  ·rw [List.getElem?_drop] at hu;exact hc _ u hu
  ·cases hu
theorem bh.rdO {h:Hp}{sz n:Nat}{v:Value}{us:List Value}(hs:bh h sz v n us){i o:Nat}(hi:i < n){u:Value}(hu:((us.drop (i*sz)).take sz)[o]?=some u){K:Value→Prop}(hk:K u) :
  aI v fun a l _=>0≤(i:Int)∧(i:Int) < (l:Int)∧∃w,ah h (Addr.add (Addr.add a (Int.toNat (i:Int)*sz)) o)=some w∧K w:=by
 refine bh.rdF hs hi (off:=o) (u:=u) ?_ hk;rw [List.getElem?_take] at hu
 split at hu
 ·rw [List.getElem?_drop] at hu;exact hu
 ·cases hu
theorem ExS.sl {h:Hp}{v:Value}{l:List Ex}(hs:ExS h v l){F:Option Addr→Nat→Nat→Prop}(hf:∀a c,F a l.length c):bz v F:=by
 obtain ⟨us,h1,_⟩:=hs;exact h1.1.sl hf
theorem StS.sl {h:Hp}{v:Value}{l:List St}(hs:StS h v l){F:Option Addr→Nat→Nat→Prop}(hf:∀a c,F a l.length c):bz v F:=by
 obtain ⟨us,h1,_⟩:=hs;exact h1.1.sl hf
theorem SgS.sl {h:Hp}{v:Value}{l:List Sg}(hs:SgS h v l){F:Option Addr→Nat→Nat→Prop}(hf:∀a c,F a l.length c):bz v F:=by
 obtain ⟨us,h1,_⟩:=hs;exact h1.1.sl hf
theorem ExS.max {h:Hp}{v:Value}{l:List Ex}(hs:ExS h v l):l.length≤9223372036854775807:=by
 obtain ⟨us,h1,_⟩:=hs;exact h1.2
theorem StS.max {h:Hp}{v:Value}{l:List St}(hs:StS h v l):l.length≤9223372036854775807:=by
 obtain ⟨us,h1,_⟩:=hs;exact h1.2
theorem ExS.bp {h:Hp}{v:Value}{l:List Ex}(hs:ExS h v l):bp v:=by
 obtain ⟨us,h1,_⟩:=hs;exact bh.bp h1.1
theorem StS.bp {h:Hp}{v:Value}{l:List St}(hs:StS h v l):bp v:=by
 obtain ⟨us,h1,_⟩:=hs;exact bh.bp h1.1
def exC (x:Ex)(v:Value):List Value:=[.int .i64 x.op,.string x.nm,.int .i64 x.n,v]
def stC (x:St)(ve vb vl:Value):List Value:=[.int .i64 x.d,.int .i64 x.at_,.string x.a,.string x.b,.string x.t,.int .i64 x.n,ve,vb,vl]
def sgC (s:Sg)(vp vb:Value):List Value:=[.string s.nm,.int .i64 s.at_,vp,vb]
theorem cP {x:Ex}{v:Value}(h:bp v):∀u∈exC x v,one u:=by
 intro u hu;simp only [exC,List.mem_cons,List.not_mem_nil,or_false] at hu;rcases hu with rfl|rfl|rfl|rfl
 ·rfl
 ·rfl
 ·rfl
 ·exact h.one
theorem oY {x:St}{ve vb vl:Value}(h1:bp ve)(h2:bp vb)(h3:bp vl):∀u∈stC x ve vb vl,one u:=by
 intro u hu;simp only [stC,List.mem_cons,List.not_mem_nil,or_false] at hu;rcases hu with rfl|rfl|rfl|rfl|rfl|rfl|rfl|rfl|rfl
 ·rfl
 ·rfl
 ·rfl
 ·rfl
 ·rfl
 ·rfl
 ·exact h1.one
 ·exact h2.one
 ·exact h3.one
theorem jc {s:Sg}{vp vb:Value}(h1:bp vp)(h2:bp vb):∀u∈sgC s vp vb,one u:=by
 intro u hu;simp only [sgC,List.mem_cons,List.not_mem_nil,or_false] at hu;rcases hu with rfl|rfl|rfl|rfl
 ·rfl
 ·rfl
 ·exact h1.one
 ·exact h2.one
theorem ExS.at_ {h:Hp}{v:Value}{l:List Ex}(hs:ExS h v l){i:Nat}{x:Ex}(hx:l[i]?=some x):∃us w,bh h 4 v l.length us∧(us.drop (i*4)).take 4=exC x w∧ExS h w x.l:=by
 obtain ⟨us,h1,h2⟩:=hs;obtain ⟨w,h3,h4⟩:=Ak.1 (wY h2 hx);exact ⟨us,w,h1.1,h3,h4⟩
theorem StS.at_ {h:Hp}{v:Value}{l:List St}(hs:StS h v l){i:Nat}{x:St}(hx:l[i]?=some x):∃us ve vb vl,bh h 9 v l.length us∧(us.drop (i*9)).take 9=stC x ve vb vl∧ExS h ve x.e∧StS h vb x.body∧StS h vl x.els:=by
 obtain ⟨us,h1,h2⟩:=hs;obtain ⟨ve,vb,vl,h3,h4,h5,h6⟩:=Am.1 (xY h2 hx);exact ⟨us,ve,vb,vl,h1.1,h3,h4,h5,h6⟩
theorem SgS.at_ {h:Hp}{v:Value}{l:List Sg}(hs:SgS h v l){i:Nat}{x:Sg}(hx:l[i]?=some x):∃us vp vb,bh h 4 v l.length us∧(us.drop (i*4)).take 4=sgC x vp vb∧PsS h vp x.ps∧StS h vb x.body:=by
 obtain ⟨us,h1,h2⟩:=hs;obtain ⟨vp,vb,h3,h4,h5⟩:=wW h2 hx;exact ⟨us,vp,vb,h1.1,h3,h4,h5⟩
theorem ExS.rdC {h:Hp}{v:Value}{l:List Ex}(hs:ExS h v l){i:Nat}{x:Ex}(hx:l[i]?=some x){K:List Value→Prop}(hk:∀w,ExS h w x.l→K (exC x w)) :
  aI v fun a l _=>0≤(i:Int)∧(i:Int) < (l:Int)∧∃C,aj h (Addr.add a (Int.toNat (i:Int)*4)) 4 C∧K C:=by
 obtain ⟨us,w,h1,h2,h3⟩:=hs.at_ hx;exact bh.rdC h1 (List.getElem?_eq_some_iff.1 hx).1 (by rw [h2];exact hk w h3)
theorem ExS.rdO {h:Hp}{v:Value}{l:List Ex}(hs:ExS h v l){i:Nat}{x:Ex}(hx:l[i]?=some x){o:Nat}{K:Value→Prop}(hk:∀w,ExS h w x.l→∃u,(exC x w)[o]?=some u∧K u) :
  aI v fun a l _=>0≤(i:Int)∧(i:Int) < (l:Int)∧∃w,ah h (Addr.add (Addr.add a (Int.toNat (i:Int)*4)) o)=some w∧K w:=by
 obtain ⟨us,w,h1,h2,h3⟩:=hs.at_ hx;obtain ⟨u,h4,h5⟩:=hk w h3;exact bh.rdO h1 (List.getElem?_eq_some_iff.1 hx).1 (by rw [h2];exact h4) h5
theorem StS.rdC {h:Hp}{v:Value}{l:List St}(hs:StS h v l){i:Nat}{x:St}(hx:l[i]?=some x){K:List Value→Prop}(hk:∀ve vb vl,ExS h ve x.e→StS h vb x.body→StS h vl x.els→K (stC x ve vb vl)) :
  aI v fun a l _=>0≤(i:Int)∧(i:Int) < (l:Int)∧∃C,aj h (Addr.add a (Int.toNat (i:Int)*9)) 9 C∧K C:=by
 obtain ⟨us,ve,vb,vl,h1,h2,h3,h4,h5⟩:=hs.at_ hx;exact bh.rdC h1 (List.getElem?_eq_some_iff.1 hx).1 (by rw [h2];exact hk _ _ _ h3 h4 h5)
theorem StS.rdO {h:Hp}{v:Value}{l:List St}(hs:StS h v l){i:Nat}{x:St}(hx:l[i]?=some x){o:Nat}{K:Value→Prop}(hk:∀ve vb vl,ExS h ve x.e→StS h vb x.body→StS h vl x.els→∃u,(stC x ve vb vl)[o]?=some u∧K u) :
  aI v fun a l _=>0≤(i:Int)∧(i:Int) < (l:Int)∧∃w,ah h (Addr.add (Addr.add a (Int.toNat (i:Int)*9)) o)=some w∧K w:=by
 obtain ⟨us,ve,vb,vl,h1,h2,h3,h4,h5⟩:=hs.at_ hx;obtain ⟨u,h6,h7⟩:=hk _ _ _ h3 h4 h5;exact bh.rdO h1 (List.getElem?_eq_some_iff.1 hx).1 (by rw [h2];exact h6) h7
theorem SgS.rdC {h:Hp}{v:Value}{l:List Sg}(hs:SgS h v l){i:Nat}{x:Sg}(hx:l[i]?=some x){K:List Value→Prop}(hk:∀vp vb,PsS h vp x.ps→StS h vb x.body→K (sgC x vp vb)) :
  aI v fun a l _=>0≤(i:Int)∧(i:Int) < (l:Int)∧∃C,aj h (Addr.add a (Int.toNat (i:Int)*4)) 4 C∧K C:=by
 obtain ⟨us,vp,vb,h1,h2,h3,h4⟩:=hs.at_ hx;exact bh.rdC h1 (List.getElem?_eq_some_iff.1 hx).1 (by rw [h2];exact hk _ _ h3 h4)
mutual
def exN:Ex→Nat
 |.mk _ _ _ l=>1+bV l
def bV:List Ex→Nat
 |[]=>0
 |x::r=>exN x+bV r
end
mutual
def stN:St→Nat
 |.mk _ _ _ _ _ _ e body els=>1+bV e+br body+br els
def br:List St→Nat
 |[]=>0
 |x::r=>stN x+br r
end
theorem fZ (x:Ex):exN x=1+bV x.l:=by cases x;rfl
theorem iG (x:St):stN x=1+bV x.e+br x.body+br x.els:=by cases x;rfl
theorem bY:∀{l:List Ex} {x:Ex},x∈l→exN x≤bV l
 |y::r,x,hx=>by
  unfold bV;rcases List.mem_cons.1 hx with rfl|hx
  ·omega
  ·have:=bY hx;omega
theorem iK:∀{l:List St} {x:St},x∈l→stN x≤br l
 |y::r,x,hx=>by
  unfold br;rcases List.mem_cons.1 hx with rfl|hx
  ·omega
  ·have:=iK hx;omega
theorem fh:∀(l:List Ex),l.length≤bV l
 |[]=>Nat.zero_le _
 |x::r=>by
  unfold bV;have:=fh r;have:=fZ x;simp only [List.length_cons];omega
theorem om:∀(l:List St),l.length≤br l
 |[]=>Nat.zero_le _
 |x::r=>by
  unfold br;have:=om r;have:=iG x;simp only [List.length_cons];omega
end Go.Sx.Rn
namespace Go.Sx.Rn
def SlN (h:Hp)(N:Nat→Prop)(sz:Nat)(v:Value)(n:Nat)(us:List Value):Prop:=SlB h sz v n us∧∀b,v.ownBlock=some b→N b
theorem SlN.az {h h':Hp}{N S:Nat→Prop}{sz n:Nat}{v:Value}{us:List Value}(hs:SlN h N sz v n us)(k:ar S h h')(hn:∀b,N b→¬S b):SlN h' N sz v n us:=by
 refine ⟨⟨⟨hs.1.1.1,?_⟩,hs.1.2⟩,hs.2⟩;rcases hs.1.1.2 with h0|⟨b,o,c,rfl,hc⟩
 ·exact .inl h0
 ·exact .inr ⟨b,o,c,rfl,fun j u hu=>k.cell (hc j u hu) (hn b (hs.2 b rfl))⟩
theorem SlN.mono {h:Hp}{N N':Nat→Prop}{sz n:Nat}{v:Value}{us:List Value}(hs:SlN h N sz v n us)(hn:∀b,N b→N' b):SlN h N' sz v n us:=⟨hs.1,fun b hb=>hn b (hs.2 b hb)⟩
theorem SlN.own {h:Hp}{base:Nat}{e:TypeId}{sz n:Nat}{v:Value}{us:List Value}(ho:bW h base e sz v n us)(hn:n≤9223372036854775807):SlN h (fun b=>base≤b∧b < h.size) sz v n us :=
 ⟨⟨ho.yc,hn⟩,ho.lt⟩
mutual
def sA (h:Hp)(N:Nat→Prop):Ex→List Value→Prop
 |.mk op nm n l,cs=>∃v us,cs=[.int .i64 op,.string nm,.int .i64 n,v]∧SlN h N 4 v l.length us∧bC h N l us
def bC (h:Hp)(N:Nat→Prop):List Ex→List Value→Prop
 |[],us=>us=[]
 |x::r,us=>sA h N x (us.take 4)∧bC h N r (us.drop 4)
end
def eR (h:Hp)(N:Nat→Prop)(v:Value)(l:List Ex):Prop:=∃us,SlN h N 4 v l.length us∧bC h N l us
mutual
def sa (h:Hp)(N:Nat→Prop):St→List Value→Prop
 |.mk d at_ a b t n e body els,cs=>∃ve vb vl us ws,cs=[.int .i64 d,.int .i64 at_,.string a,.string b,.string t,.int .i64 n,ve,vb,vl]∧eR h N ve e∧SlN h N 9 vb body.length us∧bS h N body us∧SlN h N 9 vl els.length ws∧bS h N els ws
def bS (h:Hp)(N:Nat→Prop):List St→List Value→Prop
 |[],us=>us=[]
 |x::r,us=>sa h N x (us.take 9)∧bS h N r (us.drop 9)
end
def oF (h:Hp)(N:Nat→Prop)(v:Value)(l:List St):Prop:=∃us,SlN h N 9 v l.length us∧bS h N l us
theorem jB {h:Hp}{N:Nat→Prop}{x:Ex}{cs:List Value}:sA h N x cs↔∃v,cs=exC x v∧eR h N v x.l:=by
 cases x;simp only [sA,eR,exC,Ex.op,Ex.nm,Ex.n,Ex.l]
 constructor
 ·rintro ⟨v,us,h1,h2,h3⟩;exact ⟨v,h1,us,h2,h3⟩
 ·rintro ⟨v,h1,us,h2,h3⟩;exact ⟨v,us,h1,h2,h3⟩
theorem wT {h:Hp}{N:Nat→Prop}{x:St}{cs:List Value}:sa h N x cs↔∃ve vb vl,cs=stC x ve vb vl∧eR h N ve x.e∧oF h N vb x.body∧oF h N vl x.els:=by
 cases x;simp only [sa,oF,stC,St.d,St.at_,St.a,St.b,St.t,St.n,St.e,St.body,St.els]
 constructor
 ·rintro ⟨ve,vb,vl,us,ws,h1,h2,h3,h4,h5,h6⟩;exact ⟨ve,vb,vl,h1,h2,⟨us,h3,h4⟩,ws,h5,h6⟩
 ·rintro ⟨ve,vb,vl,h1,h2,⟨us,h3,h4⟩,ws,h5,h6⟩;exact ⟨ve,vb,vl,us,ws,h1,h2,h3,h4,h5,h6⟩
mutual
theorem Dv {h h':Hp}{N N':Nat→Prop}(f:∀sz v n us,SlN h N sz v n us→SlN h' N' sz v n us):∀(x:Ex) {cs:List Value},sA h N x cs→sA h' N' x cs
 |.mk op nm n l,cs,hx=>by
  unfold sA at hx ⊢;obtain ⟨v,us,h1,h2,h3⟩:=hx;exact ⟨v,us,h1,f _ _ _ _ h2,eY f l h3⟩
theorem eY {h h':Hp}{N N':Nat→Prop}(f:∀sz v n us,SlN h N sz v n us→SlN h' N' sz v n us):∀(l:List Ex) {us:List Value},bC h N l us→bC h' N' l us
 |[],us,hs=>by
  unfold bC at hs ⊢;exact hs
 |x::r,us,hs=>by
  unfold bC at hs ⊢;exact ⟨Dv f x hs.1,eY f r hs.2⟩
end
theorem eR.map {h h':Hp}{N N':Nat→Prop}(f:∀sz v n us,SlN h N sz v n us→SlN h' N' sz v n us){v:Value}{l:List Ex}(hs:eR h N v l):eR h' N' v l:=by
 obtain ⟨us,h1,h2⟩:=hs;exact ⟨us,f _ _ _ _ h1,eY f l h2⟩
mutual
theorem Ct {h h':Hp}{N N':Nat→Prop}(f:∀sz v n us,SlN h N sz v n us→SlN h' N' sz v n us):∀(x:St) {cs:List Value},sa h N x cs→sa h' N' x cs
 |.mk d at_ a b t n e body els,cs,hx=>by
  unfold sa at hx ⊢;obtain ⟨ve,vb,vl,us,ws,h1,h2,h3,h4,h5,h6⟩:=hx;exact ⟨ve,vb,vl,us,ws,h1,h2.map f,f _ _ _ _ h3,dn f body h4,f _ _ _ _ h5,dn f els h6⟩
theorem dn {h h':Hp}{N N':Nat→Prop}(f:∀sz v n us,SlN h N sz v n us→SlN h' N' sz v n us):∀(l:List St) {us:List Value},bS h N l us→bS h' N' l us
 |[],us,hs=>by
  unfold bS at hs ⊢;exact hs
 |x::r,us,hs=>by
  unfold bS at hs ⊢;exact ⟨Ct f x hs.1,dn f r hs.2⟩
end
theorem oF.map {h h':Hp}{N N':Nat→Prop}(f:∀sz v n us,SlN h N sz v n us→SlN h' N' sz v n us){v:Value}{l:List St}(hs:oF h N v l):oF h' N' v l:=by
 obtain ⟨us,h1,h2⟩:=hs;exact ⟨us,f _ _ _ _ h1,dn f l h2⟩
mutual
theorem sA.at {h:Hp}{N:Nat→Prop}:∀(x:Ex) {cs:List Value},sA h N x cs→Bm h x cs
 |.mk op nm n l,cs,hx=>by
  unfold sA at hx;unfold Bm;obtain ⟨v,us,h1,h2,h3⟩:=hx;exact ⟨v,us,h1,h2.1,bC.at l h3⟩
theorem bC.at {h:Hp}{N:Nat→Prop}:∀(l:List Ex) {us:List Value},bC h N l us→kl h l us
 |[],us,hs=>by
  unfold bC at hs;unfold kl;exact hs
 |x::r,us,hs=>by
  unfold bC at hs;unfold kl;exact ⟨sA.at x hs.1,bC.at r hs.2⟩
end
theorem eR.at {h:Hp}{N:Nat→Prop}{v:Value}{l:List Ex}(hs:eR h N v l):ExS h v l:=by
 obtain ⟨us,h1,h2⟩:=hs;exact ⟨us,h1.1,bC.at l h2⟩
mutual
theorem sa.at {h:Hp}{N:Nat→Prop}:∀(x:St) {cs:List Value},sa h N x cs→Bu h x cs
 |.mk d at_ a b t n e body els,cs,hx=>by
  unfold sa at hx;unfold Bu;obtain ⟨ve,vb,vl,us,ws,h1,h2,h3,h4,h5,h6⟩:=hx;exact ⟨ve,vb,vl,us,ws,h1,h2.at,h3.1,bS.at body h4,h5.1,bS.at els h6⟩
theorem bS.at {h:Hp}{N:Nat→Prop}:∀(l:List St) {us:List Value},bS h N l us→jw h l us
 |[],us,hs=>by
  unfold bS at hs;unfold jw;exact hs
 |x::r,us,hs=>by
  unfold bS at hs;unfold jw;exact ⟨sa.at x hs.1,bS.at r hs.2⟩
end
theorem oF.at {h:Hp}{N:Nat→Prop}{v:Value}{l:List St}(hs:oF h N v l):StS h v l:=by
 obtain ⟨us,h1,h2⟩:=hs;exact ⟨us,h1.1,bS.at l h2⟩
theorem pn {h:Hp}{N:Nat→Prop}:∀{l:List Ex} {us:List Value} {x:Ex} {cs:List Value},bC h N l us→us.length=l.length*4→sA h N x cs→cs.length=4→bC h N (l++[x]) (us++cs)
 |[],us,x,cs,hl,hn,hx,hc=>by
  unfold bC at hl;subst hl;rw [List.nil_append,List.nil_append];unfold bC;rw [List.take_of_length_le (by omega),List.drop_of_length_le (by omega)]
  refine ⟨hx,?_⟩;unfold bC;rfl
 |y::r,us,x,cs,hl,hn,hx,hc=>by
  unfold bC at hl;rw [List.cons_append];unfold bC;simp only [List.length_cons] at hn;rw [List.take_append_of_le_length (by omega),List.drop_append_of_le_length (by omega)]
  exact ⟨hl.1,pn hl.2 (by rw [List.length_drop];omega) hx hc⟩
theorem pt {h:Hp}{N:Nat→Prop}:∀{l:List St} {us:List Value} {x:St} {cs:List Value},bS h N l us→us.length=l.length*9→sa h N x cs→cs.length=9→bS h N (l++[x]) (us++cs)
 |[],us,x,cs,hl,hn,hx,hc=>by
  unfold bS at hl;subst hl;rw [List.nil_append,List.nil_append];unfold bS;rw [List.take_of_length_le (by omega),List.drop_of_length_le (by omega)]
  refine ⟨hx,?_⟩;unfold bS;rfl
 |y::r,us,x,cs,hl,hn,hx,hc=>by
  unfold bS at hl;rw [List.cons_append];unfold bS;simp only [List.length_cons] at hn;rw [List.take_append_of_le_length (by omega),List.drop_append_of_le_length (by omega)]
  exact ⟨hl.1,pt hl.2 (by rw [List.length_drop];omega) hx hc⟩
def Iz (h:Hp)(N:Nat→Prop)(s:Sg)(cs:List Value):Prop:=∃vp vb,cs=sgC s vp vb∧SlN h N 2 vp s.ps.length (s.ps.flatMap pf)∧AR vp∧oF h N vb s.body
def b8 (h:Hp)(N:Nat→Prop):List Sg→List Value→Prop
 |[],us=>us=[]
 |x::r,us=>Iz h N x (us.take 4)∧b8 h N r (us.drop 4)
theorem dt {h h':Hp}{N N':Nat→Prop}(f:∀sz v n us,SlN h N sz v n us→SlN h' N' sz v n us):∀(l:List Sg) {us:List Value},b8 h N l us→b8 h' N' l us
 |[],us,hs=>by
  unfold b8 at hs ⊢;exact hs
 |x::r,us,hs=>by
  unfold b8 at hs ⊢;obtain ⟨⟨vp,vb,h1,h2,hn,h3⟩,h4⟩:=hs;exact ⟨⟨vp,vb,h1,f _ _ _ _ h2,hn,h3.map f⟩,dt f r h4⟩
theorem b8.at {h:Hp}{N:Nat→Prop}:∀(l:List Sg) {us:List Value},b8 h N l us→cd h l us
 |[],us,hs=>by
  unfold b8 at hs;unfold cd;exact hs
 |x::r,us,hs=>by
  unfold b8 at hs;unfold cd;obtain ⟨⟨vp,vb,h1,h2,hn,h3⟩,h4⟩:=hs;exact ⟨⟨vp,vb,h1,⟨h2.1.1,hn⟩,h3.at⟩,b8.at r h4⟩
theorem oZ {h:Hp}{N:Nat→Prop}:∀{l:List Sg} {us:List Value} {x:Sg} {cs:List Value},b8 h N l us→us.length=l.length*4→Iz h N x cs→cs.length=4→b8 h N (l++[x]) (us++cs)
 |[],us,x,cs,hl,hn,hx,hc=>by
  unfold b8 at hl;subst hl;rw [List.nil_append,List.nil_append];unfold b8;rw [List.take_of_length_le (by omega),List.drop_of_length_le (by omega)]
  refine ⟨hx,?_⟩;unfold b8;rfl
 |y::r,us,x,cs,hl,hn,hx,hc=>by
  unfold b8 at hl;rw [List.cons_append];unfold b8;simp only [List.length_cons] at hn;rw [List.take_append_of_le_length (by omega),List.drop_append_of_le_length (by omega)]
  exact ⟨hl.1,oZ hl.2 (by rw [List.length_drop];omega) hx hc⟩
theorem tR {h:Hp}{N:Nat→Prop}:bC h N [] []:=by unfold bC;rfl
theorem tJ {h:Hp}{N:Nat→Prop}:bS h N [] []:=by unfold bS;rfl
theorem ud {h:Hp}{N:Nat→Prop}:b8 h N [] []:=by unfold b8;rfl
theorem eR.bp {h:Hp}{N:Nat→Prop}{v:Value}{l:List Ex}(hs:eR h N v l):bp v:=hs.at.bp
theorem oF.bp {h:Hp}{N:Nat→Prop}{v:Value}{l:List St}(hs:oF h N v l):bp v:=hs.at.bp
theorem ExS.wQ {h0 h:Hp}{v:Value}{l:List Ex}(hs:ExS h0 v l)(k:KF h0 h){i:Nat}{x:Ex}(hx:l[i]?=some x){K:List Value→Prop}(hk:∀w,ExS h0 w x.l→K (exC x w)) :
  aI v fun a l _=>0≤(i:Int)∧(i:Int) < (l:Int)∧∃C,aj h (Addr.add a (Int.toNat (i:Int)*4)) 4 C∧K C:=by
 obtain ⟨us,w,h1,h2,h3⟩:=hs.at_ hx;exact bh.rdC (h1.az k) (List.getElem?_eq_some_iff.1 hx).1 (by rw [h2];exact hk w h3)
theorem StS.wQ {h0 h:Hp}{v:Value}{l:List St}(hs:StS h0 v l)(k:KF h0 h){i:Nat}{x:St}(hx:l[i]?=some x){K:List Value→Prop}(hk:∀ve vb vl,ExS h0 ve x.e→StS h0 vb x.body→StS h0 vl x.els→K (stC x ve vb vl)) :
  aI v fun a l _=>0≤(i:Int)∧(i:Int) < (l:Int)∧∃C,aj h (Addr.add a (Int.toNat (i:Int)*9)) 9 C∧K C:=by
 obtain ⟨us,ve,vb,vl,h1,h2,h3,h4,h5⟩:=hs.at_ hx;exact bh.rdC (h1.az k) (List.getElem?_eq_some_iff.1 hx).1 (by rw [h2];exact hk _ _ _ h3 h4 h5)
theorem SgS.wQ {h0 h:Hp}{v:Value}{l:List Sg}(hs:SgS h0 v l)(k:KF h0 h){i:Nat}{x:Sg}(hx:l[i]?=some x){K:List Value→Prop}(hk:∀vp vb,PsS h0 vp x.ps→StS h0 vb x.body→K (sgC x vp vb)) :
  aI v fun a l _=>0≤(i:Int)∧(i:Int) < (l:Int)∧∃C,aj h (Addr.add a (Int.toNat (i:Int)*4)) 4 C∧K C:=by
 obtain ⟨us,vp,vb,h1,h2,h3,h4⟩:=hs.at_ hx;exact bh.rdC (h1.az k) (List.getElem?_eq_some_iff.1 hx).1 (by rw [h2];exact hk _ _ h3 h4)
end Go.Sx.Rn
