import Derived.Test.YtkeeboomikkojaaGreatDoorSxMore
import Derived.Test.YtkeeboomikkojaaGreatDoorPaP
import Derived.Test.YtkeeboomikkojaaGreatDoorSxStr
namespace Go.Sx.Tk
def lo (c:UInt8):Bool:=decide (97≤c.toNat)&&decide (c.toNat≤122)
def dg (c:UInt8):Bool:=decide (48≤c.toNat)&&decide (c.toNat≤57)
def ld (c:UInt8):Bool:=lo c||dg c
def run (l:List UInt8):Nat:=(l.takeWhile ld).length
def bk:Bool→List UInt8→Nat
 |_,[]=>0
 |r,c::l=>if c.toNat=10 then bk false l+1 else if r=true∨c.toNat=32∨c.toNat=9∨c.toNat=13 then bk r l+1 else if c.toNat=35 then bk true l+1 else 0
def words:List (List UInt8) :=
 [[97,98,97,110,100,111,110],[99,104,97,110],[99,108,111,110,101],[99,108,111,115,101],[100,114,97,105,110],[101,108,115,101],[101,109,105,116],[102,111,114],[102,114,111,109],[105,102],[105,110,116],[108,101,116],[114,101,99,118],[114,101,112,101,97,116],[115,101,110,100],[115,101,116],[115,112,97,119,110],[115,116,97,103,101],[116,97,107,101]]
def isWord (l:List UInt8):Bool:=decide (l∈words)
def uW (l:List UInt8):Int:=l.foldl (fun n c=>10*n+((c.toNat:Int) - 48)) 0
def DI (l:List UInt8):Option Int:=if 18 < l.length∨(1 < l.length∧(l.getD 0 0).toNat=48)∨l.all dg=false then none else some (uW l)
inductive One
 |bad (code:Int)
 |tok (kind:Int) (len:Nat) (n:Int)
def qW (c:UInt8):Bool:=decide (c.toNat=40)||(decide (c.toNat=41)||(decide (c.toNat=123)||(decide (c.toNat=125)||(decide (c.toNat=44)||(decide (c.toNat=59)||(decide (c.toNat=43)||(decide (c.toNat=45)||(decide (c.toNat=42)||decide (c.toNat=60)))))))))
def uY (eT eN eM:Int)(l:List UInt8):One :=
 match l with
 |[]=>.bad eT
 |c::r =>
  if lo c=true then (if isWord (l.take (run l))=true then .tok 1 (run l) 0 else if 12 < run l then .bad eM else .tok 2 (run l) 0)
  else if dg c=true then (match DI (l.take (run l)) with|none=>.bad eN|some n=>.tok 3 (run l) n)
  else if c.toNat=61 then (match r with|d::_=>if d.toNat=61 then .tok 4 2 0 else .tok 4 1 0|[]=>.tok 4 1 0)
  else if qW c=true then .tok 4 1 0 else .bad eT
structure Tok where
 kind:Int
 at_:Int
 text:ByteArray
 n:Int
def Tok.f (t:Tok):List Value:=[.int .i64 t.kind,.int .i64 t.at_,.string t.text,.int .i64 t.n]
theorem Tok.len (t:Tok):t.f.length=4:=rfl
theorem Tok.one (t:Tok):∀u∈t.f,one u:=by
 intro u hu;simp only [Tok.f,List.mem_cons,List.not_mem_nil,or_false] at hu;rcases hu with rfl|rfl|rfl|rfl<;>rfl
abbrev Res:=Except (Int×Int) (List Tok)
section
variable  (eT eN eM:Int)
inductive jz:List UInt8→Int→Res→Prop
 |stop {l:List UInt8} {at_:Int}:l.drop (bk false l)=[]→jz l at_ (.ok [])
 |bad {l r:List UInt8} {at_:Int} {c:UInt8} {e:Int}:l.drop (bk false l)=c::r→uY eT eN eM (c::r)=.bad e→jz l at_ (.error (e,at_+bk false l))
 |tok {l r:List UInt8} {at_:Int} {c:UInt8} {kind:Int} {len:Nat} {n:Int} {ts:List Tok}:l.drop (bk false l)=c::r→uY eT eN eM (c::r)=.tok kind len n →
  jz ((c::r).drop len) (at_+bk false l+len) (.ok ts)→jz l at_ (.ok (⟨kind,at_+bk false l,⟨((c::r).take len).toArray⟩,n⟩::ts))
 |fail {l r:List UInt8} {at_:Int} {c:UInt8} {kind:Int} {len:Nat} {n:Int} {x:Int×Int}:l.drop (bk false l)=c::r→uY eT eN eM (c::r)=.tok kind len n →
  jz ((c::r).drop len) (at_+bk false l+len) (.error x)→jz l at_ (.error x)
end
variable  {eT eN eM:Int}
theorem jz.same {l:List UInt8}{at_:Int}{a b:Res}(h:jz eT eN eM l at_ a)(k:jz eT eN eM l at_ b):a=b:=by
 induction h generalizing b with
 |stop h1 =>
  cases k with
  |stop _=>rfl
  |bad h2 _=>rw [h1] at h2;cases h2
  |tok h2 _ _=>rw [h1] at h2;cases h2
  |fail h2 _ _=>rw [h1] at h2;cases h2
 |bad h1 e1 =>
  cases k with
  |stop h2=>rw [h1] at h2;cases h2
  |bad h2 e2 =>
   rw [h1] at h2;cases h2;rw [e1] at e2;cases e2;rfl
  |tok h2 e2 _ =>
   rw [h1] at h2;cases h2;rw [e1] at e2;cases e2
  |fail h2 e2 _ =>
   rw [h1] at h2;cases h2;rw [e1] at e2;cases e2
 |tok h1 e1 _ ih =>
  cases k with
  |stop h2=>rw [h1] at h2;cases h2
  |bad h2 e2 =>
   rw [h1] at h2;cases h2;rw [e1] at e2;cases e2
  |tok h2 e2 k2 =>
   rw [h1] at h2;cases h2;rw [e1] at e2;cases e2;cases ih k2;rfl
  |fail h2 e2 k2 =>
   rw [h1] at h2;cases h2;rw [e1] at e2;cases e2;cases ih k2
 |fail h1 e1 _ ih =>
  cases k with
  |stop h2=>rw [h1] at h2;cases h2
  |bad h2 e2 =>
   rw [h1] at h2;cases h2;rw [e1] at e2;cases e2
  |tok h2 e2 k2 =>
   rw [h1] at h2;cases h2;rw [e1] at e2;cases e2;cases ih k2
  |fail h2 e2 k2 =>
   rw [h1] at h2;cases h2;rw [e1] at e2;cases e2;exact ih k2
theorem oV:∀(r:Bool) (l:List UInt8),bk r l≤l.length
 |_,[]=>Zd _
 |r,c::l=>by
  have h1:=oV false l;have h2:=oV r l;have h3:=oV true l;unfold bk;simp only [Qn]
  split
  ·omega
  ·split
   ·omega
   ·split<;>omega
theorem yG (l:List UInt8):run l≤l.length:=by
 unfold run;have:=congrArg List.length (List.takeWhile_append_dropWhile (p:=ld) (l:=l));rw [Qd] at this;omega
theorem pw {c:UInt8}{l:List UInt8}:run (c::l)=if ld c=true then run l+1 else 0:=by
 unfold run;rw [List.takeWhile_cons]
 split<;>simp
theorem yj {l:List UInt8}{kind:Int}{len:Nat}{n:Int}(h:uY eT eN eM l=.tok kind len n):0 < len∧len≤l.length:=by
 unfold uY at h;have hrl:=yG l;cases l with
 |nil=>cases h
 |cons c r =>
  simp only at h;have hr:ld c=true→0 < run (c::r):=fun hc=>by rw [pw,if_pos hc];omega
  split at h
  ·rename_i hc;have:=hr (by simp [ld,hc])
   split at h
   ·cases h;exact ⟨this,hrl⟩
   ·split at h
    ·cases h
    ·cases h;exact ⟨this,hrl⟩
  ·split at h
   ·rename_i hc;have:=hr (by simp [ld,hc])
    split at h
    ·cases h
    ·cases h;exact ⟨this,hrl⟩
   ·split at h
    ·split at h
     ·split at h<;>cases h<;>simp
     ·cases h;simp
    ·split at h
     ·cases h;simp
     ·cases h
def Lt (acc:List Tok):Res→Res
 |.ok ts=>.ok (acc++ts)
 |.error x=>.error x
theorem Iu (r:Res):Lt [] r=r:=by cases r<;>rfl
theorem Ih (a b:List Tok)(r:Res):Lt a (Lt b r)=Lt (a++b) r:=by cases r<;>simp [Lt]
theorem jz.skip {l l':List UInt8}{at_:Int}{k:Nat}{res:Res}(hk:bk false l=k+bk false l')(hd:∀j,l.drop (k+j)=l'.drop j)(h:jz eT eN eM l' (at_+k) res):jz eT eN eM l at_ res:=by
 have hd':l.drop (bk false l)=l'.drop (bk false l'):=by rw [hk,hd]
 have he:at_+(bk false l:Nat)=at_+k+(bk false l':Nat):=by rw [hk];push_cast;omega
 cases h with
 |stop h1=>exact .stop (by rw [hd'];exact h1)
 |bad h1 e1=>rw [←he];exact .bad (by rw [hd'];exact h1) e1
 |tok h1 e1 k1 =>
  rw [←he] at k1 ⊢;exact .tok (by rw [hd'];exact h1) e1 k1
 |fail h1 e1 k1 =>
  rw [←he] at k1;exact .fail (by rw [hd'];exact h1) e1 k1
end Go.Sx.Tk
namespace Go.Sx.Tk
variable  {eT eN eM:Int}
def qf (d:Int)(t:Tok):Tok:={ t with at_:=t.at_+d }
end Go.Sx.Tk
namespace Go.Sx.Rn
inductive Ex where
 |mk (op:Int) (nm:ByteArray) (n:Int) (l:List Ex):Ex
inductive St where
 |mk (d at_:Int) (a b t:ByteArray) (n:Int) (e:List Ex) (body els:List St):St
structure Sg where
 nm:ByteArray
 at_:Int
 ps:List (ByteArray×ByteArray)
 body:List St
def Ex.op:Ex→Int|.mk o _ _ _=>o
def Ex.nm:Ex→ByteArray|.mk _ s _ _=>s
def Ex.n:Ex→Int|.mk _ _ n _=>n
def Ex.l:Ex→List Ex|.mk _ _ _ l=>l
def St.d:St→Int|.mk d _ _ _ _ _ _ _ _=>d
def St.at_:St→Int|.mk _ x _ _ _ _ _ _ _=>x
def St.a:St→ByteArray|.mk _ _ x _ _ _ _ _ _=>x
def St.b:St→ByteArray|.mk _ _ _ x _ _ _ _ _=>x
def St.t:St→ByteArray|.mk _ _ _ _ x _ _ _ _=>x
def St.n:St→Int|.mk _ _ _ _ _ x _ _ _=>x
def St.e:St→List Ex|.mk _ _ _ _ _ _ x _ _=>x
def St.body:St→List St|.mk _ _ _ _ _ _ _ x _=>x
def St.els:St→List St|.mk _ _ _ _ _ _ _ _ x=>x
def SlB (h:Hp)(sz:Nat)(v:Value)(n:Nat)(us:List Value):Prop:=bm h sz v n us∧n≤9223372036854775807
theorem SlB.aC {h h':Hp}{sz n:Nat}{v:Value}{us:List Value}(hs:SlB h sz v n us)(k:KF h h'):SlB h' sz v n us:=⟨hs.1.aC k,hs.2⟩
mutual
def DH (h:Hp):Ex→List Value→Prop
 |.mk op nm n l,cs=>∃v us,cs=[.int .i64 op,.string nm,.int .i64 n,v]∧SlB h 4 v l.length us∧lE h l us
def lE (h:Hp):List Ex→List Value→Prop
 |[],us=>us=[]
 |x::r,us=>DH h x (us.take 4)∧lE h r (us.drop 4)
end
def ExS (h:Hp)(v:Value)(l:List Ex):Prop:=∃us,SlB h 4 v l.length us∧lE h l us
mutual
def El (h:Hp):St→List Value→Prop
 |.mk d at_ a b t n e body els,cs=>∃ve vb vl us ws,cs=[.int .i64 d,.int .i64 at_,.string a,.string b,.string t,.int .i64 n,ve,vb,vl]∧ExS h ve e∧SlB h 9 vb body.length us∧kC h body us∧SlB h 9 vl els.length ws∧kC h els ws
def kC (h:Hp):List St→List Value→Prop
 |[],us=>us=[]
 |x::r,us=>El h x (us.take 9)∧kC h r (us.drop 9)
end
def StS (h:Hp)(v:Value)(l:List St):Prop:=∃us,SlB h 9 v l.length us∧kC h l us
def pf (p:ByteArray×ByteArray):List Value:=[.string p.1,.string p.2]
theorem ic (p:ByteArray×ByteArray):(pf p).length=2:=rfl
theorem CT (p:ByteArray×ByteArray):∀u∈pf p,one u:=by
 intro u hu;simp only [pf,List.mem_cons,List.not_mem_nil,or_false] at hu;rcases hu with rfl|rfl<;>rfl
def AL (v:Value):Prop:=v=.slice none 0 0∨∃a l c,v=.slice (some a) l c
def PsS (h:Hp)(v:Value)(l:List (ByteArray×ByteArray)):Prop:=bm h 2 v l.length (l.flatMap pf)∧AL v
theorem PsS.aC {h h':Hp}{v:Value}{l:List (ByteArray×ByteArray)}(hs:PsS h v l)(k:KF h h'):PsS h' v l:=⟨hs.1.aC k,hs.2⟩
def b8 (v:Value):Prop:=∃a l c,v=.slice a l c
theorem bm.b8 {h:Hp}{sz n:Nat}{v:Value}{us:List Value}(hs:bm h sz v n us):b8 v:=by
 rcases hs.2 with ⟨_,a,c,rfl⟩|⟨b,o,c,rfl,_⟩
 ·exact ⟨_,_,_,rfl⟩
 ·exact ⟨_,_,_,rfl⟩
theorem b8.one {v:Value}(h:b8 v):one v:=by obtain ⟨a,l,c,rfl⟩:=h;rfl
def O5 (h:Hp)(s:Sg)(cs:List Value):Prop:=∃vp vb,cs=[.string s.nm,.int .i64 s.at_,vp,vb]∧PsS h vp s.ps∧StS h vb s.body
def gS (h:Hp):List Sg→List Value→Prop
 |[],us=>us=[]
 |x::r,us=>O5 h x (us.take 4)∧gS h r (us.drop 4)
def SgS (h:Hp)(v:Value)(l:List Sg):Prop:=∃us,SlB h 4 v l.length us∧gS h l us
theorem Cx {h:Hp}{x:Ex}{cs:List Value}:DH h x cs↔∃v,cs=[.int .i64 x.op,.string x.nm,.int .i64 x.n,v]∧ExS h v x.l:=by
 cases x;simp only [DH,ExS,Ex.op,Ex.nm,Ex.n,Ex.l]
 constructor
 ·rintro ⟨v,us,h1,h2,h3⟩;exact ⟨v,h1,us,h2,h3⟩
 ·rintro ⟨v,h1,us,h2,h3⟩;exact ⟨v,us,h1,h2,h3⟩
theorem Ch {h:Hp}{x:St}{cs:List Value}:El h x cs↔∃ve vb vl,cs=[.int .i64 x.d,.int .i64 x.at_,.string x.a,.string x.b,.string x.t,.int .i64 x.n,ve,vb,vl]∧ExS h ve x.e∧StS h vb x.body∧StS h vl x.els:=by
 cases x;simp only [El,StS,St.d,St.at_,St.a,St.b,St.t,St.n,St.e,St.body,St.els]
 constructor
 ·rintro ⟨ve,vb,vl,us,ws,h1,h2,h3,h4,h5,h6⟩;exact ⟨ve,vb,vl,h1,h2,⟨us,h3,h4⟩,ws,h5,h6⟩
 ·rintro ⟨ve,vb,vl,h1,h2,⟨us,h3,h4⟩,ws,h5,h6⟩;exact ⟨ve,vb,vl,us,ws,h1,h2,h3,h4,h5,h6⟩
theorem yW {h:Hp}:∀{l:List Ex} {us:List Value},lE h l us→∀{i:Nat} {x:Ex},l[i]?=some x→DH h x ((us.drop (i*4)).take 4)
 |[],_,_,_,_,hx=>by simp at hx
 |y::r,us,hs,0,x,hx=>by
  simp at hx;subst hx;unfold lE at hs;simpa using hs.1
 |y::r,us,hs,i+1,x,hx=>by
  unfold lE at hs;have:=yW hs.2 (i:=i) (x:=x) (by simpa using hx)
  rw [Z8] at this;rw [show (i+1)*4=4+i*4 by omega]
  exact this
theorem y7 {h:Hp}:∀{l:List St} {us:List Value},kC h l us→∀{i:Nat} {x:St},l[i]?=some x→El h x ((us.drop (i*9)).take 9)
 |[],_,_,_,_,hx=>by simp at hx
 |y::r,us,hs,0,x,hx=>by
  simp at hx;subst hx;unfold kC at hs;simpa using hs.1
 |y::r,us,hs,i+1,x,hx=>by
  unfold kC at hs;have:=y7 hs.2 (i:=i) (x:=x) (by simpa using hx)
  rw [Z8] at this;rw [show (i+1)*9=9+i*9 by omega]
  exact this
theorem zQ {h:Hp}:∀{l:List Sg} {us:List Value},gS h l us→∀{i:Nat} {x:Sg},l[i]?=some x→O5 h x ((us.drop (i*4)).take 4)
 |[],_,_,_,_,hx=>by simp at hx
 |y::r,us,hs,0,x,hx=>by
  simp at hx;subst hx;unfold gS at hs;simpa using hs.1
 |y::r,us,hs,i+1,x,hx=>by
  unfold gS at hs;have:=zQ hs.2 (i:=i) (x:=x) (by simpa using hx)
  rw [Z8] at this;rw [show (i+1)*4=4+i*4 by omega]
  exact this
mutual
theorem Gf {h h':Hp}(k:KF h h'):∀(x:Ex) {cs:List Value},DH h x cs→DH h' x cs
 |.mk op nm n l,cs,hx=>by
  unfold DH at hx ⊢;obtain ⟨v,us,h1,h2,h3⟩:=hx;exact ⟨v,us,h1,h2.aC k,rZ k l h3⟩
theorem rZ {h h':Hp}(k:KF h h'):∀(l:List Ex) {us:List Value},lE h l us→lE h' l us
 |[],us,hs=>by
  unfold lE at hs ⊢;exact hs
 |x::r,us,hs=>by
  unfold lE at hs ⊢;exact ⟨Gf k x hs.1,rZ k r hs.2⟩
end
theorem ExS.aC {h h':Hp}{v:Value}{l:List Ex}(hs:ExS h v l)(k:KF h h'):ExS h' v l:=by
 obtain ⟨us,h1,h2⟩:=hs;exact ⟨us,h1.aC k,rZ k l h2⟩
mutual
theorem Gr {h h':Hp}(k:KF h h'):∀(x:St) {cs:List Value},El h x cs→El h' x cs
 |.mk d at_ a b t n e body els,cs,hx=>by
  unfold El at hx ⊢;obtain ⟨ve,vb,vl,us,ws,h1,h2,h3,h4,h5,h6⟩:=hx;exact ⟨ve,vb,vl,us,ws,h1,h2.aC k,h3.aC k,pH k body h4,h5.aC k,pH k els h6⟩
theorem pH {h h':Hp}(k:KF h h'):∀(l:List St) {us:List Value},kC h l us→kC h' l us
 |[],us,hs=>by
  unfold kC at hs ⊢;exact hs
 |x::r,us,hs=>by
  unfold kC at hs ⊢;exact ⟨Gr k x hs.1,pH k r hs.2⟩
end
theorem StS.aC {h h':Hp}{v:Value}{l:List St}(hs:StS h v l)(k:KF h h'):StS h' v l:=by
 obtain ⟨us,h1,h2⟩:=hs;exact ⟨us,h1.aC k,pH k l h2⟩
theorem vS {h h':Hp}(k:KF h h'):∀(l:List Sg) {us:List Value},gS h l us→gS h' l us
 |[],us,hs=>by
  unfold gS at hs ⊢;exact hs
 |x::r,us,hs=>by
  unfold gS at hs ⊢;obtain ⟨⟨vp,vb,h1,h2,h3⟩,h4⟩:=hs;exact ⟨⟨vp,vb,h1,h2.aC k,h3.aC k⟩,vS k r h4⟩
theorem SgS.aC {h h':Hp}{v:Value}{l:List Sg}(hs:SgS h v l)(k:KF h h'):SgS h' v l:=by
 obtain ⟨us,h1,h2⟩:=hs;exact ⟨us,h1.aC k,vS k l h2⟩
theorem bm.rdC {h:Hp}{sz n:Nat}{v:Value}{us:List Value}(hs:bm h sz v n us){i:Nat}(hi:i < n){K:List Value→Prop}(hk:K ((us.drop (i*sz)).take sz)) :
  aI v fun a l _=>0≤(i:Int)∧(i:Int) < (l:Int)∧∃C,aj h (Addr.add a (Int.toNat (i:Int)*sz)) sz C∧K C:=by
 have hmul:(i+1)*sz≤n*sz:=Nat.mul_le_mul_right sz (by omega)
 rw [Nat.add_mul,Nat.one_mul] at hmul;have h1:=hs.1;rcases hs.2 with ⟨h0,_⟩|⟨b,o,cap,rfl,hc⟩
 ·omega
 ·rw [asSl1_sl];refine ⟨by omega,by omega,_,⟨by rw [Qp,Qs];omega,fun j u hu=>?_⟩,hk⟩
  rw [aP,aP,Qm,Nat.add_assoc];rw [Qh] at hu
  split at hu
  ·rw [Qi] at hu;exact hc _ u hu
  ·cases hu
theorem bm.rdO {h:Hp}{sz n:Nat}{v:Value}{us:List Value}(hs:bm h sz v n us){i o:Nat}(hi:i < n){u:Value}(hu:((us.drop (i*sz)).take sz)[o]?=some u){K:Value→Prop}(hk:K u) :
  aI v fun a l _=>0≤(i:Int)∧(i:Int) < (l:Int)∧∃w,af h (Addr.add (Addr.add a (Int.toNat (i:Int)*sz)) o)=some w∧K w:=by
 refine bm.rdF hs hi (off:=o) (u:=u) ?_ hk;rw [Qh] at hu
 split at hu
 ·rw [Qi] at hu;exact hu
 ·cases hu
theorem ExS.sl {h:Hp}{v:Value}{l:List Ex}(hs:ExS h v l){F:Option Addr→Nat→Nat→Prop}(hf:∀a c,F a l.length c):bR v F:=by
 obtain ⟨us,h1,_⟩:=hs;exact h1.1.sl hf
theorem StS.sl {h:Hp}{v:Value}{l:List St}(hs:StS h v l){F:Option Addr→Nat→Nat→Prop}(hf:∀a c,F a l.length c):bR v F:=by
 obtain ⟨us,h1,_⟩:=hs;exact h1.1.sl hf
theorem SgS.sl {h:Hp}{v:Value}{l:List Sg}(hs:SgS h v l){F:Option Addr→Nat→Nat→Prop}(hf:∀a c,F a l.length c):bR v F:=by
 obtain ⟨us,h1,_⟩:=hs;exact h1.1.sl hf
theorem ExS.max {h:Hp}{v:Value}{l:List Ex}(hs:ExS h v l):l.length≤9223372036854775807:=by
 obtain ⟨us,h1,_⟩:=hs;exact h1.2
theorem StS.max {h:Hp}{v:Value}{l:List St}(hs:StS h v l):l.length≤9223372036854775807:=by
 obtain ⟨us,h1,_⟩:=hs;exact h1.2
theorem ExS.b8 {h:Hp}{v:Value}{l:List Ex}(hs:ExS h v l):b8 v:=by
 obtain ⟨us,h1,_⟩:=hs;exact bm.b8 h1.1
theorem StS.b8 {h:Hp}{v:Value}{l:List St}(hs:StS h v l):b8 v:=by
 obtain ⟨us,h1,_⟩:=hs;exact bm.b8 h1.1
def exC (x:Ex)(v:Value):List Value:=[.int .i64 x.op,.string x.nm,.int .i64 x.n,v]
def stC (x:St)(ve vb vl:Value):List Value:=[.int .i64 x.d,.int .i64 x.at_,.string x.a,.string x.b,.string x.t,.int .i64 x.n,ve,vb,vl]
def sgC (s:Sg)(vp vb:Value):List Value:=[.string s.nm,.int .i64 s.at_,vp,vb]
theorem dC {x:Ex}{v:Value}(h:b8 v):∀u∈exC x v,one u:=by
 intro u hu;simp only [exC,List.mem_cons,List.not_mem_nil,or_false] at hu;rcases hu with rfl|rfl|rfl|rfl
 ·rfl
 ·rfl
 ·rfl
 ·exact h.one
theorem qt {x:St}{ve vb vl:Value}(h1:b8 ve)(h2:b8 vb)(h3:b8 vl):∀u∈stC x ve vb vl,one u:=by
 intro u hu;simp only [stC,List.mem_cons,List.not_mem_nil,or_false] at hu;rcases hu with rfl|rfl|rfl|rfl|rfl|rfl|rfl|rfl|rfl
 ·rfl
 ·rfl
 ·rfl
 ·rfl
 ·rfl
 ·rfl
 ·exact h1.one
 ·exact h2.one
 ·exact h3.one
theorem lY {s:Sg}{vp vb:Value}(h1:b8 vp)(h2:b8 vb):∀u∈sgC s vp vb,one u:=by
 intro u hu;simp only [sgC,List.mem_cons,List.not_mem_nil,or_false] at hu;rcases hu with rfl|rfl|rfl|rfl
 ·rfl
 ·rfl
 ·exact h1.one
 ·exact h2.one
theorem ExS.at_ {h:Hp}{v:Value}{l:List Ex}(hs:ExS h v l){i:Nat}{x:Ex}(hx:l[i]?=some x):∃us w,bm h 4 v l.length us∧(us.drop (i*4)).take 4=exC x w∧ExS h w x.l:=by
 obtain ⟨us,h1,h2⟩:=hs;obtain ⟨w,h3,h4⟩:=Cx.1 (yW h2 hx);exact ⟨us,w,h1.1,h3,h4⟩
theorem StS.at_ {h:Hp}{v:Value}{l:List St}(hs:StS h v l){i:Nat}{x:St}(hx:l[i]?=some x):∃us ve vb vl,bm h 9 v l.length us∧(us.drop (i*9)).take 9=stC x ve vb vl∧ExS h ve x.e∧StS h vb x.body∧StS h vl x.els:=by
 obtain ⟨us,h1,h2⟩:=hs;obtain ⟨ve,vb,vl,h3,h4,h5,h6⟩:=Ch.1 (y7 h2 hx);exact ⟨us,ve,vb,vl,h1.1,h3,h4,h5,h6⟩
theorem SgS.at_ {h:Hp}{v:Value}{l:List Sg}(hs:SgS h v l){i:Nat}{x:Sg}(hx:l[i]?=some x):∃us vp vb,bm h 4 v l.length us∧(us.drop (i*4)).take 4=sgC x vp vb∧PsS h vp x.ps∧StS h vb x.body:=by
 obtain ⟨us,h1,h2⟩:=hs;obtain ⟨vp,vb,h3,h4,h5⟩:=zQ h2 hx;exact ⟨us,vp,vb,h1.1,h3,h4,h5⟩
theorem ExS.rdC {h:Hp}{v:Value}{l:List Ex}(hs:ExS h v l){i:Nat}{x:Ex}(hx:l[i]?=some x){K:List Value→Prop}(hk:∀w,ExS h w x.l→K (exC x w)) :
  aI v fun a l _=>0≤(i:Int)∧(i:Int) < (l:Int)∧∃C,aj h (Addr.add a (Int.toNat (i:Int)*4)) 4 C∧K C:=by
 obtain ⟨us,w,h1,h2,h3⟩:=hs.at_ hx;exact bm.rdC h1 (Q6.1 hx).1 (by rw [h2];exact hk w h3)
theorem ExS.rdO {h:Hp}{v:Value}{l:List Ex}(hs:ExS h v l){i:Nat}{x:Ex}(hx:l[i]?=some x){o:Nat}{K:Value→Prop}(hk:∀w,ExS h w x.l→∃u,(exC x w)[o]?=some u∧K u) :
  aI v fun a l _=>0≤(i:Int)∧(i:Int) < (l:Int)∧∃w,af h (Addr.add (Addr.add a (Int.toNat (i:Int)*4)) o)=some w∧K w:=by
 obtain ⟨us,w,h1,h2,h3⟩:=hs.at_ hx;obtain ⟨u,h4,h5⟩:=hk w h3;exact bm.rdO h1 (Q6.1 hx).1 (by rw [h2];exact h4) h5
theorem StS.rdC {h:Hp}{v:Value}{l:List St}(hs:StS h v l){i:Nat}{x:St}(hx:l[i]?=some x){K:List Value→Prop}(hk:∀ve vb vl,ExS h ve x.e→StS h vb x.body→StS h vl x.els→K (stC x ve vb vl)) :
  aI v fun a l _=>0≤(i:Int)∧(i:Int) < (l:Int)∧∃C,aj h (Addr.add a (Int.toNat (i:Int)*9)) 9 C∧K C:=by
 obtain ⟨us,ve,vb,vl,h1,h2,h3,h4,h5⟩:=hs.at_ hx;exact bm.rdC h1 (Q6.1 hx).1 (by rw [h2];exact hk _ _ _ h3 h4 h5)
theorem StS.rdO {h:Hp}{v:Value}{l:List St}(hs:StS h v l){i:Nat}{x:St}(hx:l[i]?=some x){o:Nat}{K:Value→Prop}(hk:∀ve vb vl,ExS h ve x.e→StS h vb x.body→StS h vl x.els→∃u,(stC x ve vb vl)[o]?=some u∧K u) :
  aI v fun a l _=>0≤(i:Int)∧(i:Int) < (l:Int)∧∃w,af h (Addr.add (Addr.add a (Int.toNat (i:Int)*9)) o)=some w∧K w:=by
 obtain ⟨us,ve,vb,vl,h1,h2,h3,h4,h5⟩:=hs.at_ hx;obtain ⟨u,h6,h7⟩:=hk _ _ _ h3 h4 h5;exact bm.rdO h1 (Q6.1 hx).1 (by rw [h2];exact h6) h7
theorem SgS.rdC {h:Hp}{v:Value}{l:List Sg}(hs:SgS h v l){i:Nat}{x:Sg}(hx:l[i]?=some x){K:List Value→Prop}(hk:∀vp vb,PsS h vp x.ps→StS h vb x.body→K (sgC x vp vb)) :
  aI v fun a l _=>0≤(i:Int)∧(i:Int) < (l:Int)∧∃C,aj h (Addr.add a (Int.toNat (i:Int)*4)) 4 C∧K C:=by
 obtain ⟨us,vp,vb,h1,h2,h3,h4⟩:=hs.at_ hx;exact bm.rdC h1 (Q6.1 hx).1 (by rw [h2];exact hk _ _ h3 h4)
mutual
def exN:Ex→Nat
 |.mk _ _ _ l=>1+cw l
def cw:List Ex→Nat
 |[]=>0
 |x::r=>exN x+cw r
end
mutual
def stN:St→Nat
 |.mk _ _ _ _ _ _ e body els=>1+cw e+cc body+cc els
def cc:List St→Nat
 |[]=>0
 |x::r=>stN x+cc r
end
theorem gA (x:Ex):exN x=1+cw x.l:=by cases x;rfl
theorem jN (x:St):stN x=1+cw x.e+cc x.body+cc x.els:=by cases x;rfl
theorem cr:∀{l:List Ex} {x:Ex},x∈l→exN x≤cw l
 |y::r,x,hx=>by
  unfold cw;rcases List.mem_cons.1 hx with rfl|hx
  ·omega
  ·have:=cr hx;omega
theorem im:∀{l:List St} {x:St},x∈l→stN x≤cc l
 |y::r,x,hx=>by
  unfold cc;rcases List.mem_cons.1 hx with rfl|hx
  ·omega
  ·have:=im hx;omega
theorem gj:∀(l:List Ex),l.length≤cw l
 |[]=>Nat.zero_le _
 |x::r=>by
  unfold cw;have:=gj r;have:=gA x;simp only [Qn];omega
theorem pz:∀(l:List St),l.length≤cc l
 |[]=>Nat.zero_le _
 |x::r=>by
  unfold cc;have:=pz r;have:=jN x;simp only [Qn];omega
end Go.Sx.Rn
namespace Go.Sx.Rn
def SlN (h:Hp)(N:Nat→Prop)(sz:Nat)(v:Value)(n:Nat)(us:List Value):Prop:=SlB h sz v n us∧∀b,v.ownBlock=some b→N b
theorem SlN.aC {h h':Hp}{N S:Nat→Prop}{sz n:Nat}{v:Value}{us:List Value}(hs:SlN h N sz v n us)(k:ar S h h')(hn:∀b,N b→¬S b):SlN h' N sz v n us:=by
 refine ⟨⟨⟨hs.1.1.1,?_⟩,hs.1.2⟩,hs.2⟩;rcases hs.1.1.2 with h0|⟨b,o,c,rfl,hc⟩
 ·exact .inl h0
 ·exact .inr ⟨b,o,c,rfl,fun j u hu=>k.cell (hc j u hu) (hn b (hs.2 b rfl))⟩
theorem SlN.mono {h:Hp}{N N':Nat→Prop}{sz n:Nat}{v:Value}{us:List Value}(hs:SlN h N sz v n us)(hn:∀b,N b→N' b):SlN h N' sz v n us:=⟨hs.1,fun b hb=>hn b (hs.2 b hb)⟩
theorem SlN.own {h:Hp}{base:Nat}{e:TypeId}{sz n:Nat}{v:Value}{us:List Value}(ho:bX h base e sz v n us)(hn:n≤9223372036854775807):SlN h (fun b=>base≤b∧b < h.size) sz v n us :=
 ⟨⟨ho.dP,hn⟩,ho.lt⟩
mutual
def uB (h:Hp)(N:Nat→Prop):Ex→List Value→Prop
 |.mk op nm n l,cs=>∃v us,cs=[.int .i64 op,.string nm,.int .i64 n,v]∧SlN h N 4 v l.length us∧ch h N l us
def ch (h:Hp)(N:Nat→Prop):List Ex→List Value→Prop
 |[],us=>us=[]
 |x::r,us=>uB h N x (us.take 4)∧ch h N r (us.drop 4)
end
def fU (h:Hp)(N:Nat→Prop)(v:Value)(l:List Ex):Prop:=∃us,SlN h N 4 v l.length us∧ch h N l us
mutual
def uF (h:Hp)(N:Nat→Prop):St→List Value→Prop
 |.mk d at_ a b t n e body els,cs=>∃ve vb vl us ws,cs=[.int .i64 d,.int .i64 at_,.string a,.string b,.string t,.int .i64 n,ve,vb,vl]∧fU h N ve e∧SlN h N 9 vb body.length us∧cG h N body us∧SlN h N 9 vl els.length ws∧cG h N els ws
def cG (h:Hp)(N:Nat→Prop):List St→List Value→Prop
 |[],us=>us=[]
 |x::r,us=>uF h N x (us.take 9)∧cG h N r (us.drop 9)
end
def qk (h:Hp)(N:Nat→Prop)(v:Value)(l:List St):Prop:=∃us,SlN h N 9 v l.length us∧cG h N l us
theorem oA {h:Hp}{N:Nat→Prop}{x:Ex}{cs:List Value}:uB h N x cs↔∃v,cs=exC x v∧fU h N v x.l:=by
 cases x;simp only [uB,fU,exC,Ex.op,Ex.nm,Ex.n,Ex.l]
 constructor
 ·rintro ⟨v,us,h1,h2,h3⟩;exact ⟨v,h1,us,h2,h3⟩
 ·rintro ⟨v,h1,us,h2,h3⟩;exact ⟨v,us,h1,h2,h3⟩
theorem FM {h:Hp}{N:Nat→Prop}{x:St}{cs:List Value}:uF h N x cs↔∃ve vb vl,cs=stC x ve vb vl∧fU h N ve x.e∧qk h N vb x.body∧qk h N vl x.els:=by
 cases x;simp only [uF,qk,stC,St.d,St.at_,St.a,St.b,St.t,St.n,St.e,St.body,St.els]
 constructor
 ·rintro ⟨ve,vb,vl,us,ws,h1,h2,h3,h4,h5,h6⟩;exact ⟨ve,vb,vl,h1,h2,⟨us,h3,h4⟩,ws,h5,h6⟩
 ·rintro ⟨ve,vb,vl,h1,h2,⟨us,h3,h4⟩,ws,h5,h6⟩;exact ⟨ve,vb,vl,us,ws,h1,h2,h3,h4,h5,h6⟩
mutual
theorem FH {h h':Hp}{N N':Nat→Prop}(f:∀sz v n us,SlN h N sz v n us→SlN h' N' sz v n us):∀(x:Ex) {cs:List Value},uB h N x cs→uB h' N' x cs
 |.mk op nm n l,cs,hx=>by
  unfold uB at hx ⊢;obtain ⟨v,us,h1,h2,h3⟩:=hx;exact ⟨v,us,h1,f _ _ _ _ h2,kG f l h3⟩
theorem kG {h h':Hp}{N N':Nat→Prop}(f:∀sz v n us,SlN h N sz v n us→SlN h' N' sz v n us):∀(l:List Ex) {us:List Value},ch h N l us→ch h' N' l us
 |[],us,hs=>by
  unfold ch at hs ⊢;exact hs
 |x::r,us,hs=>by
  unfold ch at hs ⊢;exact ⟨FH f x hs.1,kG f r hs.2⟩
end
theorem fU.map {h h':Hp}{N N':Nat→Prop}(f:∀sz v n us,SlN h N sz v n us→SlN h' N' sz v n us){v:Value}{l:List Ex}(hs:fU h N v l):fU h' N' v l:=by
 obtain ⟨us,h1,h2⟩:=hs;exact ⟨us,f _ _ _ _ h1,kG f l h2⟩
mutual
theorem Ha {h h':Hp}{N N':Nat→Prop}(f:∀sz v n us,SlN h N sz v n us→SlN h' N' sz v n us):∀(x:St) {cs:List Value},uF h N x cs→uF h' N' x cs
 |.mk d at_ a b t n e body els,cs,hx=>by
  unfold uF at hx ⊢;obtain ⟨ve,vb,vl,us,ws,h1,h2,h3,h4,h5,h6⟩:=hx;exact ⟨ve,vb,vl,us,ws,h1,h2.map f,f _ _ _ _ h3,iu f body h4,f _ _ _ _ h5,iu f els h6⟩
theorem iu {h h':Hp}{N N':Nat→Prop}(f:∀sz v n us,SlN h N sz v n us→SlN h' N' sz v n us):∀(l:List St) {us:List Value},cG h N l us→cG h' N' l us
 |[],us,hs=>by
  unfold cG at hs ⊢;exact hs
 |x::r,us,hs=>by
  unfold cG at hs ⊢;exact ⟨Ha f x hs.1,iu f r hs.2⟩
end
theorem qk.map {h h':Hp}{N N':Nat→Prop}(f:∀sz v n us,SlN h N sz v n us→SlN h' N' sz v n us){v:Value}{l:List St}(hs:qk h N v l):qk h' N' v l:=by
 obtain ⟨us,h1,h2⟩:=hs;exact ⟨us,f _ _ _ _ h1,iu f l h2⟩
mutual
theorem uB.at {h:Hp}{N:Nat→Prop}:∀(x:Ex) {cs:List Value},uB h N x cs→DH h x cs
 |.mk op nm n l,cs,hx=>by
  unfold uB at hx;unfold DH;obtain ⟨v,us,h1,h2,h3⟩:=hx;exact ⟨v,us,h1,h2.1,ch.at l h3⟩
theorem ch.at {h:Hp}{N:Nat→Prop}:∀(l:List Ex) {us:List Value},ch h N l us→lE h l us
 |[],us,hs=>by
  unfold ch at hs;unfold lE;exact hs
 |x::r,us,hs=>by
  unfold ch at hs;unfold lE;exact ⟨uB.at x hs.1,ch.at r hs.2⟩
end
theorem fU.at {h:Hp}{N:Nat→Prop}{v:Value}{l:List Ex}(hs:fU h N v l):ExS h v l:=by
 obtain ⟨us,h1,h2⟩:=hs;exact ⟨us,h1.1,ch.at l h2⟩
mutual
theorem uF.at {h:Hp}{N:Nat→Prop}:∀(x:St) {cs:List Value},uF h N x cs→El h x cs
 |.mk d at_ a b t n e body els,cs,hx=>by
  unfold uF at hx;unfold El;obtain ⟨ve,vb,vl,us,ws,h1,h2,h3,h4,h5,h6⟩:=hx;exact ⟨ve,vb,vl,us,ws,h1,h2.at,h3.1,cG.at body h4,h5.1,cG.at els h6⟩
theorem cG.at {h:Hp}{N:Nat→Prop}:∀(l:List St) {us:List Value},cG h N l us→kC h l us
 |[],us,hs=>by
  unfold cG at hs;unfold kC;exact hs
 |x::r,us,hs=>by
  unfold cG at hs;unfold kC;exact ⟨uF.at x hs.1,cG.at r hs.2⟩
end
theorem qk.at {h:Hp}{N:Nat→Prop}{v:Value}{l:List St}(hs:qk h N v l):StS h v l:=by
 obtain ⟨us,h1,h2⟩:=hs;exact ⟨us,h1.1,cG.at l h2⟩
theorem uU {h:Hp}{N:Nat→Prop}:∀{l:List Ex} {us:List Value} {x:Ex} {cs:List Value},ch h N l us→us.length=l.length*4→uB h N x cs→cs.length=4→ch h N (l++[x]) (us++cs)
 |[],us,x,cs,hl,hn,hx,hc=>by
  unfold ch at hl;subst hl;rw [Z4,Z4];unfold ch;rw [List.take_of_length_le (by omega),List.drop_of_length_le (by omega)]
  refine ⟨hx,?_⟩;unfold ch;rfl
 |y::r,us,x,cs,hl,hn,hx,hc=>by
  unfold ch at hl;rw [Qu];unfold ch;simp only [Qn] at hn;rw [Q0 (by omega),Q1 (by omega)]
  exact ⟨hl.1,uU hl.2 (by rw [Qs];omega) hx hc⟩
theorem tQ {h:Hp}{N:Nat→Prop}:∀{l:List St} {us:List Value} {x:St} {cs:List Value},cG h N l us→us.length=l.length*9→uF h N x cs→cs.length=9→cG h N (l++[x]) (us++cs)
 |[],us,x,cs,hl,hn,hx,hc=>by
  unfold cG at hl;subst hl;rw [Z4,Z4];unfold cG;rw [List.take_of_length_le (by omega),List.drop_of_length_le (by omega)]
  refine ⟨hx,?_⟩;unfold cG;rfl
 |y::r,us,x,cs,hl,hn,hx,hc=>by
  unfold cG at hl;rw [Qu];unfold cG;simp only [Qn] at hn;rw [Q0 (by omega),Q1 (by omega)]
  exact ⟨hl.1,tQ hl.2 (by rw [Qs];omega) hx hc⟩
def NS (h:Hp)(N:Nat→Prop)(s:Sg)(cs:List Value):Prop:=∃vp vb,cs=sgC s vp vb∧SlN h N 2 vp s.ps.length (s.ps.flatMap pf)∧AL vp∧qk h N vb s.body
def dH (h:Hp)(N:Nat→Prop):List Sg→List Value→Prop
 |[],us=>us=[]
 |x::r,us=>NS h N x (us.take 4)∧dH h N r (us.drop 4)
theorem sj {h h':Hp}{N N':Nat→Prop}(f:∀sz v n us,SlN h N sz v n us→SlN h' N' sz v n us):∀(l:List Sg) {us:List Value},dH h N l us→dH h' N' l us
 |[],us,hs=>by
  unfold dH at hs ⊢;exact hs
 |x::r,us,hs=>by
  unfold dH at hs ⊢;obtain ⟨⟨vp,vb,h1,h2,hn,h3⟩,h4⟩:=hs;exact ⟨⟨vp,vb,h1,f _ _ _ _ h2,hn,h3.map f⟩,sj f r h4⟩
theorem dH.at {h:Hp}{N:Nat→Prop}:∀(l:List Sg) {us:List Value},dH h N l us→gS h l us
 |[],us,hs=>by
  unfold dH at hs;unfold gS;exact hs
 |x::r,us,hs=>by
  unfold dH at hs;unfold gS;obtain ⟨⟨vp,vb,h1,h2,hn,h3⟩,h4⟩:=hs;exact ⟨⟨vp,vb,h1,⟨h2.1.1,hn⟩,h3.at⟩,dH.at r h4⟩
theorem uj {h:Hp}{N:Nat→Prop}:∀{l:List Sg} {us:List Value} {x:Sg} {cs:List Value},dH h N l us→us.length=l.length*4→NS h N x cs→cs.length=4→dH h N (l++[x]) (us++cs)
 |[],us,x,cs,hl,hn,hx,hc=>by
  unfold dH at hl;subst hl;rw [Z4,Z4];unfold dH;rw [List.take_of_length_le (by omega),List.drop_of_length_le (by omega)]
  refine ⟨hx,?_⟩;unfold dH;rfl
 |y::r,us,x,cs,hl,hn,hx,hc=>by
  unfold dH at hl;rw [Qu];unfold dH;simp only [Qn] at hn;rw [Q0 (by omega),Q1 (by omega)]
  exact ⟨hl.1,uj hl.2 (by rw [Qs];omega) hx hc⟩
theorem DY {h:Hp}{N:Nat→Prop}:ch h N [] []:=by unfold ch;rfl
theorem DM {h:Hp}{N:Nat→Prop}:cG h N [] []:=by unfold cG;rfl
theorem DP {h:Hp}{N:Nat→Prop}:dH h N [] []:=by unfold dH;rfl
theorem fU.b8 {h:Hp}{N:Nat→Prop}{v:Value}{l:List Ex}(hs:fU h N v l):b8 v:=hs.at.b8
theorem qk.b8 {h:Hp}{N:Nat→Prop}{v:Value}{l:List St}(hs:qk h N v l):b8 v:=hs.at.b8
theorem ExS.zU {h0 h:Hp}{v:Value}{l:List Ex}(hs:ExS h0 v l)(k:KF h0 h){i:Nat}{x:Ex}(hx:l[i]?=some x){K:List Value→Prop}(hk:∀w,ExS h0 w x.l→K (exC x w)) :
  aI v fun a l _=>0≤(i:Int)∧(i:Int) < (l:Int)∧∃C,aj h (Addr.add a (Int.toNat (i:Int)*4)) 4 C∧K C:=by
 obtain ⟨us,w,h1,h2,h3⟩:=hs.at_ hx;exact bm.rdC (h1.aC k) (Q6.1 hx).1 (by rw [h2];exact hk w h3)
theorem StS.zU {h0 h:Hp}{v:Value}{l:List St}(hs:StS h0 v l)(k:KF h0 h){i:Nat}{x:St}(hx:l[i]?=some x){K:List Value→Prop}(hk:∀ve vb vl,ExS h0 ve x.e→StS h0 vb x.body→StS h0 vl x.els→K (stC x ve vb vl)) :
  aI v fun a l _=>0≤(i:Int)∧(i:Int) < (l:Int)∧∃C,aj h (Addr.add a (Int.toNat (i:Int)*9)) 9 C∧K C:=by
 obtain ⟨us,ve,vb,vl,h1,h2,h3,h4,h5⟩:=hs.at_ hx;exact bm.rdC (h1.aC k) (Q6.1 hx).1 (by rw [h2];exact hk _ _ _ h3 h4 h5)
theorem SgS.zU {h0 h:Hp}{v:Value}{l:List Sg}(hs:SgS h0 v l)(k:KF h0 h){i:Nat}{x:Sg}(hx:l[i]?=some x){K:List Value→Prop}(hk:∀vp vb,PsS h0 vp x.ps→StS h0 vb x.body→K (sgC x vp vb)) :
  aI v fun a l _=>0≤(i:Int)∧(i:Int) < (l:Int)∧∃C,aj h (Addr.add a (Int.toNat (i:Int)*4)) 4 C∧K C:=by
 obtain ⟨us,vp,vb,h1,h2,h3,h4⟩:=hs.at_ hx;exact bm.rdC (h1.aC k) (Q6.1 hx).1 (by rw [h2];exact hk _ _ h3 h4)
end Go.Sx.Rn
