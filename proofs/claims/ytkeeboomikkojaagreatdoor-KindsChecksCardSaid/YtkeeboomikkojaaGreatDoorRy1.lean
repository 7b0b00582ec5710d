import Derived.Test.YtkeeboomikkojaaGreatDoorRx4
namespace Go.Proofs.YtkeeboomikkojaaGreatDoor
open Go Go.Sx Go.Sx.Tk Go.Sx.Rn Go.Proofs.YtkeeboomikkojaaGreatDoor.Sx
abbrev sh (D:Int)(l:List Tok):List Tok:=l.map (rq D)
theorem tw {D:Int}{l y:List Tok}(h:l≠[]):(sh D l++y).tail=sh D l.tail++y:=by
 cases l with
 |nil=>exact absurd rfl h
 |cons t r=>rfl
theorem By {e e' D c:Int}{l y:List Tok}(h:l≠[]):qu e' c (sh D l++y)=((qu e c l).1,(qu e c l).2+D):=by
 cases l with
 |nil=>exact absurd rfl h
 |cons t r=>rfl
theorem zG {s:List UInt8}{l:List Tok}(h:isT s l=true):l≠[]:=by
 cases l with
 |nil=>cases h
 |cons t r=>simp
def x5 (x:Int×Int):Prop:=x.1=5∨x.1=7
theorem vW {e c:Int}(h7:c≠7):¬x5 (qu e c []):=by
 show ¬((if c=5 then (6:Int) else c)=5∨(if c=5 then (6:Int) else c)=7)
 split
 ·omega
 ·omega
def S {α:Type}(rs:α→List Tok)(u:α→α)(y:List Tok)(D:Int)(r r':Except (Int×Int) α):Prop:=match r with
 |.ok a=>(rs a≠[]∨y=[])→r'=.ok (u a)
 |.error x=>x5 x→r'=.error (x.1,x.2+D)
def Vac {α:Type}(rs:α→List Tok):Except (Int×Int) α→Prop
 |.ok a=>rs a=[]
 |.error x=>¬x5 x
theorem S.bind {α β:Type}{rs:α→List Tok}{u:α→α}{rs2:β→List Tok}{u2:β→β}{y:List Tok}{D:Int}{r r':Except (Int×Int) α}{k k':α→Except (Int×Int) β}(h:S rs u y D r r')
  (hk:∀a,r=.ok a→(rs a≠[]∨y=[])→S rs2 u2 y D (k a) (k' (u a))) (hv:∀a,r=.ok a→rs a=[]→Vac rs2 (k a)):S rs2 u2 y D (aH r k) (aH r' k'):=by
 cases r with
 |error x =>
  intro hx;rw [h hx];rfl
 |ok a =>
  rcases Decidable.em (rs a≠[]∨y=[]) with hc|hc
  ·rw [h hc];exact hk a rfl hc
  ·have h1:rs a=[]:=by
    cases hr:rs a with
    |nil=>rfl
    |cons t l=>exact absurd (.inl (by rw [hr];simp)) hc
   have hv:=hv a rfl h1;show S rs2 u2 y D (k a) _;cases hk:k a with
   |ok b =>
    rw [hk] at hv;intro hb;rcases hb with hb|hb
    ·exact absurd hv hb
    ·exact absurd (.inr hb) hc
   |error x =>
    rw [hk] at hv;intro hx;exact absurd hx hv
abbrev rs3 {α:Type}:α×Nat×List Tok→List Tok:=fun r=>r.2.2
abbrev u3 {α:Type}(D:Int)(y:List Tok):α×Nat×List Tok→α×Nat×List Tok:=fun r=>(r.1,r.2.1,sh D r.2.2++y)
abbrev rs2 {α:Type}:α×List Tok→List Tok:=fun r=>r.2
abbrev u2 {α:Type}(D:Int)(y:List Tok):α×List Tok→α×List Tok:=fun r=>(r.1,sh D r.2++y)
theorem S.Pv {α:Type}{rs:α→List Tok}{u:α→α}{y:List Tok}{D e e' c:Int}{l:List Tok}(h7:c≠7)(hl:l≠[]∨y=[]):S rs u y D (.error (qu e c l)) (.error (qu e' c (sh D l++y))):=by
 intro hx;cases l with
 |nil=>exact absurd hx (vW h7)
 |cons t r=>rfl
theorem S.Ov {α:Type}{rs:α→List Tok}{u:α→α}{y:List Tok}{D e e' c:Int}{l:List Tok}(hl:l≠[]):S rs u y D (.error (qu e c l)) (.error (qu e' c (sh D l++y))):=fun _=>by
 rw [By (e:=e) hl]
theorem S.ok {α:Type}{rs:α→List Tok}{u:α→α}{y:List Tok}{D:Int}{a:α}{r':Except (Int×Int) α}(h:r'=.ok (u a)):S rs u y D (.ok a) r':=fun _=>h
theorem S.err {α:Type}{rs:α→List Tok}{u:α→α}{y:List Tok}{D:Int}{x:Int×Int}{r':Except (Int×Int) α}(h:r'=.error (x.1,x.2+D)):S rs u y D (.error x) r':=fun _=>h
theorem S.vac {α:Type}{rs:α→List Tok}{u:α→α}{y:List Tok}{D:Int}{x:Int×Int}{r':Except (Int×Int) α}(h:¬x5 x):S rs u y D (.error x) r':=fun hx=>absurd hx h
theorem n6 {a:Int}:¬x5 (6,a):=by rintro (h|h)<;>cases h
theorem n8 {a:Int}:¬x5 (8,a):=by rintro (h|h)<;>cases h
theorem yb {e:Int}{f o:Nat}{x:Ex}{n:Nat}(h:f≠0):rE e f o x n []=.ok (x,n,[]):=by
 obtain ⟨f,rfl⟩:∃q,f=q+1:=⟨f - 1,by omega⟩
 unfold rE;rfl
theorem y8 {e:Int}{f o:Nat}{x:Ex}{n:Nat}(h:f≠0):fZ e f o x n []=.ok (x,n,[]):=by
 obtain ⟨f,rfl⟩:∃q,f=q+1:=⟨f - 1,by omega⟩
 unfold fZ;rfl
theorem tm (s:List UInt8):isT s []=false:=rfl
theorem P3 (e e' D:Int)(y:List Tok):∀f:Nat,
  (∀{f' o n l},4*l.length+4≤f→4*(l.length+y.length)+4≤f'→S rs3 (u3 D y) y D (rK e f o n l) (rK e' f' o n (sh D l++y))) ∧
  (∀{f' o n l},4*l.length+3≤f→4*(l.length+y.length)+3≤f'→S rs3 (u3 D y) y D (qM e f o n l) (qM e' f' o n (sh D l++y))) ∧
  (∀{f' o x n l},(l≠[]∨y=[])→4*l.length+1≤f→4*(l.length+y.length)+1≤f'→S rs3 (u3 D y) y D (rE e f o x n l) (rE e' f' o x n (sh D l++y))) ∧
  (∀{f' o n l},4*l.length+2≤f→4*(l.length+y.length)+2≤f'→S rs3 (u3 D y) y D (fU e f o n l) (fU e' f' o n (sh D l++y))) ∧
  (∀{f' o x n l},(l≠[]∨y=[])→4*l.length+1≤f→4*(l.length+y.length)+1≤f'→S rs3 (u3 D y) y D (fZ e f o x n l) (fZ e' f' o x n (sh D l++y))) ∧
  (∀{f' o n l},4*l.length+1≤f→4*(l.length+y.length)+1≤f'→S rs3 (u3 D y) y D (cx e f o n l) (cx e' f' o n (sh D l++y))):=by
 intro f
 induction f with
 |zero=>exact ⟨fun h=>by omega,fun h=>by omega,fun _ h=>by omega,fun h=>by omega,fun _ h=>by omega,fun h=>by omega⟩
 |succ f ih =>
  obtain ⟨i1,i2,i3,i4,i5,i6⟩:=ih;obtain ⟨-,p2,-,p4,-,p6⟩:=HH e f;have hT:∀{s:List UInt8} {l:List Tok},(l≠[]∨y=[])→isT s (sh D l++y)=isT s l:=by
   intro s l h;cases l with
   |nil =>
    rcases h with h|h
    ·exact absurd rfl h
    ·rw [h];rfl
   |cons t r=>rfl
  -- behind an operator
  have tl:∀{s:List UInt8} {l:List Tok},isT s l=true→(sh D l++y).tail=sh D l.tail++y∧l.length=l.tail.length+1:=fun h=>⟨tw (zG h),cr h⟩;refine ⟨?_,?_,?_,?_,?_,?_⟩
  ·intro f' o n l hf hf';obtain ⟨f',rfl⟩:∃q,f'=q+1:=⟨f' - 1,by omega⟩
   unfold rK;refine (i2 (by omega) (by omega)).bind (fun a ha hc=>?_) (fun a ha h0=>?_)
   ·have hlen:=(p2 ha).1;show S rs3 (u3 D y) y D _ (if isT [60] (sh D a.2.2++y)=true then aH (qM e' f' o a.2.1 (sh D a.2.2++y).tail) _ else if isT [61,61] (sh D a.2.2++y)=true then aH (qM e' f' o a.2.1 (sh D a.2.2++y).tail) _ else _)
    rw [hT hc,hT hc]
    split
    ·rename_i h1;obtain ⟨h2,h3⟩:=tl h1;rw [h2];exact (i2 (by omega) (by omega)).bind (fun b hb hc2=>S.ok rfl) fun b hb h0=>h0
    split
    ·rename_i h1;obtain ⟨h2,h3⟩:=tl h1;rw [h2];exact (i2 (by omega) (by omega)).bind (fun b hb hc2=>S.ok rfl) fun b hb h0=>h0
    ·exact S.ok rfl
   ·show Vac rs3 (if isT [60] a.2.2=true then _ else if isT [61,61] a.2.2=true then _ else _)
    rw [show a.2.2=[] from h0]
    exact h0
  ·intro f' o n l hf hf';obtain ⟨f',rfl⟩:∃q,f'=q+1:=⟨f' - 1,by omega⟩
   unfold qM;refine (i4 (by omega) (by omega)).bind (fun a ha hc=>?_) (fun a ha h0=>?_)
   ·have hlen:=(p4 ha).1;exact i3 hc (by omega) (by omega)
   ·show Vac rs3 (rE e f o a.1 a.2.1 a.2.2);rw [show a.2.2=[] from h0,yb (by omega)]
    rfl
  ·intro f' o x n l hl hf hf';obtain ⟨f',rfl⟩:∃q,f'=q+1:=⟨f' - 1,by omega⟩
   unfold rE;rw [hT hl,hT hl]
   split
   ·rename_i h1;obtain ⟨h2,h3⟩:=tl h1;rw [h2];refine (i4 (by omega) (by omega)).bind (fun a ha hc=>?_) (fun a ha h0=>?_)
    ·have hlen:=(p4 ha).1;exact i3 hc (by omega) (by omega)
    ·show Vac rs3 (rE e f o _ _ a.2.2);rw [show a.2.2=[] from h0,yb (by omega)]
     rfl
   split
   ·rename_i h1;obtain ⟨h2,h3⟩:=tl h1;rw [h2];refine (i4 (by omega) (by omega)).bind (fun a ha hc=>?_) (fun a ha h0=>?_)
    ·have hlen:=(p4 ha).1;exact i3 hc (by omega) (by omega)
    ·show Vac rs3 (rE e f o _ _ a.2.2);rw [show a.2.2=[] from h0,yb (by omega)]
     rfl
   ·exact S.ok rfl
  ·intro f' o n l hf hf';obtain ⟨f',rfl⟩:∃q,f'=q+1:=⟨f' - 1,by omega⟩
   unfold fU;refine (i6 (by omega) (by omega)).bind (fun a ha hc=>?_) (fun a ha h0=>?_)
   ·have hlen:=(p6 ha).1;exact i5 hc (by omega) (by omega)
   ·show Vac rs3 (fZ e f o a.1 a.2.1 a.2.2);rw [show a.2.2=[] from h0,y8 (by omega)]
    rfl
  ·intro f' o x n l hl hf hf';obtain ⟨f',rfl⟩:∃q,f'=q+1:=⟨f' - 1,by omega⟩
   unfold fZ;rw [hT hl]
   split
   ·rename_i h1;obtain ⟨h2,h3⟩:=tl h1;rw [h2];refine (i6 (by omega) (by omega)).bind (fun a ha hc=>?_) (fun a ha h0=>?_)
    ·have hlen:=(p6 ha).1;exact i5 hc (by omega) (by omega)
    ·show Vac rs3 (fZ e f o _ _ a.2.2);rw [show a.2.2=[] from h0,y8 (by omega)]
     rfl
   ·exact S.ok rfl
  ·intro f' o n l hf hf';obtain ⟨f',rfl⟩:∃q,f'=q+1:=⟨f' - 1,by omega⟩
   cases l with
   |nil =>
    rw [show (cx e (f+1) o n []:PR Ex)=.error (6,e) from by unfold cx;rfl]
    exact S.vac n6
   |cons t r =>
    simp only [Qn] at hf hf';have hc0:(t::r)≠[]∨y=[]:=.inl (by simp)
    unfold cx;rw [hT hc0,hT hc0]
    split
    ·rename_i h1;obtain ⟨h2,h3⟩:=tl h1;rw [h2]
     split
     ·exact S.Ov (by simp)
     ·refine (i1 (by show 4*r.length+4≤f;omega) (by show 4*(r.length+y.length)+4≤f';omega)).bind (fun a ha hc=>?_) (fun a ha h0=>?_)
      ·show S rs3 (u3 D y) y D _ (if isT [41] (sh D a.2.2++y)=true then .ok (a.1,a.2.1,(sh D a.2.2++y).tail) else .error (qu e' 5 (sh D a.2.2++y)))
       rw [hT hc]
       split
       ·rename_i h4;obtain ⟨h5,h6⟩:=tl h4;rw [h5];exact S.ok rfl
       ·exact S.Pv (by decide) hc
      ·rw [show a.2.2=[] from h0,tm,if_neg Qe]
       exact vW (by decide)
    split
    ·rename_i h1;obtain ⟨h2,h3⟩:=tl h1;rw [h2]
     split
     ·exact S.Ov (by simp)
     ·exact (i6 (by show 4*r.length+1≤f;omega) (by show 4*(r.length+y.length)+1≤f';omega)).bind (fun a ha hc=>S.ok rfl) (fun a ha h0=>h0)
    ·show S rs3 (u3 D y) y D (if t.kind=3 then .ok (nX t.n,n+1,r) else if t.kind=2 then .ok (fI t.text,n+1,r) else .error (5,t.at_)) (if t.kind=3 then .ok (nX t.n,n+1,sh D r++y) else if t.kind=2 then .ok (fI t.text,n+1,sh D r++y) else .error (5,t.at_+D))
     split
     ·exact S.ok rfl
     split
     ·exact S.ok rfl
     ·exact S.err rfl
section
variable  {e e' D:Int}{y:List Tok}
theorem sd (l:List Tok):S rs2 (u2 D y) y D (iW e l) (iW e' (sh D l++y)):=by
 cases l with
 |nil=>exact S.vac n6
 |cons t r =>
  show S rs2 (u2 D y) y D _ (iW e' (rq D t::(sh D r++y)));rw [fh,fh];refine ((P3 e e' D y _).1 (Zc _) (f':=4*(rq D t::(sh D r++y)).length+4) (by simp only [Qn,Qd,Z5];omega)).bind (fun a ha hc=>?_) (fun a ha h0=>?_)
  ·show S rs2 (u2 D y) y D _ (if 20 < a.2.1 then .error (8,t.at_+D) else .ok (a.1,sh D a.2.2++y))
   split
   ·exact S.err rfl
   ·exact S.ok rfl
  ·split
   ·exact n8
   ·exact h0
theorem mZ (l:List Tok):S rs2 (u2 D y) y D (eV e l) (eV e' (sh D l++y)):=by
 cases l with
 |nil=>exact S.vac n6
 |cons t r =>
  show S rs2 (u2 D y) y D (if t.kind=2 then .ok (t.text,r) else .error (5,t.at_)) (if t.kind=2 then .ok (t.text,sh D r++y) else .error (5,t.at_+D))
  split
  ·exact S.ok rfl
  ·exact S.err rfl
theorem MI (l:List Tok):S rs2 (u2 D y) y D (Em e l) (Em e' (sh D l++y)):=by
 cases l with
 |nil=>exact S.vac n6
 |cons t r =>
  show S rs2 (u2 D y) y D (if t.kind=3 then .ok (t.n,r) else .error (5,t.at_)) (if t.kind=3 then .ok (t.n,sh D r++y) else .error (5,t.at_+D))
  split
  ·exact S.ok rfl
  ·exact S.err rfl
abbrev rs1:List Tok→List Tok:=fun r=>r
abbrev u1 (D:Int)(y:List Tok):List Tok→List Tok:=fun r=>sh D r++y
theorem mB (s:List UInt8)(l:List Tok):S rs1 (u1 D y) y D (bH e s l) (bH e' s (sh D l++y)):=by
 cases l with
 |nil=>exact S.vac (vW (by decide))
 |cons t r =>
  show S rs1 (u1 D y) y D (if isT s (t::r)=true then .ok r else .error (5,t.at_)) (if isT s (t::r)=true then .ok (sh D r++y) else .error (5,t.at_+D))
  split
  ·exact S.ok rfl
  ·exact S.err rfl
theorem Bo:∀(l:List Tok) (acc:List UInt8),S rs2 (u2 D y) y D (rR e acc l) (rR e' acc (sh D l++y))
 |[],acc=>by
  rw [show (rR e acc []:Except (Int×Int) (List UInt8×List Tok))=.error (6,e) from by unfold rR;rfl]
  exact S.vac n6
 |t::r,acc=>by
  show S rs2 (u2 D y) y D _ (rR e' acc (rq D t::(sh D r++y)));rw [ir,ir];show S rs2 (u2 D y) y D _ (if isT [105,110,116] (t::r)=true then .ok (acc++[105],sh D r++y) else if (isT [115,101,110,100] (t::r)||isT [114,101,99,118] (t::r))=true then (if acc.length=3 then .error (7,t.at_+D) else rR e' (acc++(bytesOf t.text).take 1) (sh D r++y)) else .error (5,t.at_+D))
  split
  ·exact S.ok rfl
  split
  ·split
   ·exact S.err rfl
   ·exact Bo r _
  ·exact S.err rfl
theorem sj {α:Type}{rs:α→List Tok}(s:List UInt8)(k:List Tok→Except (Int×Int) α):Vac rs (aH (bH e s []) k):=vW (by decide)
theorem sP {α:Type}{rs:α→List Tok}(k:ByteArray×List Tok→Except (Int×Int) α):Vac rs (aH (eV e []) k):=n6
theorem Md {α:Type}{rs:α→List Tok}(k:Int×List Tok→Except (Int×Int) α):Vac rs (aH (Em e []) k):=n6
theorem ub {α:Type}{rs:α→List Tok}(k:Ex×List Tok→Except (Int×Int) α):Vac rs (aH (iW e []) k):=n6
theorem Fw {α:Type}{rs:α→List Tok}(acc:List UInt8)(k:List UInt8×List Tok→Except (Int×Int) α):Vac rs (aH (rR e acc []) k):=by
 rw [show (rR e acc []:Except (Int×Int) (List UInt8×List Tok))=.error (6,e) from by unfold rR;rfl]
 exact n6
end
theorem uf (e:Int)(f:Nat)(acc:List Ex)(l:List Tok):eC e (f+1) acc l=if isT [41] l then .ok (acc,l.tail)
  else aH (if acc.length=0 then .ok l else bH e [44] l) fun l=>if acc.length=6 then .error (qu e 8 l) else aH (iW e l) fun q=>eC e f (acc++[q.1]) q.2:=by
 conv=>lhs;unfold eC
section
variable  {e e' D:Int}{y:List Tok}
theorem x4 {f:Nat}{acc:List Ex}(hf:f≠0):Vac rs2 (eC e f acc []):=by
 obtain ⟨f,rfl⟩:∃q,f=q+1:=⟨f - 1,by omega⟩
 rw [uf,tm,if_neg Qe]
 split
 ·rw [aC]
  split
  ·exact vW (by decide)
  ·exact ub _
 ·exact sj _ _
theorem yK {f:Nat}{acc:List (ByteArray×ByteArray)}(hf:f≠0):Vac rs2 (fY e f acc []):=by
 obtain ⟨f,rfl⟩:∃q,f=q+1:=⟨f - 1,by omega⟩
 rw [rY,tm,if_neg Qe]
 split
 ·rw [aC]
  split
  ·exact vW (by decide)
  ·exact sP _
 ·exact sj _ _
theorem S.DF {α:Type}{rs:α→List Tok}{u:α→α}{r r':Except (Int×Int) α}(hy:y≠[])(h:Vac rs r):S rs u y D r r':=by
 cases r with
 |ok a =>
  intro hc;rcases hc with hc|hc
  ·exact absurd h hc
  ·exact absurd hc hy
 |error x=>exact fun hx=>absurd hx h
theorem B9:∀(f:Nat) {f':Nat} {acc:List Ex} {l:List Tok},l.length+1≤f→l.length+y.length+1≤f'→S rs2 (u2 D y) y D (eC e f acc l) (eC e' f' acc (sh D l++y))
 |0,_,_,_,hf,_=>by omega
 |f+1,f',acc,l,hf,hf'=>by
  obtain ⟨f',rfl⟩:∃q,f'=q+1:=⟨f' - 1,by omega⟩
  by_cases hl:l≠[]∨y=[]
  ·have hT:∀{s:List UInt8},isT s (sh D l++y)=isT s l:=by
    intro s;cases l with
    |nil =>
     rcases hl with h|h
     ·exact absurd rfl h
     ·rw [h];rfl
    |cons t r=>rfl
   rw [uf,uf,hT]
   split
   ·rename_i h1;rw [tw (zG h1)];exact S.ok rfl
   ·refine S.bind (rs:=rs1) (u:=u1 D y) ?_ (fun a ha hc=>?_) (fun a ha h0=>?_)
    ·split
     ·exact S.ok rfl
     ·exact mB _ _
    ·have hla:a.length≤l.length:=by
      split at ha
      ·cases ha;exact Zc _
      ·have:=bU ha;omega
     split
     ·exact S.Pv (by decide) hc
     ·refine (sd a).bind (fun b hb hc2=>?_) (fun b hb h0=>?_)
      ·have:=iI hb;exact B9 f (by omega) (by omega)
      ·show Vac rs2 (eC e f _ b.2);rw [show b.2=[] from h0]
       refine x4 ?_;have:=iI hb;omega
    ·rw [show a=[] from h0]
     split
     ·exact vW (by decide)
     ·exact ub _
  ·have h0:l=[]:=by
    cases l with
    |nil=>rfl
    |cons t r=>exact absurd (.inl (by simp)) hl
   subst h0;exact S.DF (fun h=>hl (.inr h)) (x4 (by omega))
theorem Cx:∀(f:Nat) {f':Nat} {acc:List (ByteArray×ByteArray)} {l:List Tok},l.length+1≤f→l.length+y.length+1≤f'→S rs2 (u2 D y) y D (fY e f acc l) (fY e' f' acc (sh D l++y))
 |0,_,_,_,hf,_=>by omega
 |f+1,f',acc,l,hf,hf'=>by
  obtain ⟨f',rfl⟩:∃q,f'=q+1:=⟨f' - 1,by omega⟩
  by_cases hl:l≠[]∨y=[]
  ·have hT:∀{s:List UInt8},isT s (sh D l++y)=isT s l:=by
    intro s;cases l with
    |nil =>
     rcases hl with h|h
     ·exact absurd rfl h
     ·rw [h];rfl
    |cons t r=>rfl
   rw [rY,rY,hT]
   split
   ·rename_i h1;rw [tw (zG h1)];exact S.ok rfl
   ·refine S.bind (rs:=rs1) (u:=u1 D y) ?_ (fun a ha hc=>?_) (fun a ha h0=>?_)
    ·split
     ·exact S.ok rfl
     ·exact mB _ _
    ·have hla:a.length≤l.length:=by
      split at ha
      ·cases ha;exact Zc _
      ·have:=bU ha;omega
     split
     ·exact S.Pv (by decide) hc
     ·refine (mZ a).bind (fun b hb hc2=>?_) (fun b hb h0=>?_)
      ·have h3:=cl hb;refine (Bo b.2 []).bind (fun c hc hc3=>?_) (fun c hc h0=>?_)
       ·have:=qv hc;exact Cx f (by omega) (by omega)
       ·show Vac rs2 (fY e f _ c.2);rw [show c.2=[] from h0]
        refine yK ?_;have:=qv hc;omega
      ·rw [show b.2=[] from h0]
       exact Fw _ _
    ·rw [show a=[] from h0]
     split
     ·exact vW (by decide)
     ·exact sP _
  ·have h0:l=[]:=by
    cases l with
    |nil=>rfl
    |cons t r=>exact absurd (.inl (by simp)) hl
   subst h0;exact S.DF (fun h=>hl (.inr h)) (yK (by omega))
theorem EZ (d:Nat)(l:List Tok):S rs2 (u2 D y) y D (cz e d l) (cz e' d (sh D l++y)):=by
 unfold cz
 split
 ·exact (sd l).bind (fun b hb hc2=>S.ok rfl) (fun b hb h0=>h0)
 ·refine (mZ l).bind (fun a ha hc=>?_) (fun a ha h0=>?_)
  ·split
   ·refine (mB _ _).bind (fun b hb hc2=>?_) (fun b hb h0=>?_)
    ·exact (sd b).bind (fun c hc hc3=>S.ok rfl) (fun c hc h0=>h0)
    ·rw [show b=[] from h0]
     exact ub _
   split
   ·refine (mZ a.2).bind (fun b hb hc2=>?_) (fun b hb h0=>?_)
    ·refine (Bo b.2 []).bind (fun c hc hc3=>?_) (fun c hc h0=>?_)
     ·exact (MI c.2).bind (fun q hq hc4=>S.ok rfl) (fun q hq h0=>h0)
     ·rw [show c.2=[] from h0]
      exact Md _
    ·rw [show b.2=[] from h0]
     exact Fw _ _
   split
   ·exact (mZ a.2).bind (fun b hb hc2=>S.ok rfl) (fun b hb h0=>h0)
   split
   ·exact (sd a.2).bind (fun b hb hc2=>S.ok rfl) (fun b hb h0=>h0)
   split
   ·refine (mB _ a.2).bind (fun b hb hc2=>?_) (fun b hb h0=>?_)
    ·refine S.bind (B9 (b.length+1) (f':=(sh D b++y).length+1) (acc:=[]) (Zc _) (by simp)) (fun c hc hc3=>S.ok rfl) (fun c hc h0=>h0)
    ·rw [show b=[] from h0]
     have:=x4 (e:=e) (f:=1) (acc:=[]) (by decide)
     show Vac rs2 (aH (eC e 1 [] []) _);cases hq:eC e 1 [] [] with
     |ok c =>
      rw [hq] at this;exact this
     |error x =>
      rw [hq] at this;exact this
   ·exact S.ok rfl
  ·rw [show a.2=[] from h0]
   split
   ·exact sj _ _
   split
   ·exact sP _
   split
   ·exact sP _
   split
   ·exact ub _
   split
   ·exact sj _ _
   ·rfl
theorem Ik (d:Nat)(l:List Tok):S rs2 (u2 D y) y D (iD e d l) (iD e' d (sh D l++y)):=by
 unfold iD
 split
 ·refine (mZ l).bind (fun a ha hc=>?_) (fun a ha h0=>?_)
  ·refine (mB _ a.2).bind (fun b hb hc2=>?_) (fun b hb h0=>?_)
   ·exact (mZ b).bind (fun c hc hc3=>S.ok rfl) (fun c hc h0=>h0)
   ·rw [show b=[] from h0]
    exact sP _
  ·rw [show a.2=[] from h0]
   exact sj _ _
 ·exact (sd l).bind (fun b hb hc2=>S.ok rfl) (fun b hb h0=>h0)
end
mutual
def Ek (D:Int):St→St
 |.mk d at_ a b t n e body els=>.mk d (at_+D) a b t n e (pz D body) (pz D els)
def pz (D:Int):List St→List St
 |[]=>[]
 |x::r=>Ek D x::pz D r
end
def O2 (D:Int)(s:Sg):Sg:=⟨s.nm,s.at_+D,s.ps,pz D s.body⟩
theorem x6 (D d at_:Int)(a b t:ByteArray)(n:Int)(e:List Ex)(body els:List St):Ek D (.mk d at_ a b t n e body els)=.mk d (at_+D) a b t n e (pz D body) (pz D els):=by
 conv=>lhs;unfold Ek
theorem pO (D:Int):pz D []=[]:=by unfold pz;rfl
theorem qN (D:Int)(x:St)(r:List St):pz D (x::r)=Ek D x::pz D r:=by conv=>lhs;unfold pz
theorem wG (D:Int):∀(l:List St) (x:St),pz D (l++[x])=pz D l++[Ek D x]
 |[],x=>by rw [Z4,qN,pO];rfl
 |y::r,x=>by rw [Qu,qN,qN,wG D r x];rfl
theorem PQ (e:Int):∀f:Nat,(∀{deep n l r},bQ e f deep n l=.ok r→r.2.1=n+eS r.1)∧(∀{deep acc n l r},dC e f deep acc n l=.ok r→r.2.1+eS acc=n+eS r.1∧n≤r.2.1)∧(∀{deep n l r},eY e f deep n l=.ok r→r.2.1=n+stQ r.1):=by
 intro f
 induction f with
 |zero =>
  refine ⟨?_,?_,?_⟩
  ·intro deep n l r h;unfold bQ at h;cases h
  ·intro deep acc n l r h;unfold dC at h;cases h
  ·intro deep n l r h;unfold eY at h;cases h
 |succ f ih =>
  obtain ⟨i1,i2,i3⟩:=ih;refine ⟨?_,?_,?_⟩
  ·intro deep n l r h;rw [iw] at h
   split at h
   ·split at h
    ·cases h
    ·have:=(i2 h).1;rw [qG] at this;omega
   ·cases h
  ·intro deep acc n l r h;rw [lN] at h
   split at h
   ·cases h;exact ⟨rfl,Zc _⟩
   ·obtain ⟨a,ha,h⟩:=aj h;have h1:=i3 ha;obtain ⟨h2,h3⟩:=i2 h;rw [Hn] at h2;exact ⟨by omega,by omega⟩
  ·intro deep n l r h;cases l with
   |nil =>
    rw [jP] at h;cases h
   |cons t q =>
    rw [gO] at h
    split at h
    ·split at h
     ·cases h
     split at h
     ·obtain ⟨s,hs,h⟩:=aj h;obtain ⟨l,hl,h⟩:=aj h;cases h;show n+1=n+stQ _;rw [zX];show n+1=n+(1+eS []+eS []);rw [qG]
     ·obtain ⟨s,hs,h⟩:=aj h;obtain ⟨b,hb,h⟩:=aj h;have h1:=i1 hb
      split at h
      ·obtain ⟨q2,hq,h⟩:=aj h;have h2:=i1 hq;cases h;show q2.2.1=n+stQ _;rw [zX];show q2.2.1=n+(1+eS b.1+eS q2.1);omega
      ·cases h;show b.2.1=n+stQ _;rw [zX];show b.2.1=n+(1+eS b.1+eS []);rw [qG];omega
    ·cases h
def TS {β:Type}(c:Bool)(φ:β→β)(y:List Tok)(D:Int)(d:Nat)(r r':PR β):Prop:=match r with
 |.ok a=>(c=true∨a.2.2≠[]∨y=[])→if a.2.1+d≤300 then r'=.ok (φ a.1,a.2.1+d,sh D a.2.2++y) else ∃q,r'=.error (8,q)
 |.error x=>d=0→x5 x→r'=.error (x.1,x.2+D)
def O3 {β:Type}(c:Bool):PR β→Prop
 |.ok a=>c=false∧a.2.2=[]
 |.error x=>¬x5 x
section
variable  {β γ:Type}{y:List Tok}{D:Int}{d:Nat}
theorem TS.DF {c:Bool}{φ:β→β}{r r':PR β}(hy:y≠[])(h:O3 c r):TS c φ y D d r r':=by
 cases r with
 |ok a =>
  intro hc;rcases hc with hc|hc|hc
  ·rw [h.1] at hc;cases hc
  ·exact absurd h.2 hc
  ·exact absurd hc hy
 |error x=>exact fun _ hx=>absurd hx h
theorem TS.ok {c:Bool}{φ:β→β}{a:β×Nat×List Tok}{r':PR β}(h3:a.2.1+d≤300)(h:r'=.ok (φ a.1,a.2.1+d,sh D a.2.2++y)):TS c φ y D d (.ok a) r':=fun _=>by
 rw [if_pos h3];exact h
theorem TS.err {c:Bool}{φ:β→β}{x:Int×Int}{r':PR β}(h:r'=.error (x.1,x.2+D)):TS c φ y D d (.error x) r':=fun _ _=>h
theorem TS.vac {c:Bool}{φ:β→β}{x:Int×Int}{r':PR β}(h:¬x5 x):TS c φ y D d (.error x) r':=fun _ hx=>absurd hx h
theorem TS.over {c:Bool}{φ:β→β}{r:PR β}{q:Int}(h:∀a,r=.ok a→300 < a.2.1+d)(h0:d≠0):TS c φ y D d r (.error (8,q)):=by
 cases r with
 |ok a =>
  intro _;rw [if_neg (by have:=h a rfl;omega)]
  exact ⟨_,rfl⟩
 |error x=>exact fun hd=>absurd hd h0
theorem TS.Ei {α:Type}{c:Bool}{φ:β→β}{rs:α→List Tok}{u:α→α}{r r':Except (Int×Int) α}{k k':α→PR β}(h:S rs u y D r r')
  (hk:∀a,r=.ok a→(rs a≠[]∨y=[])→TS c φ y D d (k a) (k' (u a))) (hv:∀a,r=.ok a→rs a=[]→O3 c (k a)):TS c φ y D d (aH r k) (aH r' k'):=by
 cases r with
 |error x =>
  intro _ hx;rw [h hx];rfl
 |ok a =>
  rcases Decidable.em (rs a≠[]∨y=[]) with hc|hc
  ·rw [h hc];exact hk a rfl hc
  ·have h1:rs a=[]:=by
    cases hr:rs a with
    |nil=>rfl
    |cons t l=>exact absurd (.inl (by rw [hr];simp)) hc
   exact TS.DF (fun hy=>hc (.inr hy)) (hv a rfl h1)
theorem TS.IB {c1 c:Bool}{φ:β→β}{ψ:γ→γ}{r r':PR β}{k k':β×Nat×List Tok→PR γ}(h:TS c1 φ y D d r r')(h300:∀a,r=.ok a→a.2.1≤300)(hm:∀a b,r=.ok a→k a=.ok b→a.2.1≤b.2.1)
  (hk:∀a,r=.ok a→(c1=true∨a.2.2≠[]∨y=[])→a.2.1+d≤300→TS c ψ y D d (k a) (k' (φ a.1,a.2.1+d,sh D a.2.2++y))) (hv:∀a,r=.ok a→c1=false→a.2.2=[]→O3 c (k a)):TS c ψ y D d (aH r k) (aH r' k'):=by
 cases r with
 |error x =>
  intro hd hx;rw [h hd hx];rfl
 |ok a =>
  rcases Decidable.em (c1=true∨a.2.2≠[]∨y=[]) with hc|hc
  ·have h1:=h hc
   split at h1
   ·rename_i h3;rw [h1];exact hk a rfl hc h3
   ·rename_i h3;obtain ⟨q,h1⟩:=h1;rw [h1];refine TS.over (fun b hb=>?_) (fun hd=>?_)
    ·have:=hm a b rfl hb;omega
    ·have:=h300 a rfl;omega
  ·have h1:a.2.2=[]:=by
    cases hr:a.2.2 with
    |nil=>rfl
    |cons t l=>exact absurd (.inr (.inl (by rw [hr];simp))) hc
   have h2:c1=false:=by
    cases c1 with
    |false=>rfl
    |true=>exact absurd (.inl rfl) hc
   exact TS.DF (fun hy=>hc (.inr (.inr hy))) (hv a rfl h2 h1)
end
theorem tb {e:Int}{f deep n:Nat}(h:f≠0):bQ e f deep n []=.error (6,e):=by
 obtain ⟨f,rfl⟩:∃q,f=q+1:=⟨f - 1,by omega⟩
 rw [iw,tm,if_neg Qe];rfl
theorem Am {e:Int}{f deep n:Nat}{acc:List St}(h:2≤f):dC e f deep acc n []=.error (6,e):=by
 obtain ⟨f,rfl⟩:∃q,f=q+2:=⟨f - 2,by omega⟩
 rw [lN,tm,if_neg Qe,jP];rfl
theorem P2 (e e' D:Int)(d:Nat)(y:List Tok):∀f:Nat,
  (∀{f' deep n l},3*l.length+3≤f→3*(l.length+y.length)+3≤f'→n+d≤300→TS true (pz D) y D d (bQ e f deep n l) (bQ e' f' deep (n+d) (sh D l++y))) ∧
  (∀{f' deep acc n l},3*l.length+2≤f→3*(l.length+y.length)+2≤f'→n+d≤300→TS true (pz D) y D d (dC e f deep acc n l) (dC e' f' deep (pz D acc) (n+d) (sh D l++y))) ∧
  (∀{f' deep n l},3*l.length+1≤f→3*(l.length+y.length)+1≤f'→n+d≤300→TS false (Ek D) y D d (eY e f deep n l) (eY e' f' deep (n+d) (sh D l++y))):=by
 intro f
 induction f with
 |zero=>exact ⟨fun h=>by omega,fun h=>by omega,fun h=>by omega⟩
 |succ f ih =>
  obtain ⟨i1,i2,i3⟩:=ih;obtain ⟨l1,l2,l3⟩:=Ol e f;obtain ⟨c1,c2,c3⟩:=PQ e f;have hT:∀{s:List UInt8} {l:List Tok},(l≠[]∨y=[])→isT s (sh D l++y)=isT s l:=by
   intro s l h;cases l with
   |nil =>
    rcases h with h|h
    ·exact absurd rfl h
    ·rw [h];rfl
   |cons t r=>rfl
  refine ⟨?_,?_,?_⟩
  ·intro f' deep n l hf hf' hn;obtain ⟨f',rfl⟩:∃q,f'=q+1:=⟨f' - 1,by omega⟩
   cases l with
   |nil =>
    rw [tb (by omega)]
    exact TS.vac n6
   |cons t r =>
    simp only [Qn] at hf hf';rw [iw,iw,hT (.inl (by simp))]
    split
    ·split
     ·exact TS.err (by rw [By (e:=e) (by simp)])
     ·rw [tw (by simp)]
      have:=i2 (f':=f') (deep:=deep+1) (acc:=[]) (n:=n) (l:=r) (by omega) (by omega) hn
      rw [pO] at this;exact this
    ·exact TS.err (by rw [By (e:=e) (by simp)])
  ·intro f' deep acc n l hf hf' hn;obtain ⟨f',rfl⟩:∃q,f'=q+1:=⟨f' - 1,by omega⟩
   cases l with
   |nil =>
    simp only [Qy] at hf hf';rw [Am (by omega)]
    exact TS.vac n6
   |cons t r =>
    simp only [Qn] at hf hf';rw [lN,lN,hT (.inl (by simp))]
    split
    ·rw [tw (by simp)]
     exact TS.ok hn rfl
    ·refine TS.IB (i3 (f':=f') (l:=t::r) (by simp only [Qn];omega) (by simp only [Qn];omega) hn) (fun a ha=>(l3 (by omega) ha).2) (fun a b ha hb=>?_) (fun a ha hc h3=>?_) (fun a ha _ h0=>?_)
     ·exact (c2 hb).2
     ·have h4:=(l3 (by omega) ha).1
      simp only [Qn] at h4;rw [←wG];exact i2 (by omega) (by omega) h3
     ·rw [h0,Am (by omega)]
      exact n6
  ·intro f' deep n l hf hf' hn;obtain ⟨f',rfl⟩:∃q,f'=q+1:=⟨f' - 1,by omega⟩
   cases l with
   |nil =>
    rw [jP];exact TS.vac n6
   |cons t r =>
    simp only [Qn] at hf hf';have hcnt:∀{q:St×Nat×List Tok},eY e (f+1) deep n (t::r)=.ok q→q.2.1=n+stQ q.1:=fun hq=>(PQ e (f+1)).2.2 hq;show TS false (Ek D) y D d _ (eY e' (f'+1) deep (n+d) (rq D t::(sh D r++y)));rw [gO] at hcnt ⊢;rw [gO];simp only [show (rq D t).kind=t.kind from rfl,show (rq D t).text=t.text from rfl,show (rq D t).at_=t.at_+D from rfl]
    generalize doW (bytesOf t.text)=w at *
    by_cases h1:t.kind=1∧w≠0
    ·rw [if_pos h1] at hcnt ⊢;rw [if_pos h1]
     by_cases h2:n=300
     ·rw [if_pos h2];exact TS.vac n8
     rw [if_neg h2] at hcnt ⊢
     by_cases h3:n+d=300
     ·rw [if_pos h3];refine TS.over (fun a ha=>?_) (by omega)
      have h4:=hcnt ha;rw [zX] at h4;omega
     rw [if_neg h3];have h5:n+d+1=n+1+d:=by omega
     have h6:n+1+d≤300:=by omega
     rw [h5]
     by_cases hw:w < 11
     ·rw [if_pos hw,if_pos hw];refine TS.Ei (EZ w r) (fun s hs hc=>?_) (fun s hs h0=>?_)
      ·refine TS.Ei (mB _ s.2) (fun l hl hc2=>?_) (fun l hl h0=>?_)
       ·refine TS.ok h6 ?_;show Except.ok _=Except.ok (Ek D (.mk w t.at_ s.1.a s.1.b s.1.t s.1.n s.1.e [] []),n+1+d,sh D l++y);rw [x6,pO]
       ·exact ⟨rfl,h0⟩
      ·rw [show s.2=[] from h0]
       exact vW (by decide)
     ·rw [if_neg hw,if_neg hw];refine TS.Ei (Ik w r) (fun s hs hc=>?_) (fun s hs h0=>?_)
      ·have hsl:=sb hs;refine TS.IB (i1 (f':=f') (deep:=deep) (n:=n+1) (l:=s.2) (by omega) (by omega) h6) (fun a ha=>(l1 (by omega) ha).2) (fun a b ha hb=>?_) (fun a ha _ h7=>?_) (fun a ha hf _=>by cases hf)
       ·split at hb
        ·obtain ⟨q,hq,hb⟩:=aj hb;have:=c1 hq;cases hb;show a.2.1≤q.2.1;omega
        ·cases hb;exact Zc _
       ·have hal:=(l1 (by omega) ha).1
        by_cases hc3:a.2.2≠[]∨y=[]
        ·show TS false (Ek D) y D d _ (if (w=11∨w=14)∧isT [101,108,115,101] (sh D a.2.2++y)=true then aH (bQ e' f' deep (a.2.1+d) (sh D a.2.2++y).tail) _ else _)
         rw [hT hc3]
         split
         ·rename_i h8;rw [tw (zG h8.2)];have htl:=cr h8.2;refine TS.IB (i1 (f':=f') (deep:=deep) (n:=a.2.1) (l:=a.2.2.tail) (by omega) (by omega) h7) (fun q hq=>(l1 (l1 (by omega) ha).2 hq).2) (fun q b hq hb=>?_) (fun q hq _ h9=>?_) (fun q hq hf _=>by cases hf)
          ·cases hb;exact Zc _
          ·refine TS.ok h9 ?_;show Except.ok _=Except.ok (Ek D (.mk w t.at_ s.1.a s.1.b ⟨#[]⟩ 0 s.1.e a.1 q.1),q.2.1+d,sh D q.2.2++y);rw [x6]
         ·refine TS.ok h7 ?_;show Except.ok _=Except.ok (Ek D (.mk w t.at_ s.1.a s.1.b ⟨#[]⟩ 0 s.1.e a.1 []),a.2.1+d,sh D a.2.2++y);rw [x6,pO]
        ·have h0:a.2.2=[]:=by
          cases hr:a.2.2 with
          |nil=>rfl
          |cons t l=>exact absurd (.inl (by rw [hr];simp)) hc3
         refine TS.DF (fun hy=>hc3 (.inr hy)) ?_;rw [h0,tm,if_neg (fun h=>Qe h.2)];exact ⟨rfl,rfl⟩
      ·have hsl:=sb hs;rw [show s.2=[] from h0,tb (by omega)]
       exact n6
    ·rw [if_neg h1,if_neg h1];exact TS.err rfl
theorem jD (e:Int)(n:Nat)(t:Tok)(r:List Tok):iE e n (t::r)=aH (eV e r) fun a=>aH (bH e [40] a.2) fun l=>aH (fY e (l.length+1) [] l) fun ps =>
 aH (bQ e (3*ps.2.length+3) 0 n ps.2) fun b=>.ok (⟨a.1,t.at_,ps.1,b.1⟩,b.2.1,b.2.2):=rfl
theorem Gi (e e' D:Int)(d:Nat)(y:List Tok)(l:List Tok)(n:Nat)(hn:n+d≤300):TS true (O2 D) y D d (iE e n l) (iE e' (n+d) (sh D l++y)):=by
 cases l with
 |nil=>exact TS.vac n6
 |cons t r =>
  show TS true (O2 D) y D d _ (iE e' (n+d) (rq D t::(sh D r++y)));rw [jD,jD];refine TS.Ei (mZ r) (fun a ha hc=>?_) (fun a ha h0=>?_)
  ·refine TS.Ei (mB _ a.2) (fun l hl hc2=>?_) (fun l hl h0=>?_)
   ·refine TS.Ei (Cx (l.length+1) (f':=(sh D l++y).length+1) (acc:=[]) (Zc _) (by simp)) (fun ps hps hc3=>?_) (fun ps hps h0=>?_)
    ·refine TS.IB ((P2 e e' D d y _).1 (f':=3*(sh D ps.2++y).length+3) (deep:=0) (n:=n) (l:=ps.2) (Zc _) (by simp) hn) (fun b hb=>((Ol e _).1 (by omega) hb).2) (fun b q hb hq=>?_) (fun b hb _ h9=>?_) (fun b hb hf _=>by cases hf)
     ·cases hq;exact Zc _
     ·exact TS.ok h9 rfl
    ·rw [show ps.2=[] from h0,tb (by simp)]
     exact n6
   ·rw [show l=[] from h0]
    have:=yK (e:=e) (f:=1) (acc:=[]) (by decide)
    show O3 true (aH (fY e 1 [] []) _);cases hq:fY e 1 [] [] with
    |ok c =>
     rw [hq] at this;rw [aC,show c.2=[] from this,tb (by simp)]
     exact n6
    |error x =>
     rw [hq] at this;exact this
  ·rw [show a.2=[] from h0]
   exact vW (by decide)
theorem Gj {e:Int}{n:Nat}{l:List Tok}{q:Sg×Nat×List Tok}(h:iE e n l=.ok q):q.2.1=n+eS q.1.body:=by
 cases l with
 |nil=>cases h
 |cons t r =>
  rw [jD] at h;obtain ⟨a,ha,h⟩:=aj h;obtain ⟨l,hl,h⟩:=aj h;obtain ⟨ps,hps,h⟩:=aj h;obtain ⟨b,hb,h⟩:=aj h;have:=(PQ e _).1 hb;cases h;exact this
theorem sh_0 (l:List Tok):sh 0 l=l:=by
 induction l with
 |nil=>rfl
 |cons t r ih =>
  show rq 0 t::sh 0 r=t::r;rw [ih];show (⟨t.kind,t.at_+0,t.text,t.n⟩:Tok)::r=t::r;rw [Int.add_zero]
mutual
theorem Oq:∀x:St,Ek 0 x=x
 |.mk d at_ a b t n e body els=>by rw [x6,yz body,yz els,Int.add_zero]
theorem yz:∀l:List St,pz 0 l=l
 |[]=>pO 0
 |x::r=>by rw [qN,Oq x,yz r]
end
theorem OL (s:Sg):O2 0 s=s:=by
 unfold O2;rw [yz,Int.add_zero]
theorem wR {e e':Int}{y:List Tok}:∀(f:Nat) {f' n:Nat} {acc p:List Sg} {l:List Tok},dw e f acc n l=.ok p→l.length+y.length+2≤f'→n≤300→acc.length≤10 →
  ∃f'' m,dw e' f' acc n (l++y)=dw e' f'' p m y∧y.length+2≤f''∧m≤300∧m+pgQ acc=n+pgQ p∧p≠[]∧p.length≤10
 |0,_,_,_,_,_,h,_,_,_=>by
  unfold dw at h;cases h
 |f+1,f',n,acc,p,l,h,hf',hn,h10=>by
  rw [mj] at h
  split at h
  ·rename_i h1;cases h;obtain rfl:l=[]:=List.length_eq_zero_iff.1 h1.1;refine ⟨f',n,rfl,?_,hn,rfl,fun h=>h1.2 (by rw [h];rfl),h10⟩
   simpa using hf'
  split at h
  ·rename_i h1 h2
   split at h
   ·cases h
   ·rename_i h3;obtain ⟨q,hq,h⟩:=aj h;obtain ⟨hl1,hl2⟩:=yZ hn hq;have hne:=zG h2;obtain ⟨f',rfl⟩:∃g,f'=g+1:=⟨f' - 1,by omega⟩
    have hsim:=Gi e e' 0 0 y l n (by omega)
    rw [hq,sh_0] at hsim;have hsim:=hsim (.inl rfl);rw [if_pos (by omega),sh_0,OL] at hsim
    have hlen:(l++y).length≠0:=by
     cases l with
     |nil=>exact absurd rfl hne
     |cons t r=>simp
    have hT:isT [115,116,97,103,101] (l++y)=true:=by
     cases l with
     |nil=>exact absurd rfl hne
     |cons t r=>exact h2
    obtain ⟨f'',m,g1,g2,g3,g4,g5,g6⟩:=wR (e':=e') (y:=y) f (f':=f') h (by omega) hl2 (by rw [Qd];simp only [Qn,Qy];omega)
    refine ⟨f'',m,?_,g2,g3,?_,g5,g6⟩
    ·rw [mj,if_neg (fun h=>hlen h.1),if_pos hT,if_neg h3];have hsim:iE e' n (l++y)=.ok (q.1,q.2.1,q.2.2++y):=hsim;rw [hsim,aC];exact g1
    ·have:=Gj hq;rw [Jj] at g4;omega
  ·cases h
theorem FI {e e':Int}{l y:List Tok}{p:List Sg}(h:tc e l=.ok p):∃f m,tc e' (l++y)=dw e' f p m y∧y.length+2≤f∧m≤300∧m=pgQ p∧p≠[]∧p.length≤10:=by
 obtain ⟨f,m,h1,h2,h3,h4,h5,h6⟩:=wR (e':=e') (y:=y) _ (f':=(l++y).length+2) h (by simp) (by decide) (by decide)
 refine ⟨f,m,h1,h2,h3,?_,h5,h6⟩;have:pgQ []=0:=rfl;omega
end Go.Proofs.YtkeeboomikkojaaGreatDoor
