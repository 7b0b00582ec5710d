import Derived.Test.YtkeeboomikkojaaGreatDoorRx4
namespace Go.Proofs.YtkeeboomikkojaaGreatDoor
open Go Go.Sx Go.Sx.Tk Go.Sx.Rn Go.Proofs.YtkeeboomikkojaaGreatDoor.Sx
abbrev sh (D:Int)(l:List Tok):List Tok:=l.map (qf D)
theorem sy {D:Int}{l y:List Tok}(h:l≠[]):(sh D l++y).tail=sh D l.tail++y:=by
 cases l with
 |nil=>exact absurd rfl h
 |cons t r=>rfl
theorem BD {e e' D c:Int}{l y:List Tok}(h:l≠[]):pt e' c (sh D l++y)=((pt e c l).1,(pt e c l).2+D):=by
 cases l with
 |nil=>exact absurd rfl h
 |cons t r=>rfl
theorem yx {s:List UInt8}{l:List Tok}(h:isT s l=true):l≠[]:=by
 cases l with
 |nil=>cases h
 |cons t r=>simp
def xZ (x:Int×Int):Prop:=x.1=5∨x.1=7
theorem vF {e c:Int}(h7:c≠7):¬xZ (pt e c []):=by
 show ¬((if c=5 then (6:Int) else c)=5∨(if c=5 then (6:Int) else c)=7)
 split
 ·omega
 ·omega
def S {α:Type}(rs:α→List Tok)(u:α→α)(y:List Tok)(D:Int)(r r':Except (Int×Int) α):Prop:=match r with
 |.ok a=>(rs a≠[]∨y=[])→r'=.ok (u a)
 |.error x=>xZ x→r'=.error (x.1,x.2+D)
def Vac {α:Type}(rs:α→List Tok):Except (Int×Int) α→Prop
 |.ok a=>rs a=[]
 |.error x=>¬xZ x
theorem S.bind {α β:Type}{rs:α→List Tok}{u:α→α}{rs2:β→List Tok}{u2:β→β}{y:List Tok}{D:Int}{r r':Except (Int×Int) α}{k k':α→Except (Int×Int) β}(h:S rs u y D r r')
  (hk:∀a,r=.ok a→(rs a≠[]∨y=[])→S rs2 u2 y D (k a) (k' (u a))) (hv:∀a,r=.ok a→rs a=[]→Vac rs2 (k a)):S rs2 u2 y D (aD r k) (aD r' k'):=by
 cases r with
 |error x =>
  intro hx;rw [h hx];rfl
 |ok a =>
  rcases Decidable.em (rs a≠[]∨y=[]) with hc|hc
  ·rw [h hc];exact hk a rfl hc
  ·have h1:rs a=[]:=by
    cases hr:rs a with
    |nil=>rfl
    |cons t l=>exact absurd (.inl (by rw [hr];simp)) hc
   have hv:=hv a rfl h1;show S rs2 u2 y D (k a) _;cases hk:k a with
   |ok b =>
    rw [hk] at hv;intro hb;rcases hb with hb|hb
    ·exact absurd hv hb
    ·exact absurd (.inr hb) hc
   |error x =>
    rw [hk] at hv;intro hx;exact absurd hx hv
abbrev rs3 {α:Type}:α×Nat×List Tok→List Tok:=fun r=>r.2.2
abbrev u3 {α:Type}(D:Int)(y:List Tok):α×Nat×List Tok→α×Nat×List Tok:=fun r=>(r.1,r.2.1,sh D r.2.2++y)
abbrev rs2 {α:Type}:α×List Tok→List Tok:=fun r=>r.2
abbrev u2 {α:Type}(D:Int)(y:List Tok):α×List Tok→α×List Tok:=fun r=>(r.1,sh D r.2++y)
theorem S.Pf {α:Type}{rs:α→List Tok}{u:α→α}{y:List Tok}{D e e' c:Int}{l:List Tok}(h7:c≠7)(hl:l≠[]∨y=[]):S rs u y D (.error (pt e c l)) (.error (pt e' c (sh D l++y))):=by
 intro hx;cases l with
 |nil=>exact absurd hx (vF h7)
 |cons t r=>rfl
theorem S.Nc {α:Type}{rs:α→List Tok}{u:α→α}{y:List Tok}{D e e' c:Int}{l:List Tok}(hl:l≠[]):S rs u y D (.error (pt e c l)) (.error (pt e' c (sh D l++y))):=fun _=>by
 rw [BD (e:=e) hl]
theorem S.ok {α:Type}{rs:α→List Tok}{u:α→α}{y:List Tok}{D:Int}{a:α}{r':Except (Int×Int) α}(h:r'=.ok (u a)):S rs u y D (.ok a) r':=fun _=>h
theorem S.err {α:Type}{rs:α→List Tok}{u:α→α}{y:List Tok}{D:Int}{x:Int×Int}{r':Except (Int×Int) α}(h:r'=.error (x.1,x.2+D)):S rs u y D (.error x) r':=fun _=>h
theorem S.vac {α:Type}{rs:α→List Tok}{u:α→α}{y:List Tok}{D:Int}{x:Int×Int}{r':Except (Int×Int) α}(h:¬xZ x):S rs u y D (.error x) r':=fun hx=>absurd hx h
theorem n6 {a:Int}:¬xZ (6,a):=by rintro (h|h)<;>cases h
theorem n8 {a:Int}:¬xZ (8,a):=by rintro (h|h)<;>cases h
theorem xI {e:Int}{f o:Nat}{x:Ex}{n:Nat}(h:f≠0):qE e f o x n []=.ok (x,n,[]):=by
 obtain ⟨f,rfl⟩:∃q,f=q+1:=⟨f - 1,by omega⟩
 unfold qE;rfl
theorem zy {e:Int}{f o:Nat}{x:Ex}{n:Nat}(h:f≠0):fc e f o x n []=.ok (x,n,[]):=by
 obtain ⟨f,rfl⟩:∃q,f=q+1:=⟨f - 1,by omega⟩
 unfold fc;rfl
theorem sL (s:List UInt8):isT s []=false:=rfl
theorem PV (e e' D:Int)(y:List Tok):∀f:Nat,
  (∀{f' o n l},4*l.length+4≤f→4*(l.length+y.length)+4≤f'→S rs3 (u3 D y) y D (qv e f o n l) (qv e' f' o n (sh D l++y))) ∧
  (∀{f' o n l},4*l.length+3≤f→4*(l.length+y.length)+3≤f'→S rs3 (u3 D y) y D (pu e f o n l) (pu e' f' o n (sh D l++y))) ∧
  (∀{f' o x n l},(l≠[]∨y=[])→4*l.length+1≤f→4*(l.length+y.length)+1≤f'→S rs3 (u3 D y) y D (qE e f o x n l) (qE e' f' o x n (sh D l++y))) ∧
  (∀{f' o n l},4*l.length+2≤f→4*(l.length+y.length)+2≤f'→S rs3 (u3 D y) y D (eZ e f o n l) (eZ e' f' o n (sh D l++y))) ∧
  (∀{f' o x n l},(l≠[]∨y=[])→4*l.length+1≤f→4*(l.length+y.length)+1≤f'→S rs3 (u3 D y) y D (fc e f o x n l) (fc e' f' o x n (sh D l++y))) ∧
  (∀{f' o n l},4*l.length+1≤f→4*(l.length+y.length)+1≤f'→S rs3 (u3 D y) y D (cf e f o n l) (cf e' f' o n (sh D l++y))):=by
 intro f
 induction f with
 |zero=>exact ⟨fun h=>by omega,fun h=>by omega,fun _ h=>by omega,fun h=>by omega,fun _ h=>by omega,fun h=>by omega⟩
 |succ f ih =>
  obtain ⟨i1,i2,i3,i4,i5,i6⟩:=ih;obtain ⟨-,p2,-,p4,-,p6⟩:=HW e f;have hT:∀{s:List UInt8} {l:List Tok},(l≠[]∨y=[])→isT s (sh D l++y)=isT s l:=by
   intro s l h;cases l with
   |nil =>
    rcases h with h|h
    ·exact absurd rfl h
    ·rw [h];rfl
   |cons t r=>rfl
  -- behind an operator
  have tl:∀{s:List UInt8} {l:List Tok},isT s l=true→(sh D l++y).tail=sh D l.tail++y∧l.length=l.tail.length+1:=fun h=>⟨sy (yx h),bZ h⟩;refine ⟨?_,?_,?_,?_,?_,?_⟩
  ·intro f' o n l hf hf';obtain ⟨f',rfl⟩:∃q,f'=q+1:=⟨f' - 1,by omega⟩
   unfold qv;refine (i2 (by omega) (by omega)).bind (fun a ha hc=>?_) (fun a ha h0=>?_)
   ·have hlen:=(p2 ha).1;show S rs3 (u3 D y) y D _ (if isT [60] (sh D a.2.2++y)=true then aD (pu e' f' o a.2.1 (sh D a.2.2++y).tail) _ else if isT [61,61] (sh D a.2.2++y)=true then aD (pu e' f' o a.2.1 (sh D a.2.2++y).tail) _ else _)
    rw [hT hc,hT hc]
    split
    ·rename_i h1;obtain ⟨h2,h3⟩:=tl h1;rw [h2];exact (i2 (by omega) (by omega)).bind (fun b hb hc2=>S.ok rfl) fun b hb h0=>h0
    split
    ·rename_i h1;obtain ⟨h2,h3⟩:=tl h1;rw [h2];exact (i2 (by omega) (by omega)).bind (fun b hb hc2=>S.ok rfl) fun b hb h0=>h0
    ·exact S.ok rfl
   ·show Vac rs3 (if isT [60] a.2.2=true then _ else if isT [61,61] a.2.2=true then _ else _)
    rw [show a.2.2=[] from h0]
    exact h0
  ·intro f' o n l hf hf';obtain ⟨f',rfl⟩:∃q,f'=q+1:=⟨f' - 1,by omega⟩
   unfold pu;refine (i4 (by omega) (by omega)).bind (fun a ha hc=>?_) (fun a ha h0=>?_)
   ·have hlen:=(p4 ha).1;exact i3 hc (by omega) (by omega)
   ·show Vac rs3 (qE e f o a.1 a.2.1 a.2.2);rw [show a.2.2=[] from h0,xI (by omega)]
    rfl
  ·intro f' o x n l hl hf hf';obtain ⟨f',rfl⟩:∃q,f'=q+1:=⟨f' - 1,by omega⟩
   unfold qE;rw [hT hl,hT hl]
   split
   ·rename_i h1;obtain ⟨h2,h3⟩:=tl h1;rw [h2];refine (i4 (by omega) (by omega)).bind (fun a ha hc=>?_) (fun a ha h0=>?_)
    ·have hlen:=(p4 ha).1;exact i3 hc (by omega) (by omega)
    ·show Vac rs3 (qE e f o _ _ a.2.2);rw [show a.2.2=[] from h0,xI (by omega)]
     rfl
   split
   ·rename_i h1;obtain ⟨h2,h3⟩:=tl h1;rw [h2];refine (i4 (by omega) (by omega)).bind (fun a ha hc=>?_) (fun a ha h0=>?_)
    ·have hlen:=(p4 ha).1;exact i3 hc (by omega) (by omega)
    ·show Vac rs3 (qE e f o _ _ a.2.2);rw [show a.2.2=[] from h0,xI (by omega)]
     rfl
   ·exact S.ok rfl
  ·intro f' o n l hf hf';obtain ⟨f',rfl⟩:∃q,f'=q+1:=⟨f' - 1,by omega⟩
   unfold eZ;refine (i6 (by omega) (by omega)).bind (fun a ha hc=>?_) (fun a ha h0=>?_)
   ·have hlen:=(p6 ha).1;exact i5 hc (by omega) (by omega)
   ·show Vac rs3 (fc e f o a.1 a.2.1 a.2.2);rw [show a.2.2=[] from h0,zy (by omega)]
    rfl
  ·intro f' o x n l hl hf hf';obtain ⟨f',rfl⟩:∃q,f'=q+1:=⟨f' - 1,by omega⟩
   unfold fc;rw [hT hl]
   split
   ·rename_i h1;obtain ⟨h2,h3⟩:=tl h1;rw [h2];refine (i6 (by omega) (by omega)).bind (fun a ha hc=>?_) (fun a ha h0=>?_)
    ·have hlen:=(p6 ha).1;exact i5 hc (by omega) (by omega)
    ·show Vac rs3 (fc e f o _ _ a.2.2);rw [show a.2.2=[] from h0,zy (by omega)]
     rfl
   ·exact S.ok rfl
  ·intro f' o n l hf hf';obtain ⟨f',rfl⟩:∃q,f'=q+1:=⟨f' - 1,by omega⟩
   cases l with
   |nil =>
    rw [show (cf e (f+1) o n []:PR Ex)=.error (6,e) from by unfold cf;rfl]
    exact S.vac n6
   |cons t r =>
    simp only [Qn] at hf hf';have hc0:(t::r)≠[]∨y=[]:=.inl (by simp)
    unfold cf;rw [hT hc0,hT hc0]
    split
    ·rename_i h1;obtain ⟨h2,h3⟩:=tl h1;rw [h2]
     split
     ·exact S.Nc (by simp)
     ·refine (i1 (by show 4*r.length+4≤f;omega) (by show 4*(r.length+y.length)+4≤f';omega)).bind (fun a ha hc=>?_) (fun a ha h0=>?_)
      ·show S rs3 (u3 D y) y D _ (if isT [41] (sh D a.2.2++y)=true then .ok (a.1,a.2.1,(sh D a.2.2++y).tail) else .error (pt e' 5 (sh D a.2.2++y)))
       rw [hT hc]
       split
       ·rename_i h4;obtain ⟨h5,h6⟩:=tl h4;rw [h5];exact S.ok rfl
       ·exact S.Pf (by decide) hc
      ·rw [show a.2.2=[] from h0,sL,if_neg Qe]
       exact vF (by decide)
    split
    ·rename_i h1;obtain ⟨h2,h3⟩:=tl h1;rw [h2]
     split
     ·exact S.Nc (by simp)
     ·exact (i6 (by show 4*r.length+1≤f;omega) (by show 4*(r.length+y.length)+1≤f';omega)).bind (fun a ha hc=>S.ok rfl) (fun a ha h0=>h0)
    ·show S rs3 (u3 D y) y D (if t.kind=3 then .ok (my t.n,n+1,r) else if t.kind=2 then .ok (eU t.text,n+1,r) else .error (5,t.at_)) (if t.kind=3 then .ok (my t.n,n+1,sh D r++y) else if t.kind=2 then .ok (eU t.text,n+1,sh D r++y) else .error (5,t.at_+D))
     split
     ·exact S.ok rfl
     split
     ·exact S.ok rfl
     ·exact S.err rfl
section
variable  {e e' D:Int}{y:List Tok}
theorem rA (l:List Tok):S rs2 (u2 D y) y D (gQ e l) (gQ e' (sh D l++y)):=by
 cases l with
 |nil=>exact S.vac n6
 |cons t r =>
  show S rs2 (u2 D y) y D _ (gQ e' (qf D t::(sh D r++y)));rw [eg,eg];refine ((PV e e' D y _).1 (Zd _) (f':=4*(qf D t::(sh D r++y)).length+4) (by simp only [Qn,Qd,Z6];omega)).bind (fun a ha hc=>?_) (fun a ha h0=>?_)
  ·show S rs2 (u2 D y) y D _ (if 20 < a.2.1 then .error (8,t.at_+D) else .ok (a.1,sh D a.2.2++y))
   split
   ·exact S.err rfl
   ·exact S.ok rfl
  ·split
   ·exact n8
   ·exact h0
theorem li (l:List Tok):S rs2 (u2 D y) y D (ee e l) (ee e' (sh D l++y)):=by
 cases l with
 |nil=>exact S.vac n6
 |cons t r =>
  show S rs2 (u2 D y) y D (if t.kind=2 then .ok (t.text,r) else .error (5,t.at_)) (if t.kind=2 then .ok (t.text,sh D r++y) else .error (5,t.at_+D))
  split
  ·exact S.ok rfl
  ·exact S.err rfl
theorem LI (l:List Tok):S rs2 (u2 D y) y D (Ey e l) (Ey e' (sh D l++y)):=by
 cases l with
 |nil=>exact S.vac n6
 |cons t r =>
  show S rs2 (u2 D y) y D (if t.kind=3 then .ok (t.n,r) else .error (5,t.at_)) (if t.kind=3 then .ok (t.n,sh D r++y) else .error (5,t.at_+D))
  split
  ·exact S.ok rfl
  ·exact S.err rfl
abbrev rs1:List Tok→List Tok:=fun r=>r
abbrev u1 (D:Int)(y:List Tok):List Tok→List Tok:=fun r=>sh D r++y
theorem lq (s:List UInt8)(l:List Tok):S rs1 (u1 D y) y D (bl e s l) (bl e' s (sh D l++y)):=by
 cases l with
 |nil=>exact S.vac (vF (by decide))
 |cons t r =>
  show S rs1 (u1 D y) y D (if isT s (t::r)=true then .ok r else .error (5,t.at_)) (if isT s (t::r)=true then .ok (sh D r++y) else .error (5,t.at_+D))
  split
  ·exact S.ok rfl
  ·exact S.err rfl
theorem BG:∀(l:List Tok) (acc:List UInt8),S rs2 (u2 D y) y D (qD e acc l) (qD e' acc (sh D l++y))
 |[],acc=>by
  rw [show (qD e acc []:Except (Int×Int) (List UInt8×List Tok))=.error (6,e) from by unfold qD;rfl]
  exact S.vac n6
 |t::r,acc=>by
  show S rs2 (u2 D y) y D _ (qD e' acc (qf D t::(sh D r++y)));rw [gp,gp];show S rs2 (u2 D y) y D _ (if isT [105,110,116] (t::r)=true then .ok (acc++[105],sh D r++y) else if (isT [115,101,110,100] (t::r)||isT [114,101,99,118] (t::r))=true then (if acc.length=3 then .error (7,t.at_+D) else qD e' (acc++(bytesOf t.text).take 1) (sh D r++y)) else .error (5,t.at_+D))
  split
  ·exact S.ok rfl
  split
  ·split
   ·exact S.err rfl
   ·exact BG r _
  ·exact S.err rfl
theorem rI {α:Type}{rs:α→List Tok}(s:List UInt8)(k:List Tok→Except (Int×Int) α):Vac rs (aD (bl e s []) k):=vF (by decide)
theorem re {α:Type}{rs:α→List Tok}(k:ByteArray×List Tok→Except (Int×Int) α):Vac rs (aD (ee e []) k):=n6
theorem L7 {α:Type}{rs:α→List Tok}(k:Int×List Tok→Except (Int×Int) α):Vac rs (aD (Ey e []) k):=n6
theorem tG {α:Type}{rs:α→List Tok}(k:Ex×List Tok→Except (Int×Int) α):Vac rs (aD (gQ e []) k):=n6
theorem Hc {α:Type}{rs:α→List Tok}(acc:List UInt8)(k:List UInt8×List Tok→Except (Int×Int) α):Vac rs (aD (qD e acc []) k):=by
 rw [show (qD e acc []:Except (Int×Int) (List UInt8×List Tok))=.error (6,e) from by unfold qD;rfl]
 exact n6
end
theorem tw (e:Int)(f:Nat)(acc:List Ex)(l:List Tok):dJ e (f+1) acc l=if isT [41] l then .ok (acc,l.tail)
  else aD (if acc.length=0 then .ok l else bl e [44] l) fun l=>if acc.length=6 then .error (pt e 8 l) else aD (gQ e l) fun q=>dJ e f (acc++[q.1]) q.2:=by
 conv=>lhs;unfold dJ
section
variable  {e e' D:Int}{y:List Tok}
theorem yd {f:Nat}{acc:List Ex}(hf:f≠0):Vac rs2 (dJ e f acc []):=by
 obtain ⟨f,rfl⟩:∃q,f=q+1:=⟨f - 1,by omega⟩
 rw [tw,sL,if_neg Qe]
 split
 ·rw [ay]
  split
  ·exact vF (by decide)
  ·exact tG _
 ·exact rI _ _
theorem xe {f:Nat}{acc:List (ByteArray×ByteArray)}(hf:f≠0):Vac rs2 (fb e f acc []):=by
 obtain ⟨f,rfl⟩:∃q,f=q+1:=⟨f - 1,by omega⟩
 rw [rU,sL,if_neg Qe]
 split
 ·rw [ay]
  split
  ·exact vF (by decide)
  ·exact re _
 ·exact rI _ _
theorem S.D6 {α:Type}{rs:α→List Tok}{u:α→α}{r r':Except (Int×Int) α}(hy:y≠[])(h:Vac rs r):S rs u y D r r':=by
 cases r with
 |ok a =>
  intro hc;rcases hc with hc|hc
  ·exact absurd h hc
  ·exact absurd hc hy
 |error x=>exact fun hx=>absurd hx h
theorem B5:∀(f:Nat) {f':Nat} {acc:List Ex} {l:List Tok},l.length+1≤f→l.length+y.length+1≤f'→S rs2 (u2 D y) y D (dJ e f acc l) (dJ e' f' acc (sh D l++y))
 |0,_,_,_,hf,_=>by omega
 |f+1,f',acc,l,hf,hf'=>by
  obtain ⟨f',rfl⟩:∃q,f'=q+1:=⟨f' - 1,by omega⟩
  by_cases hl:l≠[]∨y=[]
  ·have hT:∀{s:List UInt8},isT s (sh D l++y)=isT s l:=by
    intro s;cases l with
    |nil =>
     rcases hl with h|h
     ·exact absurd rfl h
     ·rw [h];rfl
    |cons t r=>rfl
   rw [tw,tw,hT]
   split
   ·rename_i h1;rw [sy (yx h1)];exact S.ok rfl
   ·refine S.bind (rs:=rs1) (u:=u1 D y) ?_ (fun a ha hc=>?_) (fun a ha h0=>?_)
    ·split
     ·exact S.ok rfl
     ·exact lq _ _
    ·have hla:a.length≤l.length:=by
      split at ha
      ·cases ha;exact Zd _
      ·have:=bH ha;omega
     split
     ·exact S.Pf (by decide) hc
     ·refine (rA a).bind (fun b hb hc2=>?_) (fun b hb h0=>?_)
      ·have:=gF hb;exact B5 f (by omega) (by omega)
      ·show Vac rs2 (dJ e f _ b.2);rw [show b.2=[] from h0]
       refine yd ?_;have:=gF hb;omega
    ·rw [show a=[] from h0]
     split
     ·exact vF (by decide)
     ·exact tG _
  ·have h0:l=[]:=by
    cases l with
    |nil=>rfl
    |cons t r=>exact absurd (.inl (by simp)) hl
   subst h0;exact S.D6 (fun h=>hl (.inr h)) (yd (by omega))
theorem Cp:∀(f:Nat) {f':Nat} {acc:List (ByteArray×ByteArray)} {l:List Tok},l.length+1≤f→l.length+y.length+1≤f'→S rs2 (u2 D y) y D (fb e f acc l) (fb e' f' acc (sh D l++y))
 |0,_,_,_,hf,_=>by omega
 |f+1,f',acc,l,hf,hf'=>by
  obtain ⟨f',rfl⟩:∃q,f'=q+1:=⟨f' - 1,by omega⟩
  by_cases hl:l≠[]∨y=[]
  ·have hT:∀{s:List UInt8},isT s (sh D l++y)=isT s l:=by
    intro s;cases l with
    |nil =>
     rcases hl with h|h
     ·exact absurd rfl h
     ·rw [h];rfl
    |cons t r=>rfl
   rw [rU,rU,hT]
   split
   ·rename_i h1;rw [sy (yx h1)];exact S.ok rfl
   ·refine S.bind (rs:=rs1) (u:=u1 D y) ?_ (fun a ha hc=>?_) (fun a ha h0=>?_)
    ·split
     ·exact S.ok rfl
     ·exact lq _ _
    ·have hla:a.length≤l.length:=by
      split at ha
      ·cases ha;exact Zd _
      ·have:=bH ha;omega
     split
     ·exact S.Pf (by decide) hc
     ·refine (li a).bind (fun b hb hc2=>?_) (fun b hb h0=>?_)
      ·have h3:=bV hb;refine (BG b.2 []).bind (fun c hc hc3=>?_) (fun c hc h0=>?_)
       ·have:=pK hc;exact Cp f (by omega) (by omega)
       ·show Vac rs2 (fb e f _ c.2);rw [show c.2=[] from h0]
        refine xe ?_;have:=pK hc;omega
      ·rw [show b.2=[] from h0]
       exact Hc _ _
    ·rw [show a=[] from h0]
     split
     ·exact vF (by decide)
     ·exact re _
  ·have h0:l=[]:=by
    cases l with
    |nil=>rfl
    |cons t r=>exact absurd (.inl (by simp)) hl
   subst h0;exact S.D6 (fun h=>hl (.inr h)) (xe (by omega))
theorem FZ (d:Nat)(l:List Tok):S rs2 (u2 D y) y D (cg e d l) (cg e' d (sh D l++y)):=by
 unfold cg
 split
 ·exact (rA l).bind (fun b hb hc2=>S.ok rfl) (fun b hb h0=>h0)
 ·refine (li l).bind (fun a ha hc=>?_) (fun a ha h0=>?_)
  ·split
   ·refine (lq _ _).bind (fun b hb hc2=>?_) (fun b hb h0=>?_)
    ·exact (rA b).bind (fun c hc hc3=>S.ok rfl) (fun c hc h0=>h0)
    ·rw [show b=[] from h0]
     exact tG _
   split
   ·refine (li a.2).bind (fun b hb hc2=>?_) (fun b hb h0=>?_)
    ·refine (BG b.2 []).bind (fun c hc hc3=>?_) (fun c hc h0=>?_)
     ·exact (LI c.2).bind (fun q hq hc4=>S.ok rfl) (fun q hq h0=>h0)
     ·rw [show c.2=[] from h0]
      exact L7 _
    ·rw [show b.2=[] from h0]
     exact Hc _ _
   split
   ·exact (li a.2).bind (fun b hb hc2=>S.ok rfl) (fun b hb h0=>h0)
   split
   ·exact (rA a.2).bind (fun b hb hc2=>S.ok rfl) (fun b hb h0=>h0)
   split
   ·refine (lq _ a.2).bind (fun b hb hc2=>?_) (fun b hb h0=>?_)
    ·refine S.bind (B5 (b.length+1) (f':=(sh D b++y).length+1) (acc:=[]) (Zd _) (by simp)) (fun c hc hc3=>S.ok rfl) (fun c hc h0=>h0)
    ·rw [show b=[] from h0]
     have:=yd (e:=e) (f:=1) (acc:=[]) (by decide)
     show Vac rs2 (aD (dJ e 1 [] []) _);cases hq:dJ e 1 [] [] with
     |ok c =>
      rw [hq] at this;exact this
     |error x =>
      rw [hq] at this;exact this
   ·exact S.ok rfl
  ·rw [show a.2=[] from h0]
   split
   ·exact rI _ _
   split
   ·exact re _
   split
   ·exact re _
   split
   ·exact tG _
   split
   ·exact rI _ _
   ·rfl
theorem H8 (d:Nat)(l:List Tok):S rs2 (u2 D y) y D (gx e d l) (gx e' d (sh D l++y)):=by
 unfold gx
 split
 ·refine (li l).bind (fun a ha hc=>?_) (fun a ha h0=>?_)
  ·refine (lq _ a.2).bind (fun b hb hc2=>?_) (fun b hb h0=>?_)
   ·exact (li b).bind (fun c hc hc3=>S.ok rfl) (fun c hc h0=>h0)
   ·rw [show b=[] from h0]
    exact re _
  ·rw [show a.2=[] from h0]
   exact rI _ _
 ·exact (rA l).bind (fun b hb hc2=>S.ok rfl) (fun b hb h0=>h0)
end
mutual
def EC (D:Int):St→St
 |.mk d at_ a b t n e body els=>.mk d (at_+D) a b t n e (ph D body) (ph D els)
def ph (D:Int):List St→List St
 |[]=>[]
 |x::r=>EC D x::ph D r
end
def O3 (D:Int)(s:Sg):Sg:=⟨s.nm,s.at_+D,s.ps,ph D s.body⟩
theorem w7 (D d at_:Int)(a b t:ByteArray)(n:Int)(e:List Ex)(body els:List St):EC D (.mk d at_ a b t n e body els)=.mk d (at_+D) a b t n e (ph D body) (ph D els):=by
 conv=>lhs;unfold EC
theorem oG (D:Int):ph D []=[]:=by unfold ph;rfl
theorem pq (D:Int)(x:St)(r:List St):ph D (x::r)=EC D x::ph D r:=by conv=>lhs;unfold ph
theorem wH (D:Int):∀(l:List St) (x:St),ph D (l++[x])=ph D l++[EC D x]
 |[],x=>by rw [Z4,pq,oG];rfl
 |y::r,x=>by rw [Qu,pq,pq,wH D r x];rfl
theorem Pc (e:Int):∀f:Nat,(∀{deep n l r},bD e f deep n l=.ok r→r.2.1=n+dZ r.1)∧(∀{deep acc n l r},cR e f deep acc n l=.ok r→r.2.1+dZ acc=n+dZ r.1∧n≤r.2.1)∧(∀{deep n l r},dU e f deep n l=.ok r→r.2.1=n+stQ r.1):=by
 intro f
 induction f with
 |zero =>
  refine ⟨?_,?_,?_⟩
  ·intro deep n l r h;unfold bD at h;cases h
  ·intro deep acc n l r h;unfold cR at h;cases h
  ·intro deep n l r h;unfold dU at h;cases h
 |succ f ih =>
  obtain ⟨i1,i2,i3⟩:=ih;refine ⟨?_,?_,?_⟩
  ·intro deep n l r h;rw [gw] at h
   split at h
   ·split at h
    ·cases h
    ·have:=(i2 h).1;rw [pF] at this;omega
   ·cases h
  ·intro deep acc n l r h;rw [kF] at h
   split at h
   ·cases h;exact ⟨rfl,Zd _⟩
   ·obtain ⟨a,ha,h⟩:=ai h;have h1:=i3 ha;obtain ⟨h2,h3⟩:=i2 h;rw [G8] at h2;exact ⟨by omega,by omega⟩
  ·intro deep n l r h;cases l with
   |nil =>
    rw [iL] at h;cases h
   |cons t q =>
    rw [fV] at h
    split at h
    ·split at h
     ·cases h
     split at h
     ·obtain ⟨s,hs,h⟩:=ai h;obtain ⟨l,hl,h⟩:=ai h;cases h;show n+1=n+stQ _;rw [yJ];show n+1=n+(1+dZ []+dZ []);rw [pF]
     ·obtain ⟨s,hs,h⟩:=ai h;obtain ⟨b,hb,h⟩:=ai h;have h1:=i1 hb
      split at h
      ·obtain ⟨q2,hq,h⟩:=ai h;have h2:=i1 hq;cases h;show q2.2.1=n+stQ _;rw [yJ];show q2.2.1=n+(1+dZ b.1+dZ q2.1);omega
      ·cases h;show b.2.1=n+stQ _;rw [yJ];show b.2.1=n+(1+dZ b.1+dZ []);rw [pF];omega
    ·cases h
def TS {β:Type}(c:Bool)(φ:β→β)(y:List Tok)(D:Int)(d:Nat)(r r':PR β):Prop:=match r with
 |.ok a=>(c=true∨a.2.2≠[]∨y=[])→if a.2.1+d≤300 then r'=.ok (φ a.1,a.2.1+d,sh D a.2.2++y) else ∃q,r'=.error (8,q)
 |.error x=>d=0→xZ x→r'=.error (x.1,x.2+D)
def O9 {β:Type}(c:Bool):PR β→Prop
 |.ok a=>c=false∧a.2.2=[]
 |.error x=>¬xZ x
section
variable  {β γ:Type}{y:List Tok}{D:Int}{d:Nat}
theorem TS.D6 {c:Bool}{φ:β→β}{r r':PR β}(hy:y≠[])(h:O9 c r):TS c φ y D d r r':=by
 cases r with
 |ok a =>
  intro hc;rcases hc with hc|hc|hc
  ·rw [h.1] at hc;cases hc
  ·exact absurd h.2 hc
  ·exact absurd hc hy
 |error x=>exact fun _ hx=>absurd hx h
theorem TS.ok {c:Bool}{φ:β→β}{a:β×Nat×List Tok}{r':PR β}(h3:a.2.1+d≤300)(h:r'=.ok (φ a.1,a.2.1+d,sh D a.2.2++y)):TS c φ y D d (.ok a) r':=fun _=>by
 rw [if_pos h3];exact h
theorem TS.err {c:Bool}{φ:β→β}{x:Int×Int}{r':PR β}(h:r'=.error (x.1,x.2+D)):TS c φ y D d (.error x) r':=fun _ _=>h
theorem TS.vac {c:Bool}{φ:β→β}{x:Int×Int}{r':PR β}(h:¬xZ x):TS c φ y D d (.error x) r':=fun _ hx=>absurd hx h
theorem TS.over {c:Bool}{φ:β→β}{r:PR β}{q:Int}(h:∀a,r=.ok a→300 < a.2.1+d)(h0:d≠0):TS c φ y D d r (.error (8,q)):=by
 cases r with
 |ok a =>
  intro _;rw [if_neg (by have:=h a rfl;omega)]
  exact ⟨_,rfl⟩
 |error x=>exact fun hd=>absurd hd h0
theorem TS.DV {α:Type}{c:Bool}{φ:β→β}{rs:α→List Tok}{u:α→α}{r r':Except (Int×Int) α}{k k':α→PR β}(h:S rs u y D r r')
  (hk:∀a,r=.ok a→(rs a≠[]∨y=[])→TS c φ y D d (k a) (k' (u a))) (hv:∀a,r=.ok a→rs a=[]→O9 c (k a)):TS c φ y D d (aD r k) (aD r' k'):=by
 cases r with
 |error x =>
  intro _ hx;rw [h hx];rfl
 |ok a =>
  rcases Decidable.em (rs a≠[]∨y=[]) with hc|hc
  ·rw [h hc];exact hk a rfl hc
  ·have h1:rs a=[]:=by
    cases hr:rs a with
    |nil=>rfl
    |cons t l=>exact absurd (.inl (by rw [hr];simp)) hc
   exact TS.D6 (fun hy=>hc (.inr hy)) (hv a rfl h1)
theorem TS.Jb {c1 c:Bool}{φ:β→β}{ψ:γ→γ}{r r':PR β}{k k':β×Nat×List Tok→PR γ}(h:TS c1 φ y D d r r')(h300:∀a,r=.ok a→a.2.1≤300)(hm:∀a b,r=.ok a→k a=.ok b→a.2.1≤b.2.1)
  (hk:∀a,r=.ok a→(c1=true∨a.2.2≠[]∨y=[])→a.2.1+d≤300→TS c ψ y D d (k a) (k' (φ a.1,a.2.1+d,sh D a.2.2++y))) (hv:∀a,r=.ok a→c1=false→a.2.2=[]→O9 c (k a)):TS c ψ y D d (aD r k) (aD r' k'):=by
 cases r with
 |error x =>
  intro hd hx;rw [h hd hx];rfl
 |ok a =>
  rcases Decidable.em (c1=true∨a.2.2≠[]∨y=[]) with hc|hc
  ·have h1:=h hc
   split at h1
   ·rename_i h3;rw [h1];exact hk a rfl hc h3
   ·rename_i h3;obtain ⟨q,h1⟩:=h1;rw [h1];refine TS.over (fun b hb=>?_) (fun hd=>?_)
    ·have:=hm a b rfl hb;omega
    ·have:=h300 a rfl;omega
  ·have h1:a.2.2=[]:=by
    cases hr:a.2.2 with
    |nil=>rfl
    |cons t l=>exact absurd (.inr (.inl (by rw [hr];simp))) hc
   have h2:c1=false:=by
    cases c1 with
    |false=>rfl
    |true=>exact absurd (.inl rfl) hc
   exact TS.D6 (fun hy=>hc (.inr (.inr hy))) (hv a rfl h2 h1)
end
theorem rh {e:Int}{f deep n:Nat}(h:f≠0):bD e f deep n []=.error (6,e):=by
 obtain ⟨f,rfl⟩:∃q,f=q+1:=⟨f - 1,by omega⟩
 rw [gw,sL,if_neg Qe];rfl
theorem yN {e:Int}{f deep n:Nat}{acc:List St}(h:2≤f):cR e f deep acc n []=.error (6,e):=by
 obtain ⟨f,rfl⟩:∃q,f=q+2:=⟨f - 2,by omega⟩
 rw [kF,sL,if_neg Qe,iL];rfl
theorem Pn (e e' D:Int)(d:Nat)(y:List Tok):∀f:Nat,
  (∀{f' deep n l},3*l.length+3≤f→3*(l.length+y.length)+3≤f'→n+d≤300→TS true (ph D) y D d (bD e f deep n l) (bD e' f' deep (n+d) (sh D l++y))) ∧
  (∀{f' deep acc n l},3*l.length+2≤f→3*(l.length+y.length)+2≤f'→n+d≤300→TS true (ph D) y D d (cR e f deep acc n l) (cR e' f' deep (ph D acc) (n+d) (sh D l++y))) ∧
  (∀{f' deep n l},3*l.length+1≤f→3*(l.length+y.length)+1≤f'→n+d≤300→TS false (EC D) y D d (dU e f deep n l) (dU e' f' deep (n+d) (sh D l++y))):=by
 intro f
 induction f with
 |zero=>exact ⟨fun h=>by omega,fun h=>by omega,fun h=>by omega⟩
 |succ f ih =>
  obtain ⟨i1,i2,i3⟩:=ih;obtain ⟨l1,l2,l3⟩:=NQ e f;obtain ⟨c1,c2,c3⟩:=Pc e f;have hT:∀{s:List UInt8} {l:List Tok},(l≠[]∨y=[])→isT s (sh D l++y)=isT s l:=by
   intro s l h;cases l with
   |nil =>
    rcases h with h|h
    ·exact absurd rfl h
    ·rw [h];rfl
   |cons t r=>rfl
  refine ⟨?_,?_,?_⟩
  ·intro f' deep n l hf hf' hn;obtain ⟨f',rfl⟩:∃q,f'=q+1:=⟨f' - 1,by omega⟩
   cases l with
   |nil =>
    rw [rh (by omega)]
    exact TS.vac n6
   |cons t r =>
    simp only [Qn] at hf hf';rw [gw,gw,hT (.inl (by simp))]
    split
    ·split
     ·exact TS.err (by rw [BD (e:=e) (by simp)])
     ·rw [sy (by simp)]
      have:=i2 (f':=f') (deep:=deep+1) (acc:=[]) (n:=n) (l:=r) (by omega) (by omega) hn
      rw [oG] at this;exact this
    ·exact TS.err (by rw [BD (e:=e) (by simp)])
  ·intro f' deep acc n l hf hf' hn;obtain ⟨f',rfl⟩:∃q,f'=q+1:=⟨f' - 1,by omega⟩
   cases l with
   |nil =>
    simp only [Qy] at hf hf';rw [yN (by omega)]
    exact TS.vac n6
   |cons t r =>
    simp only [Qn] at hf hf';rw [kF,kF,hT (.inl (by simp))]
    split
    ·rw [sy (by simp)]
     exact TS.ok hn rfl
    ·refine TS.Jb (i3 (f':=f') (l:=t::r) (by simp only [Qn];omega) (by simp only [Qn];omega) hn) (fun a ha=>(l3 (by omega) ha).2) (fun a b ha hb=>?_) (fun a ha hc h3=>?_) (fun a ha _ h0=>?_)
     ·exact (c2 hb).2
     ·have h4:=(l3 (by omega) ha).1
      simp only [Qn] at h4;rw [←wH];exact i2 (by omega) (by omega) h3
     ·rw [h0,yN (by omega)]
      exact n6
  ·intro f' deep n l hf hf' hn;obtain ⟨f',rfl⟩:∃q,f'=q+1:=⟨f' - 1,by omega⟩
   cases l with
   |nil =>
    rw [iL];exact TS.vac n6
   |cons t r =>
    simp only [Qn] at hf hf';have hcnt:∀{q:St×Nat×List Tok},dU e (f+1) deep n (t::r)=.ok q→q.2.1=n+stQ q.1:=fun hq=>(Pc e (f+1)).2.2 hq;show TS false (EC D) y D d _ (dU e' (f'+1) deep (n+d) (qf D t::(sh D r++y)));rw [fV] at hcnt ⊢;rw [fV];simp only [show (qf D t).kind=t.kind from rfl,show (qf D t).text=t.text from rfl,show (qf D t).at_=t.at_+D from rfl]
    generalize doW (bytesOf t.text)=w at *
    by_cases h1:t.kind=1∧w≠0
    ·rw [if_pos h1] at hcnt ⊢;rw [if_pos h1]
     by_cases h2:n=300
     ·rw [if_pos h2];exact TS.vac n8
     rw [if_neg h2] at hcnt ⊢
     by_cases h3:n+d=300
     ·rw [if_pos h3];refine TS.over (fun a ha=>?_) (by omega)
      have h4:=hcnt ha;rw [yJ] at h4;omega
     rw [if_neg h3];have h5:n+d+1=n+1+d:=by omega
     have h6:n+1+d≤300:=by omega
     rw [h5]
     by_cases hw:w < 11
     ·rw [if_pos hw,if_pos hw];refine TS.DV (FZ w r) (fun s hs hc=>?_) (fun s hs h0=>?_)
      ·refine TS.DV (lq _ s.2) (fun l hl hc2=>?_) (fun l hl h0=>?_)
       ·refine TS.ok h6 ?_;show Except.ok _=Except.ok (EC D (.mk w t.at_ s.1.a s.1.b s.1.t s.1.n s.1.e [] []),n+1+d,sh D l++y);rw [w7,oG]
       ·exact ⟨rfl,h0⟩
      ·rw [show s.2=[] from h0]
       exact vF (by decide)
     ·rw [if_neg hw,if_neg hw];refine TS.DV (H8 w r) (fun s hs hc=>?_) (fun s hs h0=>?_)
      ·have hsl:=rF hs;refine TS.Jb (i1 (f':=f') (deep:=deep) (n:=n+1) (l:=s.2) (by omega) (by omega) h6) (fun a ha=>(l1 (by omega) ha).2) (fun a b ha hb=>?_) (fun a ha _ h7=>?_) (fun a ha hf _=>by cases hf)
       ·split at hb
        ·obtain ⟨q,hq,hb⟩:=ai hb;have:=c1 hq;cases hb;show a.2.1≤q.2.1;omega
        ·cases hb;exact Zd _
       ·have hal:=(l1 (by omega) ha).1
        by_cases hc3:a.2.2≠[]∨y=[]
        ·show TS false (EC D) y D d _ (if (w=11∨w=14)∧isT [101,108,115,101] (sh D a.2.2++y)=true then aD (bD e' f' deep (a.2.1+d) (sh D a.2.2++y).tail) _ else _)
         rw [hT hc3]
         split
         ·rename_i h8;rw [sy (yx h8.2)];have htl:=bZ h8.2;refine TS.Jb (i1 (f':=f') (deep:=deep) (n:=a.2.1) (l:=a.2.2.tail) (by omega) (by omega) h7) (fun q hq=>(l1 (l1 (by omega) ha).2 hq).2) (fun q b hq hb=>?_) (fun q hq _ h9=>?_) (fun q hq hf _=>by cases hf)
          ·cases hb;exact Zd _
          ·refine TS.ok h9 ?_;show Except.ok _=Except.ok (EC D (.mk w t.at_ s.1.a s.1.b ⟨#[]⟩ 0 s.1.e a.1 q.1),q.2.1+d,sh D q.2.2++y);rw [w7]
         ·refine TS.ok h7 ?_;show Except.ok _=Except.ok (EC D (.mk w t.at_ s.1.a s.1.b ⟨#[]⟩ 0 s.1.e a.1 []),a.2.1+d,sh D a.2.2++y);rw [w7,oG]
        ·have h0:a.2.2=[]:=by
          cases hr:a.2.2 with
          |nil=>rfl
          |cons t l=>exact absurd (.inl (by rw [hr];simp)) hc3
         refine TS.D6 (fun hy=>hc3 (.inr hy)) ?_;rw [h0,sL,if_neg (fun h=>Qe h.2)];exact ⟨rfl,rfl⟩
      ·have hsl:=rF hs;rw [show s.2=[] from h0,rh (by omega)]
       exact n6
    ·rw [if_neg h1,if_neg h1];exact TS.err rfl
theorem iX (e:Int)(n:Nat)(t:Tok)(r:List Tok):gN e n (t::r)=aD (ee e r) fun a=>aD (bl e [40] a.2) fun l=>aD (fb e (l.length+1) [] l) fun ps =>
 aD (bD e (3*ps.2.length+3) 0 n ps.2) fun b=>.ok (⟨a.1,t.at_,ps.1,b.1⟩,b.2.1,b.2.2):=rfl
theorem Fo (e e' D:Int)(d:Nat)(y:List Tok)(l:List Tok)(n:Nat)(hn:n+d≤300):TS true (O3 D) y D d (gN e n l) (gN e' (n+d) (sh D l++y)):=by
 cases l with
 |nil=>exact TS.vac n6
 |cons t r =>
  show TS true (O3 D) y D d _ (gN e' (n+d) (qf D t::(sh D r++y)));rw [iX,iX];refine TS.DV (li r) (fun a ha hc=>?_) (fun a ha h0=>?_)
  ·refine TS.DV (lq _ a.2) (fun l hl hc2=>?_) (fun l hl h0=>?_)
   ·refine TS.DV (Cp (l.length+1) (f':=(sh D l++y).length+1) (acc:=[]) (Zd _) (by simp)) (fun ps hps hc3=>?_) (fun ps hps h0=>?_)
    ·refine TS.Jb ((Pn e e' D d y _).1 (f':=3*(sh D ps.2++y).length+3) (deep:=0) (n:=n) (l:=ps.2) (Zd _) (by simp) hn) (fun b hb=>((NQ e _).1 (by omega) hb).2) (fun b q hb hq=>?_) (fun b hb _ h9=>?_) (fun b hb hf _=>by cases hf)
     ·cases hq;exact Zd _
     ·exact TS.ok h9 rfl
    ·rw [show ps.2=[] from h0,rh (by simp)]
     exact n6
   ·rw [show l=[] from h0]
    have:=xe (e:=e) (f:=1) (acc:=[]) (by decide)
    show O9 true (aD (fb e 1 [] []) _);cases hq:fb e 1 [] [] with
    |ok c =>
     rw [hq] at this;rw [ay,show c.2=[] from this,rh (by simp)]
     exact n6
    |error x =>
     rw [hq] at this;exact this
  ·rw [show a.2=[] from h0]
   exact vF (by decide)
theorem Gx {e:Int}{n:Nat}{l:List Tok}{q:Sg×Nat×List Tok}(h:gN e n l=.ok q):q.2.1=n+dZ q.1.body:=by
 cases l with
 |nil=>cases h
 |cons t r =>
  rw [iX] at h;obtain ⟨a,ha,h⟩:=ai h;obtain ⟨l,hl,h⟩:=ai h;obtain ⟨ps,hps,h⟩:=ai h;obtain ⟨b,hb,h⟩:=ai h;have:=(Pc e _).1 hb;cases h;exact this
theorem sh_0 (l:List Tok):sh 0 l=l:=by
 induction l with
 |nil=>rfl
 |cons t r ih =>
  show qf 0 t::sh 0 r=t::r;rw [ih];show (⟨t.kind,t.at_+0,t.text,t.n⟩:Tok)::r=t::r;rw [Int.add_zero]
mutual
theorem Nu:∀x:St,EC 0 x=x
 |.mk d at_ a b t n e body els=>by rw [w7,wT body,wT els,Int.add_zero]
theorem wT:∀l:List St,ph 0 l=l
 |[]=>oG 0
 |x::r=>by rw [pq,Nu x,wT r]
end
theorem Ol (s:Sg):O3 0 s=s:=by
 unfold O3;rw [wT,Int.add_zero]
theorem wv {e e':Int}{y:List Tok}:∀(f:Nat) {f' n:Nat} {acc p:List Sg} {l:List Tok},cO e f acc n l=.ok p→l.length+y.length+2≤f'→n≤300→acc.length≤10 →
  ∃f'' m,cO e' f' acc n (l++y)=cO e' f'' p m y∧y.length+2≤f''∧m≤300∧m+pgQ acc=n+pgQ p∧p≠[]∧p.length≤10
 |0,_,_,_,_,_,h,_,_,_=>by
  unfold cO at h;cases h
 |f+1,f',n,acc,p,l,h,hf',hn,h10=>by
  rw [kP] at h
  split at h
  ·rename_i h1;cases h;obtain rfl:l=[]:=List.length_eq_zero_iff.1 h1.1;refine ⟨f',n,rfl,?_,hn,rfl,fun h=>h1.2 (by rw [h];rfl),h10⟩
   simpa using hf'
  split at h
  ·rename_i h1 h2
   split at h
   ·cases h
   ·rename_i h3;obtain ⟨q,hq,h⟩:=ai h;obtain ⟨hl1,hl2⟩:=zR hn hq;have hne:=yx h2;obtain ⟨f',rfl⟩:∃g,f'=g+1:=⟨f' - 1,by omega⟩
    have hsim:=Fo e e' 0 0 y l n (by omega)
    rw [hq,sh_0] at hsim;have hsim:=hsim (.inl rfl);rw [if_pos (by omega),sh_0,Ol] at hsim
    have hlen:(l++y).length≠0:=by
     cases l with
     |nil=>exact absurd rfl hne
     |cons t r=>simp
    have hT:isT [115,116,97,103,101] (l++y)=true:=by
     cases l with
     |nil=>exact absurd rfl hne
     |cons t r=>exact h2
    obtain ⟨f'',m,g1,g2,g3,g4,g5,g6⟩:=wv (e':=e') (y:=y) f (f':=f') h (by omega) hl2 (by rw [Qd];simp only [Qn,Qy];omega)
    refine ⟨f'',m,?_,g2,g3,?_,g5,g6⟩
    ·rw [kP,if_neg (fun h=>hlen h.1),if_pos hT,if_neg h3];have hsim:gN e' n (l++y)=.ok (q.1,q.2.1,q.2.2++y):=hsim;rw [hsim,ay];exact g1
    ·have:=Gx hq;rw [IG] at g4;omega
  ·cases h
theorem Fq {e e':Int}{l y:List Tok}{p:List Sg}(h:qn e l=.ok p):∃f m,qn e' (l++y)=cO e' f p m y∧y.length+2≤f∧m≤300∧m=pgQ p∧p≠[]∧p.length≤10:=by
 obtain ⟨f,m,h1,h2,h3,h4,h5,h6⟩:=wv (e':=e') (y:=y) _ (f':=(l++y).length+2) h (by simp) (by decide) (by decide)
 refine ⟨f,m,h1,h2,h3,?_,h5,h6⟩;have:pgQ []=0:=rfl;omega
end Go.Proofs.YtkeeboomikkojaaGreatDoor
