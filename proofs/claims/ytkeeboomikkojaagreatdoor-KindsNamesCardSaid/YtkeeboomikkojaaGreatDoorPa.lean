import Derived.Test.YtkeeboomikkojaaGreatDoorWc
set_option maxRecDepth 100000
namespace Go.Proofs.YtkeeboomikkojaaGreatDoor
open Go Go.Sx Go.Sx.Tk Go.Sx.Rn Go.Proofs.YtkeeboomikkojaaGreatDoor.Sx
mutual
def exP (h:Hp)(B:Nat→Prop):Ex→List Value→Prop
 |.mk op nm n l,cs=>∃(v:Value) (us:List Value) (Bc:Nat→Prop),cs=[.int .i64 op,.string nm,.int .i64 n,v]∧bX h 0 36 4 v l.length us∧(∀b,v.ownBlock=some b→B b∧¬Bc b)∧(∀b,Bc b→B b)∧ti h Bc l us
def ti (h:Hp)(B:Nat→Prop):List Ex→List Value→Prop
 |[],us=>us=[]
 |x::r,us=>∃B1 B2:Nat→Prop,(∀b,B1 b→B b∧¬B2 b)∧(∀b,B2 b→B b)∧exP h B1 x (us.take 4)∧ti h B2 r (us.drop 4)
end
def ExP (h:Hp)(B:Nat→Prop)(v:Value)(l:List Ex):Prop:=∃(us:List Value) (Bc:Nat→Prop),bX h 0 36 4 v l.length us∧(∀b,v.ownBlock=some b→B b∧¬Bc b)∧(∀b,Bc b→B b)∧ti h Bc l us
theorem A0 {h:Hp}{B:Nat→Prop}{x:Ex}{cs:List Value}:exP h B x cs↔∃v,cs=exC x v∧ExP h B v x.l:=by
 cases x;simp only [exP,ExP,exC,Ex.op,Ex.nm,Ex.n,Ex.l]
 constructor
 ·rintro ⟨v,us,Bc,h1,h2⟩;exact ⟨v,h1,us,Bc,h2⟩
 ·rintro ⟨v,h1,us,Bc,h2⟩;exact ⟨v,us,Bc,h1,h2⟩
mutual
theorem Co {h h':Hp}{S:Nat→Prop}(k:ar S h h'):∀(x:Ex) {B B':Nat→Prop} {cs:List Value},exP h B x cs→(∀b,B b→¬S b)→(∀b,B b→B' b)→exP h' B' x cs
 |.mk op nm n l,B,B',cs,hx,hs,hb=>by
  unfold exP at hx ⊢;obtain ⟨v,us,Bc,e,ho,h1,h2,h3⟩:=hx;exact ⟨v,us,Bc,e,ho.aC fun b hb' hlt=>k.block b hlt (hs b (h1 b hb').1),fun b hb'=>⟨hb b (h1 b hb').1,(h1 b hb').2⟩,fun b hb'=>hb b (h2 b hb'),kO k l h3 (fun b hb'=>hs b (h2 b hb')) fun _ hb'=>hb'⟩
theorem kO {h h':Hp}{S:Nat→Prop}(k:ar S h h'):∀(l:List Ex) {B B':Nat→Prop} {us:List Value},ti h B l us→(∀b,B b→¬S b)→(∀b,B b→B' b)→ti h' B' l us
 |[],_,_,_,hx,_,_=>by
  unfold ti at hx ⊢;exact hx
 |x::r,B,B',us,hx,hs,hb=>by
  unfold ti at hx ⊢;obtain ⟨B1,B2,h1,h2,h3,h4⟩:=hx;exact ⟨B1,B2,fun b hb'=>⟨hb b (h1 b hb').1,(h1 b hb').2⟩,fun b hb'=>hb b (h2 b hb'),Co k x h3 (fun b hb'=>hs b (h1 b hb').1) (fun _ hb'=>hb'),kO k r h4 (fun b hb'=>hs b (h2 b hb')) fun _ hb'=>hb'⟩
end
theorem ExP.aC {h h':Hp}{S B B':Nat→Prop}{v:Value}{l:List Ex}(hp:ExP h B v l)(k:ar S h h')(hs:∀b,B b→¬S b)(hb:∀b,B b→B' b):ExP h' B' v l:=by
 obtain ⟨us,Bc,ho,h1,h2,h3⟩:=hp;exact ⟨us,Bc,ho.aC fun b hb' hlt=>k.block b hlt (hs b (h1 b hb').1),fun b hb'=>⟨hb b (h1 b hb').1,(h1 b hb').2⟩,fun b hb'=>hb b (h2 b hb'),kO k l h3 (fun b hb'=>hs b (h2 b hb')) fun _ hb'=>hb'⟩
theorem yP {h:Hp}{base sz n:Nat}{t:TypeId}{v:Value}{us:List Value}(ho:bX h base t sz v n us):SlB h sz v n us:=by
 refine ⟨ho.dP,?_⟩;rcases ho.2 with ⟨_,h0⟩|⟨g,o,cap,cur,_,_,_,hnc,hcm,_,_⟩
 ·omega
 ·have:maxLen≤9223372036854775807:=by decide
  omega
mutual
theorem NB {h:Hp}:∀(x:Ex) {B:Nat→Prop} {cs:List Value},exP h B x cs→DH h x cs
 |.mk op nm n l,B,cs,hx=>by
  unfold exP at hx;obtain ⟨v,us,Bc,e,ho,_,_,h3⟩:=hx;exact Cx.2 ⟨v,e,us,yP ho,By l h3⟩
theorem By {h:Hp}:∀(l:List Ex) {B:Nat→Prop} {us:List Value},ti h B l us→lE h l us
 |[],_,_,hx=>by
  unfold ti at hx;unfold lE;exact hx
 |x::r,_,_,hx=>by
  unfold ti at hx;obtain ⟨_,_,_,_,h3,h4⟩:=hx;unfold lE;exact ⟨NB x h3,By r h4⟩
end
theorem ExP.S {h:Hp}{B:Nat→Prop}{v:Value}{l:List Ex}(hp:ExP h B v l):ExS h v l:=by
 obtain ⟨us,Bc,ho,_,_,h3⟩:=hp;exact ⟨us,yP ho,By l h3⟩
theorem Ci {h:Hp}{B:Nat→Prop}:ti h B [] []:=by unfold ti;rfl
theorem yz {h:Hp}:∀{l:List Ex} {us:List Value} {x:Ex} {cs:List Value} {B B' C:Nat→Prop},ti h B l us→us.length=l.length*4→exP h B' x cs→cs.length=4→(∀b,B b→C b∧¬B' b)→(∀b,B' b→C b)→ti h C (l++[x]) (us++cs)
 |[],us,x,cs,B,B',C,hl,hn,hx,hc,h1,h2=>by
  unfold ti at hl;subst hl;rw [Z4,Z4];unfold ti;refine ⟨B',fun _=>False,fun b hb=>⟨h2 b hb,id⟩,fun b hb=>hb.elim,?_,?_⟩
  ·rw [List.take_of_length_le (by omega)]
   exact hx
  ·rw [List.drop_of_length_le (by omega)]
   exact Ci
 |y::r,us,x,cs,B,B',C,hl,hn,hx,hc,h1,h2=>by
  rw [Qn] at hn;unfold ti at hl;obtain ⟨B1,B2,g1,g2,g3,g4⟩:=hl;rw [Qu];unfold ti;rw [Q0 (by omega),Q1 (by omega)]
  refine ⟨B1,fun b=>B2 b∨B' b,fun b hb=>⟨(h1 b (g1 b hb).1).1,fun hh=>hh.elim (g1 b hb).2 (h1 b (g1 b hb).1).2⟩,fun b hb=>hb.elim (fun hb=>(h1 b (g2 b hb)).1) (h2 b),g3,?_⟩;exact yz g4 (by rw [Qs];omega) hx hc (fun b hb=>⟨.inl hb,(h1 b (g2 b hb)).2⟩) fun b hb=>.inr hb
theorem yk {h:Hp}:∀{l:List Ex} {us:List Value} {B:Nat→Prop} {i:Nat} {x:Ex},ti h B l us→us.length=l.length*4→l[i]?=some x→∃(w:Value) (Bi:Nat→Prop),(us.drop (i*4)).take 4=exC x w∧ExP h Bi w x.l∧(∀b,Bi b→B b) ∧
  ∀(h':Hp) (nm':ByteArray) (l':List Ex) (us':List Value),ar Bi h h'→ExP h' Bi w l'→us'=us.set (i*4+1) (.string nm')→ti h' B (l.set i (.mk x.op nm' x.n l')) us'
 |[],_,_,_,_,_,_,hi=>by cases hi
 |y::r,us,B,0,x,hl,hn,hi=>by
  cases hi;rw [Qn] at hn;unfold ti at hl;obtain ⟨B1,B2,g1,g2,g3,g4⟩:=hl;obtain ⟨w,e,hp⟩:=A0.1 g3;refine ⟨w,B1,by rw [Nat.zero_mul,List.drop_zero];exact e,hp,fun b hb=>(g1 b hb).1,fun h' nm' l' us' k hp' hu=>?_⟩
  subst hu;rw [List.set_cons_zero];unfold ti;refine ⟨B1,B2,g1,g2,A0.2 ⟨w,?_,hp'⟩,?_⟩
  ·rw [List.take_set,e];cases y;rfl
  ·rw [List.drop_set,if_pos (by omega)]
   exact kO k r g4 (fun b hb hb1=>(g1 b hb1).2 hb) fun _ hb=>hb
 |y::r,us,B,i+1,x,hl,hn,hi=>by
  rw [Qn] at hn;unfold ti at hl;obtain ⟨B1,B2,g1,g2,g3,g4⟩:=hl;obtain ⟨w,Bi,e,hp,hb,hh⟩:=yk g4 (by rw [Qs];omega) (i:=i) hi
  refine ⟨w,Bi,by rw [←e,Z8,show (i+1)*4=4+i*4 by omega],hp,fun b hb'=>g2 b (hb b hb'),fun h' nm' l' us' k hp' hu=>?_⟩
  subst hu;rw [List.set_cons_succ];unfold ti;refine ⟨B1,B2,g1,g2,?_,?_⟩
  ·rw [List.take_set_of_le (by omega)]
   exact Co k y g3 (fun b hb1 hbi=>(g1 b hb1).2 (hb b hbi)) fun _ hb=>hb
  ·rw [List.drop_set,if_neg (by omega)]
   exact hh h' nm' l' _ k hp' (by congr 1;omega)
def Dj (B Be Bb Bl:Nat→Prop):Prop:=(∀b,Be b→B b∧¬Bb b∧¬Bl b)∧(∀b,Bb b→B b∧¬Bl b)∧∀b,Bl b→B b
theorem Dj.mono {B B' Be Bb Bl:Nat→Prop}(h:Dj B Be Bb Bl)(hb:∀b,B b→B' b):Dj B' Be Bb Bl :=
 ⟨fun b k=>⟨hb b (h.1 b k).1,(h.1 b k).2⟩,fun b k=>⟨hb b (h.2.1 b k).1,(h.2.1 b k).2⟩,fun b k=>hb b (h.2.2 b k)⟩
theorem Dj.sub {B Be Bb Bl:Nat→Prop}(h:Dj B Be Bb Bl):∀b,Be b∨Bb b∨Bl b→B b:=fun b k=>by
 rcases k with k|k|k
 ·exact (h.1 b k).1
 ·exact (h.2.1 b k).1
 ·exact h.2.2 b k
mutual
def stP (h:Hp)(B:Nat→Prop):St→List Value→Prop
 |.mk d at_ a b t n e body els,cs=>∃(ve vb vl:Value) (us ws:List Value) (Be Bb Bl Bc Bd:Nat→Prop),cs=[.int .i64 d,.int .i64 at_,.string a,.string b,.string t,.int .i64 n,ve,vb,vl]∧Dj B Be Bb Bl∧ExP h Be ve e ∧
  (bX h 0 39 9 vb body.length us∧(∀b,vb.ownBlock=some b→Bb b∧¬Bc b)∧(∀b,Bc b→Bb b)∧sY h Bc body us) ∧
  (bX h 0 39 9 vl els.length ws∧(∀b,vl.ownBlock=some b→Bl b∧¬Bd b)∧(∀b,Bd b→Bl b)∧sY h Bd els ws)
def sY (h:Hp)(B:Nat→Prop):List St→List Value→Prop
 |[],us=>us=[]
 |x::r,us=>∃B1 B2:Nat→Prop,(∀b,B1 b→B b∧¬B2 b)∧(∀b,B2 b→B b)∧stP h B1 x (us.take 9)∧sY h B2 r (us.drop 9)
end
def StP (h:Hp)(B:Nat→Prop)(v:Value)(l:List St):Prop:=∃(us:List Value) (Bc:Nat→Prop),bX h 0 39 9 v l.length us∧(∀b,v.ownBlock=some b→B b∧¬Bc b)∧(∀b,Bc b→B b)∧sY h Bc l us
theorem Bs {h:Hp}{B:Nat→Prop}{x:St}{cs:List Value}:stP h B x cs↔∃ve vb vl,∃Be Bb Bl:Nat→Prop,cs=stC x ve vb vl∧Dj B Be Bb Bl∧ExP h Be ve x.e∧StP h Bb vb x.body∧StP h Bl vl x.els:=by
 cases x;simp only [stP,StP,stC,St.d,St.at_,St.a,St.b,St.t,St.n,St.e,St.body,St.els]
 constructor
 ·rintro ⟨ve,vb,vl,us,ws,Be,Bb,Bl,Bc,Bd,h1,h2,h3,h4,h5⟩;exact ⟨ve,vb,vl,Be,Bb,Bl,h1,h2,h3,⟨us,Bc,h4⟩,ws,Bd,h5⟩
 ·rintro ⟨ve,vb,vl,Be,Bb,Bl,h1,h2,h3,⟨us,Bc,h4⟩,ws,Bd,h5⟩;exact ⟨ve,vb,vl,us,ws,Be,Bb,Bl,Bc,Bd,h1,h2,h3,h4,h5⟩
mutual
theorem CW {h h':Hp}{S:Nat→Prop}(k:ar S h h'):∀(x:St) {B B':Nat→Prop} {cs:List Value},stP h B x cs→(∀b,B b→¬S b)→(∀b,B b→B' b)→stP h' B' x cs
 |.mk d at_ a b t n e body els,B,B',cs,hx,hs,hb=>by
  unfold stP at hx ⊢;obtain ⟨ve,vb,vl,us,ws,Be,Bb,Bl,Bc,Bd,h1,h2,h3,⟨g1,g2,g3,g4⟩,h5,h6,h7,h8⟩:=hx;have sb:∀b,Bb b→¬S b:=fun b hb'=>hs b (h2.2.1 b hb').1;have sl:∀b,Bl b→¬S b:=fun b hb'=>hs b (h2.2.2 b hb');exact ⟨ve,vb,vl,us,ws,Be,Bb,Bl,Bc,Bd,h1,h2.mono hb,h3.aC k (fun b hb'=>hs b (h2.1 b hb').1) fun _ hb'=>hb',
   ⟨g1.aC fun b hb' hlt=>k.block b hlt (sb b (g2 b hb').1),g2,g3,iQ k body g4 (fun b hb'=>sb b (g3 b hb')) fun _ hb'=>hb'⟩,
   h5.aC fun b hb' hlt=>k.block b hlt (sl b (h6 b hb').1),h6,h7,iQ k els h8 (fun b hb'=>sl b (h7 b hb')) fun _ hb'=>hb'⟩
theorem iQ {h h':Hp}{S:Nat→Prop}(k:ar S h h'):∀(l:List St) {B B':Nat→Prop} {us:List Value},sY h B l us→(∀b,B b→¬S b)→(∀b,B b→B' b)→sY h' B' l us
 |[],_,_,_,hx,_,_=>by
  unfold sY at hx ⊢;exact hx
 |x::r,B,B',us,hx,hs,hb=>by
  unfold sY at hx ⊢;obtain ⟨B1,B2,h1,h2,h3,h4⟩:=hx;exact ⟨B1,B2,fun b hb'=>⟨hb b (h1 b hb').1,(h1 b hb').2⟩,fun b hb'=>hb b (h2 b hb'),CW k x h3 (fun b hb'=>hs b (h1 b hb').1) (fun _ hb'=>hb'),iQ k r h4 (fun b hb'=>hs b (h2 b hb')) fun _ hb'=>hb'⟩
end
theorem StP.aC {h h':Hp}{S B B':Nat→Prop}{v:Value}{l:List St}(hp:StP h B v l)(k:ar S h h')(hs:∀b,B b→¬S b)(hb:∀b,B b→B' b):StP h' B' v l:=by
 obtain ⟨us,Bc,ho,h1,h2,h3⟩:=hp;exact ⟨us,Bc,ho.aC fun b hb' hlt=>k.block b hlt (hs b (h1 b hb').1),fun b hb'=>⟨hb b (h1 b hb').1,(h1 b hb').2⟩,fun b hb'=>hb b (h2 b hb'),iQ k l h3 (fun b hb'=>hs b (h2 b hb')) fun _ hb'=>hb'⟩
mutual
theorem Nt {h:Hp}:∀(x:St) {B:Nat→Prop} {cs:List Value},stP h B x cs→El h x cs
 |.mk d at_ a b t n e body els,B,cs,hx=>by
  unfold stP at hx;obtain ⟨ve,vb,vl,us,ws,Be,Bb,Bl,Bc,Bd,h1,_,h3,⟨g1,_,_,g4⟩,h5,_,_,h8⟩:=hx;exact Ch.2 ⟨ve,vb,vl,h1,h3.S,⟨us,yP g1,xn body g4⟩,ws,yP h5,xn els h8⟩
theorem xn {h:Hp}:∀(l:List St) {B:Nat→Prop} {us:List Value},sY h B l us→kC h l us
 |[],_,_,hx=>by
  unfold sY at hx;unfold kC;exact hx
 |x::r,_,_,hx=>by
  unfold sY at hx;obtain ⟨_,_,_,_,h3,h4⟩:=hx;unfold kC;exact ⟨Nt x h3,xn r h4⟩
end
theorem StP.S {h:Hp}{B:Nat→Prop}{v:Value}{l:List St}(hp:StP h B v l):StS h v l:=by
 obtain ⟨us,Bc,ho,_,_,h3⟩:=hp;exact ⟨us,yP ho,xn l h3⟩
theorem CJ {h:Hp}{B:Nat→Prop}:sY h B [] []:=by unfold sY;rfl
theorem Au {h:Hp}:∀{l:List St} {us:List Value} {x:St} {cs:List Value} {B B' C:Nat→Prop},sY h B l us→us.length=l.length*9→stP h B' x cs→cs.length=9→(∀b,B b→C b∧¬B' b)→(∀b,B' b→C b)→sY h C (l++[x]) (us++cs)
 |[],us,x,cs,B,B',C,hl,hn,hx,hc,h1,h2=>by
  unfold sY at hl;subst hl;rw [Z4,Z4];unfold sY;refine ⟨B',fun _=>False,fun b hb=>⟨h2 b hb,id⟩,fun b hb=>hb.elim,?_,?_⟩
  ·rw [List.take_of_length_le (by omega)]
   exact hx
  ·rw [List.drop_of_length_le (by omega)]
   exact CJ
 |y::r,us,x,cs,B,B',C,hl,hn,hx,hc,h1,h2=>by
  rw [Qn] at hn;unfold sY at hl;obtain ⟨B1,B2,g1,g2,g3,g4⟩:=hl;rw [Qu];unfold sY;rw [Q0 (by omega),Q1 (by omega)]
  refine ⟨B1,fun b=>B2 b∨B' b,fun b hb=>⟨(h1 b (g1 b hb).1).1,fun hh=>hh.elim (g1 b hb).2 (h1 b (g1 b hb).1).2⟩,fun b hb=>hb.elim (fun hb=>(h1 b (g2 b hb)).1) (h2 b),g3,?_⟩;exact Au g4 (by rw [Qs];omega) hx hc (fun b hb=>⟨.inl hb,(h1 b (g2 b hb)).2⟩) fun b hb=>.inr hb
theorem xo {h:Hp}:∀{l:List St} {us:List Value} {B:Nat→Prop} {i:Nat} {x:St},sY h B l us→us.length=l.length*9→l[i]?=some x→∃(ve vb vl:Value) (Be Bb Bl:Nat→Prop),(us.drop (i*9)).take 9=stC x ve vb vl∧Dj B Be Bb Bl∧ExP h Be ve x.e∧StP h Bb vb x.body∧StP h Bl vl x.els ∧
  ∀(h':Hp) (a' b':ByteArray) (e':List Ex) (body' els':List St) (us':List Value),ar (fun b=>Be b∨Bb b∨Bl b) h h'→ExP h' Be ve e'→StP h' Bb vb body'→StP h' Bl vl els'→us'=(us.set (i*9+2) (.string a')).set (i*9+3) (.string b')→sY h' B (l.set i (.mk x.d x.at_ a' b' x.t x.n e' body' els')) us'
 |[],_,_,_,_,_,_,hi=>by cases hi
 |y::r,us,B,0,x,hl,hn,hi=>by
  cases hi;rw [Qn] at hn;unfold sY at hl;obtain ⟨B1,B2,g1,g2,g3,g4⟩:=hl;obtain ⟨ve,vb,vl,Be,Bb,Bl,e,hd,p1,p2,p3⟩:=Bs.1 g3;refine ⟨ve,vb,vl,Be,Bb,Bl,by rw [Nat.zero_mul,List.drop_zero];exact e,hd.mono fun b hb=>(g1 b hb).1,p1,p2,p3,fun h' a' b' e' body' els' us' k q1 q2 q3 hu=>?_⟩
  subst hu;rw [List.set_cons_zero];unfold sY;refine ⟨B1,B2,g1,g2,Bs.2 ⟨ve,vb,vl,Be,Bb,Bl,?_,hd,q1,q2,q3⟩,?_⟩
  ·rw [List.take_set,List.take_set,e];cases y;rfl
  ·rw [List.drop_set,if_pos (by omega),List.drop_set,if_pos (by omega)]
   exact iQ k r g4 (fun b hb hb1=>(g1 b (hd.sub b hb1)).2 hb) fun _ hb=>hb
 |y::r,us,B,i+1,x,hl,hn,hi=>by
  rw [Qn] at hn;unfold sY at hl;obtain ⟨B1,B2,g1,g2,g3,g4⟩:=hl;obtain ⟨ve,vb,vl,Be,Bb,Bl,e,hd,p1,p2,p3,hh⟩:=xo g4 (by rw [Qs];omega) (i:=i) hi
  refine ⟨ve,vb,vl,Be,Bb,Bl,by rw [←e,Z8,show (i+1)*9=9+i*9 by omega],hd.mono g2,p1,p2,p3,fun h' a' b' e' body' els' us' k q1 q2 q3 hu=>?_⟩
  subst hu;rw [List.set_cons_succ];unfold sY;refine ⟨B1,B2,g1,g2,?_,?_⟩
  ·rw [List.take_set_of_le (by omega),List.take_set_of_le (by omega)]
   exact CW k y g3 (fun b hb1 hbi=>(g1 b hb1).2 (hd.sub b hbi)) fun _ hb=>hb
  ·rw [List.drop_set,if_neg (by omega),List.drop_set,if_neg (by omega)]
   exact hh h' a' b' e' body' els' _ k q1 q2 q3 (by rw [show (i+1)*9+2 - 9=i*9+2 by omega,show (i+1)*9+3 - 9=i*9+3 by omega])
end Go.Proofs.YtkeeboomikkojaaGreatDoor
namespace Go.Proofs.YtkeeboomikkojaaGreatDoor
open Go Go.Sx Go.Sx.Rn Go.Proofs.YtkeeboomikkojaaGreatDoor.Sx
section
variable  {ω:Amb}
theorem Ef:∀(N:Nat) (l:List Ex),cw l < N→cw l≤20000→∀(h:Hp) (v:Value),ExS h v l→∀(X:XT),
  aa Tryz.prog ω kn [v] h (fun r h'=>ExP h' (Nw h h') r l∧KF h h') X:=by
 intro N
 induction N with
 |zero=>exact fun l hN=>absurd hN (Nat.not_lt_zero _)
 |succ N ih =>
  intro l hN hle h v hs X;refine kd ω _ h _ X ?_;unfold dG;have hlen:=gj l;refine ⟨fun out t h'=>∃(k:Nat) (us:List Value),t=.int .i64 k∧k≤l.length∧bX h' h.size 36 4 out k us∧ti h' (fun b=>Nw h h' b∧out.ownBlock≠some b) (l.take k) us∧KF h h',
   fun _ t _=>match t with|.int _ k=>l.length - k.toNat|_=>0,⟨0,[],rfl,by omega,bX.nil,Ci,ar.refl _ _⟩,?_⟩
  rintro out _ _ h5 ⟨k,us,rfl,hk,ho,hat,k1⟩;have hs1:=hs.aC k1;refine hs1.sl fun _ _=>?_;rw [asK_int];refine ae (fun hc=>?_) (fun hc=>?_)
  rotate_left
  ·have hc:=Qc hc;obtain rfl:k=l.length:=by omega
   rw [Qo] at hat;exact ⟨⟨us,_,ho.base (Nat.zero_le _),fun b hb=>⟨ho.lt b hb,fun hh=>hh.2 hb⟩,fun b hb=>hb.1,hat⟩,k1⟩
  have hkl:k < l.length:=by
   have:=Qj hc;omega
  have hx:=Q7 hkl;have hmem:l[k]∈l:=Qv hkl;generalize l[k]=x at hx hmem;have hxn:=cr hmem;have hxe:=gA x;refine hs1.rdC hx fun w hw=>?_;refine ⟨rfl,dC hw.b8,aA (cs:=exC x w) rfl ?_⟩;have hb6:=ah (h:=h5) (o:=.cells (exC x w).toArray 36 (0,0));have k6:=ar.push (S:=fun _=>False) h5 (.cells (exC x w).toArray 36 (0,0));have z6:(h5.push (.cells (exC x w).toArray 36 (0,0))).size=h5.size+1:=by simp
  have hw6:=hw.aC k6;generalize h5.push (.cells (exC x w).toArray 36 (0,0))=h6 at *;refine lx hb6 (j:=3) rfl ?_;refine aa.use (ih x.l (by omega) (by omega) h6 w hw6) ?_
  rintro r h7 ⟨hr,k7⟩;have hb7:=k7.get hb6 (by simp)
  refine cP hr.S.b8.one ?_;refine aM hb7 (by simp [exC]) ?_
  rw [show (exC x w).toArray.setIfInBounds 3 r=(exC x r).toArray from by simp [exC]]
  have hb8:=aq (o:=.cells (exC x r).toArray 36 (0,0)) hb7;have k8:=ar.set (S:=fun b=>b=h5.size) (h:=h7) (.cells (exC x r).toArray 36 (0,0)) (b:=h5.size) rfl;have z8:(h7.setIfInBounds h5.size (.cells (exC x r).toArray 36 (0,0))).size=h7.size:=by simp
  generalize h7.setIfInBounds h5.size (.cells (exC x r).toArray 36 (0,0))=h8 at *;have k58:KF h5 h8:=((k6.trans k7).mono (S':=fun b=>b=h5.size) (fun _ _ h=>h.elim)).trans k8 |>.mono (fun b hb e=>by omega)
  refine ⟨exC x r,ak hb8 rfl,rfl,?_⟩;refine dR (bt:=56) (cs:=exC x r) (by kernel_rfl) (ho.more k58) rfl (dC hr.S.b8) (by omega) (by omega) (by have:=k1.size;have:=k58.size;omega) fun w2 h9 ho2 hg _ hv=>?_
  have hlt:=ho.lt;have k7s:=k7.size;have k58s:=k58.size;have hg9:=hg.size;have k89:ar (fun b=>some b=out.ownBlock) h8 h9:=ar.grown hg fun b hb _=>hb.symm;have k59:ar (fun b=>some b=out.ownBlock) h5 h9:=(k58.mono (fun _ _ h=>h.elim)).trans k89;have k09:KF h h9:=ar.mono (k1.mono (S':=fun b=>some b=out.ownBlock) (fun _ _ h=>h.elim) |>.trans k59) (fun b hb e=>by have:=hlt b e.symm;omega)
  rw [asK_int,i64_in (by omega) (by omega)]
  refine ⟨⟨k+1,us++exC x r,by simp,by omega,ho2,?_,k09⟩,by simp;omega⟩
  rw [aZ hx];refine yz (B:=fun b=>Nw h h5 b∧out.ownBlock≠some b) (B':=Nw h6 h7) (kO k59 _ hat (fun b hb e=>hb.2 e.symm) fun _ hb=>hb) (by rw [ho.1,Qp];congr 1;omega) (A0.2 ⟨r,rfl,?_⟩) rfl (fun b hb=>⟨⟨⟨hb.1.1,by have:=hb.1.2;omega⟩,dS hv (by have:=hb.1.2;omega) hb.2⟩,fun hh=>by have:=hh.1;have:=hb.1.2;omega⟩) fun b hb=>⟨⟨by have:=k1.size;have:=hb.1;omega,by have:=hb.2;omega⟩,dS hv (by have:=hb.2;omega) fun e=>by have:=hlt b e;have:=hb.1;omega⟩
  exact (hr.aC k8 (fun b hb e=>by have:=hb.1;have e:b=h5.size:=e;omega) fun _ hb=>hb).aC k89 (fun b hb e=>by have:=hlt b e.symm;have:=hb.1;omega) fun _ hb=>hb
theorem DU:∀(N:Nat) (l:List St),cc l < N→cc l≤20000→∀(h:Hp) (v:Value),StS h v l→∀(X:XT),
  aa Tryz.prog ω km [v] h (fun r h'=>StP h' (Nw h h') r l∧KF h h') X:=by
 intro N
 induction N with
 |zero=>exact fun l hN=>absurd hN (Nat.not_lt_zero _)
 |succ N ih =>
  intro l hN hle h v hs X;refine ke ω _ h _ X ?_;unfold dI;have hlen:=pz l;refine ⟨fun out t h'=>∃(k:Nat) (us:List Value),t=.int .i64 k∧k≤l.length∧bX h' h.size 39 9 out k us∧sY h' (fun b=>Nw h h' b∧out.ownBlock≠some b) (l.take k) us∧KF h h',
   fun _ t _=>match t with|.int _ k=>l.length - k.toNat|_=>0,⟨0,[],rfl,by omega,bX.nil,CJ,ar.refl _ _⟩,?_⟩
  rintro out _ _ h5 ⟨k,us,rfl,hk,ho,hat,k1⟩;have hs1:=hs.aC k1;refine hs1.sl fun _ _=>?_;rw [asK_int];refine ae (fun hc=>?_) (fun hc=>?_)
  rotate_left
  ·have hc:=Qc hc;obtain rfl:k=l.length:=by omega
   rw [Qo] at hat;exact ⟨⟨us,_,ho.base (Nat.zero_le _),fun b hb=>⟨ho.lt b hb,fun hh=>hh.2 hb⟩,fun b hb=>hb.1,hat⟩,k1⟩
  have hkl:k < l.length:=by
   have:=Qj hc;omega
  have hx:=Q7 hkl;have hmem:l[k]∈l:=Qv hkl;generalize l[k]=x at hx hmem;have hxn:=im hmem;have hxe:=jN x;refine hs1.rdC hx fun ve vb vl he hbd hel=>?_;refine ⟨rfl,qt he.b8 hbd.b8 hel.b8,aA (cs:=stC x ve vb vl) rfl ?_⟩;have hb6:=ah (h:=h5) (o:=.cells (stC x ve vb vl).toArray 39 (0,0));have k6:=ar.push (S:=fun _=>False) h5 (.cells (stC x ve vb vl).toArray 39 (0,0));have z6:(h5.push (.cells (stC x ve vb vl).toArray 39 (0,0))).size=h5.size+1:=by simp
  have he:=he.aC k6;generalize h5.push (.cells (stC x ve vb vl).toArray 39 (0,0))=h6 at *;refine lx hb6 (j:=6) rfl ?_;refine aa.use (Ef _ x.e (Qw _) (by omega) h6 ve he) ?_
  rintro r1 h7 ⟨hr1,k7⟩;have hb7:=k7.get hb6 (by simp)
  refine cP hr1.S.b8.one ?_;refine aM hb7 (by simp [stC]) ?_
  rw [Ik];have hb8:=aq (o:=.cells (stC x r1 vb vl).toArray 39 (0,0)) hb7;have k8:=ar.set (S:=fun b=>b=h5.size) (h:=h7) (.cells (stC x r1 vb vl).toArray 39 (0,0)) (b:=h5.size) rfl;have z8:(h7.setIfInBounds h5.size (.cells (stC x r1 vb vl).toArray 39 (0,0))).size=h7.size:=by simp
  generalize h7.setIfInBounds h5.size (.cells (stC x r1 vb vl).toArray 39 (0,0))=h8 at *;have k58:ar (fun b=>b=h5.size) h5 h8:=((k6.trans k7).mono (fun _ _ h=>h.elim)).trans k8;have f58:KF h5 h8:=k58.mono (fun b hb e=>by omega)
  refine lx hb8 (j:=7) rfl ?_;refine aa.use (ih x.body (by omega) (by omega) h8 vb (hbd.aC f58)) ?_
  rintro r2 h9 ⟨hr2,k9⟩;have hb9:=k9.get hb8 (by simp)
  refine cP hr2.S.b8.one ?_;refine aM hb9 (by simp [stC]) ?_
  rw [IF];have hb10:=aq (o:=.cells (stC x r1 r2 vl).toArray 39 (0,0)) hb9;have k10:=ar.set (S:=fun b=>b=h5.size) (h:=h9) (.cells (stC x r1 r2 vl).toArray 39 (0,0)) (b:=h5.size) rfl;have z10:(h9.setIfInBounds h5.size (.cells (stC x r1 r2 vl).toArray 39 (0,0))).size=h9.size:=by simp
  generalize h9.setIfInBounds h5.size (.cells (stC x r1 r2 vl).toArray 39 (0,0))=h10 at *;have k810:ar (fun b=>b=h5.size) h8 h10:=(k9.mono (fun _ _ h=>h.elim)).trans k10;have k510:=k58.trans k810;have f510:KF h5 h10:=k510.mono (fun b hb e=>by omega)
  refine lx hb10 (j:=8) rfl ?_;refine aa.use (ih x.els (by omega) (by omega) h10 vl (hel.aC f510)) ?_
  rintro r3 h11 ⟨hr3,k11⟩;have hb11:=k11.get hb10 (by simp)
  refine cP hr3.S.b8.one ?_;refine aM hb11 (by simp [stC]) ?_
  rw [Jf];have hb12:=aq (o:=.cells (stC x r1 r2 r3).toArray 39 (0,0)) hb11;have k12:=ar.set (S:=fun b=>b=h5.size) (h:=h11) (.cells (stC x r1 r2 r3).toArray 39 (0,0)) (b:=h5.size) rfl;have z12:(h11.setIfInBounds h5.size (.cells (stC x r1 r2 r3).toArray 39 (0,0))).size=h11.size:=by simp
  generalize h11.setIfInBounds h5.size (.cells (stC x r1 r2 r3).toArray 39 (0,0))=h12 at *;have k1012:ar (fun b=>b=h5.size) h10 h12:=(k11.mono (fun _ _ h=>h.elim)).trans k12;have k912:ar (fun b=>b=h5.size) h9 h12:=k10.trans k1012;have k712:ar (fun b=>b=h5.size) h7 h12:=k8.trans (k810.trans k1012);have f512:KF h5 h12:=(k510.trans k1012).mono (fun b hb e=>by omega)
  refine ⟨stC x r1 r2 r3,ak hb12 rfl,rfl,?_⟩;refine dR (bt:=144) (cs:=stC x r1 r2 r3) (by kernel_rfl) (ho.more f512) rfl (qt hr1.S.b8 hr2.S.b8 hr3.S.b8) (by omega) (by omega) (by have:=k1.size;have:=f512.size;omega) fun w2 h13 ho2 hg _ hv=>?_
  have hlt:=ho.lt;have k7s:=k7.size;have k9s:=k9.size;have k11s:=k11.size;have k58s:=f512.size;have hg9:=hg.size;have k89:ar (fun b=>some b=out.ownBlock) h12 h13:=ar.grown hg fun b hb _=>hb.symm;have k59:ar (fun b=>some b=out.ownBlock) h5 h13:=(f512.mono (fun _ _ h=>h.elim)).trans k89;have k09:KF h h13:=ar.mono (k1.mono (S':=fun b=>some b=out.ownBlock) (fun _ _ h=>h.elim) |>.trans k59) (fun b hb e=>by have:=hlt b e.symm;omega)
  have tr:∀{ha hb:Hp},ar (fun b=>b=h5.size) hb h12→h5.size < ha.size→hb.size≤h12.size→(∀b,Nw ha hb b→¬b=h5.size)∧∀b,Nw ha hb b→¬some b=out.ownBlock:=fun kk h1 h2 =>
   ⟨fun b hb e=>by have:=hb.1;omega,fun b hb e=>by have:=hlt b e.symm;have:=hb.1;omega⟩
  have t1:=tr (ha:=h6) (hb:=h7) k712 (by omega) k712.size
  have t2:=tr (ha:=h8) (hb:=h9) k912 (by omega) k912.size
  have t3:=tr (ha:=h10) (hb:=h11) k12 (by omega) k12.size
  have q1:=(hr1.aC k712 t1.1 fun _ hb=>hb).aC k89 t1.2 fun _ hb=>hb;have q2:=(hr2.aC k912 t2.1 fun _ hb=>hb).aC k89 t2.2 fun _ hb=>hb;have q3:=(hr3.aC k12 t3.1 fun _ hb=>hb).aC k89 t3.2 fun _ hb=>hb;rw [asK_int,i64_in (by omega) (by omega)]
  refine ⟨⟨k+1,us++stC x r1 r2 r3,by simp,by omega,ho2,?_,k09⟩,by simp;omega⟩
  rw [aZ hx];refine Au (B:=fun b=>Nw h h5 b∧out.ownBlock≠some b) (B':=fun b=>h5.size < b∧b < h12.size) (iQ k59 _ hat (fun b hb e=>hb.2 e.symm) fun _ hb=>hb) (by rw [ho.1,Qp];congr 1;omega) (Bs.2 ⟨r1,r2,r3,Nw h6 h7,Nw h8 h9,Nw h10 h11,rfl,⟨fun b hb=>⟨⟨by have:=hb.1;omega,by have:=hb.2;have:=k712.size;omega⟩,fun hh=>by have:=hb.2;have:=hh.1;omega,fun hh=>by have:=hb.2;have:=hh.1;omega⟩,fun b hb=>⟨⟨by have:=hb.1;omega,by have:=hb.2;have:=k912.size;omega⟩,fun hh=>by have:=hb.2;have:=hh.1;omega⟩,fun b hb=>⟨by have:=hb.1;omega,by have:=hb.2;omega⟩⟩,q1,q2,q3⟩) rfl (fun b hb=>⟨⟨⟨hb.1.1,by have:=hb.1.2;omega⟩,dS hv (by have:=hb.1.2;omega) hb.2⟩,fun hh=>by have:=hh.1;have:=hb.1.2;omega⟩) fun b hb=>⟨⟨by have:=k1.size;have:=hb.1;omega,by have:=hb.2;omega⟩,dS hv (by have:=hb.2;omega) fun e=>by have:=hlt b e;have:=hb.1;omega⟩
end
def sgP (h:Hp)(B:Nat→Prop)(s:Sg)(cs:List Value):Prop:=∃(vp vb:Value) (Bb:Nat→Prop),cs=sgC s vp vb∧bX h 0 32 2 vp s.ps.length (s.ps.flatMap pf)∧AL vp∧(∀b,vp.ownBlock=some b→B b∧¬Bb b)∧(∀b,Bb b→B b)∧StP h Bb vb s.body
def Ew (h:Hp)(B:Nat→Prop):List Sg→List Value→Prop
 |[],us=>us=[]
 |x::r,us=>∃B1 B2:Nat→Prop,(∀b,B1 b→B b∧¬B2 b)∧(∀b,B2 b→B b)∧sgP h B1 x (us.take 4)∧Ew h B2 r (us.drop 4)
theorem Cg {h h':Hp}{S:Nat→Prop}(k:ar S h h'){x:Sg}{B B':Nat→Prop}{cs:List Value}(hx:sgP h B x cs)(hs:∀b,B b→¬S b)(hb:∀b,B b→B' b):sgP h' B' x cs:=by
 obtain ⟨vp,vb,Bb,e,ho,hn,h1,h2,h3⟩:=hx;exact ⟨vp,vb,Bb,e,ho.aC fun b hb' hlt=>k.block b hlt (hs b (h1 b hb').1),hn,fun b hb'=>⟨hb b (h1 b hb').1,(h1 b hb').2⟩,fun b hb'=>hb b (h2 b hb'),h3.aC k (fun b hb'=>hs b (h2 b hb')) fun _ hb'=>hb'⟩
theorem kr {h h':Hp}{S:Nat→Prop}(k:ar S h h'):∀(l:List Sg) {B B':Nat→Prop} {us:List Value},Ew h B l us→(∀b,B b→¬S b)→(∀b,B b→B' b)→Ew h' B' l us
 |[],_,_,_,hx,_,_=>hx
 |x::r,B,B',us,hx,hs,hb=>by
  obtain ⟨B1,B2,h1,h2,h3,h4⟩:=hx;exact ⟨B1,B2,fun b hb'=>⟨hb b (h1 b hb').1,(h1 b hb').2⟩,fun b hb'=>hb b (h2 b hb'),Cg k h3 (fun b hb'=>hs b (h1 b hb').1) (fun _ hb'=>hb'),kr k r h4 (fun b hb'=>hs b (h2 b hb')) fun _ hb'=>hb'⟩
theorem Fs {h:Hp}:∀(l:List Sg) {B:Nat→Prop} {us:List Value},Ew h B l us→gS h l us
 |[],_,_,hx=>by
  unfold gS;exact hx
 |x::r,_,_,hx=>by
  obtain ⟨_,_,_,_,⟨vp,vb,Bb,e,ho,hn,_,_,h3⟩,h4⟩:=hx;unfold gS;exact ⟨⟨vp,vb,e,⟨ho.dP,hn⟩,h3.S⟩,Fs r h4⟩
theorem Du {h:Hp}{B:Nat→Prop}:Ew h B [] []:=rfl
theorem yB {h:Hp}:∀{l:List Sg} {us:List Value} {x:Sg} {cs:List Value} {B B' C:Nat→Prop},Ew h B l us→us.length=l.length*4→sgP h B' x cs→cs.length=4→(∀b,B b→C b∧¬B' b)→(∀b,B' b→C b)→Ew h C (l++[x]) (us++cs)
 |[],us,x,cs,B,B',C,hl,hn,hx,hc,h1,h2=>by
  obtain rfl:us=[]:=hl;rw [Z4,Z4];refine ⟨B',fun _=>False,fun b hb=>⟨h2 b hb,id⟩,fun b hb=>hb.elim,?_,?_⟩
  ·rw [List.take_of_length_le (by omega)]
   exact hx
  ·rw [List.drop_of_length_le (by omega)]
   exact Du
 |y::r,us,x,cs,B,B',C,hl,hn,hx,hc,h1,h2=>by
  rw [Qn] at hn;obtain ⟨B1,B2,g1,g2,g3,g4⟩:=hl;rw [Qu];refine ⟨B1,fun b=>B2 b∨B' b,fun b hb=>⟨(h1 b (g1 b hb).1).1,fun hh=>hh.elim (g1 b hb).2 (h1 b (g1 b hb).1).2⟩,fun b hb=>hb.elim (fun hb=>(h1 b (g2 b hb)).1) (h2 b),?_,?_⟩
  ·rw [Q0 (by omega)]
   exact g3
  ·rw [Q1 (by omega)]
   exact yB g4 (by rw [Qs];omega) hx hc (fun b hb=>⟨.inl hb,(h1 b (g2 b hb)).2⟩) fun b hb=>.inr hb
theorem C4 {h:Hp}:∀{l:List Sg} {us:List Value} {B:Nat→Prop} {i:Nat} {x:Sg},Ew h B l us→us.length=l.length*4→l[i]?=some x→∃(vp vb:Value) (Bb:Nat→Prop),(us.drop (i*4)).take 4=sgC x vp vb∧bX h 0 32 2 vp x.ps.length (x.ps.flatMap pf)∧(∀b,vp.ownBlock=some b→B b∧¬Bb b)∧(∀b,Bb b→B b)∧StP h Bb vb x.body ∧
  ∀(h':Hp) (ps':List (ByteArray×ByteArray)) (body':List St),ar (fun b=>vp.ownBlock=some b∨Bb b) h h'→bX h' 0 32 2 vp ps'.length (ps'.flatMap pf)→StP h' Bb vb body'→Ew h' B (l.set i ⟨x.nm,x.at_,ps',body'⟩) us
 |[],_,_,_,_,_,_,hi=>by cases hi
 |y::r,us,B,0,x,hl,hn,hi=>by
  cases hi;rw [Qn] at hn;obtain ⟨B1,B2,g1,g2,⟨vp,vb,Bb,e,ho,hnil,p1,p2,p3⟩,g4⟩:=hl;refine ⟨vp,vb,Bb,by rw [Nat.zero_mul,List.drop_zero];exact e,ho,fun b hb=>⟨(g1 b (p1 b hb).1).1,(p1 b hb).2⟩,fun b hb=>(g1 b (p2 b hb)).1,p3,fun h' ps' body' k q1 q2=>?_⟩
  rw [List.set_cons_zero];refine ⟨B1,B2,g1,g2,⟨vp,vb,Bb,e,q1,hnil,p1,p2,q2⟩,?_⟩;refine kr k r g4 (fun b hb hh=>?_) fun _ hb=>hb;rcases hh with hh|hh
  ·exact (g1 b (p1 b hh).1).2 hb
  ·exact (g1 b (p2 b hh)).2 hb
 |y::r,us,B,i+1,x,hl,hn,hi=>by
  rw [Qn] at hn;obtain ⟨B1,B2,g1,g2,g3,g4⟩:=hl;obtain ⟨vp,vb,Bb,e,ho,p1,p2,p3,hh⟩:=C4 g4 (by rw [Qs];omega) (i:=i) hi
  refine ⟨vp,vb,Bb,by rw [←e,Z8,show (i+1)*4=4+i*4 by omega],ho,fun b hb=>⟨g2 b (p1 b hb).1,(p1 b hb).2⟩,fun b hb=>g2 b (p2 b hb),p3,fun h' ps' body' k q1 q2=>?_⟩
  rw [List.set_cons_succ];refine ⟨B1,B2,g1,g2,Cg k g3 (fun b hb hk=>?_) fun _ hb=>hb,hh h' ps' body' k q1 q2⟩;rcases hk with hk|hk
  ·exact (g1 b hb).2 (p1 b hk).1
  ·exact (g1 b hb).2 (p2 b hk)
section
variable  {ω:Amb}
theorem FO (p:List Sg)(hlen:p.length≤100)(hnm:∀s∈p,s.ps.length≤100)(htot:(p.map fun s=>cc s.body).sum≤20000)(v:Value)(h:Hp)(hp:PgS h v p)(X:XT) :
  aa Tryz.prog ω iE [v] h (fun r h'=>∃w us,r=.agg #[w]∧bX h' h.size 41 4 w p.length us∧Ew h' (fun b=>Nw h h' b∧w.ownBlock≠some b) p us∧KF h h') X:=by
 obtain ⟨w0,rfl,hs⟩:=hp;refine iM ω _ h _ X ?_;unfold df bp;simp only [show Value.cells (.agg #[w0])=[w0].toArray from rfl]
 have hb0:=ah (h:=h) (o:=.cells [w0].toArray 24 (0,0));have k0:=ar.push (S:=fun _=>False) h (.cells [w0].toArray 24 (0,0));have z0:(h.push (.cells [w0].toArray 24 (0,0))).size=h.size+1:=by simp
 generalize h.push (.cells [w0].toArray 24 (0,0))=h1 at *;have hb1:=ah (h:=h1) (o:=.cells [.slice none 0 0].toArray 24 (0,0));have k1:=ar.push (S:=fun _=>False) h1 (.cells [.slice none 0 0].toArray 24 (0,0));have z1:(h1.push (.cells [.slice none 0 0].toArray 24 (0,0))).size=h1.size+1:=by simp
 generalize h1.push (.cells [.slice none 0 0].toArray 24 (0,0))=h2 at *;have hb2:=ah (h:=h2) (o:=.cells [.slice none 0 0].toArray 24 (0,0));have k2:=ar.push (S:=fun _=>False) h2 (.cells [.slice none 0 0].toArray 24 (0,0));have z2:(h2.push (.cells [.slice none 0 0].toArray 24 (0,0))).size=h2.size+1:=by simp
 generalize h2.push (.cells [.slice none 0 0].toArray 24 (0,0))=h3 at *;have hb0:=(k1.trans k2).get hb0 (by simp)
 have hb1:=k2.get hb1 (by simp)
 have k03:=(k0.trans k1).trans k2;refine ⟨fun t h'=>∃(k:Nat) (out:Value) (us:List Value),t=.int .i64 k∧k≤p.length∧bX h' h3.size 41 4 out k us∧Ew h' (fun b=>Nw h3 h' b∧out.ownBlock≠some b) (p.take k) us∧KF h h' ∧
   h'[h.size]?=some (.cells [w0].toArray 24 (0,0))∧h'[h1.size]?=some (.cells [.slice none 0 0].toArray 24 (0,0))∧h'[h2.size]?=some (.cells [out].toArray 24 (0,0))∧h3.size≤h'.size,
  fun t _=>match t with|.int _ k=>p.length - k.toNat|_=>0,⟨0,.slice none 0 0,[],rfl,by omega,bX.nil,Du,k03,hb0,hb1,hb2,by omega⟩,?_⟩
 clear hb0 hb1 hb2;rintro _ _ h4 ⟨k,out,us,rfl,hk,ho,hat,kk,hb0,hb1,hb2,hz⟩;have hs1:=hs.aC kk;refine lx hb0 (j:=0) rfl ?_;refine hs1.sl fun _ _=>?_;rw [asK_int];refine ae (fun hc=>?_) (fun hc=>?_)
 rotate_left
 ·have hc:=Qc hc;obtain rfl:k=p.length:=by omega
  rw [Qo] at hat;refine ⟨[out],ak hb2 rfl,rfl,?_,?_⟩
  ·intro u hu;obtain rfl:=Qf.1 (by simpa using hu)
   exact tX ho
  refine aW hb1 (by simp) ?_
  rw [ca (by rfl)]
  have hb9:=aq (o:=.cells [out].toArray 24 (0,0)) hb1;have k9:=ar.set (S:=fun b=>b=h1.size) (h:=h4) (.cells [out].toArray 24 (0,0)) (b:=h1.size) rfl;generalize h4.setIfInBounds h1.size (.cells [out].toArray 24 (0,0))=h9 at *;have z9:=k9.size;refine ⟨[out],ak hb9 rfl,out,us,rfl,?_,?_,(kk.mono (fun _ _ h=>h.elim)).trans k9 |>.mono fun b hb e=>by omega⟩
  ·exact (ho.aC fun b hb hl=>k9.block b hl fun e=>by have:=ho.lt b hb;omega).base (by omega)
  ·exact kr k9 p hat (fun b hb e=>by have:=hb.1.1;have e:b=h1.size:=e;omega) fun b hb=>⟨⟨by have:=hb.1.1;omega,by have:=hb.1.2;omega⟩,hb.2⟩
 have hkl:k < p.length:=by
  have:=Qj hc;omega
 have hx:=Q7 hkl;have hmem:p[k]∈p:=Qv hkl;generalize p[k]=x at hx hmem;have hxp:=hnm x hmem;have hxb:cc x.body≤20000:=Nat.le_trans (ue hmem) htot;refine lx hb0 (j:=0) rfl ?_;refine hs1.rdC hx fun vp vb hps hbd=>?_;refine ⟨rfl,lY (ew hps.2) hbd.b8,aA (cs:=sgC x vp vb) rfl ?_⟩;have hb6:=ah (h:=h4) (o:=.cells (sgC x vp vb).toArray 41 (0,0));have k6:=ar.push (S:=fun _=>False) h4 (.cells (sgC x vp vb).toArray 41 (0,0))
 have z6:(h4.push (.cells (sgC x vp vb).toArray 41 (0,0))).size=h4.size+1:=by simp
 have hps:=hps.aC k6;generalize h4.push (.cells (sgC x vp vb).toArray 41 (0,0))=h6 at *;refine lx hb6 (j:=2) rfl ?_;refine EY (bt:=32) (el:=32) (sz:=2) (base:=h6.size) (n:=0) (xs:=[]) (by kernel_rfl) bX.nil (Oe hps) (fun u hu=>?_) (by omega) (by omega) (Zd _) fun r1 h7 hr1 hg7 _ _=>?_
 ·obtain ⟨q,_,hq⟩:=List.mem_flatMap.1 hu;exact CT q u hq
 rw [Zc,Z4] at hr1;have k7:KF h6 h7:=ar.grown hg7 fun b hb _=>by cases hb
 have hb7:=k7.get hb6 (by simp)
 refine cP (tX hr1) ?_;refine aM hb7 (by simp [sgC]) ?_
 rw [Jz];have hb8:=aq (o:=.cells (sgC x r1 vb).toArray 41 (0,0)) hb7;have k8:=ar.set (S:=fun b=>b=h4.size) (h:=h7) (.cells (sgC x r1 vb).toArray 41 (0,0)) (b:=h4.size) rfl;have z8:(h7.setIfInBounds h4.size (.cells (sgC x r1 vb).toArray 41 (0,0))).size=h7.size:=by simp
 generalize h7.setIfInBounds h4.size (.cells (sgC x r1 vb).toArray 41 (0,0))=h8 at *;have k58:ar (fun b=>b=h4.size) h4 h8:=((k6.trans k7).mono (fun _ _ h=>h.elim)).trans k8;have f58:KF h4 h8:=k58.mono (fun b hb e=>by omega)
 refine lx hb8 (j:=3) rfl ?_;refine aa.use (DU _ x.body (Qw _) hxb h8 vb (hbd.aC f58)) ?_;rintro r2 h9 ⟨hr2,k9⟩;have hb9:=k9.get hb8 (by simp)
 refine cP hr2.S.b8.one ?_;refine aM hb9 (by simp [sgC]) ?_
 rw [Is];have hb10:=aq (o:=.cells (sgC x r1 r2).toArray 41 (0,0)) hb9;have k10:=ar.set (S:=fun b=>b=h4.size) (h:=h9) (.cells (sgC x r1 r2).toArray 41 (0,0)) (b:=h4.size) rfl;have z10:(h9.setIfInBounds h4.size (.cells (sgC x r1 r2).toArray 41 (0,0))).size=h9.size:=by simp
 generalize h9.setIfInBounds h4.size (.cells (sgC x r1 r2).toArray 41 (0,0))=h10 at *;have k810:ar (fun b=>b=h4.size) h8 h10:=(k9.mono (fun _ _ h=>h.elim)).trans k10;have k710:ar (fun b=>b=h4.size) h7 h10:=k8.trans k810;have f510:KF h4 h10:=(k58.trans k810).mono (fun b hb e=>by omega)
 refine lx (f510.get hb2 (by simp)) (j:=0) rfl ?_
 refine ⟨sgC x r1 r2,ak hb10 rfl,rfl,?_⟩;refine dR (bt:=72) (cs:=sgC x r1 r2) (by kernel_rfl) (ho.more f510) rfl (lY (ew (y9 hr1)) hr2.S.b8) (by omega) (by omega) (by have:=f510.size;omega) fun w2 h13 ho2 hg _ hv=>?_
 have hlt:=ho.lt;have k7s:=k7.size;have k9s:=k9.size;have k58s:=f510.size;have hg9:=hg.size;have k89:ar (fun b=>some b=out.ownBlock) h10 h13:=ar.grown hg fun b hb _=>hb.symm;have k59:ar (fun b=>some b=out.ownBlock) h4 h13:=(f510.mono (fun _ _ h=>h.elim)).trans k89;have hnb:∀b,b < h3.size→some b≠out.ownBlock:=fun b hb e=>by have:=hlt b e.symm;omega
 have hb2':=k59.get hb2 (hnb _ (by omega))
 have hb0':=k59.get hb0 (hnb _ (by omega))
 have hb1':=k59.get hb1 (hnb _ (by omega))
 refine cP (tX ho2) ?_;refine aM hb2' (by simp) ?_
 rw [show ([out].toArray).setIfInBounds 0 w2=[w2].toArray from rfl]
 have hb14:=aq (o:=.cells [w2].toArray 24 (0,0)) hb2';have k14:=ar.set (S:=fun b=>b=h2.size) (h:=h13) (.cells [w2].toArray 24 (0,0)) (b:=h2.size) rfl;have z14:(h13.setIfInBounds h2.size (.cells [w2].toArray 24 (0,0))).size=h13.size:=by simp
 generalize h13.setIfInBounds h2.size (.cells [w2].toArray 24 (0,0))=h14 at *;have hlt2:=ho2.lt;have kz:=k03.size;have k09:KF h h14:=ar.mono ((kk.mono (S':=fun b=>some b=out.ownBlock∨b=h2.size) (fun _ _ h=>h.elim)).trans ((k59.mono fun _ _ h=>.inl h).trans (k14.mono fun _ _ h=>.inr h))) (fun b hb e=>by
  rcases e with e|e
  ·have:=hlt b e.symm;omega
  ·omega)
 have n5:∀b,Nw h8 h9 b→¬b=h4.size:=fun b hb e=>by have:=hb.1;omega
 have n6:∀b,Nw h8 h9 b→¬some b=out.ownBlock:=fun b hb e=>by have:=hlt b e.symm;have:=hb.1;omega
 have n7:∀b,Nw h8 h9 b→¬b=h2.size:=fun b hb e=>by have:=hb.1;omega
 have q2:=((hr2.aC k10 n5 fun _ hb=>hb).aC k89 n6 fun _ hb=>hb).aC k14 n7 fun _ hb=>hb;have lt1:=hr1.lt;have q1:bX h14 0 32 2 r1 x.ps.length (x.ps.flatMap pf):=(((hr1.aC fun b hb hl=>k710.block b hl fun e=>by have:=(lt1 b hb).1;have e:b=h4.size:=e;omega).aC fun b hb hl=>k89.block b hl fun e=>by have:=(lt1 b hb).1;have:=hlt b e.symm;omega).aC fun b hb hl=>k14.block b hl fun e=>by have:=(lt1 b hb).1;have e:b=h2.size:=e;omega).base (Nat.zero_le _)
 rw [asK_int,i64_in (by omega) (by omega)]
 refine ⟨⟨k+1,w2,us++sgC x r1 r2,by simp,by omega,ho2.aC fun b hb hl=>k14.block b hl fun e=>by have:=hlt2 b hb;omega,?_,k09,k14.get hb0' (by omega),k14.get hb1' (by omega),hb14,by omega⟩,by simp;omega⟩
 rw [aZ hx];refine yB (B:=fun b=>Nw h3 h4 b∧out.ownBlock≠some b) (B':=fun b=>h4.size < b∧b < h10.size) (kr k14 _ (kr k59 _ hat (fun b hb e=>hb.2 e.symm) fun _ hb=>hb) (fun b hb e=>by have:=hb.1.1;have e:b=h2.size:=e;omega) fun _ hb=>hb) (by rw [ho.1,Qp];congr 1;omega) ⟨r1,r2,Nw h8 h9,rfl,q1,y9 hr1,fun b hb=>⟨⟨by have:=(lt1 b hb).1;omega,by have:=(lt1 b hb).2;omega⟩,fun hh=>by have:=(lt1 b hb).2;have:=hh.1;omega⟩,fun b hb=>⟨by have:=hb.1;omega,by have:=hb.2;omega⟩,q2⟩ rfl (fun b hb=>⟨⟨⟨hb.1.1,by have:=hb.1.2;omega⟩,dS hv (by have:=hb.1.2;omega) hb.2⟩,fun hh=>by have:=hh.1;have:=hb.1.2;omega⟩) fun b hb=>⟨⟨by have:=hb.1;omega,by have:=hb.2;omega⟩,dS hv (by have:=hb.2;omega) fun e=>by have:=hlt b e;have:=hb.1;omega⟩
end
end Go.Proofs.YtkeeboomikkojaaGreatDoor
namespace Go.Proofs.YtkeeboomikkojaaGreatDoor
open Go Go.Sx Go.Sx.Tk Go.Sx.Rn Go.Proofs.YtkeeboomikkojaaGreatDoor.Sx
def sgm (a z:ByteArray):Nm:=fun s=>if s=a then z else s
theorem qO {us:List Value}{j:Nat}{u:Value}(h:us[j]?=some u):us.set j u=us:=by
 obtain ⟨h1,rfl⟩:=Q6.1 h;exact List.set_getElem_self h1
theorem lW {us:List Value}{i sz o:Nat}{cs:List Value}{u:Value}(h:(us.drop (i*sz)).take sz=cs)(ho:o < sz)(hu:cs[o]?=some u):us[i*sz+o]?=some u:=by
 rw [←h,Qh,if_pos ho,Qi] at hu;exact hu
theorem GS {α:Type}(f:α→α){l:List α}{k:Nat}{x:α}(hx:l[k]?=some x):((l.take k).map f++l.drop k)[k]?=some x∧((l.take k).map f++l.drop k).set k (f x)=(l.take (k+1)).map f++l.drop (k+1):=by
 obtain ⟨hk,rfl⟩:=Q6.1 hx;have hl:((l.take k).map f).length=k:=by rw [Z6,Qp];omega
 refine ⟨by rw [Q2 (by omega),hl,Nat.sub_self,Qi,Nat.add_zero,hx],?_⟩
 rw [List.set_append_right _ _ (by omega),hl,Nat.sub_self,Q4 hk,List.set_cons_zero,aZ hx,List.map_append,Qk]
 rfl
theorem wS {α:Type}(f:α→α)(l:List α)(k:Nat):((l.take k).map f++l.drop k).length=l.length:=by
 rw [Qd,Z6,Qp,Qs];omega
section
variable  {ω:Amb}
set_option maxHeartbeats 800000 in
theorem Ij (a z:ByteArray):∀(N:Nat) (l:List Ex),cw l < N→∀(h:Hp) (B:Nat→Prop) (v:Value),ExP h B v l→∀(X:XT),
  aa Tryz.prog ω 44 [v,.string a,.string z] h (fun _ h'=>ExP h' B v (oK (sgm a z) l)∧ar B h h') X:=by
 intro N
 induction N with
 |zero=>exact fun l hN=>absurd hN (Nat.not_lt_zero _)
 |succ N ih =>
  intro l hN h B v hp X;refine jg ω _ _ _ h _ X ?_;unfold dn;have hmax:=hp.S.max;have hf:∀k,((l.take k).map (rnE (sgm a z))++l.drop k).length=l.length:=wS _ l;refine ⟨fun t h'=>∃k:Nat,t=.int .i64 k∧k≤l.length∧ExP h' B v ((l.take k).map (rnE (sgm a z))++l.drop k)∧ar B h h',fun t _=>match t with|.int _ k=>l.length - k.toNat|_=>0,⟨0,rfl,by omega,hp,ar.refl _ _⟩,?_⟩
  rintro _ _ h4 ⟨k,rfl,hk,hp4,k4⟩;obtain ⟨us,Bc,ho,h1,h2,h3⟩:=id hp4;have hl4:=hf k;rw [hl4] at ho;refine ho.dP.sl fun _ _=>?_;rw [asK_int];refine ae (fun hc=>?_) (fun hc=>?_)
  rotate_left
  ·have hc:=Qc hc;obtain rfl:k=l.length:=by omega
   rw [Qo,Qt,Z1,←tH] at hp4;exact ⟨hp4,k4⟩
  have hkl:k < l.length:=by have:=Qj hc;omega
  have hx:=Q7 hkl;have hmem:l[k]∈l:=Qv hkl;generalize l[k]=x at hx hmem;have hxn:=cr hmem;have hxe:=gA x;obtain ⟨hx4,hset⟩:=GS (rnE (sgm a z)) hx;have hul:us.length=((l.take k).map (rnE (sgm a z))++l.drop k).length*4:=by rw [hl4];exact ho.1
  obtain ⟨w0,_,ec,_⟩:=yk h3 hul hx4;refine ⟨decide (x.op=2)&&decide (x.nm=a),?_,fun _=>?_⟩
  ·refine bm.rdO ho.dP (i:=k) (o:=0) hkl (u:=.int .i64 x.op) (by rw [ec];rfl) ?_
   rw [asK_int];refine ae (fun hc=>?_) (fun hc=>?_)
   ·rw [Z7 (Zg hc),Zb];refine bm.rdO ho.dP (i:=k) (o:=1) hkl (u:=.string x.nm) (by rw [ec];rfl) ?_
    rw [asS_str,asS_str,eqB];exact ⟨rfl,rfl⟩
   ·rw [Z0 (Qa.1 hc)];exact ⟨rfl,rfl⟩
  refine ⟨fun h'=>bX h' 0 36 4 v l.length (us.set (k*4+1) (.string (if x.op=2 then sgm a z x.nm else x.nm)))∧ar (fun b=>v.ownBlock=some b) h4 h',?_,?_⟩
  ·refine ae (fun hc=>?_) (fun hc=>?_)
   ·rw [Qq] at hc;have e1:=Qj hc.1;have e2:=Qj hc.2;have e3:(if x.op=2 then sgm a z x.nm else x.nm)=z:=by
     rw [if_pos e1];unfold sgm;rw [if_pos e2]
    rw [e3];refine bX.setCell (ho.base (Nat.zero_le _)) hkl (by decide) fun h5 ho5 k5=>?_
    exact ⟨ho5,k5⟩
   ·have e3:(if x.op=2 then sgm a z x.nm else x.nm)=x.nm:=by
     by_cases h2:x.op=2
     ·rw [if_pos h2];unfold sgm;rw [Z7 h2,Zb] at hc;rw [if_neg (Qc hc)]
     ·rw [if_neg h2]
    rw [e3,qO (lW ec (by decide) rfl)]
    exact ⟨ho,ar.refl _ _⟩
  rintro _ h5 ⟨ho5,k45⟩;have own1:∀b,Bc b→¬v.ownBlock=some b:=fun b hb e=>(h1 b e).2 hb;have h35:=kO k45 _ h3 own1 (fun _ hb=>hb);obtain ⟨w,Bi,ec5,hp5,hbi,hh⟩:=yk h35 hul hx4;have hcs:((us.set (k*4+1) (.string (if x.op=2 then sgm a z x.nm else x.nm))).drop (k*4)).take 4=(exC x w).set 1 (.string (if x.op=2 then sgm a z x.nm else x.nm)):=by
   rw [List.drop_set,if_neg (by omega),List.take_set,ec5]
   congr 1
   omega
  refine bm.rdO ho5.dP (i:=k) (o:=3) hkl (u:=w) (by rw [hcs];rfl) ?_
  refine aa.use (ih x.l (by omega) h5 Bi w hp5) ?_
  rintro _ h6 ⟨hp6,k56⟩;have own2:∀b,v.ownBlock=some b→¬Bi b:=fun b e hb=>(h1 b e).2 (hbi b hb);have hq:=hh h6 (if x.op=2 then sgm a z x.nm else x.nm) (oK (sgm a z) x.l) _ k56 hp6 rfl
  rw [show Ex.mk x.op (if x.op=2 then sgm a z x.nm else x.nm) x.n (oK (sgm a z) x.l)=rnE (sgm a z) x from by cases x;rfl,hset] at hq
  rw [asK_int,i64_in (by omega) (by omega)]
  refine ⟨⟨k+1,by simp,by omega,⟨_,Bc,?_,h1,h2,hq⟩,(k4.trans (k45.mono fun b _ e=>(h1 b e).1)).trans (k56.mono fun b _ hb=>h2 b (hbi b hb))⟩,by simp;omega⟩
  rw [hf (k+1)];exact ho5.aC fun b hb hlt=>k56.block b hlt (own2 b hb)
set_option maxHeartbeats 1600000 in
theorem IY (a z:ByteArray):∀(N:Nat) (l:List St),cc l < N→∀(h:Hp) (B:Nat→Prop) (v:Value),StP h B v l→∀(X:XT),
  aa Tryz.prog ω 22 [v,.string a,.string z] h (fun _ h'=>StP h' B v (ql (sgm a z) l)∧ar B h h') X:=by
 intro N
 induction N with
 |zero=>exact fun l hN=>absurd hN (Nat.not_lt_zero _)
 |succ N ih =>
  intro l hN h B v hp X;refine iV ω _ _ _ h _ X ?_;unfold dj;have hmax:=hp.S.max;have hf:∀k,((l.take k).map (rnS (sgm a z))++l.drop k).length=l.length:=wS _ l;refine ⟨fun t h'=>∃k:Nat,t=.int .i64 k∧k≤l.length∧StP h' B v ((l.take k).map (rnS (sgm a z))++l.drop k)∧ar B h h',fun t _=>match t with|.int _ k=>l.length - k.toNat|_=>0,⟨0,rfl,by omega,hp,ar.refl _ _⟩,?_⟩
  rintro _ _ h4 ⟨k,rfl,hk,hp4,k4⟩;obtain ⟨us,Bc,ho,h1,h2,h3⟩:=id hp4;have hl4:=hf k;rw [hl4] at ho;refine ho.dP.sl fun _ _=>?_;rw [asK_int];refine ae (fun hc=>?_) (fun hc=>?_)
  rotate_left
  ·have hc:=Qc hc;obtain rfl:k=l.length:=by omega
   rw [Qo,Qt,Z1,←Cc] at hp4;exact ⟨hp4,k4⟩
  have hkl:k < l.length:=by have:=Qj hc;omega
  have hx:=Q7 hkl;have hmem:l[k]∈l:=Qv hkl;generalize l[k]=x at hx hmem;have hxn:=im hmem;have hxe:=jN x;obtain ⟨hx4,hset⟩:=GS (rnS (sgm a z)) hx;have hul:us.length=((l.take k).map (rnS (sgm a z))++l.drop k).length*9:=by rw [hl4];exact ho.1
  obtain ⟨ve0,vb0,vl0,_,_,_,ec,_⟩:=xo h3 hul hx4;have own1:∀b,Bc b→¬v.ownBlock=some b:=fun b hb e=>(h1 b e).2 hb;refine ⟨decide (x.a=a)&&!decide (x.d=10),?_,fun _=>?_⟩
  ·refine bm.rdO ho.dP (i:=k) (o:=2) hkl (u:=.string x.a) (by rw [ec];rfl) ?_
   rw [asS_str,asS_str,eqB];refine ae (fun hc=>?_) (fun hc=>?_)
   ·rw [hc,Zb];refine bm.rdO ho.dP (i:=k) (o:=0) hkl (u:=.int .i64 x.d) (by rw [ec];rfl) ?_
    rw [asK_int];exact ⟨by congr 1,rfl⟩
   ·rw [hc];exact ⟨rfl,rfl⟩
  refine ⟨fun h'=>bX h' 0 39 9 v l.length (us.set (k*9+2) (.string (if x.d=10 then x.a else sgm a z x.a)))∧ar (fun b=>v.ownBlock=some b) h4 h',?_,?_⟩
  ·refine ae (fun hc=>?_) (fun hc=>?_)
   ·rw [Qq,Bool.not_eq_true'] at hc;have e1:=Qj hc.1;have e2:=Qc hc.2;have e3:(if x.d=10 then x.a else sgm a z x.a)=z:=by
     rw [if_neg e2];unfold sgm;rw [if_pos e1]
    rw [e3];refine bX.setCell (ho.base (Nat.zero_le _)) hkl (by decide) fun h5 ho5 k5=>?_
    exact ⟨ho5,k5⟩
   ·have e3:(if x.d=10 then x.a else sgm a z x.a)=x.a:=by
     by_cases h2:x.d=10
     ·rw [if_pos h2]
     ·rw [if_neg h2];unfold sgm;rw [Z0 h2,Bool.not_false,Bool.and_true] at hc;rw [if_neg (Qc hc)]
    rw [e3,qO (lW ec (by decide) rfl)]
    exact ⟨ho,ar.refl _ _⟩
  rintro _ h5 ⟨ho5,k45⟩;generalize hA:(if x.d=10 then x.a else sgm a z x.a)=a' at *
  have hcs:((us.set (k*9+2) (.string a')).drop (k*9)).take 9=(stC x ve0 vb0 vl0).set 2 (.string a'):=by
   rw [List.drop_set,if_neg (by omega),List.take_set,ec]
   congr 1
   omega
  refine bm.rdO ho5.dP (i:=k) (o:=3) hkl (u:=.string x.b) (by rw [hcs];rfl) ?_
  rw [asS_str,asS_str,eqB];refine ⟨fun h'=>bX h' 0 39 9 v l.length ((us.set (k*9+2) (.string a')).set (k*9+3) (.string (sgm a z x.b)))∧ar (fun b=>v.ownBlock=some b) h5 h',?_,?_⟩
  ·refine ae (fun hc=>?_) (fun hc=>?_)
   ·have e1:=Qj hc;have e3:sgm a z x.b=z:=by
     unfold sgm;rw [if_pos e1]
    rw [e3];refine bX.setCell ho5 hkl (by decide) fun h6 ho6 k6=>?_
    exact ⟨ho6,k6⟩
   ·have e3:sgm a z x.b=x.b:=by
     unfold sgm;rw [if_neg (Qc hc)]
    rw [e3,qO (us:=us.set (k*9+2) (.string a')) (lW hcs (by decide) rfl)]
    exact ⟨ho5,ar.refl _ _⟩
  rintro _ h6 ⟨ho6,k56⟩;have k46:=k45.trans k56;have h36:=iQ k46 _ h3 own1 (fun _ hb=>hb);obtain ⟨ve,vb,vl,Be,Bb,Bl,ec6,hd,p1,p2,p3,hh⟩:=xo h36 hul hx4;have hcs6:(((us.set (k*9+2) (.string a')).set (k*9+3) (.string (sgm a z x.b))).drop (k*9)).take 9=((stC x ve vb vl).set 2 (.string a')).set 3 (.string (sgm a z x.b)):=by
   rw [List.drop_set,if_neg (by omega),List.drop_set,if_neg (by omega),List.take_set,List.take_set,ec6,show k*9+2 - k*9=2 by omega,show k*9+3 - k*9=3 by omega]
  refine bm.rdO ho6.dP (i:=k) (o:=6) hkl (u:=ve) (by rw [hcs6];rfl) ?_
  refine aa.use (Ij a z _ x.e (Qw _) h6 Be ve p1) ?_;rintro _ h7 ⟨q1,k67⟩;have ownB:∀b,v.ownBlock=some b→¬(Be b∨Bb b∨Bl b):=fun b e hb=>(h1 b e).2 (hd.sub b hb);have ho7:=ho6.aC (h':=h7) fun b hb hlt=>k67.block b hlt fun e=>ownB b hb (.inl e);refine bm.rdO ho7.dP (i:=k) (o:=7) hkl (u:=vb) (by rw [hcs6];rfl) ?_
  refine aa.use (ih x.body (by omega) h7 Bb vb (p2.aC k67 (fun b hb e=>(hd.1 b e).2.1 hb) fun _ hb=>hb)) ?_
  rintro _ h8 ⟨q2,k78⟩;have ho8:=ho7.aC (h':=h8) fun b hb hlt=>k78.block b hlt fun e=>ownB b hb (.inr (.inl e));refine bm.rdO ho8.dP (i:=k) (o:=8) hkl (u:=vl) (by rw [hcs6];rfl) ?_
  refine aa.use (ih x.els (by omega) h8 Bl vl ((p3.aC k67 (fun b hb e=>(hd.1 b e).2.2 hb) fun _ hb=>hb).aC k78 (fun b hb e=>(hd.2.1 b e).2 hb) fun _ hb=>hb)) ?_
  rintro _ h9 ⟨q3,k89⟩;have ho9:=ho8.aC (h':=h9) fun b hb hlt=>k89.block b hlt fun e=>ownB b hb (.inr (.inr e));have k69:ar (fun b=>Be b∨Bb b∨Bl b) h6 h9:=((k67.mono fun b _ e=>.inl e).trans (k78.mono fun b _ e=>.inr (.inl e))).trans (k89.mono fun b _ e=>.inr (.inr e));have q1':=(q1.aC k78 (fun b hb e=>(hd.1 b hb).2.1 e) fun _ hb=>hb).aC k89 (fun b hb e=>(hd.1 b hb).2.2 e) fun _ hb=>hb;have q2':=q2.aC k89 (fun b hb e=>(hd.2.1 b hb).2 e) fun _ hb=>hb
  have hq:=hh h9 a' (sgm a z x.b) (oK (sgm a z) x.e) (ql (sgm a z) x.body) (ql (sgm a z) x.els) _ k69 q1' q2' q3 rfl;rw [show St.mk x.d x.at_ a' (sgm a z x.b) x.t x.n (oK (sgm a z) x.e) (ql (sgm a z) x.body) (ql (sgm a z) x.els)=rnS (sgm a z) x from by rw [←hA];cases x;rfl,hset] at hq
  rw [asK_int,i64_in (by omega) (by omega)]
  refine ⟨⟨k+1,by simp,by omega,⟨_,Bc,?_,h1,h2,hq⟩,(k4.trans (k46.mono fun b _ e=>(h1 b e).1)).trans (k69.mono fun b _ hb=>h2 b (hd.sub b hb))⟩,by simp;omega⟩
  rw [hf (k+1)];exact ho9
end
def Hd2 (p q:List Sg):Prop:=p.map (fun s=>(s.nm,s.ps.map (·.2)))=q.map fun s=>(s.nm,s.ps.map (·.2))
theorem Hd2.find {p q:List Sg}(h:Hd2 p q)(nm:ByteArray):(p.find? fun g=>decide (g.nm=nm)).map (fun s=>s.ps.map (·.2))=(q.find? fun g=>decide (g.nm=nm)).map (fun s=>s.ps.map (·.2)):=by
 induction p generalizing q with
 |nil =>
  cases q with
  |nil=>rfl
  |cons b r=>cases h
 |cons a p ih =>
  cases q with
  |nil=>cases h
  |cons b q =>
   have h:(a.nm,a.ps.map (·.2))::p.map (fun s=>(s.nm,s.ps.map (·.2)))=(b.nm,b.ps.map (·.2))::q.map (fun s=>(s.nm,s.ps.map (·.2))):=h;obtain ⟨h1,h2⟩:=List.cons.inj h;obtain ⟨h3,h4⟩:=Prod.mk.inj h1;rw [List.find?_cons,List.find?_cons,h3];cases decide (b.nm=nm) with
   |true=>exact congrArg some h4
   |false=>exact ih h2
theorem Hd2.take {p q:List Sg}(h:Hd2 p q)(k:Nat):Hd2 (p.take k) (q.take k):=by
 unfold Hd2 at h ⊢;rw [List.map_take,List.map_take,h]
theorem Dv (env:List Vr)(m:Int):∀(l:List Ex) (ps ps':List (ByteArray×ByteArray)) (f:Int×Int),ps.map (·.2)=ps'.map (·.2)→jm env m (l.zip ps) f=jm env m (l.zip ps') f
 |[],_,_,_,_=>rfl
 |x::r,[],ps',f,h=>by
  cases ps' with
  |nil=>rfl
  |cons b q=>cases h
 |x::r,a::ps,[],f,h=>by cases h
 |x::r,a::ps,b::ps',f,h=>by
  have h:a.2::ps.map (·.2)=b.2::ps'.map (·.2):=h;obtain ⟨h1,h2⟩:=List.cons.inj h;show jm env m (r.zip ps) (fg env m x a.2 f)=jm env m (r.zip ps') (fg env m x b.2 f);rw [h1];exact Dv env m r ps ps' _ h2
theorem DO {ab ab':List Sg}(h:Hd2 ab ab')(env:List Vr)(m:Int)(x:St)(f:Int×Int):kV ab env m x f=kV ab' env m x f:=by
 have hf:=h.find x.a;unfold kV;cases h1:ab.find? fun g=>decide (g.nm=x.a) with
 |none =>
  rw [h1] at hf;cases h2:ab'.find? fun g=>decide (g.nm=x.a) with
  |none=>rfl
  |some g=>rw [h2] at hf;cases hf
 |some g =>
  rw [h1] at hf;cases h2:ab'.find? fun g=>decide (g.nm=x.a) with
  |none=>rw [h2] at hf;cases hf
  |some g' =>
   rw [h2] at hf;have hf:g.ps.map (·.2)=g'.ps.map (·.2):=Z2 hf;have hl:g.ps.length=g'.ps.length:=by
    have:=congrArg List.length hf;simpa using this
   show (if g.ps.length≠x.e.length then _ else jm env m (x.e.zip g.ps) f)=if g'.ps.length≠x.e.length then _ else jm env m (x.e.zip g'.ps) f
   rw [hl,Dv env m x.e g.ps g'.ps f hf]
theorem zg {ab ab':List Sg}(h:Hd2 ab ab')(env:List Vr)(m:Int)(x:St)(f:Int×Int):gE ab env m x f=gE ab' env m x f:=by
 unfold gE qB;rw [DO h]
mutual
theorem Ma {ab ab':List Sg}(h:Hd2 ab ab'):∀(x:St) (env bd:List Vr) (m:Int),kst ab x env bd m=kst ab' x env bd m
 |.mk d at_ a b t n e body els,env,bd,m=>by
  have h1:=fun (env bd:List Vr) (m:Int)=>tq h body env bd m;have h2:=fun (env bd:List Vr) (m:Int)=>tq h els env bd m;rw [qQ,qQ];unfold tt kof kuf;rw [zg h];simp only [St.body,St.els,h1,h2]
theorem tq {ab ab':List Sg}(h:Hd2 ab ab'):∀(l:List St) (env bd:List Vr) (m:Int),gX ab l env bd m=gX ab' l env bd m
 |[],_,_,_=>by
  unfold gX;rfl
 |x::r,env,bd,m=>by
  have h2:=fun (env bd:List Vr) (m:Int)=>tq h r env bd m;rw [dK,dK,Ma h x];unfold tt kof;rw [zg h];simp only [h2]
end
theorem IW {ab ab':List Sg}(h:Hd2 ab ab')(nm:ByteArray)(m:Int):tu ab nm m=tu ab' nm m:=by
 have hf:=h.find nm;have hh:∀ab:List Sg,(ab.any fun g=>decide (g.nm=nm))=((ab.find? fun g=>decide (g.nm=nm)).map (fun s=>s.ps.map (·.2))).isSome:=fun ab=>by
  rw [Option.isSome_map,Qz,List.any_eq_true,List.find?_isSome]
 unfold tu;rw [hh ab,hh ab',hf]
theorem sf {ab ab':List Sg}(h:Hd2 ab ab')(g:Sg)(at_ n:Int):cd ab g at_ n=cd ab' g at_ n:=by
 unfold cd;rw [IW h,tq h]
def Nd (l:List Vr):Prop:=∀(j:Nat) (v:Vr),l[j]?=some v→rp (l.take j) v.1=0
theorem Nd.add {bd t:List Vr}(h:Nd bd)(ht:∀(j:Nat) (v:Vr),t[j]?=some v→rp (bd++t.take j) v.1=0):Nd (bd++t):=fun j v hj=>by
 rcases Nat.lt_or_ge j bd.length with hb|hb
 ·rw [Q5 hb] at hj;rw [Q0 (by omega)]
  exact h j v hj
 ·rw [Q2 hb] at hj;have:=ht (j - bd.length) v hj
  rwa [List.take_append,List.take_of_length_le (by omega)]
mutual
theorem OI (ab:List Sg):∀(x:St) {env bd:List Vr} {m:Int} {q:List Vr×Int},kst ab x env bd m=.ok q→Nd bd→Nd q.1
 |.mk d at_ a b t n e body els,env,bd,m,q,h,hd=>by
  obtain ⟨htw,hkf⟩:=Cz h;rw [xM htw hkf] at h;obtain ⟨b1,m1,h1,h2⟩:=dv h;exact xQ ab els h2 (xQ ab body h1 (hd.add fun j v hj=>knew htw _ hj))
theorem xQ (ab:List Sg):∀(l:List St) {env bd:List Vr} {m:Int} {q:List Vr×Int},gX ab l env bd m=.ok q→Nd bd→Nd q.1
 |[],_,_,_,_,h,hd=>by
  unfold gX at h;cases h;exact hd
 |x::r,_,_,_,_,h,hd=>by
  rw [dK] at h;obtain ⟨b1,m1,h1,h2⟩:=dv h;exact xQ ab r h2 (OI ab x h1 hd)
end
theorem M5 {at_:Int}{l:List Vr}(h:(kpP at_ l (0,0)).2.1=0):Nd l:=fun j v hj=>by
 have hz:∀k,(kpP at_ (l.take k) (0,0)).2=(0,0):=fun k=>by
  refine N9 at_ Zf0 _ ?_;refine Q3 fun hne=>?_;rw [Iw hne] at h;exact hne h
 have hsn:=xf at_ (l.take j) v (0,0);rw [←aZ hj,MK,hz j] at hsn;have hsn:=congrArg Prod.snd hsn;have hsn:(kpP at_ (l.take (j+1)) (0,0)).2=cJ (l.take j) v at_ (0,0):=hsn;rw [hz (j+1)] at hsn;have h5:=yt (l.take j) v.1;refine Q3 fun hne=>?_;unfold cJ at hsn;rw [if_pos (by omega)] at hsn
 exact te (by decide:(9:Int)≠0) at_ (by rw [←hsn])
theorem Lg {at_:Int}{l:List Vr}(h:Nd l):∀k,k≤l.length→(kpP at_ (l.take k) (0,0)).2=(0,0)
 |0,_=>rfl
 |k+1,hk=>by
  have hv:=Q7 (l:=l) (i:=k) (by omega)
  generalize l[k]=v at hv;rw [aZ hv,xf,MK,Lg h k (by omega)]
  show cJ (l.take k) v at_ (0,0)=(0,0);unfold cJ;rw [h k v hv,if_neg (by decide)]
theorem o7 {ab:List Sg}{g:Sg}{at_ n:Int}{q:List Vr×Int}(h:cd ab g at_ n=.ok q):tu ab g.nm at_=(0,0)∧Nd g.ps∧gX ab g.body g.ps.reverse g.ps n=.ok q∧¬30 < q.1.length:=by
 unfold cd at h
 split at h
 ·cases h
 ·rename_i h1;have h1:(kpP at_ g.ps (tu ab g.nm at_)).2.1=0:=by simpa using h1
  have hk:tu ab g.nm at_=(0,0):=by
   refine Kv ab g.nm at_ ?_;refine Q3 fun hne=>?_;rw [show (kpP at_ g.ps (tu ab g.nm at_)).2=tu ab g.nm at_ from FG at_ _ _ hne] at h1
   exact hne h1
  rw [hk] at h1;obtain ⟨b1,m1,h2,h3⟩:=dv h
  split at h3
  ·cases h3
  ·rename_i h4;cases h3;exact ⟨hk,M5 h1,h2,h4⟩
theorem Gs {ab:List Sg}{g:Sg}{at_ n:Int}{q:List Vr×Int}(hk:tu ab g.nm at_=(0,0))(hn:Nd g.ps)(h:gX ab g.body g.ps.reverse g.ps n=.ok q)(hl:¬30 < q.1.length):cd ab g at_ n=.ok q:=by
 have e:=Lg (at_:=at_) hn g.ps.length (Zd _);rw [Qo] at e;unfold cd;rw [hk,e,if_neg (by decide),h]
 show (if 30 < q.1.length then _ else _)=_
 rw [if_neg hl]
theorem F6 {ab:List Sg}{g:Sg}{at_ n:Int}{q:List Vr×Int}(h:cd ab g at_ n=.ok q):Nd q.1:=by
 obtain ⟨_,h2,h3,_⟩:=o7 h;exact xQ ab _ h3 h2
def rnG (σ:Nm)(g:Sg):Sg:=⟨g.nm,g.at_,rnV σ g.ps,ql σ g.body⟩
theorem AW (σ:Nm)(l:List Vr)(j:Nat):(rnV σ l)[j]?=(l[j]?).map fun v=>(σ v.1,v.2):=by unfold rnV;rw [List.getElem?_map]
theorem JC (σ:Nm)(l:List Vr)(j:Nat):(rnV σ l).take j=rnV σ (l.take j):=by unfold rnV;rw [List.map_take]
theorem PD {σ:Nm}{B l:List Vr}(hi:uV σ B)(hl:InB l B)(h:Nd l):Nd (rnV σ l):=fun j v hj=>by
 rw [AW] at hj;obtain ⟨u,hu,rfl⟩:=Option.map_eq_some_iff.1 hj;rw [JC];exact Fe hi (fun w hw=>hl w (List.mem_of_mem_take hw)) (hl u (List.mem_of_getElem? hu)) (h j u hu)
theorem FX {σ:Nm}{ab:List Sg}{g:Sg}{at_ n:Int}{q:List Vr×Int}(hi:uV σ q.1)(h:cd ab g at_ n=.ok q)(n2:Int):∃m2,cd ab (rnG σ g) at_ n2=.ok (rnV σ q.1,m2):=by
 obtain ⟨h1,h2,h3,h4⟩:=o7 h;obtain ⟨t,e⟩:=eL ab g.body h3;have hB:InB g.ps q.1:=InB.sub fun v hv=>by rw [e];exact List.mem_append_left _ hv
 have:=ud hi ab g.body h3 hB.rev (InB.sub fun v hv=>hv) n2;refine ⟨n2+(q.2 - n),Gs (g:=rnG σ g) (q:=(rnV σ q.1,n2+(q.2 - n))) h1 (PD hi hB h2) ?_ (by rw [uM];exact h4)⟩
 show gX ab (ql σ g.body) (rnV σ g.ps).reverse (rnV σ g.ps) n2=_;rw [AG];exact this
theorem Lz {a z:ByteArray}{B:List Vr}(hz:∀v∈B,v.1≠z):uV (sgm a z) B:=fun u hu v hv e=>by
 unfold sgm at e
 by_cases h1:u.1=a
 ·by_cases h2:v.1=a
  ·rw [h1,h2]
  ·rw [if_pos h1,if_neg h2] at e;exact absurd e.symm (hz v hv)
 ·by_cases h2:v.1=a
  ·rw [if_neg h1,if_pos h2] at e;exact absurd e (hz u hu)
  ·rw [if_neg h1,if_neg h2] at e;exact e
theorem pe {p:List Sg}{g:Sg}{r:List Sg}{i:Nat}{n:Int}{b:Bool}{out l:List (List Vr)}(h:sI p (g::r) i out n b=.ok l):∃q,cd (p.take i) g (-2 - i) n=.ok q∧sI p r (i+1) (out++[q.1]) q.2 (b||nO g)=.ok l:=by
 rw [eE] at h;cases hs:cd (p.take i) g (-2 - i) n with
 |error e =>
  rw [hs] at h;cases h
 |ok q =>
  rw [hs] at h;exact ⟨q,rfl,h⟩
theorem uc {p p':List Sg}(hp:Hd2 p p'):∀(r:List Sg) (i:Nat) (out out2:List (List Vr)) (n n2:Int) (b:Bool) {l:List (List Vr)},sI p r i out n b=.ok l→∃rows,l=out++rows∧rows.length=r.length∧sI p' r i out2 n2 b=.ok (out2++rows)
 |[],i,out,out2,n,n2,b,l,h=>by
  unfold sI at h ⊢
  split at h
  ·rename_i hb;cases h;exact ⟨[],by simp,rfl,by rw [if_pos hb,Z1]⟩
  ·cases h
 |g::r,i,out,out2,n,n2,b,l,h=>by
  obtain ⟨q,h1,h2⟩:=pe h;have h3:=CP h1 n2;rw [sf (hp.take i)] at h3;obtain ⟨rows,e1,e2,e3⟩:=uc hp r (i+1) (out++[q.1]) (out2++[q.1]) q.2 (n2+(q.2 - n)) (b||nO g) h2;refine ⟨q.1::rows,by rw [e1];simp,by rw [Qn,e2,Qn],?_⟩
  rw [eE,h3];show sI p' r (i+1) (out2++[q.1]) (n2+(q.2 - n)) (b||nO g)=_;rw [e3];simp
theorem xi {p p':List Sg}(hp:Hd2 p p')(σ:Nm):∀(r:List Sg) (k i:Nat) (out:List (List Vr)) (n n2:Int) (b:Bool) {l:List (List Vr)} {g:Sg} {bd:List Vr},sI p r i out n b=.ok l→r[k]?=some g→l[out.length+k]?=some bd→uV σ bd →
  sI p' (r.set k (rnG σ g)) i out n2 b=.ok (l.set (out.length+k) (rnV σ bd))∧Nd bd∧InB g.ps bd
 |[],_,_,_,_,_,_,_,_,_,_,hk,_,_=>by cases hk
 |g::r,0,i,out,n,n2,b,l,g',bd,h,hk,hl,hi=>by
  cases hk;obtain ⟨q,h1,h2⟩:=pe h;obtain ⟨rows,e1,e2,_⟩:=uc hp r (i+1) (out++[q.1]) [] q.2 0 (b||nO g) h2;have hbd:bd=q.1:=by
   rw [e1,Qk,Nat.add_zero,Q2 (Zd _),Nat.sub_self] at hl;exact (Z2 hl).symm
  subst hbd;obtain ⟨m2,h3⟩:=FX hi h1 n2;rw [sf (hp.take i)] at h3;obtain ⟨rows',e1',e2',e3'⟩:=uc hp r (i+1) (out++[q.1]) (out++[rnV σ q.1]) q.2 m2 (b||nO g) h2;have hrr:rows'=rows:=by
   rw [e1] at e1';exact (List.append_cancel_left e1').symm
  subst hrr;have hm:nO (rnG σ g)=nO g:=by
   unfold nO rnG;rw [uM,AW];show (decide (g.nm=_)&&(_&&_))=_;cases g.ps[0]? with
   |none=>rfl
   |some y=>rfl
  refine ⟨?_,F6 h1,?_⟩
  ·rw [List.set_cons_zero,eE,h3];show sI p' r (i+1) (out++[rnV σ q.1]) m2 (b||nO (rnG σ g))=_;rw [hm,e3',e1,Nat.add_zero]
   congr 1
   rw [Qk,Qk,List.set_append_right _ _ (Zd _),Nat.sub_self];rfl
  ·obtain ⟨_,_,g3,_⟩:=o7 h1;obtain ⟨t,e⟩:=eL _ g.body g3;exact InB.sub fun v hv=>by rw [e];exact List.mem_append_left _ hv
 |g::r,k+1,i,out,n,n2,b,l,g',bd,h,hk,hl,hi=>by
  obtain ⟨q,h1,h2⟩:=pe h;have h3:=CP h1 n2;rw [sf (hp.take i)] at h3;have hlen:(out++[q.1]).length+k=out.length+(k+1):=by rw [Qd,List.length_singleton];omega
  obtain ⟨e1,e2,e3⟩:=xi hp σ r k (i+1) (out++[q.1]) q.2 (n2+(q.2 - n)) (b||nO g) h2 hk (by rw [hlen];exact hl) hi
  refine ⟨?_,e2,e3⟩;rw [List.set_cons_succ,eE,h3];show sI p' (r.set k (rnG σ g')) (i+1) (out++[q.1]) (n2+(q.2 - n)) (b||nO g)=_;rw [e1,hlen]
theorem BF {σ:Nm}:∀(p:List Sg) (k:Nat) {g:Sg},p[k]?=some g→Hd2 p (p.set k (rnG σ g))
 |[],_,_,h=>by cases h
 |x::r,0,g,h=>by
  cases h;unfold Hd2;rw [List.set_cons_zero,List.map_cons,List.map_cons]
  congr 1
  unfold rnG rnV;simp
 |x::r,k+1,g,h=>by
  have:=BF (σ:=σ) r k h;unfold Hd2 at this ⊢;rw [List.set_cons_succ,List.map_cons,List.map_cons,this]
theorem Ia {p:List Sg}{l:List (List Vr)}(h:de p=.ok l){k:Nat}{g:Sg}{bd:List Vr}(hk:p[k]?=some g)(hl:l[k]?=some bd){a z:ByteArray}(hz:∀v∈bd,v.1≠z)(hr:(cI (p.set k (rnG (sgm a z) g))).1=0) :
  de (p.set k (rnG (sgm a z) g))=.ok (l.set k (rnV (sgm a z) bd)):=by
 have h2:=xi (BF (σ:=sgm a z) p k hk) (sgm a z) p k 0 [] 0 0 false (tJ h).2 hk (by simpa using hl) (Lz hz)
 rw [Js hr,h2.1];simp
theorem LC {p:List Sg}{l:List (List Vr)}(h:de p=.ok l){k:Nat}{g:Sg}{bd:List Vr}(hk:p[k]?=some g)(hl:l[k]?=some bd):Nd bd:=by
 have h2:=xi (BF (σ:=id) p k hk) id p k 0 [] 0 0 false (tJ h).2 hk (by simpa using hl) (Hx bd)
 exact h2.2.1
theorem Gv {p:List Sg}{l:List (List Vr)}(h:de p=.ok l):l.length=p.length:=by
 have:=(uS p p _ _ _ _ (fun _ hh=>by cases hh) (tJ h).2).2
 simpa using this
theorem Nd.inj {l:List Vr}(h:Nd l){i j:Nat}{u v:Vr}(hi:l[i]?=some u)(hj:l[j]?=some v)(e:u.1=v.1):i=j:=by
 have one:∀{i j:Nat} {u v:Vr},l[i]?=some u→l[j]?=some v→u.1=v.1→¬i < j:=fun {i j u v} hi hj e hlt=>by
  have h1:=h j v hj;have h2:(l.take j)[i]?=some u:=by rw [Qh,if_pos hlt];exact hi
  have h3:u∈(l.take j).filter fun w=>decide (w.1=v.1):=List.mem_filter.2 ⟨List.mem_of_getElem? h2,Z7 e⟩;have:=List.length_pos_of_mem h3;unfold rp at h1;omega
 have a1:=one hi hj e;have a2:=one hj hi e.symm;omega
mutual
theorem QG (σ:Nm):∀x:Ex,exN (rnE σ x)=exN x
 |.mk op nm n l=>by
  have:=G3 σ l;unfold rnE exN;rw [this]
theorem G3 (σ:Nm):∀l:List Ex,cw (oK σ l)=cw l
 |[]=>by unfold oK;rfl
 |x::r=>by
  have h1:=QG σ x;have h2:=G3 σ r;unfold oK cw;rw [h1,h2]
end
mutual
theorem Ph (σ:Nm):∀x:St,stN (rnS σ x)=stN x
 |.mk d at_ a b t n e body els=>by
  have h1:=CD σ body;have h2:=CD σ els;have h3:=G3 σ e;unfold rnS stN;rw [h1,h2,h3]
theorem CD (σ:Nm):∀l:List St,cc (ql σ l)=cc l
 |[]=>by unfold ql;rfl
 |x::r=>by
  have h1:=Ph σ x;have h2:=CD σ r;unfold ql cc;rw [h1,h2]
end
mutual
theorem N4 {σ:Nm}(hσ:∀s,okN s→okN (σ s)):∀x:Ex,y2 x→y2 (rnE σ x)
 |.mk op nm n l,h=>by
  unfold y2 at h;unfold rnE y2;refine ⟨?_,BA hσ l h.2⟩
  split
  ·exact hσ _ h.1
  ·exact h.1
theorem BA {σ:Nm}(hσ:∀s,okN s→okN (σ s)):∀l:List Ex,gW l→gW (oK σ l)
 |[],_=>by unfold oK gW;trivial
 |x::r,h=>by
  unfold gW at h;unfold oK gW;exact ⟨N4 hσ x h.1,BA hσ r h.2⟩
end
mutual
theorem OR {σ:Nm}(hσ:∀s,okN s→okN (σ s)):∀x:St,AB x→AB (rnS σ x)
 |.mk d at_ a b t n e body els,h=>by
  unfold AB at h;obtain ⟨h1,h2,h3,h4,h5,h6⟩:=h;unfold rnS AB;refine ⟨?_,hσ _ h2,h3,BA hσ e h4,xA hσ body h5,xA hσ els h6⟩
  split
  ·exact h1
  ·exact hσ _ h1
theorem xA {σ:Nm}(hσ:∀s,okN s→okN (σ s)):∀l:List St,ey l→ey (ql σ l)
 |[],_=>by unfold ql ey;trivial
 |x::r,h=>by
  unfold ey at h;unfold ql ey;exact ⟨OR hσ x h.1,xA hσ r h.2⟩
end
theorem Iv {p:List Sg}(hs:Small p)(h:(cI p).1=0){k:Nat}{g:Sg}(hk:p[k]?=some g)(a:ByteArray):Small (p.set k (rnG (sgm a zzB) g)):=by
 obtain ⟨n1,n2,n3,n4⟩:=hs.nm g (List.mem_of_getElem? hk);have hσ:∀s,okN s→okN (sgm a zzB s):=fun s hs=>by
  unfold sgm
  split
  ·unfold okN;decide
  ·exact hs
 refine G2 hs h hk ⟨n1,by show (rnV _ g.ps).length≤100;rw [uM];exact n2,fun q hq=>?_,xA hσ _ n4⟩ ?_
 ·obtain ⟨u,hu,rfl⟩:=List.mem_map.1 (show q∈g.ps.map _ from hq)
  exact ⟨hσ _ (n3 u hu).1,(n3 u hu).2⟩
 ·show cc (ql _ g.body)≤_;rw [CD];omega
def rho (σ:Nm)(q:ByteArray×ByteArray):ByteArray×ByteArray:=(σ q.1,q.2)
theorem Mv (σ:Nm)(l:List Vr):l.map (rho σ)=rnV σ l:=rfl
theorem DT {p:List Sg}(hz:(gP (de p)).1=0):∃l,de p=.ok l:=by
 cases hv:de p with
 |ok l=>exact ⟨l,rfl⟩
 |error e =>
  exfalso;rw [hv] at hz;have hz:e.1=0:=hz;unfold de at hv
  split at hv
  ·rename_i h1;cases hv;exact h1 hz
  ·exact Gk p p _ _ _ _ hv hz
theorem EU {α:Type}{l:List α}{k i:Nat}{x y:α}(hi:l[i]?=some x):(l.set k y)[i]?=some (if i=k then y else x):=by
 have hlt:=(Q6.1 hi).1;rw [List.getElem?_set]
 by_cases h:i=k
 ·subst h;rw [if_pos rfl,if_pos hlt,if_pos rfl]
 ·rw [if_neg (fun e=>h e.symm),if_neg h,hi]
section
variable  {ω:Amb}
set_option maxHeartbeats 3200000 in
theorem vq (hω:ω.low=0)(p:List Sg)(w:Value)(hcap:Ai w)(st wh:Int)(h:Hp)(hp:SgS h w p)(ht:fe h)(X:XT) :
  aa Tryz.prog ω 7 [.agg #[w],.int .i64 st,.int .i64 wh] h (fun r h'=>r=.bool true∧KF h h') X:=by
 refine jx ω _ _ _ h _ X ?_;unfold dz;simp only [show Value.cells (.agg #[w])=[w].toArray from rfl,show (Obj.cells #[(.int .i64 0),(.int .i64 0)] 28 (0,0))=Obj.cells (flt 0 0).toArray 28 (0,0) from rfl,show (Obj.cells #[(.slice none 0 0)] 24 (0,0))=Obj.cells [.slice none 0 0].toArray 24 (0,0) from rfl]
 have hA:=ah (h:=h) (o:=.cells [w].toArray 24 (0,0));have k0:=ar.push (S:=fun _=>False) h (.cells [w].toArray 24 (0,0));generalize h.push (.cells [w].toArray 24 (0,0))=h0 at *;refine aa.use (Ek hω h0 (ht.more k0)) ?_;rintro _ h1 ⟨rfl,k1⟩;have hA1:h1[h.size]?=some (.cells [w].toArray 24 (0,0)):=k1.get hA id;have k1:=k0.trans k1;rw [asB_bool];refine ba rfl ?_;refine ⟨_,ak hA1 rfl,?_⟩;refine aa.use (GK p _ h1 ⟨w,rfl,hp.aC k1⟩) ?_
 rintro _ h2 ⟨g,rfl,k2,hsm⟩;have hA2:=k2.get hA1 id;have k2:=k1.trans k2;rw [asB_bool];refine ae (fun hc=>⟨trivial,k2⟩) (fun hc=>?_);have hsm:=hsm hc;have hlen:=hsm.len;refine ⟨_,ak hA2 rfl,?_⟩;refine aa.use (tR hω p hsm w hcap h2 (hp.aC k2) (ht.more k2)) ?_;rintro _ h3 ⟨k3,hres⟩;obtain ⟨v1,us,rfl,hv3⟩:=zL hres;have hA3:=k3.get hA2 id;have k3:=k2.trans k3;rw [IJ,asA_agg];refine ⟨rfl,bu _ _,aA (cs:=flt (gP (de p)).1 (gP (de p)).2) rfl ?_⟩
 have hF4:=ah (h:=h3) (o:=.cells (flt (gP (de p)).1 (gP (de p)).2).toArray 28 (0,0));have k34:=ar.push (S:=fun _=>False) h3 (.cells (flt (gP (de p)).1 (gP (de p)).2).toArray 28 (0,0));generalize h3.push (.cells (flt (gP (de p)).1 (gP (de p)).2).toArray 28 (0,0))=h4 at *;have hA4:=k34.get hA3 id;have hv4:=hv3.aC k34;have k4:=k3.trans k34;refine lx hF4 (j:=0) (u:=.int .i64 (gP (de p)).1) rfl ?_;rw [asK_int]
 refine ae (fun hc=>?_) (fun hc=>?_)
 ·have hne:=Ze.1 hc;refine hv4.1.dP.sl fun _ _=>?_;have:Mm (de p)=[]:=by
   cases hv:de p with
   |error e=>rfl
   |ok l =>
    rw [hv] at hne;exact absurd rfl hne
  rw [this];exact ⟨rfl,k4⟩
 obtain ⟨l,hl⟩:=DT (p:=p) (by simpa using hc)
 rw [hl] at hv4;have hv4:VlO h4 h2.size v1 l us:=hv4;have hll:=Gv hl;have hr0:=(tJ hl).1;have hpne:p.length≠0:=(x3 hr0).1.ne;rw [asI_int];refine hv4.1.dP.sl fun _ _=>?_;obtain ⟨k,ek,hk,hne0⟩:=kmod st (l:=l.length) (by omega) (by omega)
 refine ⟨hne0,?_⟩;rw [ek];have hbd:=Q7 hk;have hbm:l[k]∈l:=Qv hk;generalize l[k]=bd at hbd hbm;have h30:bd.length≤30:=by
  have:=Cf p bd;rw [hl] at this;exact this hbm
 obtain ⟨rk,hrk⟩:∃rk,us[k]?=some rk:=⟨_,Q7 (by rw [hv4.2.1];exact hk)⟩
 refine bm.rd1 hv4.1.dP hrk ?_;have hro4:=hv4.2.2 k bd rk hbd hrk;refine hro4.dP.sl fun _ _=>?_;refine ae (fun hc=>⟨trivial,k4⟩) (fun hc=>?_);have hb0:0 < bd.length:=by
  have:=Qa.1 hc;omega
 rw [asI_int];refine bm.rd1 hv4.1.dP hrk ?_;refine hro4.dP.sl fun _ _=>?_;obtain ⟨J,eJ,hJ,hneJ⟩:=kmod wh (l:=bd.length) hb0 (by omega)
 refine ⟨hneJ,?_⟩;rw [eJ];have hbJ:=Q7 hJ;generalize bd[J]=bv at hbJ;have hg:=Q7 (l:=p) (i:=k) (by omega)
 generalize p[k]=g at hg;have hnd:=LC hl hg hbd;refine ⟨fun t h'=>∃i:Nat,t=.int .i64 i∧i≤bd.length∧(∀u∈bd.take i,u.1≠zzB)∧h4=h',fun t _=>match t with|.int _ i=>bd.length - i.toNat|_=>0,⟨0,rfl,by omega,(fun u hu=>by cases hu),rfl⟩,?_⟩
 rintro _ _ _ ⟨i,rfl,hi,hno,rfl⟩;refine bm.rd1 hv4.1.dP hrk ?_;refine hro4.dP.sl fun _ _=>?_;rw [asK_int];refine ae (fun hc=>?_) (fun hc=>?_)
 ·have hil:i < bd.length:=by have:=Qj hc;omega
  have hx:=Q7 hil;generalize bd[i]=x at hx;refine bm.rd1 hv4.1.dP hrk ?_;refine bm.rdT hro4.dP (fun _=>rfl) hx (o:=0) (u:=.string x.1) rfl ?_;rw [asS_str,eqB];refine ae (fun hc=>⟨trivial,k4⟩) (fun hc=>?_);have hxn:=Qc hc;rw [asK_int,i64_in (by omega) (by omega)]
  refine ⟨⟨i+1,by simp,by omega,fun u hu=>?_,rfl⟩,by simp;omega⟩
  rw [aZ hx] at hu;rcases Z3.1 hu with hu|hu
  ·exact hno u hu
  ·rw [Qf.1 hu];exact hxn
 have hc:=Qc hc;obtain rfl:i=bd.length:=by omega
 rw [Qo] at hno;refine ⟨_,ak hA4 rfl,?_⟩;refine aa.use (FO p hsm.len (fun s hs=>(hsm.nm s hs).2.1) hsm.tot _ h4 ⟨w,rfl,hp.aC k4⟩) ?_;rintro _ h5 ⟨w2,us2,rfl,ho5,hat5,k45⟩;rw [asA_agg];refine ⟨rfl,(fun u hu=>by rw [Qf.1 (show u∈[w2] from hu)];exact (bm.b8 ho5.dP).one),aA (cs:=[w2]) rfl ?_⟩
 have hQ6:=ah (h:=h5) (o:=.cells [w2].toArray 24 (0,0));have k56:=ar.push (S:=fun _=>False) h5 (.cells [w2].toArray 24 (0,0));generalize h5.push (.cells [w2].toArray 24 (0,0))=h6 at *;have ho6:=ho5.more k56;have hat6:=kr k56 p hat5 (fun _ _ hf=>hf) (fun _ hb=>hb);have hv6:=(hv4.aC k45).aC k56;have k46:=k45.trans k56;obtain ⟨vp,vb,Bb,ec,hop,p1,p2,p3,hh⟩:=C4 hat6 ho6.1 hg;have lt5:=ho5.lt;have pQ:∀b,vp.ownBlock=some b∨Bb b→(h4.size≤b∧b < h5.size)∧w2.ownBlock≠some b:=fun b hb=>by
  rcases hb with hb|hb
  ·exact (p1 b hb).1
  ·exact p2 b hb
 have hul:∀{o:Nat} {u:Value},o < 4→(sgC g vp vb)[o]?=some u→((us2.drop (k*4)).take 4)[o]?=some u:=fun _ hu=>by rw [ec];exact hu
 have hpl:k < p.length:=by omega
 have hgl:g.ps.length≤100:=(hsm.nm g (List.mem_of_getElem? hg)).2.1;refine ⟨fun t h'=>∃i:Nat,t=.int .i64 i∧i≤g.ps.length∧bX h' 0 32 2 vp g.ps.length (((g.ps.take i).map (rho (sgm bv.1 zzB))++g.ps.drop i).flatMap pf)∧ar (fun b=>vp.ownBlock=some b) h6 h',fun t _=>match t with|.int _ i=>g.ps.length - i.toNat|_=>0,⟨0,rfl,by omega,hop,ar.refl _ _⟩,?_⟩
 rintro _ _ h7 ⟨i,rfl,hi,hop7,k67⟩;have w67:∀{h':Hp},ar (fun b=>vp.ownBlock=some b∨Bb b) h6 h'→KF h4 h':=fun kk=>k46.cS (kk.mono fun b _ hb=>.inr (pQ b hb).1.1);have k67':ar (fun b=>vp.ownBlock=some b∨Bb b) h6 h7:=k67.mono fun b _ hb=>.inl hb;have ho7:=ho6.aC (h':=h7) fun b hb hlt=>k67.block b hlt fun e=>(pQ b (.inl e)).2 hb;have hQ7:=k67.get hQ6 fun e=>by have:=(pQ _ (.inl e)).1.2;omega
 have hv7:=hv4.aC (w67 k67');have hro7:=hv7.2.2 k bd rk hbd hrk;have hml:=wS (rho (sgm bv.1 zzB)) g.ps i;refine lx hQ7 (j:=0) (u:=w2) rfl ?_;refine bm.rdO ho7.dP (i:=k) (o:=2) hpl (u:=vp) (hul (by decide) rfl) ?_
 refine hop7.dP.sl fun _ _=>?_;rw [asK_int];refine ae (fun hc=>?_) (fun hc=>?_)
 ·have hil:i < g.ps.length:=by have:=Qj hc;omega
  have hx:=Q7 hil;generalize g.ps[i]=x at hx;obtain ⟨hx4,hset⟩:=GS (rho (sgm bv.1 zzB)) hx;have hop7':bX h7 0 32 2 vp ((g.ps.take i).map (rho (sgm bv.1 zzB))++g.ps.drop i).length (((g.ps.take i).map (rho (sgm bv.1 zzB))++g.ps.drop i).flatMap pf):=by rw [hml];exact hop7
  refine ⟨fun h'=>bX h' 0 32 2 vp g.ps.length (((g.ps.take (i+1)).map (rho (sgm bv.1 zzB))++g.ps.drop (i+1)).flatMap pf)∧ar (fun b=>vp.ownBlock=some b) h6 h',?_,?_⟩
  ·refine lx hQ7 (j:=0) (u:=w2) rfl ?_;refine bm.rdO ho7.dP (i:=k) (o:=2) hpl (u:=vp) (hul (by decide) rfl) ?_
   refine bm.rdT hop7'.dP ic hx4 (o:=0) (u:=.string x.1) rfl ?_;refine bm.rd1 hv7.1.dP hrk ?_;refine bm.rdT hro7.dP (fun _=>rfl) hbJ (o:=0) (u:=.string bv.1) rfl ?_;rw [asS_str,asS_str,eqB];refine ⟨fun h'=>bX h' 0 32 2 vp g.ps.length (((g.ps.take (i+1)).map (rho (sgm bv.1 zzB))++g.ps.drop (i+1)).flatMap pf)∧ar (fun b=>vp.ownBlock=some b) h6 h',?_,fun _ _ hh=>hh⟩;refine ae (fun hc=>?_) (fun hc=>?_)
   ·have e1:=Qj hc;refine lx hQ7 (j:=0) (u:=w2) rfl ?_;refine bm.rdO ho7.dP (i:=k) (o:=2) hpl (u:=vp) (hul (by decide) rfl) ?_
    refine bX.Ni hop7' ic hx4 (e':=rho (sgm bv.1 zzB) x) (u:=.string zzB) (o:=0) (by decide) ?_ fun h8 ho8 k78=>?_
    ·unfold rho sgm pf;rw [if_pos e1];rfl
    ·rw [hset,wS] at ho8;exact ⟨ho8,k67.trans k78⟩
   ·have e1:=Qc hc;have e2:rho (sgm bv.1 zzB) x=x:=by
     unfold rho sgm;rw [if_neg e1]
    rw [e2] at hset;rw [←hset];have hsame:((g.ps.take i).map (rho (sgm bv.1 zzB))++g.ps.drop i).set i x=(g.ps.take i).map (rho (sgm bv.1 zzB))++g.ps.drop i:=by
     obtain ⟨q1,q2⟩:=Q6.1 hx4
     conv=>lhs;rw [←q2]
     exact List.set_getElem_self q1
    rw [hsame];exact ⟨hop7,k67⟩
  rintro _ h8 ⟨ho8,k68⟩;rw [asK_int,i64_in (by omega) (by omega)]
  exact ⟨⟨i+1,by simp,by omega,ho8,k68⟩,by simp;omega⟩
 have hc:=Qc hc;obtain rfl:i=g.ps.length:=by omega
 rw [Qo,Qt,Z1,Mv] at hop7;refine lx hQ7 (j:=0) (u:=w2) rfl ?_;refine bm.rdO ho7.dP (i:=k) (o:=3) hpl (u:=vb) (hul (by decide) rfl) ?_
 refine bm.rd1 hv7.1.dP hrk ?_;refine bm.rdT hro7.dP (fun _=>rfl) hbJ (o:=0) (u:=.string bv.1) rfl ?_;have p37:=p3.aC k67 (fun b hb e=>(p1 b e).2 hb) (fun _ hb=>hb);refine aa.use (IY bv.1 zzB _ g.body (Qw _) h7 Bb vb p37) ?_;rintro _ h8 ⟨p8,k78⟩;have k68:ar (fun b=>vp.ownBlock=some b∨Bb b) h6 h8:=k67'.trans (k78.mono fun b _ hb=>.inr hb);have hop8:=hop7.aC (h':=h8) fun b hb hlt=>k78.block b hlt fun e=>(p1 b hb).2 e
 have ho8:=ho7.aC (h':=h8) fun b hb hlt=>k78.block b hlt fun e=>(pQ b (.inr e)).2 hb;have hQ8:=k78.get hQ7 fun e=>by have:=(pQ _ (.inr e)).1.2;omega
 have hop8':bX h8 0 32 2 vp (rnV (sgm bv.1 zzB) g.ps).length ((rnV (sgm bv.1 zzB) g.ps).flatMap pf):=by rw [uM];exact hop8
 have hat8:=hh h8 (rnV (sgm bv.1 zzB) g.ps) (ql (sgm bv.1 zzB) g.body) k68 hop8' p8;have hat8:Ew h8 _ (p.set k (rnG (sgm bv.1 zzB) g)) us2:=hat8;have hs8:SgS h8 w2 (p.set k (rnG (sgm bv.1 zzB) g)):=⟨us2,⟨by rw [Z5];exact ho8.dP,by rw [Z5];omega⟩,Fs _ hat8⟩
 have hcap2:=zX ho8;have hsmq:=Iv hsm hr0 hg bv.1;have k48:=w67 k68;have k8:=k4.trans k48;have hv8:=hv4.aC k48;refine ⟨_,ak hQ8 rfl,?_⟩;refine aa.use (Ed _ hsmq _ h8 ⟨w2,rfl,hs8⟩ (ht.more k8)) ?_;rintro _ h9 ⟨rfl,k89⟩;rw [asA_agg];show cond ((cI (p.set k (rnG (sgm bv.1 zzB) g))).1 !=0) _ _;refine ae (fun hc=>⟨trivial,k8.trans k89⟩) (fun hc=>?_);have hrq:(cI (p.set k (rnG (sgm bv.1 zzB) g))).1=0:=by simpa using hc
 have hlq:=Ia hl hg hbd hno hrq;refine ⟨_,ak (k89.get hQ8 id) rfl,?_⟩;refine aa.use (tR hω _ hsmq w2 hcap2 h9 (hs8.aC k89) (ht.more (k8.trans k89))) ?_;rintro _ h10 ⟨k910,hres10⟩;obtain ⟨v2,us3,rfl,hm10⟩:=zL hres10;rw [hlq] at hm10;have hm10:VlO h10 h9.size v2 (l.set k (rnV (sgm bv.1 zzB) bd)) us3:=hm10;rw [hlq,IJ,asA_agg];refine ⟨rfl,bu 0 0,aA (cs:=flt 0 0) rfl ?_⟩;have hG11:=ah (h:=h10) (o:=.cells (flt 0 0).toArray 28 (0,0))
 have k1011:=ar.push (S:=fun _=>False) h10 (.cells (flt 0 0).toArray 28 (0,0));generalize h10.push (.cells (flt 0 0).toArray 28 (0,0))=h11 at *;have hm11:=hm10.aC k1011;have k811:=(k89.trans k910).trans k1011;have hv11:=hv8.aC k811;have k11:=k8.trans k811;refine ⟨false,?_,fun _=>ba rfl ?_⟩
 ·refine lx hG11 (j:=0) (u:=.int .i64 0) rfl ?_;rw [asK_int];refine ba rfl ?_;refine hm11.1.dP.sl fun _ _=>?_;refine hv11.1.dP.sl fun _ _=>?_;rw [Z5];exact ⟨by simp,trivial⟩
 refine ⟨fun t h'=>∃i:Nat,t=.int .i64 i∧i≤l.length∧h11=h',fun t _=>match t with|.int _ i=>l.length - i.toNat|_=>0,⟨0,rfl,by omega,rfl⟩,?_⟩
 rintro _ _ _ ⟨i,rfl,hi,rfl⟩;refine hv11.1.dP.sl fun _ _=>?_;rw [asK_int];refine ae (fun hc=>?_) (fun hc=>⟨trivial,k11⟩);have hil:i < l.length:=by have:=Qj hc;omega
 have hx:=Q7 hil;have hxm:l[i]∈l:=Qv hil;generalize l[i]=x at hx hxm;have hx30:x.length≤30:=by
  have:=Cf p x;rw [hl] at this;exact this hxm
 have hy:=EU (k:=k) (y:=rnV (sgm bv.1 zzB) bd) hx;have hyl:(if i=k then rnV (sgm bv.1 zzB) bd else x).length=x.length:=by
  split
  ·rename_i e;subst e;rw [hbd] at hx;cases hx;exact uM _ _
  ·rfl
 obtain ⟨ri,hri⟩:∃ri,us[i]?=some ri:=⟨_,Q7 (by rw [hv11.2.1];exact hil)⟩
 obtain ⟨si,hsi⟩:∃si,us3[i]?=some si:=⟨_,Q7 (by rw [hm11.2.1,Z5];exact hil)⟩
 have hri11:=hv11.2.2 i x ri hx hri;have hsi11:=hm11.2.2 i _ si hy hsi;refine bm.rd1 hv11.1.dP hri ?_;refine hri11.dP.sl fun _ _=>?_;refine bm.rd1 hm11.1.dP hsi ?_;refine hsi11.dP.sl fun _ _=>?_;refine ba (by rw [hyl];simp) ?_
 refine ⟨fun t h'=>∃j:Nat,t=.int .i64 j∧j≤x.length∧h11=h',fun t _=>match t with|.int _ j=>x.length - j.toNat|_=>0,⟨0,rfl,by omega,rfl⟩,?_⟩
 rintro _ _ _ ⟨j,rfl,hj,rfl⟩;refine bm.rd1 hv11.1.dP hri ?_;refine hri11.dP.sl fun _ _=>?_;rw [asK_int];refine ae (fun hc=>?_) (fun hc=>?_)
 rotate_left
 ·rw [asK_int,i64_in (by omega) (by omega)]
  exact ⟨⟨i+1,by simp,by omega,rfl⟩,by simp;omega⟩
 have hjl:j < x.length:=by have:=Qj hc;omega
 have hu:=Q7 hjl;generalize x[j]=u at hu;have hu2:(if i=k then rnV (sgm bv.1 zzB) bd else x)[j]?=some (if i=k∧j=J then zzB else u.1,u.2):=by
  by_cases e:i=k
  ·subst e;rw [hbd] at hx;cases hx;rw [if_pos rfl,AW,hu];show some (sgm bv.1 zzB u.1,u.2)=_;unfold sgm
   by_cases e2:j=J
   ·subst e2;rw [hbJ] at hu;cases hu;rw [if_pos rfl,if_pos ⟨rfl,rfl⟩]
   ·rw [if_neg (fun e3=>e2 (hnd.inj hu hbJ e3)),if_neg (fun e3=>e2 e3.2)]
  ·rw [if_neg e,if_neg (fun e3=>e e3.1),hu]
 refine bm.rd1 hv11.1.dP hri ?_;refine bm.rdT hri11.dP (fun _=>rfl) hu (o:=0) (u:=.string u.1) rfl ?_;refine ⟨decide (i=k∧j=J),?_,fun _=>?_⟩
 ·rw [asK_int];refine ae (fun hc=>?_) (fun hc=>?_)
  ·have e1:i=k:=by have:=Zg hc;omega
   rw [asK_int];refine ⟨?_,trivial⟩
   congr 1
   rw [Qz,beq_iff_eq,decide_eq_true_eq]
   constructor
   ·intro e;exact ⟨e1,by omega⟩
   ·intro e;omega
  ·have e1:i≠k:=fun e=>by
    have:=Qa.1 hc;omega
   rw [Z0 fun e=>e1 e.1];exact ⟨rfl,trivial⟩
 refine ⟨fun t h'=>t=.string (if i=k∧j=J then zzB else u.1)∧h11=h',?_,?_⟩
 ·refine ae (fun hc=>?_) (fun hc=>?_)
  ·rw [if_pos (Qj hc)];exact ⟨rfl,rfl⟩
  ·rw [if_neg (Qc hc)];exact ⟨rfl,rfl⟩
 rintro _ _ _ ⟨rfl,rfl⟩;refine ⟨false,?_,fun _=>ba rfl ?_⟩
 ·refine bm.rd1 hm11.1.dP hsi ?_;refine bm.rdT hsi11.dP (fun _=>rfl) hu2 (o:=1) (u:=.string u.2) rfl ?_;refine bm.rd1 hv11.1.dP hri ?_;refine bm.rdT hri11.dP (fun _=>rfl) hu (o:=1) (u:=.string u.2) rfl ?_;rw [asS_str,asS_str];refine ba (by simp) ?_
  refine bm.rd1 hm11.1.dP hsi ?_;refine bm.rdT hsi11.dP (fun _=>rfl) hu2 (o:=0) (u:=.string (if i=k∧j=J then zzB else u.1)) rfl ?_
  rw [asS_str,asS_str];exact ⟨by simp,trivial⟩
 rw [asK_int,i64_in (by omega) (by omega)]
 exact ⟨⟨j+1,by simp,by omega,rfl⟩,by simp;omega⟩
end
end Go.Proofs.YtkeeboomikkojaaGreatDoor
