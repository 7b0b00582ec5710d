import Derived.Test.YtkeeboomikkojaaGreatDoorSxRow
import Derived.Test.YtkeeboomikkojaaGreatDoorRn6
import Derived.Deep.Strs
import Derived.Test.YtkeeboomikkojaaGreatDoorRows
import Derived.ShutString
import Derived.ChangeOld
import Derived.LaidMore
import Derived.Lib.LaidTab
set_option maxRecDepth 100000
namespace Go.Proofs.YtkeeboomikkojaaGreatDoor
open Go Go.Sx Go.Sx.Rn Go.ChangeShapes
section
variable  {H:Type}{enc:TypeId×Value→H}{P:Program}{w:World}{base:Nat}{spare:Nat→Bool}{held:Bool}{fuel:Nat}{t:TypeId}{cs:List Value}{x:DataW H×List MemPlace}
theorem bF {fs:Array Field}(ht:P.underlying t=some (.struct fs))(h:DataW.trod enc P w base spare held fuel t cs=some x){i:Nat}{f:Field}(hf:fs[i]?=some f) :
  ∃y n,n < fuel∧DataW.trod enc P w base spare held n f.type ((cs.drop f.offset).take (P.cellsOf f.type))=some y:=by
 obtain ⟨xs,n,hfu,_,_,hl,hg⟩:=DataW.trod_struct ht h;have:=hg i f hf;have hi:i < xs.length:=by rw [hl];exact (Array.getElem?_eq_some_iff.1 hf).1
 rw [Q7 hi] at this;exact ⟨_,n,by omega,this⟩
theorem yD {fs:Array Field}(ht:P.underlying t=some (.struct fs))(h:DataW.trod enc P w base spare held fuel t cs=some x):cs.length=P.cellsOf t:=by
 obtain ⟨xs,n,_,_,hl,_⟩:=DataW.trod_struct ht h;exact hl
theorem jr {o:Nat}{v:Value}(h:(cs.drop o).take 1=[v]):cs[o]?=some v:=by
 have:=congrArg (fun l=>l[0]?) h;simpa [Qh,Qi] using this
theorem lQ {e:TypeId}{size:Nat}(ht:P.underlying t=some (.slice e))(hc:P.cellsOf e=size)(hs:0 < size)(hf:DataW.trod enc P w base spare held fuel t cs=some x) :
  ∃v len us,cs=[v]∧len≤9223372036854775807∧AL v∧bm w.heap size v len us∧∀i,i < len→∃y n,n < fuel∧DataW.trod enc P w base spare held n e ((us.drop (i*size)).take size)=some y:=by
 rcases DataW.trod_slice ht hf with ⟨hcs,_⟩|⟨y,l,c,elems,rest,n,hfu,hcs,_,_,hl,hm,hel,hget,_⟩
 ·exact ⟨_,0,[],hcs,by decide,.inl rfl,⟨by simp,.inl ⟨rfl,_,_,rfl⟩⟩,fun i hi=>absurd hi (by omega)⟩
 ·rw [hc] at hget;have each:∀i,i < l→∃cs' y',w.cells? base (y.add (i*size)) size=some cs'∧DataW.trod enc P w base spare held n e cs'=some y':=by
   intro i hi;have:=hget i hi;rw [Q7 (by omega),Option.bind_eq_some_iff] at this
   obtain ⟨cs',h1,h2⟩:=this;exact ⟨cs',_,h1,h2⟩
  have cell:∀i,i < l→∀k,k < size→∀cs',w.cells? base (y.add (i*size)) size=some cs'→w.cell? (y.add (i*size+k))=cs'[k]?:=by
   intro i _ k hk cs' h1;rw [←(World.cells?_some h1).2.2 k hk]
   congr 1
   unfold Addr.add;generalize i*size=m
   by_cases h0:m=0<;>by_cases h1:k=0<;>simp [h0,h1,Nat.add_assoc]
  have hcell:∀j,j < l*size→∃u,w.cell? (y.add j)=some u:=by
   intro j hj;have hi:j / size < l:=Nat.div_lt_of_lt_mul (by rwa [Nat.mul_comm])
   obtain ⟨cs',y',h1,_⟩:=each _ hi;have:=cell _ hi (j % size) (Nat.mod_lt _ hs) cs' h1;rw [show j / size*size+j % size=j by rw [Nat.mul_comm];exact Nat.div_add_mod _ _] at this
   rw [this,Q7 (by rw [(World.cells?_some h1).2.1];exact Nat.mod_lt _ hs)]
   exact ⟨_,rfl⟩
  let us:=(List.range (l*size)).map fun j=>(w.cell? (y.add j)).getD (.bool false)
  have hus:∀j u,us[j]?=some u→j < l*size∧w.cell? (y.add j)=some u:=by
   intro j u hu;have hj:j < l*size:=by
    rcases Nat.lt_or_ge j (l*size) with h'|h'
    ·exact h'
    ·rw [List.getElem?_eq_none (by simpa [us] using h')] at hu;cases hu
   obtain ⟨v,hv⟩:=hcell j hj;simp only [us,List.getElem?_map,List.getElem?_range hj,Option.map_some,hv,Option.getD_some,Option.some.injEq] at hu;exact ⟨hj,by rw [hv,hu]⟩
  refine ⟨_,l,us,hcs,by simp only [maxLen] at hm;omega,.inr ⟨_,_,_,rfl⟩,bm.H4 (by simp [us]) hs fun j u hu=>(hus j u hu).2,fun i hi=>?_⟩
  obtain ⟨cs',y',h1,h2⟩:=each i hi;have hlen:=(World.cells?_some h1).2.1;have:(us.drop (i*size)).take size=cs':=by
   refine List.ext_getElem? fun k=>?_;rcases Nat.lt_or_ge k size with hk|hk
   ·rw [List.getElem?_take_of_lt hk,Qi,←cell i hi k hk cs' h1];have hj:i*size+k < l*size:=by
     have:=Nat.mul_le_mul_right size (show i+1≤l by omega)
     rw [Nat.add_mul,Nat.one_mul] at this;omega
    obtain ⟨v,hv⟩:=hcell _ hj;simp only [us,List.getElem?_map,List.getElem?_range hj,Option.map_some,hv,Option.getD_some]
   ·rw [List.getElem?_eq_none (by simp;omega),List.getElem?_eq_none (by omega)]
  exact ⟨y',n,by omega,by rw [this];exact h2⟩
end
theorem E7 {h:Hp}:∀(n:Nat) (us:List Value),us.length=n*4→(∀i,i < n→∃x,DH h x ((us.drop (i*4)).take 4))→∃l:List Ex,l.length=n∧lE h l us
 |0,us,hl,_=>⟨[],rfl,by unfold lE;exact List.eq_nil_of_length_eq_zero (by omega)⟩
 |n+1,us,hl,hf=>by
  obtain ⟨x,hx⟩:=hf 0 (by omega)
  obtain ⟨l,h1,h2⟩:=E7 n (us.drop 4) (by rw [Qs];omega) fun i hi=>by
   obtain ⟨y,hy⟩:=hf (i+1) (by omega)
   refine ⟨y,?_⟩;rw [Z8,show 4+i*4=(i+1)*4 by omega]
   exact hy
  refine ⟨x::l,by rw [Qn,h1],?_⟩
  unfold lE;exact ⟨by simpa using hx,h2⟩
theorem Cv {h:Hp}:∀(n:Nat) (us:List Value),us.length=n*9→(∀i,i < n→∃x,El h x ((us.drop (i*9)).take 9))→∃l:List St,l.length=n∧kC h l us
 |0,us,hl,_=>⟨[],rfl,by unfold kC;exact List.eq_nil_of_length_eq_zero (by omega)⟩
 |n+1,us,hl,hf=>by
  obtain ⟨x,hx⟩:=hf 0 (by omega)
  obtain ⟨l,h1,h2⟩:=Cv n (us.drop 9) (by rw [Qs];omega) fun i hi=>by
   obtain ⟨y,hy⟩:=hf (i+1) (by omega)
   refine ⟨y,?_⟩;rw [Z8,show 9+i*9=(i+1)*9 by omega]
   exact hy
  refine ⟨x::l,by rw [Qn,h1],?_⟩
  unfold kC;exact ⟨by simpa using hx,h2⟩
theorem KH {h:Hp}:∀(n:Nat) (us:List Value),us.length=n*4→(∀i,i < n→∃x,O5 h x ((us.drop (i*4)).take 4))→∃l:List Sg,l.length=n∧gS h l us
 |0,us,hl,_=>⟨[],rfl,by unfold gS;exact List.eq_nil_of_length_eq_zero (by omega)⟩
 |n+1,us,hl,hf=>by
  obtain ⟨x,hx⟩:=hf 0 (by omega)
  obtain ⟨l,h1,h2⟩:=KH n (us.drop 4) (by rw [Qs];omega) fun i hi=>by
   obtain ⟨y,hy⟩:=hf (i+1) (by omega)
   refine ⟨y,?_⟩;rw [Z8,show 4+i*4=(i+1)*4 by omega]
   exact hy
  refine ⟨x::l,by rw [Qn,h1],?_⟩
  unfold gS;exact ⟨by simpa using hx,h2⟩
section
variable  {H:Type}{enc:TypeId×Value→H}{w:World}{base:Nat}{spare:Nat→Bool}{held:Bool}
theorem Lr:∀(fuel:Nat) {cs:List Value} {x:DataW H×List MemPlace},DataW.trod enc Tryz.prog w base spare held fuel 36 cs=some x→∃e:Ex,DH w.heap e cs:=by
 intro fuel
 induction fuel using Nat.strongRecOn with
 |_ fuel ih =>
  intro cs x h;have hl:cs.length=4:=yD Tryz.underlying36 h;obtain ⟨_,_,_,h0⟩:=bF Tryz.underlying36 h (i:=0) rfl;obtain ⟨_,_,_,h1⟩:=bF Tryz.underlying36 h (i:=1) rfl;obtain ⟨_,_,_,h2⟩:=bF Tryz.underlying36 h (i:=2) rfl;obtain ⟨_,n3,lt3,h3⟩:=bF Tryz.underlying36 h (i:=3) rfl;obtain ⟨k0,e0,_⟩:=DataW.trod_int Tryz.underlying3 h0;obtain ⟨s1,e1,_⟩:=DataW.trod_string Tryz.underlying9 h1;obtain ⟨k2,e2,_⟩:=DataW.trod_int Tryz.underlying2 h2
  obtain ⟨v,len,us,e3,hm,_,hsl,hel⟩:=lQ (size:=4) Tryz.underlying34 (by kernel_rfl) (by decide) h3
  have e0:=jr (o:=0) e0;have e1:=jr (o:=1) e1;have e2:=jr (o:=2) e2;have e3:=jr (o:=3) e3;obtain ⟨l,hl1,hl2⟩:=E7 len us hsl.1 fun i hi=>by
   obtain ⟨y,n,hn,hy⟩:=hel i hi;exact ih n (by omega) hy
  refine ⟨.mk k0 s1 k2 l,?_⟩;unfold DH;refine ⟨v,us,List.ext_getElem? fun j=>?_,⟨by rw [hl1];exact hsl,by rw [hl1];exact hm⟩,hl2⟩
  match j with
  |0=>exact e0
  |1=>exact e1
  |2=>exact e2
  |3=>exact e3
  |j+4=>rw [List.getElem?_eq_none (by omega),List.getElem?_eq_none (by simp)]
theorem IV {fuel:Nat}{cs:List Value}{x:DataW H×List MemPlace}(h:DataW.trod enc Tryz.prog w base spare held fuel 34 cs=some x):∃v l,cs=[v]∧ExS w.heap v l:=by
 obtain ⟨v,len,us,e3,hm,_,hsl,hel⟩:=lQ (size:=4) Tryz.underlying34 (by kernel_rfl) (by decide) h
 obtain ⟨l,hl1,hl2⟩:=E7 len us hsl.1 fun i hi=>by
  obtain ⟨y,n,hn,hy⟩:=hel i hi;exact Lr n hy
 exact ⟨v,l,e3,us,⟨by rw [hl1];exact hsl,by rw [hl1];exact hm⟩,hl2⟩
theorem L6:∀(fuel:Nat) {cs:List Value} {x:DataW H×List MemPlace},DataW.trod enc Tryz.prog w base spare held fuel 39 cs=some x→∃e:St,El w.heap e cs:=by
 intro fuel
 induction fuel using Nat.strongRecOn with
 |_ fuel ih =>
  intro cs x h;have hl:cs.length=9:=yD Tryz.underlying39 h;obtain ⟨_,_,_,h0⟩:=bF Tryz.underlying39 h (i:=0) rfl;obtain ⟨_,_,_,h1⟩:=bF Tryz.underlying39 h (i:=1) rfl;obtain ⟨_,_,_,h2⟩:=bF Tryz.underlying39 h (i:=2) rfl;obtain ⟨_,_,_,h3⟩:=bF Tryz.underlying39 h (i:=3) rfl;obtain ⟨_,_,_,h4⟩:=bF Tryz.underlying39 h (i:=4) rfl;obtain ⟨_,_,_,h5⟩:=bF Tryz.underlying39 h (i:=5) rfl;obtain ⟨_,_,_,h6⟩:=bF Tryz.underlying39 h (i:=6) rfl
  obtain ⟨_,n7,lt7,h7⟩:=bF Tryz.underlying39 h (i:=7) rfl;obtain ⟨_,n8,lt8,h8⟩:=bF Tryz.underlying39 h (i:=8) rfl;obtain ⟨k0,e0,_⟩:=DataW.trod_int Tryz.underlying3 h0;obtain ⟨k1,e1,_⟩:=DataW.trod_int Tryz.underlying3 h1;obtain ⟨s2,e2,_⟩:=DataW.trod_string Tryz.underlying9 h2;obtain ⟨s3,e3,_⟩:=DataW.trod_string Tryz.underlying9 h3;obtain ⟨s4,e4,_⟩:=DataW.trod_string Tryz.underlying9 h4;obtain ⟨k5,e5,_⟩:=DataW.trod_int Tryz.underlying3 h5
  obtain ⟨ve,le,e6,hE⟩:=IV h6;obtain ⟨vb,lenb,usb,e7,hmb,_,hslb,helb⟩:=lQ (size:=9) Tryz.underlying37 (by kernel_rfl) (by decide) h7
  obtain ⟨vl,lenl,usl,e8,hml,_,hsll,hell⟩:=lQ (size:=9) Tryz.underlying37 (by kernel_rfl) (by decide) h8
  have e0:=jr (o:=0) e0;have e1:=jr (o:=1) e1;have e2:=jr (o:=2) e2;have e3:=jr (o:=3) e3;have e4:=jr (o:=4) e4;have e5:=jr (o:=5) e5;have e6:=jr (o:=6) e6;have e7:=jr (o:=7) e7;have e8:=jr (o:=8) e8;obtain ⟨lb,hb1,hb2⟩:=Cv lenb usb hslb.1 fun i hi=>by
   obtain ⟨y,n,hn,hy⟩:=helb i hi;exact ih n (by omega) hy
  obtain ⟨ll,hl1,hl2⟩:=Cv lenl usl hsll.1 fun i hi=>by
   obtain ⟨y,n,hn,hy⟩:=hell i hi;exact ih n (by omega) hy
  refine ⟨.mk k0 k1 s2 s3 s4 k5 le lb ll,?_⟩;unfold El;refine ⟨ve,vb,vl,usb,usl,List.ext_getElem? fun j=>?_,hE,⟨by rw [hb1];exact hslb,by rw [hb1];exact hmb⟩,hb2,⟨by rw [hl1];exact hsll,by rw [hl1];exact hml⟩,hl2⟩
  match j with
  |0=>exact e0
  |1=>exact e1
  |2=>exact e2
  |3=>exact e3
  |4=>exact e4
  |5=>exact e5
  |6=>exact e6
  |7=>exact e7
  |8=>exact e8
  |j+9=>rw [List.getElem?_eq_none (by omega),List.getElem?_eq_none (by simp)]
theorem Mf {fuel:Nat}{cs:List Value}{x:DataW H×List MemPlace}(h:DataW.trod enc Tryz.prog w base spare held fuel 41 cs=some x):∃s:Sg,O5 w.heap s cs:=by
 have hl:cs.length=4:=yD Tryz.underlying41 h;obtain ⟨_,_,_,h0⟩:=bF Tryz.underlying41 h (i:=0) rfl;obtain ⟨_,_,_,h1⟩:=bF Tryz.underlying41 h (i:=1) rfl;obtain ⟨_,_,_,h2⟩:=bF Tryz.underlying41 h (i:=2) rfl;obtain ⟨_,_,_,h3⟩:=bF Tryz.underlying41 h (i:=3) rfl;obtain ⟨s0,e0,_⟩:=DataW.trod_string Tryz.underlying9 h0;obtain ⟨k1,e1,_⟩:=DataW.trod_int Tryz.underlying3 h1;obtain ⟨vp,lenp,usp,e2,hmp,hnp,hslp,help⟩:=lQ (size:=2) Tryz.underlying33 (by kernel_rfl) (by decide) h2
 obtain ⟨vb,lenb,usb,e3,hmb,_,hslb,helb⟩:=lQ (size:=9) Tryz.underlying37 (by kernel_rfl) (by decide) h3
 have e0:=jr (o:=0) e0;have e1:=jr (o:=1) e1;have e2:=jr (o:=2) e2;have e3:=jr (o:=3) e3;obtain ⟨lb,hb1,hb2⟩:=Cv lenb usb hslb.1 fun i hi=>by
  obtain ⟨y,n,hn,hy⟩:=helb i hi;exact L6 n hy
 obtain ⟨ps,hp1,hp2⟩:=ER (f:=pf) ic (n:=lenp) (cs:=usp) hslp.1 fun i hi=>by
  obtain ⟨y,n,hn,hy⟩:=help i hi;have hl2:((usp.drop (i*2)).take 2).length=2:=yD Tryz.underlying32 hy;obtain ⟨_,_,_,g0⟩:=bF Tryz.underlying32 hy (i:=0) rfl;obtain ⟨_,_,_,g1⟩:=bF Tryz.underlying32 hy (i:=1) rfl;obtain ⟨a0,f0,_⟩:=DataW.trod_string Tryz.underlying9 g0;obtain ⟨a1,f1,_⟩:=DataW.trod_string Tryz.underlying9 g1;have f0:=jr (o:=0) f0;have f1:=jr (o:=1) f1;refine ⟨(a0,a1),List.ext_getElem? fun j=>?_⟩
  match j with
  |0=>exact f0
  |1=>exact f1
  |j+2=>rw [List.getElem?_eq_none (by omega),List.getElem?_eq_none (by rw [ic];omega)]
 refine ⟨⟨s0,k1,ps,lb⟩,vp,vb,List.ext_getElem? fun j=>?_,⟨by rw [←hp2,hp1];exact hslp,hnp⟩,usb,⟨by rw [hb1];exact hslb,by rw [hb1];exact hmb⟩,hb2⟩
 match j with
 |0=>exact e0
 |1=>exact e1
 |2=>exact e2
 |3=>exact e3
 |j+4=>rw [List.getElem?_eq_none (by omega),List.getElem?_eq_none (by simp)]
theorem My {fuel:Nat}{cs:List Value}{x:DataW H×List MemPlace}(h:DataW.trod enc Tryz.prog w base spare held fuel 24 cs=some x):∃v p,cs=[v]∧SgS w.heap v p:=by
 have hl:cs.length=1:=yD Tryz.underlying24 h;obtain ⟨_,_,_,h0⟩:=bF Tryz.underlying24 h (i:=0) rfl;obtain ⟨v,len,us,e0,hm,_,hsl,hel⟩:=lQ (size:=4) Tryz.underlying22 (by kernel_rfl) (by decide) h0
 have e0:=jr (o:=0) e0;obtain ⟨l,h1,h2⟩:=KH len us hsl.1 fun i hi=>by
  obtain ⟨y,n,hn,hy⟩:=hel i hi;exact Mf hy
 refine ⟨v,l,List.ext_getElem? fun j=>?_,us,⟨by rw [h1];exact hsl,by rw [h1];exact hm⟩,h2⟩
 match j with
 |0=>exact e0
 |j+1=>rw [List.getElem?_eq_none (by omega),List.getElem?_eq_none (by simp)]
end
theorem own:ownKnob Tryz.prog.godebug=none:=by kernel_rfl
theorem laidOut:laidOutB Tryz.prog=true:=by kernel_rfl
end Go.Proofs.YtkeeboomikkojaaGreatDoor
