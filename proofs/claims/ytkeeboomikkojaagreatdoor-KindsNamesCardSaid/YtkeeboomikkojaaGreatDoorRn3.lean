import Derived.Test.YtkeeboomikkojaaGreatDoorRn2
import Derived.Test.YtkeeboomikkojaaGreatDoorSLayR
import Derived.Shelf.Strings.OnBuilder
import Derived.Lib.ItoaLen
namespace Go.Proofs.YtkeeboomikkojaaGreatDoor
open Go Go.Sx Go.Sx.Rn Go.Proofs.YtkeeboomikkojaaGreatDoor.Sx
section
variable  {ω:Amb}
def fe (h : Hp) : Prop := ∀ (ω : Amb) (d : Nat), Lib.TabIs Tryz.prog (W ω h d) "internal/strconv.uint64pow10" .u64 Lib.pow10Tab
theorem It {P:Program}{h h':Hp}(k:KF h h'){ω:Amb}{d:Nat}{nm:String}{cs:Array Value}(hv:(W ω h d).var? P nm=some cs):(W ω h' d).var? P nm=some cs:=by
 unfold World.var? at hv ⊢;rw [Option.bind_eq_some_iff] at hv ⊢;obtain ⟨g,hg,hm⟩:=hv;refine ⟨g,hg,?_⟩;have e1:(W ω h d).heap=h:=rfl;have e2:(W ω h' d).heap=h':=rfl;rw [e1] at hm;rw [e2]
 split at hm
 ·rename_i c t f hb;rw [k.get hb (by simp)]
  exact hm
 ·cases hm
theorem fe.more {h h':Hp}(t:fe h)(k:KF h h'):fe h':=by
 intro ω d;have:=t ω d;unfold Lib.TabIs at this ⊢;exact It k this
def itB (n:Int):ByteArray:=⟨(Lib.itoa n).toArray⟩
theorem zk (h:Hp)(os:Array Obj):KF h (h++os) :=
 ⟨by simp,fun k hk _=>Array.getElem?_append_left hk⟩
theorem xR (n:Int)(h0:-9223372036854775808≤n)(h1:n≤9223372036854775807)(h:Hp)(ht:fe h)(X:XT) :
  aa Tryz.prog ω 106 [.int .i64 n] h (fun r h'=>r=.string (itB n)∧KF h h') X:=by
 intro d;have hc:=Any.strconv_Itoa Ml n h0 h1 (W ω h d) (ht ω d);have hc':Calls Tryz.prog 106 #[.int .i64 n] (W ω h d) _:=hc;refine hc'.mono fun e w' ⟨he,k,os,hw⟩=>?_;subst he;have hw2:w'=W ω (h++os) (d+k):=hw.trans (KV ω _ d k);subst hw2;exact ⟨⟨d+k,rfl⟩,rfl,zk h os⟩
def Bld (h:Hp)(B b:Nat)(l:List UInt8):Prop:=∃p v,(p=.pointer none∨p=.pointer (some ⟨b,0,none⟩))∧B≤b∧h[b]?=some (.cells #[p,v] 109 (0,0))∧(∀(ω:Amb) (d:Nat),(W ω h d).ownsRowF B 5 1 v l.length (Lib.byteCells l))∧v.ownBlock≠some b
theorem Bld.is {h:Hp}{B b:Nat}{l:List UInt8}(hb:Bld h B b l)(ω:Amb)(d:Nat):Lib.IsBuilderF 109 5 B b (Lib.byteCells l) (W ω h d):=by
 obtain ⟨p,v,hp,h1,h2,h3,h4⟩:=hb;have:Lib.BuilderAtF 109 5 B b p (Lib.byteCells l) (W ω h d):=⟨h1,v,h2,by rw [Lib.byteCells_length];exact h3 ω d,h4⟩
 rcases hp with rfl|rfl
 ·exact .inl this
 ·exact .inr this
theorem Bld.new {h:Hp}{B b:Nat}(hB:B≤b)(hb:h[b]?=some (.cells #[.pointer none,.slice none 0 0] 109 (0,0))):Bld h B b [] :=
 ⟨_,_,.inl rfl,hB,hb,fun _ _=>⟨rfl,.inl ⟨rfl,rfl⟩⟩,by simp [Value.ownBlock]⟩
theorem uy (ρ:Go.Shelf.Ren)(h5:ρ.t 5=5)(h72:ρ.t 72=109):Builder.Extra Tryz.prog ρ where
 sizeBuilder:=by rw [h72];kernel_rfl
 liesBuilder:=by rw [h72];kernel_rfl
 t5:=by rw [h5];kernel_rfl
 a5:=fun w=>by rw [h5];exact Tryz.isAgg5 w
 z5:=fun w=>by rw [h5];exact Tryz.sizeOf5 w
 v5:=fun w=>by rw [h5];exact Tryz.zeroValue5 w
 infoByte:=by rw [h5];kernel_rfl
 cellsByte:=by rw [h5];kernel_rfl
 sizeByte:=by rw [h5];kernel_rfl
 neB5:=by rw [h5,h72];decide
theorem DK {w:World}{h:Hp}{B d:Nat}(hω:ω.low=0)(hb:RowKit.Below B (W ω h d) w):w=W ω w.heap w.drawn:=by
 obtain ⟨h1,h2,h3,h4,h5⟩:=hb;cases w;cases h1;cases h2;cases h3;unfold W;rw [hω,Zc]
theorem qL {w:World}{h:Hp}{B d:Nat}(hb:RowKit.Below B (W ω h d) w):ar (fun k=>B≤k) h w.heap :=
 ⟨hb.size,fun k hk hn=>hb.block k (by omega)⟩
def Oth (b:Nat)(h h':Hp):Prop:=∀k o,h[k]?=some o→k≠b→(∀c fz,o≠.cells c 5 fz)→h'[k]?=some o
theorem yR (hω:ω.low=0){h:Hp}{B b:Nat}{l:List UInt8}(hb:Bld h B b l)(s:ByteArray)(hl:l.length+s.size≤1000000)(hB:B≤h.size)(X:XT) :
  aa Tryz.prog ω 88 [.pointer (some ⟨b,0,none⟩),.string s] h (fun _ h'=>Bld h' B b (l++s.data.toList)∧ar (fun k=>B≤k) h h'∧Oth b h h') X:=by
 intro d;have hc:=Any.Builder_WriteString_k yq (uy gY rfl rfl) B b (Lib.byteCells l) s (W ω h d) (hb.is ω d) (by rw [Lib.byteCells_length];omega) hB
 have hc':Calls Tryz.prog 88 #[.pointer (some ⟨b,0,none⟩),.string s] (W ω h d) _:=hc;refine hc'.mono fun e w' ⟨he,hA,hbel,hoth⟩=>?_;subst he;have hw:=DK hω hbel;refine ⟨⟨_,hw⟩,?_,qL hbel,fun k o hk hn h5=>hoth k o hk (fun e=>hn (Z2 e)) h5⟩;obtain ⟨h1,v,h2,h3,h4⟩:=hA;refine ⟨_,v,.inr rfl,h1,h2,fun ω' d'=>?_,h4⟩;have e1:Lib.byteCells l++Lib.strCells s=Lib.byteCells (l++s.data.toList):=by
  unfold Lib.byteCells Lib.strCells;rw [List.map_append]
 rw [e1,Lib.byteCells_length] at h3;exact h3
theorem Dz (hω:ω.low=0){h:Hp}{B b:Nat}{l:List UInt8}(hb:Bld h B b l)(hB:B≤h.size)(X:XT) :
  aa Tryz.prog ω 64 [.pointer (some ⟨b,0,none⟩)] h (fun r h'=>r=.string ⟨l.toArray⟩∧ar (fun k=>B≤k) h h'∧Oth b h h') X:=by
 intro d;have hc:=Any.Builder_String_any_k HA (uy gu rfl rfl) B b l (W ω h d) (hb.is ω d) hB;have hc':Calls Tryz.prog 64 #[.pointer (some ⟨b,0,none⟩)] (W ω h d) _:=hc;refine hc'.mono fun e w' ⟨he,_,hbel,hoth⟩=>?_;subst he;exact ⟨⟨_,DK hω hbel⟩,rfl,qL hbel,fun k o hk hn h5=>hoth k o hk (fun e=>hn (Z2 e)) h5⟩
theorem rf (n:Int)(h0:-9223372036854775808≤n)(h1:n≤9223372036854775807)(h:Hp)(ht:fe h)(X:XT) :
  aa Tryz.prog ω 126 [.int .i64 n,.int .i64 10] h (fun r h'=>r=.string (itB n)∧KF h h') X:=by
 intro d;have hc:=Any.strconv_FormatInt_10 ML n h0 h1 (W ω h d) (ht ω d);have hc':Calls Tryz.prog 126 #[.int .i64 n,.int .i64 10] (W ω h d) _:=hc;refine hc'.mono fun e w' ⟨he,k,os,hw⟩=>?_;subst he;have hw2:w'=W ω (h++os) (d+k):=hw.trans (KV ω _ d k);subst hw2;exact ⟨⟨d+k,rfl⟩,rfl,zk h os⟩
theorem vV {w:World}{h:Hp}{d:Nat}(hb:RowKit.Below h.size (W ω h d) w):KF h w.heap :=
 (qL hb).mono fun k hk e=>by omega
theorem D7 (hω:ω.low=0)(s:ByteArray)(c:Nat)(hc:c≤1000)(hs:s.size≤1000)(h:Hp)(X:XT) :
  aa Tryz.prog ω 89 [.string s,.int .i64 c] h (fun r h'=>r=.string ⟨(Lib.repeatL s.data.toList c).toArray⟩∧KF h h') X:=by
 intro d;have hm:s.size*c≤1000*1000:=Nat.mul_le_mul hs hc;have hc:=Any.strings_Repeat MG (uy JR rfl rfl) s c (W ω h d) (by omega) (by omega)
 have hc':Calls Tryz.prog 89 #[.string s,.int .i64 c] (W ω h d) _:=hc;refine hc'.mono fun e w' ⟨he,hbel⟩=>?_;subst he;exact ⟨⟨_,DK hω hbel⟩,rfl,vV hbel⟩
theorem Cs (hω:ω.low=0)(xs:List ByteArray)(sep:ByteArray)(h:Hp){v:Value}{base:Nat}(ho:bX h base 9 1 v xs.length (xs.map .string))(hN:xs.length≤100000)
  (hlen:(Lib.join (xs.map (·.data.toList)) sep.data.toList).length≤10000000) (X:XT) :
  aa Tryz.prog ω 61 [v,.string sep] h (fun r h'=>r=.string ⟨(Lib.join (xs.map (·.data.toList)) sep.data.toList).toArray⟩∧KF h h') X:=by
 intro d;rcases ho.shape with ⟨rfl,h0,_⟩|⟨g,o,cap,rfl,hg,_,hnc,hcell⟩
 ·obtain rfl:=List.eq_nil_of_length_eq_zero h0;have hc:=Any.strings_Join_none E6 (uy G6 rfl rfl) none 0 sep (W ω h d);have hc':Calls Tryz.prog 61 #[.slice none 0 0,.string sep] (W ω h d) _:=hc;refine hc'.mono fun e w' ⟨he,hw⟩=>?_;subst he;subst hw;exact ⟨⟨d,rfl⟩,rfl,ar.refl _ _⟩
 ·have hc:=Any.strings_Join E6 (uy G6 rfl rfl) g o cap xs sep (W ω h d) (fun j x hx=>hcell j (.string x) (by rw [List.getElem?_map,hx];rfl)) hg (by omega) hnc (by omega)
  have hc':Calls Tryz.prog 61 #[.slice (some ⟨g,o,none⟩) xs.length cap,.string sep] (W ω h d) _:=hc;refine hc'.mono fun e w' ⟨he,hbel⟩=>?_;subst he;exact ⟨⟨_,DK hω hbel⟩,rfl,vV hbel⟩
end
end Go.Proofs.YtkeeboomikkojaaGreatDoor
namespace Go.Proofs.YtkeeboomikkojaaGreatDoor
open Go Go.Sx Go.Sx.Tk Go.Sx.Rn Go.Proofs.YtkeeboomikkojaaGreatDoor.Sx
structure Fm where
 a:Bool
 b:Bool
 t:Bool
 n:Bool
 e:Int
 body:Bool
 els:Bool
def aT (d:Int):Option Fm :=
 if d=1∨d=2∨d=6 then some ⟨true,false,false,false,1,false,false⟩
 else if d=3 then some ⟨false,false,false,false,1,false,false⟩
 else if d=4 then some ⟨true,true,true,true,0,false,false⟩
 else if d=5 then some ⟨true,true,false,false,0,false,false⟩
 else if d=7∨d=8∨d=9 then some ⟨true,false,false,false,0,false,false⟩
 else if d=10 then some ⟨true,false,false,false,-1,false,false⟩
 else if d=11 then some ⟨true,true,false,false,0,true,true⟩
 else if d=12 then some ⟨true,true,false,false,0,true,false⟩
 else if d=13 then some ⟨false,false,false,false,1,true,false⟩
 else if d=14 then some ⟨false,false,false,false,1,true,true⟩
 else none
def fmC (f:Fm):List Value:=[.bool f.a,.bool f.b,.bool f.t,.bool f.n,.int .i64 f.e,.bool f.body,.bool f.els]
theorem AI (f:Fm):∀u∈fmC f,one u:=by
 intro u hu;simp only [fmC,List.mem_cons,List.not_mem_nil,or_false] at hu;rcases hu with rfl|rfl|rfl|rfl|rfl|rfl|rfl<;>rfl
def fm0:Fm:=⟨false,false,false,false,0,false,false⟩
def KT (d:Int):Value:=match aT d with|some f=>.tuple #[.agg (fmC f).toArray,.bool true]|none=>.tuple #[.agg (fmC fm0).toArray,.bool false]
theorem oc {h h1:Hp}{z:Fm}{T:TypeId}(hb:h1[h.size]?=some (.cells (fmC z).toArray T (0,0)))(k:KF h h1)(f:Fm){b:Bool}{d:Int}(hd:KT d=.tuple #[.agg (fmC f).toArray,.bool b]) :
  True∧(∀u∈fmC f,one u)∧av h1 ⟨h.size,0,none⟩ (fmC f) fun h12=>∃C,aj h12 ⟨h.size,0,none⟩ 7 C∧(fun r h'=>r=KT d∧KF h h') (.tuple #[.agg C.toArray,.bool b]) h12:=by
 refine ⟨trivial,AI f,aW hb (by simp [fmC]) ?_⟩
 rw [ca (by rfl)]
 have hb2:=aq (o:=.cells (fmC f).toArray T (0,0)) hb;have kk:=ar.set (S:=fun b=>b=h.size) (h:=h1) (.cells (fmC f).toArray T (0,0)) (b:=h.size) rfl;exact ⟨_,ak hb2 rfl,hd.symm,((k.mono (fun _ _ h=>h.elim)).trans kk).mono fun b hb e=>by omega⟩
section
variable  {ω:Amb}
theorem EF (d:Int)(h:Hp)(X:XT):aa Tryz.prog ω yQ [.int .i64 d] h (fun r h'=>r=KT d∧KF h h') X:=by
 refine Ac ω _ h _ X ?_;unfold sU jR;have hb:=ah (h:=h) (o:=.cells (fmC fm0).toArray 165 (0,0));have kp:=ar.push (S:=fun _=>False) h (.cells (fmC fm0).toArray 165 (0,0));simp only [show (#[(.bool false),(.bool false),(.bool false),(.bool false),(.int .i64 0),(.bool false),(.bool false)]:Array Value)=(fmC fm0).toArray from rfl]
 generalize h.push (.cells (fmC fm0).toArray 165 (0,0))=h1 at *;rw [asK_int];refine ⟨fun v h'=>v=.bool (decide (d=1∨d=2∨d=6))∧h1=h',?_,?_⟩
 ·refine ae (fun hc=>?_) (fun hc=>?_)
  ·rw [hc,Z7 (.inl (Zg hc))];exact ⟨rfl,rfl⟩
  have c1:=Qa.1 hc;rw [asK_int];refine ⟨fun v h'=>v=.bool (decide (d=1∨d=2∨d=6))∧h1=h',?_,fun _ _ _ hj=>hj⟩;refine ae (fun hc=>?_) (fun hc=>?_)
  ·rw [hc,Z7 (.inr (.inl (Zg hc)))];exact ⟨rfl,rfl⟩
  have c2:=Qa.1 hc;rw [asK_int];refine ⟨?_,rfl⟩
  congr 1
  rw [Qz];simp [c1,c2]
 rintro _ _ _ ⟨rfl,rfl⟩;rw [asB_bool];refine ae (fun hc=>?_) (fun hc=>?_)
 ·exact oc hb kp ⟨true,false,false,false,1,false,false⟩ (by rw [KT,aT,if_pos (Qj hc)])
 have c126:=Qc hc;rw [asK_int];refine ae (fun hc=>?_) (fun hc=>?_)
 ·have:=Zg hc;subst this;exact oc hb kp ⟨false,false,false,false,1,false,false⟩ rfl
 have c3:=Qa.1 hc;rw [asK_int];refine ae (fun hc=>?_) (fun hc=>?_)
 ·have:=Zg hc;subst this;exact oc hb kp ⟨true,true,true,true,0,false,false⟩ rfl
 have c4:=Qa.1 hc;rw [asK_int];refine ae (fun hc=>?_) (fun hc=>?_)
 ·have:=Zg hc;subst this;exact oc hb kp ⟨true,true,false,false,0,false,false⟩ rfl
 have c5:=Qa.1 hc;rw [asK_int];refine ⟨fun v h'=>v=.bool (decide (d=7∨d=8∨d=9))∧h1=h',?_,?_⟩
 ·refine ae (fun hc=>?_) (fun hc=>?_)
  ·rw [hc,Z7 (.inl (Zg hc))];exact ⟨rfl,rfl⟩
  have c1:=Qa.1 hc;rw [asK_int];refine ⟨fun v h'=>v=.bool (decide (d=7∨d=8∨d=9))∧h1=h',?_,fun _ _ _ hj=>hj⟩;refine ae (fun hc=>?_) (fun hc=>?_)
  ·rw [hc,Z7 (.inr (.inl (Zg hc)))];exact ⟨rfl,rfl⟩
  have c2:=Qa.1 hc;rw [asK_int];refine ⟨?_,rfl⟩
  congr 1
  rw [Qz];simp [c1,c2]
 rintro _ _ _ ⟨rfl,rfl⟩;rw [asB_bool];refine ae (fun hc=>?_) (fun hc=>?_)
 ·exact oc hb kp ⟨true,false,false,false,0,false,false⟩ (by rw [KT,aT,if_neg c126,if_neg c3,if_neg c4,if_neg c5,if_pos (Qj hc)])
 have c789:=Qc hc;rw [asK_int];refine ae (fun hc=>?_) (fun hc=>?_)
 ·have:=Zg hc;subst this;exact oc hb kp ⟨true,false,false,false,-1,false,false⟩ rfl
 have c10:=Qa.1 hc;rw [asK_int];refine ae (fun hc=>?_) (fun hc=>?_)
 ·have:=Zg hc;subst this;exact oc hb kp ⟨true,true,false,false,0,true,true⟩ rfl
 have c11:=Qa.1 hc;rw [asK_int];refine ae (fun hc=>?_) (fun hc=>?_)
 ·have:=Zg hc;subst this;exact oc hb kp ⟨true,true,false,false,0,true,false⟩ rfl
 have c12:=Qa.1 hc;rw [asK_int];refine ae (fun hc=>?_) (fun hc=>?_)
 ·have:=Zg hc;subst this;exact oc hb kp ⟨false,false,false,false,1,true,false⟩ rfl
 have c13:=Qa.1 hc;rw [asK_int];refine ae (fun hc=>?_) (fun hc=>?_)
 ·have:=Zg hc;subst this;exact oc hb kp ⟨false,false,false,false,1,true,true⟩ rfl
 have c14:=Qa.1 hc;exact oc hb kp fm0 (by rw [KT,aT,if_neg c126,if_neg c3,if_neg c4,if_neg c5,if_neg c789,if_neg c10,if_neg c11,if_neg c12,if_neg c13,if_neg c14])
end
theorem sw {d:Int}(h:d < 1∨14 < d):aT d=none:=by
 unfold aT;rw [if_neg (by omega),if_neg (by omega),if_neg (by omega),if_neg (by omega),if_neg (by omega),if_neg (by omega),if_neg (by omega),if_neg (by omega),if_neg (by omega),if_neg (by omega)]
theorem Eg {d:Int}{f:Fm}(h:aT d=some f)(he:f.els=true):f.body=true:=by
 unfold aT at h
 repeat' split at h
 all_goals first|(cases h;simp_all;done)|cases h
theorem FE {d:Int}{f:Fm}(h:aT d=some f):1≤d∧d≤14:=by
 rcases Int.lt_or_le d 1 with h1|h1
 ·rw [sw (.inl h1)] at h;cases h
 ·rcases Int.lt_or_le 14 d with h2|h2
  ·rw [sw (.inr h2)] at h;cases h
  ·exact ⟨h1,h2⟩
section
variable  {ω:Amb}
end
def zA (f:Fm)(x:St):Bool:=!f.a&&!decide (emp x.a)
def zB (f:Fm)(x:St):Bool:=!f.b&&!decide (emp x.b)
def zT (f:Fm)(x:St):Bool:=!f.t&&!decide (emp x.t)
def zN (f:Fm)(x:St):Bool:=!f.n&&decide (x.n≠0)
def zE (f:Fm)(x:St):Bool:=decide (0≤f.e)&&decide ((x.e.length:Int)≠f.e)
def zBo (f:Fm)(x:St):Bool:=!f.body&&decide (0 < x.body.length)
def zEl (f:Fm)(x:St):Bool:=!f.els&&decide (0 < x.els.length)
def qP (f:Fm)(x:St):Bool:=zT f x||(zN f x||(zE f x||(zBo f x||(zEl f x||(zA f x||zB f x)))))
section
variable  {ω:Amb}
end
def eF1 (x:Ex):Int:=orF (if 20 < exN x then 8 else 0) (exF x)
def esF:List Ex→Int
 |[]=>0
 |x::r=>orF (eF1 x) (esF r)
theorem BI:∀(l m:List Ex),esF (l++m)=orF (esF l) (esF m)
 |[],m=>by simp only [Z4,esF,nF]
 |y::r,m=>by simp only [Qu,esF,BI r m,cT]
theorem Cr (l:List Ex)(x:Ex):esF (l++[x])=orF (esF l) (eF1 x):=by rw [BI];simp only [esF,DF]
def stR (f:Fm)(x:St)(deep:Int):Int :=
 orF (nmF f.a x.a) (orF (nmF f.b x.b) (orF (if f.t&&!ck x.t 3 then 11 else 0) (orF (if decide (x.n < 0∨1000000000000000000≤x.n) then 14 else 0) (orF (esF x.e) (if f.body&&decide (8≤deep) then 7 else 0)))))
def stH (x:St)(at_ deep:Int):Int :=
 if 300≤at_ then 8 else match aT x.d with
 |none=>5
 |some f=>if qP f x then 5 else if 6 < x.e.length then 8 else stR f x deep
theorem Bw {f:Fm}{x:St}(h:qP f x=false):zA f x=false∧zB f x=false∧zT f x=false∧zN f x=false∧zE f x=false∧zBo f x=false∧zEl f x=false:=by
 unfold qP at h;simp only [Bool.or_eq_false_iff] at h;obtain ⟨h1,h2,h3,h4,h5,h6,h7⟩:=h;exact ⟨h6,h7,h1,h2,h3,h4,h5⟩
theorem tx {is:Bool}{s:ByteArray}(h:(!is&&!decide (emp s))=false):nmF is s=if is&&!aL s then 4 else 0:=by
 rw [nmF,h,if_neg (by decide),nF]
section
variable  {ω:Amb}
end
abbrev FR:=Except (Int×Int) Int
def rO (r:FR)(f:Int→FR):FR:=match r with|.error e=>.error e|.ok n=>f n
theorem lP (n:Int)(f:Int→FR):rO (.ok n) f=f n:=rfl
mutual
def stF:St→Int→Int→FR
 |.mk d at_ a b t n e body els,m,deep =>
  if stH (.mk d at_ a b t n e body els) m deep≠0 then .error (stH (.mk d at_ a b t n e body els) m deep,m)
  else rO (jk body (m+1) (deep+1)) fun n=>jk els n (deep+1)
def jk:List St→Int→Int→FR
 |[],m,_=>.ok m
 |x::r,m,deep=>rO (stF x m deep) fun n=>jk r n deep
end
theorem Aj (x:St)(m deep:Int):stF x m deep=if stH x m deep≠0 then .error (stH x m deep,m) else rO (jk x.body (m+1) (deep+1)) fun n=>jk x.els n (deep+1):=by cases x;rfl
theorem kE (x:St)(r:List St)(m deep:Int):jk (x::r) m deep=rO (stF x m deep) fun n=>jk r n deep:=rfl
def GC (m:Int):FR→Prop
 |.ok n=>m≤n∧n≤300
 |.error e=>e.1≠0
theorem vO {m:Int}{r:FR}{f:Int→FR}(h:GC m r)(hf:∀n,m≤n→n≤300→GC n (f n)):GC m (rO r f):=by
 cases r with
 |error e=>exact h
 |ok n =>
  have:=hf n h.1 h.2;rw [lP]
  revert this
  cases f n with
  |error e=>exact id
  |ok k=>exact fun hh=>⟨Int.le_trans h.1 hh.1,hh.2⟩
mutual
theorem Kb:∀(x:St) (m deep:Int),m≤300→GC m (stF x m deep)
 |.mk d at_ a b t n e body els,m,deep,hm=>by
  unfold stF
  split
  ·assumption
  ·rename_i h;have h3:m < 300:=by
    rcases Int.lt_or_le m 300 with h1|h1
    ·exact h1
    ·exact absurd (by rw [stH,if_pos h1];decide) h
   refine vO ?_ fun n _ hn=>kg els n _ hn;have:=kg body (m+1) (deep+1) (by omega)
   revert this
   cases jk body (m+1) (deep+1) with
   |error e=>exact id
   |ok k=>exact fun hh=>⟨by have:=hh.1;omega,hh.2⟩
theorem kg:∀(l:List St) (m deep:Int),m≤300→GC m (jk l m deep)
 |[],m,deep,hm=>⟨Int.le_refl _,hm⟩
 |x::r,m,deep,hm=>by
  rw [kE];exact vO (Kb x m deep hm) fun n _ hn=>kg r n deep hn
end
theorem IJ {a b:Value}{F:Value→Value→Prop}:(asT (.tuple #[a,b]) fun T2=>asO T2[0]? fun v3=>asT (.tuple #[a,b]) fun T4=>asO T4[1]? fun v5=>F v3 v5)=F a b:=by
 simp only [asT_tup];rfl
theorem zd {h:Hp}{L:Nat}{T:TypeId}{cs ds:List Value}(hw:h[L]?=some (.cells ds.toArray T (0,0)))(hd:ds.length=2)(hc:cs.length=2){K:List Value→Hp→Prop}
  (hk:∀h',ar (fun k=>k=L) h h'→h'[L]?=some (.cells cs.toArray T (0,0))→K cs h'):av h ⟨L,0,none⟩ cs fun h'=>∃C,aj h' ⟨L,0,none⟩ 2 C∧K C h':=by
 refine aW hw (by simp;omega) ?_
 rw [ca (by simp;omega)]
 have hb:=aq (o:=.cells cs.toArray T (0,0)) hw;exact ⟨cs,ak hb hc,hk _ (ar.set (S:=fun k=>k=L) _ rfl) hb⟩
section
variable  {ω:Amb}
end
def prF (q:ByteArray×ByteArray):Int:=orF (if !aL q.1 then 4 else 0) (if !ck q.2 3 then 11 else 0)
def rV:List (ByteArray×ByteArray)→Int
 |[]=>0
 |q::r=>orF (prF q) (rV r)
theorem tN:∀(l m:List (ByteArray×ByteArray)),rV (l++m)=orF (rV l) (rV m)
 |[],m=>by simp only [Z4,rV,nF]
 |y::r,m=>by simp only [Qu,rV,tN r m,cT]
theorem zt (l:List (ByteArray×ByteArray))(x:ByteArray×ByteArray):rV (l++[x])=orF (rV l) (prF x):=by rw [tN];simp only [rV,DF]
def sgH (s:Sg):Int:=orF (if !aL s.nm then 4 else 0) (orF (if decide (6 < s.ps.length) then 8 else 0) (rV s.ps))
def uZ:List Sg→Int→Int→FR
 |[],_,m=>.ok m
 |s::r,i,m=>if sgH s≠0 then .error (sgH s,-2 - i) else rO (jk s.body m 1) fun n=>uZ r (i+1) n
def bC (p:List Sg):FR:=if p.length=0 then .error (10,-1) else if 10 < p.length then .error (8,-1) else uZ p 0 0
def ji (r:FR):Int×Int:=match r with
 |.ok _=>(0,0)
 |.error e=>e
section
variable  {ω:Amb}
theorem GW {h h1 h2:Hp}{L:Nat}(k:KF h h1)(hL:h.size≤L)(k2:ar (fun b=>b=L) h1 h2):KF h h2 :=
 ((k.mono (fun _ _ h=>h.elim)).trans k2).mono fun b hb e=>by omega
end
theorem lg {a b:Int}(h:orF a b=0):a=0∧b=0:=by
 unfold orF at h
 split at h
 ·exact ⟨‹_›,h⟩
 ·exact absurd h ‹_›
def fmD (d:Int):Fm:=(aT d).getD fm0
def MR (d:Int):Bool:=(aT d).isSome
theorem EW (d:Int):KT d=.tuple #[.agg (fmC (fmD d)).toArray,.bool (MR d)]:=by
 unfold KT fmD MR;cases aT d<;>rfl
def stE (x:St)(n:Int):Int:=if 300≤n then 8 else if (!MR x.d||qP (fmD x.d) x) then 5 else if decide (6 < x.e.length) then 8 else 0
theorem N6 (x:St)(n deep:Int):stH x n deep=if stE x n≠0 then stE x n else stR (fmD x.d) x deep:=by
 unfold stH stE MR fmD
 by_cases h1:300≤n
 ·simp [h1]
 ·rw [if_neg h1,if_neg h1];cases hf:aT x.d with
  |none=>simp
  |some f =>
   simp only [Option.getD_some,Option.isSome_some,Bool.not_true,Za];cases hb:qP f x with
   |true=>simp
   |false =>
    by_cases h6:6 < x.e.length
    ·simp [h6]
    ·simp [h6]
theorem BT {x:St}{n:Int}(h:stE x n=0):n < 300∧(∃f,aT x.d=some f)∧qP (fmD x.d) x=false∧x.e.length≤6:=by
 unfold stE at h
 split at h
 ·cases h
 ·rename_i h1
  split at h
  ·cases h
  ·rename_i h2;simp only [Bool.or_eq_true,Bool.not_eq_true',not_or,Bool.not_eq_false,Bool.not_eq_true] at h2
   split at h
   ·cases h
   ·rename_i h3;refine ⟨by omega,Option.isSome_iff_exists.1 h2.1,h2.2,?_⟩
    simp at h3;omega
def P3 (r:FR)(n':Int)(p':Int×Int):Prop:=match r with
 |.ok m=>n'=m∧p'=(0,0)
 |.error e=>p'=e
def Py (p:Int×Int)(_:Int)(r:FR)(n':Int)(p':Int×Int):Prop:=(p.1≠0→p'=p)∧(p=(0,0)→P3 r n' p')∧0≤n'∧n'≤301
section
variable  {ω:Amb}{h0:Hp}{b:Nat}
def xY (ω:Amb)(h0:Hp)(b:Nat)(l:List St):Prop:=∀(h:Hp) (v:Value) (n:Int) (p:Int×Int) (deep:Int),StS h0 v l→WS h0 b h n p→0≤n→n≤301→(p.1≠0∨(p=(0,0)∧n≤300∧(l≠[]→deep≤8)))→0≤deep→deep≤100→∀(X:XT),
 aa Tryz.prog ω eG [wp b,v,.int .i64 deep] h (fun _ h'=>∃n' p',WS h0 b h' n' p'∧KB b h h'∧Py p n (jk l n deep) n' p') X
set_option maxHeartbeats 800000 in
theorem FK (x:St)(hle:stN x≤100000)(hok:AB x)(hB:xY ω h0 b x.body)(hE:xY ω h0 b x.els)(h:Hp)(ve vb vl:Value)(n deep:Int)(he:ExS h0 ve x.e)(hbd:StS h0 vb x.body)(hel:StS h0 vl x.els)
  (ws:WS h0 b h n (0,0)) (hn0:0≤n) (hn1:n≤300) (hd0:0≤deep) (hd1:deep≤8) (X:XT) :
  aa Tryz.prog ω nh [wp b,.agg (stC x ve vb vl).toArray,.int .i64 deep] h (fun _ h'=>∃n' p',WS h0 b h' n' p'∧KB b h h'∧P3 (stF x n deep) n' p'∧0≤n'∧n'≤301) X:=by
 refine nA ω _ _ _ h _ X ?_;unfold fB;simp only [show Value.cells (.agg (stC x ve vb vl).toArray)=(stC x ve vb vl).toArray from rfl]
 obtain ⟨ha,hb,hty,hoe,hob,hol⟩:=gl.1 hok;have hxe:=jN x;have hlen:=gj x.e;have ha:x.a.size≤20000:=Nat.le_trans ha (by omega)
 have hb:x.b.size≤20000:=Nat.le_trans hb (by omega)
 have hty:x.t.size≤20000:=Nat.le_trans hty (by omega)
 have hblt:=ws.blt;have hb1:=ah (h:=h) (o:=.cells (stC x ve vb vl).toArray 39 (0,0));have kp:=ar.push (S:=fun _=>False) h (.cells (stC x ve vb vl).toArray 39 (0,0));generalize h.push (.cells (stC x ve vb vl).toArray 39 (0,0))=h1 at *;have ws1:=ws.aC kp;have kb1:=KB.of (b:=b) kp;show ∃v1,_;refine lx ws1.wk (j:=0) rfl ?_;show ∃v3,_;refine lx ws1.wk (j:=0) rfl ?_;rw [asK_int,i64_in (by omega) (by omega)]
 rw [nnK_ptr,asP_some];refine aM (o:=0) ws1.wk (by simp) ?_
 have k2:=ar.set (S:=fun k=>k=b) (h:=h1) (.cells ([Value.int .i64 n,.int .i64 0,.int .i64 0].toArray.setIfInBounds 0 (.int .i64 (n+1))) 116 (0,0)) (b:=b) rfl;have ws2:WS h0 b (h1.setIfInBounds b (.cells ([Value.int .i64 n,.int .i64 0,.int .i64 0].toArray.setIfInBounds 0 (.int .i64 (n+1))) 116 (0,0))) (n+1) (0,0):=ws1.next k2 (aq ws1.wk);have hL1:h.size≠b:=by omega
 have hb2:=k2.get hb1 hL1;generalize h1.setIfInBounds b (.cells ([Value.int .i64 n,.int .i64 0,.int .i64 0].toArray.setIfInBounds 0 (.int .i64 (n+1))) 116 (0,0))=h2 at *;have kb2:=kb1.trans k2;refine lx hb2 (j:=0) rfl ?_;refine aa.use (EF x.d h2) ?_;rintro _ h3 ⟨rfl,k3⟩;have hb3:=k3.get hb2 (by simp)
 have ws3:=ws2.aC k3;have kb3:=kb2.trans (KB.of k3);rw [EW,IJ,asA_agg];have hE':∀deep,stH x n deep=if stE x n≠0 then stE x n else stR (fmD x.d) x deep:=fun deep=>N6 x n deep
 have hgood:=@BT x n;have hEd:stE x n=if 300≤n then 8 else if (!MR x.d||qP (fmD x.d) x) then 5 else if decide (6 < x.e.length) then 8 else 0:=rfl
 have hbody:∀f,aT x.d=some f→fmD x.d=f:=fun f hf=>by rw [fmD,hf];rfl
 have hels:∀f,aT x.d=some f→f.els=true→f.body=true:=fun f hf=>Eg hf;generalize fmD x.d=f at *;generalize MR x.d=ok at *;refine ⟨rfl,AI f,aA (cs:=fmC f) rfl ?_⟩;have hf4:=ah (h:=h3) (o:=.cells (fmC f).toArray 165 (0,0));have k4:=ar.push (S:=fun _=>False) h3 (.cells (fmC f).toArray 165 (0,0));have hL2:h3.size≠b:=by have:=ws3.blt;omega
 generalize h3.push (.cells (fmC f).toArray 165 (0,0))=h4 at *;have hb4:=k4.get hb3 (by simp)
 have ws4:=ws3.aC k4;have kb4:=kb3.trans (KB.of k4);have he4:=he.aC ws4.k;have hbd4:=hbd.aC ws4.k;have hel4:=hel.aC ws4.k;refine ⟨fun h'=>WS h0 b h' (n+1) (wst (0,0) (stE x n) n)∧KB b h4 h',?_,?_⟩
 ·rw [asK_int];refine ⟨fun h'=>WS h0 b h' (n+1) (wst (0,0) (stE x n) n)∧KB b h4 h',?_,fun _ _ hj=>hj⟩;refine ae (fun hc=>?_) (fun hc=>?_)
  ·have hge:=Qj hc;refine aa.use (qM ws4 (by decide)) ?_
   rintro _ h5 ⟨ws5,k5⟩;rw [hEd,if_pos (by omega)]
   exact ⟨ws5,k5⟩
  have hge:=Qc hc;rw [if_neg (by omega)] at hEd
  rw [asB_bool];refine ⟨fun v h'=>v=.bool (!ok||qP f x)∧h4=h',?_,?_⟩
  ·refine ae (fun hc=>?_) (fun hc=>?_)
   ·rw [hc];exact ⟨rfl,rfl⟩
   rw [hc,Za];refine ⟨fun v h'=>v=.bool (zT f x)∧h4=h',?_,?_⟩
   ·refine lx hf4 (j:=2) rfl ?_;rw [asB_bool];refine ae (fun hc=>?_) (fun hc=>?_)
    ·refine lx hb4 (j:=4) rfl ?_;rw [asS_str,eqE];exact ⟨by rw [zT,hc];rfl,rfl⟩
    ·exact ⟨by rw [zT,hc];rfl,rfl⟩
   rintro _ _ _ ⟨rfl,rfl⟩;refine ⟨fun v h'=>v=.bool (qP f x)∧h4=h',?_,fun _ _ _ hj=>hj⟩;rw [asB_bool];refine ae (fun c1=>⟨by rw [qP,c1];rfl,rfl⟩) (fun c1=>?_)
   refine ⟨fun v h'=>v=.bool (zN f x)∧h4=h',?_,?_⟩
   ·refine lx hf4 (j:=3) rfl ?_;rw [asB_bool];refine ae (fun hc=>?_) (fun hc=>?_)
    ·refine lx hb4 (j:=5) rfl ?_;rw [asK_int];refine ⟨?_,rfl⟩;rw [zN,hc]
     congr 1
     rw [Qz];simp
    ·exact ⟨by rw [zN,hc];rfl,rfl⟩
   rintro _ _ _ ⟨rfl,rfl⟩;refine ⟨fun v h'=>v=.bool (qP f x)∧h4=h',?_,fun _ _ _ hj=>hj⟩;rw [asB_bool];refine ae (fun c2=>⟨by rw [qP,c1,c2];rfl,rfl⟩) (fun c2=>?_)
   refine ⟨fun v h'=>v=.bool (zE f x)∧h4=h',?_,?_⟩
   ·refine lx hf4 (j:=4) rfl ?_;rw [asK_int];refine ae (fun hc=>?_) (fun hc=>?_)
    ·refine lx hb4 (j:=6) rfl ?_;refine he4.sl fun _ _=>?_;refine lx hf4 (j:=4) rfl ?_;rw [asK_int];refine ⟨?_,rfl⟩;have h0:decide (0≤f.e)=true:=hc;rw [zE,h0,Zb]
     congr 1
     rw [Qz];simp
    ·have h0:decide (0≤f.e)=false:=hc;exact ⟨by rw [zE,h0];rfl,rfl⟩
   rintro _ _ _ ⟨rfl,rfl⟩;refine ⟨fun v h'=>v=.bool (qP f x)∧h4=h',?_,fun _ _ _ hj=>hj⟩;rw [asB_bool];refine ae (fun c3=>⟨by rw [qP,c1,c2,c3];rfl,rfl⟩) (fun c3=>?_)
   refine ⟨fun v h'=>v=.bool (zBo f x)∧h4=h',?_,?_⟩
   ·refine lx hf4 (j:=5) rfl ?_;rw [asB_bool];refine ae (fun hc=>?_) (fun hc=>?_)
    ·refine lx hb4 (j:=7) rfl ?_;refine hbd4.sl fun _ _=>?_;refine ⟨?_,rfl⟩;rw [zBo,hc,Zb]
     congr 1
     rw [Qz];simp
    ·exact ⟨by rw [zBo,hc];rfl,rfl⟩
   rintro _ _ _ ⟨rfl,rfl⟩;refine ⟨fun v h'=>v=.bool (qP f x)∧h4=h',?_,fun _ _ _ hj=>hj⟩;rw [asB_bool];refine ae (fun c4=>⟨by rw [qP,c1,c2,c3,c4];rfl,rfl⟩) (fun c4=>?_)
   refine ⟨fun v h'=>v=.bool (zEl f x)∧h4=h',?_,?_⟩
   ·refine lx hf4 (j:=6) rfl ?_;rw [asB_bool];refine ae (fun hc=>?_) (fun hc=>?_)
    ·refine lx hb4 (j:=8) rfl ?_;refine hel4.sl fun _ _=>?_;refine ⟨?_,rfl⟩;rw [zEl,hc,Zb]
     congr 1
     rw [Qz];simp
    ·exact ⟨by rw [zEl,hc];rfl,rfl⟩
   rintro _ _ _ ⟨rfl,rfl⟩;refine ⟨fun v h'=>v=.bool (qP f x)∧h4=h',?_,fun _ _ _ hj=>hj⟩;rw [asB_bool];refine ae (fun c5=>⟨by rw [qP,c1,c2,c3,c4,c5];rfl,rfl⟩) (fun c5=>?_)
   refine ⟨fun v h'=>v=.bool (zA f x)∧h4=h',?_,?_⟩
   ·refine lx hf4 (j:=0) rfl ?_;rw [asB_bool];refine ae (fun hc=>?_) (fun hc=>?_)
    ·refine lx hb4 (j:=2) rfl ?_;rw [asS_str,eqE];exact ⟨by rw [zA,hc];rfl,rfl⟩
    ·exact ⟨by rw [zA,hc];rfl,rfl⟩
   rintro _ _ _ ⟨rfl,rfl⟩;refine ⟨fun v h'=>v=.bool (qP f x)∧h4=h',?_,fun _ _ _ hj=>hj⟩;rw [asB_bool];refine ae (fun c6=>⟨by rw [qP,c1,c2,c3,c4,c5,c6];rfl,rfl⟩) (fun c6=>?_)
   refine ⟨fun v h'=>v=.bool (zB f x)∧h4=h',?_,?_⟩
   ·refine lx hf4 (j:=1) rfl ?_;rw [asB_bool];refine ae (fun hc=>?_) (fun hc=>?_)
    ·refine lx hb4 (j:=3) rfl ?_;rw [asS_str,eqE];exact ⟨by rw [zB,hc];rfl,rfl⟩
    ·exact ⟨by rw [zB,hc];rfl,rfl⟩
   rintro _ _ _ ⟨rfl,rfl⟩;exact ⟨by rw [qP,c1,c2,c3,c4,c5,c6];rfl,rfl⟩
  rintro _ _ _ ⟨rfl,rfl⟩;refine ⟨fun h'=>WS h0 b h' (n+1) (wst (0,0) (stE x n) n)∧KB b h4 h',?_,fun _ _ hj=>hj⟩;rw [asB_bool];refine ae (fun hc=>?_) (fun hc=>?_)
  ·refine aa.use (qM ws4 (by decide)) ?_
   rintro _ h5 ⟨ws5,k5⟩;rw [hEd,if_pos hc];exact ⟨ws5,k5⟩
  rw [if_neg (by rw [hc];decide)] at hEd
  refine lx hb4 (j:=6) rfl ?_;refine he4.sl fun _ _=>?_;refine ⟨fun h'=>WS h0 b h' (n+1) (wst (0,0) (stE x n) n)∧KB b h4 h',?_,fun _ _ hj=>hj⟩;rw [show decide ((x.e.length:Int) > 6)=decide (6 < x.e.length) by rw [Qz];simp;omega,hEd]
  exact dV ws4 (by decide) X
 rintro _ h5 ⟨ws5,k5⟩;have hb5:=k5.get hb4 hL1;have hf5:=k5.get hf4 hL2;have kb5:=kb4.trans k5;show ∃v140,_;refine ws5.code ?_;rw [asK_int];refine ae (fun hc=>?_) (fun hc=>?_)
 ·have hne:=Ze.1 hc;have hE0:stE x n≠0:=fun h=>by
   rw [h,Gi] at hne;exact hne rfl
  have hw:wst (0,0) (stE x n) n=(stE x n,n):=if_pos ⟨rfl,hE0⟩;rw [hw] at ws5;refine ⟨n+1,_,ws5,kb5,?_,by omega,by omega⟩
  have h1:stH x n deep=stE x n:=by rw [hE',if_pos hE0]
  rw [Aj,h1,if_pos hE0];rfl
 have hE0:stE x n=0:=by
  have hp:(wst (0,0) (stE x n) n).1=0:=by simpa using hc
  unfold wst at hp
  split at hp
  ·exact hp
  ·rename_i h;simpa using h
 rw [hE0,Gi] at ws5;obtain ⟨hn3,⟨f',hf'⟩,hbad,hl6⟩:=hgood hE0;obtain rfl:=hbody f' hf';have hSH:stH x n deep=stR f x deep:=by rw [hE',if_neg (fun h=>h hE0)]
 obtain ⟨bA,bB,bT,bN,bE,bBo,bEl⟩:=Bw hbad;refine lx hf5 (j:=0) rfl ?_;refine lx hb5 (j:=2) rfl ?_;refine aa.use (zm ws5 f.a x.a ha n) ?_;rintro _ h6 ⟨ws6,k6⟩;have hb6:=k6.get hb5 hL1;have hf6:=k6.get hf5 hL2;have kb6:=kb5.trans k6;refine lx hf6 (j:=1) rfl ?_;refine lx hb6 (j:=3) rfl ?_;refine aa.use (zm ws6 f.b x.b hb n) ?_;rintro _ h7 ⟨ws7,k7⟩;have hb7:=k7.get hb6 hL1;have hf7:=k7.get hf6 hL2;have kb7:=kb6.trans k7
 rw [kZ] at ws7;refine ⟨fun v h'=>v=.bool (f.t&&!ck x.t 3)∧h7=h',?_,?_⟩
 ·refine lx hf7 (j:=2) rfl ?_;rw [asB_bool];refine ae (fun hc=>?_) (fun hc=>?_)
  ·refine lx hb7 (j:=4) rfl ?_;refine aa.use (CG x.t 3 hty h7) ?_;rintro _ _ ⟨rfl,rfl⟩;rw [hc];exact ⟨rfl,rfl⟩
  ·rw [hc];exact ⟨rfl,rfl⟩
 rintro _ _ _ ⟨rfl,rfl⟩;refine ⟨_,dV ws7 (by decide) X,?_⟩
 rintro _ h8 ⟨ws8,k8⟩;have hb8:=k8.get hb7 hL1;have hf8:=k8.get hf7 hL2;have kb8:=kb7.trans k8;rw [kZ] at ws8;refine ⟨decide (x.n < 0∨1000000000000000000≤x.n),?_,fun _=>?_⟩
 ·refine lx hb8 (j:=5) rfl ?_;rw [asK_int];refine ae (fun hc=>?_) (fun hc=>?_)
  ·rw [Z7 (.inl (Qj hc))];exact ⟨rfl,trivial⟩
  refine lx hb8 (j:=5) rfl ?_;rw [asK_int];have:=Qc hc;refine ⟨?_,trivial⟩
  congr 1
  rw [Qz];simp;omega
 refine ⟨_,dV ws8 (by decide) X,?_⟩
 rintro _ h9 ⟨ws9,k9⟩;have hb9:=k9.get hb8 hL1;have hf9:=k9.get hf8 hL2;have kb9:=kb8.trans k9;rw [kZ] at ws9;refine lx hb9 (j:=6) rfl ?_;refine (he.aC ws9.k).sl fun _ _=>?_;generalize hacc:(orF (orF (orF (nmF f.a x.a) (nmF f.b x.b)) (if (f.t&&!ck x.t 3)=true then 11 else 0)) (if decide (x.n < 0∨1000000000000000000≤x.n)=true then 14 else 0))=acc at ws9
 refine ⟨fun t h'=>∃k:Nat,t=.int .i64 k∧k≤x.e.length∧WS h0 b h' (n+1) (wst (0,0) (orF acc (esF (x.e.take k))) n)∧KB b h9 h',fun t _=>match t with|.int _ k=>x.e.length - k.toNat|_=>0,
  ⟨0,rfl,by omega,by simpa [esF,DF] using ws9,ar.refl _ _⟩,?_⟩
 rintro _ _ h10 ⟨k,rfl,hk,ws10,k10⟩;have hb10:=k10.get hb9 hL1;have hf10:=k10.get hf9 hL2;have kb10:=kb9.trans k10;rw [asK_int];refine ae (fun hc=>?_) (fun hc=>?_)
 ·have hkl:k < x.e.length:=by
   have:=Qj hc;omega
  have hx:=Q7 hkl;have hmem:x.e[k]∈x.e:=Qv hkl;generalize x.e[k]=y at hx hmem;have hyn:=cr hmem;have hyo:=cb hoe hmem;refine he.zU ws10.k hx fun w' hw'=>?_;refine ⟨rfl,dC hw'.b8,aA (cs:=exC y w') rfl ?_⟩;have hc11:=ah (h:=h10) (o:=.cells (exC y w').toArray 36 (0,0));have k11:=ar.push (S:=fun _=>False) h10 (.cells (exC y w').toArray 36 (0,0));have hL3:h10.size≠b:=by have:=ws10.blt;omega
  generalize h10.push (.cells (exC y w').toArray 36 (0,0))=h11 at *;have ws11:=ws10.aC k11;refine ⟨_,ak hc11 rfl,?_⟩;refine aa.use (FV _ y (Qw _) h11 w' 20 (hw'.aC ws11.k) (by decide) (by decide)) ?_
  rintro _ h12 ⟨⟨z,rfl,hz1,hz2,hz3,hz4⟩,k12⟩;have hc12:=k12.get hc11 (by simp)
  have ws12:=ws11.aC k12;rw [asK_int];have hq:decide (z < 0)=decide (20 < exN y):=by
   rw [Qz];simp;omega
  rw [hq];refine ⟨_,dV ws12 (by decide) X,?_⟩
  rintro _ h13 ⟨ws13,k13⟩;have hc13:=k13.get hc12 hL3;refine ⟨_,ak hc13 rfl,?_⟩;refine aa.use (HN _ y (Qw _) (by omega) hyo h13 w' (n+1) _ n hw' ws13) ?_
  rintro _ h14 ⟨ws14,k14⟩;rw [asK_int,i64_in (by omega) (by omega)]
  refine ⟨⟨k+1,by simp,by omega,?_,(((k10.trans (KB.of k11)).trans (KB.of k12)).trans k13).trans k14⟩,by simp;omega⟩
  rw [kZ,kZ,cT] at ws14;rw [aZ hx,Cr,eF1];simpa using ws14
 have hc:=Qc hc;obtain rfl:k=x.e.length:=by omega
 rw [Qo] at ws10;refine ⟨f.body&&decide (8≤deep),?_,fun _=>?_⟩
 ·refine lx hf10 (j:=5) rfl ?_;rw [asB_bool];refine ae (fun hc=>?_) (fun hc=>?_)
  ·rw [hc,asK_int];refine ⟨?_,trivial⟩
   congr 1
   rw [Qz];simp;omega
  ·rw [hc];exact ⟨rfl,trivial⟩
 refine ⟨_,dV ws10 (by decide) X,?_⟩
 rintro _ h11 ⟨ws11,k11⟩;have hb11:=k11.get hb10 hL1;have kb11:=kb10.trans k11;rw [kZ,←hacc] at ws11;have hR:orF (orF (orF (orF (orF (nmF f.a x.a) (nmF f.b x.b)) (if (f.t&&!ck x.t 3)=true then 11 else 0)) (if decide (x.n < 0∨1000000000000000000≤x.n)=true then 14 else 0)) (esF x.e)) (if (f.body&&decide (8≤deep))=true then 7 else 0)=stR f x deep:=by
  simp only [cT,stR]
 rw [hR,←hSH] at ws11;refine lx hb11 (j:=7) rfl ?_;rw [asK_int,i64_in (by omega) (by omega)]
 by_cases hS0:stH x n deep=0
 ·rw [hS0,Gi] at ws11;have hdp:f.body=true→deep < 8:=fun hbo=>by
   rw [hSH,stR] at hS0;rcases Int.lt_or_le deep 8 with h8|h8
   ·exact h8
   ·exfalso;have:=lg (lg (lg (lg (lg hS0).2).2).2).2;rw [hbo,Z7 h8] at this;exact absurd this.2 (by decide)
  have hbe:x.body≠[]→f.body=true:=fun hne=>by
   have:0 < x.body.length:=List.length_pos_iff.2 hne;unfold zBo at bBo;rw [Z7 this,Bool.and_true] at bBo;simpa using bBo
  have hee:x.els≠[]→f.body=true:=fun hne=>by
   have:0 < x.els.length:=List.length_pos_iff.2 hne;unfold zEl at bEl;rw [Z7 this,Bool.and_true] at bEl;exact hels _ hf' (by simpa using bEl)
  refine aa.use (hB h11 vb (n+1) (0,0) (deep+1) hbd ws11 (by omega) (by omega) (.inr ⟨rfl,by omega,fun hne=>by have:=hdp (hbe hne);omega⟩) (by omega) (by omega)) ?_
  rintro _ h12 ⟨n1,p1,ws12,k12,hw1,hw2,hw3,hw4⟩;have hb12:=k12.get hb11 hL1;have kb12:=kb11.trans k12;have hw2:=hw2 rfl;refine lx hb12 (j:=8) rfl ?_;rw [asK_int,i64_in (by omega) (by omega)]
  have hokb:=kg x.body (n+1) (deep+1) (by omega)
  rw [Aj,if_neg (fun h=>h hS0)];cases hr1:jk x.body (n+1) (deep+1) with
  |error e =>
   rw [hr1] at hw2 hokb;have hw2:p1=e:=hw2;subst hw2;refine aa.use (hE h12 vl n1 p1 (deep+1) hel ws12 hw3 hw4 (.inl hokb) (by omega) (by omega)) ?_
   rintro _ h13 ⟨n2,p2,ws13,k13,g1,g2,g3,g4⟩;exact ⟨n2,p2,ws13,kb12.trans k13,g1 hokb,g3,g4⟩
  |ok m =>
   rw [hr1] at hw2 hokb;obtain ⟨rfl,rfl⟩:=hw2;refine aa.use (hE h12 vl n1 (0,0) (deep+1) hel ws12 hw3 hw4 (.inr ⟨rfl,hokb.2,fun hne=>by have:=hdp (hee hne);omega⟩) (by omega) (by omega)) ?_
   rintro _ h13 ⟨n2,p2,ws13,k13,g1,g2,g3,g4⟩;exact ⟨n2,p2,ws13,kb12.trans k13,g2 rfl,g3,g4⟩
 ·have hw:wst (0,0) (stH x n deep) n=(stH x n deep,n):=if_pos ⟨rfl,hS0⟩;rw [hw] at ws11;refine aa.use (hB h11 vb (n+1) _ (deep+1) hbd ws11 (by omega) (by omega) (.inl hS0) (by omega) (by omega)) ?_
  rintro _ h12 ⟨n1,p1,ws12,k12,hw1,hw2,hw3,hw4⟩;have hb12:=k12.get hb11 hL1;have kb12:=kb11.trans k12;obtain rfl:=hw1 hS0;refine lx hb12 (j:=8) rfl ?_;rw [asK_int,i64_in (by omega) (by omega)]
  refine aa.use (hE h12 vl n1 _ (deep+1) hel ws12 hw3 hw4 (.inl hS0) (by omega) (by omega)) ?_
  rintro _ h13 ⟨n2,p2,ws13,k13,g1,g2,g3,g4⟩;obtain rfl:=g1 hS0;refine ⟨n2,_,ws13,kb12.trans k13,?_,g3,g4⟩;rw [Aj,if_pos hS0];rfl
end
theorem tL (r:FR):(∃m,r=.ok m)∨∃e,r=.error e:=by cases r with
 |ok m=>exact .inl ⟨m,rfl⟩
 |error e=>exact .inr ⟨e,rfl⟩
section
variable  {ω:Amb}{h0:Hp}{b:Nat}
theorem Pu (l:List St)(h:Hp)(v:Value)(n:Int)(p:Int×Int)(deep:Int)(hs:StS h0 v l)(ws:WS h0 b h n p)(hp:p.1≠0)(X:XT) :
  aa Tryz.prog ω eG [wp b,v,.int .i64 deep] h (fun _ h'=>h'=h) X:=by
 refine eR ω _ _ _ h _ X ?_;unfold cK;refine ⟨fun t h'=>t=.int .i64 0∧h=h',fun _ _=>0,⟨rfl,rfl⟩,?_⟩;rintro _ _ _ ⟨rfl,rfl⟩;refine ⟨false,?_,fun _=>ba rfl rfl⟩;refine (hs.aC ws.k).sl fun _ _=>?_;rw [asK_int];refine ae (fun hc=>?_) (fun hc=>?_)
 ·show ∃v,_;refine ws.code ?_;rw [asK_int];exact ⟨by rw [Qa.2 hp],rfl⟩
 ·exact ⟨rfl,rfl⟩
theorem vX:∀(N:Nat) (l:List St),cc l < N→cc l≤100000→ey l→xY ω h0 b l:=by
 intro N
 induction N with
 |zero=>exact fun l hN=>absurd hN (Nat.not_lt_zero _)
 |succ N ih =>
  intro l hN hle hok h v n p deep hs ws hn0 hn1 hp hd0 hd1 X
  by_cases hp0:p.1≠0
  ·refine aa.use (Pu l h v n p deep hs ws hp0) ?_;rintro _ _ rfl;exact ⟨n,p,ws,ar.refl _ _,fun _=>rfl,fun he=>absurd (by rw [he]) hp0,hn0,hn1⟩
  obtain ⟨rfl,hn3,hdp⟩:=hp.resolve_left hp0;refine eR ω _ _ _ h _ X ?_;unfold cK;have hlen:=pz l;refine ⟨fun t h'=>∃(k:Nat) (n':Int) (p':Int×Int),t=.int .i64 k∧k≤l.length∧WS h0 b h' n' p'∧KB b h h'∧0≤n'∧n'≤301 ∧
   ((p'=(0,0)∧n'≤300∧jk l n deep=jk (l.drop k) n' deep)∨(p'.1≠0∧jk l n deep=.error p')),
   fun t _=>match t with|.int _ k=>l.length - k.toNat|_=>0,⟨0,n,(0,0),rfl,by omega,ws,ar.refl _ _,hn0,hn1,.inl ⟨rfl,hn3,rfl⟩⟩,?_⟩
  rintro _ _ h4 ⟨k,n',p',rfl,hk,ws4,k4,hn40,hn41,hq⟩;refine ⟨decide (k < l.length∧p'.1=0),?_,fun _=>ae (fun hc=>?_) (fun hc=>?_)⟩
  ·refine (hs.aC ws4.k).sl fun _ _=>?_;rw [asK_int];refine ae (fun hc=>?_) (fun hc=>?_)
   ·have:=Qj hc;show ∃v,_;refine ws4.code ?_;rw [asK_int];refine ⟨?_,rfl⟩
    congr 1
    rw [Qz];simp;omega
   ·have:=Qc hc;rw [Z0 (by omega)]
    exact ⟨rfl,rfl⟩
  rotate_left
  ·have hc:=Qc hc;refine ⟨n',p',ws4,k4,fun h=>absurd rfl h,fun _=>?_,hn40,hn41⟩;rcases hq with ⟨rfl,hn',hq⟩|⟨hne,hq⟩
   ·obtain rfl:k=l.length:=by
     rcases Nat.lt_or_ge k l.length with h1|h1
     ·exact absurd ⟨h1,rfl⟩ hc
     ·omega
    rw [hq,Qt];exact ⟨rfl,rfl⟩
   ·rw [hq];rfl
  obtain ⟨hkl,hp1⟩:=Qj hc;obtain ⟨rfl,hn',hq⟩:=hq.resolve_right fun h=>h.1 hp1;have hx:=Q7 hkl;have hdr:=gT hx;have hmem:l[k]∈l:=Qv hkl;generalize l[k]=x at hx hmem hdr;have hxn:=im hmem;have hxe:=jN x;have hxo:=oT hok hmem;obtain ⟨_,_,_,_,hob,hoe⟩:=gl.1 hxo;rw [hdr,kE] at hq;refine hs.zU ws4.k hx fun ve vb vl he hbd hel=>?_;refine aa.use (FK x (by omega) hxo (ih x.body (by omega) (by omega) hob) (ih x.els (by omega) (by omega) hoe) h4 ve vb vl n' deep he hbd hel ws4 hn40 hn' hd0 (hdp (List.ne_nil_of_mem hmem))) ?_
  rintro _ h5 ⟨n2,p2,ws5,k5,hr,g0,g1⟩;have hok1:=Kb x n' deep hn';rw [asK_int,i64_in (by omega) (by omega)]
  refine ⟨⟨k+1,n2,p2,by simp,by omega,ws5,k4.trans k5,g0,g1,?_⟩,by simp;omega⟩
  rcases tL (stF x n' deep) with ⟨m,hm⟩|⟨e,hm⟩
  ·rw [hm] at hr hok1 hq;obtain ⟨rfl,rfl⟩:=hr;exact .inl ⟨rfl,hok1.2,hq⟩
  ·rw [hm] at hr hok1 hq;have hr:p2=e:=hr;subst hr;exact .inr ⟨hok1,hq⟩
theorem DR (x:Sg)(hnm:x.nm.size≤20000)(hps:∀q∈x.ps,okN q.1∧okN q.2)(hpl:x.ps.length≤100)(hle:cc x.body≤100000)(hob:ey x.body)(h:Hp)(vp vb:Value)(n at_:Int)(hvp:PsS h0 vp x.ps)(hbd:StS h0 vb x.body)
  (ws:WS h0 b h n (0,0)) (hn0:0≤n) (hn1:n≤300) (X:XT) :
  aa Tryz.prog ω lD [wp b,.agg (sgC x vp vb).toArray,.int .i64 at_] h (fun _ h'=>∃n' p',WS h0 b h' n' p'∧KB b h h'∧P3 (if sgH x≠0 then .error (sgH x,at_) else jk x.body n 1) n' p'∧0≤n'∧n'≤301) X:=by
 refine lO ω _ _ _ h _ X ?_;unfold eF;simp only [show Value.cells (.agg (sgC x vp vb).toArray)=(sgC x vp vb).toArray from rfl]
 have hblt:=ws.blt;have hb1:=ah (h:=h) (o:=.cells (sgC x vp vb).toArray 41 (0,0));have kp:=ar.push (S:=fun _=>False) h (.cells (sgC x vp vb).toArray 41 (0,0));generalize h.push (.cells (sgC x vp vb).toArray 41 (0,0))=h1 at *;have ws1:=ws.aC kp;have kb1:=KB.of (b:=b) kp;have hL1:h.size≠b:=by omega
 refine lx hb1 (j:=0) rfl ?_;refine aa.use (tn x.nm hnm h1) ?_;rintro _ _ ⟨rfl,rfl⟩;rw [asB_bool];refine ⟨_,dV ws1 (by decide) X,?_⟩
 rintro _ h2 ⟨ws2,k2⟩;have hb2:=k2.get hb1 hL1;have kb2:=kb1.trans k2;refine lx hb2 (j:=2) rfl ?_;refine bm.sl (hvp.1.aC ws2.k) fun _ _=>?_;rw [show decide ((x.ps.length:Int) > 6)=decide (6 < x.ps.length) by rw [Qz];simp;omega]
 refine ⟨_,dV ws2 (by decide) X,?_⟩
 rintro _ h3 ⟨ws3,k3⟩;have hb3:=k3.get hb2 hL1;have kb3:=kb2.trans k3;rw [kZ] at ws3;generalize hacc:orF (if (!aL x.nm)=true then 4 else 0) (if decide (6 < x.ps.length)=true then 8 else 0)=acc at ws3
 have hH:sgH x=orF acc (rV x.ps):=by rw [←hacc,cT];rfl
 have hz:∀c:Int,(wst (0,0) c at_).1=0↔c=0:=fun c=>by
  unfold wst
  by_cases hc:c=0<;>simp [hc]
 refine ⟨fun t h'=>∃k:Nat,t=.int .i64 k∧k≤x.ps.length∧WS h0 b h' n (wst (0,0) (orF acc (rV (x.ps.take k))) at_)∧KB b h3 h' ,
  fun t _=>match t with|.int _ k=>x.ps.length - k.toNat|_=>0,⟨0,rfl,by omega,by simpa [rV,DF] using ws3,ar.refl _ _⟩,?_⟩
 rintro _ _ h4 ⟨k,rfl,hk,ws4,k4⟩;have hb4:=k4.get hb3 hL1;have kb4:=kb3.trans k4;refine ⟨decide (k < x.ps.length∧orF acc (rV (x.ps.take k))=0),?_,fun _=>ae (fun hc=>?_) (fun hc=>?_)⟩
 ·refine lx hb4 (j:=2) rfl ?_;refine bm.sl (hvp.1.aC ws4.k) fun _ _=>?_;rw [asK_int];refine ae (fun hc=>?_) (fun hc=>?_)
  ·have:=Qj hc;show ∃v,_;refine ws4.code ?_;rw [asK_int];refine ⟨?_,trivial⟩
   congr 1
   rw [Qz];simp only [beq_iff_eq,decide_eq_true_eq,hz];exact ⟨fun h=>⟨by omega,h⟩,fun h=>h.2⟩
  ·have:=Qc hc;rw [Z0 (fun h=>this (by have:=h.1;omega))]
   exact ⟨rfl,trivial⟩
 ·obtain ⟨hkl,_⟩:=Qj hc;have hy:=Q7 hkl;have hqm:x.ps[k]∈x.ps:=Qv hkl;generalize x.ps[k]=q at hy hqm;obtain ⟨hq1,hq2⟩:=hps q hqm;have hq1:q.1.size≤20000:=Nat.le_trans hq1 (by omega)
  have hq2:q.2.size≤20000:=Nat.le_trans hq2 (by omega)
  refine ⟨fun h'=>WS h0 b h' n (wst (0,0) (orF acc (rV (x.ps.take (k+1)))) at_)∧KB b h3 h',?_,?_⟩
  ·refine lx hb4 (j:=2) rfl ?_;refine bm.rdT (f:=pf) (hvp.1.aC ws4.k) ic hy (o:=0) rfl ?_;refine aa.use (tn q.1 hq1 h4) ?_;rintro _ _ ⟨rfl,rfl⟩;rw [asB_bool];refine ⟨_,dV ws4 (by decide) X,?_⟩
   rintro _ h5 ⟨ws5,k5⟩;have hb5:=k5.get hb4 hL1;refine lx hb5 (j:=2) rfl ?_;refine bm.rdT (f:=pf) (hvp.1.aC ws5.k) ic hy (o:=1) rfl ?_;refine aa.use (CG q.2 3 hq2 h5) ?_;rintro _ _ ⟨rfl,rfl⟩;rw [asB_bool];refine ⟨_,dV ws5 (by decide) X,?_⟩
   rintro _ h6 ⟨ws6,k6⟩;rw [kZ,kZ,cT] at ws6;rw [aZ hy,zt,prF,←cT acc];rw [←cT acc] at ws6;exact ⟨ws6,(k4.trans k5).trans k6⟩
  ·rintro _ h7 ⟨ws7,k7⟩;rw [asK_int,i64_in (by omega) (by omega)]
   exact ⟨⟨k+1,by simp,by omega,ws7,k7⟩,by simp;omega⟩
 ·have hc:=Qc hc;have hfin:orF acc (rV (x.ps.take k))=sgH x:=by
   rcases Nat.lt_or_ge k x.ps.length with h1|h1
   ·have hne:orF acc (rV (x.ps.take k))≠0:=fun h=>hc ⟨h1,h⟩;have:=tN (x.ps.take k) (x.ps.drop k);rw [Q8] at this;rw [hH,this,←cT,tT hne]
   ·obtain rfl:k=x.ps.length:=by omega
    rw [Qo,hH]
  rw [hfin] at ws4;refine lx hb4 (j:=3) rfl ?_
  by_cases hS:sgH x=0
  ·rw [hS,Gi] at ws4;refine aa.use (vX _ x.body (Qw _) hle hob h4 vb n (0,0) 1 hbd ws4 hn0 (by omega) (.inr ⟨rfl,hn1,fun _=>by decide⟩) (by decide) (by decide)) ?_
   rintro _ h5 ⟨n2,p2,ws5,k5,_,g2,g3,g4⟩;refine ⟨n2,p2,ws5,kb4.trans k5,?_,g3,g4⟩;rw [if_neg (fun h=>h hS)];exact g2 rfl
  ·have hw:wst (0,0) (sgH x) at_=(sgH x,at_):=if_pos ⟨rfl,hS⟩;rw [hw] at ws4;refine aa.use (vX _ x.body (Qw _) hle hob h4 vb n _ 1 hbd ws4 hn0 (by omega) (.inl hS) (by decide) (by decide)) ?_
   rintro _ h5 ⟨n2,p2,ws5,k5,g1,_,g3,g4⟩;refine ⟨n2,p2,ws5,kb4.trans k5,?_,g3,g4⟩;rw [if_pos hS];exact g1 hS
theorem FP (p:List Sg)(hsm:Small p)(v:Value)(h:Hp)(hp:PgS h v p)(X:XT) :
  aa Tryz.prog ω vf [v] h (fun r h'=>r=.agg (flt (ji (bC p)).1 (ji (bC p)).2).toArray∧KF h h') X:=by
 obtain ⟨w0,rfl,hs⟩:=hp;refine vH ω _ h _ X ?_;unfold qo gm ct;simp only [show Value.cells (.agg #[w0])=[w0].toArray from rfl]
 have hlen:=hsm.len;have hb0:=ah (h:=h) (o:=.cells [w0].toArray 24 (0,0));have k0:=ar.push (S:=fun _=>False) h (.cells [w0].toArray 24 (0,0));have z0:(h.push (.cells [w0].toArray 24 (0,0))).size=h.size+1:=by simp
 generalize h.push (.cells [w0].toArray 24 (0,0))=h1 at *;have hb1:=ah (h:=h1) (o:=.cells (flt 0 0).toArray 28 (0,0));have k1:=ar.push (S:=fun _=>False) h1 (.cells (flt 0 0).toArray 28 (0,0));have z1:(h1.push (.cells (flt 0 0).toArray 28 (0,0))).size=h1.size+1:=by simp
 simp only [show (Obj.cells #[(.int .i64 0),(.int .i64 0)] 28 (0,0))=Obj.cells (flt 0 0).toArray 28 (0,0) from rfl]
 generalize h1.push (.cells (flt 0 0).toArray 28 (0,0))=h2 at *;have hb2:=ah (h:=h2) (o:=.cells #[(.int .i64 0),(.int .i64 0),(.int .i64 0)] 116 (0,0));have k2:=ar.push (S:=fun _=>False) h2 (.cells #[(.int .i64 0),(.int .i64 0),(.int .i64 0)] 116 (0,0));generalize h2.push (.cells #[(.int .i64 0),(.int .i64 0),(.int .i64 0)] 116 (0,0))=h3 at *;have hs2:=hs.aC (k0.trans k1);have ws3:WS h2 h2.size h3 0 (0,0):=⟨k2,Zd _,hb2⟩
 have hb0:=(k1.trans k2).get hb0 (by simp)
 have hb1:=k2.get hb1 (by simp)
 have hL0:h.size≠h2.size:=by omega
 have hL1:h1.size≠h2.size:=by omega
 refine lx hb0 (j:=0) rfl ?_;refine (hs2.aC k2).sl fun _ _=>?_;refine ⟨_,dV ws3 (by decide) X,?_⟩
 rintro _ h4 ⟨ws4,k4⟩;have hb04:=k4.get hb0 hL0;refine lx hb04 (j:=0) rfl ?_;refine (hs2.aC ws4.k).sl fun _ _=>?_;refine ⟨_,dV ws4 (by decide) X,?_⟩
 rintro _ h5 ⟨ws5,k5⟩;rw [kZ] at ws5;have k35:=k4.trans k5;refine ⟨fun t h'=>∃(k:Nat) (n':Int) (p':Int×Int),t=.int .i64 k∧k≤p.length∧WS h2 h2.size h' n' p'∧KB h2.size h3 h'∧0≤n'∧n'≤301 ∧
   ((p'=(0,0)∧n'≤300∧bC p=uZ (p.drop k) k n')∨(p'.1≠0∧bC p=.error p')),
   fun t _=>match t with|.int _ k=>p.length - k.toNat|_=>0,⟨0,0,_,rfl,by omega,ws5,k35,by decide,by decide,?_⟩,?_⟩
 ·unfold bC
  by_cases h0:p.length=0
  ·refine .inr ⟨?_,?_⟩
   ·simp [h0,wst,orF]
   ·rw [if_pos h0];simp [h0,wst,orF]
  ·by_cases h10:10 < p.length
   ·have h10':(10:Int) < p.length:=by omega
    refine .inr ⟨?_,?_⟩
    ·simp [h0,h10',wst,orF]
    ·rw [if_neg h0,if_pos h10];simp [h0,h10',wst,orF]
   ·have h10':¬(10:Int) < p.length:=by omega
    refine .inl ⟨?_,by decide,?_⟩
    ·simp [h0,h10',wst,orF]
    ·rw [if_neg h0,if_neg h10];rfl
 clear ws3 ws4 ws5 k4 k5 k35 hb04;rintro _ _ h6 ⟨k,n',p',rfl,hk,ws6,k6,hn0,hn1,hq⟩;have hb06:=k6.get hb0 hL0;have hb16:=k6.get hb1 hL1;refine ⟨decide (k < p.length∧p'.1=0),?_,fun _=>ae (fun hc=>?_) (fun hc=>?_)⟩
 ·refine lx hb06 (j:=0) rfl ?_;refine (hs2.aC ws6.k).sl fun _ _=>?_;rw [asK_int];refine ae (fun hc=>?_) (fun hc=>?_)
  ·have:=Qj hc;refine ws6.code ?_;rw [asK_int];refine ⟨?_,trivial⟩
   congr 1
   rw [Qz];simp;omega
  ·have:=Qc hc;rw [Z0 (by omega)]
   exact ⟨rfl,trivial⟩
 rotate_left
 ·have hc:=Qc hc;have hfin:ji (bC p)=p':=by
   rcases hq with ⟨rfl,hn',hq⟩|⟨hne,hq⟩
   ·obtain rfl:k=p.length:=by
     rcases Nat.lt_or_ge k p.length with h1|h1
     ·exact absurd ⟨h1,rfl⟩ hc
     ·omega
    rw [hq,Qt];rfl
   ·rw [hq];rfl
  rw [hfin];refine ⟨flt p'.1 p'.2,⟨rfl,fun j u hu=>?_⟩,rfl,bu _ _,zd hb16 rfl rfl fun h' kk hb'=>⟨rfl,?_⟩⟩
  ·rw [aP,aP,bi ws6.wk]
   match j,hu with
   |0,hu=>exact hu
   |1,hu=>exact hu
   |j+2,hu=>simp [flt] at hu
  ·refine GW (GW ((k0.trans k1).trans k2) (by omega) k6) (L:=h1.size) (by omega) kk
 obtain ⟨hkl,hp1⟩:=Qj hc;obtain ⟨rfl,hn',hq⟩:=hq.resolve_right fun h=>h.1 hp1;have hx:=Q7 hkl;have hdr:=gT hx;have hmem:p[k]∈p:=Qv hkl;generalize p[k]=x at hx hmem hdr;obtain ⟨hnm,hpl,hpn,hbo⟩:=hsm.nm x hmem;have hnm:x.nm.size≤20000:=Nat.le_trans hnm (by omega)
 have hxb:cc x.body≤20000:=Nat.le_trans (ue hmem) hsm.tot;rw [hdr] at hq;have hq:bC p=if sgH x≠0 then .error (sgH x,-2 - k) else rO (jk x.body n' 1) fun n=>uZ (p.drop (k+1)) (k+1) n:=hq
 refine lx hb06 (j:=0) rfl ?_;refine hs2.zU ws6.k hx fun vp vb hps hbd=>?_;rw [asK_int,i64_in (by omega) (by omega)]
 refine aa.use (DR x hnm hpn hpl (by omega) hbo h6 vp vb n' (-2 - k) hps hbd ws6 hn0 hn') ?_
 rintro _ h7 ⟨n2,p2,ws7,k7,hr,g0,g1⟩;rw [asK_int,i64_in (by omega) (by omega)]
 refine ⟨⟨k+1,n2,p2,by simp,by omega,ws7,k6.trans k7,g0,g1,?_⟩,by simp;omega⟩
 by_cases hS:sgH x=0
 ·rw [if_neg (fun h=>h hS)] at hr hq;have hok1:=kg x.body n' 1 hn';rcases tL (jk x.body n' 1) with ⟨m,hm⟩|⟨e,hm⟩
  ·rw [hm] at hr hok1 hq;obtain ⟨rfl,rfl⟩:=hr;exact .inl ⟨rfl,hok1.2,hq⟩
  ·rw [hm] at hr hok1 hq;have hr:p2=e:=hr;subst hr;exact .inr ⟨hok1,hq⟩
 ·rw [if_pos hS] at hr hq;have hr:p2=(sgH x,-2 - (k:Int)):=hr;subst hr;exact .inr ⟨hS,hq⟩
end
end Go.Proofs.YtkeeboomikkojaaGreatDoor
