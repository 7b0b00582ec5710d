import Derived.Test.YtkeeboomikkojaaGreatDoorSxEff
import Derived.Lib.ConvBytes
import Derived.MapKept
namespace Go.Sx
variable  {P:Program}{ω:Amb}
def dX (P:Program)(ω:Amb)(K:RT)(X:XT):Result Next→Prop
 |.ok (.value v) w'=>(∃d',w'=W ω w'.heap d')∧K v w'.heap
 |.ok .skip w'=>(∃d',w'=W ω w'.heap d')∧K undef w'.heap
 |.ok (.enter f args) w'=>(∃d',w'=W ω w'.heap d')∧aa P ω f args.toList w'.heap K X
 |.halt (.panic v) w'=>(∃d',w'=W ω w'.heap d')∧X [{ v:=v,recovered:=false }] w'.heap
 |_=>False
theorem bi {h:Hp}{b:Nat}{cur:Array Value}{t:TypeId}{fr:Nat×Nat}(hb:h[b]?=some (.cells cur t fr))(o:Nat):af h ⟨b,o,none⟩=cur[o]?:=by
 simp [af,hb]
theorem addr_eq {a:Addr}(h:a.spot=none):a=⟨a.block,a.off,none⟩:=by cases a;simp_all
theorem aP (b o n:Nat):(⟨b,o,none⟩:Addr).add n=⟨b,o+n,none⟩:=by unfold Addr.add;split<;>simp_all
theorem xH (h:Hp)(d g:Nat)(cur cs:Array Value)(t:TypeId)(fr:Nat×Nat)(hb:h[g]?=some (.cells cur t fr)) :
  (W ω h d).setRow g cs=W ω (h.setIfInBounds g (.cells cs t fr)) d:=by
 have hlt:g < h.size:=(Array.getElem?_eq_some_iff.1 hb).1;have hv:h[g]=.cells cur t fr:=(Array.getElem?_eq_some_iff.1 hb).2;simp only [World.setRow,W]
 congr 1
 apply Array.ext
 ·simp
 ·intro i h1 h2;rw [Array.getElem_modify,Array.getElem_setIfInBounds (by simpa using h2)]
  split
  ·subst_vars;simp [hv]
  ·rfl
theorem gR {h:Hp}{a:Addr}{cs:List Value}{K:Hp→Prop}(h1:∀u∈cs,one u)(hk:av h a cs K) :
  ∃h',K h'∧∀d,(storeCells a cs).run P (W ω h d)=.ok () (W ω h' d):=by
 obtain ⟨cur,t,hb,hs,hl,hk⟩:=hk;refine ⟨_,hk,fun d=>?_⟩;have:=run_storeCells_at P a.block a.off t cs 0 cur (W ω h d) hb (by simpa using hl) h1
 rw [←addr_eq hs] at this;rw [this,xH h d a.block cur _ t (0,0) hb];simp [spl]
theorem yY {h:Hp}{g o:Nat}{cur:Array Value}{e:TypeId}{m:Nat}{xs:List Value}(hg:h[g]?=some (.cells cur e (0,0)))(hx:(cur.toList.drop o).take m=xs) :
  ∀j u,xs[j]?=some u→af h ((⟨g,o,none⟩:Addr).add j)=some u:=by
 intro j u hu;rw [aP,bi hg];rw [←hx,Qh] at hu
 split at hu
 ·rw [Qi] at hu;simpa using hu
 ·cases hu
theorem Ee {t ty:TypeId}{h:Hp}{s x:Value}{K:RT}(hk:x2 P t h s x K)(d:Nat) :
  ∃v w',(Builtin.append_ #[t,t] ty #[s,x]).run P (W ω h d)=.ok v w'∧(∃d',w'=W ω w'.heap d')∧K v w'.heap:=by
 unfold x2 at hk
 split at hk<;>try cases hk
 rename_i el hu
 split at hk<;>try cases hk
 rename_i i hi
 split at hk<;>try cases hk
 rename_i z hz;cases hc:(z.cells.size==i.size&&Nat.blt 0 i.size) with
 |false=>rw [hc] at hk;exact hk.elim
 |true =>
  rw [hc] at hk;simp only [Qq,beq_iff_eq,Nat.blt_eq] at hc;obtain ⟨base,n,xs,m,news,hown,⟨hl,hnews⟩,h1,h63,hby,hbase,hk⟩:=hk;have hsz0:0 < i.size:=hc.2;rcases hnews with ⟨rfl,rfl⟩|⟨a,c,rfl,hnews⟩
  ·-- nothing is appended
   have hn:news=[]:=List.eq_nil_of_length_eq_zero (by simpa using hl)
   subst hn;refine ⟨s,W ω h d,?_,⟨d,rfl⟩,hk s h (by simpa using hown) ⟨Zd _,fun _ _ _=>rfl⟩ (by simp) (fun k hk=>.inl hk)⟩
   rcases hown.2 with ⟨rfl,rfl⟩|⟨g,o,cap,cur,rfl,_,_,hnc,_⟩
   ·simp [Builtin.append_,run_underlying hu,cM _ _ i hi,Builtin.lenOf,Builtin.firstCells]
   ·simp [Builtin.append_,run_underlying hu,cM _ _ i hi,Builtin.lenOf,Builtin.firstCells,hnc,storeCells]
  ·have hsmall:n+m≤9223372036854775807:=by simp only [maxLen] at h63;omega
   have hlen:(xs++news).length=(n+m)*i.size:=by rw [Qd,hown.1,hl,Nat.add_mul]
   -- a new row
   have grown:∀(old:Nat),old < n+m →
     bX (h.push (.cells (xs.toArray++news.toArray++Builtin.zeroCells z.cells (grownCap (W ω h d) (n+m) old el - (n+m))) el)) base el i.size
      (.slice (some ⟨h.size,0,none⟩) (n+m) (grownCap (W ω h d) (n+m) old el)) (n+m) (xs++news):=by
    intro old ho;have hge:=grownCap_ge (W ω h d) (n+m) old el;have hcm:=grownCap_le_maxLen (W ω h d) (n+m) old el h63;refine ⟨hlen,.inr ⟨h.size,0,_,_,rfl,hbase,Array.getElem?_push_size,hge,hcm,?_,?_⟩⟩
    ·simp only [Array.size_append,List.size_toArray,size_zeroCells,hc.1,hown.1,hl,←Nat.add_mul];rw [show n+m+(grownCap (W ω h d) (n+m) old el - (n+m))=grownCap (W ω h d) (n+m) old el by omega]
     omega
    ·simp only [Array.toList_append,Qk,List.drop_zero];rw [←Qk,←hlen];exact List.take_left
   have gh:∀o (row:Option Nat),zV h (h.push o) row:=fun o row=>⟨by simp,fun k hk _=>by rw [Array.getElem?_push,if_neg (by omega)]⟩
   rcases hown.2 with ⟨rfl,rfl⟩|⟨g,o,cap,cur,rfl,hbg,hg,hnc,hcm,hcs,htake⟩
   ·have hx:xs=[]:=List.eq_nil_of_length_eq_zero (by simpa using hown.1)
    subst hx
    by_cases hm:m=0
    ·subst hm;have hn:news=[]:=List.eq_nil_of_length_eq_zero (by simpa using hl)
     subst hn;refine ⟨.slice none 0 0,W ω h d,?_,⟨d,rfl⟩,hk _ h (by simpa using hown) ⟨Zd _,fun _ _ _=>rfl⟩ (by simp) (fun k hk=>.inl hk)⟩
     simp [Builtin.append_,run_underlying hu,cM _ _ i hi,Builtin.lenOf,Builtin.firstCells,loadCells,loadCellsFrom]
    ·have hr:=run_append_nil (P:=P) (W ω h d) t ty el i z hu hi hz a m c news hl hnews (by omega) (by omega) (by have hb:=hby;simp only [Zc] at hb;omega)
     have hgr:=grown 0 (by omega)
     simp only [Zc,Z4,Array.empty_append] at hgr hk;exact ⟨_,_,hr,⟨d+1,rfl⟩,hk _ _ hgr (gh _ _) (by simp [hm]) (fun k hk=>.inr (by simp only [Value.ownBlock,Option.some.injEq] at hk;rw [←hk];exact Zd _))⟩
   ·by_cases hroom:n+m≤cap
    ·have hf:=run_firstCells_some (P:=P) (W ω h d) i.size m a m c news hl hnews;have hmul:(n+m)*i.size≤cap*i.size:=Nat.mul_le_mul_right _ hroom;have hfit:o+n*i.size+0+news.length≤cur.size:=by rw [hl];rw [Nat.add_mul] at hmul;omega
     have hst:=run_storeCells_at P g (o+n*i.size) el news 0 cur (W ω h d) hg hfit h1;rw [Nat.add_zero] at hst;have hrow:=xH (ω:=ω) h d g cur (cur.toList.take (o+n*i.size)++news++cur.toList.drop (o+n*i.size+news.length)).toArray el (0,0) hg;rw [hrow] at hst;refine ⟨_,W ω (h.setIfInBounds g (.cells (cur.toList.take (o+n*i.size)++news++cur.toList.drop (o+n*i.size+news.length)).toArray el)) d,?_,⟨d,rfl⟩,hk (.slice (some ⟨g,o,none⟩) (n+m) cap) (h.setIfInBounds g (.cells (cur.toList.take (o+n*i.size)++news++cur.toList.drop (o+n*i.size+news.length)).toArray el)) ?_ ?_ (by simp) (fun k hk=>.inl hk)⟩
     ·simp [Builtin.append_,run_underlying hu,cM _ _ i hi,Builtin.lenOf,hroom,hf,aP,hst]
     ·have hlt:g < h.size:=(Array.getElem?_eq_some_iff.1 hg).1;refine ⟨hlen,.inr ⟨g,o,cap,(cur.toList.take (o+n*i.size)++news++cur.toList.drop (o+n*i.size+news.length)).toArray,rfl,hbg,by rw [Array.getElem?_setIfInBounds_self_of_lt hlt],hroom,hcm,?_,?_⟩⟩
      ·simp only [List.size_toArray,Qd,Qp,Qs,Array.length_toList];omega
      ·have hcl:cur.toList.length=cur.size:=Array.length_toList;have hm2:n*i.size+m*i.size≤cap*i.size:=by rw [←Nat.add_mul];exact hmul
       simp only;rw [Qk,Q1 (by rw [Qp,hcl];omega)]
       have e1:(List.take (o+n*i.size) cur.toList).drop o=xs:=by
        rw [List.drop_take,←htake]
        congr 1;omega
       rw [e1,←Qk,←hlen];exact List.take_left
     ·exact ⟨by simp,fun k hk hne=>by
       rw [Array.getElem?_setIfInBounds_ne];intro e;exact hne (by simp [Value.ownBlock,e])⟩
    ·have hr:=run_append_grow (P:=P) (W ω h d) t ty el i z hu hi hz ⟨g,o,none⟩ n cap xs hown.1 (yY hg htake) a m c news hl hnews (by omega) (by omega) (growslice_fits (by omega) hby)
     exact ⟨_,_,hr,⟨d+1,rfl⟩,hk _ _ (grown cap (by omega)) (gh _ _) (by simp) (fun k hk=>.inr (by simp only [Value.ownBlock,Option.some.injEq] at hk;rw [←hk];exact Zd _))⟩
theorem DX (z:Array Value)(n:Nat):Builtin.zeroCells z n=cD z.toList n:=by simp [Builtin.zeroCells,cD]
theorem AV {t:TypeId}{h:Hp}{l c:Value}{K:RT}(hk:Mp P t h l c K)(d:Nat) :
  ∃v h',(Instr.makeSlice t l c).run P (W ω h d)=.ok v (W ω h' d)∧K v h':=by
 unfold Mp at hk
 split at hk<;>try cases hk
 rename_i el hu
 split at hk<;>try cases hk
 rename_i i hi
 split at hk<;>try cases hk
 rename_i z hz;cases hc:(z.cells.size==i.size) with
 |false=>rw [hc] at hk;exact hk.elim
 |true =>
  rw [hc] at hk;have hzs:z.cells.size=i.size:=by simpa using hc
  obtain ⟨k1,n,rfl,hk⟩:=j4 hk;obtain ⟨k2,m,rfl,rfl,h0,h63,hby,hk⟩:=j4 hk;refine ⟨_,_,?_,hk⟩;have hw:IntKind.i64.wrap n=n:=by rw [IntKind.wrap_i64];omega
  have e1:¬(n < 0):=by omega
  have e2:¬((i.bytes:Int)*n > 281474976710656):=by omega
  have e2':¬(281474976710656 < (i.bytes:Int)*n):=by omega
  simp only [Instr.makeSlice,Sem.run_bind,run_underlying hu,asInt,asIntOf,Sem.run_pure,Result.andThen_ok,typeInfo,run_program,hi,hw,Sem.run_ite,run_askRoom,cM _ _ i hi];have e3:(decide (n < 0)||decide ((i.bytes:Int)*n > 2 ^ 48))=false:=by simp;omega
  have e4:(decide (n < 0)||decide (n > n))=false:=by simp;omega
  simp only [e3,Za,e4,Bool.false_eq_true,if_false]
  by_cases hz0:n.toNat*i.size=0
  ·rw [if_pos hz0];simp only [newRow,Sem.run_bind,run_newObj,Result.andThen_ok,Sem.run_pure];have:(Array.map (fun x=>(#[]:Array Value)[x % (#[]:Array Value).size]!) (Array.range (n.toNat*i.size)))=cD z.cells.toList n.toNat:=by simp [hz0,cD,hzs]
   rw [this];rfl
  ·rw [if_neg hz0];have hzv:(zeroValue el).run P (W ω h d)=.ok z (W ω h d):=by simp [zeroValue,typeInfo,hi,hz]
   simp only [hzv,newRow,Sem.run_bind,run_newObj,Result.andThen_ok,Sem.run_pure];have:(Array.map (fun x=>z.cells[x % z.cells.size]!) (Array.range (n.toNat*i.size)))=cD z.cells.toList n.toNat:=by simp [cD,hzs]
   rw [this];rfl
theorem BJ {dT sT ty:TypeId}{h:Hp}{dst src:Value}{K:RT}(hk:MO P dT h dst src K)(d:Nat) :
  ∃v h',(Builtin.copy_ #[dT,sT] ty #[dst,src]).run P (W ω h d)=.ok v (W ω h' d)∧K v h':=by
 unfold MO at hk
 split at hk<;>try cases hk
 rename_i el hu;obtain ⟨i,hi,hk⟩:=uu hk;obtain ⟨a,dl,dc,rfl,hk⟩:=zs hk;obtain ⟨b,sl,sc,rfl,cs,hl,hsrc,h1,hst⟩:=pC hk;obtain ⟨h',hk,hrun⟩:=gR (P:=P) (ω:=ω) h1 hst;refine ⟨_,h',?_,hk⟩;cases b with
 |none =>
  simp only at hsrc;subst hsrc;have:cs=[]:=List.eq_nil_of_length_eq_zero (by simpa using hl)
  subst this;have hr:=hrun d;simp [Builtin.copy_,run_underlying hu,Builtin.lenOf,Builtin.firstCells,cM _ _ i hi,hr,goInt]
 |some b =>
  have hlc:=run_loadCells_list (P:=P) (w:=W ω h d) b cs hsrc;rw [hl] at hlc;simp [Builtin.copy_,run_underlying hu,Builtin.lenOf,Builtin.firstCells,cM _ _ i hi,hlc,hrun d,goInt]
theorem sF {t:TypeId}{z:List Value}(h:zeroOf P t=some z)(w:World):∃v,(zeroValue t).run P w=.ok v w∧v.cells.toList=z:=by
 unfold zeroOf at h
 split at h<;>try cases h
 rename_i i hi
 split at h<;>cases h
 rename_i v hv;exact ⟨v,by simp [zeroValue,typeInfo,hi,hv],rfl⟩
theorem Bj {z:List Value}(h:∀u∈z,one u)(n:Nat):∀u∈(cD z n).toList,one u:=by
 intro u hu;simp only [cD,Array.toList_map,List.mem_map,Array.mem_toList_iff] at hu;obtain ⟨i,hi,rfl⟩:=hu;have hz:0 < z.length:=by
  rcases Nat.eq_zero_or_pos z.length with hz|hz
  ·rw [hz] at hi;simp at hi
  ·exact hz
 have hlt:=Nat.mod_lt i hz;rw [getElem!_pos z.toArray _ (by simpa using hlt)]
 exact h _ (by simp)
theorem dX.value {s:Sem Value}{K:RT}{X:XT}{d:Nat}{h:Hp}{v:Value}{h':Hp}
  (hr:s.run P (W ω h d)=.ok v (W ω h' d)) (hk:K v h'):dX P ω K X ((do pure (Next.value (←s)):Sem Next).run P (W ω h d)):=by
 simp only [Sem.run_bind,hr,Result.andThen_ok,Sem.run_pure,dX];exact ⟨⟨d,rfl⟩,hk⟩
theorem dX.unit {s:Sem Unit}{K:RT}{X:XT}{d:Nat}{h:Hp}{h':Hp}
  (hr:s.run P (W ω h d)=.ok () (W ω h' d)) (hk:K undef h'):dX P ω K X ((do s;pure Next.skip:Sem Next).run P (W ω h d)):=by
 simp only [Sem.run_bind,hr,Result.andThen_ok,Sem.run_pure,dX];exact ⟨⟨d,rfl⟩,hk⟩
theorem Bk {h:Hp}{a:Addr}{v:Value}{K:Hp→Prop}(h1:one v)(hk:aJ h a v K) :
  ∃h',K h'∧∀d,(storeCells a [v]).run P (W ω h d)=.ok () (W ω h' d):=by
 obtain ⟨cur,t,hb,hs,hl,hk⟩:=hk;refine ⟨_,hk,fun d=>?_⟩;have:=run_storeCells_at P a.block a.off t [v] 0 cur (W ω h d) hb (by simp;omega) (by simpa using (show v.oneCell'=true from h1))
 rw [←addr_eq hs] at this;rw [this,xH h d a.block cur _ t (0,0) hb]
 congr 3
 congr 1
 apply Array.ext';simp only [Array.toList_setIfInBounds,Nat.add_zero];rw [List.set_eq_take_append_cons_drop,if_pos (by simpa using hl)]
 simp
theorem A9 {fv:Value}{args:Array Value}{h:Hp}{K:RT}{X:XT}(hk:F0 P ω fv args.toList h K X)(d:Nat) :
  dX P ω K X ((do let t←Deferred.ofValue fv args;invoke t.target t.args:Sem Next).run P (W ω h d)):=by
 unfold F0 at hk
 split at hk
 ·rename_i f first captured;cases hc:yu P f with
  |false=>rw [hc] at hk;exact hk.elim
  |true =>
   rw [hc] at hk;unfold yu at hc
   split at hc
   ·rename_i fn hfn;simp only [Qq,Ze,ne_eq] at hc;have hb:fn.body.isNone=false:=by cases hb:fn.body<;>simp_all
    have hn : (fn.name == "runtime.NumGoroutine") = false := by simpa using hc.1
    simp only [Deferred.ofValue,Sem.run_bind,Sem.run_pure,Result.andThen_ok,invoke,callFunc,run_program,hfn,hn,hb,Bool.false_eq_true,if_false,dX];refine ⟨⟨d,rfl⟩,?_⟩;have:(first++args++captured).toList=first.toList++(args.toList++captured.toList):=by simp
    rw [this];exact hk
   ·cases hc
 ·cases hk
theorem zF {t ty:TypeId}{h:Hp}{x:Value}{K:RT}(hk:E0 P t h x K)(d:Nat) :
  ∃v h',(Builtin.clear_ #[t] ty #[x]).run P (W ω h d)=.ok v (W ω h' d)∧K v h':=by
 unfold E0 at hk
 split at hk<;>try cases hk
 rename_i el hu
 split at hk<;>try cases hk
 rename_i z hz;cases hone:(z.all fun v=>v.oneCell') with
 |false=>rw [hone] at hk;exact hk.elim
 |true =>
  rw [hone] at hk;obtain ⟨a,n,c,rfl,hk1⟩:=pC hk;cases a with
  |none=>exact ⟨_,h,by simp [Builtin.clear_,run_underlying hu],hk1⟩
  |some a =>
   obtain ⟨v,hv,hvz⟩:=sF hz (W ω h d);obtain ⟨h',hk2,hr⟩:=gR (P:=P) (ω:=ω) (Bj (by simpa [one] using hone) n) hk1
   refine ⟨_,h',?_,hk2⟩;cases n with
   |zero =>
    have:=hr d;have he:(cD z 0).toList=[]:=by simp [cD]
    rw [he] at this;have hh:W ω h d=W ω h' d:=by simpa [storeCells] using this
    rw [←hh];simp [Builtin.clear_,run_underlying hu]
   |succ n =>
    have hzr:(Builtin.zeroCells v.cells (n+1))=cD z (n+1):=by rw [DX,hvz]
    simp [Builtin.clear_,run_underlying hu,hv,hzr,hr d]
theorem NN {α:Type}{a:Array α}{x y:α}(h:a.toList=[x,y]):a=#[x,y]:=by apply Array.ext';simpa using h
theorem Ps {α:Type}{a:Array α}{x:α}(h:a.toList=[x]):a=#[x]:=by apply Array.ext';simpa using h
theorem qq {t:TypeId}{ag:Option Nat}(h:rY P t=some ag)(w:World):(Go.sizeOf t).run P w=.ok (ag.getD 1) w:=by
 obtain ⟨i,hi,hs⟩:=sG h;rw [cM t w i hi,hs]
theorem yA {src t:TypeId}{o:Oper}{y:Operand}{h:Hp}{x:Value}{K:RT}(hqt:lH P o.op=false)(hop:o.op=.convert src t y)(hk:yX P src t h x K)(d:Nat) :
  ∃v w',(convert src t x).run P (W ω h d)=.ok v w'∧(∃d',w'=W ω w'.heap d')∧K v w'.heap:=by
 unfold yX at hk
 split at hk<;>try cases hk
 rename_i u el hs hu
 split at hk<;>try cases hk
 rename_i he;obtain ⟨s,rfl,hk⟩:=iO hk;refine ⟨_,_,Lib.run_convert_string_bytes (W ω h d) src t el s hs hu he,⟨d+1,rfl⟩,?_⟩;exact hk _ _ (by rw [Lib.bytesWorld_size];exact Nat.le_succ _) (fun k hk'=>Lib.bytesWorld_at_old (W ω h d) el s k hk') (fun j hj=>Lib.bytesWorld_cell (W ω h d) el s j hj)
theorem Gz {v:Value}{F:Nat→Prop}(h:asM v F):∃b,v=.map (some b)∧F b:=by
 cases v with
 |map r=>cases r<;>first|exact ⟨_,rfl,h⟩|cases h
 |_=>cases h
theorem sr {s:ByteArray}:∀{es:List MapEntry} {j i:Nat} {v:Value},Instr.findNow .string (.string s) es j=some (some (i,v))→j≤i∧∃e,es[i - j]?=some e∧Instr.sameNow .string (.string s) e.key=some true
 |[],_,_,_,h=>by cases h
 |e::r,j,i,v,h=>by
  unfold Instr.findNow at h
  split at h
  ·rename_i hs;cases h;exact ⟨Zd _,e,by simp,hs⟩
  ·obtain ⟨h1,e',h2,h3⟩:=sr h;refine ⟨by omega,e',?_,h3⟩
   rw [show i - j=(i - (j+1))+1 by omega]
   exact h2
  ·cases h
theorem F5 {s:ByteArray}{k:Value}(h:Instr.sameNow .string (.string s) k=some true):Instr.sameBits 10000 k (.string s)=true:=by
 cases k with
 |string u =>
  unfold Instr.sameNow at h;have h:(s==u)=true:=Z2 h;show (u==s)=true;rw [MapKept.bytes_beq] at h ⊢;exact h.symm
 |_=>cases h
theorem xq {t:TypeId}{x ix:Value}{ok:Bool}{h:Hp}{K:RT}(hk:iT P t h x ix ok K)(d:Nat) :
  ∃v,(Instr.lookup t x ix ok).run P (W ω h d)=.ok v (W ω h d)∧K v h:=by
 unfold iT at hk
 split at hk<;>try cases hk
 rename_i k el hu
 split at hk<;>try cases hk
 rename_i i hs hi
 split at hk<;>try cases hk
 rename_i z hz;obtain ⟨b,rfl,hk⟩:=Gz hk;obtain ⟨s,rfl,hk⟩:=iO hk;obtain ⟨es,clock,r,hb,hf,hk⟩:=hk;refine ⟨_,?_,hk⟩;have hb':(W ω h d).heap[b]?=some (.map es clock):=hb;have hg:=MapKept.run_getObj_map (P:=P) hb';have hc:∀e,(Instr.checkKey e 10000 k (.string s)).run P (W ω h d)=.ok () (W ω h d):=fun e=>by
  unfold Instr.checkKey;simp [run_underlying hs]
 cases r with
 |none=>cases ok<;>simp [Instr.lookup,run_underlying hu,hg,hc,Instr.findKey,run_underlying hs,hf,zeroValue,typeInfo,hi,hz]
 |some q=>cases ok<;>simp [Instr.lookup,run_underlying hu,hg,hc,Instr.findKey,run_underlying hs,hf]
theorem Em {t:TypeId}{x ix v:Value}{h:Hp}{K:Hp→Prop}(hk:IC P t h x ix v K)(d:Nat) :
  ∃h',(Instr.mapUpdate t x ix v).run P (W ω h d)=.ok () (W ω h' d)∧K h':=by
 unfold IC at hk
 split at hk<;>try cases hk
 rename_i k el hu
 split at hk<;>try cases hk
 rename_i hs;obtain ⟨b,rfl,hk⟩:=Gz hk;obtain ⟨s,rfl,hk⟩:=iO hk;obtain ⟨es,clock,r,hb,hf,hk⟩:=hk;refine ⟨_,?_,hk⟩;have hb':(W ω h d).heap[b]?=some (.map es clock):=hb;have hg:=MapKept.run_getObj_map (P:=P) hb';have hso:=fun o=>MapKept.run_setObj_map (P:=P) o hb';have hc:∀e,(Instr.checkKey e 10000 k (.string s)).run P (W ω h d)=.ok () (W ω h d):=fun e=>by
  unfold Instr.checkKey;simp [run_underlying hs]
 cases r with
 |none =>
  simp [Instr.mapUpdate,run_underlying hu,hg,hc,Instr.findKey,run_underlying hs,hf,hso];rfl
 |some q =>
  obtain ⟨i,v0⟩:=q;obtain ⟨_,e,h1,h2⟩:=sr hf;have h1:es[i]?=some e:=by simpa using h1
  simp [Instr.mapUpdate,run_underlying hu,hg,hc,Instr.findKey,run_underlying hs,hf,hso,h1,Instr.keyThatStays,F5 h2];rfl
theorem tP (o:Oper)(e:Operand→Value)(h:Hp)(K:RT)(X:XT)(hq:opx P ω o.op e h K X)(d:Nat) :
  dX P ω K X ((execOp e o).run P (W ω h d)):=by
 unfold opx at hq;cases hqt:lH P o.op with
 |true =>
  rw [hqt,cond_true] at hq;obtain ⟨v,st,h1,h2,_,h3⟩:=xl o e h _ hq;rw [h3 ω h d h1];exact ⟨⟨d,rfl⟩,h2⟩
 |false =>
  rw [hqt,cond_false] at hq
  split at hq
  ·rename_i t x v hop
   split at hq
   ·rename_i hag;obtain ⟨a,ha,hk⟩:=oW hq;obtain ⟨h1,hk⟩:=Da hk;obtain ⟨h',hk,hr⟩:=Bk (P:=P) (ω:=ω) h1 hk;have:=dX.unit (P:=P) (ω:=ω) (X:=X) (s:=Instr.storeAt t (e x) (e v)) (h:=h) (d:=d) (K:=K) (h':=h') ?_ hk
    ·simpa [execOp,hop] using this
    ·have hsz:=qq hag (W ω h d);simp [Instr.storeAt,ha,Instr.sureAddr,storeVar,hsz,zc h1,hr d]
   ·rename_i n hag;obtain ⟨a,ha,hk⟩:=oW hq;obtain ⟨cs,hcs,hn,h1,hk⟩:=gV hk;obtain ⟨h',hk,hr⟩:=gR (P:=P) (ω:=ω) h1 hk;have:=dX.unit (P:=P) (ω:=ω) (X:=X) (s:=Instr.storeAt t (e x) (e v)) (h:=h) (d:=d) (K:=K) (h':=h') ?_ hk
    ·simpa [execOp,hop] using this
    ·have hsz:=qq hag (W ω h d);simp [Instr.storeAt,ha,Instr.sureAddr,storeVar,hsz,hcs,Value.cells,hn,hr d]
   ·cases hq
  ·rename_i t hop
   split at hq
   ·rename_i z hz;obtain ⟨v,hv,hvz⟩:=sF hz (W ω h d);have:=dX.value (P:=P) (ω:=ω) (X:=X) (s:=Instr.alloc t true (.tuple #[])) (h:=h) (d:=d) (K:=K) ?_ hq
    ·simpa [execOp,hop] using this
    ·have hc:v.cells=z.toArray:=by apply Array.ext';simpa using hvz
     simp [Instr.alloc,hv,newVar,newRow,hc];exact ⟨rfl,rfl⟩
   ·cases hq
  ·rename_i t x hop;have:=dX.value (P:=P) (ω:=ω) (X:=X) (s:=Instr.box t (e x)) (h:=h) (d:=d) (K:=K) ?_ hq
   ·simpa [execOp,hop] using this
   ·simp [Instr.box,newVar,newRow];exact ⟨rfl,rfl⟩
  ·rename_i t len parts hop
   split at hq<;>try cases hq
   rename_i el hu
   split at hq<;>try cases hq
   rename_i z ag hz hag;cases hc:(Nat.ble (len*ag.getD 1) 16777216&&z.length==ag.getD 1) with
   |false=>rw [hc] at hq;exact hq.elim
   |true =>
    rw [hc] at hq;simp only [Qq,Nat.ble_eq,beq_iff_eq] at hc;obtain ⟨v,hv,hvz⟩:=sF hz (W ω h d);obtain ⟨cs,hcs,hk⟩:=iA (fun i=>some (i*ag.getD 1,ag.getD 1)) _ (parts.toList.map fun p=>(p.1,e p.2)) _ _ (by simp [cD,hc.2]) (by simp) (fun j p q hj hq=>by
     simp only [List.getElem?_map,Option.map_eq_some_iff] at hq hj;obtain ⟨q0,hq0,rfl⟩:=hq;obtain ⟨p0,hp0,rfl⟩:=hj;rw [hq0] at hp0;cases hp0;simp) hq
    have:=dX.value (P:=P) (ω:=ω) (X:=X) (s:=Instr.buildSlice t len (parts.map fun (i,x)=>(i,e x))) (h:=h) (d:=d) (K:=K) ?_ hk
    ·simpa [execOp,hop] using this
    ·have hsz:=qq hag (W ω h d);have hp:(parts.map fun (x:Nat×Operand)=>(x.1,e x.2)).toList=parts.toList.map fun p=>(p.1,e p.2):=by simp
     have hv':v.cells=z.toArray:=by apply Array.ext';simpa using hvz
     have hle:¬(len*ag.getD 1 > 2 ^ 24):=by omega
     simp only [Instr.buildSlice,Sem.run_bind,run_underlying hu,Result.andThen_ok,hsz,if_neg hle,Sem.run_ite,Sem.run_pure]
     by_cases h0:len*ag.getD 1=0
     ·simp only [if_pos h0];have hr0:(cD z len).toList.toArray=(Array.range (len*ag.getD 1)).map fun x=>(#[]:Array Value)[x % (#[]:Array Value).size]!:=by simp [cD,hc.2,h0]
      rw [hr0] at hcs;rw [←hp] at hcs;rw [hcs];simp only [Sem.run_bind,newRow,run_newObj,Result.andThen_ok,Sem.run_pure];rfl
     ·simp only [if_neg h0,hv,Result.andThen_ok];have hr0:(cD z len).toList.toArray=(Array.range (len*ag.getD 1)).map fun x=>v.cells[x % v.cells.size]!:=by
       rw [Array.toArray_toList,hv'];simp [cD,hc.2]
      rw [hr0] at hcs;rw [←hp] at hcs;rw [hcs];simp only [Sem.run_bind,newRow,run_newObj,Result.andThen_ok,Sem.run_pure];rfl
  ·rename_i t l c hop;obtain ⟨v,h',hr,hk⟩:=AV (ω:=ω) hq d;have:=dX.value (X:=X) hr hk;simpa [execOp,hop] using this
  ·rename_i s0 t x hop;obtain ⟨v,w',hr,hw,hk⟩:=yA (ω:=ω) (src:=s0) hqt hop hq d;simp only [execOp,hop,Sem.run_bind,hr,Result.andThen_ok,Sem.run_pure,dX];exact ⟨hw,hk⟩
  ·rename_i x hop
   split at hq
   ·rename_i t v he;simp only [execOp,hop,he,Instr.panic,Sem.run_bind,run_goPanic,Result.andThen_halt,dX];exact ⟨⟨d,rfl⟩,hq⟩
   ·cases hq
  ·rename_i x xT T hop
   split at hq
   ·cases hq
   ·rename_i dsc hni hu;cases hv:e x<;>rw [hv] at hq<;>try exact hq.elim
    rename_i t u;simp only [HG] at hq;cases hb:Nat.beq t T with
    |false=>rw [hb] at hq;exact hq.elim
    |true =>
     rw [hb,cond_true] at hq;have htT:t=T:=Nat.eq_of_beq_eq_true hb;have hrun:(Instr.typeAssert (.iface t u) xT T true).run P (W ω h d)=.ok (.tuple #[u,.bool true]) (W ω h d):=by
      unfold Instr.typeAssert;simp only [Sem.run_bind,run_underlying hu,Result.andThen_ok];cases dsc<;>first
       |exact absurd hu (hni _)
       |simp [htT]
     simp only [execOp,hop,hv,Sem.run_bind,hrun,Result.andThen_ok,Sem.run_pure,dX];exact ⟨⟨d,rfl⟩,hq⟩
   ·cases hq
  ·rename_i c hop
   split at hq
   ·rename_i f hc;have:=A9 (args:=c.args.map e) (X:=X) (K:=K) (by rw [Array.toList_map];exact hq) d
    simpa [execOp,hop,resolve,hc] using this
   ·rename_i hc
    split at hq
    ·rename_i t t' s x ht hx;cases htt:(t==t') with
     |false=>rw [htt] at hq;exact hq.elim
     |true =>
      rw [htt] at hq;have:t=t':=by simpa using htt
      subst this;obtain ⟨v,w',hr,hw,hk⟩:=Ee (ω:=ω) (ty:=o.type) hq d;have ha:c.args.map e=#[e s,e x]:=by apply Array.ext';simp [hx]
      have ht':=NN ht;simp only [execOp,hop,resolve,hc,Sem.run_bind,Sem.run_pure,Result.andThen_ok,invoke,builtin,ha,ht',hr,dX];exact ⟨hw,hk⟩
    ·cases hq
   ·rename_i hc
    split at hq
    ·rename_i t t' s x ht hx;obtain ⟨v,h',hr,hk⟩:=BJ (ω:=ω) (sT:=t') (ty:=o.type) hq d;have ha:c.args.map e=#[e s,e x]:=by apply Array.ext';simp [hx]
     have ht':=NN ht;simp only [execOp,hop,resolve,hc,Sem.run_bind,Sem.run_pure,Result.andThen_ok,invoke,builtin,ha,ht',hr,dX];exact ⟨⟨d,rfl⟩,hk⟩
    ·cases hq
   ·rename_i hc
    split at hq
    ·rename_i t s ht hx;obtain ⟨v,h',hr,hk⟩:=zF (ω:=ω) (ty:=o.type) hq d;have ha:c.args.map e=#[e s]:=by apply Array.ext';simp [hx]
     have ht':=Ps ht;simp only [execOp,hop,resolve,hc,Sem.run_bind,Sem.run_pure,Result.andThen_ok,invoke,builtin,ha,ht',hr,dX];exact ⟨⟨d,rfl⟩,hk⟩
    ·cases hq
   ·cases hq
  ·rename_i t x i ok hop;obtain ⟨v,hr,hk⟩:=xq (ω:=ω) hq d;have:=dX.value (P:=P) (ω:=ω) (X:=X) (s:=Instr.lookup t (e x) (e i) ok) (h:=h) (d:=d) (K:=K) (h':=h) hr hk;simpa [execOp,hop] using this
  ·rename_i t m k x hop;obtain ⟨h',hr,hk⟩:=Em (ω:=ω) hq d;have:=dX.unit (P:=P) (ω:=ω) (X:=X) (s:=Instr.mapUpdate t (e m) (e k) (e x)) (h:=h) (d:=d) (K:=K) (h':=h') hr hk;simpa [execOp,hop] using this
  ·rename_i t hop;have:=dX.value (P:=P) (ω:=ω) (X:=X) (s:=Instr.makeMap t none) (h:=h) (d:=d) (K:=K) (v:=.map (some h.size)) (h':=h.push (.map #[] 0)) (by rfl) hq
   simpa [execOp,hop] using this
  ·cases hq
end Go.Sx
