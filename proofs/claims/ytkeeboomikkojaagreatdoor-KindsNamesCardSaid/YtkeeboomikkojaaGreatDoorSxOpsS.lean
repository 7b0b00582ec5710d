import Derived.Test.YtkeeboomikkojaaGreatDoorSxOps
namespace Go.Sx
theorem j9 {v:Value}{F:Bool→Prop}(h:asB v F):∃b,v=.bool b∧F b:=by cases v<;>first|exact ⟨_,rfl,h⟩|cases h
theorem lU {k:IntKind}{v:Value}{F:Int→Prop}(h:asK k v F):∃n,v=.int k n∧F n:=by
 cases v with
 |int k' n =>
  simp only [asK] at h;cases hk:KJ k' k with
  |true =>
   rw [hk] at h;have:k'=k:=by cases k'<;>cases k<;>first|rfl|cases hk
   subst this;exact ⟨n,rfl,h⟩
  |false=>rw [hk] at h;exact h.elim
 |_=>exact h.elim
theorem j4 {v:Value}{F:Int→Prop}(h:asI v F):∃k n,v=.int k n∧F n:=by cases v<;>first|exact ⟨_,_,rfl,h⟩|cases h
theorem oW {v:Value}{F:Addr→Prop}(h:asP v F):∃a,v=.pointer (some a)∧F a:=by
 cases v<;>first|(rename_i a;cases a<;>first|exact ⟨_,rfl,h⟩|cases h)|cases h
theorem Cy {v:Value}{F:Option Addr→Prop}(h:MY v F):∃a,v=.pointer a∧F a:=by cases v<;>first|exact ⟨_,rfl,h⟩|cases h
theorem iO {v:Value}{F:ByteArray→Prop}(h:asS v F):∃a,v=.string a∧F a:=by cases v<;>first|exact ⟨_,rfl,h⟩|cases h
theorem pC {v:Value}{F:Option Addr→Nat→Nat→Prop}(h:bR v F):∃a l c,v=.slice a l c∧F a l c:=by cases v<;>first|exact ⟨_,_,_,rfl,h⟩|cases h
theorem zs {v:Value}{F:Addr→Nat→Nat→Prop}(h:aI v F):∃a l c,v=.slice (some a) l c∧F a l c:=by
 cases v<;>first|(rename_i a _ _;cases a<;>first|exact ⟨_,_,_,rfl,h⟩|cases h)|cases h
theorem gV {v:Value}{F:Array Value→Prop}(h:asA v F):∃a,v=.agg a∧F a:=by cases v<;>first|exact ⟨_,rfl,h⟩|cases h
theorem Da {v:Value}{F:Prop}(h:cq v F):one v∧F:=by cases v<;>first|exact ⟨rfl,h⟩|cases h
theorem Md {v:Value}{F:Array Value→Prop}(h:asT v F):∃a,v=.tuple a∧F a:=by cases v<;>first|exact ⟨_,rfl,h⟩|cases h
theorem j0 {v:Option Value}{F:Value→Prop}(h:asO v F):∃a,v=some a∧F a:=by cases v<;>first|exact ⟨_,rfl,h⟩|cases h
section
variable  {P:Program}
theorem cM (t:TypeId)(w:World)(i:TypeInfo)(h:P.info? t=some i):(Go.sizeOf t).run P w=.ok i.size w:=by simp [Go.sizeOf,typeInfo,h]
theorem AR {s f off:Nat}{a:Addr}(h:xV P s f=some off)(w:World) :
  (Instr.fieldAt s (.pointer (some a)) f).run P w=.ok (.pointer (some (a.add off))) w:=by
 unfold xV at h
 split at h<;>try cases h
 rename_i fs hu
 split at h<;>try cases h
 rename_i fl hf
 split at h<;>try cases h
 rename_i i hi;cases hz:(i.size==0)<;>simp [hz] at h
 subst h;have hz':¬i.size=0:=by simpa using hz
 simp [Instr.fieldAt,run_underlying hu,hf,Instr.sureAddr,fieldPlace,cM _ _ i hi,hz']
theorem gf {t:TypeId}{o:Option Nat}(h:rY P t=some o)(w:World) :
  (isAgg t).run P w=.ok o.isSome w∧∀n,o=some n→(Go.sizeOf t).run P w=.ok n w:=by
 unfold rY at h
 split at h
 ·rename_i fs hu
  split at h<;>try cases h
  rename_i i hi;simp [isAgg,run_underlying hu,cM _ _ i hi]
 ·rename_i fs hu
  split at h<;>try cases h
  rename_i i hi;simp [isAgg,run_underlying hu,cM _ _ i hi]
 ·rename_i d hn1 hn2 hu
  split at h<;>try cases h
  rename_i i hi;cases hz:(i.size==1)<;>simp [hz] at h
  subst h;refine ⟨?_,by simp⟩
  simp only [isAgg,Sem.run_bind,run_underlying hu,Result.andThen_ok];cases d<;>first|rfl|(exact absurd hu (hn1 _))|(exact absurd hu (hn2 _ _))
 ·cases h
theorem zn {t:TypeId}{off:Nat}{ag:Option Nat}{cs:Array Value}{K:Value→Prop}(h:rY P t=some ag)(hk:L3 off ag cs K) :
  ∃v,(∀w,(part t cs off).run P w=.ok v w)∧K v:=by
 cases ag with
 |some n=>exact ⟨_,fun w=>by obtain ⟨h1,h2⟩:=gf h w;simp [part,h1,h2 n rfl],hk⟩
 |none =>
  obtain ⟨v,hv,hk⟩:=j0 hk;exact ⟨v,fun w=>by obtain ⟨h1,h2⟩:=gf h w;simp [part,h1,hv],hk⟩
theorem gz (d : Nat) : ∀ (fs : List Field) (xs ys : Array Value) (F : Bool → Prop), fs.all (fun f => f.name != "_") = true → L9 P fs xs ys F →
  ∃r,(∀w,(Op.eqFields (d+1) xs ys fs).run P w=.ok r w)∧F r
 |[],_,_,F,_,h=>⟨true,fun w=>by simp [Op.eqFields],h⟩
 |f::fs,xs,ys,F,hall,h=>by
  simp only [List.all_cons,Qq] at hall;have hn : f.name ≠ "_" := by simpa using hall.1
  unfold L9 at h;have ag:∀D,P.underlying f.type=some D→(∀fs,D≠.struct fs)→(∀n e,D≠.array n e)→∀w,(isAgg f.type).run P w=.ok false w:=by
   intro D hD h1 h2 w;simp only [isAgg,Sem.run_bind,run_underlying hD,Result.andThen_ok];cases D<;>first|rfl|exact absurd rfl (h1 _)|exact absurd rfl (h2 _ _)
  have step:∀(D:TypeDesc) (a b:Value) (t r:Bool),P.underlying f.type=some D→(∀fs,D≠.struct fs)→(∀n e,D≠.array n e)→xs[f.offset]?=some a→ys[f.offset]?=some b →
    (∀w,(Op.equalIn (d+1) f.type a b).run P w=.ok t w)→(∀w,(Op.eqFields (d+1) xs ys fs).run P w=.ok r w) →
    ∀w,(Op.eqFields (d+1) xs ys (f::fs)).run P w=.ok (t&&r) w:=by
   intro D a b t r hD h1 h2 ha hb ht hr w;have g1:=ag D hD h1 h2 w;simp only [Op.eqFields,if_pos hn];cases t<;>simp [part,g1,ha,hb,ht,hr]
  split at h
  ·rename_i k hu;obtain ⟨a,ha,h1⟩:=j0 h;obtain ⟨b,hb,h2⟩:=j0 h1;obtain ⟨m,rfl,h3⟩:=lU h2;obtain ⟨n,rfl,h4⟩:=lU h3;obtain ⟨r,hr,hF⟩:=gz d fs xs ys _ hall.2 h4;exact ⟨_,step _ _ _ (m==n) r hu (by simp) (by simp) ha hb (fun w=>run_equalIn_int w d f.type k k m n hu) hr,hF⟩
  ·rename_i hu;obtain ⟨a,ha,h1⟩:=j0 h;obtain ⟨b,hb,h2⟩:=j0 h1;obtain ⟨m,rfl,h3⟩:=j9 h2;obtain ⟨n,rfl,h4⟩:=j9 h3;obtain ⟨r,hr,hF⟩:=gz d fs xs ys _ hall.2 h4;exact ⟨_,step _ _ _ (m==n) r hu (by simp) (by simp) ha hb (fun w=>run_equalIn_bool' w d f.type m n hu) hr,hF⟩
  ·rename_i hu;obtain ⟨a,ha,h1⟩:=j0 h;obtain ⟨b,hb,h2⟩:=j0 h1;obtain ⟨m,rfl,h3⟩:=iO h2;obtain ⟨n,rfl,h4⟩:=iO h3;obtain ⟨r,hr,hF⟩:=gz d fs xs ys _ hall.2 h4;exact ⟨_,step _ _ _ (m.toList==n.toList) r hu (by simp) (by simp) ha hb (fun w=>run_equalIn_string w d f.type m n hu) hr,hF⟩
  ·cases h
theorem xp (d:Nat){e:TypeId}{k:IntKind}(hu:P.underlying e=some (.int k))(hc:P.cellsOf e=1):∀(is:List Nat) (xs ys:Array Value) (F:Bool→Prop),OZ k is xs ys F →
  ∃r,(∀w,(Op.eqItems (d+1) e (P.cellsOf e) xs ys is).run P w=.ok r w)∧F r
 |[],_,_,F,h=>⟨true,fun w=>by simp [Op.eqItems],h⟩
 |i::is,xs,ys,F,h=>by
  unfold OZ at h;obtain ⟨a,ha,h1⟩:=j0 h;obtain ⟨b,hb,h2⟩:=j0 h1;obtain ⟨m,rfl,h3⟩:=lU h2;obtain ⟨n,rfl,h4⟩:=lU h3;obtain ⟨r,hr,hF⟩:=xp d hu hc is xs ys _ h4;refine ⟨_,fun w=>?_,hF⟩;have g1:(isAgg e).run P w=.ok false w:=by
   simp only [isAgg,Sem.run_bind,run_underlying hu,Result.andThen_ok];rfl
  have ht:=run_equalIn_int w d e k k m n hu;have hr':=hr w;rw [hc] at hr' ⊢;simp only [Op.eqItems,Nat.mul_one];cases hm:(m==n)
  ·rw [hm] at ht;simp [part,g1,ha,hb,ht]
  ·rw [hm] at ht;simp [part,g1,ha,hb,ht,hr']
def Y (P:Program)(s:Sem Value)(K:Value→Prop):Prop:=∃v,(∀w,s.run P w=.ok v w)∧K v
theorem Y.pure {v:Value}{K:Value→Prop}(h:K v):Y P (Pure.pure v) K:=⟨v,fun _=>rfl,h⟩
theorem Y.of {s:Sem Value}{v:Value}{K:Value→Prop}(hs:∀w,s.run P w=.ok v w)(h:K v):Y P s K:=⟨v,hs,h⟩
theorem DS {k:IntKind}{op:BinOp}{t:TypeId}{a b:Int}{K:Value→Prop}(h:Pv k op a b K) :
  Y P (binOp op t (.int k a) (.int k b)) K:=by
 cases op
 case and=>exact .of (fun w=>by simp only [binOp,if_neg (show ¬(k≠k) from fun e=>e rfl)];rfl) h
 case or=>exact .of (fun w=>by simp only [binOp,if_neg (show ¬(k≠k) from fun e=>e rfl)];rfl) h
 case xor=>exact .of (fun w=>by simp only [binOp,if_neg (show ¬(k≠k) from fun e=>e rfl)];rfl) h
 case andNot=>exact .of (fun w=>by simp only [binOp,if_neg (show ¬(k≠k) from fun e=>e rfl)];rfl) h
 all_goals simp only [Pv] at h<;>first
  |exact h.elim
  |exact .of (fun w=>by simp [binOp,Op.intArith,Op.intCmp]) h
  |(obtain ⟨hb,h⟩:=h;exact .of (fun w=>by simp [binOp,Op.intDiv,hb]) h)
theorem D3 {op : BinOp} {t : TypeId} {a b : ByteArray} {K : Value → Prop} (h : PI op a b K) :
    Y P (binOp op t (.string a) (.string b)) K := by
  cases op <;> simp only [PI] at h <;> first
    | exact h.elim
    | exact .of (fun w => by simp [binOp, Op.stringOp]) h
    | (obtain ⟨hb, h⟩ := h
       have hb' : ¬ (((a.size + b.size : Nat) : Int) > IntKind.i64.max) := by simp [IntKind.max, IntKind.bits, IntKind.signed]; omega
       exact .of (fun w => by simp only [binOp, Op.stringOp]; rw [if_neg hb']; rfl) h)
theorem bL (op:BinOp)(t:TypeId)(x y:Operand)(a b:Value)(h1:a≠.nilIface)(h2:∀cs,a≠.agg cs)(w:World) :
  (eqGuard op t x y a b).run P w=.ok () w:=by
 cases op<;>cases a<;>first|rfl|exact absurd rfl h1|exact absurd rfl (h2 _)
theorem Y.oD {s:Sem Unit}{r:Sem Value}{K:Value→Prop}(hs:∀w,s.run P w=.ok () w)(h:Y P r K):Y P (do s;r) K:=by
 obtain ⟨v,hv,hk⟩:=h;exact ⟨v,fun w=>by simp [hs,hv],hk⟩
theorem iZ (d:Nat){t e:TypeId}(hu:P.underlying t=some (.pointer e))(m:Option Addr)(w:World) :
  (Op.equalIn (d+1) t (.pointer m) (.pointer none)).run P w=.ok m.isNone w:=by
 cases m<;>simp [Op.equalIn,run_underlying hu]
theorem gO (d:Nat){t e:TypeId}(hu:P.underlying t=some (.slice e))(m:Option Addr)(l c l' c':Nat)(w:World) :
  (Op.equalIn (d+1) t (.slice m l c) (.slice none l' c')).run P w=.ok m.isNone w:=by
 cases m<;>simp [Op.equalIn,run_underlying hu]
theorem DZ {op:BinOp}{t:TypeId}{x y:Operand}{a b:Value}{K:Value→Prop}(h:Pq P op t a b K) :
  Y P (do eqGuard op t x y a b;binOp op t a b) K:=by
 unfold Pq at h
 split at h
 ·rename_i k hu;cases hs:Gp op with
  |true =>
   rw [hs] at h;obtain ⟨m,rfl,h1⟩:=lU h;obtain ⟨k',n,rfl,h2,h3⟩:=j4 h1;refine .oD (bL op t x y _ _ (by simp) (by simp)) ?_
   cases op<;>try cases hs
   ·exact .of (fun w=>by simp only [binOp,Op.shift,if_neg (show ¬n < 0 by omega),shI];rfl) h3
   ·exact .of (fun w=>by simp only [binOp,Op.shift,if_neg (show ¬n < 0 by omega),shI];rfl) h3
  |false =>
   rw [hs] at h;obtain ⟨m,rfl,h1⟩:=lU h;obtain ⟨n,rfl,h2⟩:=lU h1;exact .oD (bL op t x y _ _ (by simp) (by simp)) (DS h2)
 ·obtain ⟨m,rfl,h1⟩:=iO h;obtain ⟨n,rfl,h2⟩:=iO h1;exact .oD (bL op t x y _ _ (by simp) (by simp)) (D3 h2)
 ·rename_i hu
  split at h
  ·obtain ⟨m,rfl,h1⟩:=j9 h;obtain ⟨n,rfl,h2⟩:=j9 h1;refine .oD (bL _ t x y _ _ (by simp) (by simp)) (.of (fun w=>?_) h2)
   simp only [binOp,Op.equal,Sem.run_bind,Op.maxDepth];rw [run_equalIn_bool' w 9999 t m n hu];rfl
  ·obtain ⟨m,rfl,h1⟩:=j9 h;obtain ⟨n,rfl,h2⟩:=j9 h1;refine .oD (bL _ t x y _ _ (by simp) (by simp)) (.of (fun w=>?_) h2)
   simp only [binOp,Op.equal,Sem.run_bind,Op.maxDepth];rw [run_equalIn_bool' w 9999 t m n hu];rfl
  ·cases h
 ·rename_i e hu
  split at h
  ·obtain ⟨m,rfl,h1⟩:=Cy h;refine .oD (bL _ t x y _ _ (by simp) (by simp)) (.of (fun w=>?_) h1)
   simp only [binOp,Op.equal,Sem.run_bind,Op.maxDepth];rw [iZ 9999 hu m w];rfl
  ·obtain ⟨m,rfl,h1⟩:=Cy h;refine .oD (bL _ t x y _ _ (by simp) (by simp)) (.of (fun w=>?_) h1)
   simp only [binOp,Op.equal,Sem.run_bind,Op.maxDepth];rw [iZ 9999 hu m w];rfl
  ·cases h
 ·rename_i e hu
  split at h
  ·obtain ⟨m,l,c,rfl,h1⟩:=pC h;refine .oD (bL _ t x y _ _ (by simp) (by simp)) (.of (fun w=>?_) h1)
   simp only [binOp,Op.equal,Sem.run_bind,Op.maxDepth];rw [gO 9999 hu m _ _ _ _ w];rfl
  ·obtain ⟨m,l,c,rfl,h1⟩:=pC h;refine .oD (bL _ t x y _ _ (by simp) (by simp)) (.of (fun w=>?_) h1)
   simp only [binOp,Op.equal,Sem.run_bind,Op.maxDepth];rw [gO 9999 hu m _ _ _ _ w];rfl
  ·cases h
 ·rename_i fs hu
  split at h
  ·rename_i hs hg hall;have hfo:P.fieldsOf t=fs:=by simp [Program.fieldsOf,hu]
   split at h
   ·obtain ⟨xs,rfl,h1⟩:=gV h;obtain ⟨ys,rfl,h2⟩:=gV h1;obtain ⟨r,hr,hk⟩:=gz 9998 fs.toList xs ys _ hall h2;refine .oD (run_eqGuard_agg · _ t x y xs ys hg) (.of (fun w=>?_) hk);rw [run_eql_struct,run_equalIn_struct w 9999 t xs ys (by rw [hfo];exact hu) hs,hfo,hr];rfl
   ·obtain ⟨xs,rfl,h1⟩:=gV h;obtain ⟨ys,rfl,h2⟩:=gV h1;obtain ⟨r,hr,hk⟩:=gz 9998 fs.toList xs ys _ hall h2;refine .oD (run_eqGuard_agg · _ t x y xs ys hg) (.of (fun w=>?_) hk);rw [run_neq_struct,run_equalIn_struct w 9999 t xs ys (by rw [hfo];exact hu) hs,hfo,hr];rfl
   ·cases h
  ·cases h
 ·rename_i n e hu
  split at h
  ·unfold Pb at h
   split at h
   ·rename_i k i hk hi hg;cases hc:(P.cellsOf e==1) with
    |false=>rw [hc] at h;cases h
    |true =>
     rw [hc,cond_true] at h;obtain ⟨xs,rfl,h1⟩:=gV h;obtain ⟨ys,rfl,h2⟩:=gV h1;obtain ⟨r,hr,hk'⟩:=xp 9998 hk (Zg hc) (List.range n) xs ys _ h2;refine .oD (run_eqGuard_agg · _ t x y xs ys hg) (.of (fun w=>?_) hk');rw [run_eql_struct,run_equalIn_array w 9999 xs ys hu hi,hr];rfl
   ·cases h
  ·unfold Pb at h
   split at h
   ·rename_i k i hk hi hg;cases hc:(P.cellsOf e==1) with
    |false=>rw [hc] at h;cases h
    |true =>
     rw [hc,cond_true] at h;obtain ⟨xs,rfl,h1⟩:=gV h;obtain ⟨ys,rfl,h2⟩:=gV h1;obtain ⟨r,hr,hk'⟩:=xp 9998 hk (Zg hc) (List.range n) xs ys _ h2;refine .oD (run_eqGuard_agg · _ t x y xs ys hg) (.of (fun w=>?_) hk');rw [run_neq_struct,run_equalIn_array w 9999 xs ys hu hi,hr];rfl
   ·cases h
  ·cases h
 ·cases h
theorem G9 {op:UnOp}{x:Value}{K:Value→Prop}(h:unK op x K):Y P (Op.unary op x) K:=by
 unfold unK at h
 split at h
 ·obtain ⟨b,rfl,h1⟩:=j9 h;exact .pure h1
 ·split at h
  ·exact .of (fun w=>by simp [Op.unary,Op.intArith]) h
  ·cases h
 ·split at h
  ·exact .of (fun w=>by simp only [Op.unary];rfl) h
  ·cases h
 ·cases h
theorem jL (d:Nat){t:TypeId}{ms:Array (String×TypeId)}(hu:P.underlying t=some (.interface ms))(w:World) :
 (Op.equalIn (d+1) t .nilIface .nilIface).run P w=.ok true w:=by simp [Op.equalIn,run_underlying hu]
theorem iD (d:Nat){t u:TypeId}{v:Value}{ms:Array (String×TypeId)}(hu:P.underlying t=some (.interface ms))(w:World) :
 (Op.equalIn (d+1) t (.iface u v) .nilIface).run P w=.ok false w:=by simp [Op.equalIn,run_underlying hu]
theorem Ak {op:BinOp}{t:TypeId}{x y:Operand}{a b:Value}{K:Value→Prop}(hc:wY y b=true)(h:EQ P op t a K) :
  Y P (do eqGuard op t x y a b;binOp op t a b) K:=by
 have hy:∃v,y=.const v:=by
  cases y<;>first|exact ⟨_,rfl⟩|(cases b<;>cases hc)
 obtain ⟨v,rfl⟩:=hy;have hb:b=.nilIface:=by cases b<;>first|rfl|(exfalso;cases hc)
 subst hb;unfold EQ at h
 split at h
 ·rename_i ms hu
  split at h
  ·cases a<;>first|exact h.elim|skip
   ·refine .oD (fun w=>by simp [eqGuard]) (.of (fun w=>?_) h)
    simp only [binOp,Op.equal,Sem.run_bind,Op.maxDepth];rw [iD 9999 hu w];rfl
   ·refine .oD (fun w=>by simp [eqGuard]) (.of (fun w=>?_) h)
    simp only [binOp,Op.equal,Sem.run_bind,Op.maxDepth];rw [jL 9999 hu w];rfl
  ·cases a<;>first|exact h.elim|skip
   ·refine .oD (fun w=>by simp [eqGuard]) (.of (fun w=>?_) h)
    simp only [binOp,Op.equal,Sem.run_bind,Op.maxDepth];rw [iD 9999 hu w];rfl
   ·refine .oD (fun w=>by simp [eqGuard]) (.of (fun w=>?_) h)
    simp only [binOp,Op.equal,Sem.run_bind,Op.maxDepth];rw [jL 9999 hu w];rfl
  ·cases h
 ·cases h
theorem BC {src dst:TypeId}{x:Value}{K:Value→Prop}(h:Lp P src dst x K):Y P (convert src dst x) K:=by
 unfold Lp at h
 split at h
 ·rename_i k0 k h1 h2;obtain ⟨k',n,rfl,h3⟩:=j4 h;exact .of (fun w=>by simp [convert,run_underlying h1,run_underlying h2,Conv.intToInt]) h3
 ·rename_i h1 h2;obtain ⟨s,rfl,h3⟩:=iO h;exact .of (fun w=>by simp [convert,run_underlying h1,run_underlying h2]) h3
 ·rename_i k h1 h2;obtain ⟨k',n,rfl,h3⟩:=j4 h;exact .of (fun w=>by simp [convert,run_underlying h1,run_underlying h2,Conv.intToString]) h3
 ·cases h
theorem uu {t:TypeId}{F:Nat→Prop}(h:szK P t F):∃i,P.info? t=some i∧F i.size:=by
 unfold szK at h
 split at h
 ·exact ⟨_,‹_›,h⟩
 ·cases h
theorem pD {e:Operand→Value}{o:Option Operand}{d:Nat}{F:Int→Prop}(h:y5 e o d F) :
  ∃n:Int,F n∧(o=none∧n=d∨∃k,o.map e=some (.int k n)):=by
 cases o with
 |none=>exact ⟨d,h,.inl ⟨rfl,rfl⟩⟩
 |some x =>
  obtain ⟨k,n,hx,h1⟩:=j4 h;exact ⟨n,h1,.inr ⟨k,by simp [hx]⟩⟩
theorem wI {e:Operand→Value}{lo hi:Option Operand}{isS:Bool}{len cap:Nat}{l h:Int}
  (hl:lo=none∧l=(0:Nat)∨∃k,lo.map e=some (.int k l)) (hh:hi=none∧h=len∨∃k,hi.map e=some (.int k h))
  (h0:0≤l) (h1:l≤h) (h2:h≤cap) (w:World) :
  (Instr.sliceBounds isS len cap (lo.map e) (hi.map e) none).run P w=.ok (l.toNat,h.toNat,cap) w:=by
 have hb:0≤h:=by omega
 rcases hl with ⟨rfl,rfl⟩|⟨k,hk⟩<;>rcases hh with ⟨rfl,rfl⟩|⟨k',hk'⟩
 ·simp [Instr.sliceBounds]
 ·simp [Instr.sliceBounds,hk',Instr.sliceBound,asIntOf,hb,h2]
 ·have:l≤(len:Int):=h1;simp [Instr.sliceBounds,hk,Instr.sliceBound,asIntOf,h0,this]
 ·have:(max h 0)=h:=by omega
  simp [Instr.sliceBounds,hk,hk',Instr.sliceBound,asIntOf,h0,hb,h2,this,h1]
theorem yS {t:TypeId}{x:Value}{e:Operand→Value}{lo hi mx:Option Operand}{K:Value→Prop}(h:GB P t x e lo hi mx K) :
  Y P (Instr.sliceAt t x (lo.map e) (hi.map e) (mx.map e)) K:=by
 unfold GB at h
 split at h
 ·rename_i hu;obtain ⟨s,rfl,h1⟩:=iO h;obtain ⟨l,h2,hl⟩:=pD h1;obtain ⟨r,⟨g0,g1,g2,hk⟩,hr⟩:=pD h2;refine .of (fun w=>?_) hk;simp [Instr.sliceAt,run_underlying hu,Instr.slice,wI hl hr g0 g1 g2]
 ·rename_i el hu;obtain ⟨a,len,cap,rfl,h1⟩:=pC h;obtain ⟨l,h2,hl⟩:=pD h1;obtain ⟨r,⟨g0,g1,g2,hk⟩,hr⟩:=pD h2;obtain ⟨i,hi,hk⟩:=uu hk;refine .of (fun w=>?_) hk;simp [Instr.sliceAt,run_underlying hu,Instr.slice,wI hl hr g0 g1 g2,cM _ _ i hi]
 ·cases h
theorem ui {b:Builtin}{ts:Array TypeId}{ty:TypeId}{cs:Array Bool}{args:List Value}{K:Value→Prop}(h:ul P b ts args K) :
  ∃v,(∀w,(builtin b ts ty cs args.toArray).run P w=.ok (.value v) w)∧K v:=by
 unfold ul at h
 split at h
 ·rename_i t x ht
  split at h
  ·rename_i hu;obtain ⟨s,rfl,h1⟩:=iO h;exact ⟨_,fun w=>by simp [builtin,Builtin.len_,ht,run_underlying hu,goInt],h1⟩
  ·rename_i el hu;obtain ⟨a,n,c,rfl,h1⟩:=pC h;exact ⟨_,fun w=>by simp [builtin,Builtin.len_,ht,run_underlying hu,goInt],h1⟩
  ·cases h
 ·rename_i t x y ht
  split at h
  ·rename_i k hu;obtain ⟨m,rfl,h1⟩:=lU h;obtain ⟨n,rfl,h2⟩:=lU h1;exact ⟨_,fun w=>by simp [builtin,Builtin.max_,Builtin.max2,List.foldlM],h2⟩
  ·cases h
 ·cases h
theorem BP (off:Nat):∀(cs:List Value) (k:Nat) (z:Array Value),off+k+cs.length≤z.size →
  ((cs.zipIdx k).foldl (fun acc (p:Value×Nat)=>acc.setIfInBounds (off+p.2) p.1) z)=(z.toList.take (off+k)++(cs++z.toList.drop (off+k+cs.length))).toArray
 |[],k,z,_=>by simp
 |c::cs,k,z,h=>by
  simp only [List.zipIdx_cons,List.foldl_cons,Qn] at h ⊢;rw [BP off cs (k+1) _ (by simp;omega)]
  congr 1
  have hlt:off+k < z.toList.length:=by simp;omega
  rw [Array.toList_setIfInBounds];rw [show off+(k+1)=off+k+1 from rfl,List.take_succ_eq_append_getElem (by simpa using hlt)]
  rw [List.getElem_set_self];rw [List.take_set_of_le (Zd _)];rw [List.drop_set_of_lt (by omega)]
  simp only [Qk,Qu,Z4];rw [show off+k+1+cs.length=off+k+(cs.length+1) by omega]
theorem zc {v:Value}(h:one v):v.cells=#[v]:=by cases v<;>first|rfl|cases h
theorem iA {L:Nat}(place:Nat→Option (Nat×Nat)):∀(ps:List (Nat×Option Nat×Value)) (parts:List (Nat×Value)) (z:List Value) (K:List Value→Prop),z.length=L →
  ps.length=parts.length→(∀(j:Nat) (p:Nat×Option Nat×Value) (q:Nat×Value),ps[j]?=some p→parts[j]?=some q→place q.1=some (p.1,p.2.1.getD 1)∧p.2.2=q.2)→y6 L z ps K →
  ∃cs,Instr.fill place z.toArray parts=some cs.toArray∧K cs
 |[],parts,z,K,_,hl,_,h=>by
  cases parts with
  |nil=>exact ⟨z,rfl,h⟩
  |cons=>simp at hl
 |(off,none,v)::ps,[],z,K,_,hl,_,h=>by simp at hl
 |(off,some n,v)::ps,[],z,K,_,hl,_,h=>by simp at hl
 |(off,none,v)::ps,(i,v')::parts,z,K,hz,hl,hp,h=>by
  obtain ⟨h1,h2⟩:=hp 0 _ _ rfl rfl;simp only [Option.getD_none] at h1 h2;subst h2;unfold y6 at h;cases hb:Nat.blt off L with
  |false=>rw [hb] at h;exact h.elim
  |true =>
   rw [hb] at h;obtain ⟨ho,h⟩:=Da h;have hlt:off < L:=by simpa [Nat.blt_eq] using hb
   obtain ⟨cs,hc,hk⟩:=iA place ps parts (z.set off v) K (by simpa using hz) (by simpa using hl) (fun j p q a b=>hp (j+1) p q (by simpa using a) (by simpa using b)) h
   refine ⟨cs,?_,hk⟩;simp only [Instr.fill,h1,zc ho];have:¬(off+1 > z.length):=by omega
   simp [this];simpa using hc
 |(off,some n,v)::ps,(i,v')::parts,z,K,hz,hl,hp,h=>by
  obtain ⟨h1,h2⟩:=hp 0 _ _ rfl rfl;simp only [Option.getD_some] at h1 h2;subst h2;unfold y6 at h;cases hb:Nat.ble (off+n) L with
  |false=>rw [hb] at h;exact h.elim
  |true =>
   rw [hb] at h;obtain ⟨cs,rfl,hn,h⟩:=gV h;have hle:off+n≤L:=by simpa [Nat.ble_eq] using hb
   obtain ⟨r,hc,hk⟩:=iA place ps parts _ K (by simp [hn];omega) (by simpa using hl) (fun j p q a b=>hp (j+1) p q (by simpa using a) (by simpa using b)) h
   refine ⟨r,?_,hk⟩;simp only [Instr.fill,h1,Value.cells];have:¬(off+n > z.length):=by omega
   simp only [hn,ne_eq,not_true,List.size_toArray,this,decide_false,Bool.or_false,Bool.false_eq_true,if_false];have hf:=BP off cs.toList 0 z.toArray (by simp [hn];omega)
   rw [←Array.foldl_toList,Array.toList_zipIdx,hf];simpa [hn] using hc
theorem mapM_some {α β:Type}{f:α→Option β}:∀{l:List α} {r:List β},l.mapM f=some r→r.length=l.length∧∀(j:Nat) (a:α),l[j]?=some a→∃b,f a=some b∧r[j]?=some b
 |[],r,h=>by simp at h;subst h;simp
 |x::l,r,h=>by
  simp only [List.mapM_cons,Option.bind_eq_bind,Option.bind_eq_some_iff,Option.pure_def,Option.some.injEq] at h;obtain ⟨y,hy,ys,hys,rfl⟩:=h;obtain ⟨h1,h2⟩:=mapM_some hys;refine ⟨by simp [h1],fun j a ha=>?_⟩
  cases j with
  |zero=>simp at ha;subst ha;exact ⟨y,hy,rfl⟩
  |succ j=>exact h2 j a (by simpa using ha)
theorem sG {t:TypeId}{ag:Option Nat}(h:rY P t=some ag):∃i,P.info? t=some i∧i.size=ag.getD 1:=by
 unfold rY at h
 split at h
 ·split at h<;>try cases h
  exact ⟨_,‹_›,rfl⟩
 ·split at h<;>try cases h
  exact ⟨_,‹_›,rfl⟩
 ·split at h<;>try cases h
  rename_i i hi;cases hz:(i.size==1)<;>simp [hz] at h
  subst h;exact ⟨_,hi,by simpa using hz⟩
 ·cases h
theorem Bu {t:TypeId}{e:Operand→Value}{parts:List (Nat×Operand)}{z:List Value}{ps:List (Nat×Option Nat×Value)}{K:List Value→Prop}
  (hz:zeroOf P t=some z) (hp:partsOf P t e parts=some ps) (h:y6 z.length z ps K) :
  ∃cs,P.built t (parts.map fun p=>(p.1,e p.2))=some cs.toArray∧K cs:=by
 unfold zeroOf at hz
 split at hz<;>try cases hz
 rename_i it hit
 split at hz<;>cases hz
 rename_i zz hzz;unfold partsOf at hp
 split at hp
 ·rename_i fs hu
  split at hp
  ·rename_i pl hpl;obtain ⟨l1,l2⟩:=mapM_some hp;obtain ⟨cs,hc,hk⟩:=iA (fun i=>pl.toArray[i]?) ps (parts.map fun p=>(p.1,e p.2)) _ K rfl (by simp [l1]) (fun j p q hj hq=>by
    simp only [List.getElem?_map,Option.map_eq_some_iff] at hq;obtain ⟨q0,hq0,rfl⟩:=hq;obtain ⟨b,hb,hb2⟩:=l2 j q0 hq0;simp only [Option.map_eq_some_iff] at hb;obtain ⟨fp,hfp,rfl⟩:=hb;rw [hj] at hb2;cases hb2;refine ⟨?_,rfl⟩;unfold rR at hfp;rw [hu] at hfp;simp only at hfp
    split at hfp<;>try cases hfp
    rename_i fl hfl
    split at hfp<;>cases hfp
    rename_i ag hag;obtain ⟨i,hi,hs⟩:=sG hag;obtain ⟨_,m2⟩:=mapM_some hpl;obtain ⟨b,hb1,hb2⟩:=m2 q0.1 fl (by simpa using hfl)
    simp [hi] at hb1;subst hb1;simpa [hs] using hb2) h
   refine ⟨cs,?_,hk⟩;simp only [Program.built,hit,hu,hzz,hpl];simpa using hc
  ·cases hp
 ·rename_i n el hu
  split at hp<;>cases hp
  rename_i ag hag;obtain ⟨i,hi,hs⟩:=sG hag;obtain ⟨cs,hc,hk⟩:=iA (fun j=>some (j*i.size,i.size)) _ (parts.map fun p=>(p.1,e p.2)) _ K rfl (by simp) (fun j p q hj hq=>by
   simp only [List.getElem?_map,Option.map_eq_some_iff] at hq hj;obtain ⟨q0,hq0,rfl⟩:=hq;obtain ⟨p0,hp0,rfl⟩:=hj;rw [hq0] at hp0;cases hp0;simp [Program.cellsOf,hi,hs]) h
  refine ⟨cs,?_,hk⟩;simp only [Program.built,hit,hu,hzz,hi];simpa using hc
 ·cases hp
theorem jH {o:Oper}{e:Operand→Value}{s:Sem Value}{K:Value→Prop}(h:Y P s K)(hx:execOp e o=(do pure (Next.value (←s)))) :
  ∃v,(∀w,(execOp e o).run P w=.ok (.value v) w)∧K v:=by
 obtain ⟨v,hv,hk⟩:=h;exact ⟨v,fun w=>by rw [hx];simp [hv],hk⟩
theorem xl (o:Oper)(e:Operand→Value)(h:Hp)(K:Value→(Hp→Prop)→Prop)(hq:qx P o.op e h K) :
  ∃v st,st h∧K v st∧(wJ o.op=false→st=fun _=>True)∧∀ω h' d,st h'→(execOp e o).run P (W ω h' d)=.ok (.value v) (W ω h' d):=by
 have lift:(∃v,(∀w,(execOp e o).run P w=.ok (.value v) w)∧K v fun _=>True)→∃v st,st h∧K v st∧(wJ o.op=false→st=fun _=>True)∧∀ω h' d,st h'→(execOp e o).run P (W ω h' d)=.ok (.value v) (W ω h' d) :=
  fun ⟨v,h1,h2⟩=>⟨v,fun _=>True,trivial,h2,fun _=>rfl,fun _ _ _ _=>h1 _⟩
 unfold qx at hq
 split at hq
 ·rename_i x hop;exact lift ⟨_,fun w=>by simp [execOp,hop],hq⟩
 ·rename_i x hop;exact lift ⟨_,fun w=>by simp [execOp,hop],hq⟩
 ·rename_i c a b hop;obtain ⟨t,ht,hk⟩:=j9 hq;exact lift ⟨_,fun w=>by cases t<;>simp [execOp,hop,ht,asBool],hk⟩
 ·rename_i x hop;have hk:K (e x) fun _=>True:=by
   generalize e x=v at hq ⊢;unfold nnK at hq
   split at hq<;>first|exact hq.elim|exact hq
  refine lift ⟨_,fun w=>?_,hk⟩;simp only [execOp,hop];generalize e x=v at hq ⊢;cases v with
  |pointer a=>cases a<;>first|rfl|exact hq.elim
  |nilIface=>exact hq.elim
  |nilFunc=>exact hq.elim
  |func fn f c=>cases fn<;>first|rfl|exact hq.elim
  |_=>rfl
 ·rename_i s x f hop
  split at hq
  ·rename_i off hf;obtain ⟨a,ha,hk⟩:=oW hq;exact lift (jH (.of (fun w=>AR hf w) hk) (by simp [execOp,hop,ha]))
  ·cases hq
 ·rename_i s x f hop
  split at hq
  ·rename_i off ag hf;obtain ⟨cs,hcs,hk⟩:=gV hq;unfold rR at hf
   split at hf<;>try cases hf
   rename_i fs hu
   split at hf<;>try cases hf
   rename_i fl hfl
   split at hf<;>cases hf
   rename_i hag;obtain ⟨v,hv,hk⟩:=zn hag hk;exact lift (jH (s:=Instr.field s (e x) f) (.of (fun w=>by simp [Instr.field,run_underlying hu,hfl,hcs,asAgg,hv]) hk) (by simp [execOp,hop]))
  ·cases hq
 ·rename_i x i hop;obtain ⟨vs,hvs,hk⟩:=Md hq;obtain ⟨v,hv,hk⟩:=j0 hk;exact lift (jH (s:=Instr.extract (e x) i) (.of (fun w=>by simp [Instr.extract,hvs,hv]) hk) (by simp [execOp,hop]))
 ·rename_i t x hop
  split at hq
  ·rename_i hag;obtain ⟨a,ha,v,hv,hk⟩:=oW hq;refine ⟨v,_,hv,hk,by simp [hop,wJ],fun ω h' d hst=>?_⟩
   obtain ⟨g1,_⟩:=gf hag (W ω h' d);simp [execOp,hop,ha,Instr.loadAt,Instr.sureAddr,loadVar,g1,Hl,hst]
  ·rename_i n hag;obtain ⟨a,ha,cs,hv,hk⟩:=oW hq;refine ⟨_,_,hv,hk,by simp [hop,wJ],fun ω h' d hst=>?_⟩
   obtain ⟨g1,g2⟩:=gf hag (W ω h' d);have:=run_loadCells_list (P:=P) (w:=W ω h' d) a cs (fun j v hj=>hst.2 j v hj);rw [hst.1] at this;simp [execOp,hop,ha,Instr.loadAt,Instr.sureAddr,loadVar,g1,g2 n rfl,this]
  ·cases hq
 ·rename_i t x i hop
  split at hq
  ·rename_i el hu;obtain ⟨a,len,cap,ha,hk⟩:=zs hq;obtain ⟨k,n,hi,h0,h1,hk⟩:=j4 hk;obtain ⟨inf,hinf,hk⟩:=uu hk;refine lift (jH (s:=Instr.indexAt t (e x) (e i)) (.of (fun w=>?_) hk) (by simp [execOp,hop]))
   simp [Instr.indexAt,ha,hi,asIntOf,run_underlying hu,h0,h1,cM _ _ inf hinf]
  ·rename_i len el hu;obtain ⟨a,ha,hk⟩:=oW hq;obtain ⟨k,n,hi,h0,h1,hk⟩:=j4 hk;obtain ⟨inf,hinf,hk⟩:=uu hk;refine lift (jH (s:=Instr.indexAt t (e x) (e i)) (.of (fun w=>?_) hk) (by simp [execOp,hop]))
   simp [Instr.indexAt,ha,hi,asIntOf,run_underlying hu,h0,h1,cM _ _ inf hinf,Instr.sureAddr]
  ·cases hq
 ·rename_i t x i hop
  split at hq
  ·rename_i hu;obtain ⟨s,hs,hk⟩:=iO hq;obtain ⟨k,n,hi,h0,h1,hk⟩:=j4 hk;refine lift (jH (s:=Instr.index t (e x) (e i)) (.of (fun w=>?_) hk) (by simp [execOp,hop]))
   have hb:s[n.toNat]?=some (s.data.toList.getD n.toNat 0):=by
    have hlt:n.toNat < s.size:=by omega
    have hlt':n.toNat < s.data.toList.length:=by simpa using hlt
    rw [List.getD_eq_getElem?_getD,Q7 hlt',Option.getD_some,getElem?_pos s n.toNat hlt];rfl
   simp [Instr.index,hs,hi,asIntOf,run_underlying hu,h0,hb,aU]
  ·rename_i len el hu;obtain ⟨cs,hcs,hk⟩:=gV hq;obtain ⟨k,n,hi,h0,h1,hk⟩:=j4 hk;obtain ⟨inf,hinf,hk⟩:=uu hk
   split at hk
   ·rename_i ag hag;obtain ⟨v,hv,hk⟩:=zn hag hk;refine lift (jH (s:=Instr.index t (e x) (e i)) (.of (fun w=>?_) hk) (by simp [execOp,hop]))
    simp [Instr.index,hcs,hi,asIntOf,run_underlying hu,h0,h1,cM _ _ inf hinf,hv]
   ·cases hk
  ·cases hq
 ·rename_i op t x y ty hop;cases hcn:wY y (e y) with
  |true =>
   rw [hcn] at hq;exact lift (jH (Ak (x:=x) hcn hq) (by simp [execOp,hop]))
  |false =>
   rw [hcn] at hq;exact lift (jH (DZ (x:=x) (y:=y) hq) (by simp [execOp,hop]))
 ·rename_i op t x hop;exact lift (jH (G9 hq) (by simp [execOp,hop]))
 ·rename_i s d x hop;exact lift (jH (BC hq) (by simp [execOp,hop]))
 ·rename_i t x lo hi mx hop;exact lift (jH (yS hq) (by simp [execOp,hop]))
 ·rename_i t parts hop
  split at hq
  ·rename_i z ps hz hp;obtain ⟨cs,hc,hk⟩:=Bu hz hp hq;refine lift (jH (s:=Instr.build t (parts.map fun (i,x)=>(i,e x))) (.of (fun w=>run_build w t _ _ ?_) hk) (by simp [execOp,hop]))
   simpa using hc
  ·cases hq
 ·rename_i fn first captured hop;exact lift ⟨_,fun w=>by simp [execOp,hop,Instr.makeFunc],hq⟩
 ·rename_i t x hop
  split at hq
  ·cases hq
  ·rename_i d hn hu;refine lift (jH (s:=Instr.makeInterface t (e x)) (.of (fun w=>?_) hq) (by simp [execOp,hop]))
   simp only [Instr.makeInterface,Sem.run_bind,run_underlying hu,Result.andThen_ok];cases d<;>first|rfl|exact (hn _ rfl).elim
  ·cases hq
 ·rename_i c hop
  split at hq
  ·rename_i b hb;obtain ⟨v,hv,hk⟩:=ui (ty:=o.type) (cs:=c.args.map fun|.const _=>true|_=>false) hq;refine lift ⟨v,fun w=>?_,hk⟩;have:=hv w;simp only [execOp,hop,resolve,hb,Sem.run_bind,Sem.run_pure,Result.andThen_ok,invoke];have ha:(List.map e c.args.toList).toArray=c.args.map e:=by
    apply Array.ext';rw [Array.toList_map]
   rw [ha] at this;exact this
  ·cases hq
 ·cases hq
end
end Go.Sx
