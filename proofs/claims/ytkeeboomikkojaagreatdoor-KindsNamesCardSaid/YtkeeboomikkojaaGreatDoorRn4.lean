import Derived.Test.YtkeeboomikkojaaGreatDoorRn3
import Derived.Test.YtkeeboomikkojaaGreatDoorY9
set_option maxRecDepth 100000
namespace Go.Proofs.YtkeeboomikkojaaGreatDoor
open Go Go.Sx Go.Sx.Tk Go.Sx.Rn Go.Proofs.YtkeeboomikkojaaGreatDoor.Sx
def bs (l:List UInt8):ByteArray:=⟨l.toArray⟩
theorem aK (l:List UInt8):(bs l).size=l.length:=by simp [bs,ByteArray.size]
theorem br (a b:List UInt8):bs a++bs b=bs (a++b):=by
 refine bG ?_;simp [bytesOf,bs]
theorem aF (l:List UInt8):bytesOf (bs l)=l:=by simp [bytesOf,bs]
theorem jI (s:ByteArray):bs (bytesOf s)=s:=bG (aF _)
def rk (op:Int):Int:=if op=7∨op=8 then 1 else if op=4∨op=5 then 2 else if op=6 then 3 else if op=3 then 4 else 5
def brk (m:Int)(q:Int×List UInt8):List UInt8:=if rk q.1 < m then 40::(q.2++[41]) else q.2
def sgn (op:Int):List UInt8:=if op=4 then [32,43,32] else if op=5 then [32,45,32] else if op=6 then [32,42,32] else if op=7 then [32,60,32] else [32,61,61,32]
def lmO (op:Int):Int:=if op=7∨op=8 then 2 else rk op
def exB (op:Int)(nm:ByteArray)(n:Int)(ts:List (Int×List UInt8)):List UInt8 :=
 if op=1 then Lib.itoa n else if op=2 then bytesOf nm else if op=3 then 45::brk 4 (ts.getD 0 (0,[]))
 else brk (lmO op) (ts.getD 0 (0,[]))++sgn op++brk (rk op+1) (ts.getD 1 (0,[]))
mutual
def exT:Ex→List UInt8
 |.mk op nm n l=>exB op nm n (AA l)
def AA:List Ex→List (Int×List UInt8)
 |[]=>[]
 |x::r=>(x.op,exT x)::AA r
end
theorem wx (x:Ex):exT x=exB x.op x.nm x.n (AA x.l):=by cases x;rfl
theorem BQ:∀l:List Ex,AA l=l.map fun x=>(x.op,exT x)
 |[]=>rfl
 |x::r=>by simp only [AA,List.map_cons,BQ r]
theorem I8 {x:Ex}(h:exF x=0):exH x=0∧nP x.l=0:=by
 rw [mn] at h;exact lg h
theorem Jj {x:Ex}(h:exH x=0):1≤x.op∧x.op≤8∧(x.l.length:Int)=eO x.op∧(x.n≠0→x.op=1)∧(¬emp x.nm→x.op=2)∧(x.op=2→aL x.nm=true)∧0≤x.n∧x.n < 1000000000000000000:=by
 unfold exH at h
 split at h
 ·cases h
 rename_i h1
 split at h
 ·cases h
 rename_i h2
 split at h
 ·cases h
 rename_i h3;refine ⟨by omega,by omega,?_,fun hn=>?_,fun hn=>?_,fun h2'=>?_,by omega,by omega⟩
 ·exact Q3 fun hh=>h1 (.inr (.inr (.inl hh)))
 ·exact Q3 fun hh=>h1 (.inr (.inr (.inr (.inl ⟨hn,hh⟩))))
 ·exact Q3 fun hh=>h1 (.inr (.inr (.inr (.inr ⟨hn,hh⟩))))
 ·cases hh:aL x.nm with
  |true=>rfl
  |false=>exact absurd ⟨h2',hh⟩ h2
theorem mm:∀{l:List Ex},nP l=0→∀{x:Ex},x∈l→exF x=0
 |[],_,x,hx=>absurd hx List.not_mem_nil
 |y::r,h,x,hx=>by
  unfold nP at h;obtain ⟨h1,h2⟩:=lg h;rcases List.mem_cons.1 hx with rfl|hx
  ·exact h1
  ·exact mm h2 hx
theorem xB (m:Int)(q:Int×List UInt8):(brk m q).length≤q.2.length+2:=by
 unfold brk
 split<;>simp
theorem Bz (op:Int):(sgn op).length≤4:=by
 unfold sgn
 repeat' split
 all_goals simp
theorem Mn {op:Int}{nm:ByteArray}{n:Int}{ts:List (Int×List UInt8)}(hn:-9223372036854775808≤n)(hn1:n≤9223372036854775807)(hnm:nm.size≤100):(exB op nm n ts).length≤100+(ts.map fun q=>q.2.length).sum:=by
 unfold exB
 split
 ·have:=Lib.itoa_length_le n hn hn1;omega
 split
 ·rw [aH];omega
 split
 ·have:=xB 4 (ts.getD 0 (0,[]));cases ts with
  |nil=>simp at *;omega
  |cons q r=>simp at *;omega
 ·have h1:=xB (lmO op) (ts.getD 0 (0,[]));have h2:=xB (rk op+1) (ts.getD 1 (0,[]));have h3:=Bz op;rw [Qd,Qd]
  match ts with
  |[]=>simp at *;omega
  |[q]=>simp at *;omega
  |q::q2::r=>simp at *;omega
mutual
theorem yn:∀(x:Ex),exF x=0→y2 x→(exT x).length≤100*exN x
 |.mk op nm n l,hf,ho=>by
  obtain ⟨h1,h2⟩:=I8 hf;obtain ⟨_,_,_,_,_,_,g1,g2⟩:=Jj h1;obtain ⟨o1,o2⟩:=gi.1 ho;have g1:0≤n:=g1;have g2:n < 1000000000000000000:=g2;have hl:=tM l h2 o2;unfold exT exN;have hb:=Mn (op:=op) (nm:=nm) (n:=n) (ts:=AA l) (by omega) (by omega) o1
  omega
theorem tM:∀(l:List Ex),nP l=0→gW l→((AA l).map fun q=>q.2.length).sum≤100*cw l
 |[],_,_=>by simp [AA]
 |x::r,hf,ho=>by
  unfold nP at hf;obtain ⟨h1,h2⟩:=lg hf;unfold gW at ho;have a:=yn x h1 ho.1;have b:=tM r h2 ho.2;unfold AA cw;simp only [List.map_cons,List.sum_cons];omega
end
theorem sD {x:Ex}(hf:exF x=0)(ho:y2 x)(m:Int):(brk m (x.op,exT x)).length≤100*exN x+2:=by
 have:=xB m (x.op,exT x);have:=yn x hf ho;simp only at *;omega
theorem ar.cells {h h':Hp}(k:KF h h'){a:Addr}{n:Nat}{C:List Value}(hc:aj h a n C):aj h' a n C:=⟨hc.1,fun j u hu=>k.cell (hc.2 j u hu) (by simp)⟩
theorem Kl {h0 h:Hp}{v:Value}{l:List Ex}(hs:ExS h0 v l)(k:KF h0 h){i:Nat}{x:Ex}(hx:l[i]?=some x){K:Addr→List Value→Prop}(hk:∀a w,ExS h0 w x.l→aj h (Addr.add a (Int.toNat (i:Int)*4)) 4 (exC x w)→K a (exC x w)) :
  aI v fun a l _=>0≤(i:Int)∧(i:Int) < (l:Int)∧∃C,aj h (Addr.add a (Int.toNat (i:Int)*4)) 4 C∧K a C:=by
 obtain ⟨us,w,h1,h2,h3⟩:=hs.at_ hx;have h1':=h1.aC k;have hi:=(Q6.1 hx).1;rcases h1'.2 with ⟨h0',_⟩|⟨b,o,cap,rfl,hc⟩
 ·omega
 ·rw [asSl1_sl];have hcc:aj h (Addr.add ⟨b,o,none⟩ (Int.toNat (i:Int)*4)) 4 (exC x w):=by
   refine ⟨rfl,fun j u hu=>?_⟩;rw [aP,aP,Qm,Nat.add_assoc];rw [←h2,Qh] at hu
   split at hu
   ·rw [Qi] at hu;exact hc _ u hu
   ·cases hu
  exact ⟨by omega,by omega,_,hcc,hk _ w h3 hcc⟩
section
variable  {ω:Amb}
theorem CQ (op:Int)(h:Hp)(X:XT):aa Tryz.prog ω xK [.int .i64 op] h (fun r h'=>r=.int .i64 (rk op)∧h=h') X:=by
 refine xJ ω _ h _ X ?_;unfold rD;simp only [asK_int];refine ⟨fun v h'=>v=.bool (decide (op=7∨op=8))∧h=h',?_,?_⟩
 ·refine ae (fun hc=>?_) (fun hc=>?_)
  ·rw [hc,Z7 (.inl (Zg hc))];exact ⟨rfl,rfl⟩
  ·have:=Qa.1 hc;refine ⟨?_,rfl⟩
   congr 1
   rw [Qz];simp [this]
 rintro _ _ _ ⟨rfl,rfl⟩;rw [asB_bool];refine ae (fun hc=>?_) (fun hc=>?_)
 ·exact ⟨by rw [rk,if_pos (Qj hc)],rfl⟩
 have c1:=Qc hc;refine ⟨fun v h'=>v=.bool (decide (op=4∨op=5))∧h=h',?_,?_⟩
 ·refine ae (fun hc=>?_) (fun hc=>?_)
  ·rw [hc,Z7 (.inl (Zg hc))];exact ⟨rfl,rfl⟩
  ·have:=Qa.1 hc;refine ⟨?_,rfl⟩
   congr 1
   rw [Qz];simp [this]
 rintro _ _ _ ⟨rfl,rfl⟩;rw [asB_bool];refine ae (fun hc=>?_) (fun hc=>?_)
 ·exact ⟨by rw [rk,if_neg c1,if_pos (Qj hc)],rfl⟩
 have c2:=Qc hc;refine ae (fun hc=>?_) (fun hc=>?_)
 ·have:=Zg hc;exact ⟨by rw [rk,if_neg c1,if_neg c2,if_pos this],rfl⟩
 have c3:=Qa.1 hc;refine ae (fun hc=>?_) (fun hc=>?_)
 ·have:=Zg hc;exact ⟨by rw [rk,if_neg c1,if_neg c2,if_neg c3,if_pos this],rfl⟩
 have c4:=Qa.1 hc;exact ⟨by rw [rk,if_neg c1,if_neg c2,if_neg c3,if_neg c4],rfl⟩
def NH (ω:Amb)(x:Ex):Prop:=∀(h:Hp) (w:Value),ExS h w x.l→fe h→∀(X:XT),
 aa Tryz.prog ω yr [.agg (exC x w).toArray] h (fun r h'=>r=.string (bs (exT x))∧KF h h') X
def AtL (ω:Amb)(x:Ex):Prop:=∀(h:Hp) (w:Value) (m:Int),ExS h w x.l→fe h→∀(X:XT),
 aa Tryz.prog ω qp [.agg (exC x w).toArray,.int .i64 m] h (fun r h'=>r=.string (bs (brk m (x.op,exT x)))∧KF h h') X
theorem N1 {x:Ex}(hf:exF x=0)(ho:y2 x)(hl:exN x≤100000)(hE:NH ω x):AtL ω x:=by
 intro h w m hw ht X;refine AJ ω _ _ h _ X ?_;unfold uG;simp only [eI];have hb1:=ah (h:=h) (o:=.cells (exC x w).toArray 36 (0,0));have kp:=ar.push (S:=fun _=>False) h (.cells (exC x w).toArray 36 (0,0));generalize h.push (.cells (exC x w).toArray 36 (0,0))=h1 at *;refine ⟨_,ak hb1 rfl,?_⟩;refine aa.use (hE h1 w (hw.aC kp) (ht.more kp)) ?_;rintro _ h2 ⟨rfl,k2⟩;have hb2:=k2.get hb1 (by simp)
 refine lx hb2 (j:=0) rfl ?_;refine aa.use (CQ x.op h2) ?_;rintro _ _ ⟨rfl,rfl⟩;rw [asK_int,asK_int];have hlen:=yn x hf ho;have h40:(⟨#[40]⟩:ByteArray)=bs [40]:=rfl;have h41:(⟨#[41]⟩:ByteArray)=bs [41]:=rfl;refine ae (fun hc=>?_) (fun hc=>?_)
 ·have hlt:rk x.op < m:=Qj hc;rw [asS_str,h40,h41,br,br];simp only [aK];refine ⟨by simp;omega,by simp;omega,?_,kp.trans k2⟩
  rw [brk,if_pos hlt];rfl
 ·have hlt:¬rk x.op < m:=Qc hc;exact ⟨by rw [brk,if_neg hlt],kp.trans k2⟩
end
theorem BM {l:List Ex}{i:Nat}{y:Ex}(h:l[i]?=some y):(AA l).getD i (0,[])=(y.op,exT y):=by
 rw [BQ,List.getD_eq_getElem?_getD,List.getElem?_map,h];rfl
theorem KQ {l:List Ex}(h:l.length=2):∃a b,l=[a,b]:=by
 match l,h with
 |[a,b],_=>exact ⟨a,b,rfl⟩
theorem E3 {l:List Ex}(h:l.length=1):∃a,l=[a]:=by
 match l,h with
 |[a],_=>exact ⟨a,rfl⟩
theorem HD {x a b:Ex}(hl:x.l=[a,b])(h1:x.op≠1)(h2:x.op≠2)(h3:x.op≠3):exT x=brk (lmO x.op) (a.op,exT a)++sgn x.op++brk (rk x.op+1) (b.op,exT b):=by
 rw [wx,exB,if_neg h1,if_neg h2,if_neg h3,BM (i:=0) (y:=a) (by rw [hl];rfl),BM (i:=1) (y:=b) (by rw [hl];rfl)]
theorem Gd {x a:Ex}(hl:x.l=[a])(h3:x.op=3):exT x=45::brk 4 (a.op,exT a):=by
 rw [wx,exB,if_neg (by omega),if_neg (by omega),if_pos h3,BM (i:=0) (y:=a) (by rw [hl];rfl)]
section
variable  {ω:Amb}
set_option maxHeartbeats 400000 in
theorem Io : ∀ (N : Nat) (x : Ex), exN x < N → exN x ≤ 100000 → y2 x → exF x = 0 → NH ω x := by
  intro N
  induction N with
  | zero => exact fun l hN => absurd hN (Nat.not_lt_zero _)
  | succ N ih =>
    intro x hN hle hok hF h w hw ht X
    refine ye ω _ h _ X ?_
    unfold rn
    simp only [eI]
    obtain ⟨hnm, hokl⟩ := gi.1 hok
    have hxe := gA x
    obtain ⟨hH, hFl⟩ := I8 hF
    obtain ⟨g1, g2, g3, g4, g5, g6, g7, g8⟩ := Jj hH
    have hch : ∀ {y : Ex}, y ∈ x.l → AtL ω y ∧ exN y ≤ cw x.l ∧ exF y = 0 ∧ y2 y := fun {y} hy => by
      have := cr hy
      exact ⟨N1 (mm hFl hy) (cb hokl hy) (by omega) (ih y (by omega) (by omega) (cb hokl hy) (mm hFl hy)), this, mm hFl hy, cb hokl hy⟩
    have hb1 := ah (h := h) (o := .cells (exC x w).toArray 36 (0, 0))
    have kp := ar.push (S := fun _ => False) h (.cells (exC x w).toArray 36 (0, 0))
    generalize h.push (.cells (exC x w).toArray 36 (0, 0)) = h1 at *
    have hw1 := hw.aC kp
    have ht1 := ht.more kp
    refine lx hb1 (j := 0) rfl ?_
    refine aa.use (CQ x.op h1) ?_
    rintro _ _ ⟨rfl, rfl⟩
    refine lx hb1 (j := 0) rfl ?_
    rw [asK_int]
    refine ae (fun hc => ?_) (fun hc => ?_)
    · have h1o : x.op = 1 := Zg hc
      refine lx hb1 (j := 2) rfl ?_
      refine aa.use (rf x.n (by omega) (by omega) _ ht1) ?_
      rintro _ h2 ⟨rfl, k2⟩
      refine ⟨?_, kp.trans k2⟩
      rw [wx, exB, if_pos h1o]
      rfl
    have n1 : x.op ≠ 1 := Qa.1 hc
    rw [asK_int]
    refine ae (fun hc => ?_) (fun hc => ?_)
    · have h2o : x.op = 2 := Zg hc
      refine lx hb1 (j := 1) rfl ⟨?_, kp⟩
      rw [wx, exB, if_neg n1, if_pos h2o, jI]
    have n2 : x.op ≠ 2 := Qa.1 hc
    rw [asK_int]
    refine ae (fun hc => ?_) (fun hc => ?_)
    · have h3o : x.op = 3 := Zg hc
      have hl1 : x.l.length = 1 := by
        rw [eO, if_neg (by omega), if_pos h3o] at g3
        omega
      obtain ⟨a, ha⟩ := E3 hl1
      obtain ⟨hA, hA2, hA3, hA4⟩ := hch (y := a) (by rw [ha]; exact Qf.2 rfl)
      refine lx hb1 (j := 3) rfl ?_
      refine hw1.rdC (i := 0) (x := a) (by rw [ha]; rfl) fun wa hwa => ?_
      rw [show rk x.op = 4 by rw [h3o]; rfl]
      refine aa.use (hA _ wa 4 hwa ht1) ?_
      rintro _ h2 ⟨rfl, k2⟩
      have hlen := sD hA3 hA4 4
      rw [asS_str, show (⟨#[45]⟩ : ByteArray) = bs [45] from rfl, br]
      simp only [aK]
      refine ⟨by simp; omega, ?_, kp.trans k2⟩
      rw [Gd ha h3o]
      rfl
    have n3 : x.op ≠ 3 := Qa.1 hc
    have hl2 : x.l.length = 2 := by
      rw [eO, if_neg (by omega), if_neg n3] at g3
      omega
    obtain ⟨a, b, hab⟩ := KQ hl2
    obtain ⟨hA, hA2, hA3, hA4⟩ := hch (y := a) (by rw [hab]; simp)
    obtain ⟨hB, hB2, hB3, hB4⟩ := hch (y := b) (by rw [hab]; simp)
    have ga : x.l[0]? = some a := by rw [hab]; rfl
    have gb : x.l[1]? = some b := by rw [hab]; rfl
    have hT := HD hab n1 n2 n3
    have T : ∀ (m1 m2 : Int) (sg : List UInt8), sg.length ≤ 4 → exT x = brk m1 (a.op, exT a) ++ sg ++ brk m2 (b.op, exT b) → ∀ (aw : Value) (ax : Addr), aj h1 ax 4 (exC b aw) → ExS h1 aw b.l → ∀ (wa : Value), ExS h1 wa a.l → ∀ (sv : Value), sv = .string (bs sg) →
        aa Tryz.prog ω qp [.agg (exC a wa).toArray, .int .i64 m1] h1 (fun r2 h2 => aj h2 ax 4 (exC b aw) ∧ af h2 (Addr.add ⟨Array.size h, 0, none⟩ 3) = some w ∧ asS r2 fun s2 => asS sv fun s0 => s2.size + s0.size ≤ 9223372036854775807 ∧
          aa Tryz.prog ω qp [.agg (exC b aw).toArray, .int .i64 m2] h2 (fun r3 h3 => asS r3 fun s3 => (s2 ++ s0).size + s3.size ≤ 9223372036854775807 ∧ ((.string ((s2 ++ s0) ++ s3) : Value) = .string (bs (exT x)) ∧ KF h h3)) X) X := by
      intro m1 m2 sg hsg hTx aw ax hcx hax wa hwa sv hsv
      subst hsv
      have l1 := sD hA3 hA4 m1
      have l2 := sD hB3 hB4 m2
      refine aa.use (hA h1 wa m1 hwa ht1) ?_
      rintro _ h2 ⟨rfl, k2⟩
      have hb2 := k2.get hb1 (by simp)
      refine ⟨ar.cells k2 hcx, lx' hb2 rfl, ?_⟩
      rw [asS_str, asS_str, br]
      simp only [aK]
      refine ⟨by omega, ?_⟩
      refine aa.use (hB h2 aw m2 (hax.aC k2) (ht1.more k2)) ?_
      rintro _ h3 ⟨rfl, k3⟩
      rw [asS_str, br]
      simp only [aK, Qd]
      exact ⟨by omega, by rw [hTx], (kp.trans k2).trans k3⟩
    rw [asK_int]
    refine ae (fun hc => ?_) (fun hc => ?_)
    · have h7o : x.op = 7 := Zg hc
      refine lx hb1 (j := 3) rfl ?_
      refine Kl hw1 (ar.refl _ _) ga fun _ wa hwa _ => ?_
      rw [asK_int]
      refine lx hb1 (j := 3) rfl ?_
      refine Kl hw1 (ar.refl _ _) gb fun ax wb hwb hcx => ?_
      rw [asK_int, show rk x.op = 1 by rw [h7o]; rfl]
      exact T 2 2 [32, 60, 32] (by simp) (by rw [hT, h7o]; rfl) wb _ hcx hwb wa hwa _ rfl
    have n7 : x.op ≠ 7 := Qa.1 hc
    rw [asK_int]
    refine ae (fun hc => ?_) (fun hc => ?_)
    · have h8o : x.op = 8 := Zg hc
      refine lx hb1 (j := 3) rfl ?_
      refine Kl hw1 (ar.refl _ _) ga fun _ wa hwa _ => ?_
      rw [asK_int]
      refine lx hb1 (j := 3) rfl ?_
      refine Kl hw1 (ar.refl _ _) gb fun ax wb hwb hcx => ?_
      rw [asK_int, show rk x.op = 1 by rw [h8o]; rfl]
      exact T 2 2 [32, 61, 61, 32] (by simp) (by rw [hT, h8o]; rfl) wb _ hcx hwb wa hwa _ rfl
    have n8 : x.op ≠ 8 := Qa.1 hc
    refine lx hb1 (j := 0) rfl ?_
    rw [asK_int, i64_in (by omega) (by omega)]
    refine ⟨by omega, by omega, ?_⟩
    have hsv : (#[(.string ⟨#[32, 43, 32]⟩), (.string ⟨#[32, 45, 32]⟩), (.string ⟨#[32, 42, 32]⟩)] : Array Value)[Int.toNat (x.op - 4) * 1]? = some (.string (bs (sgn x.op))) := by
      have h456 : x.op = 4 ∨ x.op = 5 ∨ x.op = 6 := by omega
      rcases h456 with h | h | h <;> rw [h] <;> rfl
    rw [hsv]
    refine lx hb1 (j := 3) rfl ?_
    refine Kl hw1 (ar.refl _ _) ga fun _ wa hwa _ => ?_
    refine lx hb1 (j := 3) rfl ?_
    refine Kl hw1 (ar.refl _ _) gb fun ax wb hwb hcx => ?_
    have hr : 1 ≤ rk x.op ∧ rk x.op ≤ 5 := by unfold rk; repeat' split
                                              all_goals omega
    rw [asK_int, i64_in (by omega) (by omega)]
    exact T (rk x.op) (rk x.op + 1) (sgn x.op) (Bz _) (by rw [hT, lmO, if_neg (by omega)]) wb _ hcx hwb wa hwa _ rfl
end
section
variable  {ω:Amb}
end
end Go.Proofs.YtkeeboomikkojaaGreatDoor
namespace Go.Proofs.YtkeeboomikkojaaGreatDoor
open Go Go.Sx Go.Sx.Rn Go.Shelf Go.RowKit Go.Proofs.YtkeeboomikkojaaGreatDoor.Sx
def lf (B b:Nat)(p:Value)(d:Int)(bs:List Value)(w:World):Prop :=
 B≤b∧∃v,w.heap[b]?=some (.cells #[p,v,.int .i64 d] 111 (0,0))∧w.ownsRowF B 5 1 v bs.length bs∧v.ownBlock≠some b
def BO (B b:Nat)(d:Int)(bs:List Value)(w:World):Prop:=lf B b (.pointer none) d bs w∨lf B b (.pointer (some ⟨b,0,none⟩)) d bs w
theorem JX:Builder.Extra Tryz.prog gY:=uy gY rfl rfl
theorem Nx:liesAt Tryz.prog Tryz.prog.depth 111 (3 / Tryz.prog.cellsOf 111) 0 109 1=true:=by kernel_rfl
theorem Np:(Tryz.prog.info? 109).map (·.size)=some 2:=by kernel_rfl
theorem lf.used {B b:Nat}{p:Value}{d:Int}{bs:List Value}{w:World}(h:lf B b p d bs w)(q:Value):lf B b q d bs (w.setCell ⟨b,0,none⟩ q):=by
 obtain ⟨hB,v,hb,hown,hne⟩:=h;refine ⟨hB,v,?_,?_,hne⟩
 ·simp [World.setCell,Array.getElem?_modify,hb]
 ·refine hown.kept (row:=some b) ⟨rfl,rfl,rfl,by simp [World.setCell],fun k _ hk=>Below.heap_setCell _ _ _ _ (fun e=>hk (by simp [e]))⟩ ?_
  exact Or.inr hne
theorem lf.put {B b:Nat}{p v v':Value}{d:Int}{bs':List Value}{w:World}(hB:B≤b)(hb:w.heap[b]?=some (.cells #[p,v,.int .i64 d] 111 (0,0)))(hown:w.ownsRowF B 5 1 v' bs'.length bs') :
  lf B b p d bs' (w.setCell ⟨b,1,none⟩ v'):=by
 have hne:=Lib.ownBlock_neF hown hb (by decide)
 refine ⟨hB,v',?_,?_,hne⟩
 ·simp [World.setCell,Array.getElem?_modify,hb]
 ·exact hown.kept (row:=some b) ⟨rfl,rfl,rfl,by simp [World.setCell],fun k _ hk=>Below.heap_setCell _ _ _ _ (fun e=>hk (by simp [e]))⟩ (Or.inr hne)
set_option maxHeartbeats 1000000 in
theorem Ei (b:Nat)(w:World)(h0:w.cell? ⟨b,0,none⟩=some (.pointer none))(hsh:w.shape? b=some (111,3))(hfz:w.frozen? ⟨b,0,none⟩=false) :
  Calls Tryz.prog 112 #[.pointer (some ⟨b,0,none⟩)] w fun e w'=>e=.returned (.tuple #[])∧w'=w.setCell ⟨b,0,none⟩ (.pointer (some ⟨b,0,none⟩)):=by
 obtain ⟨j,hj,hjs⟩:=Option.map_eq_some_iff.1 Np;have L:Lays.n240 Tryz.prog gY:={ yq with }
 have mixed:=L.mixed;have t72:=L.t72;have a72:=L.a72;have z72:=L.z72;have v72:=L.v72;have u72:=run_underlying L.t72;have t70:=L.t70;have a70:=L.a70;have z70:=L.z70;have v70:=L.v70;have u70:=run_underlying L.t70;have t9:=L.t9;have a9:=L.a9;have z9:=L.z9;have v9:=L.v9;have u9:=run_underlying L.t9;have t4:=L.t4;have a4:=L.a4;have z4:=L.z4;have v4:=L.v4;have u4:=run_underlying L.t4;have t164:=L.t164;have a164:=L.a164;have z164:=L.z164;have v164:=L.v164;have u164:=run_underlying L.t164
 show Calls Tryz.prog (gY.f 240) #[.pointer (some ⟨b,0,none⟩)] w _
 go_enter L.f240,Body.n240_ntmps gY
 go_wp2
 rw [Lib.run_to_unsafe w ⟨b,0,none⟩ L.t70 L.t164 hj (by rw [hjs];decide) hsh (Nat.zero_lt_succ 2)]
 simp only [Result.andThen];rw [Oper.upon_value]
 go_wp2
 rw [run_callFunc_extern L.f276 (by kernel_rfl) (by kernel_rfl) (by kernel_rfl) (e:=Extern.AbiNoEscape.same) (by kernel_rfl)]
 rw [Lib.run_noEscape];simp only [Result.andThen];rw [Oper.upon_value]
 go_wp2
 rw [Lib.run_from_unsafe w ⟨b,0,none⟩ L.t164 L.t70 hj hsh Nx];simp only [Result.andThen];rw [Oper.upon_value]
 go_wp2
 go_end0
 exact ⟨rfl,rfl⟩
theorem Es (B b:Nat)(d:Int)(bs:List Value)(w:World)(h:BO B b d bs w) :
  Calls Tryz.prog 112 #[.pointer (some ⟨b,0,none⟩)] w fun e w'=>e=.returned (.tuple #[])∧(lf B b (.pointer (some ⟨b,0,none⟩)) d bs w'∧Below B w w'∧Lib.OthersKept 5 (some b) w w'):=by
 rcases h with h|h
 ·obtain ⟨hB,v,hb,hown,hne⟩:=h;refine (Ei b w (by rw [Lib.cell_of_heap hb];rfl) (by simp [World.shape?,hb]) (Lib.frozen_of_heap hb 0)).mono ?_
  rintro e w' ⟨rfl,rfl⟩;exact ⟨rfl,lf.used ⟨hB,v,hb,hown,hne⟩ _,(Below.refl B w).setCell (p:=⟨b,0,none⟩) hB _,(Lib.OthersKept.refl _ _ w).setCell ⟨b,0,none⟩ rfl _⟩
 ·obtain ⟨hB,v,hb,hown,hne⟩:=h;have:=Any.Builder_copyCheck_used { yq with } JX.toX72 b w (by rw [Lib.cell_of_heap hb];rfl)
  refine Calls.mono (show Calls Tryz.prog 112 #[.pointer (some ⟨b,0,none⟩)] w _ from this) ?_
  rintro e w' ⟨rfl,rfl⟩;exact ⟨rfl,⟨hB,v,hb,hown,hne⟩,Below.refl B _,Lib.OthersKept.refl _ _ _⟩
set_option maxHeartbeats 2000000 in
theorem DW (B b:Nat)(d:Int)(bs:List Value)(s:ByteArray)(w:World)(h:BO B b d bs w)(hlen:bs.length+s.size≤140737488355328)(hBw:B≤w.heap.size) :
  Calls Tryz.prog 88 #[.pointer (some ⟨b,0,none⟩),.string s] w fun e w'=>e=.returned (.tuple #[.int .i64 s.size,.nilIface])∧(lf B b (.pointer (some ⟨b,0,none⟩)) d (bs++Lib.strCells s) w'∧Below B w w'∧Lib.OthersKept 5 (some b) w w'):=by
 have X:=JX;have L:Lays.n166 Tryz.prog gY:=yq;obtain ⟨i0,hi,hz0,hz1,hz2⟩:=info_parts X.infoByte;have mixed:=L.mixed;have t72:=L.t72;have a72:=L.a72;have z72:=L.z72;have v72:=L.v72;have u72:=run_underlying L.t72;have t70:=L.t70;have a70:=L.a70;have z70:=L.z70;have v70:=L.v70;have u70:=run_underlying L.t70;have t37:=L.t37;have a37:=L.a37;have z37:=L.z37;have v37:=L.v37;have u37:=run_underlying L.t37
 have t3:=L.t3;have a3:=L.a3;have z3:=L.z3;have v3:=L.v3;have u3:=run_underlying L.t3;have t9:=L.t9;have a9:=L.a9;have z9:=L.z9;have v9:=L.v9;have u9:=run_underlying L.t9;have t4:=L.t4;have a4:=L.a4;have z4:=L.z4;have v4:=L.v4;have u4:=run_underlying L.t4;have t164:=L.t164;have a164:=L.a164;have z164:=L.z164;have v164:=L.v164;have u164:=run_underlying L.t164;have t5:=X.t5;have a5:=X.a5;have z5:=X.z5;have v5:=X.v5;have u5:=run_underlying X.t5
 have e240:∀args w,(callFunc (gY.f 240) args).run Tryz.prog w=.ok (.enter (gY.f 240) args) w:=enters_of L.f240 (by kernel_rfl) rfl
 show Calls Tryz.prog (gY.f 166) #[.pointer (some ⟨b,0,none⟩),.string s] w _
 go_enter L.f166,Body.n166_ntmps gY
 go_wp2_with (go_at_fn (gY.f 240);refine (Es B b d bs _ h).mono ?_)
 rintro e w1 ⟨rfl,h1,hb1,hk1⟩;obtain ⟨hB,v,hbk,hown,hne⟩:=h1;have c0:w1.cell? ⟨b,0,none⟩=some (.pointer (some ⟨b,0,none⟩)):=by rw [Lib.cell_of_heap hbk];rfl
 have c1:w1.cell? ⟨b,1,none⟩=some v:=by rw [Lib.cell_of_heap hbk];rfl
 go_wp2_with (at_builtin;refine Lib.wpList_append_own_stringF _ rfl _ _ (gY.t 37) (gY.t 9) rfl B (gY.t 5) i0 L.t37 L.t9 hi hz0 hz1 hz2 _ _ _ rfl hown s rfl ?c3 ?c4 ?c5 ?_)
 case c3=>unfold maxLen;omega
 case c4=>omega
 case c5=>have:=hb1.size;omega
 intro v' w2 hown' hgrow _;have hlt:b < w1.heap.size:=by
  rcases Nat.lt_or_ge b w1.heap.size with h'|h'
  ·exact h'
  ·simp [Array.getElem?_eq_none h'] at hbk
 have hb2:w2.heap[b]?=some (.cells #[.pointer (some ⟨b,0,none⟩),v,.int .i64 d] 111 (0,0)):=by
  rw [hgrow.block b hlt (fun e=>hne e.symm)];exact hbk
 have d0:w2.cell? ⟨b,0,none⟩=some (.pointer (some ⟨b,0,none⟩)):=by rw [Lib.cell_of_heap hb2];rfl
 have d1:w2.cell? ⟨b,1,none⟩=some v:=by rw [Lib.cell_of_heap hb2];rfl
 have f1:w2.frozen? ⟨b,1,none⟩=false:=Lib.frozen_of_heap hb2 1;obtain ⟨ao,n',cap,rfl⟩:∃ao n' cap,v'=.slice ao n' cap:=by
  rcases hown'.2 with ⟨hv,_⟩|⟨g,cap,cur,fz,hv,_⟩
  ·exact ⟨_,_,_,hv⟩
  ·exact ⟨_,_,_,hv⟩
 go_wp2
 go_ret2
 refine ⟨rfl,?_,?_,(hk1.grown hgrow (Lib.ownsRowF_kind hown)).setCell ⟨b,1,none⟩ rfl _⟩
 ·exact lf.put hB hb2 (bs':=bs++Lib.strCells s) (by have hh:w2.ownsRowF B 5 1 (Value.slice ao n' cap) (bs.length+s.size) (bs++Lib.strCells s):=hown';simpa [Lib.strCells_length] using hh)
 ·exact (hb1.grown hgrow (by have:=hb1.size;omega) (fun k hk=>(hown.lt k hk).1)).setCell (p:=⟨b,1,none⟩) hB _
set_option maxHeartbeats 1000000 in
theorem AS (B b:Nat)(d:Int)(l:List UInt8)(w:World)(h:BO B b d (Lib.byteCells l) w)(h0:l≠[]) :
  Calls Tryz.prog 64 #[.pointer (some ⟨b,0,none⟩)] w fun e w'=>e=.returned (.string ⟨l.toArray⟩)∧(Below B w w'):=by
 have X:Builder.Extra Tryz.prog gu:=uy gu rfl rfl;have L:Lays.n169 Tryz.prog gu:=HA;obtain ⟨p,hp,hAt⟩:∃p,(p=.pointer none∨p=.pointer (some ⟨b,0,none⟩))∧lf B b p d (Lib.byteCells l) w:=by
  rcases h with h|h
  ·exact ⟨_,.inl rfl,h⟩
  ·exact ⟨_,.inr rfl,h⟩
 obtain ⟨hB,v,hbk,hown,hne⟩:=hAt;have hl0:l.length≠0:=by simpa using h0
 rw [Lib.byteCells_length] at hown;obtain ⟨g,cap,cur,fz,rfl,hbg,hg,hfz,hnc,hcm,hcs,htake⟩:∃g cap cur fz,v=.slice (some ⟨g,0,none⟩) l.length cap∧B≤g∧w.heap[g]?=some (.cells cur 5 fz)∧fz.2≤l.length*1∧l.length≤cap∧cap≤maxLen∧cur.size=cap*1∧cur.toList.take (l.length*1)=Lib.byteCells l:=by
  rcases hown.2 with ⟨_,hz⟩|⟨g,cap,cur,fz,hv,r⟩
  ·exact absurd hz hl0
  ·exact ⟨g,cap,cur,fz,hv,r⟩
 have c1:w.drew.cell? ⟨b,1,none⟩=some (.slice (some ⟨g,0,none⟩) l.length cap):=by
  have:w.drew.heap[b]?=some (.cells #[p,.slice (some ⟨g,0,none⟩) l.length cap,.int .i64 d] 111 (0,0)):=hbk;rw [Lib.cell_of_heap this];rfl
 have hSD:(Builtin.unsafeSliceData_ #[(gu.t 37)] (gu.t 127) #[.slice (some ⟨g,0,none⟩) l.length cap]).run Tryz.prog w.drew=.ok (.pointer (some ⟨g,0,none⟩)) w.drew :=
  Lib.run_unsafeSliceData_row _ _ _ _ _ _ (by omega)
 have hUS:(Builtin.unsafeString_ #[(gu.t 127),(gu.t 3)] (gu.t 9) #[.pointer (some ⟨g,0,none⟩),.int .i64 l.length]).run Tryz.prog w.drew=.ok (.string ⟨l.toArray⟩) (w.drew.freeze ⟨g,0,none⟩ l.length):=by
  refine Lib.run_unsafeString_row w.drew (gu.t 127) (gu.t 3) (gu.t 9) (gu.t 5) L.t127 X.cellsByte g cur.size (by have hg':w.drew.heap[g]?=some (.cells cur (gu.t 5) fz):=hg;simp [World.shape?,hg']) l h0 (by omega) (by unfold maxLen at hcm;omega) ?_
  intro j x hx;have:=hown.cells (g:=g) rfl j (.int .u8 x.toNat) (by simp [Lib.byteCells,hx])
  exact this
 have mixed:=L.mixed;have t72:=L.t72;have a72:=L.a72;have z72:=L.z72;have v72:=L.v72;have u72:=run_underlying L.t72;have t70:=L.t70;have a70:=L.a70;have z70:=L.z70;have v70:=L.v70;have u70:=run_underlying L.t70;have t37:=L.t37;have a37:=L.a37;have z37:=L.z37;have v37:=L.v37;have u37:=run_underlying L.t37;have t127:=L.t127;have a127:=L.a127;have z127:=L.z127;have v127:=L.v127;have u127:=run_underlying L.t127
 have t3:=L.t3;have a3:=L.a3;have z3:=L.z3;have v3:=L.v3;have u3:=run_underlying L.t3;have t9:=L.t9;have a9:=L.a9;have z9:=L.z9;have v9:=L.v9;have u9:=run_underlying L.t9;have t5:=X.t5;have a5:=X.a5;have z5:=X.z5;have v5:=X.v5;have u5:=run_underlying X.t5;show Calls Tryz.prog (gu.f 169) #[.pointer (some ⟨b,0,none⟩)] w _
 go_enter L.f169,Body.n169_ntmps gu
 go_wp2
 go_region_o
 all_goals (go_wp2;go_ret;exact ⟨rfl,Lib.below_freeze (Below.drew (Below.refl B w)) (p:=⟨g,0,none⟩) hbg _⟩)
def Pg (h:Hp)(B b:Nat)(d:Int)(l:List UInt8):Prop :=
 ∃p v,(p=.pointer none∨p=.pointer (some ⟨b,0,none⟩))∧B≤b∧h[b]?=some (.cells #[p,v,.int .i64 d] 111 (0,0))∧(∀(ω:Amb) (n:Nat),(W ω h n).ownsRowF B 5 1 v l.length (Lib.byteCells l))∧v.ownBlock≠some b
theorem Pg.is {h:Hp}{B b:Nat}{d:Int}{l:List UInt8}(hp:Pg h B b d l)(ω:Amb)(n:Nat):BO B b d (Lib.byteCells l) (W ω h n):=by
 obtain ⟨p,v,hp,h1,h2,h3,h4⟩:=hp;have:lf B b p d (Lib.byteCells l) (W ω h n):=⟨h1,v,h2,by rw [Lib.byteCells_length];exact h3 ω n,h4⟩
 rcases hp with rfl|rfl
 ·exact .inl this
 ·exact .inr this
theorem Pg.new {h:Hp}{B b:Nat}{d:Int}(hB:B≤b)(hb:h[b]?=some (.cells #[.pointer none,.slice none 0 0,.int .i64 d] 111 (0,0))):Pg h B b d [] :=
 ⟨_,_,.inl rfl,hB,hb,fun _ _=>⟨rfl,.inl ⟨rfl,rfl⟩⟩,by simp [Value.ownBlock]⟩
theorem vK {h h':Hp}{B:Nat}{v:Value}{n:Nat}{xs:List Value}(ho:∀(ω:Amb) (m:Nat),(W ω h m).ownsRowF B 5 1 v n xs)(k:∀g,v.ownBlock=some g→g < h.size→h'[g]?=h[g]?) :
  ∀(ω:Amb) (m:Nat),(W ω h' m).ownsRowF B 5 1 v n xs:=fun ω m=>by
 obtain ⟨e1,e2⟩:=ho ω m;refine ⟨e1,?_⟩;rcases e2 with e2|⟨g,cap,cur,fz,e3,e4,e5,rest⟩
 ·exact .inl e2
 ·have e5:h[g]?=_:=e5;exact .inr ⟨g,cap,cur,fz,e3,e4,(k g (by rw [e3];rfl) (gd e5)).trans e5,rest⟩
theorem Pg.more {h h':Hp}{B b:Nat}{d:Int}{l:List UInt8}(hp:Pg h B b d l)(k:KF h h'):Pg h' B b d l:=by
 obtain ⟨p,v,hp,h1,h2,h3,h4⟩:=hp;exact ⟨p,v,hp,h1,k.get h2 (by simp),vK h3 fun g _ hl=>k.block g hl (by simp),h4⟩
section
variable  {ω:Amb}
theorem DN (hω:ω.low=0){h:Hp}{B b:Nat}{d:Int}{l:List UInt8}(hp:Pg h B b d l)(s:ByteArray)(hl:l.length+s.size≤100000000)(hB:B≤h.size)(X:XT) :
  aa Tryz.prog ω 88 [.pointer (some ⟨b,0,none⟩),.string s] h (fun _ h'=>Pg h' B b d (l++bytesOf s)∧ar (fun k=>B≤k) h h'∧Oth b h h') X:=by
 intro n;have hc:=DW B b d (Lib.byteCells l) s (W ω h n) (hp.is ω n) (by rw [Lib.byteCells_length];omega) hB
 refine hc.mono fun e w' ⟨he,hA,hbel,hoth⟩=>?_;subst he;have hw:=DK hω hbel;refine ⟨⟨_,hw⟩,?_,qL hbel,fun k o hk hn h5=>hoth k o hk (fun e=>hn (Z2 e)) h5⟩;obtain ⟨h1,v,h2,h3,h4⟩:=hA;refine ⟨_,v,.inr rfl,h1,h2,fun ω' d'=>?_,h4⟩;have e1:Lib.byteCells l++Lib.strCells s=Lib.byteCells (l++bytesOf s):=by
  unfold Lib.byteCells Lib.strCells bytesOf;rw [List.map_append]
 rw [e1,Lib.byteCells_length] at h3;exact h3
theorem Bp (hω:ω.low=0){h:Hp}{B b:Nat}{d:Int}{l:List UInt8}(hp:Pg h B b d l)(h0:l≠[])(X:XT) :
  aa Tryz.prog ω 64 [.pointer (some ⟨b,0,none⟩)] h (fun r h'=>r=.string ⟨l.toArray⟩∧ar (fun k=>B≤k) h h') X:=by
 intro n;have hc:=AS B b d l (W ω h n) (hp.is ω n) h0;refine hc.mono fun e w' ⟨he,hbel⟩=>?_;subst he;exact ⟨⟨_,DK hω hbel⟩,rfl,qL hbel⟩
end
end Go.Proofs.YtkeeboomikkojaaGreatDoor
namespace Go.Proofs.YtkeeboomikkojaaGreatDoor
open Go Go.Sx Go.Sx.Tk Go.Sx.Rn Go.Proofs.YtkeeboomikkojaaGreatDoor.Sx
theorem lit (l:List UInt8):(ByteArray.mk (List.toArray l))=bs l:=rfl
theorem dQ (a b:ByteArray):(a++b).size=a.size+b.size:=ByteArray.size_append
theorem cB (a b:ByteArray):bytesOf (a++b)=bytesOf a++bytesOf b:=by simp [bytesOf]
def kwd (c:UInt8):List UInt8:=if c=115 then [115,101,110,100,32] else [114,101,99,118,32]
def th (s:ByteArray):List UInt8:=((bytesOf s).take (s.size - 1)).flatMap kwd++[105,110,116]
theorem Lq (c:UInt8):(kwd c).length=5:=by unfold kwd;split<;>rfl
theorem CM:∀l:List UInt8,(l.flatMap kwd).length=5*l.length
 |[]=>rfl
 |c::r=>by simp only [Ql,Qd,Lq,CM r,Qn];omega
theorem qZ (s:ByteArray):(th s).length≤5*s.size+3:=by
 unfold th;rw [Qd,CM,Qp];simp;omega
theorem HC (s:ByteArray){k:Nat}(hk:k < s.size):((bytesOf s).take (k+1)).flatMap kwd=((bytesOf s).take k).flatMap kwd++kwd (cAt s k):=by
 rw [lc s hk,Qb];simp
theorem QC.new {h h':Hp}{B:Nat}(hB:h.size≤B)(k:ar (fun b=>B≤b) h h'):KF h h':=k.mono fun b hb e=>by omega
section
variable  {ω:Amb}
theorem zO (hω:ω.low=0)(s:ByteArray)(hs:s.size≤1000)(h:Hp)(X:XT) :
  aa Tryz.prog ω vd [.string s] h (fun r h'=>r=.string (bs (th s))∧KF h h') X:=by
 refine vk ω _ h _ X ?_;unfold qm;simp only [asS_str];have hb:=ah (h:=h) (o:=.cells #[(.pointer none),(.slice none 0 0)] 109 (0,0));have kp:=ar.push (S:=fun b=>h.size≤b) h (.cells #[(.pointer none),(.slice none 0 0)] 109 (0,0));generalize h.push (.cells #[(.pointer none),(.slice none 0 0)] 109 (0,0))=h1 at *;have hbl:=Bld.new (Zd _) hb;rw [i64_in (by omega) (by omega)]
 refine ⟨fun t h'=>∃k:Nat,t=.int .i64 k∧k≤s.size - 1∧Bld h' h.size h.size (((bytesOf s).take k).flatMap kwd)∧ar (fun b=>h.size≤b) h h',fun t _=>match t with|.int _ k=>s.size - k.toNat|_=>0,
  ⟨0,rfl,by omega,hbl,kp⟩,?_⟩
 rintro _ _ h2 ⟨k,rfl,hk,hbl2,k2⟩;have hlen:=CM ((bytesOf s).take k);rw [Qp,aH] at hlen;rw [asK_int];refine ae (fun hc=>?_) (fun hc=>?_)
 ·have hkl:=Qj hc;refine ⟨fun h'=>Bld h' h.size h.size (((bytesOf s).take (k+1)).flatMap kwd)∧ar (fun b=>h.size≤b) h h',?_,?_⟩
  ·rw [asI_int];refine ⟨by omega,by omega,?_⟩
   rw [cN,HC s (by omega)]
   refine ⟨fun h'=>Bld h' h.size h.size (((bytesOf s).take k).flatMap kwd++kwd (cAt s k))∧ar (fun b=>h.size≤b) h h',ae (fun hc=>?_) (fun hc=>?_),fun _ _ hj=>hj⟩
   ·have he:cAt s k=115:=by
     rw [G1];have:=Zg hc;rw [show UInt8.toNat 115=115 from rfl]
     omega
    refine aa.use (yR hω hbl2 ⟨#[115,101,110,100,32]⟩ (by have:(⟨#[115,101,110,100,32]⟩:ByteArray).size=5:=rfl;omega) k2.size) ?_
    rintro _ h3 ⟨hbl3,k3,_⟩;rw [kwd,if_pos he];exact ⟨hbl3,k2.trans k3⟩
   ·have he:¬cAt s k=115:=by
     rw [G1];have:=Qa.1 hc;rw [show UInt8.toNat 115=115 from rfl]
     omega
    refine aa.use (yR hω hbl2 ⟨#[114,101,99,118,32]⟩ (by have:(⟨#[114,101,99,118,32]⟩:ByteArray).size=5:=rfl;omega) k2.size) ?_
    rintro _ h3 ⟨hbl3,k3,_⟩;rw [kwd,if_neg he];exact ⟨hbl3,k2.trans k3⟩
  ·rintro _ h3 ⟨hbl3,k3⟩;rw [asK_int,i64_in (by omega) (by omega)]
   exact ⟨⟨k+1,by simp,by omega,hbl3,k3⟩,by simp;omega⟩
 ·have hc:=Qc hc;obtain rfl:k=s.size - 1:=by omega
  refine aa.use (Dz hω hbl2 k2.size) ?_;rintro _ h3 ⟨rfl,k3,_⟩;simp only [asS_str,lit,br,aK];exact ⟨by simp only [Qn,Qy];omega,rfl,QC.new (Zd _) (k2.trans k3)⟩
end
def bO (x:St):List UInt8 :=
 if x.d=1 then [108,101,116,32]++bytesOf x.a++[32,61,32]
 else if x.d=2 then [115,101,116,32]++bytesOf x.a++[32,61,32]
 else if x.d=3 then [101,109,105,116,32]
 else if x.d=4 then [99,104,97,110,32]++bytesOf x.a++[32]++bytesOf x.b++[32]++th x.t++[32]++Lib.itoa x.n
 else if x.d=5 then [99,108,111,110,101,32]++bytesOf x.a++[32]++bytesOf x.b
 else if x.d=6 then [115,101,110,100,32]++bytesOf x.a++[32]
 else if x.d=7 then [99,108,111,115,101,32]++bytesOf x.a
 else if x.d=8 then [97,98,97,110,100,111,110,32]++bytesOf x.a
 else if x.d=9 then [100,114,97,105,110,32]++bytesOf x.a
 else if x.d=10 then [115,112,97,119,110,32]++bytesOf x.a++[40]
 else if x.d=11 then [116,97,107,101,32]++bytesOf x.a++[32,102,114,111,109,32]++bytesOf x.b
 else if x.d=12 then [102,111,114,32]++bytesOf x.a++[32,102,114,111,109,32]++bytesOf x.b
 else if x.d=13 then [114,101,112,101,97,116,32]
 else [105,102,32]
theorem Im (x:St)(ha:x.a.size≤100)(hb:x.b.size≤100)(ht:x.t.size≤100)(h0:0≤x.n)(h1:x.n < 1000000000000000000):(bO x).length≤900:=by
 have hk:=qZ x.t;have hi:=Lib.itoa_length_le x.n (by omega) (by omega)
 have la:=aH x.a;have lb:=aH x.b;unfold bO
 by_cases d1:x.d=1
 ·rw [if_pos d1];simp only [Qd,Qn,Qy];omega
 rw [if_neg d1]
 by_cases d2:x.d=2
 ·rw [if_pos d2];simp only [Qd,Qn,Qy];omega
 rw [if_neg d2]
 by_cases d3:x.d=3
 ·rw [if_pos d3];simp only [Qd,Qn,Qy];omega
 rw [if_neg d3]
 by_cases d4:x.d=4
 ·rw [if_pos d4];simp only [Qd,Qn,Qy];omega
 rw [if_neg d4]
 by_cases d5:x.d=5
 ·rw [if_pos d5];simp only [Qd,Qn,Qy];omega
 rw [if_neg d5]
 by_cases d6:x.d=6
 ·rw [if_pos d6];simp only [Qd,Qn,Qy];omega
 rw [if_neg d6]
 by_cases d7:x.d=7
 ·rw [if_pos d7];simp only [Qd,Qn,Qy];omega
 rw [if_neg d7]
 by_cases d8:x.d=8
 ·rw [if_pos d8];simp only [Qd,Qn,Qy];omega
 rw [if_neg d8]
 by_cases d9:x.d=9
 ·rw [if_pos d9];simp only [Qd,Qn,Qy];omega
 rw [if_neg d9]
 by_cases d10:x.d=10
 ·rw [if_pos d10];simp only [Qd,Qn,Qy];omega
 rw [if_neg d10]
 by_cases d11:x.d=11
 ·rw [if_pos d11];simp only [Qd,Qn,Qy];omega
 rw [if_neg d11]
 by_cases d12:x.d=12
 ·rw [if_pos d12];simp only [Qd,Qn,Qy];omega
 rw [if_neg d12]
 by_cases d13:x.d=13
 ·rw [if_pos d13];simp only [Qd,Qn,Qy];omega
 rw [if_neg d13];simp only [Qn,Qy];omega
def cE (l:List Ex):List UInt8:=Lib.join (l.map exT) [44,32]
section
variable  {ω:Amb}
set_option maxHeartbeats 800000 in
theorem IN (hω:ω.low=0)(x:St)(ve vb vl:Value)(h:Hp)(ha:x.a.size≤100)(hb:x.b.size≤100)(hty:x.t.size≤100)(h0:0≤x.n)(h1:x.n < 1000000000000000000)(ht:fe h)(X:XT) :
  aa Tryz.prog ω yi [.agg (stC x ve vb vl).toArray] h (fun r h'=>r=.string (bs (bO x))∧KF h h') X:=by
 refine wW ω _ h _ X ?_;unfold rG aB;simp only [show Value.cells (.agg (stC x ve vb vl).toArray)=(stC x ve vb vl).toArray from rfl]
 have hb1:=ah (h:=h) (o:=.cells (stC x ve vb vl).toArray 39 (0,0));have kp:=ar.push (S:=fun _=>False) h (.cells (stC x ve vb vl).toArray 39 (0,0));generalize h.push (.cells (stC x ve vb vl).toArray 39 (0,0))=h1 at *;refine lx hb1 (j:=0) rfl ?_;rw [asK_int];refine ae (fun hc=>?_) (fun hc=>?_)
 ·have hd:x.d=1:=Zg hc;refine lx hb1 (j:=2) rfl ?_;rw [asS_str];simp only [lit,dQ,aK,Qn,Qy];refine ⟨by omega,by omega,congrArg Value.string (bG ?_),kp⟩
  rw [aF];simp only [cB,aF];rw [bO,if_pos hd]
 have n1:x.d≠1:=Qa.1 hc;rw [asK_int];refine ae (fun hc=>?_) (fun hc=>?_)
 ·have hd:x.d=2:=Zg hc;refine lx hb1 (j:=2) rfl ?_;rw [asS_str];simp only [lit,dQ,aK,Qn,Qy];refine ⟨by omega,by omega,congrArg Value.string (bG ?_),kp⟩
  rw [aF];simp only [cB,aF];rw [bO,if_neg n1,if_pos hd]
 have n2:x.d≠2:=Qa.1 hc;rw [asK_int];refine ae (fun hc=>?_) (fun hc=>?_)
 ·have hd:x.d=3:=Zg hc;refine ⟨congrArg Value.string (bG ?_),kp⟩;rw [aF];rw [bO,if_neg n1,if_neg n2,if_pos hd];rfl
 have n3:x.d≠3:=Qa.1 hc;rw [asK_int];refine ae (fun hc=>?_) (fun hc=>?_)
 ·have hd:x.d=4:=Zg hc;refine lx hb1 (j:=2) rfl ?_;rw [asS_str];simp only [lit,dQ,aK,Qn,Qy];refine ⟨by omega,by omega,?_⟩
  refine lx hb1 (j:=3) rfl ?_;rw [asS_str];refine ⟨by omega,by omega,?_⟩
  refine lx hb1 (j:=4) rfl ?_;refine lx hb1 (j:=5) rfl ?_;refine aa.use (zO hω x.t (by omega) _) ?_
  rintro _ h2 ⟨rfl,k2⟩;have hb2:=k2.get hb1 (by simp)
  refine ⟨lx' hb2 rfl,lx' hb2 rfl,lx' hb2 rfl,?_⟩;rw [asS_str];simp only [aK];have hkl:=qZ x.t;refine ⟨by omega,by omega,?_⟩
  refine aa.use (xR x.n (by omega) (by omega) _ (ht.more (kp.trans k2))) ?_
  rintro _ h3 ⟨rfl,k3⟩;have hb3:=k3.get hb2 (by simp)
  refine ⟨lx' hb3 rfl,lx' hb3 rfl,?_⟩;rw [asS_str];have hil:=Lib.itoa_length_le x.n (by omega) (by omega)
  have his:(itB x.n).size=(Lib.itoa x.n).length:=aK _;rw [his];refine ⟨by omega,congrArg Value.string (bG ?_),(kp.trans k2).trans k3⟩
  rw [aF];simp only [cB,aF];rw [bO,if_neg n1,if_neg n2,if_neg n3,if_pos hd];rfl
 have n4:x.d≠4:=Qa.1 hc;rw [asK_int];refine ae (fun hc=>?_) (fun hc=>?_)
 ·have hd:x.d=5:=Zg hc;refine lx hb1 (j:=2) rfl ?_;rw [asS_str];simp only [lit,dQ,aK,Qn,Qy];refine ⟨by omega,by omega,?_⟩
  refine lx hb1 (j:=3) rfl ?_;rw [asS_str];refine ⟨by omega,congrArg Value.string (bG ?_),kp⟩
  rw [aF];simp only [cB,aF];rw [bO,if_neg n1,if_neg n2,if_neg n3,if_neg n4,if_pos hd]
 have n5:x.d≠5:=Qa.1 hc;rw [asK_int];refine ae (fun hc=>?_) (fun hc=>?_)
 ·have hd:x.d=6:=Zg hc;refine lx hb1 (j:=2) rfl ?_;rw [asS_str];simp only [lit,dQ,aK,Qn,Qy];refine ⟨by omega,by omega,congrArg Value.string (bG ?_),kp⟩
  rw [aF];simp only [cB,aF];rw [bO,if_neg n1,if_neg n2,if_neg n3,if_neg n4,if_neg n5,if_pos hd]
 have n6:x.d≠6:=Qa.1 hc;rw [asK_int];refine ae (fun hc=>?_) (fun hc=>?_)
 ·have hd:x.d=7:=Zg hc;refine lx hb1 (j:=2) rfl ?_;rw [asS_str];simp only [lit,aK,Qn,Qy];refine ⟨by omega,congrArg Value.string (bG ?_),kp⟩
  rw [aF];simp only [cB,aF];rw [bO,if_neg n1,if_neg n2,if_neg n3,if_neg n4,if_neg n5,if_neg n6,if_pos hd]
 have n7:x.d≠7:=Qa.1 hc;rw [asK_int];refine ae (fun hc=>?_) (fun hc=>?_)
 ·have hd:x.d=8:=Zg hc;refine lx hb1 (j:=2) rfl ?_;rw [asS_str];simp only [lit,aK,Qn,Qy];refine ⟨by omega,congrArg Value.string (bG ?_),kp⟩
  rw [aF];simp only [cB,aF];rw [bO,if_neg n1,if_neg n2,if_neg n3,if_neg n4,if_neg n5,if_neg n6,if_neg n7,if_pos hd]
 have n8:x.d≠8:=Qa.1 hc;rw [asK_int];refine ae (fun hc=>?_) (fun hc=>?_)
 ·have hd:x.d=9:=Zg hc;refine lx hb1 (j:=2) rfl ?_;rw [asS_str];simp only [lit,aK,Qn,Qy];refine ⟨by omega,congrArg Value.string (bG ?_),kp⟩
  rw [aF];simp only [cB,aF];rw [bO,if_neg n1,if_neg n2,if_neg n3,if_neg n4,if_neg n5,if_neg n6,if_neg n7,if_neg n8,if_pos hd]
 have n9:x.d≠9:=Qa.1 hc;rw [asK_int];refine ae (fun hc=>?_) (fun hc=>?_)
 ·have hd:x.d=10:=Zg hc;refine lx hb1 (j:=2) rfl ?_;rw [asS_str];simp only [lit,dQ,aK,Qn,Qy];refine ⟨by omega,by omega,congrArg Value.string (bG ?_),kp⟩
  rw [aF];simp only [cB,aF];rw [bO,if_neg n1,if_neg n2,if_neg n3,if_neg n4,if_neg n5,if_neg n6,if_neg n7,if_neg n8,if_neg n9,if_pos hd]
 have n10:x.d≠10:=Qa.1 hc;rw [asK_int];refine ae (fun hc=>?_) (fun hc=>?_)
 ·have hd:x.d=11:=Zg hc;refine lx hb1 (j:=2) rfl ?_;rw [asS_str];simp only [lit,dQ,aK,Qn,Qy];refine ⟨by omega,by omega,?_⟩
  refine lx hb1 (j:=3) rfl ?_;rw [asS_str];refine ⟨by omega,congrArg Value.string (bG ?_),kp⟩
  rw [aF];simp only [cB,aF];rw [bO,if_neg n1,if_neg n2,if_neg n3,if_neg n4,if_neg n5,if_neg n6,if_neg n7,if_neg n8,if_neg n9,if_neg n10,if_pos hd]
 have n11:x.d≠11:=Qa.1 hc;rw [asK_int];refine ae (fun hc=>?_) (fun hc=>?_)
 ·have hd:x.d=12:=Zg hc;refine lx hb1 (j:=2) rfl ?_;rw [asS_str];simp only [lit,dQ,aK,Qn,Qy];refine ⟨by omega,by omega,?_⟩
  refine lx hb1 (j:=3) rfl ?_;rw [asS_str];refine ⟨by omega,congrArg Value.string (bG ?_),kp⟩
  rw [aF];simp only [cB,aF];rw [bO,if_neg n1,if_neg n2,if_neg n3,if_neg n4,if_neg n5,if_neg n6,if_neg n7,if_neg n8,if_neg n9,if_neg n10,if_neg n11,if_pos hd]
 have n12:x.d≠12:=Qa.1 hc;rw [asK_int];refine ae (fun hc=>?_) (fun hc=>?_)
 ·have hd:x.d=13:=Zg hc;refine ⟨congrArg Value.string (bG ?_),kp⟩;rw [aF];rw [bO,if_neg n1,if_neg n2,if_neg n3,if_neg n4,if_neg n5,if_neg n6,if_neg n7,if_neg n8,if_neg n9,if_neg n10,if_neg n11,if_neg n12,if_pos hd];rfl
 have n13:x.d≠13:=Qa.1 hc;refine ⟨congrArg Value.string (bG ?_),kp⟩;rw [aF];rw [bO,if_neg n1,if_neg n2,if_neg n3,if_neg n4,if_neg n5,if_neg n6,if_neg n7,if_neg n8,if_neg n9,if_neg n10,if_neg n11,if_neg n12,if_neg n13];rfl
theorem IU (hω:ω.low=0)(l:List Ex)(hle:cw l≤90000)(hok:gW l)(hF:nP l=0)(h:Hp)(v:Value)(hs:ExS h v l)(ht:fe h)(X:XT) :
  aa Tryz.prog ω yo [v] h (fun r h'=>r=.string (bs (cE l))∧KF h h') X:=by
 refine xd ω _ h _ X ?_;unfold rq;have hlen:=gj l;refine hs.sl fun _ _=>?_;refine ⟨fun o t h'=>∃k:Nat,t=.int .i64 k∧k≤l.length∧bX h' h.size 9 1 o k (((l.take k).map fun x=>bs (exT x)).map .string)∧KF h h',
  fun _ t _=>match t with|.int _ k=>l.length - k.toNat|_=>0,⟨0,rfl,by omega,bX.nil,ar.refl _ _⟩,?_⟩
 rintro out _ _ h5 ⟨k,rfl,hk,ho,k5⟩;have hs5:=hs.aC k5;rw [asK_int];refine ae (fun hc=>?_) (fun hc=>?_)
 ·have hkl:k < l.length:=by
   have:=Qj hc;omega
  have hx:=Q7 hkl;have hmem:l[k]∈l:=Qv hkl;generalize l[k]=x at hx hmem;have hxn:=cr hmem;refine hs5.rdC hx fun w hw=>?_;refine ⟨rfl,dC hw.b8,aA (cs:=exC x w) rfl ?_⟩;have hb6:=ah (h:=h5) (o:=.cells (exC x w).toArray 36 (0,0));have k6:=ar.push (S:=fun _=>False) h5 (.cells (exC x w).toArray 36 (0,0));generalize h5.push (.cells (exC x w).toArray 36 (0,0))=h6 at *;refine ⟨_,ak hb6 rfl,?_⟩;refine aa.use (Io _ x (Qw _) (by omega) (cb hok hmem) (mm hF hmem) h6 w (hw.aC k6) (ht.more (k5.trans k6))) ?_
  rintro _ h7 ⟨rfl,k7⟩;rw [oneK_str];have k57:=k6.trans k7;have hlt:=ho.lt;refine dR (bt:=16) (cs:=[.string (bs (exT x))]) (by kernel_rfl) (ho.more k57) rfl (fun u hu=>by obtain rfl:=Qf.1 hu;rfl) (by omega) (by omega) (by have:=k5.size;have:=k57.size;omega) fun w2 h8 ho2 hg _ hv=>?_
  have k8:ar (fun b=>some b=out.ownBlock) h7 h8:=ar.grown hg fun b hb _=>hb.symm;have k08:KF h h8:=(((k5.trans k57).mono (S':=fun b=>some b=out.ownBlock) (fun _ _ h=>h.elim)).trans k8).mono fun b hb e=>by have:=hlt b e.symm;omega
  rw [asK_int,i64_in (by omega) (by omega)]
  refine ⟨⟨k+1,by simp,by omega,?_,k08⟩,by simp;omega⟩
  rw [aZ hx,List.map_append,List.map_append];exact ho2
 ·have hc:=Qc hc;obtain rfl:k=l.length:=by omega
  rw [Qo] at ho;have hj:Lib.join ((l.map fun x=>bs (exT x)).map (·.data.toList)) (⟨#[44,32]⟩:ByteArray).data.toList=cE l:=by
   unfold cE
   congr 1
   rw [List.map_map];exact List.map_congr_left fun x _=>aF _
  have hjl:(cE l).length≤9200000:=by
   have h1:=tM l hF hok;have:∀m:List Ex,(Lib.joinTail [44,32] (m.map exT)).length=((AA m).map fun q=>q.2.length).sum+2*m.length:=by
    intro m
    induction m with
    |nil=>rfl
    |cons y r ih =>
     rw [Lib.joinTail] at ih ⊢;simp only [List.map_cons,List.flatten_cons,Qd,ih,AA,List.sum_cons,Qn,Qy];omega
   unfold cE;cases l with
   |nil=>decide
   |cons y r =>
    rw [List.map_cons,Lib.join_cons,Qd,this];simp only [AA,List.map_cons,List.sum_cons,Qn] at h1 hlen;omega
  refine aa.use (Cs hω (l.map fun x=>bs (exT x)) ⟨#[44,32]⟩ h5 (by rw [Z6];exact ho) (by rw [Z6];omega) (by rw [hj];omega)) ?_
  rintro _ h6 ⟨rfl,k6⟩;rw [hj];exact ⟨rfl,k5.trans k6⟩
end
end Go.Proofs.YtkeeboomikkojaaGreatDoor
