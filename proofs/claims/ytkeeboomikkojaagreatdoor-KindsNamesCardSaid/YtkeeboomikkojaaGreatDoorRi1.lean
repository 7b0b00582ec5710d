import Derived.Test.YtkeeboomikkojaaGreatDoorRn9
namespace Go.Proofs.YtkeeboomikkojaaGreatDoor
open Go Go.Sx Go.Sx.Tk Go.Sx.Rn Go.Proofs.YtkeeboomikkojaaGreatDoor.Sx
def Pd (t:Tok):Prop:=t.kind=1∨(t.kind=2∧aL t.text=true)∨(t.kind=3∧(∃c r,bytesOf t.text=c::r∧Tk.dg c=true)∧0≤t.n∧t.n < 1000000000000000000)∨(t.kind=4∧∃c r,bytesOf t.text=c::r∧lo c=false)
theorem OP {c:UInt8}(h:Tk.dg c=true):0≤(c.toNat:Int) - 48∧(c.toNat:Int) - 48≤9:=by
 unfold Tk.dg at h;rw [Qq,decide_eq_true_eq,decide_eq_true_eq] at h;omega
theorem wB:∀(l:List UInt8) (acc:Int) (k:Int),l.all Tk.dg=true→0≤acc→acc+1≤k→0≤l.foldl (fun n c=>10*n+((c.toNat:Int) - 48)) acc∧l.foldl (fun n c=>10*n+((c.toNat:Int) - 48)) acc+1≤k*10 ^ l.length
 |[],acc,k,_,h0,h1=>by simpa using ⟨h0,h1⟩
 |c::l,acc,k,ha,h0,h1=>by
  rw [List.all_cons,Qq] at ha;have hc:=OP ha.1;have:=wB l (10*acc+((c.toNat:Int) - 48)) (10*k) ha.2 (by omega) (by omega)
  rw [List.foldl_cons,Qn,Int.pow_succ,show k*(10 ^ l.length*10)=10*k*10 ^ l.length by rw [←Int.mul_assoc,Int.mul_comm _ 10,←Int.mul_assoc]]
  exact this
theorem En {l:List UInt8}{n:Int}(h:DI l=some n):0≤n∧n < 1000000000000000000:=by
 unfold DI at h
 split at h
 ·cases h
 ·rename_i hc;cases h;rw [not_or,not_or] at hc;obtain ⟨h1,h2,h3⟩:=hc;have:=wB l 0 1 (by simpa using h3) (by omega) (by omega)
  unfold uW;refine ⟨this.1,?_⟩;have hp:(10:Int) ^ l.length≤10 ^ 18:=by
   have:(10:Nat) ^ l.length≤10 ^ 18:=Nat.pow_le_pow_right (by omega) (by omega)
   exact_mod_cast this
  have h18:(10:Int) ^ 18=1000000000000000000:=by decide
  omega
theorem LX:∀l:List UInt8,(l.take (run l)).all Tk.ld=true:=by
 intro l;unfold run
 induction l with
 |nil=>rfl
 |cons c r ih =>
  rw [List.takeWhile_cons]
  split
  ·rename_i hc;rw [Qn,List.take_succ_cons,List.all_cons,hc,ih];rfl
  ·rfl
theorem yG:∀l:List UInt8,run l≤l.length:=by
 intro l;unfold run
 induction l with
 |nil=>exact Zd _
 |cons c r ih =>
  rw [List.takeWhile_cons]
  split
  ·rw [Qn,Qn];omega
  ·exact Nat.zero_le _
theorem Fz {c:UInt8}{r:List UInt8}(h:Tk.ld c=true):run (c::r)=run r+1:=by
 unfold run;rw [List.takeWhile_cons,if_pos h,Qn]
theorem Na {c:UInt8}{r:List UInt8}{kind n:Int}{len:Nat}{a:Int}(h:uY 2 3 4 (c::r)=.tok kind len n):Pd ⟨kind,a,⟨((c::r).take len).toArray⟩,n⟩:=by
 have hb:∀l:List UInt8,bytesOf ⟨l.toArray⟩=l:=fun l=>rfl;rw [iy] at h
 split at h
 ·rename_i hlo;have hld:Tk.ld c=true:=by unfold Tk.ld;rw [hlo];rfl
  split at h
  ·cases h;exact .inl rfl
  ·rename_i hw
   split at h
   ·cases h
   ·rename_i h12;cases h;refine .inr (.inl ⟨rfl,?_⟩);have hal:=LX (c::r);have hle:=yG (c::r);have hpos:=Fz (r:=r) hld;generalize hk:run (c::r)=k at *;unfold aL dr cAt;show ((decide (0 < ((c::r).take k).toArray.size)&&(decide (((c::r).take k).toArray.size≤12)&&(lo (((c::r).take k).getD 0 0)&&!isWord ((c::r).take k))))&&((c::r).take k).all ld)=true;have hs:((c::r).take k).toArray.size=k:=by
     rw [List.size_toArray,Qp];omega
    rw [hs,hal,Z7 (show 0 < k by omega),Z7 (show k≤12 by omega)]
    rw [hpos,List.take_succ_cons];rw [hpos,List.take_succ_cons] at hw;rw [show (c::r.take (run r)).getD 0 0=c from rfl,hlo]
    simpa using hw
 split at h
 ·rename_i hdg;have hld:Tk.ld c=true:=by unfold Tk.ld;rw [hdg,Bool.or_true]
  split at h
  ·cases h
  ·rename_i m hm;cases h;refine .inr (.inr (.inl ⟨rfl,⟨c,r.take (run r),?_,hdg⟩,En hm⟩));rw [hb,Fz hld,List.take_succ_cons]
 rename_i hlo _;have hlo:lo c=false:=by simpa using hlo
 split at h
 ·refine .inr (.inr (.inr ⟨?_,?_⟩))
  ·split at h
   ·split at h<;>cases h<;>rfl
   ·cases h;rfl
  ·split at h
   ·split at h
    ·cases h;exact ⟨c,_,by rw [hb,List.take_succ_cons],hlo⟩
    ·cases h;exact ⟨c,_,by rw [hb,List.take_succ_cons],hlo⟩
   ·cases h;exact ⟨c,_,by rw [hb,List.take_succ_cons],hlo⟩
 split at h
 ·cases h;exact .inr (.inr (.inr ⟨rfl,c,_,by rw [hb,List.take_succ_cons],hlo⟩))
 ·cases h
theorem PU {l:List UInt8}{a:Int}{res:Res}(h:jz 2 3 4 l a res):∀ts,res=.ok ts→∀t∈ts,Pd t:=by
 induction h with
 |stop _=>rintro _ ⟨⟩ t ht;cases ht
 |bad _ _=>rintro _ ⟨⟩
 |tok h1 e1 k1 ih =>
  rintro _ ⟨⟩ t ht;rcases List.mem_cons.1 ht with rfl|ht
  ·exact Na e1
  ·exact ih _ rfl t ht
 |fail _ _ _ _=>rintro _ ⟨⟩
end Go.Proofs.YtkeeboomikkojaaGreatDoor
