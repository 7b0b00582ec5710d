import Derived.Test.YtkeeboomikkojaaGreatDoorRn5
namespace Go.Proofs.YtkeeboomikkojaaGreatDoor
open Go Go.Sx Go.Sx.Tk Go.Sx.Rn Go.Proofs.YtkeeboomikkojaaGreatDoor.Sx
section
variable  {ω:Amb}
end
section
variable  {ω:Amb}
end
theorem Hf:∀{p:List Sg} {i m:Int} {e:Int×Int},m≤300→vE p i m=.error e→e.1≠0
 |[],_,_,_,_,h=>by cases h
 |x::r,i,m,e,hm,h=>by
  unfold vE at h
  split at h
  ·rename_i h0;cases h;exact h0
  ·have hok:=kR x.body m 1 hm;rcases uk (kg x.body m 1) with ⟨n,hn⟩|⟨e',hn⟩
   ·rw [hn] at h hok;exact Hf hok.2 h
   ·rw [hn] at h hok;cases h;exact hok
theorem IN {p:List Sg}{e:Int×Int}(h:bX p=.error e):e.1≠0:=by
 unfold bX at h
 split at h
 ·cases h;decide
 split at h
 ·cases h;decide
 exact Hf (by decide) h
theorem vu {p:List Sg}(h:(kd (bX p)).1=0):ON p∧kd (bX p)=(0,0)∧∃n,bX p=.ok n:=by
 rcases uk (bX p) with ⟨n,hn⟩|⟨e,hn⟩
 ·exact ⟨Ew hn,by rw [hn];rfl,n,hn⟩
 ·rw [hn] at h;exact absurd h (IN hn)
def dF (p:List Sg):Int×Int:=if (kd (bX p)).1=0 then (if 12000 < (pgT p).length then (1,-1) else (0,0)) else kd (bX p)
theorem FO {p:List Sg}(h:(dF p).1=0):ON p∧(pgT p).length≤12000∧dF p=(0,0):=by
 unfold dF at h ⊢
 split
 ·rename_i h0;rw [if_pos h0] at h
  split
  ·rename_i h1;rw [if_pos h1] at h;cases h
  ·exact ⟨(vu h0).1,by omega,rfl⟩
 ·rename_i h0;rw [if_neg h0] at h;exact absurd h h0
section
variable  {ω:Amb}
theorem GJ (hω:ω.low=0)(p:List Sg)(hsm:Small p)(v:Value)(h:Hp)(hp:PgS h v p)(ht:ft h)(X:XT) :
  ae Tryz.prog ω wq [v] h (fun r h'=>r=.agg (flt (dF p).1 (dF p).2).toArray∧KF h h') X:=by
 obtain ⟨w0,rfl,hs⟩:=hp;refine vK ω _ h _ X ?_;unfold ry gZ eJ;simp only [show Value.cells (.agg #[w0])=[w0].toArray from rfl]
 have hb0:=ai (h:=h) (o:=.cells [w0].toArray 24 (0,0));have k0:=ay.push (S:=fun _=>False) h (.cells [w0].toArray 24 (0,0));have z0:(h.push (.cells [w0].toArray 24 (0,0))).size=h.size+1:=by simp
 generalize h.push (.cells [w0].toArray 24 (0,0))=h1 at *;have hb1:=ai (h:=h1) (o:=.cells (flt 0 0).toArray 28 (0,0));have k1:=ay.push (S:=fun _=>False) h1 (.cells (flt 0 0).toArray 28 (0,0));simp only [show (Obj.cells #[(.int .i64 0),(.int .i64 0)] 28 (0,0))=Obj.cells (flt 0 0).toArray 28 (0,0) from rfl]
 generalize h1.push (.cells (flt 0 0).toArray 28 (0,0))=h2 at *;have hb0:=k1.get hb0 (by simp)
 have k02:=k0.trans k1;have hL:h.size≤h1.size:=by omega
 refine ⟨_,aq hb0 rfl,?_⟩;refine ae.use (FB p hsm (.agg #[w0]) h2 ⟨w0,rfl,hs.aE k02⟩) ?_;rintro _ h3 ⟨rfl,k3⟩;have hb03:=k3.get hb0 (by simp)
 have hb13:=k3.get hb1 (by simp)
 have k03:=k02.trans k3;rw [asA_agg];refine ⟨rfl,bq _ _,aA (cs:=flt (kd (bX p)).1 (kd (bX p)).2) rfl ?_⟩;have hb4:=ai (h:=h3) (o:=.cells (flt (kd (bX p)).1 (kd (bX p)).2).toArray 28 (0,0));have k4:=ay.push (S:=fun _=>False) h3 (.cells (flt (kd (bX p)).1 (kd (bX p)).2).toArray 28 (0,0));have hL3:h1.size < h3.size:=by have:=fu hb13;omega
 generalize h3.push (.cells (flt (kd (bX p)).1 (kd (bX p)).2).toArray 28 (0,0))=h4 at *;have hb04:=k4.get hb03 (by simp)
 have hb14:=k4.get hb13 (by simp)
 have k04:=k03.trans k4;refine ⟨fun v h'=>v=.bool (decide ((kd (bX p)).1=0∧12000 < (pgT p).length))∧KF h4 h',?_,?_⟩
 ·refine lx hb4 (j:=0) rfl ?_;rw [asK_int];refine ah (fun hc=>?_) (fun hc=>?_)
  ·have h0:(kd (bX p)).1=0:=Ze hc;refine ⟨_,aq hb04 rfl,?_⟩;refine ae.use (F2 hω p hsm (vu h0).1 (.agg #[w0]) h4 ⟨w0,rfl,hs.aE k04⟩ (ht.more k04)) ?_;rintro _ h5 ⟨rfl,k5⟩;rw [asS_str,aP];refine ⟨?_,k5⟩
   congr 1
   rw [Qz];simp [h0];omega
  ·have h0:¬(kd (bX p)).1=0:=Qa.1 hc;exact ⟨by rw [Z0 fun h=>h0 h.1],ay.refl _ _⟩
 rintro _ _ h5 ⟨rfl,k5⟩;have hb5:=k5.get hb4 (by simp)
 have hb15:=k5.get hb14 (by simp)
 have k05:=k04.trans k5;have hR:dF p=if (kd (bX p)).1=0∧12000 < (pgT p).length then (1,-1) else kd (bX p):=by
  unfold dF
  by_cases h0:(kd (bX p)).1=0
  ·rw [if_pos h0,(vu h0).2.1]
   by_cases h1:12000 < (pgT p).length<;>simp [h1]
  ·rw [if_neg h0,if_neg fun h=>h0 h.1]
 refine ⟨fun h'=>h'[h3.size]?=some (.cells (flt (dF p).1 (dF p).2).toArray 28 (0,0))∧ay (fun b=>b=h3.size) h5 h',?_,?_⟩
 ·rw [asB_bool];refine ah (fun hc=>?_) (fun hc=>?_)
  ·have h1:=Qj hc;refine ⟨trivial,bq 1 (-1),bh (o:=0) hb5 (by simp [flt]) ?_⟩
   rw [cp (by rfl),hR,if_pos h1]
   exact ⟨av hb5,ay.set (S:=fun b=>b=h3.size) _ rfl⟩
  ·rw [hR,if_neg (Qc hc)];exact ⟨hb5,ay.refl _ _⟩
 rintro _ h6 ⟨hb6,k6⟩;have hb16:=k6.get hb15 (by omega)
 refine ⟨_,aq hb6 rfl,rfl,bq _ _,xf hb16 rfl rfl fun h' kk _=>⟨rfl,?_⟩⟩;have hs3:=k03.size;exact BP (BP k05 (by omega) k6) hL kk
end
section
variable  {ω:Amb}
end
end Go.Proofs.YtkeeboomikkojaaGreatDoor
