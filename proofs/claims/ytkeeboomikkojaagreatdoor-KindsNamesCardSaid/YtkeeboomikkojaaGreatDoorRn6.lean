import Derived.Test.YtkeeboomikkojaaGreatDoorRn5
namespace Go.Proofs.YtkeeboomikkojaaGreatDoor
open Go Go.Sx Go.Sx.Tk Go.Sx.Rn Go.Proofs.YtkeeboomikkojaaGreatDoor.Sx
section
variable  {ω:Amb}
end
section
variable  {ω:Amb}
end
theorem Gt:∀{p:List Sg} {i m:Int} {e:Int×Int},m≤300→uZ p i m=.error e→e.1≠0
 |[],_,_,_,_,h=>by cases h
 |x::r,i,m,e,hm,h=>by
  unfold uZ at h
  split at h
  ·rename_i h0;cases h;exact h0
  ·have hok:=kg x.body m 1 hm;rcases tL (jk x.body m 1) with ⟨n,hn⟩|⟨e',hn⟩
   ·rw [hn] at h hok;exact Gt hok.2 h
   ·rw [hn] at h hok;cases h;exact hok
theorem Iy {p:List Sg}{e:Int×Int}(h:bC p=.error e):e.1≠0:=by
 unfold bC at h
 split at h
 ·cases h;decide
 split at h
 ·cases h;decide
 exact Gt (by decide) h
theorem sH {p:List Sg}(h:(ji (bC p)).1=0):NL p∧ji (bC p)=(0,0)∧∃n,bC p=.ok n:=by
 rcases tL (bC p) with ⟨n,hn⟩|⟨e,hn⟩
 ·exact ⟨Bx hn,by rw [hn];rfl,n,hn⟩
 ·rw [hn] at h;exact absurd h (Iy hn)
def cI (p:List Sg):Int×Int:=if (ji (bC p)).1=0 then (if 12000 < (pgT p).length then (1,-1) else (0,0)) else ji (bC p)
theorem x3 {p:List Sg}(h:(cI p).1=0):NL p∧(pgT p).length≤12000∧cI p=(0,0):=by
 unfold cI at h ⊢
 split
 ·rename_i h0;rw [if_pos h0] at h
  split
  ·rename_i h1;rw [if_pos h1] at h;cases h
  ·exact ⟨(sH h0).1,by omega,rfl⟩
 ·rename_i h0;rw [if_neg h0] at h;exact absurd h h0
section
variable  {ω:Amb}
theorem Fu (hω:ω.low=0)(p:List Sg)(hsm:Small p)(v:Value)(h:Hp)(hp:PgS h v p)(ht:fe h)(X:XT) :
  aa Tryz.prog ω vz [v] h (fun r h'=>r=.agg (flt (cI p).1 (cI p).2).toArray∧KF h h') X:=by
 obtain ⟨w0,rfl,hs⟩:=hp;refine vy ω _ h _ X ?_;unfold qj gk dD;simp only [show Value.cells (.agg #[w0])=[w0].toArray from rfl]
 have hb0:=ah (h:=h) (o:=.cells [w0].toArray 24 (0,0));have k0:=ar.push (S:=fun _=>False) h (.cells [w0].toArray 24 (0,0));have z0:(h.push (.cells [w0].toArray 24 (0,0))).size=h.size+1:=by simp
 generalize h.push (.cells [w0].toArray 24 (0,0))=h1 at *;have hb1:=ah (h:=h1) (o:=.cells (flt 0 0).toArray 28 (0,0));have k1:=ar.push (S:=fun _=>False) h1 (.cells (flt 0 0).toArray 28 (0,0));simp only [show (Obj.cells #[(.int .i64 0),(.int .i64 0)] 28 (0,0))=Obj.cells (flt 0 0).toArray 28 (0,0) from rfl]
 generalize h1.push (.cells (flt 0 0).toArray 28 (0,0))=h2 at *;have hb0:=k1.get hb0 (by simp)
 have k02:=k0.trans k1;have hL:h.size≤h1.size:=by omega
 refine ⟨_,ak hb0 rfl,?_⟩;refine aa.use (FP p hsm (.agg #[w0]) h2 ⟨w0,rfl,hs.aC k02⟩) ?_;rintro _ h3 ⟨rfl,k3⟩;have hb03:=k3.get hb0 (by simp)
 have hb13:=k3.get hb1 (by simp)
 have k03:=k02.trans k3;rw [asA_agg];refine ⟨rfl,bu _ _,aA (cs:=flt (ji (bC p)).1 (ji (bC p)).2) rfl ?_⟩;have hb4:=ah (h:=h3) (o:=.cells (flt (ji (bC p)).1 (ji (bC p)).2).toArray 28 (0,0));have k4:=ar.push (S:=fun _=>False) h3 (.cells (flt (ji (bC p)).1 (ji (bC p)).2).toArray 28 (0,0));have hL3:h1.size < h3.size:=by have:=gd hb13;omega
 generalize h3.push (.cells (flt (ji (bC p)).1 (ji (bC p)).2).toArray 28 (0,0))=h4 at *;have hb04:=k4.get hb03 (by simp)
 have hb14:=k4.get hb13 (by simp)
 have k04:=k03.trans k4;refine ⟨fun v h'=>v=.bool (decide ((ji (bC p)).1=0∧12000 < (pgT p).length))∧KF h4 h',?_,?_⟩
 ·refine lx hb4 (j:=0) rfl ?_;rw [asK_int];refine ae (fun hc=>?_) (fun hc=>?_)
  ·have h0:(ji (bC p)).1=0:=Zg hc;refine ⟨_,ak hb04 rfl,?_⟩;refine aa.use (ES hω p hsm (sH h0).1 (.agg #[w0]) h4 ⟨w0,rfl,hs.aC k04⟩ (ht.more k04)) ?_;rintro _ h5 ⟨rfl,k5⟩;rw [asS_str,aK];refine ⟨?_,k5⟩
   congr 1
   rw [Qz];simp [h0];omega
  ·have h0:¬(ji (bC p)).1=0:=Qa.1 hc;exact ⟨by rw [Z0 fun h=>h0 h.1],ar.refl _ _⟩
 rintro _ _ h5 ⟨rfl,k5⟩;have hb5:=k5.get hb4 (by simp)
 have hb15:=k5.get hb14 (by simp)
 have k05:=k04.trans k5;have hR:cI p=if (ji (bC p)).1=0∧12000 < (pgT p).length then (1,-1) else ji (bC p):=by
  unfold cI
  by_cases h0:(ji (bC p)).1=0
  ·rw [if_pos h0,(sH h0).2.1]
   by_cases h1:12000 < (pgT p).length<;>simp [h1]
  ·rw [if_neg h0,if_neg fun h=>h0 h.1]
 refine ⟨fun h'=>h'[h3.size]?=some (.cells (flt (cI p).1 (cI p).2).toArray 28 (0,0))∧ar (fun b=>b=h3.size) h5 h',?_,?_⟩
 ·rw [asB_bool];refine ae (fun hc=>?_) (fun hc=>?_)
  ·have h1:=Qj hc;refine ⟨trivial,bu 1 (-1),aW (o:=0) hb5 (by simp [flt]) ?_⟩
   rw [ca (by rfl),hR,if_pos h1]
   exact ⟨aq hb5,ar.set (S:=fun b=>b=h3.size) _ rfl⟩
  ·rw [hR,if_neg (Qc hc)];exact ⟨hb5,ar.refl _ _⟩
 rintro _ h6 ⟨hb6,k6⟩;have hb16:=k6.get hb15 (by omega)
 refine ⟨_,ak hb6 rfl,rfl,bu _ _,zd hb16 rfl rfl fun h' kk _=>⟨rfl,?_⟩⟩;have hs3:=k03.size;exact GW (GW k05 (by omega) k6) hL kk
end
section
variable  {ω:Amb}
end
end Go.Proofs.YtkeeboomikkojaaGreatDoor
