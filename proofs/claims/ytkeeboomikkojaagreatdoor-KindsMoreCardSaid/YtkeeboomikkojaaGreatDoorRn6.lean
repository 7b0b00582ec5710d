import Derived.Test.YtkeeboomikkojaaGreatDoorRn5
namespace Go.Proofs.YtkeeboomikkojaaGreatDoor
open Go Go.Sx Go.Sx.Tk Go.Sx.Rn Go.Proofs.YtkeeboomikkojaaGreatDoor.Sx
section
variable  {ω:Amb}
end
section
variable  {ω:Amb}
end
theorem BG:∀{p:List Sg} {i m:Int} {e:Int×Int},m≤300→sR p i m=.error e→e.1≠0
 |[],_,_,_,_,h=>by cases h
 |x::r,i,m,e,hm,h=>by
  unfold sR at h
  split at h
  ·rename_i h0;cases h;exact h0
  ·have hok:=iY x.body m 1 hm;rcases rr (hY x.body m 1) with ⟨n,hn⟩|⟨e',hn⟩
   ·rw [hn] at h hok;exact BG hok.2 h
   ·rw [hn] at h hok;cases h;exact hok
theorem FD {p:List Sg}{e:Int×Int}(h:aV p=.error e):e.1≠0:=by
 unfold aV at h
 split at h
 ·cases h;decide
 split at h
 ·cases h;decide
 exact BG (by decide) h
theorem qI {p:List Sg}(h:(gY (aV p)).1=0):HY p∧gY (aV p)=(0,0)∧∃n,aV p=.ok n:=by
 rcases rr (aV p) with ⟨n,hn⟩|⟨e,hn⟩
 ·exact ⟨yB hn,by rw [hn];rfl,n,hn⟩
 ·rw [hn] at h;exact absurd h (FD hn)
def bH (p:List Sg):Int×Int:=if (gY (aV p)).1=0 then (if 12000 < (pgT p).length then (1,-1) else (0,0)) else gY (aV p)
theorem yw {p:List Sg}(h:(bH p).1=0):HY p∧(pgT p).length≤12000∧bH p=(0,0):=by
 unfold bH at h ⊢
 split
 ·rename_i h0;rw [if_pos h0] at h
  split
  ·rename_i h1;rw [if_pos h1] at h;cases h
  ·exact ⟨(qI h0).1,by omega,rfl⟩
 ·rename_i h0;rw [if_neg h0] at h;exact absurd h h0
section
variable  {ω:Amb}
theorem DR (hω:ω.low=0)(p:List Sg)(hsm:Small p)(v:Value)(h:Hp)(hp:PgS h v p)(ht:ee h)(X:XT) :
  aa Tryz.prog ω tE [v] h (fun r h'=>r=.agg (flt (bH p).1 (bH p).2).toArray∧KF h h') X:=by
 obtain ⟨w0,rfl,hs⟩:=hp;refine tg ω _ h _ X ?_;unfold oR;simp only [show Value.cells (.agg #[w0])=[w0].toArray from rfl]
 have hb0:=af (h:=h) (o:=.cells [w0].toArray 24 (0,0));have k0:=ar.push (S:=fun _=>False) h (.cells [w0].toArray 24 (0,0));have z0:(h.push (.cells [w0].toArray 24 (0,0))).size=h.size+1:=by simp
 generalize h.push (.cells [w0].toArray 24 (0,0))=h1 at *;have hb1:=af (h:=h1) (o:=.cells (flt 0 0).toArray 28 (0,0));have k1:=ar.push (S:=fun _=>False) h1 (.cells (flt 0 0).toArray 28 (0,0));simp only [show (Obj.cells #[(.int .i64 0),(.int .i64 0)] 28 (0,0))=Obj.cells (flt 0 0).toArray 28 (0,0) from rfl]
 generalize h1.push (.cells (flt 0 0).toArray 28 (0,0))=h2 at *;have hb0:=k1.get hb0 (by simp)
 have k02:=k0.trans k1;have hL:h.size≤h1.size:=by omega
 refine ⟨_,ak hb0 rfl,?_⟩;refine aa.use (DF p hsm (.agg #[w0]) h2 ⟨w0,rfl,hs.az k02⟩) ?_;rintro _ h3 ⟨rfl,k3⟩;have hb03:=k3.get hb0 (by simp)
 have hb13:=k3.get hb1 (by simp)
 have k03:=k02.trans k3;rw [asA_agg];refine ⟨rfl,aW _ _,ay (cs:=flt (gY (aV p)).1 (gY (aV p)).2) rfl ?_⟩;have hb4:=af (h:=h3) (o:=.cells (flt (gY (aV p)).1 (gY (aV p)).2).toArray 28 (0,0));have k4:=ar.push (S:=fun _=>False) h3 (.cells (flt (gY (aV p)).1 (gY (aV p)).2).toArray 28 (0,0));have hL3:h1.size < h3.size:=by have:=cH hb13;omega
 generalize h3.push (.cells (flt (gY (aV p)).1 (gY (aV p)).2).toArray 28 (0,0))=h4 at *;have hb04:=k4.get hb03 (by simp)
 have hb14:=k4.get hb13 (by simp)
 have k04:=k03.trans k4;refine ⟨fun v h'=>v=.bool (decide ((gY (aV p)).1=0∧12000 < (pgT p).length))∧KF h4 h',?_,?_⟩
 ·refine lx hb4 (j:=0) rfl ?_;rw [asK_int];refine ae (fun hc=>?_) (fun hc=>?_)
  ·have h0:(gY (aV p)).1=0:=eq_of_beq hc;refine ⟨_,ak hb04 rfl,?_⟩;refine aa.use (D5 hω p hsm (qI h0).1 (.agg #[w0]) h4 ⟨w0,rfl,hs.az k04⟩ (ht.more k04)) ?_;rintro _ h5 ⟨rfl,k5⟩;rw [asS_str,aD];refine ⟨?_,k5⟩
   congr 1
   rw [Bool.eq_iff_iff];simp [h0];omega
  ·have h0:¬(gY (aV p)).1=0:=beq_eq_false_iff_ne.1 hc;exact ⟨by rw [decide_eq_false fun h=>h0 h.1],ar.refl _ _⟩
 rintro _ _ h5 ⟨rfl,k5⟩;have hb5:=k5.get hb4 (by simp)
 have hb15:=k5.get hb14 (by simp)
 have k05:=k04.trans k5;have hR:bH p=if (gY (aV p)).1=0∧12000 < (pgT p).length then (1,-1) else gY (aV p):=by
  unfold bH
  by_cases h0:(gY (aV p)).1=0
  ·rw [if_pos h0,(qI h0).2.1]
   by_cases h1:12000 < (pgT p).length<;>simp [h1]
  ·rw [if_neg h0,if_neg fun h=>h0 h.1]
 refine ⟨fun h'=>h'[h3.size]?=some (.cells (flt (bH p).1 (bH p).2).toArray 28 (0,0))∧ar (fun b=>b=h3.size) h5 h',?_,?_⟩
 ·rw [asB_bool];refine ae (fun hc=>?_) (fun hc=>?_)
  ·have h1:=of_decide_eq_true hc;refine ⟨trivial,aW 1 (-1),aM (o:=0) hb5 (by simp [flt]) ?_⟩
   rw [bu (by rfl),hR,if_pos h1]
   exact ⟨aq hb5,ar.set (S:=fun b=>b=h3.size) _ rfl⟩
  ·rw [hR,if_neg (of_decide_eq_false hc)];exact ⟨hb5,ar.refl _ _⟩
 rintro _ h6 ⟨hb6,k6⟩;have hb16:=k6.get hb15 (by omega)
 refine ⟨_,ak hb6 rfl,rfl,aW _ _,wD hb16 rfl rfl fun h' kk _=>⟨rfl,?_⟩⟩;have hs3:=k03.size;exact DC (DC k05 (by omega) k6) hL kk
end
section
variable  {ω:Amb}
end
end Go.Proofs.YtkeeboomikkojaaGreatDoor
