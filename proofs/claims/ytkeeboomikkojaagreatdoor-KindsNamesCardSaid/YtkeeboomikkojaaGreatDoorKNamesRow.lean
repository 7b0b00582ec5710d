/- KindsNames: the statement. For every program and numbers: the law returns true; the condition is that the library's table of powers holds what Go lays (tied to the text); no other of the listed variables is read. -/
import Derived.Test.YtkeeboomikkojaaGreatDoorSxRow
import Derived.Test.YtkeeboomikkojaaGreatDoorRnRow
import Derived.Test.YtkeeboomikkojaaGreatDoorPa
import Derived.Test.YtkeeboomikkojaaGreatDoorRows
import Derived.Test.YtkeeboomikkojaaGreatDoorCards
import Derived.Test.YtkeeboomikkojaaGreatDoorTie
import Derived.ShutString
import Derived.ChangeOld
import Derived.ProofKit
import Derived.LaidMore
import Derived.Lib.LaidTab
import Derived.Stop.Joined
import Derived.SevenTiedAt
set_option maxRecDepth 100000
namespace Go.Proofs.YtkeeboomikkojaaGreatDoor.kindsNames
open Go.ChangeShapes Go.WideShapes Go.ChangeAt Go.RowKit Go.Sx
open Go.ChangeMaps (open_string shut_string)
open Go.Sx.Rn
theorem gPow : Tryz.prog.globalNamed "internal/strconv.uint64pow10" = some 3 := by kernel_rfl
theorem tPow:(Tryz.prog.globals[3]?).map (·.type)=some 218:=by kernel_rfl
theorem M4:(Rows.laid_internal_strconv_uint64pow10:DataW Unit)=Lib.tabData .u64 Lib.pow10Tab:=by kernel_rfl
def zJ : List (String × DataW Unit) := [("math/bits.deBruijn32tab", Rows.laid_math_bits_deBruijn32tab), ("math/bits.deBruijn64tab", Rows.laid_math_bits_deBruijn64tab), ("internal/strconv.uint64pow10", Rows.laid_internal_strconv_uint64pow10), ("strconv.ErrRange", Rows.laid_strconv_ErrRange), ("strconv.ErrSyntax", Rows.laid_strconv_ErrSyntax)]
theorem Jq (os:Os)(args:Array Value):laidMetH Tryz.prog zJ ((World.doorLaid Tryz.prog 62 os).forCall (fun _ _=>0) ⟨#[],args,[]⟩).memory :=
 laidMetH_of_parts3 (fuel:=8) (laidMet_of_run' 8 (by kernel_rfl) (by kernel_rfl)) (by kernel_rfl) (by kernel_rfl)
theorem MF {W0:World}(h:laidMetH Tryz.prog zJ W0):fe W0.heap:=by
 rw [MakeChecks.laidMetH_plain _ _ _ (by kernel_rfl)] at h
 obtain ⟨ps,⟨_,_,_,_,_,_,_,_,_,_,⟨_,_,_,_,_,_,_,_,_,_,⟨g2,t2,cs2,f2,p2,q2,hg2,ht2,hv2,hd2,_,_⟩,_⟩,_⟩,_,_⟩:=h;obtain rfl:=Option.some.inj (gPow.symm.trans hg2);obtain rfl:=Option.some.inj (tPow.symm.trans ht2);rw [M4] at hd2;have hc2:=Lib.cells_of_tab Tryz.underlying218 Tryz.underlying182 (by kernel_rfl) (by kernel_rfl) hd2
 intro ω d;show W0.var? Tryz.prog "internal/strconv.uint64pow10" = _;rw [hv2]
 congr 1
 exact Array.ext' hc2
theorem lifted (os:Os)(started:os.Started)(H:Type)(enc:TypeId×Value→H) :
  ReturnsInHanded {} Tryz.checked os 7 .any (fun w args=>(Rows.kindsNamesSpec.pre enc Tryz.prog Tryz.f7 [] false w args∧laidMetH Tryz.prog zJ w)∧sizedMet enc Tryz.prog Tryz.f7 (OpenSpec.ofChange Rows.kindsNamesSpec) false w args)
   (Rows.kindsNamesSpec.post enc Tryz.prog Tryz.f7 false true false false):=by
 refine returnsInHanded_of_change_and (C:=Tryz.checked) (X:=fun w _=>laidMetH Tryz.prog zJ w) (fun _ _ _ hh h=>h.of_heap hh) own started (by kernel_rfl) Tryz.func7
  (ChangeSpec.witness_shaped (enc:=enc) (C:=Tryz.checked) (os:=os) (X:=fun w _=>laidMetH Tryz.prog zJ w) false (World.doorLaid Tryz.prog 62 os) #[.agg #[.slice none 0 0],.int .i64 0,.int .i64 0] 8 rfl (World.shaped_of_RefB (by kernel_rfl) (by kernel_rfl)) (by kernel_rfl) (by kernel_rfl) (by kernel_rfl) (Jq os _)) ?_
 intro W base args ds gs before hval0 hW _ _ hL _;have hval:∀(j:Nat) t v,Tryz.f7.params[j]?=some t→args[j]?=some v→Value.okWide Tryz.prog W .any base t v:=hval0;have hW':=hW;obtain ⟨p,q,hA0,hV,rfl,hfz,hnd⟩:=hW;have hA:DataW.TrodAll enc Tryz.prog W 0 (fun _=>true) true Tryz.f7.params.toList args.toList ds p:=hA0;rw [Tryz.params7] at hA hval;obtain ⟨v0,vs0,d0,ds0,p0,q0,hargs,rfl,rfl,h0,r0⟩:=trodAll_cons hA
 obtain ⟨v1,vs1,d1,ds1,p1,q1,rfl,rfl,rfl,h1,r1⟩:=trodAll_cons r0;obtain ⟨v2,vs2,d2,ds2,p2,q2,rfl,rfl,rfl,h2,r2⟩:=trodAll_cons r1;obtain ⟨rfl,rfl,rfl⟩:=trodAll_nil r2;obtain rfl:args=#[v0,v1,v2]:=by cases args;simp_all
 obtain ⟨rfl,rfl⟩:=trodVars_none hV;obtain ⟨c0,rfl,_⟩:=okWide_struct Tryz.underlying24 (hval 0 24 v0 rfl rfl);have k0:=h0;have lt0:∀x∈p0,x.block < W.heap.size:=by obtain ⟨m,hm⟩:=k0;exact DataW.trod_lt m _ _ _ hm
 obtain ⟨w0,pg0,hcs0,hsg0,hc0⟩:=(by obtain ⟨fuel,hf⟩:=h0;exact Il hf:∃v p,(Value.agg c0).cells.toList=[v]∧SgS W.heap v p∧Ai v)
 obtain rfl:c0=#[w0]:=Array.ext' hcs0;obtain ⟨s1,rfl,rfl,rfl,ws1⟩:=open_int Tryz.underlying3 (hval 1 3 v1 rfl rfl) h1;obtain ⟨s2,rfl,rfl,rfl,ws2⟩:=open_int Tryz.underlying3 (hval 2 3 v2 rfl rfl) h2;have hp:=MF hL;clear hA0 hval0;have walk:=Bn (P:=Tryz.prog) (f:=7) (args:=[.agg #[w0],.int .i64 s1,.int .i64 s2]) (w:=W)
  (fun ω hω=>vq hω pg0 w0 hc0 s1 s2 W.heap hsg0 hp _)
 refine walk.mono fun e W' ⟨he,bel⟩=>?_;subst he;exact ⟨_,rfl,_,_,_,[],_,[],hW',trodAll_mk1 (shut_bool Tryz.underlying4 _),(trodAll_cons_mk (Below.trod laidOut (by kernel_rfl) (of_decide_eq_true (by kernel_rfl)) k0 bel lt0) (trodAll_cons_mk (shut_int Tryz.underlying3 ws1) (trodAll_cons_mk (shut_int Tryz.underlying3 ws2) trodAll_mk0))),rfl,bel.frame _,fun h=>by cases h⟩
theorem over:Rows.kindsNamesRow.holds Tryz.pinned (OpenSpec.ofChange Rows.kindsNamesSpec) :=
 OpenClaim.holds_of_wide 7 Tryz.f7 rfl rfl rfl rfl rfl rfl rfl ⟨rfl,rfl,rfl,rfl,rfl⟩ rfl rfl rfl rfl rfl (by kernel_rfl) Tryz.func7 (by kernel_rfl)
  (of_decide_eq_true (by kernel_rfl)) (by unfold Func.isWrapper;first|(rw [if_pos (by decide+kernel)];kernel_rfl)|(rw [if_neg (by decide+kernel)];exact ⟨rfl,rfl⟩))
  (fun os started H enc _=>lifted os started H enc)
theorem proved:Rows.KindsNamesCardSaid :=
 Claim7.holds_tied_plain_at .later [] [.data, .data, .data, .sentinel, .sentinel] true (true, "81f81844f3f5ebb8dbd03ed6324806f5b4aeda661a81ea606bd39d60b09a1c06") true
  over (fun _ h=>by cases h) (by kernel_rfl) (fun _ h=>by cases h) kindsNames_row_tie rfl ⟨rfl,rfl⟩ (by kernel_rfl) rfl
  (fun f fn hf hfn=>by
   obtain rfl : f = 7 := Option.some.inj ((show Tryz.prog.funcNamed "pipewright/pipewrightlaw.KindsNames" = some 7 by kernel_rfl).symm.trans hf) |>.symm
   obtain rfl:fn=Tryz.f7:=(Option.some.inj (Tryz.func7.symm.trans hfn)).symm;exact ⟨by kernel_rfl,fun j t ht=>by
    rw [Tryz.params7] at ht;have hm:t∈[24,3,3]:=by simpa using Array.mem_of_getElem? ht
    have hall:([24,3,3].all fun u=>!Tryz.prog.wantsStandIn u)=true:=by kernel_rfl
    exact (show Tryz.prog.wantsStandIn t=false by simpa using List.all_eq_true.1 hall t hm)⟩)
  (by kernel_rfl)
#print axioms proved
end Go.Proofs.YtkeeboomikkojaaGreatDoor.kindsNames
