import Derived.Test.YtkeeboomikkojaaGreatDoorWa
import Derived.Test.YtkeeboomikkojaaGreatDoorYk
import Derived.Test.YtkeeboomikkojaaGreatDoorRf2
import Derived.Test.YtkeeboomikkojaaGreatDoorExA
import Derived.Test.YtkeeboomikkojaaGreatDoorExB
import Derived.Test.YtkeeboomikkojaaGreatDoorRnRow
set_option maxRecDepth 100000
namespace Go.Proofs.YtkeeboomikkojaaGreatDoor
open Go Go.Sx Go.Sx.Tk Go.Sx.Rn Go.Proofs.YtkeeboomikkojaaGreatDoor.Sx
theorem IR {deep:Int}{x:St}(h:stG deep x):(x.d=1∨x.d=2∨x.d=3∨x.d=13∨x.d=14→x.e.length=1)∧(x.d≠6→x.d≠10→x.d≠4→¬(x.d=1∨x.d=2∨x.d=3∨x.d=13∨x.d=14)→x.e=[]) ∧
  (¬(x.d=11∨x.d=12∨x.d=13∨x.d=14)→x.body=[]∧x.els=[]):=by
 obtain ⟨f,hf⟩:=tP (jR.1 h).1;have hd1:=hf.d1;have hd2:=hf.d2;have hform:=hf.form;have hne:=hf.ne;have hbo:=hf.bo;have hel:=hf.el;clear hf;have hd:x.d=1∨x.d=2∨x.d=3∨x.d=4∨x.d=5∨x.d=6∨x.d=7∨x.d=8∨x.d=9∨x.d=10∨x.d=11∨x.d=12∨x.d=13∨x.d=14:=by omega
 rcases hd with hd|hd|hd|hd|hd|hd|hd|hd|hd|hd|hd|hd|hd|hd <;>
 ·rw [hd] at hform;cases hform;refine ⟨fun h1=>?_,fun h2 h3 h4 h5=>?_,fun h6=>?_⟩
  ·first
    |(have h9:(x.e.length:Int)=1:=hne (show (0:Int)≤1 by omega);omega)
    |omega
  ·first
    |exact absurd hd h3
    |(have h9:(x.e.length:Int)=0:=hne (show (0:Int)≤0 by omega);exact List.eq_nil_of_length_eq_zero (by omega))
    |omega
  ·first
    |exact ⟨hbo rfl,hel rfl⟩
    |omega
theorem ID {ab:List Sg}{x:St}{env bd:List Vr}{m:Int}(htw:dh bd x=false)(hf:(kuf ab env m x).1=0)(hbo:x.body=[]∧x.els=[]):kst ab x env bd m=.ok (bd++bc x (kof ab env m x),m+1):=by
 rw [sS,htw,if_neg Qe,if_neg (Z8 hf),hbo.1,hbo.2];unfold j8;rfl
theorem Lt {ab:List Sg}{x:St}{env bd:List Vr}{m:Int}(h:(if dh bd x=true then ((9,m):Int×Int) else kuf ab env m x).1≠0):kst ab x env bd m=.error (if dh bd x=true then ((9,m):Int×Int) else kuf ab env m x):=by
 rw [sS];cases htw:dh bd x with
 |true=>rfl
 |false =>
  rw [htw,if_neg Qe] at h;rw [if_neg Qe,if_pos h,if_neg Qe]
theorem B1 {ab:List Sg}{x:St}{env bd:List Vr}{m:Int}(htw:dh bd x=false)(hf:(kuf ab env m x).1=0):kst ab x env bd m=vP (j8 ab x.body ((bc x (kof ab env m x)).reverse++env) (bd++bc x (kof ab env m x)) (m+1)) fun b1 m1=>j8 ab x.els (rQ ab env m x++env) b1 m1:=by
 rw [sS,htw,if_neg Qe,if_neg (Z8 hf)]
section
variable  {ω:Amb}{T:TypeId}{h0:Hp}{C:Nat}{pv nv bv:Value}{a:Int}
def LJ (T:TypeId)(h0:Hp)(C:Nat)(pv:Value)(st:Int)(nv bv:Value)(h h':Hp)(ab:List Sg)(x:St)(env l bd:List Vr)(a:Int):Prop :=
 (∃bd' a',NW T h0 C pv st nv bv h h' a' (0,0) (l++(rQ ab env a x).reverse) bd'∧kst ab x env bd a=.ok (bd',a'))∨∃e lo bd' a',kst ab x env bd a=.error e∧e.1≠0∧NW T h0 C pv st nv bv h h' a' e (l++lo) bd'
set_option maxHeartbeats 1600000 in
theorem P5 (hT : T ≠ 56) {N k0 : Nat} {p : List Sg} (hk0 : k0 ≤ p.length) (hp : SgS h0 pv p) (hNL : NL ω T h0 C pv (k0 : Int) (p.take k0) N) : NL ω T h0 C pv (k0 : Int) (p.take k0) (N + 1) := by
  intro xs deep hN hG h l bd env a nv bv w hKE hTe hTl hsub hl hbd ha0 ha hw nb X
  refine cC ω _ _ h _ X ?_
  unfold bY
  simp only [nnK_ptr, asP_some]
  have hmax := hw.max
  refine ⟨fun t h' => ∃ k : Nat, t = .int .i64 k ∧ k ≤ xs.length ∧ ((∃ l' bd' a' env', NW T h0 C pv (k0 : Int) nv bv h h' a' (0, 0) (l ++ l') bd' ∧ KEq (l ++ l') env' ∧ TyE env' ∧ TyE (l ++ l') ∧ Hs (l ++ l') bd' ∧ (l ++ l').length + 2 * cq (xs.drop k) ≤ 1000000 ∧ bd'.length + 2 * cq (xs.drop k) ≤ 1000000 ∧ 0 ≤ a' ∧ a' + cq (xs.drop k) ≤ 1000000 ∧
      j8 (p.take k0) xs env bd a = j8 (p.take k0) (xs.drop k) env' bd' a') ∨ (∃ e l' bd' a', j8 (p.take k0) xs env bd a = .error e ∧ e.1 ≠ 0 ∧ NW T h0 C pv (k0 : Int) nv bv h h' a' e (l ++ l') bd')), fun t _ => match t with | .int _ k => xs.length - k.toNat | _ => 0,
    ⟨0, rfl, by omega, .inl ⟨[], bd, a, env, by rw [Z1]; exact NW.of nb, by rw [Z1]; exact hKE, hTe, by rw [Z1]; exact hTl, by rw [Z1]; exact hsub, by rw [Z1]; exact hl, hbd, ha0, ha, rfl⟩⟩, ?_⟩
  rintro _ _ h1 ⟨k, rfl, hk, hst⟩
  rcases hst with ⟨l1', bd1, a1, env1, w1, hKE1, hTe1, hTl1, hsub1, hl1, hbd1, ha01, ha1, he1⟩ | ⟨e, l', bd', a', he1, hne, w1⟩
  rotate_left
  · obtain ⟨_, nv5, bv5, nb5, _, _⟩ := id w1
    refine ⟨false, ?_, fun _ => ba rfl ?_⟩
    · refine (hw.aE nb5.ns.k).sl fun _ _ => ?_
      rw [asK_int]
      refine ah (fun hc => ?_) (fun hc => ⟨rfl, trivial⟩)
      refine ⟨_, lx' (j := 5) nb5.ns.c rfl, ?_⟩
      rw [asK_int]
      exact ⟨by rw [Qa.2 hne], trivial⟩
    · rw [he1]
      exact ⟨hne, l', bd', a', w1⟩
  obtain ⟨K1, nv1, bv1, nb1, o1, o2⟩ := id w1
  refine ⟨decide (k < xs.length), ?_, fun _ => ah (fun hc => ?_) (fun hc => ?_)⟩
  · refine (hw.aE nb1.ns.k).sl fun _ _ => ?_
    rw [asK_int]
    refine ah (fun hc => ?_) (fun hc => ?_)
    · have : k < xs.length := by have := Qj hc; omega
      refine ⟨_, lx' (j := 5) nb1.ns.c rfl, ?_⟩
      rw [asK_int, Z6 this]
      exact ⟨rfl, trivial⟩
    · have : ¬ k < xs.length := by have := Qc hc; omega
      rw [Z0 this]
      exact ⟨rfl, trivial⟩
  rotate_left
  · have hc := Qc hc
    obtain rfl : k = xs.length := by omega
    rw [Qt, show ∀ env : List Vr, j8 (p.take k0) [] env bd1 a1 = .ok (bd1, a1) from fun _ => by unfold j8; rfl] at he1
    rw [he1]
    exact ⟨l1', w1⟩
  have hkl := Qj hc
  have hx := Q7 hkl
  have hmem : xs[k] ∈ xs := Qv hkl
  generalize xs[k] = x at hx hmem
  have hgx := sa hG hmem
  obtain ⟨hd1, hd2⟩ := xh hx
  have hxn := gW hmem
  have hxe := jH x
  obtain ⟨f1, f2, f3⟩ := IR hgx
  rw [hd2, mq] at he1
  generalize hL1 : l ++ l1' = l1 at *
  have hown : ∀ {h2 h3 : Hp} {a' : Int} {f' : Int × Int} {lo bd' : List Vr}, KF h1 h2 → NW T h0 C pv (k0 : Int) nv1 bv1 h2 h3 a' f' lo bd' → NW T h0 C pv (k0 : Int) nv bv h h3 a' f' lo bd' := fun kk ww =>
    NW.seq (K1.cA (kk.mono fun _ _ hf => hf.elim)) o1 o2 ww
  refine ⟨fun h' => LJ T h0 C pv (k0 : Int) nv bv h h' (p.take k0) x env1 l1 bd1 a1, ?_, fun _ h' hh => ?_⟩
  rotate_left
  · rw [asK_int, i64_in (by omega) (by omega)]
    refine ⟨⟨k + 1, by simp, by omega, ?_⟩, by simp; omega⟩
    rcases hh with ⟨bd2, a2, w2, hr⟩ | ⟨e, lo, bd2, a2, hr, hne, w2⟩
    · have hlen := Bw _ x hr
      have h3 : bd2.length ≤ _ := hlen.1
      have h4 : a1 ≤ a2 := hlen.2.1
      have h5 : a2 ≤ a1 + stN x := hlen.2.2
      obtain ⟨htw, hkf⟩ := KA hr
      obtain ⟨t, ht⟩ := EF _ x hr
      have ht : bd2 = bd1 ++ t := ht
      have hout : rQ (p.take k0) env1 a1 x = [] ∨ rQ (p.take k0) env1 a1 x = (bc x (kof (p.take k0) env1 a1 x)).reverse := by
        unfold rQ
        split
        · exact .inl rfl
        · exact .inr rfl
      have hl2 := qt x (kof (p.take k0) env1 a1 x)
      have hol : (rQ (p.take k0) env1 a1 x).reverse.length ≤ 2 := by
        rcases hout with e | e
        · rw [e]; simp
        · rw [e]; simpa using hl2
      rw [hr] at he1
      have hke2 : KEq (l1 ++ (rQ (p.take k0) env1 a1 x).reverse) (rQ (p.take k0) env1 a1 x ++ env1) := by
        rcases hout with e | e
        · rw [e]
          simpa using hKE1
        · rw [e, List.reverse_reverse]
          have := KEq.new hKE1 hsub1 htw (kof (p.take k0) env1 a1 x) _ (Zc _)
          rwa [Qo] at this
      have hteo := JC hTe1 hgx hkf
      subst hL1
      refine .inl ⟨l1' ++ (rQ (p.take k0) env1 a1 x).reverse, bd2, a2, rQ (p.take k0) env1 a1 x ++ env1, by rw [← Qk]; exact w2, by rw [← Qk]; exact hke2, hteo, ?_, ?_, ?_, by omega, by omega, by omega, he1⟩
      · rw [← Qk]
        intro v hv
        rcases Z3.1 hv with hv | hv
        · exact hTl1 v hv
        · exact hteo v (List.mem_append_left _ (List.mem_reverse.1 hv))
      · rw [← Qk]
        intro v hv
        rcases Z3.1 hv with hv | hv
        · rw [ht]
          exact hsub1.more t v hv
        · rcases hout with e | e
          · rw [e] at hv
            cases hv
          · have hbb : ∃ t', bd2 = bd1 ++ bc x (kof (p.take k0) env1 a1 x) ++ t' := by
              rw [B1 htw hkf] at hr
              obtain ⟨b9, m9, g1, g2⟩ := my hr
              obtain ⟨t1, e1⟩ := qI _ x.body g1
              obtain ⟨t2, e2⟩ := qI _ x.els g2
              have e1 : b9 = _ := e1
              have e2 : bd2 = _ := e2
              exact ⟨t1 ++ t2, by rw [e2, e1, Qk]⟩
            obtain ⟨t', ht'⟩ := hbb
            rw [e, List.reverse_reverse] at hv
            rw [ht', List.map_append, List.map_append]
            exact List.mem_append_left _ (List.mem_append_right _ (List.mem_map_of_mem hv))
      · rw [← Qk, Qd]
        omega
    · rw [hr] at he1
      subst hL1
      exact .inr ⟨e, l1' ++ lo, bd2, a2, he1, hne, by rw [← Qk]; exact w2⟩
  refine hw.vz nb1.ns.k hx fun ve vb vl hve hvb hvl => ?_
  refine ⟨rfl, iT hve.ca hvb.ca hvl.ca, aA (cs := stC x ve vb vl) rfl ?_⟩
  have hb2 := ai (h := h1) (o := .cells (stC x ve vb vl).toArray 39 (0, 0))
  have k12 := ay.push (S := fun _ => False) h1 (.cells (stC x ve vb vl).toArray 39 (0, 0))
  have z12 : h1.size < (h1.push (.cells (stC x ve vb vl).toArray 39 (0, 0))).size := by simp
  generalize h1.push (.cells (stC x ve vb vl).toArray 39 (0, 0)) = h2 at *
  have nb2 := nb1.more k12
  obtain ⟨n1, b1⟩ := nb2.OW hT
  have hCl := nb1.ns.lt
  have nlt := nb1.on.lt
  have blt := nb1.ob.lt
  have hbg : ∀ h', KN C nv1 bv1 h2 h' → h'[h1.size]? = some (.cells (stC x ve vb vl).toArray 39 (0, 0)) := fun h' kk => kk.get hb2 (by
    rintro (e | e | e)
    · omega
    · have := (nlt _ e).2; omega
    · have := (blt _ e).2; omega)
  refine ⟨_, aq hb2 rfl, ?_⟩
  refine ae.use (F7 hk0 hp hTl1 n1 x (M3 hgx) f1 f2 (E3 hgx) hve nb2.ns ⟨nb2.on.tM, by omega⟩ ⟨nb2.ob.tM, by omega⟩) ?_
  rintro r h3 ⟨k23, ns3, hr3⟩
  have nb3 := nb2.iO hT k23 ns3
  have K23 : KN C nv1 bv1 h2 h3 := k23.mono fun b _ hb => .inl hb
  have hku : kuf (p.take k0) l1 a1 x = kuf (p.take k0) env1 a1 x := by unfold kuf; rw [Jk hKE1]
  rw [hku] at nb3 ns3 hr3
  rw [NY hKE1] at hr3
  refine ⟨_, lx' (j := 5) ns3.c rfl, ?_⟩
  rw [asK_int]
  refine ah (fun hc => ?_) (fun hc => ?_)
  · have hne := Zd.1 hc
    rw [Lt hne] at he1
    rw [he1]
    subst hL1
    exact ⟨hne, l1', bd1, a1, hown k12 ⟨K23, nv1, bv1, nb3, fun k hk => .inl hk, fun k hk => .inl hk⟩⟩
  have hz : (if dh bd1 x = true then ((9, a1) : Int × Int) else kuf (p.take k0) env1 a1 x).1 = 0 := by simpa using hc
  have htw : dh bd1 x = false := by
    cases htw : dh bd1 x with
    | false => rfl
    | true =>
      rw [htw, if_pos rfl] at hz
      exact absurd hz (by decide : ¬ (9 : Int) = 0)
  have hrr := hr3 hz
  rw [htw, if_neg Qe] at hz nb3 ns3
  have hz0 : kuf (p.take k0) env1 a1 x = (0, 0) := ER Zf0 _ _ _ _ hz
  rw [hz0] at nb3 ns3
  subst hrr
  refine ⟨_, lx' (j := 4) ns3.c rfl, ?_⟩
  rw [asK_int, i64_in (by omega) (by omega), aT, Zb]
  refine aR ns3.c (by show 4 < 7; decide) ?_
  have e2 : (naC pv (k0 : Int) nv1 bv1 a1 (0, 0)).toArray.setIfInBounds 4 (.int .i64 (a1 + 1)) = (naC pv (k0 : Int) nv1 bv1 (a1 + 1) (0, 0)).toArray := by simp [naC]
  rw [e2]
  have k34 : KC C h3 (h3.setIfInBounds C (.cells (naC pv (k0 : Int) nv1 bv1 (a1 + 1) (0, 0)).toArray T (0, 0))) := ay.set (S := fun k => k = C) (h := h3) (.cells (naC pv (k0 : Int) nv1 bv1 (a1 + 1) (0, 0)).toArray T (0, 0)) (b := C) rfl
  have c4 := av (o := .cells (naC pv (k0 : Int) nv1 bv1 (a1 + 1) (0, 0)).toArray T (0, 0)) ns3.c
  generalize h3.setIfInBounds C (.cells (naC pv (k0 : Int) nv1 bv1 (a1 + 1) (0, 0)).toArray T (0, 0)) = h4 at *
  have nb4 := nb3.iO hT k34 ⟨ns3.k.cA (k34.mono fun b _ hb => .inr (by have hb : b = C := hb; have := ns3.b; omega)), ns3.b, c4⟩
  have w4 : NW T h0 C pv (k0 : Int) nv1 bv1 h2 h4 (a1 + 1) (0, 0) l1 bd1 := ⟨K23.trans (k34.mono fun b _ hb => .inl hb), nv1, bv1, nb4, fun k hk => .inl hk, fun k hk => .inl hk⟩
  refine ⟨_, lx' (j := 2) nb4.ns.c rfl, ?_⟩
  refine nb4.on.tM.sl fun _ _ => ?_
  refine lx (hbg _ w4.1) (j := 0) (u := .int .i64 x.d) rfl ?_
  have fin : ∀ {h' : Hp}, ¬ (x.d = 11 ∨ x.d = 12 ∨ x.d = 13 ∨ x.d = 14) → NW T h0 C pv (k0 : Int) nv1 bv1 h2 h' (a1 + 1) (0, 0) (l1 ++ bc x (kof (p.take k0) env1 a1 x)) (bd1 ++ bc x (kof (p.take k0) env1 a1 x)) → LJ T h0 C pv (k0 : Int) nv bv h h' (p.take k0) x env1 l1 bd1 a1 := fun hd ww => by
    have hko : (rQ (p.take k0) env1 a1 x).reverse = bc x (kof (p.take k0) env1 a1 x) := by
      unfold rQ
      rw [if_neg (by omega), List.reverse_reverse]
    exact .inl ⟨_, _, by rw [hko]; exact hown k12 ww, ID htw hz (f3 hd)⟩
  have finb : ∀ (h' : Hp) (res : KR), kst (p.take k0) x env1 bd1 a1 = res → (rQ (p.take k0) env1 a1 x = []) → (match res with
      | .ok q => NW T h0 C pv (k0 : Int) nv1 bv1 h2 h' q.2 (0, 0) l1 q.1
      | .error e => e.1 ≠ 0 ∧ ∃ bd' a', NW T h0 C pv (k0 : Int) nv1 bv1 h2 h' a' e l1 bd') → LJ T h0 C pv (k0 : Int) nv bv h h' (p.take k0) x env1 l1 bd1 a1 := fun h' res hr hko hm => by
    cases res with
    | ok q => exact .inl ⟨q.1, q.2, by rw [hko, List.reverse_nil, Z1]; exact hown k12 hm, hr⟩
    | error e =>
      obtain ⟨hne, bd', a', ww⟩ := hm
      exact .inr ⟨e, [], bd', a', hr, hne, by rw [Z1]; exact hown k12 ww⟩
  refine ⟨_, ?_, fun _ _ hh => hh⟩
  rw [asK_int]
  refine ⟨_, ?_, fun _ _ hh => hh⟩
  refine ah (fun hc => ?_) (fun hc => ?_)
  · have hd := Ze hc
    refine lx (hbg _ w4.1) (j := 2) (u := .string x.a) rfl ?_
    refine ae.use (tH hT (by omega) (by omega) (x.a, iB) w4) ?_
    intro _ h5 w5
    have hkb : bc x (kof (p.take k0) env1 a1 x) = [(x.a, iB)] := by unfold bc; rw [if_pos hd]
    exact fin (by omega) (by rw [hkb]; exact w5)
  have n1' := Qa.1 hc
  rw [asK_int]
  refine ⟨_, ?_, fun _ _ hh => hh⟩
  refine ah (fun hc => ?_) (fun hc => ?_)
  · have hd := Ze hc
    have htx := E3 hgx
    have hkb : bc x (kof (p.take k0) env1 a1 x) = [(x.a, sB ++ x.t), (x.b, rB ++ x.t)] := by unfold bc; rw [if_neg n1', if_pos hd]
    refine lx (hbg _ w4.1) (j := 2) (u := .string x.a) rfl ?_
    refine lx (hbg _ w4.1) (j := 4) (u := .string x.t) rfl ?_
    rw [asS_str]
    refine ⟨by have : ByteArray.size ⟨#[115]⟩ = 1 := rfl; omega, ?_⟩
    refine ae.use (tH hT (by omega) (by omega) (x.a, sB ++ x.t) w4) ?_
    intro _ h5 w5
    refine lx (hbg _ w5.1) (j := 3) (u := .string x.b) rfl ?_
    refine lx (hbg _ w5.1) (j := 4) (u := .string x.t) rfl ?_
    rw [asS_str]
    refine ⟨by have : ByteArray.size ⟨#[114]⟩ = 1 := rfl; omega, ?_⟩
    refine ae.use (tH hT (by rw [Qd, List.length_singleton]; omega) (by rw [Qd, List.length_singleton]; omega) (x.b, rB ++ x.t) w5) ?_
    intro _ h6 w6
    rw [Qk, Qk] at w6
    exact fin (by omega) (by rw [hkb]; exact w6)
  have n4 := Qa.1 hc
  rw [asK_int]
  refine ⟨_, ?_, fun _ _ hh => hh⟩
  refine ah (fun hc => ?_) (fun hc => ?_)
  · have hd := Ze hc
    have hkb : bc x (kof (p.take k0) env1 a1 x) = [(x.a, kof (p.take k0) env1 a1 x)] := by unfold bc; rw [if_neg n1', if_neg n4, if_pos (.inl hd)]
    refine lx (hbg _ w4.1) (j := 2) (u := .string x.a) rfl ?_
    refine ae.use (tH hT (by omega) (by omega) (x.a, kwh env1 a1 x) w4) ?_
    intro _ h5 w5
    refine fin (by omega) ?_
    rw [hkb, (KS hTe1 hz).1 hd]
    exact w5
  have n5 := Qa.1 hc
  rw [asK_int]
  refine ⟨fun t h' => t = .bool (decide (x.d = 11 ∨ x.d = 12)) ∧ h4 = h', ?_, ?_⟩
  · refine ah (fun hc => ?_) (fun hc => ?_)
    · have hd := Ze hc
      exact ⟨by rw [hc, Z6 (.inl hd)], rfl⟩
    · have hd := Qa.1 hc
      rw [asK_int]
      refine ⟨?_, rfl⟩
      congr 1
      rw [Qz]
      simp [hd]
  rintro _ _ _ ⟨rfl, rfl⟩
  refine ⟨_, ?_, fun _ _ hh => hh⟩
  rw [asB_bool]
  refine ah (fun hc => ?_) (fun hc => ?_)
  · have hd := Qj hc
    have hkb : bc x (kof (p.take k0) env1 a1 x) = [(x.a, kof (p.take k0) env1 a1 x)] := by unfold bc; rw [if_neg n1', if_neg n4, if_pos (.inr hd)]
    have hko : rQ (p.take k0) env1 a1 x = [] := by unfold rQ; rw [if_pos hd]
    obtain ⟨g1, g2⟩ := (KS hTe1 hz).2 hd
    refine lx (hbg _ w4.1) (j := 2) (u := .string x.a) rfl ?_
    rw [asS_str]
    refine ⟨by decide, by omega, by omega, ?_⟩
    show ae Tryz.prog ω 41 [pp C, .string x.a, .string ((kwh env1 a1 x).extract 1 (kwh env1 a1 x).size)] h4 _ X
    rw [← g1]
    refine ae.use (tH hT (by omega) (by omega) (x.a, kof (p.take k0) env1 a1 x) w4) ?_
    intro _ h5 w5
    have hk2 := B1 htw hz
    rw [hkb, hko] at hk2
    have hkn := KEq.new hKE1 hsub1 htw (kof (p.take k0) env1 a1 x) _ (Zc _)
    rw [Qo, hkb] at hkn
    have hgk := yj hTe1 hz (LC hgx)
    rw [hkb] at hgk
    refine nblk hT hNL hgx (by omega) (lb := [(x.a, kof (p.take k0) env1 a1 x)]) (env := env1) hkn hKE1 (fun v hv => ?_) (fun v hv => ?_) hsub1 (by rw [Qd, List.length_singleton]; omega) (by rw [Qd, List.length_singleton]; omega) (by omega) (by omega) hvb hvl hbg w5 fun h9 res hr hm => ?_
    · rcases Z3.1 hv with hv | hv
      · exact hgk v (List.mem_reverse.1 hv)
      · exact hTe1 v hv
    · rcases Z3.1 hv with hv | hv
      · exact hTl1 v hv
      · exact hgk v hv
    · exact finb h9 res (hk2.trans hr) hko hm
  have n11 := Qc hc
  rw [asK_int]
  refine ⟨fun t h' => t = .bool (decide (x.d = 13 ∨ x.d = 14)) ∧ h4 = h', ?_, ?_⟩
  · refine ah (fun hc => ?_) (fun hc => ?_)
    · have hd := Ze hc
      exact ⟨by rw [hc, Z6 (.inl hd)], rfl⟩
    · have hd := Qa.1 hc
      rw [asK_int]
      refine ⟨?_, rfl⟩
      congr 1
      rw [Qz]
      simp [hd]
  rintro _ _ _ ⟨rfl, rfl⟩
  refine ⟨_, ?_, fun _ _ hh => hh⟩
  rw [asB_bool]
  have hkb : bc x (kof (p.take k0) env1 a1 x) = [] := by unfold bc; rw [if_neg n1', if_neg n4, if_neg (by omega)]
  have hko : rQ (p.take k0) env1 a1 x = [] := by unfold rQ; rw [if_neg n11, hkb]; rfl
  refine ah (fun hc => ?_) (fun hc => ?_)
  · have hk2 := B1 htw hz
    rw [hkb, hko] at hk2
    have w4' : NW T h0 C pv (k0 : Int) nv1 bv1 h2 h4 (a1 + 1) (0, 0) (l1 ++ []) (bd1 ++ []) := by rw [Z1, Z1]; exact w4
    refine nblk hT hNL hgx (by omega) (lb := []) (env := env1) (by simpa using hKE1) hKE1 (by simpa using hTe1) (by simpa using hTl1) hsub1 (by rw [Z1]; omega) (by rw [Z1]; omega) (by omega) (by omega) hvb hvl hbg w4' fun h9 res hr hm => ?_
    exact finb h9 res (hk2.trans hr) hko hm
  · have n13 := Qc hc
    exact fin (by omega) (by rw [hkb, Z1, Z1]; exact w4)
theorem JU (hT:T≠56){k0:Nat}{p:List Sg}(hk0:k0≤p.length)(hp:SgS h0 pv p):∀N,NL ω T h0 C pv (k0:Int) (p.take k0) N
 |0=>fun xs _ hN=>absurd hN (Nat.not_lt_zero _)
 |N+1=>P5 hT hk0 hp (JU hT hk0 hp N)
end
theorem GG {f:Int×Int}(hf:f.1≠0)(bd:List Vr)(v:Vr)(at_:Int):db bd v at_ f=f:=by
 unfold db;rw [vn hf]
 split<;>rfl
theorem GC (at_:Int):∀(r:List Vr) (q:List Vr×(Int×Int)),q.2.1≠0→(r.foldl (fun q v=>(q.1++[v],db q.1 v at_ q.2)) q).2=q.2
 |[],_,_=>rfl
 |v::r,q,h=>by
  rw [List.foldl_cons];have e:db q.1 v at_ q.2=q.2:=GG h _ _ _;exact (GC at_ r (q.1++[v],db q.1 v at_ q.2) (by show (db q.1 v at_ q.2).1≠0;rw [e];exact h)).trans e
theorem Ig {at_:Int}{l:List Vr}{f:Int×Int}{k:Nat}(h:(kpP at_ (l.take k) f).2.1≠0):(kpP at_ l f).2=(kpP at_ (l.take k) f).2:=by
 have e:l=l.take k++l.drop k:=(Q8 k l).symm
 conv=>lhs;rw [e]
 unfold kpP;rw [List.foldl_append];exact GC at_ _ _ h
theorem Bu {T:TypeId}{h:Hp}{b:Nat}{pv nv bv:Value}{st a:Int}{f:Int×Int}{z:Nat×Nat}(hb:h[b]?=some (.cells (naC pv st nv bv a f).toArray T z)):ak h (Addr.add ⟨b,0,none⟩ 5) 2 (flt f.1 f.2):=by
 refine ⟨rfl,fun j u hu=>?_⟩;rw [aT,aT,br hb]
 match j,hu with
 |0,hu=>exact hu
 |1,hu=>exact hu
 |j+2,hu=>cases hu
theorem FD {ab:List Sg}{g:Sg}{at_ n:Int}{q:Sg}(h:ab.find? (fun s=>decide (s.nm=g.nm))=some q):eH ab g at_ n=.error (9,at_):=by
 have hk:vQ ab g.nm at_=(9,at_):=by
  unfold vQ;rw [if_pos];have h1:=List.find?_some h;exact List.any_eq_true.2 ⟨q,List.mem_of_find?_eq_some h,h1⟩
 have e:(kpP at_ g.ps (vQ ab g.nm at_)).2=(9,at_):=by
  rw [hk];unfold kpP;exact GC at_ _ _ (by decide:(9:Int)≠0)
 unfold eH;rw [e,if_pos (by decide:(9:Int)≠0)]
theorem FG {ab:List Sg}{nm:ByteArray}{at_:Int}(h:ab.find? (fun s=>decide (s.nm=nm))=none):vQ ab nm at_=(0,0):=by
 unfold vQ;rw [if_neg];intro ha;obtain ⟨q,hq,h1⟩:=List.any_eq_true.1 ha;exact List.find?_eq_none.1 h q hq h1
section
variable  {ω:Amb}
set_option maxHeartbeats 3200000 in
theorem Gp (p:List Sg)(hsm:Small p)(w:Value)(h:Hp)(hp:SgS h w p)(ht:ft h)
  (hRF:∀(v:Value) (h:Hp),PgS h v p→ft h→∀Y,ae Tryz.prog ω 12 [v] h (fun r h'=>r=.agg (flt (dF p).1 (dF p).2).toArray∧KF h h') Y) (X:XT) :
  ae Tryz.prog ω 19 [.agg #[w]] h (fun r h'=>KF h h'∧Np h h' r (cO p)) X:=by
 refine ri ω _ h _ X ?_;unfold jd cX aG aS;simp only [show Value.cells (.agg #[w])=[w].toArray from rfl,show (Obj.cells #[(.int .i64 0),(.int .i64 0)] 28 (0,0))=Obj.cells (flt 0 0).toArray 28 (0,0) from rfl]
 have hA:=ai (h:=h) (o:=.cells [w].toArray 24 (0,0));have k0:=ay.push (S:=fun _=>False) h (.cells [w].toArray 24 (0,0));have z0:(h.push (.cells [w].toArray 24 (0,0))).size=h.size+1:=by simp
 generalize h.push (.cells [w].toArray 24 (0,0))=h1 at *;have hF:=ai (h:=h1) (o:=.cells (flt 0 0).toArray 28 (0,0));have k1:=ay.push (S:=fun _=>False) h1 (.cells (flt 0 0).toArray 28 (0,0));generalize h1.push (.cells (flt 0 0).toArray 28 (0,0))=h2 at *;have hA:=k1.get hA id;have k02:=k0.trans k1;rw [z0] at *;refine ⟨_,aq hA rfl,?_⟩;refine ae.use (hRF (.agg #[w]) h2 ⟨w,rfl,hp.aE k02⟩ (ht.more k02)) ?_
 rintro _ h3 ⟨rfl,k3⟩;have hA:=k3.get hA id;have hF:=k3.get hF id;have k03:=k02.trans k3;rw [asA_agg];refine ⟨rfl,bq _ _,aA (cs:=flt (dF p).1 (dF p).2) rfl ?_⟩;have hf4:=ai (h:=h3) (o:=.cells (flt (dF p).1 (dF p).2).toArray 28 (0,0));have k4:=ay.push (S:=fun _=>False) h3 (.cells (flt (dF p).1 (dF p).2).toArray 28 (0,0));generalize h3.push (.cells (flt (dF p).1 (dF p).2).toArray 28 (0,0))=h4 at *;have hA:=k4.get hA id
 have hF:=k4.get hF id;have k04:=k03.trans k4;have z4:h.size+2≤h4.size:=by
  have:=fu hF;omega
 refine lx hf4 (j:=0) rfl ?_;rw [asK_int];unfold cO;refine ah (fun hc=>?_) (fun hc=>?_)
 ·have hne:=Zd.1 hc;rw [if_pos hne];refine ⟨_,aq hf4 rfl,rfl,bq _ _,?_⟩;exact xf hF rfl rfl fun h' kk _=>⟨k04.cA (kk.mono fun b _ hb=>.inr (by have hb:b=h.size+1:=hb;omega)),hne,rfl⟩
 have hr0:(dF p).1=0:=by simpa using hc
 rw [if_neg (Z8 hr0)];obtain ⟨hPg,_,_⟩:=FO hr0;have hpmax:=SgS.max hp;have hlen:=hPg.len;refine ⟨fun n out beg t h'=>∃(k:Nat) (l:List (List Vr)) (us:List Value) (m:Int) (b:Bool),t=.int .i64 k∧n=.int .i64 m∧beg=.bool b∧k≤p.length∧KF h4 h'∧VlO h' h4.size out l us∧l.length=k∧0≤m∧m+sgW (p.drop k)≤20000∧wS p p 0 [] 0 false=wS p (p.drop k) k l m b,fun _ _ _ t _=>match t with|.int _ k=>p.length - k.toNat|_=>0,
  ⟨0,[],[],0,false,rfl,rfl,rfl,by omega,ay.refl _ _,⟨cI.nil,rfl,fun i bd w h1=>by cases h1⟩,rfl,by omega,by have:=hsm.tot;show (0:Int)+sgW p≤20000;unfold sgW;omega,rfl⟩,?_⟩
 rintro _ out _ _ _ h5 ⟨k,l,us,m,b,rfl,rfl,rfl,hk,k5,hv5,hlk,hm0,hm,hgo⟩;have hA5:=k5.get hA id;have hF5:=k5.get hF id;have k05:=k04.trans k5;refine lx hA5 (j:=0) rfl ?_;refine (hp.aE k05).sl fun _ _=>?_;rw [asK_int];have ret:∀{h9:Hp} {e:Int×Int} {A:Array Value},A.toList=flt e.1 e.2→e.1≠0→wS p p 0 [] 0 false=.error e→KF h4 h9→A.size=2∧(∀u∈A.toList,one u)∧az h9 ⟨h.size+1,0,none⟩ A.toList fun h' =>
   ∃C,ak h' ⟨h.size+1,0,none⟩ 2 C∧(KF h h'∧Np h h' (.tuple #[.slice none 0 0,.agg C.toArray]) (wS p p 0 [] 0 false)):=fun {h9 e A} hA9 hne hgo9 k49=>by
  have hsz:A.size=2:=by
   have:=congrArg List.length hA9;simpa [flt] using this
  refine ⟨hsz,by rw [hA9];exact bq _ _,?_⟩
  rw [hA9];refine xf (cs:=flt e.1 e.2) (k49.get hF id) rfl rfl fun h' kk _=>⟨(k04.trans k49).cA (kk.mono fun b _ hb=>.inr (by have hb:b=h.size+1:=hb;omega)),?_⟩
  rw [hgo9];exact ⟨hne,rfl⟩
 refine ah (fun hc=>?_) (fun hc=>?_)
 rotate_left
 ·have hc:=Qc hc;obtain rfl:k=p.length:=by omega
  rw [Qt] at hgo;rw [asB_bool];cases b with
  |false =>
   refine cf rfl ?_;refine ae.use (Hb 13 (-1) h5) ?_;rintro _ h6 ⟨rfl,k6⟩;rw [asA_agg];exact ret (e:=(13,-1)) rfl (by decide:(13:Int)≠0) (by rw [hgo];rfl) (k5.trans k6)
  |true =>
   refine ba rfl ?_;rw [hgo];refine ⟨trivial,bq 0 0,?_⟩;refine xf (cs:=flt 0 0) hF5 rfl rfl fun h' kk _=>⟨(k04.trans k5).cA (kk.mono fun b _ hb=>.inr (by have hb:b=h.size+1:=hb;omega)),out,us,rfl,(hv5.Og kk (by omega)).base (by omega)⟩
 have hkl:k < p.length:=by have:=Qj hc;omega
 have hx:=Q7 hkl;have hmem:p[k]∈p:=Qv hkl;have hdk:p.drop k=p[k]::p.drop (k+1):=Q4 hkl;generalize p[k]=g at hx hmem hdk;have hgO:=hPg.ok g hmem;have hW:sgW (p.drop k)=cq g.body+sgW (p.drop (k+1)):=by
  rw [hdk];unfold sgW;rw [List.map_cons,List.sum_cons]
 rw [hdk,pN] at hgo;have hpl:=hgO.pl;refine ⟨fun n out beg h'=>∃(l:List (List Vr)) (us:List Value) (m:Int) (b:Bool),n=.int .i64 m∧beg=.bool b∧KF h4 h'∧VlO h' h4.size out l us∧l.length=k+1∧0≤m∧m+sgW (p.drop (k+1))≤20000∧wS p p 0 [] 0 false=wS p (p.drop (k+1)) (k+1) l m b,?_,?_⟩
 rotate_left
 ·rintro _ out2 _ _ h9 ⟨l2,us2,m2,b2,rfl,rfl,k9,hv9,hl9,hm90,hm9,hgo9⟩;rw [asK_int,i64_in (by omega) (by omega)]
  exact ⟨⟨k+1,l2,us2,m2,b2,by simp,rfl,rfl,by omega,k9,hv9,hl9,hm90,hm9,hgo9⟩,by simp;omega⟩
 refine ⟨[w],aq hA5 rfl,rfl,?_⟩;rw [oneK_int,oneK_int];have e6:(List.toArray (List.set (List.set ([w].toArray.toList++[(.int .i64 0),(.slice none 0 0),(.slice none 0 0),(.int .i64 0),(.int .i64 0),(.int .i64 0)]) 1 (.int .i64 (k:Int))) 4 (.int .i64 m)):Array Value)=(naC w (k:Int) (.slice none 0 0) (.slice none 0 0) m (0,0)).toArray:=rfl;rw [e6];have hC6:=ai (h:=h5) (o:=.cells (naC w (k:Int) (.slice none 0 0) (.slice none 0 0) m (0,0)).toArray 83 (0,0))
 have k56:=ay.push (S:=fun _=>False) h5 (.cells (naC w (k:Int) (.slice none 0 0) (.slice none 0 0) m (0,0)).toArray 83 (0,0));have z6:(h5.push (.cells (naC w (k:Int) (.slice none 0 0) (.slice none 0 0) m (0,0)).toArray 83 (0,0))).size=h5.size+1:=by simp
 generalize h5.push (.cells (naC w (k:Int) (.slice none 0 0) (.slice none 0 0) m (0,0)).toArray 83 (0,0))=h6 at *;refine lx (k56.get hA5 id) (j:=0) rfl ?_;refine hp.vz (k05.trans k56) hx fun vp vb hvp hvb=>?_;refine ⟨rfl,fy (cB hvp.2) hvb.ca,aA (cs:=sgC g vp vb) rfl ?_⟩;have hg7:=ai (h:=h6) (o:=.cells (sgC g vp vb).toArray 41 (0,0));have k67:=ay.push (S:=fun _=>False) h6 (.cells (sgC g vp vb).toArray 41 (0,0))
 generalize h6.push (.cells (sgC g vp vb).toArray 41 (0,0))=h7 at *;rw [z6] at *;have k57:=k56.trans k67;have hvp5:=hvp.aE k05;have hvb5:=hvb.aE k05;have hp5:=hp.aE k05;have ns7:NS 83 h5 h5.size h7 w (k:Int) (.slice none 0 0) (.slice none 0 0) m (0,0):=⟨k57,Zc _,k67.get hC6 id⟩;have nb7:NB 83 h5 h5.size h7 w (k:Int) (.slice none 0 0) (.slice none 0 0) m (0,0) [] []:=⟨ns7,cI.nil,cI.nil,fun k hk=>by cases hk⟩
 have hg:∀{h':Hp},KN h5.size (.slice none 0 0) (.slice none 0 0) h7 h'→h'[h5.size+1]?=some (.cells (sgC g vp vb).toArray 41 (0,0)):=fun kk=>kk.get hg7 (by
  rintro (e|e|e)
  ·omega
  ·cases e
  ·cases e)
 have hK:∀{h':Hp},KN h5.size (.slice none 0 0) (.slice none 0 0) h7 h'→KF h5 h':=fun kk=>k57.cA (kk.mono fun b _ hh=>.inr (by
  rcases hh with e|e|e
  ·omega
  ·cases e
  ·cases e))
 have bad:∀{h9:Hp} {c:Int},c≠0→KF h5 h9→eH (p.take k) g (-2 - k) m=.error (c,-2 - (k:Int))→∀Y,ae Tryz.prog ω 27 [.int .i64 c,.int .i64 (IntKind.wrap .i64 ((-2) - (k:Int)))] h9 (fun r42 h43=>asA r42 fun A44=>A44.size=2∧(∀u∈A44.toList,one u)∧az h43 ⟨h.size+1,0,none⟩ A44.toList fun h' =>
   ∃C,ak h' ⟨h.size+1,0,none⟩ 2 C∧(KF h h'∧Np h h' (.tuple #[.slice none 0 0,.agg C.toArray]) (wS p p 0 [] 0 false))) Y:=fun {h9 c} hc k59 hst Y=>by
  rw [i64_in (by omega) (by omega)]
  refine ae.use (Hb c (-2 - k) h9) ?_;rintro _ h10 ⟨rfl,k910⟩;rw [asA_agg];refine ret (e:=(c,-2 - (k:Int))) rfl hc ?_ ((k5.trans k59).trans k910);rw [hgo,hst]
 refine lx hg7 (j:=0) (u:=.string g.nm) rfl ?_;refine ae.use (xq (by omega) hp5 ns7 g.nm) ?_
 rintro _ _ ⟨rfl,hr⟩;rcases hr with ⟨rfl,hnone⟩|⟨j,q,rfl,_,_,hfind⟩
 rotate_left
 ·rw [asK_int];refine cf (Z6 (by omega)) ?_
  rw [asK_int];exact bad (c:=9) (by decide) k57 (FD hfind) X
 rw [asK_int];refine ba (Z0 (by omega)) ?_
 have hk1:vQ (p.take k) g.nm (-2 - k)=(0,0):=FG hnone;have hst0:eH (p.take k) g (-2 - k) m=if (kpP (-2 - (k:Int)) g.ps (0,0)).2.1≠0 then .error (kpP (-2 - (k:Int)) g.ps (0,0)).2
   else vP (j8 (p.take k) g.body g.ps.reverse g.ps m) fun bd m=>if 30 < bd.length then .error (8,-2 - (k:Int)) else .ok (bd,m):=by
  unfold eH;rw [hk1]
 refine ⟨fun t h'=>∃j:Nat,t=.int .i64 j∧j≤g.ps.length∧NW 83 h5 h5.size w (k:Int) (.slice none 0 0) (.slice none 0 0) h7 h' m (0,0) (g.ps.take j) (g.ps.take j)∧KEq (g.ps.take j) (g.ps.take j).reverse∧(kpP (-2 - (k:Int)) (g.ps.take j) (0,0)).2=(0,0),fun t _=>match t with|.int _ j=>g.ps.length - j.toNat|_=>0,
  ⟨0,rfl,by omega,NW.of nb7,fun _=>rfl,rfl⟩,?_⟩
 rintro _ _ h8 ⟨j,rfl,hj,w8,hke8,hkp8⟩;obtain ⟨K78,nv8,bv8,nb8,o1,o2⟩:=id w8;have hg8:=hg K78;have k58:=hK K78;refine lx hg8 (j:=2) (u:=vp) rfl ?_;refine bP.sl (hvp5.aE k58).1 fun _ _=>?_;rw [asK_int];refine ah (fun hc=>?_) (fun hc=>?_)
 ·have hjl:j < g.ps.length:=by have:=Qj hc;omega
  have hq:=Q7 hjl;generalize g.ps[j]=q at hq;refine lx hg8 (j:=2) (u:=vp) rfl ?_;refine bP.rdT (hvp5.aE k58).1 eA hq (o:=0) (u:=.string q.1) rfl ?_;refine ae.use (tJ nb8.ns ⟨nb8.ob.tM,by rw [Qp];omega⟩ q.1) ?_
  rintro _ _ ⟨rfl,rfl⟩;rw [asB_bool,←mg];have hsn:=Cu (-2 - (k:Int)) (g.ps.take j) q (0,0);rw [←aW hq,MY,hkp8] at hsn;have hsn:=congrArg Prod.snd hsn;have hsn:(kpP (-2 - (k:Int)) (g.ps.take (j+1)) (0,0)).2=db (g.ps.take j) q (-2 - (k:Int)) (0,0):=hsn;refine ah (fun hc=>?_) (fun hc=>?_)
  ·have h1:=Qj hc;have h2:db (g.ps.take j) q (-2 - (k:Int)) (0,0)=(9,-2 - (k:Int)):=by
    unfold db;rw [if_pos (by omega)]
    rfl
   rw [h2] at hsn;have h3:(kpP (-2 - (k:Int)) g.ps (0,0)).2=(9,-2 - (k:Int)):=by
    rw [Ig (k:=j+1) (by rw [hsn];exact (by decide:(9:Int)≠0)),hsn]
   rw [asK_int];refine bad (c:=9) (by decide) k58 ?_ X
   rw [hst0,h3,if_pos (by decide:(9:Int)≠0)]
  ·have h1:=Qc hc;have h5':=Bh (g.ps.take j) q.1;have hz:tk (g.ps.take j) q.1=0:=by omega
   have h2:db (g.ps.take j) q (-2 - (k:Int)) (0,0)=(0,0):=by
    unfold db;rw [hz,if_neg (by decide)]
   rw [h2] at hsn;refine lx hg8 (j:=2) (u:=vp) rfl ?_;refine bP.rdT (hvp5.aE k58).1 eA hq (o:=0) (u:=.string q.1) rfl ?_;refine lx hg8 (j:=2) (u:=vp) rfl ?_;refine bP.rdT (hvp5.aE k58).1 eA hq (o:=1) (u:=.string q.2) rfl ?_;refine ae.use (tH (by decide) (by rw [Qp];omega) (by rw [Qp];omega) q w8) ?_
   intro _ h9 w9;rw [asK_int,i64_in (by omega) (by omega)]
   refine ⟨⟨j+1,by simp,by omega,by rw [aW hq];exact w9,?_,hsn⟩,by simp;omega⟩
   rw [aW hq,List.reverse_append];exact hke8.add (Fb (bd:=g.ps.take j) (fun v hv=>List.mem_map_of_mem hv) hz)
 have hc:=Qc hc;obtain rfl:j=g.ps.length:=by omega
 rw [Qo] at w8 hke8 hkp8 nb8;rw [hkp8,if_neg (by decide)] at hst0
 refine lx hg8 (j:=3) (u:=vb) rfl ?_;have hTp:TyE g.ps:=fun q hq=>yn (hgO.ps q hq).2;have hbN:cq g.body≤20000:=by omega
 refine ae.use (JU (by decide) (by omega) hp5 (cq g.body+1) g.body 1 (Qw _) hgO.body h8 g.ps g.ps g.ps.reverse m nv8 bv8 vb hke8 (fun v hv=>hTp v (List.mem_reverse.1 hv)) hTp (fun v hv=>List.mem_map_of_mem hv) (by omega) (by omega) hm0 (by omega) hvb5 nb8) ?_
 intro _ h9 hres;cases hr:j8 (p.take k) g.body g.ps.reverse g.ps m with
 |error e =>
  rw [hr] at hres hst0;obtain ⟨hne,l',bd',a',w9⟩:=hres;obtain ⟨K9,nv9,bv9,nb9,_,_⟩:=NW.seq K78 o1 o2 w9;refine ⟨_,lx' (j:=5) nb9.ns.c rfl,?_⟩;rw [asK_int];refine cf (Zd.2 hne) ?_;refine ⟨_,Bu nb9.ns.c,?_⟩;refine ret (e:=e) rfl hne ?_ (k5.trans (hK K9));rw [hgo,hst0];rfl
 |ok q =>
  have hq:=nt _ g.body hr;have hq1:q.1.length≤_:=hq.1;have hq2:m≤q.2:=hq.2.1;have hq3:q.2≤m+cq g.body:=hq.2.2;rw [hr] at hres hst0;obtain ⟨l',w9⟩:=hres;obtain ⟨K9,nv9,bv9,nb9,p1,p2⟩:=NW.seq K78 o1 o2 w9;have hst0:eH (p.take k) g (-2 - k) m=if 30 < q.1.length then .error (8,-2 - (k:Int)) else .ok q:=hst0
  refine ⟨_,lx' (j:=5) nb9.ns.c rfl,?_⟩;rw [asK_int];refine ba rfl ?_;refine ⟨_,lx' (j:=3) nb9.ns.c rfl,?_⟩;refine nb9.ob.tM.sl fun _ _=>?_;refine ah (fun hc=>?_) (fun hc=>?_)
  ·have h30:30 < q.1.length:=by have:=Qj hc;omega
   rw [asK_int];refine bad (c:=8) (by decide) (hK K9) ?_ X
   rw [hst0,if_pos h30]
  have h30:¬30 < q.1.length:=by have:=Qc hc;omega
  rw [if_neg h30] at hst0;rw [hst0] at hgo;refine ⟨_,lx' (j:=4) nb9.ns.c rfl,_,lx' (j:=3) nb9.ns.c rfl,?_⟩;have hbo:one bv9:=rp nb9.ob;refine dm hbo ?_;have k59:=hK K9;have hv9:=hv5.aE k59;have hz45:=k5.size;have hz59:=k59.size;refine du (bt:=24) (cs:=[bv9]) Gf hv9.1 rfl (fun u hu=>by rw [Qf.1 hu];exact hbo) (by omega) (by omega) (by omega) fun w2 h10 ho10 hg10 _ hown=>?_
  have k10:ay (fun b=>out.ownBlock=some b) h9 h10:=ay.grown hg10 fun b hb _=>hb;have hg10':=k10.get (hg K9) fun e=>by have:=(hv5.1.lt _ e).2;omega
  have K410:KF h4 h10:=(k5.trans k59).cA (k10.mono fun b _ e=>.inr (hv5.1.lt b e).1);have hvp10:=hvp.aE (k04.trans K410);refine ⟨uM g,?_,fun _=>?_⟩
  ·unfold uM;refine lx hg10' (j:=0) (u:=.string g.nm) rfl ?_;rw [asS_str,eqB];refine ah (fun hc=>?_) (fun hc=>?_)
   ·rw [hc,Za];refine lx hg10' (j:=2) (u:=vp) rfl ?_;refine bP.sl hvp10.1 fun _ _=>?_;refine ah (fun hc=>?_) (fun hc=>?_)
    ·have h1:g.ps.length=1:=by have:=Ze hc;omega
     rw [Z6 h1,Za];have hp0:=Q7 (l:=g.ps) (i:=0) (by omega)
     generalize g.ps[0]=y at hp0;rw [hp0];refine lx hg10' (j:=2) (u:=vp) rfl ?_;refine bP.rdT hvp10.1 eA hp0 (o:=1) (u:=.string y.2) rfl ?_;rw [asS_str,eqB];exact ⟨rfl,trivial⟩
    ·have h1:g.ps.length≠1:=fun h1=>by
      have:=Qa.1 hc;omega
     rw [Z0 h1];exact ⟨rfl,trivial⟩
   ·rw [hc];exact ⟨rfl,trivial⟩
  refine ⟨fun t h'=>t=.bool (b||uM g)∧h10=h',?_,?_⟩
  ·refine ah (fun hc=>?_) (fun hc=>?_)
   ·rw [hc,Bool.or_true];exact ⟨rfl,rfl⟩
   ·rw [hc,Bool.or_false];exact ⟨rfl,rfl⟩
  rintro _ _ _ ⟨rfl,rfl⟩;refine ⟨l++[q.1],us++[bv9],q.2,b||uM g,rfl,rfl,K410,⟨by rw [Qd];exact ho10,by rw [Qd,Qd,hv9.2.1];rfl,fun i bd wi h1 h2=>?_⟩,by rw [Qd,hlk];rfl,by omega,by omega,hgo⟩
  have hold:∀{bd:List Vr} {wi:Value},cI h9 h4.size 56 2 wi bd.length (bd.flatMap vrC)→cI h10 h4.size 56 2 wi bd.length (bd.flatMap vrC):=fun ho=>ho.DC k10 (DJ.own hv9.1) (by decide)
  rcases Nat.lt_or_ge i l.length with hi|hi
  ·rw [Q5 hi] at h1;rw [Q5 (by rw [hv9.2.1];exact hi)] at h2
   exact hold (hv9.2.2 i bd wi h1 h2)
  ·rw [Q2 hi] at h1;rw [Q2 (by rw [hv9.2.1];exact hi),hv9.2.1] at h2
   match hj:i - l.length,h1,h2 with
   |0,h1,h2 =>
    cases h1;cases h2;exact hold (nb9.ob.base (by omega))
   |j+1,h1,h2=>cases h1
end
section
variable  {ω:Amb}
theorem Aw {l:List Vr}{va vb:Value}{h:Hp}(ha:bP h 2 va l.length (l.flatMap vrC))(hb:bP h 2 vb l.length (l.flatMap vrC))(hl:l.length≤1000000)(X:XT) :
  ae Tryz.prog ω 21 [va,vb] h (fun r h'=>r=.bool true∧h=h') X:=by
 refine lJ ω _ _ h _ X ?_;unfold fj;refine ha.sl fun _ _=>?_;refine hb.sl fun _ _=>?_;refine ba (by simp) ?_
 refine ⟨fun t h'=>∃k:Nat,t=.int .i64 k∧k≤l.length∧h=h',fun t _=>match t with|.int _ k=>l.length - k.toNat|_=>0,⟨0,rfl,by omega,rfl⟩,?_⟩
 rintro _ _ _ ⟨k,rfl,hk,rfl⟩;refine ha.sl fun _ _=>?_;rw [asK_int];refine ah (fun hc=>?_) (fun hc=>⟨rfl,rfl⟩);have hkl:k < l.length:=by have:=Qj hc;omega
 have hv:=Q7 hkl;generalize l[k]=v at hv;refine bP.rdS ha (fun _=>rfl) hv ?_;refine bP.rdS hb (fun _=>rfl) hv ?_;show cond (!((ByteArray.toList v.1==ByteArray.toList v.1)&&((ByteArray.toList v.2==ByteArray.toList v.2)&&true))) _ _;refine ba (by simp) ?_
 rw [asK_int,i64_in (by omega) (by omega)]
 exact ⟨⟨k+1,by simp,by omega,rfl⟩,by simp;omega⟩
end
theorem Dn (ab:List Sg)(env:List Vr)(m:Int)(x:St)(f:Int×Int):jr ab env m (stZ false x) f=jr ab env m x f:=by
 cases x;rfl
theorem AL (x:St)(of:ByteArray):bc (stZ false x) of=bc x of:=by
 cases x;rfl
theorem Fu (bd:List Vr)(x:St):dh bd (stZ false x)=dh bd x:=by
 cases x;rfl
theorem tg (x:St):(stZ false x).body=er false x.body∧(stZ false x).els=er false x.els∧(stZ false x).d=x.d:=by
 cases x;exact ⟨rfl,rfl,rfl⟩
mutual
theorem NR (ab:List Sg):∀(x:St) (env bd:List Vr) (m:Int),kst ab (stZ false x) env bd m=kst ab x env bd m
 |.mk d at_ a b t n e body els,env,bd,m=>by
  have h1:=fun (env bd:List Vr) (m:Int)=>xV ab body env bd m;have h2:=fun (env bd:List Vr) (m:Int)=>xV ab els env bd m;rw [sS,sS];unfold rQ kof kuf;rw [Dn,AL,Fu,(tg _).1,(tg _).2.1,(tg _).2.2];simp only [St.body,St.els,h1,h2]
theorem xV (ab:List Sg):∀(l:List St) (env bd:List Vr) (m:Int),j8 ab (er false l) env bd m=j8 ab l env bd m
 |[],_,_,_=>by
  unfold er;rfl
 |x::r,env,bd,m=>by
  have h2:=fun (env bd:List Vr) (m:Int)=>xV ab r env bd m;unfold er;rw [mq,mq,NR ab x];unfold rQ kof;rw [Dn,AL,(tg _).2.2];simp only [h2]
end
def Hd (p q:List Sg):Prop:=p.map (fun s=>(s.nm,s.ps))=q.map fun s=>(s.nm,s.ps)
theorem Hd.find {p q:List Sg}(h:Hd p q)(nm:ByteArray):(p.find? fun g=>decide (g.nm=nm)).map (·.ps)=(q.find? fun g=>decide (g.nm=nm)).map (·.ps):=by
 induction p generalizing q with
 |nil =>
  cases q with
  |nil=>rfl
  |cons b r=>cases h
 |cons a p ih =>
  cases q with
  |nil=>cases h
  |cons b q =>
   have h:(a.nm,a.ps)::p.map (fun s=>(s.nm,s.ps))=(b.nm,b.ps)::q.map (fun s=>(s.nm,s.ps)):=h;obtain ⟨h1,h2⟩:=List.cons.inj h;obtain ⟨h3,h4⟩:=Prod.mk.inj h1;rw [List.find?_cons,List.find?_cons,h3];cases decide (b.nm=nm) with
   |true=>exact congrArg some h4
   |false=>exact ih h2
theorem Hd.take {p q:List Sg}(h:Hd p q)(k:Nat):Hd (p.take k) (q.take k):=by
 unfold Hd at h ⊢;rw [List.map_take,List.map_take,h]
theorem E9 {ab ab':List Sg}(h:Hd ab ab')(env:List Vr)(m:Int)(x:St)(f:Int×Int):nx ab env m x f=nx ab' env m x f:=by
 have hf:=h.find x.a;unfold nx;cases h1:ab.find? fun g=>decide (g.nm=x.a) with
 |none =>
  rw [h1] at hf;cases h2:ab'.find? fun g=>decide (g.nm=x.a) with
  |none=>rfl
  |some g=>rw [h2] at hf;cases hf
 |some g =>
  rw [h1] at hf;cases h2:ab'.find? fun g=>decide (g.nm=x.a) with
  |none=>rw [h2] at hf;cases hf
  |some g' =>
   rw [h2] at hf;have hf:g.ps=g'.ps:=Z2 hf;show (if g.ps.length≠x.e.length then _ else oh env m (x.e.zip g.ps) f)=if g'.ps.length≠x.e.length then _ else oh env m (x.e.zip g'.ps) f
   rw [hf]
theorem CW {ab ab':List Sg}(h:Hd ab ab')(env:List Vr)(m:Int)(x:St)(f:Int×Int):jr ab env m x f=jr ab' env m x f:=by
 unfold jr iU;rw [E9 h]
mutual
theorem M7 {ab ab':List Sg}(h:Hd ab ab'):∀(x:St) (env bd:List Vr) (m:Int),kst ab x env bd m=kst ab' x env bd m
 |.mk d at_ a b t n e body els,env,bd,m=>by
  have h1:=fun (env bd:List Vr) (m:Int)=>yT h body env bd m;have h2:=fun (env bd:List Vr) (m:Int)=>yT h els env bd m;rw [sS,sS];unfold rQ kof kuf;rw [CW h];simp only [St.body,St.els,h1,h2]
theorem yT {ab ab':List Sg}(h:Hd ab ab'):∀(l:List St) (env bd:List Vr) (m:Int),j8 ab l env bd m=j8 ab' l env bd m
 |[],_,_,_=>by
  unfold j8;rfl
 |x::r,env,bd,m=>by
  have h2:=fun (env bd:List Vr) (m:Int)=>yT h r env bd m;rw [mq,mq,M7 h x];unfold rQ kof;rw [CW h];simp only [h2]
end
theorem LF {ab ab':List Sg}(h:Hd ab ab')(nm:ByteArray)(m:Int):vQ ab nm m=vQ ab' nm m:=by
 have hf:=h.find nm;have hh:∀ab:List Sg,(ab.any fun g=>decide (g.nm=nm))=((ab.find? fun g=>decide (g.nm=nm)).map (·.ps)).isSome:=fun ab=>by
  rw [Option.isSome_map,Qz,List.any_eq_true,List.find?_isSome]
 unfold vQ;rw [hh ab,hh ab',hf]
theorem FK {ab ab':List Sg}(h:Hd ab ab')(g:Sg)(at_ n:Int):eH ab g at_ n=eH ab' g at_ n:=by
 unfold eH;rw [LF h,yT h]
theorem FW (ab:List Sg)(g:Sg)(at_ n:Int):eH ab (sgZ false g) at_ n=eH ab g at_ n:=by
 show (if (kpP at_ g.ps (vQ ab g.nm at_)).2.1≠0 then _ else vP (j8 ab (er false g.body) g.ps.reverse g.ps n) _)=_
 rw [xV];rfl
theorem Mv (p:List Sg):Hd (ml false p) p:=by
 unfold Hd ml;rw [List.map_map];rfl
theorem Bt (p:List Sg):∀(l:List Sg) (i:Nat) (out:List (List Vr)) (n:Int) (b:Bool),wS (ml false p) (ml false l) i out n b=wS p l i out n b
 |[],_,_,_,_=>rfl
 |g::r,i,out,n,b=>by
  show wS (ml false p) (sgZ false g::ml false r) i out n b=_;rw [pN,pN,FW,FK ((Mv p).take i),show uM (sgZ false g)=uM g from rfl]
  cases eH (p.take i) g (-2 - i) n with
  |error e=>rfl
  |ok q=>exact Bt p r _ _ _ _
def kbB:List Sg:=[⟨⟨#[109,97,105,110]⟩,0,[(⟨#[105,110]⟩,⟨#[114,105]⟩)],[.mk 11 0 ⟨#[120]⟩ ⟨#[105,110]⟩ ⟨#[]⟩ 0 [] [] [],.mk 3 0 ⟨#[]⟩ ⟨#[]⟩ ⟨#[]⟩ 0 [.mk 2 ⟨#[120]⟩ 0 []] [] []]⟩]
def kbT:List UInt8:=[115,116,97,103,101,32,109,97,105,110,40,105,110,32,114,101,99,118,32,105,110,116,41,32,123,32,116,97,107,101,32,120,32,102,114,111,109,32,105,110,32,123,32,125,32,101,109,105,116,32,120,59,32,125]
abbrev kbS:ByteArray:=⟨#[115,116,97,103,101,32,109,97,105,110,40,105,110,32,114,101,99,118,32,105,110,116,41,32,123,32,116,97,107,101,32,120,32,102,114,111,109,32,105,110,32,123,32,125,32,101,109,105,116,32,120,59,32,125]⟩
theorem kbF:bX kbB=.ok 2:=by kernel_rfl
theorem kbK:pgK kbB=[kW vq,kN ⟨#[109,97,105,110]⟩,kS [40],kN ⟨#[105,110]⟩,kW Aa,kW DS,kS [41],kS [123],kW vi,kN ⟨#[120]⟩,kW uL,kN ⟨#[105,110]⟩,kS [123],kS [125],kW vx,kN ⟨#[120]⟩,kS [59],kS [125]]:=by kernel_rfl
theorem kbSK:SK kbT (pgK kbB):=by
 rw [kbK];rw [show kbT=(vq++32::(bytesOf ⟨#[109,97,105,110]⟩++(40::(bytesOf ⟨#[105,110]⟩++32::(Aa++32::(DS++(41::32::123::32::(vi++32::(bytesOf ⟨#[120]⟩++32::(uL++32::(bytesOf ⟨#[105,110]⟩++32::(123::32::125::32::(vx++32::(bytesOf ⟨#[120]⟩++(59::32::125::[]))))))))))))))) from by kernel_rfl]
 refine zK (by decide) ?_
 refine Pt (by decide) (show ld 40=false by decide) (LW (by decide) ?_)
 refine Fv (by decide) (zK (by decide) ?_)
 refine sk_w (by decide) (by decide) ⟨105,[110,116],rfl,by decide⟩ (show ld 41=false by decide) (LW (by decide) (BY (LW (by decide) (BY ?_))))
 refine zK (by decide) (Fv (by decide) (zK (by decide) (Fv (by decide) ?_)))
 refine LW (by decide) (BY (LW (by decide) (BY ?_)))
 refine zK (by decide) (Pt (by decide) (show ld 59=false by decide) (LW (by decide) (BY (LW (by decide) M6))))
theorem Jq:∃p',PsO kbS (.ok p')∧ml false p'=ml false kbB:=by
 obtain ⟨ts,h1,h2⟩:=kbSK 0;obtain ⟨p',h3,h4⟩:=Ll (e:=(kbS.size:Int)) kbF h2;refine ⟨p',⟨ts,0,0,.inr (.inl ⟨by decide,h1,rfl,rfl⟩),?_⟩,h4⟩
 rw [if_pos rfl,h3]
theorem IK:wS kbB kbB 0 [] 0 false=.error (10,1):=by kernel_rfl
theorem OT:¬12000 < (pgT kbB).length:=by
 have:(pgT kbB).length < 200:=by decide
 omega
theorem Mj {p':List Sg}(hn:∃n,bX p'=.ok n)(h:ml false p'=ml false kbB):cO p'=.error (10,1):=by
 obtain ⟨n,hn⟩:=hn;have hr:dF p'=(0,0):=by
  rw [GR hn,←OE p',h,OE,if_neg OT]
 unfold cO;rw [hr,if_neg (by decide),←Bt,h,Bt]
 exact IK
section
variable  {ω:Amb}
theorem D5 (hω:ω.low=0)(h:Hp)(ht:ft h)(X:XT):ae Tryz.prog ω 8 [] h (fun r h'=>r=.bool true∧KF h h') X:=by
 obtain ⟨p',hps,hz⟩:=Jq;obtain ⟨hsm,hn⟩:=Nf hps;have hv:=Mj hn hz;refine kl ω h _ X ?_;unfold ek;refine ae.use (Ea _ h) ?_;rintro _ h1 ⟨res,hps',hres,k1⟩;obtain rfl:=hps'.same hps;obtain ⟨w,rfl,hs,hcap⟩:=hres;rw [asT_tup,show (#[.agg #[w],.agg (flt 0 0).toArray]:Array Value)[0]?=some (.agg #[w]) from rfl,asO_some,asT_tup,show (#[.agg #[w],.agg (flt 0 0).toArray]:Array Value)[1]?=some (.agg (flt 0 0).toArray) from rfl,asO_some,asA_agg]
 have zA:(h1.push (.cells #[(.slice none 0 0)] 24 (0,0))).size=h1.size+1:=by simp
 have hA0:(Array.push (h1.push (.cells #[(.slice none 0 0)] 24 (0,0))) (.cells #[(.int .i64 0),(.int .i64 0)] 28 (0,0)))[h1.size]?=some (.cells [.slice none 0 0].toArray 24 (0,0)) :=
  (ay.push (S:=fun _=>False) _ _).get ai (by simp)
 have hB0:(Array.push (h1.push (.cells #[(.slice none 0 0)] 24 (0,0))) (.cells #[(.int .i64 0),(.int .i64 0)] 28 (0,0)))[h1.size+1]?=some (.cells (flt 0 0).toArray 28 (0,0)):=by
  rw [←zA];exact ai
 have k2:KF h1 (Array.push (h1.push (.cells #[(.slice none 0 0)] 24 (0,0))) (.cells #[(.int .i64 0),(.int .i64 0)] 28 (0,0))):=(ay.push _ _).trans (ay.push _ _);simp only [zA];generalize Array.push (h1.push (.cells #[(.slice none 0 0)] 24 (0,0))) (.cells #[(.int .i64 0),(.int .i64 0)] 28 (0,0))=h2 at *;refine ⟨rfl,(fun u hu=>by rw [Qf.1 (show u∈[w] from hu)];exact (SgS.ca hs).one),?_⟩
 show az h2 ⟨h1.size,0,none⟩ [w] _;refine bh (o:=0) hA0 (by simp) ?_
 rw [cp (by simp)]
 have hA3:=av (o:=.cells [w].toArray 24 (0,0)) hA0;have k3:=ay.set (S:=fun b=>b=h1.size) (h:=h2) (.cells [w].toArray 24 (0,0)) (b:=h1.size) rfl;generalize h2.setIfInBounds h1.size (.cells [w].toArray 24 (0,0))=h3 at *;have hB3:=k3.get hB0 (by omega)
 rw [asA_agg];refine ⟨rfl,bq 0 0,?_⟩;show az h3 ⟨h1.size+1,0,none⟩ (flt 0 0) _;refine bh (o:=0) hB3 (by simp [flt]) ?_
 rw [cp (by simp [flt])]
 have hB4:=av (o:=.cells (flt 0 0).toArray 28 (0,0)) hB3;have k4:=ay.set (S:=fun b=>b=h1.size+1) (h:=h3) (.cells (flt 0 0).toArray 28 (0,0)) (b:=h1.size+1) rfl;generalize h3.setIfInBounds (h1.size+1) (.cells (flt 0 0).toArray 28 (0,0))=h4 at *;have hA4:=k4.get hA3 (by omega)
 have k14:KF h1 h4:=(k2.cA (k3.mono fun b _ hb=>.inr (by omega))).cA (k4.mono fun b _ hb=>.inr (by omega))
 have hs4:=hs.aE k14;refine ⟨fun t h'=>t=.bool true∧KF h h',?_,fun t _ h' ht=>ht⟩;refine lx hB4 (j:=0) (u:=.int .i64 0) rfl ?_;rw [asK_int];refine cf rfl ?_;refine ⟨_,aq hA4 rfl,?_⟩;refine ae.use (xw hω p' hsm w hcap h4 hs4 (ht.more (k1.trans k14))) ?_;rintro _ h5 ⟨k5,rfl⟩;rw [hv];exact ⟨rfl,(k1.trans k14).trans k5⟩
theorem LU {h h':Hp}{w:Value}{us:List Value}{p:List Sg}{N:Nat→Prop}(ho:cI h' h.size 41 4 w p.length us)(hat:dO h' N p us)(hl:p.length≤1000000):SgS h' w p :=
 ⟨us,⟨ho.tM,by omega⟩,hat.at⟩
end
def Ii:VR→List (List Vr)
 |.error _=>[]
 |.ok l=>l
theorem uV (p:List Sg):∀(r:List Sg) (i:Nat) (out:List (List Vr)) (n:Int) (b:Bool) {l:List (List Vr)},(∀x∈out,x.length≤30)→wS p r i out n b=.ok l→(∀x∈l,x.length≤30)∧l.length=out.length+r.length
 |[],_,out,_,b,l,ho,h=>by
  unfold wS at h
  split at h
  ·cases h;exact ⟨ho,rfl⟩
  ·cases h
 |g::r,i,out,n,b,l,ho,h=>by
  rw [pN] at h;cases hs:eH (p.take i) g (-2 - i) n with
  |error e =>
   rw [hs] at h;cases h
  |ok q =>
   rw [hs] at h;have hq:q.1.length≤30:=by
    unfold eH at hs
    split at hs
    ·cases hs
    ·obtain ⟨b1,m1,_,h2⟩:=my hs
     split at h2
     ·cases h2
     ·rename_i h3;cases h2;exact Nat.le_of_not_lt h3
   obtain ⟨h1,h2⟩:=uV p r _ _ _ _ (fun x hx=>by
    rcases Z3.1 hx with hx|hx
    ·exact ho x hx
    ·rw [Qf.1 hx];exact hq) h
   exact ⟨h1,by rw [h2];simp;omega⟩
theorem Il (p:List Sg):∀x∈Ii (cO p),x.length≤30:=by
 intro x hx;cases hk:cO p with
 |error e =>
  rw [hk] at hx;cases hx
 |ok l =>
  rw [hk] at hx;unfold cO at hk
  split at hk
  ·cases hk
  ·exact (uV p p _ _ _ _ (fun _ hh=>by cases hh) hk).1 x hx
theorem zx {h h':Hp}{r:Value}{k:VR}(hr:Np h h' r k):∃v us,r=.tuple #[v,.agg (flt (cE k).1 (cE k).2).toArray]∧VlO h' h.size v (Ii k) us:=by
 cases k with
 |error e =>
  obtain ⟨_,rfl⟩:=hr;exact ⟨_,[],rfl,cI.nil,rfl,fun i bd w h1=>by cases h1⟩
 |ok l =>
  obtain ⟨v,us,rfl,hv⟩:=hr;exact ⟨v,us,rfl,hv⟩
section
variable  {ω:Amb}
set_option maxHeartbeats 1600000 in
theorem uT (hω:ω.low=0)(p:List Sg)(w:Value)(hcap:Av w)(h:Hp)(hp:SgS h w p)(ht:ft h)(X:XT) :
  ae Tryz.prog ω 6 [.agg #[w]] h (fun r h'=>r=.bool true∧KF h h') X:=by
 refine j6 ω _ h _ X ?_;unfold dZ;simp only [show Value.cells (.agg #[w])=[w].toArray from rfl,show (Obj.cells #[(.int .i64 0),(.int .i64 0)] 28 (0,0))=Obj.cells (flt 0 0).toArray 28 (0,0) from rfl,show (Obj.cells #[(.slice none 0 0)] 24 (0,0))=Obj.cells [.slice none 0 0].toArray 24 (0,0) from rfl]
 have hA:=ai (h:=h) (o:=.cells [w].toArray 24 (0,0));have k0:=ay.push (S:=fun _=>False) h (.cells [w].toArray 24 (0,0));generalize h.push (.cells [w].toArray 24 (0,0))=h0 at *;refine ae.use (D5 hω h0 (ht.more k0)) ?_;rintro _ h1 ⟨rfl,k1⟩;have hA1:h1[h.size]?=some (.cells [w].toArray 24 (0,0)):=k1.get hA id;have k1:=k0.trans k1;rw [asB_bool];refine ba rfl ?_;refine ⟨_,aq hA1 rfl,?_⟩;refine ae.use (Hq p _ h1 ⟨w,rfl,hp.aE k1⟩) ?_
 rintro _ h2 ⟨g,rfl,k2,hsm⟩;have hA2:=k2.get hA1 id;have k2:=k1.trans k2;rw [asB_bool];refine ah (fun hc=>⟨trivial,k2⟩) (fun hc=>?_);have hsm:=hsm hc;have hps:=hsm.nps;have hlen:=hsm.len;refine ⟨_,aq hA2 rfl,?_⟩;refine ae.use (EX p hsm.len (fun s hs=>(hsm.nm s hs).2.1) hsm.tot _ h2 ⟨w,rfl,hp.aE k2⟩) ?_;rintro _ h3 ⟨w2,us2,rfl,ho3,hat3,k3⟩;have hs3:=LU ho3 hat3 (by omega)
 have hcap2:=Aj ho3;have hA3:=k3.get hA2 id;have k3:=k2.trans k3;rw [asA_agg];refine ⟨rfl,(fun u hu=>by rw [Qf.1 (show u∈[w2] from hu)];exact (SgS.ca hs3).one),aA (cs:=[w2]) rfl ?_⟩
 have hO4:=ai (h:=h3) (o:=.cells [w2].toArray 24 (0,0));have k4:=ay.push (S:=fun _=>False) h3 (.cells [w2].toArray 24 (0,0));generalize h3.push (.cells [w2].toArray 24 (0,0))=h4 at *;have hs4:=hs3.aE k4;have hA4:=k4.get hA3 id;have k4:=k3.trans k4;refine ⟨_,aq hO4 rfl,?_⟩;refine ae.use (AF hω p hsm w2 hcap2 h4 hs4 (ht.more k4)) ?_;rintro _ h5 ⟨k5,hres⟩;obtain ⟨v1,us1,rfl,hv5⟩:=zx hres;have hs5:=hs4.aE k5
 have hA5:=k5.get hA4 id;have hO5:=k5.get hO4 id;have k5:=k4.trans k5;rw [HT,asA_agg];refine ⟨rfl,bq _ _,aA (cs:=flt (cE (cO p)).1 (cE (cO p)).2) rfl ?_⟩;have hF6:=ai (h:=h5) (o:=.cells (flt (cE (cO p)).1 (cE (cO p)).2).toArray 28 (0,0));have k6:=ay.push (S:=fun _=>False) h5 (.cells (flt (cE (cO p)).1 (cE (cO p)).2).toArray 28 (0,0));generalize h5.push (.cells (flt (cE (cO p)).1 (cE (cO p)).2).toArray 28 (0,0))=h6 at *
 have hs6:=hs5.aE k6;have hv6:=hv5.aE k6;have hA6:=k6.get hA5 id;have hO6:=k6.get hO5 id;have k6:=k5.trans k6;refine ⟨_,aq hA6 rfl,?_⟩;refine ae.use (Gp p hsm w h6 (hp.aE k6) (ht.more k6) fun v h hp ht Y=>Dx p hsm v h hp ht Y) ?_;rintro _ h7 ⟨k7,hres7⟩;obtain ⟨v2,us2',rfl,hw7⟩:=zx hres7;have hs7:=hs6.aE k7;have hv7:=hv6.aE k7;have hA7:=k7.get hA6 id;have hO7:=k7.get hO6 id;have hF7:=k7.get hF6 id;have k7:=k6.trans k7
 rw [HT,asA_agg];refine ⟨rfl,bq _ _,aA (cs:=flt (cE (cO p)).1 (cE (cO p)).2) rfl ?_⟩;have hG8:=ai (h:=h7) (o:=.cells (flt (cE (cO p)).1 (cE (cO p)).2).toArray 28 (0,0));have k8:=ay.push (S:=fun _=>False) h7 (.cells (flt (cE (cO p)).1 (cE (cO p)).2).toArray 28 (0,0));generalize h7.push (.cells (flt (cE (cO p)).1 (cE (cO p)).2).toArray 28 (0,0))=h8 at *;have hs8:=hs7.aE k8;have hv8:=hv7.aE k8;have hw8:=hw7.aE k8
 have hA8:=k8.get hA7 id;have hO8:=k8.get hO7 id;have hF8:=k8.get hF7 id;have k8:=k7.trans k8;refine ⟨fun t h'=>t=.bool false∧KF h8 h',?_,?_⟩
 ·refine ⟨_,aq hF8 rfl,_,aq hG8 rfl,?_⟩;show cond (!(((cE (cO p)).1==(cE (cO p)).1)&&(((cE (cO p)).2==(cE (cO p)).2)&&true))) _ _;refine ba (by simp) ?_
  refine ⟨_,aq hO8 rfl,_,aq hG8 rfl,?_⟩;refine ae.use (xw hω p hsm w2 hcap2 h8 hs8 (ht.more k8)) ?_;rintro _ h9 ⟨k9,rfl⟩;refine ⟨aq (k9.get hG8 id) rfl,?_⟩;show cond (!(((cE (cO p)).1==(cE (cO p)).1)&&(((cE (cO p)).2==(cE (cO p)).2)&&true))) _ _;refine ba (by simp) ?_
  refine hv8.1.tM.sl fun _ _=>?_;refine hw8.1.tM.sl fun _ _=>?_;refine ba (by simp) ?_
  refine ⟨_,aq (k9.get hO8 id) rfl,_,aq (k9.get hA8 id) rfl,?_⟩;refine ae.use (GQ true p p (by omega) hps h9 _ _ ⟨w2,rfl,hs8.aE k9⟩ ⟨w,rfl,hp.aE (k8.trans k9)⟩) ?_
  rintro _ h10 ⟨⟨b,rfl,hb⟩,k10⟩;obtain rfl:b=true:=hb.2 rfl;rw [asB_bool];exact ⟨rfl,k9.trans k10⟩
 rintro _ _ h9 ⟨rfl,k9⟩;rw [asB_bool];refine ba rfl ?_;have hv9:=hv8.aE k9;have hw9:=hw8.aE k9;have k9:=k8.trans k9;have hLl:(Ii (cO p)).length≤100:=by
  cases hk:cO p with
  |error e=>exact Nat.zero_le _
  |ok l =>
   unfold cO at hk
   split at hk
   ·cases hk
   ·have:=(uV p p _ _ _ _ (fun _ hh=>by cases hh) hk).2
    show l.length≤100;rw [this];simpa using hlen
 have h30:=Il p;generalize Ii (cO p)=L at *;refine ⟨fun t h'=>∃k:Nat,t=.int .i64 k∧k≤L.length∧KF h9 h',fun t _=>match t with|.int _ k=>L.length - k.toNat|_=>0,⟨0,rfl,by omega,ay.refl _ _⟩,?_⟩
 rintro _ _ h10 ⟨k,rfl,hk,k10⟩;have hv10:=hv9.aE k10;have hw10:=hw9.aE k10;refine hv10.1.tM.sl fun _ _=>?_;rw [asK_int];refine ah (fun hc=>?_) (fun hc=>⟨trivial,k9.trans k10⟩);have hkl:k < L.length:=by have:=Qj hc;omega
 have hx:=Q7 hkl;have hmem:L[k]∈L:=Qv hkl;generalize L[k]=bd at hx hmem;have h30b:=h30 bd hmem;obtain ⟨r1,hu1⟩:∃r1,us1[k]?=some r1:=⟨_,Q7 (by rw [hv10.2.1];exact hkl)⟩
 obtain ⟨r2,hu2⟩:∃r2,us2'[k]?=some r2:=⟨_,Q7 (by rw [hw10.2.1];exact hkl)⟩
 refine bP.rd1 hv10.1.tM hu1 ?_;refine bP.rd1 hw10.1.tM hu2 ?_;refine ae.use (Aw (hv10.2.2 k bd r1 hx hu1).tM (hw10.2.2 k bd r2 hx hu2).tM (by omega)) ?_
 rintro _ _ ⟨rfl,rfl⟩;rw [asB_bool];refine ba rfl ?_;rw [asK_int,i64_in (by omega) (by omega)]
 exact ⟨⟨k+1,by simp,by omega,k10⟩,by simp;omega⟩
end
theorem IH {H:Type}{enc:TypeId×Value→H}{w:World}{base:Nat}{spare:Nat→Bool}{held:Bool}{fuel:Nat}{cs:List Value}{x:DataW H×List MemPlace}(h:DataW.trod enc Tryz.prog w base spare held fuel 24 cs=some x):∃v p,cs=[v]∧SgS w.heap v p∧Av v:=by
 obtain ⟨v,p,hcs,hs⟩:=LI h;refine ⟨v,p,hcs,hs,?_⟩;obtain ⟨_,_,_,h0⟩:=bS Tryz.underlying24 h (i:=0) rfl;rcases DataW.trod_slice Tryz.underlying22 h0 with ⟨e0,_⟩|⟨a,len,cap,_,_,_,_,e0,_,_,hl,_⟩
 ·have e1:=km (o:=0) e0;rw [hcs] at e1;have e1:v=.slice none 0 0:=Z2 e1;intro a n c hv;rw [e1] at hv;cases hv;exact Zc _
 ·have e1:=km (o:=0) e0;rw [hcs] at e1;have e1:v=.slice (some a) len cap:=Z2 e1;intro a n c hv;rw [e1] at hv;cases hv;exact hl
end Go.Proofs.YtkeeboomikkojaaGreatDoor
