/- TokenJoins: by the code. -/
import Derived.Test.YtgfpcpkpclpdcaaDoorU9
namespace Go.Proofs.YtgfpcpkpclpdcaaDoor
open Go Go.Sx Go.Sx.Tk Go.Proofs.YtgfpcpkpclpdcaaDoor.Sx

theorem bytes_app (a b : ByteArray) : bytesOf ((a ++ (⟨#[10]⟩ : ByteArray)) ++ b) = bytesOf a ++ 10 :: bytesOf b := by
  simp [bytesOf]
theorem size_app (a b : ByteArray) : ((a ++ (⟨#[10]⟩ : ByteArray)) ++ b).size = a.size + 1 + b.size := by
  have := congrArg List.length (bytes_app a b)
  rw [bytes_len, List.length_append, List.length_cons, bytes_len, bytes_len] at this
  omega
/-- the joined text's scan, by those of its parts -/
theorem Out.join {a b : ByteArray} {ta tb : List Tok} {ea xa eb xb : Int} (ha : Out a ta ea xa) (hb : Out b tb eb xb) (sa : a.size ≤ 5900) (sb : b.size ≤ 5900) :
    ∃ tj ej xj, Out ((a ++ (⟨#[10]⟩ : ByteArray)) ++ b) tj ej xj ∧ ((ea ≠ 0 ∧ ej = ea ∧ xj = xa) ∨ (ea = 0 ∧ eb ≠ 0 ∧ ej = eb ∧ xj = xb + a.size + 1) ∨ (ea = 0 ∧ eb = 0 ∧ ej = 0 ∧ tj = ta ++ tb.map (shiftT ((a.size : Int) + 1)))) := by
  have hsz := size_app a b
  rcases ha with ⟨h, _⟩ | ⟨_, ha, rfl, rfl⟩ | ⟨_, ha, rfl⟩
  · omega
  · have hj : ∀ {rb : Res}, Sc (bytesOf b) 0 rb → Sc (bytesOf a ++ 10 :: bytesOf b) 0 (prep ta (shiftR ((a.size : Int) + 1) rb)) := fun {rb} hrb => by
      refine Scans.join ha ta rfl _ ?_
      have := Scans.shift ((a.size : Int) + 1) hrb
      rw [bytes_len]
      have e : (0 : Int) + ((a.size : Int) + 1) = 0 + (a.size : Int) + 1 := by omega
      rw [e] at this
      exact this
    rcases hb with ⟨h, _⟩ | ⟨_, hb, rfl, rfl⟩ | ⟨_, hb, rfl⟩
    · omega
    · exact ⟨_, 0, 0, .inr (.inl ⟨by omega, by rw [bytes_app]; exact hj hb, rfl, rfl⟩), .inr (.inr ⟨rfl, rfl, rfl, rfl⟩)⟩
    · have he := (hb.err _ _ rfl).1
      exact ⟨[], eb, xb + ((a.size : Int) + 1), .inr (.inr ⟨by omega, by rw [bytes_app]; exact hj hb, rfl⟩), .inr (.inl ⟨rfl, he, rfl, by omega⟩)⟩
  · have he := (ha.err _ _ rfl).1
    exact ⟨[], ea, xa, .inr (.inr ⟨by omega, by rw [bytes_app]; exact Scans.joinE ha _ rfl, rfl⟩), .inl ⟨he, rfl, rfl⟩⟩
theorem Out.zero {s : ByteArray} {ts : List Tok} {e a : Int} (h : Out s ts e a) (he : e ≠ 0) : ts = [] := by
  rcases h with ⟨_, rfl, _⟩ | ⟨_, _, rfl, _⟩ | ⟨_, _, rfl⟩
  · rfl
  · exact absurd rfl he
  · rfl
theorem Out.at_bound {s : ByteArray} {ts : List Tok} {e a : Int} (h : Out s ts e a) : 0 ≤ a ∧ a ≤ 12000 := by
  rcases h with ⟨_, _, _, rfl⟩ | ⟨_, _, _, rfl⟩ | ⟨h0, h1, _⟩
  · omega
  · omega
  · obtain ⟨_, h2, h3⟩ := h1.err _ _ rfl
    rw [bytes_len] at h3
    omega
theorem Sc.at_bound {l : List UInt8} {at_ : Int} {res : Res} (h : Sc l at_ res) : ∀ ts, res = .ok ts → ∀ t ∈ ts, at_ ≤ t.at_ ∧ t.at_ ≤ at_ + l.length := by
  induction h with
  | stop _ => rintro _ ⟨⟩ t ht; cases ht
  | bad _ _ => rintro _ ⟨⟩
  | @tok l r at_ c kind len n ts h1 e1 k1 ih =>
    rintro _ ⟨⟩ t ht
    have h2 := oneL_len e1
    have h3 := congrArg List.length h1
    rw [List.length_drop] at h3
    simp only [List.length_cons] at h2 h3
    rcases List.mem_cons.1 ht with rfl | ht
    · simp only
      omega
    · have := ih ts rfl t ht
      rw [List.length_drop] at this
      simp only [List.length_cons] at this
      omega
  | fail _ _ _ _ => rintro _ ⟨⟩
theorem Out.tok_bound {s : ByteArray} {ts : List Tok} {e a : Int} (h : Out s ts e a) : ∀ t ∈ ts, 0 ≤ t.at_ ∧ t.at_ ≤ 12000 := by
  rcases h with ⟨_, rfl, _⟩ | ⟨h0, h1, _⟩ | ⟨_, _, rfl⟩
  · simp
  · intro t ht
    have := h1.at_bound ts rfl t ht
    rw [bytes_len] at this
    omega
  · simp

section
variable {ω : Amb}
theorem Joins_law (a b : ByteArray) (h : Hp) (X : List PanicEntry → Hp → Prop) : CallX Tryd.prog ω n_pipewrightlaw_TokenJoins [.string a, .string b] h (fun r h' => r = .bool true ∧ Keep (fun _ => False) h h') X := by
  refine C_pipewrightlaw_TokenJoins ω _ _ h _ X ?_
  unfold W_pipewrightlaw_TokenJoins
  refine CallX.use (Begun_law h) ?_
  rintro _ h1 ⟨rfl, k1⟩
  rw [asB_bool]
  refine cond_f rfl ?_
  refine ⟨decide (5900 < a.size ∨ 5900 < b.size), ?_, fun _ => cond_c (fun _ => ⟨rfl, k1⟩) (fun hc => ?_)⟩
  · rw [asS_str]
    refine cond_c (fun hc => ?_) (fun hc => ?_)
    · have := of_decide_eq_true hc
      rw [decide_eq_true (.inl (by omega))]
      exact ⟨rfl, rfl⟩
    · have := of_decide_eq_false hc
      rw [asS_str]
      refine ⟨?_, rfl⟩
      congr 1
      rw [Bool.eq_iff_iff]
      simp
      omega
  have hc := of_decide_eq_false hc
  have sa : a.size ≤ 5900 := by omega
  have sb : b.size ≤ 5900 := by omega
  refine CallX.use (Scan_law a h1) ?_
  intro _ h2 hs2
  obtain ⟨ta, va, ea, xa, rfl, k2, oa, sl2⟩ := hs2.out
  simp only [asT_tup, t2, asO_some, asA_agg]
  refine ⟨rfl, flt_one _ _, storeK_local (cs := flt ea xa) rfl ?_⟩
  have kp := Keep.push (S := fun _ => False) h2 (.cells (flt ea xa).toArray 25 (0, 0))
  have hb3 := hp_push_new (h := h2) (o := .cells (flt ea xa).toArray 25 (0, 0))
  have sl3 := sl2.keep kp
  have k3 := (k1.trans k2).trans kp
  generalize h2.push (.cells (flt ea xa).toArray 25 (0, 0)) = h3 at *
  generalize h2.size = L2 at *
  refine CallX.use (Scan_law b h3) ?_
  intro _ h4 hs4
  obtain ⟨tb, vb, eb, xb, rfl, k4, ob, sl4⟩ := hs4.out
  simp only [asT_tup, t2, asO_some, asA_agg]
  refine ⟨rfl, flt_one _ _, storeK_local (cs := flt eb xb) rfl ?_⟩
  have kp5 := Keep.push (S := fun _ => False) h4 (.cells (flt eb xb).toArray 25 (0, 0))
  have hb5 := hp_push_new (h := h4) (o := .cells (flt eb xb).toArray 25 (0, 0))
  have ha5 := (k4.trans kp5).get hb3 (by simp)
  have sla5 := sl3.keep (k4.trans kp5)
  have slb5 := sl4.keep kp5
  have k5 := (k3.trans k4).trans kp5
  generalize h4.push (.cells (flt eb xb).toArray 25 (0, 0)) = h5 at *
  generalize h4.size = L4 at *
  have hsz := size_app a b
  have e1 : ByteArray.size ⟨#[10]⟩ = 1 := rfl
  rw [asS_str, e1]
  refine ⟨by omega, ?_⟩
  rw [asS_str, ByteArray.size_append, e1]
  refine ⟨by omega, ?_⟩
  refine CallX.use (Scan_law _ h5) ?_
  intro _ h6 hs6
  obtain ⟨tj, vj, ej, xj, rfl, k6, oj, sl6⟩ := hs6.out
  obtain ⟨tj', ej', xj', oj', hcase⟩ := oa.join ob sa sb
  obtain ⟨rfl, rfl, rfl⟩ := oj.same oj'
  simp only [asT_tup, t2, asO_some, asA_agg]
  refine ⟨rfl, flt_one _ _, storeK_local (cs := flt ej xj) rfl ?_⟩
  have kp7 := Keep.push (S := fun _ => False) h6 (.cells (flt ej xj).toArray 25 (0, 0))
  have hj7 := hp_push_new (h := h6) (o := .cells (flt ej xj).toArray 25 (0, 0))
  have ha7 := (k6.trans kp7).get ha5 (by simp)
  have hb7 := (k6.trans kp7).get hb5 (by simp)
  have sla7 := sla5.keep (k6.trans kp7)
  have slb7 := slb5.keep (k6.trans kp7)
  have slj7 := sl6.keep kp7
  have k7 := (k5.trans k6).trans kp7
  generalize h6.push (.cells (flt ej xj).toArray 25 (0, 0)) = h7 at *
  generalize h6.size = L6 at *
  have la := oa.len
  have lb := ob.len
  have bb := ob.at_bound
  have tbb := ob.tok_bound
  refine lx ha7 rfl ?_
  rw [asK_int]
  rcases hcase with ⟨hea, rfl, rfl⟩ | ⟨rfl, heb, rfl, rfl⟩ | ⟨rfl, rfl, rfl, rfl⟩
  · refine cond_t (by simpa using hea) ?_
    refine ⟨_, cellsH_blk hj7 rfl, _, cellsH_blk ha7 rfl, ?_⟩
    simp only [flt, Sx.ld]
    exact ⟨by simp, k7⟩
  · refine cond_f rfl ?_
    refine lx hb7 rfl ?_
    rw [asK_int]
    refine cond_t (by simpa using heb) ?_
    refine ⟨fun r h' => r = .bool true ∧ Keep (fun _ => False) h h', ?_, fun _ _ _ hj => hj⟩
    refine lx hj7 rfl ?_
    refine lx hb7 rfl ?_
    rw [asK_int, asK_int]
    refine cond_t (by simp) ?_
    refine lx hj7 rfl ?_
    refine lx hb7 rfl ?_
    rw [asS_str, asK_int, asK_int, i64_in (n := xb + (a.size : Int)) (by omega) (by omega), i64_in (by omega) (by omega)]
    exact ⟨by simp, k7⟩
  · refine cond_f rfl ?_
    refine lx hb7 rfl ?_
    rw [asK_int]
    refine cond_f rfl ?_
    have hlj : (ta ++ tb.map (shiftT ((a.size : Int) + 1))).length = ta.length + tb.length := by simp
    refine ⟨false, ?_, fun _ => cond_f rfl ?_⟩
    · refine lx hj7 rfl ?_
      rw [asK_int]
      refine cond_f rfl ?_
      refine slj7.sl fun _ _ => sla7.sl fun _ _ => slb7.sl fun _ _ => ⟨?_, trivial⟩
      rw [hlj, i64_in (by omega) (by omega)]
      congr 1
      simp
    refine ⟨fun i h' => Keep (fun _ => False) h7 h' ∧ ∃ k : Nat, i = .int .i64 k ∧ k ≤ ta.length + tb.length, fun i _ => match i with | .int _ k => ta.length + tb.length - k.toNat | _ => 0, ⟨Keep.refl _ _, 0, rfl, by omega⟩, ?_⟩
    rintro _ _ h8 ⟨k8, k, rfl, hk⟩
    have sla8 := sla7.keep k8
    have slb8 := slb7.keep k8
    have slj8 := slj7.keep k8
    refine slj8.sl fun _ _ => ?_
    rw [hlj, asK_int]
    refine cond_c (fun hc => ?_) (fun _ => ⟨trivial, k7.trans k8⟩)
    have hlt : k < ta.length + tb.length := by have := of_decide_eq_true hc; omega
    refine ⟨trivial, Tok.zero.one, storeK_local (cs := Tok.zero.f) rfl ?_⟩
    have kp9 := Keep.push (S := fun _ => False) h8 (.cells Tok.zero.f.toArray 31 (0, 0))
    have hz9 := hp_push_new (h := h8) (o := .cells Tok.zero.f.toArray 31 (0, 0))
    have sla9 := sla8.keep kp9
    have slb9 := slb8.keep kp9
    have hsz9 : h8.size < (h8.push (.cells Tok.zero.f.toArray 31 (0, 0))).size := by simp
    generalize h8.push (.cells Tok.zero.f.toArray 31 (0, 0)) = h9 at *
    have hx : (ta ++ tb.map (shiftT ((a.size : Int) + 1)))[k]? = some (ta ++ tb.map (shiftT ((a.size : Int) + 1)))[k] := List.getElem?_eq_getElem (by omega)
    generalize (ta ++ tb.map (shiftT ((a.size : Int) + 1)))[k] = t at hx
    have kn : ∀ {x y : Hp}, Keep (fun _ => False) h8 x → Keep (fun q => q = h8.size) x y → Keep (fun _ => False) h8 y := fun kx ky => kx.newer (ky.mono fun q _ hq => .inr (Nat.le_of_eq hq.symm))
    refine sla9.sl fun _ _ => ?_
    rw [asK_int]
    refine ⟨fun h' => Keep (fun _ => False) h8 h' ∧ h'[h8.size]? = some (.cells t.f.toArray 31 (0, 0)), ?_, ?_⟩
    · refine cond_c (fun hc => ?_) (fun hc => ?_)
      · have hka : k < ta.length := by have := of_decide_eq_true hc; omega
        have hxa : ta[k]? = some t := by rw [← hx, List.getElem?_append_left hka]
        refine sla9.rdS Tok.len hxa ?_
        refine ⟨rfl, t.one, storeK_of hz9 (Nat.le_refl 4) ?_⟩
        rw [spl_all (show t.f.length = 4 from rfl)]
        exact ⟨kn kp9 (Keep.set (S := fun q => q = h8.size) _ rfl), hp_set_same hz9⟩
      · have hka : ta.length ≤ k := by have := of_decide_eq_false hc; omega
        rw [List.getElem?_append_right hka, List.getElem?_map] at hx
        obtain ⟨u, hu, rfl⟩ := Option.map_eq_some_iff.1 hx
        have hub := tbb u (List.mem_iff_getElem?.2 ⟨_, hu⟩)
        refine sla9.sl fun _ _ => ?_
        have hw : IntKind.wrap .i64 ((k : Int) - (ta.length : Int)) = ((k - ta.length : Nat) : Int) := by rw [i64_in (by omega) (by omega)]; omega
        rw [asK_int, hw]
        refine slb9.rdS Tok.len hu ?_
        refine ⟨rfl, u.one, storeK_of hz9 (Nat.le_refl 4) ?_⟩
        rw [spl_all (show u.f.length = 4 from rfl)]
        have k10 := kn kp9 (Keep.set (S := fun q => q = h8.size) (.cells u.f.toArray 31 (0, 0)) rfl)
        have hz10 := hp_set_same (o := .cells u.f.toArray 31 (0, 0)) hz9
        generalize h9.setIfInBounds h8.size (.cells u.f.toArray 31 (0, 0)) = h10 at *
        refine lx hz10 rfl ?_
        rw [asS_str, asK_int, i64_in (n := (a.size : Int) + 1) (by omega) (by omega), i64_in (by omega) (by omega)]
        refine blkSet hz10 (by show 1 < 4; decide) fun h11 hz11 k11 => ?_
        exact ⟨kn k10 k11, by rw [hz11]; rfl⟩
    rintro _ h12 ⟨k12, hz12⟩
    refine (slj8.keep k12).rdS Tok.len hx ?_
    refine ⟨_, cellsH_blk hz12 rfl, ?_⟩
    simp only [Tok.f, Sx.ld]
    refine cond_f (by simp) ?_
    rw [i64_in (by omega) (by omega)]
    exact ⟨⟨k8.trans k12, k + 1, by simp, by omega⟩, by simp; omega⟩
end
end Go.Proofs.YtgfpcpkpclpdcaaDoor
