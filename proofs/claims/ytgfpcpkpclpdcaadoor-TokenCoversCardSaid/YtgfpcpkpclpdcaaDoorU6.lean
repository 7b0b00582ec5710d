/- Tokens: both scans. -/
import Derived.Test.YtgfpcpkpclpdcaaDoorU5
namespace Go.Proofs.YtgfpcpkpclpdcaaDoor
open Go Go.Sx Go.Sx.Tk Go.Proofs.YtgfpcpkpclpdcaaDoor.Sx

abbrev Sc (l : List UInt8) (a : Int) (res : Res) : Prop := Scans 2 3 4 l a res
/-- what a scan gives -/
inductive ScanOut (s : ByteArray) (h : Hp) (r : Value) (h' : Hp) : Prop
  | big (hb : 12000 < s.size) (hr : r = .tuple #[.slice none 0 0, .agg (flt 1 12000).toArray]) (hk : Keep (fun _ => False) h h')
  | ok (ts : List Tok) (v : Value) (hb : s.size ≤ 12000) (hs : Sc (bytesOf s) 0 (.ok ts)) (hr : r = .tuple #[v, .agg (flt 0 0).toArray]) (ho : OwnH h' h.size 31 4 v ts.length (ts.flatMap Tok.f)) (hk : Keep (fun _ => False) h h')
  | bad (e a : Int) (hb : s.size ≤ 12000) (hs : Sc (bytesOf s) 0 (.error (e, a))) (hr : r = .tuple #[.slice none 0 0, .agg (flt e a).toArray]) (hk : Keep (fun _ => False) h h')

/-- on the way -/
structure St (s : ByteArray) (h : Hp) (j : Nat) (ts : List Tok) (out : Value) (h' : Hp) : Prop where
  le : j ≤ s.size
  own : OwnH h' h.size 31 4 out ts.length (ts.flatMap Tok.f)
  len : ts.length ≤ j
  keep : Keep (fun _ => False) h h'
  flt : h'[h.size]? = some (.cells (Go.Proofs.YtgfpcpkpclpdcaaDoor.flt 0 0).toArray 25 (0, 0))
  run : ∀ res, Sc (rest s j) j res → Sc (bytesOf s) 0 (prep ts res)
theorem St.start (s : ByteArray) (h : Hp) {h' : Hp} (hk : Keep (fun _ => False) h h') (hf : h'[h.size]? = some (.cells (Go.Proofs.YtgfpcpkpclpdcaaDoor.flt 0 0).toArray 25 (0, 0))) : St s h 0 [] (.slice none 0 0) h' :=
  ⟨Nat.zero_le _, OwnH.nil, Nat.le_refl _, hk, hf, fun res hs => by rw [prep_nil]; exact hs⟩
theorem St.more {s : ByteArray} {h h' h'' : Hp} {j : Nat} {ts : List Tok} {out : Value} (hst : St s h j ts out h') {G : Nat} (hk : Keep (fun k => k = G) h' h'') (hG : h.size < G) (hT : ∃ c, h'[G]? = some (.cells c 35 (0, 0))) : St s h j ts out h'' :=
  ⟨hst.le, by
    obtain ⟨c, hc⟩ := hT
    exact hst.own.keepT hk (OfTy.blk hc) (by decide), hst.len, hst.keep.newer (hk.mono fun k _ hk => .inr (by omega)), hk.get hst.flt (by omega), hst.run⟩
theorem St.more0 {s : ByteArray} {h h' h'' : Hp} {j : Nat} {ts : List Tok} {out : Value} (hst : St s h j ts out h') (hk : Keep (fun _ => False) h' h'') : St s h j ts out h'' :=
  ⟨hst.le, hst.own.more hk, hst.len, hst.keep.trans hk, hk.get hst.flt (by simp), hst.run⟩
/-- a token more -/
theorem St.tok {s : ByteArray} {h h' h'' : Hp} {j j1 : Nat} {ts : List Tok} {out w : Value} (hst : St s h j ts out h') (hj1 : j1 = j + blanks false (rest s j)) (hlt : j1 < s.size) {kind : Int} {len : Nat} {n : Int}
    (ht : oneL 2 3 4 (rest s j1) = .tok kind len n) (ho : OwnH h'' h.size 31 4 w (ts ++ [tokAt s j1 kind len n]).length ((ts ++ [tokAt s j1 kind len n]).flatMap Tok.f)) (hk : Keep (fun _ => False) h h'')
    (hf : h''[h.size]? = some (.cells (Go.Proofs.YtgfpcpkpclpdcaaDoor.flt 0 0).toArray 25 (0, 0))) : St s h (j1 + len) (ts ++ [tokAt s j1 kind len n]) w h'' ∧ j1 < j1 + len := by
  obtain ⟨h1, h2⟩ := oneL_len ht
  rw [rest_len] at h2
  refine ⟨⟨by omega, ho, ?_, hk, hf, fun res hs => ?_⟩, by omega⟩
  · have := hst.len
    simp
    omega
  · have hd : (rest s j).drop (blanks false (rest s j)) = cAt s j1 :: rest s (j1 + 1) := by
      rw [List.drop_drop, ← hj1]
      exact dropc s hlt
    have hd1 : rest s j1 = cAt s j1 :: rest s (j1 + 1) := dropc s hlt
    have hrest : (cAt s j1 :: rest s (j1 + 1)).drop len = rest s (j1 + len) := by rw [← hd1, List.drop_drop]
    have hc1 : ((j1 + len : Nat) : Int) = (j : Int) + (blanks false (rest s j) : Nat) + (len : Nat) := by omega
    have hc2 : (j : Int) + (blanks false (rest s j) : Nat) = (j1 : Int) := by omega
    rw [hc1, ← hrest] at hs
    rw [← prep_app]
    refine hst.run _ ?_
    cases res with
    | ok us =>
      have := Scans.tok hd (by rw [← hd1]; exact ht) hs
      rw [← hd1, hc2] at this
      exact this
    | error x => exact Scans.fail hd (by rw [← hd1]; exact ht) hs
theorem St.bad {s : ByteArray} {h h' : Hp} {j j1 : Nat} {ts : List Tok} {out : Value} (hst : St s h j ts out h') (hj1 : j1 = j + blanks false (rest s j)) (hlt : j1 < s.size) {e : Int}
    (ht : oneL 2 3 4 (rest s j1) = .bad e) : Sc (bytesOf s) 0 (.error (e, (j1 : Int))) := by
  have hd : (rest s j).drop (blanks false (rest s j)) = cAt s j1 :: rest s (j1 + 1) := by
    rw [List.drop_drop, ← hj1]
    exact dropc s hlt
  have hd1 : rest s j1 = cAt s j1 :: rest s (j1 + 1) := dropc s hlt
  have := hst.run _ (Scans.bad hd (by rw [← hd1]; exact ht))
  have hc2 : (j : Int) + (blanks false (rest s j) : Nat) = (j1 : Int) := by omega
  rw [hc2] at this
  exact this
theorem St.stop {s : ByteArray} {h h' : Hp} {j : Nat} {ts : List Tok} {out : Value} (hst : St s h j ts out h') (hj1 : j + blanks false (rest s j) = s.size) : Sc (bytesOf s) 0 (.ok ts) := by
  have := hst.run _ (Scans.stop (by rw [List.drop_drop, hj1]; exact rest_end s))
  simpa [prep] using this
theorem bad_ne {l : List UInt8} {e : Int} (h : oneL 2 3 4 l = .bad e) : e = 2 ∨ e = 3 ∨ e = 4 := by
  unfold oneL at h
  split at h
  · cases h; exact .inl rfl
  · repeat' split at h
    all_goals cases h
    all_goals simp

/-- the fault is laid and read -/
theorem finF {h : Hp} {L : Nat} {cs ds : List Value} (hw : h[L]? = some (.cells ds.toArray 25 (0, 0))) (hd : ds.length = 2) (hc : cs.length = 2) {K : List Value → Hp → Prop}
    (hk : ∀ h', Keep (fun k => k = L) h h' → h'[L]? = some (.cells cs.toArray 25 (0, 0)) → K cs h') : storeK h ⟨L, 0, none⟩ cs fun h' => ∃ C, cellsH h' ⟨L, 0, none⟩ 2 C ∧ K C h' := by
  refine storeK_of hw (by simp; omega) ?_
  rw [spl_all (by simp; omega)]
  have hb := hp_set_same (o := .cells cs.toArray 25 (0, 0)) hw
  exact ⟨cs, cellsH_blk hb hc, hk _ (Keep.set (S := fun k => k = L) _ rfl) hb⟩

section
variable {ω : Amb}
theorem Scan_law (s : ByteArray) (h : Hp) (X : List PanicEntry → Hp → Prop) : CallX Tryd.prog ω n_token_Scan [.string s] h (ScanOut s h) X := by
  refine C_token_Scan ω _ h _ X ?_
  unfold W_token_Scan
  rw [asS_str]
  refine cond_c (fun hc => ?_) (fun hc => ?_)
  · have := of_decide_eq_true hc
    refine ⟨rfl, flt_one 1 12000, storeK_local (cs := flt 1 12000) rfl ?_⟩
    exact ⟨_, cellsH_local rfl, .big (by omega) rfl (Keep.push _ _)⟩
  have hs : s.size ≤ 12000 := by have := of_decide_eq_false hc; omega
  rw [oneK_str]
  have hG : Array.size (Array.push h (.cells #[(.int .i64 0), (.int .i64 0)] 25 (0, 0))) = h.size + 1 := by simp
  have hb0 : ScAt (Array.push (Array.push h (.cells #[(.int .i64 0), (.int .i64 0)] 25 (0, 0))) (.cells #[.string s, (.int .i64 0), (.slice none 0 0)] 35 (0, 0))) (h.size + 1) s 0 (.slice none 0 0) := by
    rw [← hG]
    exact hp_push_new
  have hf0 : (Array.push (Array.push h (.cells #[(.int .i64 0), (.int .i64 0)] 25 (0, 0))) (.cells #[.string s, (.int .i64 0), (.slice none 0 0)] 35 (0, 0)))[h.size]? = some (.cells (flt 0 0).toArray 25 (0, 0)) := hp_push_old hp_push_new
  have k0 : Keep (fun _ => False) h (Array.push (Array.push h (.cells #[(.int .i64 0), (.int .i64 0)] 25 (0, 0))) (.cells #[.string s, (.int .i64 0), (.slice none 0 0)] 35 (0, 0))) := (Keep.push _ _).trans (Keep.push _ _)
  rw [hG]
  generalize Array.push (Array.push h (.cells #[(.int .i64 0), (.int .i64 0)] 25 (0, 0))) (.cells #[.string s, (.int .i64 0), (.slice none 0 0)] 35 (0, 0)) = h0 at *
  have st0 := St.start s h k0 hf0
  refine CallX.use (blank_law (by omega) (Nat.zero_le _) hb0) ?_
  rintro _ h1 ⟨hb1, k1⟩
  have st1 := st0.more k1 (by omega) ⟨_, hb0⟩
  refine ⟨fun h' => ∃ j ts out, St s h j ts out h' ∧ ScAt h' (h.size + 1) s (j + blanks false (rest s j)) out, fun h' => s.size - posOf (h.size + 1) h', ⟨0, [], _, st1, hb1⟩, ?_⟩
  rintro _ h2 ⟨j, ts, out, st2, hb2⟩
  have hrl := rest_len s j
  have hbl := blanks_le false (rest s j)
  have hle := st2.le
  have hln := st2.len
  refine lx hb2 rfl ?_
  rw [asS_str, asK_int]
  refine cond_c (fun hc => ?_) (fun hc => ?_)
  · have hlt : j + blanks false (rest s j) < s.size := by have := of_decide_eq_true hc; omega
    refine lx hb2 rfl ?_
    refine CallX.use (one_law hs hlt hb2 st2.own (by omega) st2.keep.size) ?_
    intro r3 h3 hone
    unfold OneR at hone
    cases ht : oneL 2 3 4 (rest s (j + blanks false (rest s j))) with
    | bad e =>
      rw [ht] at hone
      obtain ⟨rfl, k3⟩ := hone
      have he := bad_ne ht
      rw [asK_int]
      refine cond_t (by simp; omega) ?_
      rw [oneK_int, oneK_int]
      have st3 := st2.more k3 (by omega) ⟨_, hb2⟩
      refine ⟨rfl, flt_one _ _, finF (cs := flt e _) st3.flt rfl rfl fun h4 k4 _ => ?_⟩
      exact .bad e _ hs (st2.bad rfl hlt ht) rfl (st3.keep.newer (k4.mono fun k _ hk => .inr (by omega)))
    | tok kind len n =>
      rw [ht] at hone
      obtain ⟨rfl, out3, hb3, ho3, k3, hw3⟩ := hone
      rw [asK_int]
      refine cond_f rfl ?_
      have hnf : ∀ k, out.ownBlock = some k → k ≠ h.size := fun k hk hkh => by
        obtain ⟨c, hc⟩ := st2.own.blk hk
        rw [hkh, st2.flt] at hc
        cases hc
      have hf3 := k3.get st2.flt (by
        rintro (hk | hk)
        · omega
        · exact hnf _ hk rfl)
      obtain ⟨st3, hgt⟩ := st2.tok rfl hlt ht ho3 (st2.keep.newer (k3.mono fun k hk hkk => .inr (by
        rcases hkk with rfl | hkk
        · omega
        · exact (st2.own.lt k hkk).1))) hf3
      refine CallX.use (blank_law (by omega) st3.le hb3) ?_
      rintro _ h4 ⟨hb4, k4⟩
      refine ⟨⟨_, _, out3, st3.more k4 (by omega) ⟨_, hb3⟩, hb4⟩, ?_⟩
      show s.size - posOf (h.size + 1) h4 < s.size - posOf (h.size + 1) h2
      rw [posOf_scn hb4, posOf_scn hb2]
      have := st3.le
      omega
  · have hge : j + blanks false (rest s j) = s.size := by have := of_decide_eq_false hc; omega
    refine lx hb2 rfl ?_
    refine ⟨rfl, flt_one 0 0, finF (cs := flt 0 0) st2.flt rfl rfl fun h4 k4 _ => ?_⟩
    refine .ok ts out hs (st2.stop hge) rfl ?_ (st2.keep.newer (k4.mono fun k _ hk => .inr (by omega)))
    exact st2.own.keepT k4 (OfTy.blk st2.flt) (by decide)

/-- ONE TOKEN APPENDED -/
theorem app_tok {h base : Nat} {h' : Hp} {out : Value} {ts : List Tok} (ho : OwnH h' base 31 4 out ts.length (ts.flatMap Tok.f)) (hts : ts.length ≤ 20000) (t : Tok) {a b c d : Value} (he : [a, b, c, d] = t.f) (hb : base ≤ h'.size) (_ : h = 0) {K : Value → Hp → Prop}
    (hk : ∀ w h'', OwnH h'' base 31 4 w (ts ++ [t]).length ((ts ++ [t]).flatMap Tok.f) → Keep (fun k => out.ownBlock = some k) h' h'' → K w h'') :
    appK Tryd.prog 23 (Array.push h' (.cells (List.toArray [a, b, c, d]) 31 (0, 0))) out (.slice (some ⟨h'.size, 0, none⟩) 1 1) K := by
  rw [he]
  refine appK_one (bt := 40) (by kernel_rfl) ho rfl t.one (by omega) (by omega) hb fun w h4 ho4 hg _ _ => hk w h4 ?_ (Keep.grown hg fun k hk _ => hk)
  rw [List.length_append, List.flatMap_append]
  simpa using ho4

/-- on the way, further on -/
def Nx (s : ByteArray) (h : Hp) (j : Nat) (a out : Value) (h' : Hp) : Prop := ∃ (j' : Nat) (ts : List Tok), a = .int .i64 j' ∧ j < j' ∧ St s h j' ts out h'
theorem St.toNx {s : ByteArray} {h h' h'' : Hp} {j : Nat} {ts : List Tok} {out w : Value} (hst : St s h j ts out h') (hb : blanks false (rest s j) = 0) (hlt : j < s.size) {kind : Int} {len : Nat} {n : Int}
    (ht : oneL 2 3 4 (rest s j) = .tok kind len n) (ho : OwnH h'' h.size 31 4 w (ts ++ [tokAt s j kind len n]).length ((ts ++ [tokAt s j kind len n]).flatMap Tok.f)) (hk : Keep (fun k => out.ownBlock = some k) h' h'') {x : Int} (hx : x = ((j + len : Nat) : Int)) : Nx s h j (.int .i64 x) w h'' := by
  subst hx
  have hf := hk.get hst.flt fun hkh => by
    obtain ⟨c, hc⟩ := hst.own.blk hkh
    rw [hst.flt] at hc
    cases hc
  obtain ⟨h1, h2⟩ := hst.tok (j1 := j) (by omega) hlt ht ho (hst.keep.newer (hk.mono fun k _ hkk => .inr (hst.own.lt k hkk).1)) hf
  exact ⟨_, _, rfl, h2, h1⟩
theorem numL_pos {l : List UInt8} {n : Int} (h : numL l = some n) : 0 ≤ n := by
  unfold numL at h
  split at h
  · cases h
  · rename_i hn
    cases h
    exact (valD_le _ l rfl (by
      cases ha : l.all dg
      · exact absurd (.inr (.inr ha)) hn
      · rfl)).1
theorem blanks_none {s : ByteArray} {j : Nat} (hj : j < s.size) (h : ¬ ((cAt s j).toNat = 32 ∨ (cAt s j).toNat = 9 ∨ (cAt s j).toNat = 10 ∨ (cAt s j).toNat = 13 ∨ (cAt s j).toNat = 35)) : blanks false (rest s j) = 0 := by
  rw [rest, dropc s hj, blanks, if_neg (by omega), if_neg (by simp; omega), if_neg (by omega)]

/-- the fault of a helper, laid and read -/
theorem finBad {h h' : Hp} {s : ByteArray} {j : Nat} {ts : List Tok} {out : Value} (hst : St s h j ts out h') (hb : blanks false (rest s j) = 0) (hlt : j < s.size) {e : Int} (ht : oneL 2 3 4 (rest s j) = .bad e) (hs : s.size ≤ 12000) (X : List PanicEntry → Hp → Prop) :
    CallX Tryd.prog ω 16 [.int .i64 e, .int .i64 (j : Int)] h' (fun r h2 => asA r fun A3 => A3.size = 2 ∧ (∀ u ∈ A3.toList, one u) ∧ storeK h2 ⟨Array.size h, 0, none⟩ A3.toList fun h4 =>
      ∃ C5, cellsH h4 ⟨Array.size h, 0, none⟩ 2 C5 ∧ ScanOut s h (.tuple #[(.slice none 0 0), (.agg C5.toArray)]) h4) X := by
  refine CallX.use (F_law e j h') ?_
  rintro _ h2 ⟨rfl, k2⟩
  rw [asA_agg]
  have st2 := hst.more0 k2
  exact ⟨rfl, flt_one _ _, finF (cs := flt e j) st2.flt rfl rfl fun h4 k4 _ => .bad e j hs (hst.bad (j1 := j) (by omega) hlt ht) rfl (st2.keep.newer (k4.mono fun k _ hk => .inr (by omega)))⟩

set_option maxHeartbeats 1000000 in
theorem RScan_law (s : ByteArray) (h : Hp) (X : List PanicEntry → Hp → Prop) : CallX Tryd.prog ω n_pipewrightref_Scan [.string s] h (ScanOut s h) X := by
  refine C_pipewrightref_Scan ω _ h _ X ?_
  unfold W_pipewrightref_Scan
  have hf0 : (Array.push h (.cells #[(.int .i64 0), (.int .i64 0)] 25 (0, 0)))[h.size]? = some (.cells (flt 0 0).toArray 25 (0, 0)) := hp_push_new
  have k0 : Keep (fun _ => False) h (Array.push h (.cells #[(.int .i64 0), (.int .i64 0)] 25 (0, 0))) := Keep.push _ _
  generalize Array.push h (.cells #[(.int .i64 0), (.int .i64 0)] 25 (0, 0)) = h0 at *
  rw [asS_str]
  refine cond_c (fun hc => ?_) (fun hc => ?_)
  · have := of_decide_eq_true hc
    refine CallX.use (F_law 1 12000 h0) ?_
    rintro _ h2 ⟨rfl, k2⟩
    rw [asA_agg]
    exact ⟨rfl, flt_one _ _, finF (cs := flt 1 12000) (k2.get hf0 (by simp)) rfl rfl fun h4 k4 _ => .big (by omega) rfl ((k0.trans k2).newer (k4.mono fun k _ hk => .inr (by omega)))⟩
  have hs : s.size ≤ 12000 := by have := of_decide_eq_false hc; omega
  refine ⟨fun a out h' => ∃ (j : Nat) (ts : List Tok), a = .int .i64 j ∧ St s h j ts out h', fun a _ _ => match a with | .int _ k => s.size - k.toNat | _ => 0, ⟨0, [], rfl, St.start s h k0 hf0⟩, ?_⟩
  rintro _ out _ h1 ⟨j, ts, rfl, st⟩
  have hle := st.le
  have hln := st.len
  rw [asS_str, asK_int]
  refine cond_c (fun hc => ?_) (fun hc => ?_)
  rotate_left
  · have hge : j = s.size := by have := of_decide_eq_false hc; omega
    refine ⟨rfl, flt_one 0 0, finF (cs := flt 0 0) st.flt rfl rfl fun h4 k4 _ => ?_⟩
    refine .ok ts out hs (st.stop (by rw [hge, rest_end]; rfl)) rfl ?_ (st.keep.newer (k4.mono fun k _ hk => .inr (by omega)))
    exact st.own.keepT k4 (OfTy.blk st.flt) (by decide)
  have hlt : j < s.size := by have := of_decide_eq_true hc; omega
  refine ⟨Nx s h j, ?_, ?_⟩
  rotate_left
  · rintro _ out2 _ h2 ⟨j2, ts2, rfl, hlt2, st2⟩
    have := st2.le
    exact ⟨⟨j2, ts2, rfl, st2⟩, by simp; omega⟩
  rw [asS_str, asI_int]
  refine ⟨by omega, by omega, Nx s h j, ?_, fun _ _ _ _ hj => hj⟩
  rw [byteAt_c]
  have hone := oneL_at s hlt
  have hd : rest s j = cAt s j :: rest s (j + 1) := dropc s hlt
  have hrl := run_le (rest s j)
  have hrn := rest_len s j
  have htl := text_size s j
  have htb := text_bytes s j (run (rest s j))
  have hte := text_eq s j (run (rest s j))
  refine ⟨fun r h' => r = .bool (decide ((cAt s j).toNat = 32 ∨ (cAt s j).toNat = 9 ∨ (cAt s j).toNat = 10 ∨ (cAt s j).toNat = 13)) ∧ h' = h1, ?_, ?_⟩
  · generalize (cAt s j).toNat = c
    refine cond_c (fun hc => ⟨by rw [decide_eq_true (.inl (by have := eq_of_beq hc; omega))], rfl⟩) (fun hc => ?_)
    have n1 := beq_eq_false_iff_ne.1 hc
    refine cond_c (fun hc => ⟨by rw [decide_eq_true (.inr (.inl (by have := eq_of_beq hc; omega)))], rfl⟩) (fun hc => ?_)
    have n2 := beq_eq_false_iff_ne.1 hc
    refine cond_c (fun hc => ⟨by rw [decide_eq_true (.inr (.inr (.inl (by have := eq_of_beq hc; omega))))], rfl⟩) (fun hc => ?_)
    have n3 := beq_eq_false_iff_ne.1 hc
    refine ⟨?_, rfl⟩
    congr 1
    rw [Bool.eq_iff_iff]
    simp
    omega
  rintro _ _ _ ⟨rfl, hh⟩
  rw [hh]
  refine ⟨Nx s h j, ?_, fun _ _ _ _ hj => hj⟩
  rw [asB_bool]
  refine cond_c (fun hc => ?_) (fun hc => ?_)
  · have hc := of_decide_eq_true hc
    have hb : blanks false (rest s j) = 1 + blanks false (rest s (j + 1)) := by
      rw [hd, blanks]
      split
      · omega
      · rw [if_pos (.inr (by omega))]
        omega
    rw [asK_int, i64_in (by omega) (by omega)]
    refine ⟨j + 1, ts, by simp, by omega, ⟨by omega, st.own, by omega, st.keep, st.flt, fun res hr => st.run _ (Scans.skip hb (fun q => ?_) ?_)⟩⟩
    · rw [List.drop_drop, List.drop_drop]
      congr 1
      omega
    · simpa using hr
  have nb := of_decide_eq_false hc
  refine ⟨Nx s h j, ?_, fun _ _ _ _ hj => hj⟩
  refine cond_c (fun hc => ?_) (fun hc => ?_)
  · have h35 : (cAt s j).toNat = 35 := by have := eq_of_beq hc; omega
    refine ⟨fun a h' => h' = h1 ∧ ∃ k : Nat, a = .int .i64 k ∧ k ≤ s.size ∧ (k = j ∨ (j < k ∧ blanks false (rest s j) = (k - j) + blanks true (rest s k))),
      fun a _ => match a with | .int _ k => s.size - k.toNat | _ => 0, ⟨rfl, j, rfl, by omega, .inl rfl⟩, ?_⟩
    rintro _ _ _ ⟨hh, k, rfl, hk, hinv⟩
    rw [hh]
    refine ⟨decide (k < s.size ∧ (cAt s k).toNat ≠ 10), ?_, fun _ => ?_⟩
    · rw [asS_str, asK_int]
      refine cond_c (fun hc => ?_) (fun hc => ?_)
      · have := of_decide_eq_true hc
        rw [asS_str, asI_int, byteAt_c]
        refine ⟨by omega, by omega, ?_, rfl⟩
        congr 1
        rw [Bool.eq_iff_iff]
        simp
        omega
      · have := of_decide_eq_false hc
        rw [decide_eq_false (by omega)]
        exact ⟨rfl, rfl⟩
    · refine cond_c (fun hc => ?_) (fun hc => ?_)
      · have hc := of_decide_eq_true hc
        have hdk : rest s k = cAt s k :: rest s (k + 1) := dropc s hc.1
        rw [asK_int, i64_in (by omega) (by omega)]
        refine ⟨⟨rfl, k + 1, by simp, by omega, .inr ⟨by omega, ?_⟩⟩, by simp; omega⟩
        rcases hinv with rfl | ⟨h1, h2⟩
        · rw [hd, blanks, if_neg (by omega), if_neg (by simp; omega), if_pos h35]
          omega
        · rw [h2, hdk, blanks, if_neg hc.2, if_pos (.inl rfl)]
          omega
      · have hc := of_decide_eq_false hc
        have hkj : ¬ k = j := fun e => hc ⟨by omega, by rw [e]; omega⟩
        obtain ⟨hjk, hinv⟩ := hinv.resolve_left hkj
        have hb : blanks false (rest s j) = (k - j) + blanks false (rest s k) := by
          rw [hinv]
          congr 1
          by_cases hlk : k < s.size
          · have hdk : rest s k = cAt s k :: rest s (k + 1) := dropc s hlk
            have h10 : (cAt s k).toNat = 10 := Decidable.by_contra fun hx => hc ⟨hlk, hx⟩
            rw [hdk, blanks, if_pos h10, blanks, if_pos h10]
          · have : k = s.size := by omega
            rw [this, rest_end]
            rfl
        refine ⟨k, ts, rfl, hjk, ⟨hk, st.own, by omega, st.keep, st.flt, fun res hr => st.run _ (Scans.skip hb (fun q => ?_) ?_)⟩⟩
        · rw [List.drop_drop, List.drop_drop]
          congr 1
          omega
        · have : (j : Int) + ((k - j : Nat) : Int) = k := by omega
          rw [this]
          exact hr
  have n35 : ¬ (cAt s j).toNat = 35 := by have := beq_eq_false_iff_ne.1 hc; omega
  have hbl := blanks_none hlt (by omega)
  refine CallX.use (small_law _ h1) ?_
  rintro _ _ ⟨rfl, hh⟩
  rw [hh]
  refine ⟨fun out a h' => Nx s h j a out h', ?_, fun _ _ _ _ hj => hj⟩
  rw [asB_bool]
  refine cond_c (fun hlo => ?_) (fun hlo => ?_)
  · rw [if_pos hlo] at hone
    refine CallX.use (long_law (by omega) hle h1) ?_
    rintro _ _ ⟨rfl, hh⟩
    rw [hh, asS_str, asI_int, asI_int, Int.toNat_natCast, Int.toNat_natCast]
    refine ⟨by omega, by omega, by omega, ?_⟩
    refine CallX.use (IsWord_law _ h1) ?_
    rintro _ h3 ⟨rfl, k3⟩
    have st3 := st.more0 k3
    refine ⟨fun r h' => h' = h3 ∧ ∃ kind, r = .int .i64 kind ∧ oneL 2 3 4 (rest s j) = .tok kind (run (rest s j)) 0, ?_, ?_⟩
    · rw [asB_bool, htb]
      refine cond_c (fun hw => ?_) (fun hw => ?_)
      · rw [if_pos hw] at hone
        exact ⟨rfl, 1, rfl, hone⟩
      · rw [if_neg (by rw [hw]; decide)] at hone
        rw [asK_int, asK_int, i64_in (by omega) (by omega)]
        refine cond_c (fun hc => ?_) (fun hc => ?_)
        · have := of_decide_eq_true hc
          rw [if_pos (by omega)] at hone
          exact finBad st3 hbl hlt hone hs X
        · have := of_decide_eq_false hc
          rw [if_neg (by omega)] at hone
          exact ⟨rfl, 2, rfl, hone⟩
    rintro _ _ h4 ⟨hh, kind, rfl, ht⟩
    rw [hh, asS_str, asI_int, asI_int, Int.toNat_natCast, Int.toNat_natCast]
    refine ⟨by omega, by omega, by omega, ?_⟩
    rw [oneK_int, oneK_int]
    refine ⟨rfl, app_tok st3.own (by omega) (tokAt s j kind (run (rest s j)) 0) (by rw [hte]; rfl) st3.keep.size rfl fun w h5 ho5 k5 => ?_⟩
    exact st3.toNx hbl hlt ht ho5 k5 rfl
  rw [if_neg (by rw [hlo]; decide)] at hone
  refine CallX.use (rdigit_law _ h1) ?_
  rintro _ _ ⟨rfl, hh⟩
  rw [hh]
  refine ⟨fun out a h' => Nx s h j a out h', ?_, fun _ _ _ _ hj => hj⟩
  rw [asB_bool]
  refine cond_c (fun hdg => ?_) (fun hdg => ?_)
  · rw [if_pos hdg] at hone
    refine CallX.use (long_law (by omega) hle h1) ?_
    rintro _ _ ⟨rfl, hh⟩
    rw [hh, asS_str, asI_int, asI_int, Int.toNat_natCast, Int.toNat_natCast]
    refine ⟨by omega, by omega, by omega, ?_⟩
    refine CallX.use (num_law _ (by omega) h1) ?_
    rintro _ _ ⟨rfl, hh⟩
    rw [hh, asK_int, htb]
    cases hn : numL ((rest s j).take (run (rest s j))) with
    | none =>
      rw [hn] at hone
      exact cond_t rfl (finBad st hbl hlt hone hs X)
    | some n =>
      rw [hn] at hone
      have hnp := numL_pos hn
      refine cond_f (by simp; omega) ?_
      rw [asS_str, asI_int, asI_int, Int.toNat_natCast, Int.toNat_natCast]
      refine ⟨by omega, by omega, by omega, ?_⟩
      rw [oneK_int, oneK_int]
      refine ⟨rfl, app_tok st.own (by omega) (tokAt s j 3 (run (rest s j)) n) (by rw [hte]; rfl) st.keep.size rfl fun w h5 ho5 k5 => ?_⟩
      exact st.toNx hbl hlt hone ho5 k5 rfl
  rw [if_neg (by rw [hdg]; decide)] at hone
  have hw1 : IntKind.wrap .i64 ((j : Int) + 1) = ((j + 1 : Nat) : Int) := by rw [i64_in (by omega) (by omega)]; omega
  refine ⟨fun r h' => r = .bool (decide ((cAt s j).toNat = 61 ∧ j + 1 < s.size ∧ (cAt s (j + 1)).toNat = 61)) ∧ h' = h1, ?_, ?_⟩
  · refine cond_c (fun hc => ?_) (fun hc => ?_)
    · have h61 : (cAt s j).toNat = 61 := by have := eq_of_beq hc; omega
      rw [asK_int, asS_str, hw1]
      refine cond_c (fun hc => ?_) (fun hc => ?_)
      · have := of_decide_eq_true hc
        rw [asK_int, asS_str, hw1, byteAt_c]
        refine ⟨by omega, by omega, ?_, rfl⟩
        congr 1
        rw [Bool.eq_iff_iff]
        simp
        omega
      · have := of_decide_eq_false hc
        rw [decide_eq_false (by omega)]
        exact ⟨rfl, rfl⟩
    · have := beq_eq_false_iff_ne.1 hc
      rw [decide_eq_false (by omega)]
      exact ⟨rfl, rfl⟩
  rintro _ _ _ ⟨rfl, hh⟩
  rw [hh]
  refine ⟨fun out a h' => Nx s h j a out h', ?_, fun _ _ _ _ hj => hj⟩
  rw [asB_bool]
  refine cond_c (fun hc => ?_) (fun hc => ?_)
  · obtain ⟨h61, h2⟩ := of_decide_eq_true hc
    rw [if_pos h61, if_pos h2] at hone
    have hd2 : rest s (j + 1) = cAt s (j + 1) :: rest s (j + 1 + 1) := dropc s h2.1
    have hc61 : cAt s j = 61 := UInt8.toNat_inj.1 (by rw [h61]; rfl)
    have hc2 : cAt s (j + 1) = 61 := UInt8.toNat_inj.1 (by rw [h2.2]; rfl)
    rw [oneK_int]
    refine ⟨rfl, app_tok st.own (by omega) (tokAt s j 4 2 0) (by rw [tokAt, hd, hd2, hc61, hc2]; rfl) st.keep.size rfl fun w h5 ho5 k5 => ?_⟩
    rw [asK_int]
    exact st.toNx hbl hlt hone ho5 k5 (by rw [i64_in (by omega) (by omega)]; omega)
  have hn2 := of_decide_eq_false hc
  refine ⟨fun r h' => r = .bool (isSign (cAt s j) || decide ((cAt s j).toNat = 61)) ∧ h' = h1, ?_, ?_⟩
  · unfold isSign
    generalize (cAt s j).toNat = c
    refine cond_c (fun hc => ⟨by rw [decide_eq_true (by have := eq_of_beq hc; omega : c = 40)]; rfl, rfl⟩) (fun hc => ?_)
    rw [decide_eq_false (by have := beq_eq_false_iff_ne.1 hc; omega : ¬ c = 40), Bool.false_or]
    refine cond_c (fun hc => ⟨by rw [decide_eq_true (by have := eq_of_beq hc; omega : c = 41)]; rfl, rfl⟩) (fun hc => ?_)
    rw [decide_eq_false (by have := beq_eq_false_iff_ne.1 hc; omega : ¬ c = 41), Bool.false_or]
    refine cond_c (fun hc => ⟨by rw [decide_eq_true (by have := eq_of_beq hc; omega : c = 123)]; rfl, rfl⟩) (fun hc => ?_)
    rw [decide_eq_false (by have := beq_eq_false_iff_ne.1 hc; omega : ¬ c = 123), Bool.false_or]
    refine cond_c (fun hc => ⟨by rw [decide_eq_true (by have := eq_of_beq hc; omega : c = 125)]; rfl, rfl⟩) (fun hc => ?_)
    rw [decide_eq_false (by have := beq_eq_false_iff_ne.1 hc; omega : ¬ c = 125), Bool.false_or]
    refine cond_c (fun hc => ⟨by rw [decide_eq_true (by have := eq_of_beq hc; omega : c = 44)]; rfl, rfl⟩) (fun hc => ?_)
    rw [decide_eq_false (by have := beq_eq_false_iff_ne.1 hc; omega : ¬ c = 44), Bool.false_or]
    refine cond_c (fun hc => ⟨by rw [decide_eq_true (by have := eq_of_beq hc; omega : c = 59)]; rfl, rfl⟩) (fun hc => ?_)
    rw [decide_eq_false (by have := beq_eq_false_iff_ne.1 hc; omega : ¬ c = 59), Bool.false_or]
    refine cond_c (fun hc => ⟨by rw [decide_eq_true (by have := eq_of_beq hc; omega : c = 43)]; rfl, rfl⟩) (fun hc => ?_)
    rw [decide_eq_false (by have := beq_eq_false_iff_ne.1 hc; omega : ¬ c = 43), Bool.false_or]
    refine cond_c (fun hc => ⟨by rw [decide_eq_true (by have := eq_of_beq hc; omega : c = 45)]; rfl, rfl⟩) (fun hc => ?_)
    rw [decide_eq_false (by have := beq_eq_false_iff_ne.1 hc; omega : ¬ c = 45), Bool.false_or]
    refine cond_c (fun hc => ⟨by rw [decide_eq_true (by have := eq_of_beq hc; omega : c = 42)]; rfl, rfl⟩) (fun hc => ?_)
    rw [decide_eq_false (by have := beq_eq_false_iff_ne.1 hc; omega : ¬ c = 42), Bool.false_or]
    refine cond_c (fun hc => ⟨by rw [decide_eq_true (by have := eq_of_beq hc; omega : c = 60)]; rfl, rfl⟩) (fun hc => ?_)
    rw [decide_eq_false (by have := beq_eq_false_iff_ne.1 hc; omega : ¬ c = 60), Bool.false_or]
    refine ⟨?_, rfl⟩
    congr 1
    rw [Bool.eq_iff_iff]
    simp
    omega
  rintro _ _ _ ⟨rfl, hh⟩
  rw [hh, asB_bool]
  refine cond_c (fun hc => ?_) (fun hc => ?_)
  · have hone1 : oneL 2 3 4 (rest s j) = .tok 4 1 0 := by
      rw [hone]
      by_cases h61 : (cAt s j).toNat = 61
      · rw [if_pos h61, if_neg fun h2 => hn2 ⟨h61, h2⟩]
      · rw [if_neg h61, if_pos]
        rw [decide_eq_false h61, Bool.or_false] at hc
        exact hc
    rw [asK_int, asS_str, asI_int, hw1, Int.toNat_natCast, Int.toNat_natCast]
    refine ⟨by omega, by omega, by omega, ?_⟩
    rw [oneK_int]
    refine ⟨rfl, app_tok st.own (by omega) (tokAt s j 4 1 0) (by rw [text_eq]; rfl) st.keep.size rfl fun w h5 ho5 k5 => ?_⟩
    rw [asK_int]
    exact st.toNx hbl hlt hone1 ho5 k5 hw1
  · rw [Bool.or_eq_false_iff] at hc
    have h61 := of_decide_eq_false hc.2
    rw [if_neg h61, if_neg (by rw [hc.1]; decide)] at hone
    exact finBad st hbl hlt hone hs X
end
end Go.Proofs.YtgfpcpkpclpdcaaDoor
