/- What is printed is parsed as it was: programs; the tokens of what is printed. -/
import Derived.Test.YtkeeboomikkojaaGreatDoorRn8
namespace Go.Proofs.YtkeeboomikkojaaGreatDoor
open Go Go.Sx Go.Sx.Tk Go.Sx.Rn Go.Proofs.YtkeeboomikkojaaGreatDoor.Sx

def sgK (s : Sg) : List Key := kW w_stage :: kN s.nm :: kS [40] :: (parK 0 s.ps ++ kS [41] :: blkK s.body)
def pgK (p : List Sg) : List Key := p.flatMap sgK
def pgQ (p : List Sg) : Nat := (p.map fun s => stsQ s.body).sum
mutual
theorem stF_cnt : ∀ (x : St) {m deep n : Int}, stF x m deep = .ok n → n = m + stQ x
  | .mk d at_ a b t nn e body els, m, deep, n, h => by
    unfold stF at h
    split at h
    · cases h
    obtain ⟨m1, h1, h2⟩ := bindE_okk h
    have c1 := stsF_cnt body h1
    have c2 := stsF_cnt els h2
    unfold stQ
    omega
theorem stsF_cnt : ∀ (l : List St) {m deep n : Int}, stsF l m deep = .ok n → n = m + stsQ l
  | [], m, deep, n, h => by
    unfold stsF at h
    cases h
    unfold stsQ
    omega
  | x :: r, m, deep, n, h => by
    rw [stsF_cons] at h
    obtain ⟨m1, h1, h2⟩ := bindE_okk h
    have c1 := stF_cnt x h1
    have c2 := stsF_cnt r h2
    unfold stsQ
    omega
end
theorem sgsF_cnt : ∀ {p : List Sg} {i m n : Int}, m ≤ 300 → sgsF p i m = .ok n → n = m + pgQ p ∧ n ≤ 300
  | [], _, _, _, hm, h => by
    unfold sgsF at h
    cases h
    exact ⟨by simp [pgQ], hm⟩
  | s :: r, i, m, n, hm, h => by
    unfold sgsF at h
    split at h
    · cases h
    obtain ⟨m1, h1, h2⟩ := bindE_okk h
    have hok := stsF_ok s.body m 1 hm
    rw [h1] at hok
    have c1 := stsF_cnt s.body h1
    obtain ⟨c2, c3⟩ := sgsF_cnt hok.2 h2
    refine ⟨?_, c3⟩
    unfold pgQ at c2 ⊢
    rw [List.map_cons, List.sum_cons]
    omega
theorem formP_cnt {p : List Sg} {n : Int} (h : formP p = .ok n) : pgQ p ≤ 300 := by
  unfold formP at h
  split at h
  · cases h
  split at h
  · cases h
  have := sgsF_cnt (by decide) h
  omega
section
variable {e : Int}
theorem stage_K {s : Sg} (ok : SgOk s) {n : Nat} {ts : List Tok} {ks : List Key} (h : ts.map tkey = sgK s ++ ks) (hn : n + stsQ s.body ≤ 300) :
    ∃ s' ts', stageP e n ts = .ok (s', n + stsQ s.body, ts') ∧ sgZ false s' = sgZ false s ∧ ts'.map tkey = ks := by
  have h : ts.map tkey = kW w_stage :: kN s.nm :: kS [40] :: (parK 0 s.ps ++ kS [41] :: (blkK s.body ++ ks)) := by
    rw [h, sgK]
    simp
  obtain ⟨t, r, rfl, ht, hr⟩ := keys_cons h
  obtain ⟨l1, h1, h2⟩ := nameP_K (e := e) hr
  obtain ⟨l2, h3, h4⟩ := wantP_S (e := e) h2
  obtain ⟨l3, h5, h6⟩ := pars_go (e := e) s.ps (acc := []) (f := l2.length + 1) (fun q hq => (ok.ps q hq).2) h4 (by have := ok.pl; simpa using this) (Nat.le_refl _)
  obtain ⟨b, l4, h7, h8, h9⟩ := block_K (e := e) (deep := 0) (sts_go s.body (sws_of s.body ok.body)) (by decide) (f := 3 * l3.length + 3) (n := n) h6 hn (by omega)
  refine ⟨⟨s.nm, t.at_, s.ps, b⟩, l4, ?_, ?_, h9⟩
  · unfold stageP
    show bindP (nameP e r) _ = _
    rw [h1, bindP_ok]
    show bindP (wantP e [40] l1) _ = _
    rw [h3, bindP_ok, h5, bindP_ok]
    show bindP (blockP e (3 * l3.length + 3) 0 n l3) _ = _
    rw [h7]
    rfl
  · exact sgZ_iff.2 ⟨rfl, fun hh => Bool.noConfusion hh, rfl, h8⟩
theorem stages_go : ∀ (p : List Sg) {acc : List Sg} {f n : Nat} {ts : List Tok}, (∀ s ∈ p, SgOk s) → ts.map tkey = pgK p → acc.length + p.length ≤ 10 → acc.length + p.length ≠ 0 → n + pgQ p ≤ 300 → ts.length + 1 ≤ f →
    ∃ p', stagesL e f acc n ts = .ok (acc ++ p') ∧ sgsZ false p' = sgsZ false p
  | [], acc, f, n, ts, _, h, _, h0, _, hf => by
    obtain ⟨f, rfl⟩ : ∃ g, f = g + 1 := ⟨f - 1, by omega⟩
    have hl := keys_len h
    refine ⟨[], ?_, rfl⟩
    unfold stagesL
    rw [if_pos ⟨by rw [hl]; rfl, by simpa using h0⟩, List.append_nil]
  | s :: p, acc, f, n, ts, hok, h, h10, h0, hn, hf => by
    obtain ⟨f, rfl⟩ : ∃ g, f = g + 1 := ⟨f - 1, by omega⟩
    simp only [List.length_cons] at h10
    have h : ts.map tkey = sgK s ++ pgK p := by rw [h]; unfold pgK; rw [List.flatMap_cons]
    have hnn : pgQ (s :: p) = stsQ s.body + pgQ p := by unfold pgQ; rw [List.map_cons, List.sum_cons]
    rw [hnn] at hn
    obtain ⟨s', l1, h1, h2, h3⟩ := stage_K (e := e) (hok s List.mem_cons_self) (n := n) h (by omega)
    have hl := keys_len h
    have hl1 := keys_len h3
    have hpos : 1 ≤ (sgK s).length := by
      unfold sgK
      simp
    rw [List.length_append] at hl
    obtain ⟨p', h4, h5⟩ := stages_go p (acc := acc ++ [s']) (f := f) (n := n + stsQ s.body) (ts := l1) (fun q hq => hok q (List.mem_cons_of_mem _ hq)) h3 (by rw [List.length_append]; simp; omega) (by rw [List.length_append]; simp) (by omega) (by omega)
    refine ⟨s' :: p', ?_, ?_⟩
    · unfold stagesL
      rw [if_neg (fun hh => by omega), isT_K h, show isK [115, 116, 97, 103, 101] (sgK s ++ pgK p) = true from by unfold sgK; rw [List.cons_append, isK_W]; decide, if_pos rfl, if_neg (by omega), h1, bindP_ok]
      show stagesL e f (acc ++ [s']) (n + stsQ s.body) l1 = _
      rw [h4, List.append_assoc]
      rfl
    · unfold sgsZ
      rw [List.map_cons, List.map_cons, h2]
      exact congrArg _ h5
/-- a program's tokens are parsed as the program -/
theorem parse_K {p : List Sg} {n : Int} (hp : formP p = .ok n) {ts : List Tok} (h : ts.map tkey = pgK p) : ∃ p', parseT e ts = .ok p' ∧ sgsZ false p' = sgsZ false p := by
  have ok := pgOk_of hp
  have hc := formP_cnt hp
  obtain ⟨p', h1, h2⟩ := stages_go (e := e) p (acc := []) (f := ts.length + 2) (n := 0) ok.ok h (by simpa using ok.len) (by simpa using ok.ne) (by omega) (by omega)
  exact ⟨p', h1, h2⟩
end
end Go.Proofs.YtkeeboomikkojaaGreatDoor

namespace Go.Proofs.YtkeeboomikkojaaGreatDoor
open Go Go.Sx Go.Sx.Tk Go.Sx.Rn Go.Proofs.YtkeeboomikkojaaGreatDoor.Sx

def SK (l : List UInt8) (ks : List Key) : Prop := ∀ at_ : Int, ∃ ts, Scans 2 3 4 l at_ (.ok ts) ∧ ts.map tkey = ks
/-- no letter and no digit comes -/
def bnd : List UInt8 → Prop
  | [] => True
  | c :: _ => ld c = false
theorem sk_nil : SK [] [] := fun _ => ⟨[], .stop rfl, rfl⟩
theorem sk_blank {c : UInt8} (hc : c.toNat = 10 ∨ c.toNat = 32 ∨ c.toNat = 9) {r : List UInt8} {ks : List Key} (h : SK r ks) : SK (c :: r) ks := by
  intro at_
  obtain ⟨ts, h1, h2⟩ := h (at_ + (1 : Nat))
  refine ⟨ts, Scans.skip (l' := r) (k := 1) ?_ (fun j => by rw [Nat.add_comm, List.drop_succ_cons]) h1, h2⟩
  conv => lhs; unfold blanks
  rcases hc with hc | hc | hc
  · rw [if_pos hc, Nat.add_comm]
  · rw [if_neg (by omega), if_pos (.inr (.inl hc)), Nat.add_comm]
  · rw [if_neg (by omega), if_pos (.inr (.inr (.inl hc))), Nat.add_comm]
theorem sk_sp {r : List UInt8} {ks : List Key} (h : SK r ks) : SK (32 :: r) ks := sk_blank (.inr (.inl rfl)) h
theorem sk_nl {r : List UInt8} {ks : List Key} (h : SK r ks) : SK (10 :: r) ks := sk_blank (.inl rfl) h
theorem sk_tab {r : List UInt8} {ks : List Key} (h : SK r ks) : ∀ k, SK (tabL k ++ r) ks
  | 0 => h
  | k + 1 => by
    have := sk_tab h k
    unfold tabL at this ⊢
    rw [List.replicate_succ, List.cons_append]
    exact sk_blank (.inr (.inr rfl)) this
theorem run_bnd : ∀ {w r : List UInt8}, w.all ld = true → bnd r → run (w ++ r) = w.length
  | [], r, _, hb => by
    cases r with
    | nil => rfl
    | cons c r =>
      rw [List.nil_append, run_cons, if_neg (by rw [show ld c = false from hb]; exact Bool.false_ne_true)]
      rfl
  | c :: w, r, h, hb => by
    rw [List.all_cons, Bool.and_eq_true] at h
    rw [List.cons_append, run_cons, if_pos h.1, run_bnd h.2 hb, List.length_cons]
theorem no_blank {c : UInt8} {r : List UInt8} (h : c.toNat ≠ 10 ∧ c.toNat ≠ 32 ∧ c.toNat ≠ 9 ∧ c.toNat ≠ 13 ∧ c.toNat ≠ 35) : blanks false (c :: r) = 0 := by
  obtain ⟨h1, h2, h3, h4, h5⟩ := h
  unfold blanks
  rw [if_neg h1, if_neg (by simp [h2, h3, h4]), if_neg h5]
/-- a token ahead -/
theorem sk_tok {c : UInt8} {w r : List UInt8} {kind n : Int} {ks : List Key} (hb : c.toNat ≠ 10 ∧ c.toNat ≠ 32 ∧ c.toNat ≠ 9 ∧ c.toNat ≠ 13 ∧ c.toNat ≠ 35) (h1 : oneL 2 3 4 (c :: (w ++ r)) = .tok kind (w.length + 1) n) (h : SK r ks) :
    SK (c :: (w ++ r)) ((kind, bs (c :: w), n) :: ks) := by
  intro at_
  have hz := no_blank (r := w ++ r) hb
  obtain ⟨ts, h2, h3⟩ := h (at_ + (0 : Nat) + ((w.length + 1 : Nat) : Int))
  have hd : (c :: (w ++ r)).drop (w.length + 1) = r := by rw [List.drop_succ_cons, List.drop_left]
  have ht : (c :: (w ++ r)).take (w.length + 1) = c :: w := by rw [List.take_succ_cons, List.take_left]
  refine ⟨_, Scans.tok (c := c) (r := w ++ r) (by rw [hz]; rfl) h1 (ts := ts) ?_, ?_⟩
  · rw [hd, hz]
    exact h2
  · rw [List.map_cons, ht, h3]
    rfl
theorem lo_ne {c : UInt8} (h : lo c = true) : c.toNat ≠ 10 ∧ c.toNat ≠ 32 ∧ c.toNat ≠ 9 ∧ c.toNat ≠ 13 ∧ c.toNat ≠ 35 := by
  unfold lo at h
  rw [Bool.and_eq_true] at h
  have h1 := of_decide_eq_true h.1
  omega
theorem dg_ne {c : UInt8} (h : Tk.dg c = true) : c.toNat ≠ 10 ∧ c.toNat ≠ 32 ∧ c.toNat ≠ 9 ∧ c.toNat ≠ 13 ∧ c.toNat ≠ 35 := by
  unfold Tk.dg at h
  rw [Bool.and_eq_true] at h
  have h1 := of_decide_eq_true h.1
  have h2 := of_decide_eq_true h.2
  omega
theorem dg_lo {c : UInt8} (h : Tk.dg c = true) : lo c = false := by
  unfold Tk.dg at h
  rw [Bool.and_eq_true] at h
  have h2 := of_decide_eq_true h.2
  unfold lo
  rw [decide_eq_false (by omega)]
  rfl
theorem dg_ld {l : List UInt8} (h : l.all Tk.dg = true) : l.all ld = true := by
  rw [List.all_eq_true] at h ⊢
  intro c hc
  unfold Tk.ld
  rw [h c hc, Bool.or_true]
theorem oneL_cons (c : UInt8) (r : List UInt8) : oneL 2 3 4 (c :: r) = (if lo c = true then (if isWord ((c :: r).take (run (c :: r))) = true then .tok 1 (run (c :: r)) 0 else if 12 < run (c :: r) then .bad 4 else .tok 2 (run (c :: r)) 0)
    else if Tk.dg c = true then (match numL ((c :: r).take (run (c :: r))) with | none => .bad 3 | some n => .tok 3 (run (c :: r)) n)
    else if c.toNat = 61 then (match r with | d :: _ => if d.toNat = 61 then .tok 4 2 0 else .tok 4 1 0 | [] => .tok 4 1 0)
    else if isSign c = true then .tok 4 1 0 else .bad 2) := rfl
/-- a word of the language -/
theorem sk_w {w r : List UInt8} {ks : List Key} (hw : isWord w = true) (hl : w.all ld = true) (h0 : ∃ c l, w = c :: l ∧ lo c = true) (hb : bnd r) (h : SK r ks) : SK (w ++ r) (kW w :: ks) := by
  have hr := run_bnd hl hb
  obtain ⟨c, l, rfl, hc⟩ := h0
  rw [List.cons_append] at hr ⊢
  refine sk_tok (lo_ne hc) ?_ h
  rw [oneL_cons, if_pos hc, hr]
  have ht : (c :: (l ++ r)).take (c :: l).length = c :: l := by rw [List.length_cons, List.take_succ_cons, List.take_left]
  rw [ht, if_pos hw]
  rfl
/-- a name -/
theorem sk_n {s : ByteArray} (hs : isNameB s = true) {r : List UInt8} {ks : List Key} (hb : bnd r) (h : SK r ks) : SK (bytesOf s ++ r) (kN s :: ks) := by
  unfold isNameB nameHead at hs
  simp only [Bool.and_eq_true, decide_eq_true_eq, Bool.not_eq_true'] at hs
  obtain ⟨⟨h1, h2, h3, h4⟩, h5⟩ := hs
  have hr := run_bnd h5 hb
  have hlen := bytes_len s
  have hsb : bs (bytesOf s) = s := bs_bytes s
  unfold cAt at h3
  generalize bytesOf s = w at *
  cases w with
  | nil => simp at hlen; omega
  | cons c l =>
    have hc : lo c = true := h3
    rw [List.cons_append] at hr ⊢
    have ht : (c :: (l ++ r)).take (c :: l).length = c :: l := by rw [List.length_cons, List.take_succ_cons, List.take_left]
    have := sk_tok (kind := 2) (n := 0) (lo_ne hc) (w := l) (r := r) (by
      rw [oneL_cons, if_pos hc, hr, ht, h4, if_neg Bool.false_ne_true, if_neg (by omega)]
      rfl) h
    rw [hsb] at this
    exact this
/-- a number -/
theorem sk_u {n : Int} (h0 : 0 ≤ n) (h1 : n < 1000000000000000000) {r : List UInt8} {ks : List Key} (hb : bnd r) (h : SK r ks) : SK (Lib.itoa n ++ r) (kU n :: ks) := by
  have ha := itoa_all h0
  have hn := numL_itoa h0 h1
  have hne := itoa_ne h0
  have hr := run_bnd (dg_ld ha) hb
  unfold kU
  generalize Lib.itoa n = w at *
  cases w with
  | nil => exact absurd rfl hne
  | cons c l =>
    rw [List.all_cons, Bool.and_eq_true] at ha
    rw [List.cons_append] at hr ⊢
    have ht : (c :: (l ++ r)).take (c :: l).length = c :: l := by rw [List.length_cons, List.take_succ_cons, List.take_left]
    refine sk_tok (dg_ne ha.1) ?_ h
    rw [oneL_cons, dg_lo ha.1, if_neg Bool.false_ne_true, if_pos ha.1, hr, ht, hn]
    rfl
/-- a sign of one byte -/
theorem sk_s {c : UInt8} (hc : lo c = false ∧ Tk.dg c = false ∧ c.toNat ≠ 61 ∧ isSign c = true ∧ (c.toNat ≠ 10 ∧ c.toNat ≠ 32 ∧ c.toNat ≠ 9 ∧ c.toNat ≠ 13 ∧ c.toNat ≠ 35)) {r : List UInt8} {ks : List Key} (h : SK r ks) : SK (c :: r) (kS [c] :: ks) := by
  obtain ⟨h1, h2, h3, h4, h5⟩ := hc
  refine sk_tok (w := []) h5 ?_ h
  rw [oneL_cons, h1, if_neg Bool.false_ne_true, h2, if_neg Bool.false_ne_true, if_neg h3, if_pos h4]
  rfl
theorem sk_eq {r : List UInt8} {ks : List Key} (h : SK r ks) : SK (61 :: 32 :: r) (kS [61] :: ks) := by
  refine sk_tok (w := []) (by decide) ?_ (sk_sp h)
  rw [oneL_cons, if_neg (by decide), if_neg (by decide), if_pos (by decide)]
  rfl
theorem sk_eqeq {r : List UInt8} {ks : List Key} (h : SK r ks) : SK (61 :: 61 :: r) (kS [61, 61] :: ks) := by
  refine sk_tok (w := [61]) (by decide) ?_ h
  rw [oneL_cons, if_neg (by decide), if_neg (by decide), if_pos (by decide)]
  rfl
/-! ### expressions -/
abbrev SKX (x : Ex) : Prop := ∀ (r : List UInt8) (ks : List Key), bnd r → SK r ks → SK (exT x ++ r) (exK x ++ ks)
theorem sk_brk {a : Ex} (h : SKX a) (m : Int) {r : List UInt8} {ks : List Key} (hb : bnd r) (hr : SK r ks) : SK (brk m (a.op, exT a) ++ r) (brkK m (a.op, exK a) ++ ks) := by
  unfold brk brkK
  split
  · rw [List.cons_append, List.cons_append, List.append_assoc, List.append_assoc]
    exact sk_s (by decide) (h _ _ (by show ld 41 = false; decide) (sk_s (by decide) hr))
  · exact h _ _ hb hr
theorem exT_ng (a : Ex) : exT (exNeg a) = 45 :: brk 4 (a.op, exT a) := rfl
theorem exT_tw {op : Int} (h1 : 4 ≤ op) (a b : Ex) : exT (exTwo op a b) = brk (lmO op) (a.op, exT a) ++ sgn op ++ brk (rk op + 1) (b.op, exT b) := by
  show exB op ⟨#[]⟩ 0 [(a.op, exT a), (b.op, exT b)] = _
  unfold exB
  rw [if_neg (by omega), if_neg (by omega), if_neg (by omega)]
  rfl
theorem sk_sgn {op : Int} (h4 : 4 ≤ op) (h8 : op ≤ 8) {r : List UInt8} {ks : List Key} (hr : SK r ks) : SK (sgn op ++ r) (kS (sgnK op) :: ks) := by
  have h : op = 4 ∨ op = 5 ∨ op = 6 ∨ op = 7 ∨ op = 8 := by omega
  rcases h with rfl | rfl | rfl | rfl | rfl
  · exact sk_sp (sk_s (c := 43) (by decide) (sk_sp hr))
  · exact sk_sp (sk_s (c := 45) (by decide) (sk_sp hr))
  · exact sk_sp (sk_s (c := 42) (by decide) (sk_sp hr))
  · exact sk_sp (sk_s (c := 60) (by decide) (sk_sp hr))
  · exact sk_sp (sk_eqeq (sk_sp hr))
theorem sgn_bnd (op : Int) (r : List UInt8) : bnd (sgn op ++ r) := by
  unfold sgn
  repeat' split
  all_goals (show ld 32 = false; decide)
theorem sk_ex {x : Ex} (hx : Xw x) : SKX x := by
  induction hx with
  | num h0 h1 => intro r ks hb hr; exact sk_u h0 h1 hb hr
  | name h0 => intro r ks hb hr; exact sk_n h0 hb hr
  | neg _ ih =>
    intro r ks hb hr
    rw [exT_ng, exK_neg, List.cons_append, List.cons_append]
    exact sk_s (by decide) (sk_brk ih 4 hb hr)
  | two h4 h8 _ _ iha ihb =>
    intro r ks hb hr
    rw [exT_tw h4, exK_two h4, List.append_assoc, List.append_assoc, List.append_assoc, List.cons_append]
    exact sk_brk iha _ (sgn_bnd _ _) (sk_sgn h4 h8 (sk_brk ihb _ hb hr))
end Go.Proofs.YtkeeboomikkojaaGreatDoor

namespace Go.Proofs.YtkeeboomikkojaaGreatDoor
open Go Go.Sx Go.Sx.Tk Go.Sx.Rn Go.Proofs.YtkeeboomikkojaaGreatDoor.Sx

theorem ws : (isWord w_let && isWord w_set && isWord w_emit && isWord w_chan && isWord w_clone && isWord w_send && isWord w_recv && isWord w_close && isWord w_abandon && isWord w_drain && isWord w_spawn && isWord w_take && isWord w_for && isWord w_from && isWord w_repeat && isWord w_if && isWord w_else && isWord w_int && isWord w_stage) = true := by decide
/-- a word, then a blank -/
theorem sk_w32 {w r : List UInt8} {ks : List Key} (hw : (isWord w && w.all ld && (match w with | [] => false | c :: _ => lo c)) = true) (h : SK r ks) : SK (w ++ 32 :: r) (kW w :: ks) := by
  rw [Bool.and_eq_true, Bool.and_eq_true] at hw
  refine sk_w hw.1.1 hw.1.2 ?_ (by show Tk.ld 32 = false; decide) (sk_sp h)
  cases w with
  | nil => cases hw.2
  | cons c l => exact ⟨c, l, rfl, hw.2⟩
theorem sk_n32 {s : ByteArray} (hs : isNameB s = true) {r : List UInt8} {ks : List Key} (h : SK r ks) : SK (bytesOf s ++ 32 :: r) (kN s :: ks) :=
  sk_n hs (by show Tk.ld 32 = false; decide) (sk_sp h)
def argT : Nat → List Ex → List UInt8
  | _, [] => []
  | n, x :: r => (if n = 0 then [] else [44, 32]) ++ (exT x ++ argT (n + 1) r)
theorem argT_tail : ∀ (l : List Ex) (n : Nat), argT (n + 1) l = Lib.joinTail [44, 32] (l.map exT)
  | [], _ => rfl
  | x :: r, n => by
    unfold argT
    rw [if_neg (by omega), argT_tail r (n + 1)]
    simp [Lib.joinTail]
theorem listT_arg (l : List Ex) : listT l = argT 0 l := by
  unfold listT
  cases l with
  | nil => rfl
  | cons x r =>
    rw [List.map_cons, Lib.join_cons]
    unfold argT
    rw [if_pos rfl, argT_tail r 0, List.nil_append]
theorem bnd_arg {n : Nat} (l : List Ex) {r : List UInt8} (hb : bnd r) : bnd (argT (n + 1) l ++ r) := by
  cases l with
  | nil => exact hb
  | cons x r' =>
    unfold argT
    rw [if_neg (by omega)]
    show Tk.ld 44 = false
    decide
theorem sk_args : ∀ (l : List Ex) (n : Nat) {r : List UInt8} {ks : List Key}, (∀ x ∈ l, XwL x) → bnd r → SK r ks → SK (argT n l ++ r) (argK n l ++ ks)
  | [], _, r, ks, _, _, hr => hr
  | x :: l, n, r, ks, hx, hb, hr => by
    have h1 := sk_args l (n + 1) (fun y hy => hx y (List.mem_cons_of_mem _ hy)) hb hr
    have h2 := sk_ex (hx x List.mem_cons_self).1 _ _ (bnd_arg (n := n) l hb) h1
    unfold argT argK
    rw [List.append_assoc, List.append_assoc, List.append_assoc, List.append_assoc]
    split
    · exact h2
    · exact sk_s (by decide) (sk_sp h2)
theorem sk_kind_go : ∀ (l : List UInt8) {r : List UInt8} {ks : List Key}, (∀ c ∈ l, c = 115 ∨ c = 114) → bnd r → SK r ks → SK (l.flatMap kwd ++ ([105, 110, 116] ++ r)) (l.map wdK ++ (kW w_int :: ks))
  | [], r, ks, _, hb, hr => sk_w (w := [105, 110, 116]) (by decide) (by decide) ⟨_, _, rfl, by decide⟩ hb hr
  | c :: l, r, ks, hc, hb, hr => by
    have h1 := sk_kind_go l (fun d hd => hc d (List.mem_cons_of_mem _ hd)) hb hr
    rw [List.flatMap_cons, List.map_cons, List.append_assoc, List.cons_append]
    rcases hc c List.mem_cons_self with rfl | rfl
    · exact sk_w32 (w := w_send) (by decide) h1
    · exact sk_w32 (w := w_recv) (by decide) h1
theorem sk_kind {s : ByteArray} (hs : isTyB s 3 = true) {r : List UInt8} {ks : List Key} (hb : bnd r) (hr : SK r ks) : SK (kindL s ++ r) (kindK s ++ ks) := by
  obtain ⟨l, h1, h2, h3, h4⟩ := ty_parts hs
  unfold kindL kindK
  rw [← h2, List.append_assoc, List.append_assoc]
  exact sk_kind_go l h4 hb hr
/-! ### statements -/
abbrev SKS (x : St) : Prop := ∀ (k : Nat) (r : List UInt8) (ks : List Key), SK r ks → SK (stT k x ++ r) (stK x ++ ks)
abbrev SKL (l : List St) : Prop := ∀ (k : Nat) (r : List UInt8) (ks : List Key), SK r ks → SK (stsT k l ++ r) (stsK l ++ ks)
theorem sk_blk {l : List St} (h : SKL l) (k : Nat) {r : List UInt8} {ks : List Key} (hr : SK r ks) : SK (blkT k l ++ r) (blkK l ++ ks) := by
  unfold blkT blkK
  simp only [List.append_assoc, List.cons_append, List.nil_append]
  exact sk_sp (sk_s (by decide) (sk_nl (h (k + 1) _ _ (sk_tab (sk_s (by decide) hr) k))))
/-- what stands behind a head with blocks -/
theorem sk_long {body els : List St} (h1 : SKL body) (h2 : SKL els) (k : Nat) {r : List UInt8} {ks : List Key} (hr : SK r ks) :
    SK (blkT k body ++ ((if els.length = 0 then [] else [32, 101, 108, 115, 101] ++ blkT k els) ++ ([10] ++ r))) (blkK body ++ ((if els.length = 0 then [] else kW w_else :: blkK els) ++ ks)) := by
  refine sk_blk h1 k ?_
  split
  · exact sk_nl hr
  · have := sk_blk h2 k (sk_nl hr)
    rw [List.append_assoc, List.cons_append]
    refine sk_sp (sk_w (w := w_else) (by decide) (by decide) ⟨_, _, rfl, by decide⟩ ?_ this)
    unfold blkT
    show Tk.ld 32 = false
    decide
theorem sk_end {r : List UInt8} {ks : List Key} (hr : SK r ks) : SK (59 :: 10 :: r) (kS [59] :: ks) := sk_s (by decide) (sk_nl hr)
theorem bnd_blk (k : Nat) (l : List St) (r : List UInt8) : bnd (blkT k l ++ r) := by
  unfold blkT
  show Tk.ld 32 = false
  decide
mutual
theorem sk_st : ∀ (x : St) {deep : Nat}, Sw deep x → SKS x
  | .mk d at_ a b t n es body els, deep, h => by
    intro k r ks hr
    have hB : (∀ y ∈ body, Sw (deep + 1) y) → SKL body := fun h => sk_sts body h
    have hE : (∀ y ∈ els, Sw (deep + 1) y) → SKL els := fun h => sk_sts els h
    rw [stT_eq, List.append_assoc, List.append_assoc, List.append_assoc]
    refine sk_tab ?_ k
    have hnil : listT [] = [] := rfl
    have hone : ∀ x, listT [x] = exT x := fun x => by rw [listT_arg]; simp [argT]
    cases h with
    | @let_ _ _ _ _ x hd hn hx =>
      have hfin := sk_ex hx.1 _ _ (by show Tk.ld 59 = false; decide) (sk_end hr)
      rcases hd with rfl | rfl
      · have := sk_w32 (w := w_let) (by decide) (sk_n32 hn (sk_eq hfin))
        simpa [stK, headT, headK, argK, St.d, St.a, St.e, St.body, St.els, fmD, formOf, hone, w_let] using this
      · have := sk_w32 (w := w_set) (by decide) (sk_n32 hn (sk_eq hfin))
        simpa [stK, headT, headK, argK, St.d, St.a, St.e, St.body, St.els, fmD, formOf, hone, w_set] using this
    | @emit _ _ x hx =>
      have hfin := sk_ex hx.1 _ _ (by show Tk.ld 59 = false; decide) (sk_end hr)
      have := sk_w32 (w := w_emit) (by decide) hfin
      simpa [stK, headT, headK, argK, St.d, St.a, St.e, St.body, St.els, fmD, formOf, hone, w_emit] using this
    | @chan _ _ _ _ _ _ ha hb hty h0 h1 =>
      have := sk_w32 (w := w_chan) (by decide) (sk_n32 ha (sk_n32 hb (sk_kind hty (by show Tk.ld 32 = false; decide) (sk_sp (sk_u h0 h1 (by show Tk.ld 59 = false; decide) (sk_end hr))))))
      simpa [stK, headT, headK, argK, St.d, St.a, St.b, St.t, St.n, St.e, St.body, St.els, fmD, formOf, hnil, w_chan] using this
    | @clone _ _ _ _ ha hb =>
      have := sk_w32 (w := w_clone) (by decide) (sk_n32 ha (sk_n hb (by show Tk.ld 59 = false; decide) (sk_end hr)))
      simpa [stK, headT, headK, argK, St.d, St.a, St.b, St.e, St.body, St.els, fmD, formOf, hnil, w_clone] using this
    | @send _ _ _ x ha hx =>
      have hfin := sk_ex hx.1 _ _ (by show Tk.ld 59 = false; decide) (sk_end hr)
      have := sk_w32 (w := w_send) (by decide) (sk_n32 ha hfin)
      simpa [stK, headT, headK, argK, St.d, St.a, St.e, St.body, St.els, fmD, formOf, hone, w_send] using this
    | @one _ _ _ _ hd ha =>
      have hfin := sk_n ha (by show Tk.ld 59 = false; decide) (sk_end hr)
      rcases hd with rfl | rfl | rfl
      · have := sk_w32 (w := w_close) (by decide) hfin
        simpa [stK, headT, headK, argK, St.d, St.a, St.e, St.body, St.els, fmD, formOf, hnil, w_close] using this
      · have := sk_w32 (w := w_abandon) (by decide) hfin
        simpa [stK, headT, headK, argK, St.d, St.a, St.e, St.body, St.els, fmD, formOf, hnil, w_abandon] using this
      · have := sk_w32 (w := w_drain) (by decide) hfin
        simpa [stK, headT, headK, argK, St.d, St.a, St.e, St.body, St.els, fmD, formOf, hnil, w_drain] using this
    | @spawn _ _ _ _ ha hl hx =>
      have hfin := sk_args es 0 hx (by show Tk.ld 41 = false; decide) (sk_s (c := 41) (by decide) (sk_end hr))
      have := sk_w32 (w := w_spawn) (by decide) (sk_n ha (by show Tk.ld 40 = false; decide) (sk_s (c := 40) (by decide) hfin))
      simpa [stK, headT, headK, St.d, St.a, St.e, St.body, St.els, fmD, formOf, listT_arg, w_spawn] using this
    | @take _ _ _ _ _ _ ha hb hd hbd hel =>
      have hfin := sk_long (hB hbd) (hE hel) k hr
      have := sk_w32 (w := w_take) (by decide) (sk_n32 ha (sk_w32 (w := w_from) (by decide) (sk_n hb (bnd_blk k body _) hfin)))
      simpa [stK, headT, headK, argK, St.d, St.a, St.b, St.e, St.body, St.els, fmD, formOf, hnil, w_take, w_from, blkK] using this
    | @for_ _ _ _ _ _ ha hb hd hbd =>
      have hfin := sk_long (hB hbd) (hE (fun y hy => absurd hy List.not_mem_nil)) k hr
      have := sk_w32 (w := w_for) (by decide) (sk_n32 ha (sk_w32 (w := w_from) (by decide) (sk_n hb (bnd_blk k body _) hfin)))
      simpa [stK, headT, headK, argK, St.d, St.a, St.b, St.e, St.body, St.els, fmD, formOf, hnil, w_for, w_from, blkK] using this
    | @rep _ _ x _ hx hd hbd =>
      have hfin := sk_long (hB hbd) (hE (fun y hy => absurd hy List.not_mem_nil)) k hr
      have := sk_w32 (w := w_repeat) (by decide) (sk_ex hx.1 _ _ (bnd_blk k body _) hfin)
      simpa [stK, headT, headK, argK, St.d, St.a, St.b, St.e, St.body, St.els, fmD, formOf, hone, w_repeat, blkK] using this
    | @if_ _ _ x _ _ hx hd hbd hel =>
      have hfin := sk_long (hB hbd) (hE hel) k hr
      have := sk_w32 (w := w_if) (by decide) (sk_ex hx.1 _ _ (bnd_blk k body _) hfin)
      simpa [stK, headT, headK, argK, St.d, St.a, St.b, St.e, St.body, St.els, fmD, formOf, hone, w_if, blkK] using this
theorem sk_sts : ∀ (l : List St) {deep : Nat}, (∀ y ∈ l, Sw deep y) → SKL l
  | [], deep, _ => fun _ _ _ hr => hr
  | x :: l, deep, h => by
    intro k r ks hr
    unfold stsT stsK
    rw [List.append_assoc, List.append_assoc]
    exact sk_st x (h x List.mem_cons_self) k _ _ (sk_sts l (fun y hy => h y (List.mem_cons_of_mem _ hy)) k _ _ hr)
end
def parT : Nat → List (ByteArray × ByteArray) → List UInt8
  | _, [] => []
  | n, q :: r => (if n = 0 then [] else [44, 32]) ++ (prT q ++ parT (n + 1) r)
theorem parT_tail : ∀ (l : List (ByteArray × ByteArray)) (n : Nat), parT (n + 1) l = Lib.joinTail [44, 32] (l.map prT)
  | [], _ => rfl
  | x :: r, n => by
    unfold parT
    rw [if_neg (by omega), parT_tail r (n + 1)]
    simp [Lib.joinTail]
theorem prsT_par (l : List (ByteArray × ByteArray)) : prsT l = parT 0 l := by
  unfold prsT
  cases l with
  | nil => rfl
  | cons x r =>
    rw [List.map_cons, Lib.join_cons]
    unfold parT
    rw [if_pos rfl, parT_tail r 0, List.nil_append]
theorem sk_pars : ∀ (l : List (ByteArray × ByteArray)) (n : Nat) {r : List UInt8} {ks : List Key}, (∀ q ∈ l, isNameB q.1 = true ∧ isTyB q.2 3 = true) → bnd r → SK r ks → SK (parT n l ++ r) (parK n l ++ ks)
  | [], _, r, ks, _, _, hr => hr
  | q :: l, n, r, ks, hx, hb, hr => by
    have h1 := sk_pars l (n + 1) (fun y hy => hx y (List.mem_cons_of_mem _ hy)) hb hr
    obtain ⟨hn, ht⟩ := hx q List.mem_cons_self
    have hbb : bnd (parT (n + 1) l ++ r) := by
      cases l with
      | nil => exact hb
      | cons x r' =>
        unfold parT
        rw [if_neg (by omega)]
        show Tk.ld 44 = false
        decide
    have h2 := sk_n32 hn (sk_kind ht hbb h1)
    unfold parT parK prT
    simp only [List.append_assoc, List.cons_append, List.nil_append]
    split
    · exact h2
    · exact sk_s (by decide) (sk_sp h2)
theorem sk_sg {s : Sg} (ok : SgOk s) {r : List UInt8} {ks : List Key} (hr : SK r ks) : SK (sgT s ++ r) (sgK s ++ ks) := by
  have h1 := sk_blk (sk_sts s.body (sws_of s.body ok.body)) 0 (sk_nl hr)
  have h2 := sk_pars s.ps 0 ok.ps (by show Tk.ld 41 = false; decide) (sk_s (c := 41) (by decide) h1)
  have h3 := sk_w32 (w := w_stage) (by decide) (sk_n ok.nm (by show Tk.ld 40 = false; decide) (sk_s (c := 40) (by decide) h2))
  simpa [sgT, sgK, prsT_par, w_stage] using h3
theorem sk_pg : ∀ {p : List Sg}, (∀ s ∈ p, SgOk s) → SK (pgT p) (pgK p)
  | [], _ => sk_nil
  | s :: p, h => by
    unfold pgT pgK
    rw [List.flatMap_cons, List.flatMap_cons]
    exact sk_sg (h s List.mem_cons_self) (sk_pg (fun q hq => h q (List.mem_cons_of_mem _ hq)))
/-- what is printed is parsed as it was -/
theorem print_parse (e : Int) {p : List Sg} {n : Int} (hp : formP p = .ok n) : ∃ ts p', Scans 2 3 4 (pgT p) 0 (.ok ts) ∧ parseT e ts = .ok p' ∧ sgsZ false p' = sgsZ false p := by
  obtain ⟨ts, h1, h2⟩ := sk_pg (pgOk_of hp).ok 0
  obtain ⟨p', h3, h4⟩ := parse_K (e := e) hp h2
  exact ⟨ts, p', h1, h3, h4⟩
/-! ### places are not printed -/
theorem headT_Z (x y : St) (hd : x.d = y.d) (ha : x.a = y.a) (hb : x.b = y.b) (ht : x.t = y.t) (hn : x.n = y.n) : headT x = headT y := by
  unfold headT
  rw [hd, ha, hb, ht, hn]
theorem len_Z (pl : Bool) : ∀ (l : List St), (stsZ pl l).length = l.length
  | [] => rfl
  | x :: r => by
    unfold stsZ
    rw [List.length_cons, List.length_cons, len_Z pl r]
mutual
theorem stT_Z (k : Nat) : ∀ (x : St), stT k (stZ false x) = stT k x
  | .mk d at_ a b t n es body els => by
    have h1 := stsT_Z (k + 1) body
    have h2 := stsT_Z (k + 1) els
    have h3 := len_Z false els
    unfold stZ stT
    rw [h1, h2, h3, headT_Z (.mk d (if false = true then at_ else 0) a b t n es (stsZ false body) (stsZ false els)) (.mk d at_ a b t n es body els) rfl rfl rfl rfl rfl]
theorem stsT_Z (k : Nat) : ∀ (l : List St), stsT k (stsZ false l) = stsT k l
  | [] => rfl
  | x :: r => by
    have h1 := stT_Z k x
    have h2 := stsT_Z k r
    unfold stsZ stsT
    rw [h1, h2]
end
theorem sgT_Z (s : Sg) : sgT (sgZ false s) = sgT s := by
  unfold sgT blkT sgZ
  simp only [stsT_Z]
theorem pgT_Z (p : List Sg) : pgT (sgsZ false p) = pgT p := by
  unfold pgT sgsZ
  rw [List.flatMap_map]
  congr 1
  funext s
  exact sgT_Z s
end Go.Proofs.YtkeeboomikkojaaGreatDoor
