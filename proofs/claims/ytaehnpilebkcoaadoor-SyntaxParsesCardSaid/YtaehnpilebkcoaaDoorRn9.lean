/- What is printed is parsed as it was: programs; the tokens of what is printed. -/
import Derived.Test.YtaehnpilebkcoaaDoorRn8
import Derived.Test.YtaehnpilebkcoaaDoorRn7
namespace Go.Proofs.YtaehnpilebkcoaaDoor
open Go Go.Sx Go.Sx.Tk Go.Sx.Rn Go.Proofs.YtaehnpilebkcoaaDoor.Sx

def sgK (s : Sg) : List Key := kW w_stage :: kN s.nm :: kS [40] :: (parK 0 s.ps ++ kS [41] :: blkK s.body)
def pgK (p : List Sg) : List Key := p.flatMap sgK
def pgQ (p : List Sg) : Nat := (p.map fun s => stsQ s.body).sum
mutual
theorem stF_cnt : ∀ (x : St) {m deep n : Int}, stF x m deep = .ok n → n = m + stQ x
  | .mk d at_ a b t nn e body els, m, deep, n, h => by
    unfold stF at h
    split at h
    · cases h
    obtain ⟨m1, h1, h2⟩ := bindE_okk h
    have c1 := stsF_cnt body h1
    have c2 := stsF_cnt els h2
    unfold stQ
    omega
theorem stsF_cnt : ∀ (l : List St) {m deep n : Int}, stsF l m deep = .ok n → n = m + stsQ l
  | [], m, deep, n, h => by
    unfold stsF at h
    cases h
    unfold stsQ
    omega
  | x :: r, m, deep, n, h => by
    rw [stsF_cons] at h
    obtain ⟨m1, h1, h2⟩ := bindE_okk h
    have c1 := stF_cnt x h1
    have c2 := stsF_cnt r h2
    unfold stsQ
    omega
end
theorem sgsF_cnt : ∀ {p : List Sg} {i m n : Int}, m ≤ 300 → sgsF p i m = .ok n → n = m + pgQ p ∧ n ≤ 300
  | [], _, _, _, hm, h => by
    unfold sgsF at h
    cases h
    exact ⟨by simp [pgQ], hm⟩
  | s :: r, i, m, n, hm, h => by
    unfold sgsF at h
    split at h
    · cases h
    obtain ⟨m1, h1, h2⟩ := bindE_okk h
    have hok := stsF_ok s.body m 1 hm
    rw [h1] at hok
    have c1 := stsF_cnt s.body h1
    obtain ⟨c2, c3⟩ := sgsF_cnt hok.2 h2
    refine ⟨?_, c3⟩
    unfold pgQ at c2 ⊢
    rw [List.map_cons, List.sum_cons]
    omega
theorem formP_cnt {p : List Sg} {n : Int} (h : formP p = .ok n) : pgQ p ≤ 300 := by
  unfold formP at h
  split at h
  · cases h
  split at h
  · cases h
  have := sgsF_cnt (by decide) h
  omega
section
variable {e : Int}
theorem stage_K {s : Sg} (ok : SgOk s) {n : Nat} {ts : List Tok} {ks : List Key} (h : ts.map tkey = sgK s ++ ks) (hn : n + stsQ s.body ≤ 300) :
    ∃ s' ts', stageP e n ts = .ok (s', n + stsQ s.body, ts') ∧ sgZ false s' = sgZ false s ∧ ts'.map tkey = ks := by
  have h : ts.map tkey = kW w_stage :: kN s.nm :: kS [40] :: (parK 0 s.ps ++ kS [41] :: (blkK s.body ++ ks)) := by
    rw [h, sgK]
    simp
  obtain ⟨t, r, rfl, ht, hr⟩ := keys_cons h
  obtain ⟨l1, h1, h2⟩ := nameP_K (e := e) hr
  obtain ⟨l2, h3, h4⟩ := wantP_S (e := e) h2
  obtain ⟨l3, h5, h6⟩ := pars_go (e := e) s.ps (acc := []) (f := l2.length + 1) (fun q hq => (ok.ps q hq).2) h4 (by have := ok.pl; simpa using this) (Nat.le_refl _)
  obtain ⟨b, l4, h7, h8, h9⟩ := block_K (e := e) (deep := 0) (sts_go s.body (sws_of s.body ok.body)) (by decide) (f := 3 * l3.length + 3) (n := n) h6 hn (by omega)
  refine ⟨⟨s.nm, t.at_, s.ps, b⟩, l4, ?_, ?_, h9⟩
  · unfold stageP
    show bindP (nameP e r) _ = _
    rw [h1, bindP_ok]
    show bindP (wantP e [40] l1) _ = _
    rw [h3, bindP_ok, h5, bindP_ok]
    show bindP (blockP e (3 * l3.length + 3) 0 n l3) _ = _
    rw [h7]
    rfl
  · exact sgZ_iff.2 ⟨rfl, fun hh => Bool.noConfusion hh, rfl, h8⟩
theorem stages_go : ∀ (p : List Sg) {acc : List Sg} {f n : Nat} {ts : List Tok}, (∀ s ∈ p, SgOk s) → ts.map tkey = pgK p → acc.length + p.length ≤ 10 → acc.length + p.length ≠ 0 → n + pgQ p ≤ 300 → ts.length + 1 ≤ f →
    ∃ p', stagesL e f acc n ts = .ok (acc ++ p') ∧ sgsZ false p' = sgsZ false p
  | [], acc, f, n, ts, _, h, _, h0, _, hf => by
    obtain ⟨f, rfl⟩ : ∃ g, f = g + 1 := ⟨f - 1, by omega⟩
    have hl := keys_len h
    refine ⟨[], ?_, rfl⟩
    unfold stagesL
    rw [if_pos ⟨by rw [hl]; rfl, by simpa using h0⟩, List.append_nil]
  | s :: p, acc, f, n, ts, hok, h, h10, h0, hn, hf => by
    obtain ⟨f, rfl⟩ : ∃ g, f = g + 1 := ⟨f - 1, by omega⟩
    simp only [List.length_cons] at h10
    have h : ts.map tkey = sgK s ++ pgK p := by rw [h]; unfold pgK; rw [List.flatMap_cons]
    have hnn : pgQ (s :: p) = stsQ s.body + pgQ p := by unfold pgQ; rw [List.map_cons, List.sum_cons]
    rw [hnn] at hn
    obtain ⟨s', l1, h1, h2, h3⟩ := stage_K (e := e) (hok s List.mem_cons_self) (n := n) h (by omega)
    have hl := keys_len h
    have hl1 := keys_len h3
    have hpos : 1 ≤ (sgK s).length := by
      unfold sgK
      simp
    rw [List.length_append] at hl
    obtain ⟨p', h4, h5⟩ := stages_go p (acc := acc ++ [s']) (f := f) (n := n + stsQ s.body) (ts := l1) (fun q hq => hok q (List.mem_cons_of_mem _ hq)) h3 (by rw [List.length_append]; simp; omega) (by rw [List.length_append]; simp) (by omega) (by omega)
    refine ⟨s' :: p', ?_, ?_⟩
    · unfold stagesL
      rw [if_neg (fun hh => by omega), isT_K h, show isK [115, 116, 97, 103, 101] (sgK s ++ pgK p) = true from by unfold sgK; rw [List.cons_append, isK_W]; decide, if_pos rfl, if_neg (by omega), h1, bindP_ok]
      show stagesL e f (acc ++ [s']) (n + stsQ s.body) l1 = _
      rw [h4, List.append_assoc]
      rfl
    · unfold sgsZ
      rw [List.map_cons, List.map_cons, h2]
      exact congrArg _ h5
/-- a program's tokens are parsed as the program -/
theorem parse_K {p : List Sg} {n : Int} (hp : formP p = .ok n) {ts : List Tok} (h : ts.map tkey = pgK p) : ∃ p', parseT e ts = .ok p' ∧ sgsZ false p' = sgsZ false p := by
  have ok := pgOk_of hp
  have hc := formP_cnt hp
  obtain ⟨p', h1, h2⟩ := stages_go (e := e) p (acc := []) (f := ts.length + 2) (n := 0) ok.ok h (by simpa using ok.len) (by simpa using ok.ne) (by omega) (by omega)
  exact ⟨p', h1, h2⟩
end
end Go.Proofs.YtaehnpilebkcoaaDoor

namespace Go.Proofs.YtaehnpilebkcoaaDoor
open Go Go.Sx Go.Sx.Tk Go.Sx.Rn Go.Proofs.YtaehnpilebkcoaaDoor.Sx

def SK (l : List UInt8) (ks : List Key) : Prop := ∀ at_ : Int, ∃ ts, Scans 2 3 4 l at_ (.ok ts) ∧ ts.map tkey = ks
/-- no letter and no digit comes -/
def bnd : List UInt8 → Prop
  | [] => True
  | c :: _ => ld c = false
theorem sk_nil : SK [] [] := fun _ => ⟨[], .stop rfl, rfl⟩
theorem sk_blank {c : UInt8} (hc : c.toNat = 10 ∨ c.toNat = 32 ∨ c.toNat = 9) {r : List UInt8} {ks : List Key} (h : SK r ks) : SK (c :: r) ks := by
  intro at_
  obtain ⟨ts, h1, h2⟩ := h (at_ + (1 : Nat))
  refine ⟨ts, Scans.skip (l' := r) (k := 1) ?_ (fun j => by rw [Nat.add_comm, List.drop_succ_cons]) h1, h2⟩
  conv => lhs; unfold blanks
  rcases hc with hc | hc | hc
  · rw [if_pos hc, Nat.add_comm]
  · rw [if_neg (by omega), if_pos (.inr (.inl hc)), Nat.add_comm]
  · rw [if_neg (by omega), if_pos (.inr (.inr (.inl hc))), Nat.add_comm]
theorem sk_sp {r : List UInt8} {ks : List Key} (h : SK r ks) : SK (32 :: r) ks := sk_blank (.inr (.inl rfl)) h
theorem run_bnd : ∀ {w r : List UInt8}, w.all ld = true → bnd r → run (w ++ r) = w.length
  | [], r, _, hb => by
    cases r with
    | nil => rfl
    | cons c r =>
      rw [List.nil_append, run_cons, if_neg (by rw [show ld c = false from hb]; exact Bool.false_ne_true)]
      rfl
  | c :: w, r, h, hb => by
    rw [List.all_cons, Bool.and_eq_true] at h
    rw [List.cons_append, run_cons, if_pos h.1, run_bnd h.2 hb, List.length_cons]
theorem no_blank {c : UInt8} {r : List UInt8} (h : c.toNat ≠ 10 ∧ c.toNat ≠ 32 ∧ c.toNat ≠ 9 ∧ c.toNat ≠ 13 ∧ c.toNat ≠ 35) : blanks false (c :: r) = 0 := by
  obtain ⟨h1, h2, h3, h4, h5⟩ := h
  unfold blanks
  rw [if_neg h1, if_neg (by simp [h2, h3, h4]), if_neg h5]
/-- a token ahead -/
theorem sk_tok {c : UInt8} {w r : List UInt8} {kind n : Int} {ks : List Key} (hb : c.toNat ≠ 10 ∧ c.toNat ≠ 32 ∧ c.toNat ≠ 9 ∧ c.toNat ≠ 13 ∧ c.toNat ≠ 35) (h1 : oneL 2 3 4 (c :: (w ++ r)) = .tok kind (w.length + 1) n) (h : SK r ks) :
    SK (c :: (w ++ r)) ((kind, bs (c :: w), n) :: ks) := by
  intro at_
  have hz := no_blank (r := w ++ r) hb
  obtain ⟨ts, h2, h3⟩ := h (at_ + (0 : Nat) + ((w.length + 1 : Nat) : Int))
  have hd : (c :: (w ++ r)).drop (w.length + 1) = r := by rw [List.drop_succ_cons, List.drop_left]
  have ht : (c :: (w ++ r)).take (w.length + 1) = c :: w := by rw [List.take_succ_cons, List.take_left]
  refine ⟨_, Scans.tok (c := c) (r := w ++ r) (by rw [hz]; rfl) h1 (ts := ts) ?_, ?_⟩
  · rw [hd, hz]
    exact h2
  · rw [List.map_cons, ht, h3]
    rfl
theorem lo_ne {c : UInt8} (h : lo c = true) : c.toNat ≠ 10 ∧ c.toNat ≠ 32 ∧ c.toNat ≠ 9 ∧ c.toNat ≠ 13 ∧ c.toNat ≠ 35 := by
  unfold lo at h
  rw [Bool.and_eq_true] at h
  have h1 := of_decide_eq_true h.1
  omega
theorem dg_ne {c : UInt8} (h : Tk.dg c = true) : c.toNat ≠ 10 ∧ c.toNat ≠ 32 ∧ c.toNat ≠ 9 ∧ c.toNat ≠ 13 ∧ c.toNat ≠ 35 := by
  unfold Tk.dg at h
  rw [Bool.and_eq_true] at h
  have h1 := of_decide_eq_true h.1
  have h2 := of_decide_eq_true h.2
  omega
theorem dg_lo {c : UInt8} (h : Tk.dg c = true) : lo c = false := by
  unfold Tk.dg at h
  rw [Bool.and_eq_true] at h
  have h2 := of_decide_eq_true h.2
  unfold lo
  rw [decide_eq_false (by omega)]
  rfl
theorem dg_ld {l : List UInt8} (h : l.all Tk.dg = true) : l.all ld = true := by
  rw [List.all_eq_true] at h ⊢
  intro c hc
  unfold Tk.ld
  rw [h c hc, Bool.or_true]
theorem oneL_cons (c : UInt8) (r : List UInt8) : oneL 2 3 4 (c :: r) = (if lo c = true then (if isWord ((c :: r).take (run (c :: r))) = true then .tok 1 (run (c :: r)) 0 else if 12 < run (c :: r) then .bad 4 else .tok 2 (run (c :: r)) 0)
    else if Tk.dg c = true then (match numL ((c :: r).take (run (c :: r))) with | none => .bad 3 | some n => .tok 3 (run (c :: r)) n)
    else if c.toNat = 61 then (match r with | d :: _ => if d.toNat = 61 then .tok 4 2 0 else .tok 4 1 0 | [] => .tok 4 1 0)
    else if isSign c = true then .tok 4 1 0 else .bad 2) := rfl
/-- a word of the language -/
theorem sk_w {w r : List UInt8} {ks : List Key} (hw : isWord w = true) (hl : w.all ld = true) (h0 : ∃ c l, w = c :: l ∧ lo c = true) (hb : bnd r) (h : SK r ks) : SK (w ++ r) (kW w :: ks) := by
  have hr := run_bnd hl hb
  obtain ⟨c, l, rfl, hc⟩ := h0
  rw [List.cons_append] at hr ⊢
  refine sk_tok (lo_ne hc) ?_ h
  rw [oneL_cons, if_pos hc, hr]
  have ht : (c :: (l ++ r)).take (c :: l).length = c :: l := by rw [List.length_cons, List.take_succ_cons, List.take_left]
  rw [ht, if_pos hw]
  rfl
/-- a name -/
theorem sk_n {s : ByteArray} (hs : isNameB s = true) {r : List UInt8} {ks : List Key} (hb : bnd r) (h : SK r ks) : SK (bytesOf s ++ r) (kN s :: ks) := by
  unfold isNameB nameHead at hs
  simp only [Bool.and_eq_true, decide_eq_true_eq, Bool.not_eq_true'] at hs
  obtain ⟨⟨h1, h2, h3, h4⟩, h5⟩ := hs
  have hr := run_bnd h5 hb
  have hlen := bytes_len s
  have hsb : bs (bytesOf s) = s := bs_bytes s
  unfold cAt at h3
  generalize bytesOf s = w at *
  cases w with
  | nil => simp at hlen; omega
  | cons c l =>
    have hc : lo c = true := h3
    rw [List.cons_append] at hr ⊢
    have ht : (c :: (l ++ r)).take (c :: l).length = c :: l := by rw [List.length_cons, List.take_succ_cons, List.take_left]
    have := sk_tok (kind := 2) (n := 0) (lo_ne hc) (w := l) (r := r) (by
      rw [oneL_cons, if_pos hc, hr, ht, h4, if_neg Bool.false_ne_true, if_neg (by omega)]
      rfl) h
    rw [hsb] at this
    exact this
/-- a number -/
theorem sk_u {n : Int} (h0 : 0 ≤ n) (h1 : n < 1000000000000000000) {r : List UInt8} {ks : List Key} (hb : bnd r) (h : SK r ks) : SK (Lib.itoa n ++ r) (kU n :: ks) := by
  have ha := itoa_all h0
  have hn := numL_itoa h0 h1
  have hne := itoa_ne h0
  have hr := run_bnd (dg_ld ha) hb
  unfold kU
  generalize Lib.itoa n = w at *
  cases w with
  | nil => exact absurd rfl hne
  | cons c l =>
    rw [List.all_cons, Bool.and_eq_true] at ha
    rw [List.cons_append] at hr ⊢
    have ht : (c :: (l ++ r)).take (c :: l).length = c :: l := by rw [List.length_cons, List.take_succ_cons, List.take_left]
    refine sk_tok (dg_ne ha.1) ?_ h
    rw [oneL_cons, dg_lo ha.1, if_neg Bool.false_ne_true, if_pos ha.1, hr, ht, hn]
    rfl
/-- a sign of one byte -/
theorem sk_s {c : UInt8} (hc : lo c = false ∧ Tk.dg c = false ∧ c.toNat ≠ 61 ∧ isSign c = true ∧ (c.toNat ≠ 10 ∧ c.toNat ≠ 32 ∧ c.toNat ≠ 9 ∧ c.toNat ≠ 13 ∧ c.toNat ≠ 35)) {r : List UInt8} {ks : List Key} (h : SK r ks) : SK (c :: r) (kS [c] :: ks) := by
  obtain ⟨h1, h2, h3, h4, h5⟩ := hc
  refine sk_tok (w := []) h5 ?_ h
  rw [oneL_cons, h1, if_neg Bool.false_ne_true, h2, if_neg Bool.false_ne_true, if_neg h3, if_pos h4]
  rfl
/-! ### expressions -/
end Go.Proofs.YtaehnpilebkcoaaDoor

namespace Go.Proofs.YtaehnpilebkcoaaDoor
open Go Go.Sx Go.Sx.Tk Go.Sx.Rn Go.Proofs.YtaehnpilebkcoaaDoor.Sx

theorem ws : (isWord w_let && isWord w_set && isWord w_emit && isWord w_chan && isWord w_clone && isWord w_send && isWord w_recv && isWord w_close && isWord w_abandon && isWord w_drain && isWord w_spawn && isWord w_take && isWord w_for && isWord w_from && isWord w_repeat && isWord w_if && isWord w_else && isWord w_int && isWord w_stage) = true := by decide
/-- a word, then a blank -/
theorem sk_w32 {w r : List UInt8} {ks : List Key} (hw : (isWord w && w.all ld && (match w with | [] => false | c :: _ => lo c)) = true) (h : SK r ks) : SK (w ++ 32 :: r) (kW w :: ks) := by
  rw [Bool.and_eq_true, Bool.and_eq_true] at hw
  refine sk_w hw.1.1 hw.1.2 ?_ (by show Tk.ld 32 = false; decide) (sk_sp h)
  cases w with
  | nil => cases hw.2
  | cons c l => exact ⟨c, l, rfl, hw.2⟩
/-! ### statements -/
/-! ### places are not printed -/
theorem len_Z (pl : Bool) : ∀ (l : List St), (stsZ pl l).length = l.length
  | [] => rfl
  | x :: r => by
    unfold stsZ
    rw [List.length_cons, List.length_cons, len_Z pl r]
end Go.Proofs.YtaehnpilebkcoaaDoor

namespace Go.Proofs.YtaehnpilebkcoaaDoor
open Go Go.Sx Go.Sx.Tk Go.Sx.Rn Go.Proofs.YtaehnpilebkcoaaDoor.Sx

section
variable {ω : Amb}
end
end Go.Proofs.YtaehnpilebkcoaaDoor
