/- Words: strings.Fields at the one text that is asked for; the beginning. -/
import Derived.Test.YtfpedcmempljlaaDoorV2
namespace Go.Proofs.YtfpedcmempljlaaDoor
open Go Go.Sx Go.Proofs.YtfpedcmempljlaaDoor.Sx

def wordsB : ByteArray := ⟨#[115, 105, 122, 101, 32, 116, 101, 120, 116, 32, 110, 117, 109, 98, 101, 114, 32, 110, 97, 109, 101, 32, 102, 111, 114, 109, 32, 115, 104, 111, 114, 116, 32, 100, 101, 101, 112, 32, 109, 97, 110, 121, 32, 116, 119, 105, 99, 101, 32, 110, 111, 110, 101, 32, 116, 121, 112, 101, 32, 115, 116, 97, 103, 101, 32, 109, 97, 105, 110, 32, 114, 97, 110, 103, 101, 32, 99, 111, 117, 110, 116, 32, 99, 111, 100, 101, 32, 114, 111, 117, 110, 100]⟩
def wb (k : Nat) : Nat := ((bytesOf wordsB).getD k 0).toNat
/-- what strings.asciiSpace holds -/
def tb (b : Nat) : Int := if b = 32 ∨ (9 ≤ b ∧ b ≤ 13) then 1 else 0
def SpTab (h : Hp) : Prop := ∀ b : Nat, b < 256 → cellH h ⟨0, b, none⟩ = some (.int .u8 (tb b))
theorem SpTab.more {h h' : Hp} (t : SpTab h) (k : Keep (fun _ => False) h h') : SpTab h' := fun b hb => k.cell (t b hb) (by simp)

def st1 : Nat → Int × Int × Int
  | 0 => (0, 0, 1)
  | k + 1 => (bitI .u8 .or (st1 k).1 (wb k : Nat), IntKind.wrap .i64 ((st1 k).2.1 + bitI .i64 .and (st1 k).2.2 (bitI .i64 .xor (if IntKind.signed .i64 then -1 else IntKind.max .i64) (IntKind.wrap .i64 (tb (wb k))))), IntKind.wrap .i64 (tb (wb k)))
def naK : Nat → Nat
  | 0 => 0
  | k + 1 => if wb k = 32 then naK k + 1 else naK k
def fsK : Nat → Nat
  | 0 => 0
  | k + 1 => if wb k = 32 then k + 1 else fsK k
def rowK : Nat → List Value
  | 0 => List.replicate 17 (.string ⟨#[]⟩)
  | k + 1 => if wb k = 32 then (rowK k).set (naK k) (.string (wordsB.extract (fsK k) k)) else rowK k
theorem fsK_le : ∀ k, fsK k ≤ k
  | 0 => Nat.le_refl _
  | k + 1 => by
    have := fsK_le k
    unfold fsK
    split <;> omega
theorem rowK_len : ∀ k, (rowK k).length = 17
  | 0 => rfl
  | k + 1 => by
    unfold rowK
    split
    · rw [List.length_set]; exact rowK_len k
    · exact rowK_len k

theorem words_size : wordsB.size = 92 := by decide
theorem st1_end : (st1 92).1 = 127 ∧ (st1 92).2.1 = 17 := by decide +kernel
theorem words_facts : ∀ k, k < 92 → (wb k = 32 → k + 1 < 92 ∧ wb (k + 1) ≠ 32 ∧ naK k < 17) ∧ (wb k = 32 ∨ 97 ≤ wb k) := by decide +kernel
theorem words_end : naK 92 = 16 ∧ fsK 92 = 87 := by decide +kernel
def formB : ByteArray := ⟨#[102, 111, 114, 109]⟩
theorem row4 : ((rowK 92).set 16 (.string (wordsB.extract 87 92)))[4]? = some (.string formB) := by kernel_rfl

section
variable {ω : Amb}
theorem wb_at (k : Nat) : byteAt wordsB (k : Int) = ((wb k : Nat) : Int) := byteAt_nat _ _
theorem wb_lt (k : Nat) : wb k < 256 := ((bytesOf wordsB).getD k 0).toNat_lt
theorem tb_at {h : Hp} (ht : SpTab h) (k : Nat) {K : Value → Prop} (hk : K (.int .u8 (tb (wb k)))) : 0 ≤ ((wb k : Nat) : Int) ∧ ((wb k : Nat) : Int) < ((256 : Nat) : Int) ∧ ∃ v, cellH h (Addr.add ⟨0, 0, none⟩ (Int.toNat ((wb k : Nat) : Int) * 1)) = some v ∧ K v := by
  have := wb_lt k
  refine ⟨by omega, by omega, _, ?_, hk⟩
  rw [addr_add, Int.toNat_natCast, Nat.mul_one, Nat.zero_add]
  exact ht _ this
theorem tb_sp {k : Nat} (hk : k < 92) : tb (wb k) = if wb k = 32 then 1 else 0 := by
  rcases (words_facts k hk).2 with h | h
  · rw [h]; rfl
  · unfold tb
    rw [if_neg (by omega), if_neg (by omega)]
set_option maxRecDepth 100000 in
set_option maxHeartbeats 1000000 in
theorem Fields_law (h : Hp) (ht : SpTab h) (X : List PanicEntry → Hp → Prop) :
    CallX Tryd.prog ω n_strings_Fields [.string wordsB] h (fun r h' => Keep (fun _ => False) h h' ∧ OwnH h' h.size 9 1 r 17 ((rowK 92).set 16 (.string (wordsB.extract 87 92)))) X := by
  refine C_strings_Fields ω _ h _ X ?_
  unfold W_strings_Fields
  refine ⟨fun sb n ws i h' => h' = h ∧ ∃ k : Nat, k ≤ 92 ∧ sb = .int .u8 (st1 k).1 ∧ n = .int .i64 (st1 k).2.1 ∧ ws = .int .i64 (st1 k).2.2 ∧ i = .int .i64 k, fun _ _ _ i _ => match i with | .int _ k => 92 - k.toNat | _ => 0, ⟨rfl, 0, Nat.zero_le _, rfl, rfl, rfl, rfl⟩, ?_⟩
  rintro _ _ _ _ _ h1 ⟨hh, k, hk, rfl, rfl, rfl, rfl⟩
  rw [hh]
  rw [asS_str, asK_int, words_size]
  refine cond_c (fun hlt => ?_) (fun hge => ?_)
  · have hlt : k < 92 := by have := of_decide_eq_true hlt; omega
    rw [asS_str, asI_int, words_size]
    refine ⟨by omega, by omega, ?_⟩
    rw [asK_int, wb_at]
    refine tb_at ht k ?_
    rw [asI_int, asK_int, asK_int, asK_int, i64_in (n := (k : Int) + 1) (by omega) (by omega)]
    exact ⟨⟨rfl, k + 1, by omega, rfl, rfl, rfl, by simp⟩, by simp; omega⟩
  have hke : k = 92 := by have := of_decide_eq_false hge; omega
  subst hke
  rw [asK_int, st1_end.1, st1_end.2]
  refine cond_f rfl ?_
  refine makeK_of (show appFacts Tryd.prog 50 = some (9, 1, 16) by kernel_rfl) (z := [.string ⟨#[]⟩]) (show zeroOf Tryd.prog 9 = some [.string ⟨#[]⟩] by kernel_rfl) (by omega) (by omega) (by omega) ?_
  have e17 : Int.toNat 17 = 17 := rfl
  rw [e17, zeroRow_one]
  have hrow0 : (Array.replicate 17 (Value.string ⟨#[]⟩)) = (rowK 0).toArray := rfl
  rw [hrow0]
  have kp : Keep (fun _ => False) h (h.push (.cells (rowK 0).toArray 9 (0, 0))) := Keep.push _ _
  have ho0 : OwnH (h.push (.cells (rowK 0).toArray 9 (0, 0))) h.size 9 1 (.slice (some ⟨h.size, 0, none⟩) 17 17) 17 (rowK 0) := ownBlk hp_push_new (rowK_len 0) (by decide) (Nat.le_refl _)
  generalize h.push (.cells (rowK 0).toArray 9 (0, 0)) = h2 at *
  refine ⟨fun i h' => i = .int .i64 0 ∧ h' = h2, fun _ _ => 0, ⟨rfl, rfl⟩, ?_⟩
  rintro _ _ h3 ⟨rfl, hh⟩
  rw [hh]
  refine ⟨false, ?_, fun _ => cond_f rfl ?_⟩
  · rw [asS_str, asK_int, words_size]
    refine cond_t rfl ?_
    rw [asS_str, asI_int, words_size]
    refine ⟨by omega, by omega, ?_⟩
    have := wb_at 0
    rw [show ((0 : Nat) : Int) = 0 from rfl] at this
    rw [this]
    refine tb_at (ht.more kp) 0 ?_
    rw [asK_int]
    exact ⟨by rw [tb_sp (by omega)]; rfl, rfl⟩
  have own0 : ∀ {h' : Hp} {row : List Value}, OwnH h' h.size 9 1 (.slice (some ⟨h.size, 0, none⟩) 17 17) 17 row → ∀ {h'' : Hp}, Keep (fun k => (Value.slice (some ⟨h.size, 0, none⟩) 17 17).ownBlock = some k) h' h'' → Keep (fun _ => False) h h' → Keep (fun _ => False) h h'' := fun ho _ kk k0 =>
    k0.newer (kk.mono fun q _ hq => .inr (ho.lt q hq).1)
  refine ⟨fun i na fs h' => ∃ k : Nat, k ≤ 92 ∧ i = .int .i64 k ∧ na = .int .i64 (naK k : Nat) ∧ fs = .int .i64 (fsK k : Nat) ∧ OwnH h' h.size 9 1 (.slice (some ⟨h.size, 0, none⟩) 17 17) 17 (rowK k) ∧ Keep (fun _ => False) h h',
    fun i _ _ _ => match i with | .int _ k => 92 - k.toNat | _ => 0, ⟨0, Nat.zero_le _, rfl, rfl, rfl, ho0, kp⟩, ?_⟩
  rintro _ _ _ _ h4 ⟨k, hk, rfl, rfl, rfl, ho4, k4⟩
  rw [asS_str, asK_int, words_size]
  refine cond_c (fun hlt => ?_) (fun hge => ?_)
  · have hlt : k < 92 := by have := of_decide_eq_true hlt; omega
    obtain ⟨f1, f2⟩ := words_facts k hlt
    refine ⟨fun i na fs h' => i = .int .i64 (k + 1 : Nat) ∧ na = .int .i64 (naK (k + 1) : Nat) ∧ fs = .int .i64 (fsK (k + 1) : Nat) ∧ OwnH h' h.size 9 1 (.slice (some ⟨h.size, 0, none⟩) 17 17) 17 (rowK (k + 1)) ∧ Keep (fun _ => False) h h', ?_, ?_⟩
    · rw [asS_str, asI_int, words_size]
      refine ⟨by omega, by omega, ?_⟩
      rw [wb_at]
      refine tb_at (ht.more k4) k ?_
      rw [asK_int, tb_sp hlt]
      simp only [naK, fsK, rowK]
      by_cases hsp : wb k = 32
      · obtain ⟨g1, g2, g3⟩ := f1 hsp
        have hfl := fsK_le k
        simp only [if_pos hsp]
        refine cond_f rfl ?_
        rw [asS_str, asI_int, asI_int, words_size]
        refine ⟨by omega, by omega, by omega, ?_⟩
        simp only [Int.toNat_natCast]
        refine ownStore1 ho4 g3 fun h5 ho5 k5 => ?_
        have k5' := own0 ho4 k5 k4
        rw [asK_int, asK_int, i64_in (n := (k : Int) + 1) (by omega) (by omega)]
        refine ⟨fun t h' => t = .int .i64 (k + 1 : Nat) ∧ h' = h5, fun _ _ => 0, ⟨by simp, rfl⟩, ?_⟩
        rintro _ _ h6 ⟨rfl, hh⟩
        rw [hh]
        refine ⟨false, ?_, fun _ => cond_f rfl ?_⟩
        · rw [asS_str, asK_int, words_size]
          refine cond_t (by simp; omega) ?_
          rw [asS_str, asI_int, words_size]
          refine ⟨by omega, by omega, ?_⟩
          rw [wb_at]
          refine tb_at (ht.more k5') (k + 1) ?_
          rw [asK_int]
          refine ⟨?_, trivial⟩
          rw [tb_sp g1, if_neg g2]
          rfl
        · refine ⟨rfl, ?_, rfl, ho5, k5'⟩
          rw [i64_in (by omega) (by omega)]
          simp
      · simp only [if_neg hsp]
        refine cond_t rfl ?_
        rw [asK_int, i64_in (by omega) (by omega)]
        exact ⟨by simp, trivial, trivial, ho4, k4⟩
    · rintro _ _ _ _ h5 ⟨rfl, rfl, rfl, ho5, k5⟩
      exact ⟨⟨k + 1, by omega, rfl, rfl, rfl, ho5, k5⟩, by simp; omega⟩
  · have hke : k = 92 := by have := of_decide_eq_false hge; omega
    subst hke
    rw [words_end.1, words_end.2] at *
    rw [asS_str, asK_int, words_size]
    refine ⟨fun h' => Keep (fun _ => False) h h' ∧ OwnH h' h.size 9 1 (.slice (some ⟨h.size, 0, none⟩) 17 17) 17 ((rowK 92).set 16 (.string (wordsB.extract 87 92))), ?_, fun _ _ hj => hj⟩
    refine cond_t rfl ?_
    rw [asS_str, asI_int, words_size]
    refine ⟨by omega, by omega, by omega, ?_⟩
    exact ownStore1 ho4 (i := 16) (by omega) fun h5 ho5 k5 => ⟨own0 ho4 k5 k4, ho5⟩

theorem Word_law (h : Hp) (ht : SpTab h) (X : List PanicEntry → Hp → Prop) :
    CallX Tryd.prog ω n_text_Word [.int .i64 5] h (fun r h' => r = .string formB ∧ Keep (fun _ => False) h h') X := by
  refine C_text_Word ω _ h _ X ?_
  unfold W_text_Word
  refine CallX.use (Fields_law h ht) fun r h1 ⟨k1, ho⟩ => ?_
  refine ⟨false, ?_, fun _ => cond_f rfl ?_⟩
  · rw [asK_int]
    refine cond_f rfl ?_
    refine ho.slAt.sl fun _ _ => ?_
    rw [asK_int]
    exact ⟨rfl, rfl⟩
  · rw [asK_int]
    have hw : IntKind.wrap .i64 ((5 : Int) - 1) = ((4 : Nat) : Int) := by decide
    rw [hw]
    refine ho.slAt.rd1 row4 ⟨rfl, k1⟩

theorem Begun_law (h : Hp) (ht : SpTab h) (X : List PanicEntry → Hp → Prop) :
    CallX Tryd.prog ω n_pipewrightlaw_textBegun [] h (fun r h' => r = .bool true ∧ Keep (fun _ => False) h h') X := by
  refine C_pipewrightlaw_textBegun ω h _ X ?_
  unfold W_pipewrightlaw_textBegun
  refine CallX.use (Place_law _ 4 h) ?_
  rintro _ h1 ⟨k1, line, col, code, fat, rfl, hp⟩
  obtain ⟨e1, e2, e3, e4⟩ := hp.good (by decide) 4 rfl (by decide)
  have e1 : line = 2 := e1.trans (by decide)
  have e2 : col = 2 := e2.trans (by decide)
  subst e1 e2 e3 e4
  simp only [asT_tup]
  simp only [show ∀ a b c : Value, (#[a, b, c] : Array Value)[0]? = some a from fun _ _ _ => rfl, show ∀ a b c : Value, (#[a, b, c] : Array Value)[1]? = some b from fun _ _ _ => rfl, show ∀ a b c : Value, (#[a, b, c] : Array Value)[2]? = some c from fun _ _ _ => rfl, asO_some, asA_agg]
  refine ⟨rfl, flt_one 0 0, storeK_local rfl ?_⟩
  have k2 := k1.trans (Keep.push h1 (.cells (flt 0 0).toArray 26 (0, 0)))
  refine ⟨fun r h' => r = .bool true ∧ Keep (fun _ => False) h h', ?_, fun _ _ _ hj => hj⟩
  rw [asK_int]
  refine cond_t rfl ?_
  rw [asK_int]
  refine cond_t rfl ?_
  refine lx hp_push_new rfl ?_
  rw [asK_int]
  refine cond_t rfl ?_
  refine CallX.use (Word_law _ (ht.more k2)) ?_
  rintro _ h3 ⟨rfl, k3⟩
  rw [asS_str]
  exact ⟨by simp [formB], k2.trans k3⟩
end
end Go.Proofs.YtfpedcmempljlaaDoor
