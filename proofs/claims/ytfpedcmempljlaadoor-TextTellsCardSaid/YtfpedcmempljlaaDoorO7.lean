/- Words; numerals; a text that grows. -/
import Derived.Test.YtfpedcmempljlaaDoorO6
import Derived.Test.YtfpedcmempljlaaDoorSLayB
namespace Go.Proofs.YtfpedcmempljlaaDoor
open Go Go.Sx Go.Sx.Or Go.Proofs.YtfpedcmempljlaaDoor.Sx

/-- the words, in order -/
def words17 : List ByteArray := [⟨#[115, 105, 122, 101]⟩, ⟨#[116, 101, 120, 116]⟩, ⟨#[110, 117, 109, 98, 101, 114]⟩, ⟨#[110, 97, 109, 101]⟩, ⟨#[102, 111, 114, 109]⟩, ⟨#[115, 104, 111, 114, 116]⟩, ⟨#[100, 101, 101, 112]⟩, ⟨#[109, 97, 110, 121]⟩, ⟨#[116, 119, 105, 99, 101]⟩, ⟨#[110, 111, 110, 101]⟩, ⟨#[116, 121, 112, 101]⟩, ⟨#[115, 116, 97, 103, 101]⟩, ⟨#[109, 97, 105, 110]⟩, ⟨#[114, 97, 110, 103, 101]⟩, ⟨#[99, 111, 117, 110, 116]⟩, ⟨#[99, 111, 100, 101]⟩, ⟨#[114, 111, 117, 110, 100]⟩]
def nilB : ByteArray := ⟨#[]⟩
def wd (c : Int) : ByteArray := if c < 1 ∨ 17 < c then nilB else words17.getD (c - 1).toNat nilB
theorem rows17 : (rowK 92).set 16 (.string (wordsB.extract 87 92)) = words17.map .string := by kernel_rfl
theorem wd_at {k : Nat} (hk : k < 17) : words17[k]? = some (wd ((k : Int) + 1)) := by
  unfold wd
  rw [if_neg (by omega), show ((k : Int) + 1 - 1).toNat = k by omega, List.getD_eq_getElem?_getD, List.getElem?_eq_getElem (by simpa [words17] using hk)]
  rfl
theorem wd_small (c : Int) : (wd c).size ≤ 10 := by
  unfold wd
  split
  · decide
  · rename_i h
    have hall : ∀ k, k < 17 → (words17.getD k nilB).size ≤ 10 := by decide
    exact hall _ (by omega)

section
variable {ω : Amb}
theorem WordA_law (c : Int) (h : Hp) (ht : SpTab h) (X : List PanicEntry → Hp → Prop) :
    CallX Tryd.prog ω n_text_Word [.int .i64 c] h (fun r h' => r = .string (wd c) ∧ Keep (fun _ => False) h h') X := by
  refine C_text_Word ω _ h _ X ?_
  unfold W_text_Word
  refine CallX.use (Fields_law h ht) fun r h1 ⟨k1, ho⟩ => ?_
  rw [rows17] at ho
  refine ⟨decide (c < 1 ∨ 17 < c), ?_, fun _ => cond_c (fun hc => ?_) (fun hc => ?_)⟩
  · rw [asK_int]
    refine cond_c (fun hc => ?_) (fun hc => ?_)
    · rw [decide_eq_true (show c < 1 ∨ 17 < c from .inl (of_decide_eq_true hc))]
      exact ⟨rfl, rfl⟩
    · have := of_decide_eq_false hc
      refine ho.slAt.sl fun _ _ => ?_
      rw [asK_int]
      refine ⟨?_, rfl⟩
      congr 1
      rw [Bool.eq_iff_iff]
      simp
      omega
  · refine ⟨?_, k1⟩
    unfold wd
    rw [if_pos (of_decide_eq_true hc)]
    rfl
  · have hc := of_decide_eq_false hc
    obtain ⟨k, rfl⟩ : ∃ k : Nat, c = (k : Int) + 1 := ⟨(c - 1).toNat, by omega⟩
    have hk : k < 17 := by omega
    rw [asK_int]
    have hw : IntKind.wrap .i64 ((k : Int) + 1 - 1) = (k : Int) := by rw [i64_in (by omega) (by omega)]; omega
    rw [hw]
    refine ho.slAt.rd1 (i := k) (u := .string (wd ((k : Int) + 1))) ?_ ⟨rfl, k1⟩
    rw [List.getElem?_map, wd_at hk]
    rfl
set_option maxRecDepth 100000 in
theorem RWord_law (c : Int) (h : Hp) (X : List PanicEntry → Hp → Prop) :
    CallX Tryd.prog ω n_pipewrightref_Word [.int .i64 c] h (fun r h' => r = .string (wd c) ∧ Keep (fun _ => False) h h') X := by
  refine C_pipewrightref_Word ω _ h _ X ?_
  unfold W_pipewrightref_Word
  have hb : (Array.push h (.cells (List.toArray (.string nilB :: words17.map .string)) 9 (0, 0)))[h.size]? = some (.cells (List.toArray (.string nilB :: words17.map .string)) 9 (0, 0)) := hp_push_new
  have k1 : Keep (fun _ => False) h (Array.push h (.cells (List.toArray (.string nilB :: words17.map .string)) 9 (0, 0))) := Keep.push h _
  show ∃ β0 : Bool, (asK .i64 (.int .i64 c) fun n2 => cond (decide ((n2 : Int) < 0)) (((.bool true) : Value) = .bool β0 ∧ (Array.push h (.cells (List.toArray (.string nilB :: words17.map .string)) 9 (0, 0))) = (Array.push h (.cells (List.toArray (.string nilB :: words17.map .string)) 9 (0, 0)))) (asK .i64 (.int .i64 c) fun n3 => ((.bool (decide ((n3 : Int) ≥ (18 : Int)))) : Value) = .bool β0 ∧ (Array.push h (.cells (List.toArray (.string nilB :: words17.map .string)) 9 (0, 0))) = (Array.push h (.cells (List.toArray (.string nilB :: words17.map .string)) 9 (0, 0))))) ∧
    ∀ d1 : Nat → Value, cond β0 ((fun (r : Value) (h' : Hp) => r = Value.string (wd c) ∧ Keep (fun _ => False) h h') (Value.string nilB) (Array.push h (.cells (List.toArray (.string nilB :: words17.map .string)) 9 (0, 0))))
      (asI (.int .i64 c) fun n4 => 0 ≤ (n4 : Int) ∧ n4 < (18 : Int) ∧ ∃ v5, cellH (Array.push h (.cells (List.toArray (.string nilB :: words17.map .string)) 9 (0, 0))) (Addr.add ⟨Array.size h, 0, none⟩ (Int.toNat n4 * 1)) = some v5 ∧ (fun (r : Value) (h' : Hp) => r = Value.string (wd c) ∧ Keep (fun _ => False) h h') v5 (Array.push h (.cells (List.toArray (.string nilB :: words17.map .string)) 9 (0, 0))))
  generalize Array.push h (.cells (List.toArray (.string nilB :: words17.map .string)) 9 (0, 0)) = h1 at *
  refine ⟨decide (c < 0 ∨ 18 ≤ c), ?_, fun _ => cond_c (fun hc => ?_) (fun hc => ?_)⟩
  · rw [asK_int]
    refine cond_c (fun hc => ?_) (fun hc => ?_)
    · rw [decide_eq_true (show c < 0 ∨ 18 ≤ c from .inl (of_decide_eq_true hc))]
      exact ⟨rfl, rfl⟩
    · have := of_decide_eq_false hc
      rw [asK_int]
      refine ⟨?_, rfl⟩
      congr 1
      rw [Bool.eq_iff_iff]
      simp
      omega
  · refine ⟨?_, k1⟩
    have := of_decide_eq_true hc
    unfold wd
    rw [if_pos (by omega)]
  · have hc := of_decide_eq_false hc
    obtain ⟨k, rfl⟩ : ∃ k : Nat, c = k := ⟨c.toNat, by omega⟩
    rw [asI_int]
    refine ⟨by omega, by omega, ?_⟩
    rw [Int.toNat_natCast, Nat.mul_one]
    refine lx hb (u := .string (wd (k : Int))) ?_ ⟨rfl, k1⟩
    cases k with
    | zero => rfl
    | succ k =>
      rw [List.getElem?_cons_succ, List.getElem?_map, wd_at (by omega), Int.natCast_succ]
      rfl

/-! ### numerals -/
/-- strconv's table of powers -/
def PwTab (h : Hp) : Prop := ∀ (ω : Amb) (d : Nat), Lib.TabIs Tryd.prog (W ω h d) "internal/strconv.uint64pow10" .u64 Lib.pow10Tab
def itB (n : Int) : ByteArray := ⟨(Lib.itoa n).toArray⟩
theorem grow_keep (h : Hp) (os : Array Obj) : Keep (fun _ => False) h (h ++ os) :=
  ⟨by simp, fun k hk _ => Array.getElem?_append_left hk⟩
theorem Itoa_law (n : Int) (h0 : -9223372036854775808 ≤ n) (h1 : n ≤ 9223372036854775807) (h : Hp) (ht : PwTab h) (X : List PanicEntry → Hp → Prop) :
    CallX Tryd.prog ω 23 [.int .i64 n] h (fun r h' => r = .string (itB n) ∧ Keep (fun _ => False) h h') X := by
  intro d
  have hc := Any.strconv_Itoa lays171 n h0 h1 (W ω h d) (ht ω d)
  have hc' : Calls Tryd.prog 23 #[.int .i64 n] (W ω h d) _ := hc
  refine hc'.mono fun e w' ⟨he, k, os, hw⟩ => ?_
  subst he
  have hw2 : w' = W ω (h ++ os) (d + k) := hw.trans (W_more ω _ d k)
  subst hw2
  exact ⟨⟨d + k, rfl⟩, rfl, grow_keep h os⟩

/-! ### a text that grows -/
/-- at block b stands a text that grows; it holds l -/
def Bld (h : Hp) (B b : Nat) (l : List UInt8) : Prop := ∃ p v, (p = .pointer none ∨ p = .pointer (some ⟨b, 0, none⟩)) ∧ B ≤ b ∧ h[b]? = some (.cells #[p, v] 43 (0, 0)) ∧ (∀ (ω : Amb) (d : Nat), (W ω h d).ownsRowF B 5 1 v l.length (Lib.byteCells l)) ∧ v.ownBlock ≠ some b
theorem Bld.is {h : Hp} {B b : Nat} {l : List UInt8} (hb : Bld h B b l) (ω : Amb) (d : Nat) : Lib.IsBuilderF 43 5 B b (Lib.byteCells l) (W ω h d) := by
  obtain ⟨p, v, hp, h1, h2, h3, h4⟩ := hb
  have : Lib.BuilderAtF 43 5 B b p (Lib.byteCells l) (W ω h d) := ⟨h1, v, h2, by rw [Lib.byteCells_length]; exact h3 ω d, h4⟩
  rcases hp with rfl | rfl
  · exact .inl this
  · exact .inr this
theorem Bld.new {h : Hp} {B b : Nat} (hB : B ≤ b) (hb : h[b]? = some (.cells #[.pointer none, .slice none 0 0] 43 (0, 0))) : Bld h B b [] :=
  ⟨_, _, .inl rfl, hB, hb, fun _ _ => ⟨rfl, .inl ⟨rfl, rfl⟩⟩, by simp [Value.ownBlock]⟩
theorem Bld.more {h h' : Hp} {B b : Nat} {l : List UInt8} (hb : Bld h B b l) (k : Keep (fun _ => False) h h') : Bld h' B b l := by
  obtain ⟨p, v, hp, h1, h2, h3, h4⟩ := hb
  refine ⟨p, v, hp, h1, k.get h2 (by simp), fun ω d => ?_, h4⟩
  obtain ⟨e1, e2⟩ := h3 ω d
  refine ⟨e1, ?_⟩
  rcases e2 with e2 | ⟨g, cap, cur, fz, e3, e4, e5, rest⟩
  · exact .inl e2
  · have e5 : h[g]? = _ := e5
    exact .inr ⟨g, cap, cur, fz, e3, e4, k.get e5 (by simp), rest⟩
theorem extraB (ρ : Go.Shelf.Ren) (h5 : ρ.t 5 = 5) (h72 : ρ.t 72 = 43) : Builder.Extra Tryd.prog ρ where
  sizeBuilder := by rw [h72]; kernel_rfl
  liesBuilder := by rw [h72]; kernel_rfl
  t5 := by rw [h5]; kernel_rfl
  a5 := fun w => by rw [h5]; exact Tryd.isAgg5 w
  z5 := fun w => by rw [h5]; exact Tryd.sizeOf5 w
  v5 := fun w => by rw [h5]; exact Tryd.zeroValue5 w
  infoByte := by rw [h5]; kernel_rfl
  cellsByte := by rw [h5]; kernel_rfl
  sizeByte := by rw [h5]; kernel_rfl
  neB5 := by rw [h5, h72]; decide
theorem low_W {w : World} {h : Hp} {B d : Nat} (hω : ω.low = 0) (hb : RowKit.Below B (W ω h d) w) : w = W ω w.heap w.drawn := by
  obtain ⟨h1, h2, h3, h4, h5⟩ := hb
  cases w
  cases h1
  cases h2
  cases h3
  unfold W
  rw [hω, Nat.zero_add]
theorem low_keep {w : World} {h : Hp} {B d : Nat} (hb : RowKit.Below B (W ω h d) w) : Keep (fun k => B ≤ k) h w.heap :=
  ⟨hb.size, fun k hk hn => hb.block k (by omega)⟩
/-- all but the growing text's own block and rows of bytes -/
def Oth (b : Nat) (h h' : Hp) : Prop := ∀ k o, h[k]? = some o → k ≠ b → (∀ c fz, o ≠ .cells c 5 fz) → h'[k]? = some o
theorem Oth.own {b : Nat} {h h' : Hp} {B : Nat} {l : List UInt8} (hb : Bld h B b l) (ho : Oth b h h') {base n sz : Nat} {t : TypeId} {v : Value} {ys : List Value} (hv : OwnH h base t sz v n ys) (h5 : t ≠ 5) (h43 : t ≠ 43) : OwnH h' base t sz v n ys := by
  refine hv.keep fun k hk hlt => ?_
  have hkb : ∃ c, h[k]? = some (.cells c t (0, 0)) := by
    rcases hv.2 with ⟨rfl, _⟩ | ⟨g, o, cap, cur, rfl, _, hg, _⟩
    · cases hk
    · cases hk
      exact ⟨cur, hg⟩
  obtain ⟨c, hc⟩ := hkb
  rw [hc]
  refine ho k _ hc (fun e => ?_) fun c' fz e => ?_
  · subst e
    obtain ⟨_, _, _, _, h2, _⟩ := hb
    rw [hc] at h2
    cases h2
    exact h43 rfl
  · cases e
    exact h5 rfl
theorem Write_law (hω : ω.low = 0) {h : Hp} {B b : Nat} {l : List UInt8} (hb : Bld h B b l) (s : ByteArray) (hl : l.length + s.size ≤ 1000000) (hB : B ≤ h.size) (X : List PanicEntry → Hp → Prop) :
    CallX Tryd.prog ω 21 [.pointer (some ⟨b, 0, none⟩), .string s] h (fun _ h' => Bld h' B b (l ++ s.data.toList) ∧ Keep (fun k => B ≤ k) h h' ∧ Oth b h h') X := by
  intro d
  have hc := Any.Builder_WriteString_k lays166 (extraB ren166 rfl rfl) B b (Lib.byteCells l) s (W ω h d) (hb.is ω d) (by rw [Lib.byteCells_length]; omega) hB
  have hc' : Calls Tryd.prog 21 #[.pointer (some ⟨b, 0, none⟩), .string s] (W ω h d) _ := hc
  refine hc'.mono fun e w' ⟨he, hA, hbel, hoth⟩ => ?_
  subst he
  have hw := low_W hω hbel
  refine ⟨⟨_, hw⟩, ?_, low_keep hbel, fun k o hk hn h5 => hoth k o hk (fun e => hn (Option.some.inj e)) h5⟩
  obtain ⟨h1, v, h2, h3, h4⟩ := hA
  refine ⟨_, v, .inr rfl, h1, h2, fun ω' d' => ?_, h4⟩
  have e1 : Lib.byteCells l ++ Lib.strCells s = Lib.byteCells (l ++ s.data.toList) := by
    unfold Lib.byteCells Lib.strCells
    rw [List.map_append]
  rw [e1, Lib.byteCells_length] at h3
  exact h3
theorem String_law (hω : ω.low = 0) {h : Hp} {B b : Nat} {l : List UInt8} (hb : Bld h B b l) (hB : B ≤ h.size) (X : List PanicEntry → Hp → Prop) :
    CallX Tryd.prog ω 22 [.pointer (some ⟨b, 0, none⟩)] h (fun r h' => r = .string ⟨l.toArray⟩ ∧ Keep (fun k => B ≤ k) h h' ∧ Oth b h h') X := by
  intro d
  have hc := Any.Builder_String_any_k lays169 (extraB ren169 rfl rfl) B b l (W ω h d) (hb.is ω d) hB
  have hc' : Calls Tryd.prog 22 #[.pointer (some ⟨b, 0, none⟩)] (W ω h d) _ := hc
  refine hc'.mono fun e w' ⟨he, _, hbel, hoth⟩ => ?_
  subst he
  exact ⟨⟨_, low_W hω hbel⟩, rfl, low_keep hbel, fun k o hk hn h5 => hoth k o hk (fun e => hn (Option.some.inj e)) h5⟩
end
end Go.Proofs.YtfpedcmempljlaaDoor
