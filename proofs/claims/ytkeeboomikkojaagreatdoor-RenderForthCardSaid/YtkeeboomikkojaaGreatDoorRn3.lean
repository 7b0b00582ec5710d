/- Numerals; texts that grow; texts joined; tabs. -/
import Derived.Test.YtkeeboomikkojaaGreatDoorRn2
import Derived.Test.YtkeeboomikkojaaGreatDoorSLayR
import Derived.Shelf.Strings.OnBuilder
import Derived.Lib.ItoaLen
namespace Go.Proofs.YtkeeboomikkojaaGreatDoor
open Go Go.Sx Go.Sx.Rn Go.Proofs.YtkeeboomikkojaaGreatDoor.Sx

section
variable {ω : Amb}
/-! ### numerals -/
/-- strconv's table of powers -/
def PwTab (h : Hp) : Prop := ∀ (ω : Amb) (d : Nat), Lib.TabIs Tryz.prog (W ω h d) "internal/strconv.uint64pow10" .u64 Lib.pow10Tab
theorem var_more {P : Program} {h h' : Hp} (k : Keep (fun _ => False) h h') {ω : Amb} {d : Nat} {nm : String} {cs : Array Value} (hv : (W ω h d).var? P nm = some cs) : (W ω h' d).var? P nm = some cs := by
  unfold World.var? at hv ⊢
  rw [Option.bind_eq_some_iff] at hv ⊢
  obtain ⟨g, hg, hm⟩ := hv
  refine ⟨g, hg, ?_⟩
  have e1 : (W ω h d).heap = h := rfl
  have e2 : (W ω h' d).heap = h' := rfl
  rw [e1] at hm
  rw [e2]
  split at hm
  · rename_i c t f hb
    rw [k.get hb (by simp)]
    exact hm
  · cases hm
theorem PwTab.more {h h' : Hp} (t : PwTab h) (k : Keep (fun _ => False) h h') : PwTab h' := by
  intro ω d
  have := t ω d
  unfold Lib.TabIs at this ⊢
  exact var_more k this
def itB (n : Int) : ByteArray := ⟨(Lib.itoa n).toArray⟩
theorem grow_keep (h : Hp) (os : Array Obj) : Keep (fun _ => False) h (h ++ os) :=
  ⟨by simp, fun k hk _ => Array.getElem?_append_left hk⟩
theorem Itoa_law (n : Int) (h0 : -9223372036854775808 ≤ n) (h1 : n ≤ 9223372036854775807) (h : Hp) (ht : PwTab h) (X : List PanicEntry → Hp → Prop) :
    CallX Tryz.prog ω 106 [.int .i64 n] h (fun r h' => r = .string (itB n) ∧ Keep (fun _ => False) h h') X := by
  intro d
  have hc := Any.strconv_Itoa lays171 n h0 h1 (W ω h d) (ht ω d)
  have hc' : Calls Tryz.prog 106 #[.int .i64 n] (W ω h d) _ := hc
  refine hc'.mono fun e w' ⟨he, k, os, hw⟩ => ?_
  subst he
  have hw2 : w' = W ω (h ++ os) (d + k) := hw.trans (W_more ω _ d k)
  subst hw2
  exact ⟨⟨d + k, rfl⟩, rfl, grow_keep h os⟩

/-! ### a text that grows -/
/-- at block b stands a text that grows; it holds l -/
def Bld (h : Hp) (B b : Nat) (l : List UInt8) : Prop := ∃ p v, (p = .pointer none ∨ p = .pointer (some ⟨b, 0, none⟩)) ∧ B ≤ b ∧ h[b]? = some (.cells #[p, v] 109 (0, 0)) ∧ (∀ (ω : Amb) (d : Nat), (W ω h d).ownsRowF B 5 1 v l.length (Lib.byteCells l)) ∧ v.ownBlock ≠ some b
theorem Bld.is {h : Hp} {B b : Nat} {l : List UInt8} (hb : Bld h B b l) (ω : Amb) (d : Nat) : Lib.IsBuilderF 109 5 B b (Lib.byteCells l) (W ω h d) := by
  obtain ⟨p, v, hp, h1, h2, h3, h4⟩ := hb
  have : Lib.BuilderAtF 109 5 B b p (Lib.byteCells l) (W ω h d) := ⟨h1, v, h2, by rw [Lib.byteCells_length]; exact h3 ω d, h4⟩
  rcases hp with rfl | rfl
  · exact .inl this
  · exact .inr this
theorem Bld.new {h : Hp} {B b : Nat} (hB : B ≤ b) (hb : h[b]? = some (.cells #[.pointer none, .slice none 0 0] 109 (0, 0))) : Bld h B b [] :=
  ⟨_, _, .inl rfl, hB, hb, fun _ _ => ⟨rfl, .inl ⟨rfl, rfl⟩⟩, by simp [Value.ownBlock]⟩
theorem Bld.more {h h' : Hp} {B b : Nat} {l : List UInt8} (hb : Bld h B b l) (k : Keep (fun _ => False) h h') : Bld h' B b l := by
  obtain ⟨p, v, hp, h1, h2, h3, h4⟩ := hb
  refine ⟨p, v, hp, h1, k.get h2 (by simp), fun ω d => ?_, h4⟩
  obtain ⟨e1, e2⟩ := h3 ω d
  refine ⟨e1, ?_⟩
  rcases e2 with e2 | ⟨g, cap, cur, fz, e3, e4, e5, rest⟩
  · exact .inl e2
  · have e5 : h[g]? = _ := e5
    exact .inr ⟨g, cap, cur, fz, e3, e4, k.get e5 (by simp), rest⟩
theorem extraB (ρ : Go.Shelf.Ren) (h5 : ρ.t 5 = 5) (h72 : ρ.t 72 = 109) : Builder.Extra Tryz.prog ρ where
  sizeBuilder := by rw [h72]; kernel_rfl
  liesBuilder := by rw [h72]; kernel_rfl
  t5 := by rw [h5]; kernel_rfl
  a5 := fun w => by rw [h5]; exact Tryz.isAgg5 w
  z5 := fun w => by rw [h5]; exact Tryz.sizeOf5 w
  v5 := fun w => by rw [h5]; exact Tryz.zeroValue5 w
  infoByte := by rw [h5]; kernel_rfl
  cellsByte := by rw [h5]; kernel_rfl
  sizeByte := by rw [h5]; kernel_rfl
  neB5 := by rw [h5, h72]; decide
theorem low_W {w : World} {h : Hp} {B d : Nat} (hω : ω.low = 0) (hb : RowKit.Below B (W ω h d) w) : w = W ω w.heap w.drawn := by
  obtain ⟨h1, h2, h3, h4, h5⟩ := hb
  cases w
  cases h1
  cases h2
  cases h3
  unfold W
  rw [hω, Nat.zero_add]
theorem low_keep {w : World} {h : Hp} {B d : Nat} (hb : RowKit.Below B (W ω h d) w) : Keep (fun k => B ≤ k) h w.heap :=
  ⟨hb.size, fun k hk hn => hb.block k (by omega)⟩
/-- all but the growing text's own block and rows of bytes -/
def Oth (b : Nat) (h h' : Hp) : Prop := ∀ k o, h[k]? = some o → k ≠ b → (∀ c fz, o ≠ .cells c 5 fz) → h'[k]? = some o
theorem Oth.own {b : Nat} {h h' : Hp} {B : Nat} {l : List UInt8} (hb : Bld h B b l) (ho : Oth b h h') {base n sz : Nat} {t : TypeId} {v : Value} {ys : List Value} (hv : OwnH h base t sz v n ys) (h5 : t ≠ 5) (h95 : t ≠ 109) : OwnH h' base t sz v n ys := by
  refine hv.keep fun k hk hlt => ?_
  have hkb : ∃ c, h[k]? = some (.cells c t (0, 0)) := by
    rcases hv.2 with ⟨rfl, _⟩ | ⟨g, o, cap, cur, rfl, _, hg, _⟩
    · cases hk
    · cases hk
      exact ⟨cur, hg⟩
  obtain ⟨c, hc⟩ := hkb
  rw [hc]
  refine ho k _ hc (fun e => ?_) fun c' fz e => ?_
  · subst e
    obtain ⟨_, _, _, _, h2, _⟩ := hb
    rw [hc] at h2
    cases h2
    exact h95 rfl
  · cases e
    exact h5 rfl
theorem Write_law (hω : ω.low = 0) {h : Hp} {B b : Nat} {l : List UInt8} (hb : Bld h B b l) (s : ByteArray) (hl : l.length + s.size ≤ 1000000) (hB : B ≤ h.size) (X : List PanicEntry → Hp → Prop) :
    CallX Tryz.prog ω 88 [.pointer (some ⟨b, 0, none⟩), .string s] h (fun _ h' => Bld h' B b (l ++ s.data.toList) ∧ Keep (fun k => B ≤ k) h h' ∧ Oth b h h') X := by
  intro d
  have hc := Any.Builder_WriteString_k lays166 (extraB ren166 rfl rfl) B b (Lib.byteCells l) s (W ω h d) (hb.is ω d) (by rw [Lib.byteCells_length]; omega) hB
  have hc' : Calls Tryz.prog 88 #[.pointer (some ⟨b, 0, none⟩), .string s] (W ω h d) _ := hc
  refine hc'.mono fun e w' ⟨he, hA, hbel, hoth⟩ => ?_
  subst he
  have hw := low_W hω hbel
  refine ⟨⟨_, hw⟩, ?_, low_keep hbel, fun k o hk hn h5 => hoth k o hk (fun e => hn (Option.some.inj e)) h5⟩
  obtain ⟨h1, v, h2, h3, h4⟩ := hA
  refine ⟨_, v, .inr rfl, h1, h2, fun ω' d' => ?_, h4⟩
  have e1 : Lib.byteCells l ++ Lib.strCells s = Lib.byteCells (l ++ s.data.toList) := by
    unfold Lib.byteCells Lib.strCells
    rw [List.map_append]
  rw [e1, Lib.byteCells_length] at h3
  exact h3
theorem String_law (hω : ω.low = 0) {h : Hp} {B b : Nat} {l : List UInt8} (hb : Bld h B b l) (hB : B ≤ h.size) (X : List PanicEntry → Hp → Prop) :
    CallX Tryz.prog ω 64 [.pointer (some ⟨b, 0, none⟩)] h (fun r h' => r = .string ⟨l.toArray⟩ ∧ Keep (fun k => B ≤ k) h h' ∧ Oth b h h') X := by
  intro d
  have hc := Any.Builder_String_any_k lays169 (extraB ren169 rfl rfl) B b l (W ω h d) (hb.is ω d) hB
  have hc' : Calls Tryz.prog 64 #[.pointer (some ⟨b, 0, none⟩)] (W ω h d) _ := hc
  refine hc'.mono fun e w' ⟨he, _, hbel, hoth⟩ => ?_
  subst he
  exact ⟨⟨_, low_W hω hbel⟩, rfl, low_keep hbel, fun k o hk hn h5 => hoth k o hk (fun e => hn (Option.some.inj e)) h5⟩
/-! ### the rest of the library -/
theorem FormatInt_law (n : Int) (h0 : -9223372036854775808 ≤ n) (h1 : n ≤ 9223372036854775807) (h : Hp) (ht : PwTab h) (X : List PanicEntry → Hp → Prop) :
    CallX Tryz.prog ω 126 [.int .i64 n, .int .i64 10] h (fun r h' => r = .string (itB n) ∧ Keep (fun _ => False) h h') X := by
  intro d
  have hc := Any.strconv_FormatInt_10 lays173 n h0 h1 (W ω h d) (ht ω d)
  have hc' : Calls Tryz.prog 126 #[.int .i64 n, .int .i64 10] (W ω h d) _ := hc
  refine hc'.mono fun e w' ⟨he, k, os, hw⟩ => ?_
  subst he
  have hw2 : w' = W ω (h ++ os) (d + k) := hw.trans (W_more ω _ d k)
  subst hw2
  exact ⟨⟨d + k, rfl⟩, rfl, grow_keep h os⟩
theorem below_keep {w : World} {h : Hp} {d : Nat} (hb : RowKit.Below h.size (W ω h d) w) : Keep (fun _ => False) h w.heap :=
  (low_keep hb).mono fun k hk e => by omega
theorem Repeat_law (hω : ω.low = 0) (s : ByteArray) (c : Nat) (hc : c ≤ 1000) (hs : s.size ≤ 1000) (h : Hp) (X : List PanicEntry → Hp → Prop) :
    CallX Tryz.prog ω 89 [.string s, .int .i64 c] h (fun r h' => r = .string ⟨(Lib.repeatL s.data.toList c).toArray⟩ ∧ Keep (fun _ => False) h h') X := by
  intro d
  have hm : s.size * c ≤ 1000 * 1000 := Nat.mul_le_mul hs hc
  have hc := Any.strings_Repeat lays105 (extraB ren105 rfl rfl) s c (W ω h d) (by omega) (by omega)
  have hc' : Calls Tryz.prog 89 #[.string s, .int .i64 c] (W ω h d) _ := hc
  refine hc'.mono fun e w' ⟨he, hbel⟩ => ?_
  subst he
  exact ⟨⟨_, low_W hω hbel⟩, rfl, below_keep hbel⟩
theorem Join_law (hω : ω.low = 0) (xs : List ByteArray) (sep : ByteArray) (h : Hp) {v : Value} {base : Nat} (ho : OwnH h base 9 1 v xs.length (xs.map .string)) (hN : xs.length ≤ 100000)
    (hlen : (Lib.join (xs.map (·.data.toList)) sep.data.toList).length ≤ 10000000) (X : List PanicEntry → Hp → Prop) :
    CallX Tryz.prog ω 61 [v, .string sep] h (fun r h' => r = .string ⟨(Lib.join (xs.map (·.data.toList)) sep.data.toList).toArray⟩ ∧ Keep (fun _ => False) h h') X := by
  intro d
  rcases ho.shape with ⟨rfl, h0, _⟩ | ⟨g, o, cap, rfl, hg, _, hnc, hcell⟩
  · obtain rfl := List.eq_nil_of_length_eq_zero h0
    have hc := Any.strings_Join_none lays156 (extraB ren156 rfl rfl) none 0 sep (W ω h d)
    have hc' : Calls Tryz.prog 61 #[.slice none 0 0, .string sep] (W ω h d) _ := hc
    refine hc'.mono fun e w' ⟨he, hw⟩ => ?_
    subst he
    subst hw
    exact ⟨⟨d, rfl⟩, rfl, Keep.refl _ _⟩
  · have hc := Any.strings_Join lays156 (extraB ren156 rfl rfl) g o cap xs sep (W ω h d) (fun j x hx => hcell j (.string x) (by rw [List.getElem?_map, hx]; rfl)) hg (by omega) hnc (by omega)
    have hc' : Calls Tryz.prog 61 #[.slice (some ⟨g, o, none⟩) xs.length cap, .string sep] (W ω h d) _ := hc
    refine hc'.mono fun e w' ⟨he, hbel⟩ => ?_
    subst he
    exact ⟨⟨_, low_W hω hbel⟩, rfl, below_keep hbel⟩
end
end Go.Proofs.YtkeeboomikkojaaGreatDoor

namespace Go.Proofs.YtkeeboomikkojaaGreatDoor
open Go Go.Sx Go.Sx.Tk Go.Sx.Rn Go.Proofs.YtkeeboomikkojaaGreatDoor.Sx

structure Fm where
  a : Bool
  b : Bool
  t : Bool
  n : Bool
  e : Int
  body : Bool
  els : Bool
def formOf (d : Int) : Option Fm :=
  if d = 1 ∨ d = 2 ∨ d = 6 then some ⟨true, false, false, false, 1, false, false⟩
  else if d = 3 then some ⟨false, false, false, false, 1, false, false⟩
  else if d = 4 then some ⟨true, true, true, true, 0, false, false⟩
  else if d = 5 then some ⟨true, true, false, false, 0, false, false⟩
  else if d = 7 ∨ d = 8 ∨ d = 9 then some ⟨true, false, false, false, 0, false, false⟩
  else if d = 10 then some ⟨true, false, false, false, -1, false, false⟩
  else if d = 11 then some ⟨true, true, false, false, 0, true, true⟩
  else if d = 12 then some ⟨true, true, false, false, 0, true, false⟩
  else if d = 13 then some ⟨false, false, false, false, 1, true, false⟩
  else if d = 14 then some ⟨false, false, false, false, 1, true, true⟩
  else none
def fmC (f : Fm) : List Value := [.bool f.a, .bool f.b, .bool f.t, .bool f.n, .int .i64 f.e, .bool f.body, .bool f.els]
theorem fmC_one (f : Fm) : ∀ u ∈ fmC f, one u := by
  intro u hu
  simp only [fmC, List.mem_cons, List.not_mem_nil, or_false] at hu
  rcases hu with rfl | rfl | rfl | rfl | rfl | rfl | rfl <;> rfl
def fm0 : Fm := ⟨false, false, false, false, 0, false, false⟩
def hasV (d : Int) : Value := match formOf d with | some f => .tuple #[.agg (fmC f).toArray, .bool true] | none => .tuple #[.agg (fmC fm0).toArray, .bool false]
theorem hasRet {h h1 : Hp} {z : Fm} {T : TypeId} (hb : h1[h.size]? = some (.cells (fmC z).toArray T (0, 0))) (k : Keep (fun _ => False) h h1) (f : Fm) {b : Bool} {d : Int} (hd : hasV d = .tuple #[.agg (fmC f).toArray, .bool b]) :
    True ∧ (∀ u ∈ fmC f, one u) ∧ storeK h1 ⟨h.size, 0, none⟩ (fmC f) fun h12 => ∃ C, cellsH h12 ⟨h.size, 0, none⟩ 7 C ∧ (fun r h' => r = hasV d ∧ Keep (fun _ => False) h h') (.tuple #[.agg C.toArray, .bool b]) h12 := by
  refine ⟨trivial, fmC_one f, storeK_of hb (by simp [fmC]) ?_⟩
  rw [spl_all (by rfl)]
  have hb2 := hp_set_same (o := .cells (fmC f).toArray T (0, 0)) hb
  have kk := Keep.set (S := fun b => b = h.size) (h := h1) (.cells (fmC f).toArray T (0, 0)) (b := h.size) rfl
  exact ⟨_, cellsH_blk hb2 rfl, hd.symm, ((k.mono (fun _ _ h => h.elim)).trans kk).mono fun b hb e => by omega⟩
section
variable {ω : Amb}
theorem has_law (d : Int) (h : Hp) (X : List PanicEntry → Hp → Prop) : CallX Tryz.prog ω n_render_has [.int .i64 d] h (fun r h' => r = hasV d ∧ Keep (fun _ => False) h h') X := by
  refine C_render_has ω _ h _ X ?_
  unfold W_render_has
  have hb := hp_push_new (h := h) (o := .cells (fmC fm0).toArray 165 (0, 0))
  have kp := Keep.push (S := fun _ => False) h (.cells (fmC fm0).toArray 165 (0, 0))
  simp only [show (#[(.bool false), (.bool false), (.bool false), (.bool false), (.int .i64 0), (.bool false), (.bool false)] : Array Value) = (fmC fm0).toArray from rfl]
  generalize h.push (.cells (fmC fm0).toArray 165 (0, 0)) = h1 at *
  rw [asK_int]
  refine ⟨fun v h' => v = .bool (decide (d = 1 ∨ d = 2 ∨ d = 6)) ∧ h1 = h', ?_, ?_⟩
  · refine cond_c (fun hc => ?_) (fun hc => ?_)
    · rw [hc, decide_eq_true (.inl (eq_of_beq hc))]
      exact ⟨rfl, rfl⟩
    have c1 := beq_eq_false_iff_ne.1 hc
    rw [asK_int]
    refine ⟨fun v h' => v = .bool (decide (d = 1 ∨ d = 2 ∨ d = 6)) ∧ h1 = h', ?_, fun _ _ _ hj => hj⟩
    refine cond_c (fun hc => ?_) (fun hc => ?_)
    · rw [hc, decide_eq_true (.inr (.inl (eq_of_beq hc)))]
      exact ⟨rfl, rfl⟩
    have c2 := beq_eq_false_iff_ne.1 hc
    rw [asK_int]
    refine ⟨?_, rfl⟩
    congr 1
    rw [Bool.eq_iff_iff]
    simp [c1, c2]
  rintro _ _ _ ⟨rfl, rfl⟩
  rw [asB_bool]
  refine cond_c (fun hc => ?_) (fun hc => ?_)
  · exact hasRet hb kp ⟨true, false, false, false, 1, false, false⟩ (by rw [hasV, formOf, if_pos (of_decide_eq_true hc)])
  have c126 := of_decide_eq_false hc
  rw [asK_int]
  refine cond_c (fun hc => ?_) (fun hc => ?_)
  · have := eq_of_beq hc
    subst this
    exact hasRet hb kp ⟨false, false, false, false, 1, false, false⟩ rfl
  have c3 := beq_eq_false_iff_ne.1 hc
  rw [asK_int]
  refine cond_c (fun hc => ?_) (fun hc => ?_)
  · have := eq_of_beq hc
    subst this
    exact hasRet hb kp ⟨true, true, true, true, 0, false, false⟩ rfl
  have c4 := beq_eq_false_iff_ne.1 hc
  rw [asK_int]
  refine cond_c (fun hc => ?_) (fun hc => ?_)
  · have := eq_of_beq hc
    subst this
    exact hasRet hb kp ⟨true, true, false, false, 0, false, false⟩ rfl
  have c5 := beq_eq_false_iff_ne.1 hc
  rw [asK_int]
  refine ⟨fun v h' => v = .bool (decide (d = 7 ∨ d = 8 ∨ d = 9)) ∧ h1 = h', ?_, ?_⟩
  · refine cond_c (fun hc => ?_) (fun hc => ?_)
    · rw [hc, decide_eq_true (.inl (eq_of_beq hc))]
      exact ⟨rfl, rfl⟩
    have c1 := beq_eq_false_iff_ne.1 hc
    rw [asK_int]
    refine ⟨fun v h' => v = .bool (decide (d = 7 ∨ d = 8 ∨ d = 9)) ∧ h1 = h', ?_, fun _ _ _ hj => hj⟩
    refine cond_c (fun hc => ?_) (fun hc => ?_)
    · rw [hc, decide_eq_true (.inr (.inl (eq_of_beq hc)))]
      exact ⟨rfl, rfl⟩
    have c2 := beq_eq_false_iff_ne.1 hc
    rw [asK_int]
    refine ⟨?_, rfl⟩
    congr 1
    rw [Bool.eq_iff_iff]
    simp [c1, c2]
  rintro _ _ _ ⟨rfl, rfl⟩
  rw [asB_bool]
  refine cond_c (fun hc => ?_) (fun hc => ?_)
  · exact hasRet hb kp ⟨true, false, false, false, 0, false, false⟩ (by rw [hasV, formOf, if_neg c126, if_neg c3, if_neg c4, if_neg c5, if_pos (of_decide_eq_true hc)])
  have c789 := of_decide_eq_false hc
  rw [asK_int]
  refine cond_c (fun hc => ?_) (fun hc => ?_)
  · have := eq_of_beq hc
    subst this
    exact hasRet hb kp ⟨true, false, false, false, -1, false, false⟩ rfl
  have c10 := beq_eq_false_iff_ne.1 hc
  rw [asK_int]
  refine cond_c (fun hc => ?_) (fun hc => ?_)
  · have := eq_of_beq hc
    subst this
    exact hasRet hb kp ⟨true, true, false, false, 0, true, true⟩ rfl
  have c11 := beq_eq_false_iff_ne.1 hc
  rw [asK_int]
  refine cond_c (fun hc => ?_) (fun hc => ?_)
  · have := eq_of_beq hc
    subst this
    exact hasRet hb kp ⟨true, true, false, false, 0, true, false⟩ rfl
  have c12 := beq_eq_false_iff_ne.1 hc
  rw [asK_int]
  refine cond_c (fun hc => ?_) (fun hc => ?_)
  · have := eq_of_beq hc
    subst this
    exact hasRet hb kp ⟨false, false, false, false, 1, true, false⟩ rfl
  have c13 := beq_eq_false_iff_ne.1 hc
  rw [asK_int]
  refine cond_c (fun hc => ?_) (fun hc => ?_)
  · have := eq_of_beq hc
    subst this
    exact hasRet hb kp ⟨false, false, false, false, 1, true, true⟩ rfl
  have c14 := beq_eq_false_iff_ne.1 hc
  exact hasRet hb kp fm0 (by rw [hasV, formOf, if_neg c126, if_neg c3, if_neg c4, if_neg c5, if_neg c789, if_neg c10, if_neg c11, if_neg c12, if_neg c13, if_neg c14])
end
end Go.Proofs.YtkeeboomikkojaaGreatDoor

namespace Go.Proofs.YtkeeboomikkojaaGreatDoor
open Go Go.Sx Go.Sx.Tk Go.Sx.Rn Go.Proofs.YtkeeboomikkojaaGreatDoor.Sx

theorem formOf_out {d : Int} (h : d < 1 ∨ 14 < d) : formOf d = none := by
  unfold formOf
  rw [if_neg (by omega), if_neg (by omega), if_neg (by omega), if_neg (by omega), if_neg (by omega), if_neg (by omega), if_neg (by omega), if_neg (by omega), if_neg (by omega), if_neg (by omega)]
theorem formOf_els {d : Int} {f : Fm} (h : formOf d = some f) (he : f.els = true) : f.body = true := by
  unfold formOf at h
  repeat' split at h
  all_goals first | (cases h; simp_all; done) | cases h
theorem formOf_ne {d : Int} {f : Fm} (h : formOf d = some f) : 1 ≤ d ∧ d ≤ 14 := by
  rcases Int.lt_or_le d 1 with h1 | h1
  · rw [formOf_out (.inl h1)] at h
    cases h
  · rcases Int.lt_or_le 14 d with h2 | h2
    · rw [formOf_out (.inr h2)] at h
      cases h
    · exact ⟨h1, h2⟩
section
variable {ω : Amb}
end
/-! ### what is wrong with a statement -/
def zA (f : Fm) (x : St) : Bool := !f.a && !decide (emp x.a)
def zB (f : Fm) (x : St) : Bool := !f.b && !decide (emp x.b)
def zT (f : Fm) (x : St) : Bool := !f.t && !decide (emp x.t)
def zN (f : Fm) (x : St) : Bool := !f.n && decide (x.n ≠ 0)
def zE (f : Fm) (x : St) : Bool := decide (0 ≤ f.e) && decide ((x.e.length : Int) ≠ f.e)
def zBo (f : Fm) (x : St) : Bool := !f.body && decide (0 < x.body.length)
def zEl (f : Fm) (x : St) : Bool := !f.els && decide (0 < x.els.length)
def badF (f : Fm) (x : St) : Bool := zT f x || (zN f x || (zE f x || (zBo f x || (zEl f x || (zA f x || zB f x)))))
end Go.Proofs.YtkeeboomikkojaaGreatDoor

namespace Go.Proofs.YtkeeboomikkojaaGreatDoor
open Go Go.Sx Go.Sx.Tk Go.Sx.Rn Go.Proofs.YtkeeboomikkojaaGreatDoor.Sx

section
variable {ω : Amb}
end
end Go.Proofs.YtkeeboomikkojaaGreatDoor

namespace Go.Proofs.YtkeeboomikkojaaGreatDoor
open Go Go.Sx Go.Sx.Tk Go.Sx.Rn Go.Proofs.YtkeeboomikkojaaGreatDoor.Sx

def eF1 (x : Ex) : Int := orF (if 20 < exN x then 8 else 0) (exF x)
def esF : List Ex → Int
  | [] => 0
  | x :: r => orF (eF1 x) (esF r)
theorem esF_app : ∀ (l m : List Ex), esF (l ++ m) = orF (esF l) (esF m)
  | [], m => by simp only [List.nil_append, esF, orF_0]
  | y :: r, m => by simp only [List.cons_append, esF, esF_app r m, orF_assoc]
theorem esF_snoc (l : List Ex) (x : Ex) : esF (l ++ [x]) = orF (esF l) (eF1 x) := by rw [esF_app]; simp only [esF, orF_r]
/-- of one statement itself, whose form is good so far -/
def stR (f : Fm) (x : St) (deep : Int) : Int :=
  orF (nmF f.a x.a) (orF (nmF f.b x.b) (orF (if f.t && !isTyB x.t 3 then 11 else 0) (orF (if decide (x.n < 0 ∨ 1000000000000000000 ≤ x.n) then 14 else 0) (orF (esF x.e) (if f.body && decide (8 ≤ deep) then 7 else 0)))))
def stH (x : St) (at_ deep : Int) : Int :=
  if 300 ≤ at_ then 8 else match formOf x.d with
  | none => 5
  | some f => if badF f x then 5 else if 6 < x.e.length then 8 else stR f x deep
theorem bad_all {f : Fm} {x : St} (h : badF f x = false) : zA f x = false ∧ zB f x = false ∧ zT f x = false ∧ zN f x = false ∧ zE f x = false ∧ zBo f x = false ∧ zEl f x = false := by
  unfold badF at h
  simp only [Bool.or_eq_false_iff] at h
  obtain ⟨h1, h2, h3, h4, h5, h6, h7⟩ := h
  exact ⟨h6, h7, h1, h2, h3, h4, h5⟩
theorem nmF_good {is : Bool} {s : ByteArray} (h : (!is && !decide (emp s)) = false) : nmF is s = if is && !isNameB s then 4 else 0 := by
  rw [nmF, h, if_neg (by decide), orF_0]
section
variable {ω : Amb}
end
end Go.Proofs.YtkeeboomikkojaaGreatDoor

namespace Go.Proofs.YtkeeboomikkojaaGreatDoor
open Go Go.Sx Go.Sx.Tk Go.Sx.Rn Go.Proofs.YtkeeboomikkojaaGreatDoor.Sx

abbrev FR := Except (Int × Int) Int
def bindE (r : FR) (f : Int → FR) : FR := match r with | .error e => .error e | .ok n => f n
theorem bindE_ok (n : Int) (f : Int → FR) : bindE (.ok n) f = f n := rfl
mutual
def stF : St → Int → Int → FR
  | .mk d at_ a b t n e body els, m, deep =>
    if stH (.mk d at_ a b t n e body els) m deep ≠ 0 then .error (stH (.mk d at_ a b t n e body els) m deep, m)
    else bindE (stsF body (m + 1) (deep + 1)) fun n => stsF els n (deep + 1)
def stsF : List St → Int → Int → FR
  | [], m, _ => .ok m
  | x :: r, m, deep => bindE (stF x m deep) fun n => stsF r n deep
end
theorem stF_eq (x : St) (m deep : Int) : stF x m deep = if stH x m deep ≠ 0 then .error (stH x m deep, m) else bindE (stsF x.body (m + 1) (deep + 1)) fun n => stsF x.els n (deep + 1) := by cases x; rfl
theorem stsF_cons (x : St) (r : List St) (m deep : Int) : stsF (x :: r) m deep = bindE (stF x m deep) fun n => stsF r n deep := rfl
def okRes (m : Int) : FR → Prop
  | .ok n => m ≤ n ∧ n ≤ 300
  | .error e => e.1 ≠ 0
theorem okRes_bind {m : Int} {r : FR} {f : Int → FR} (h : okRes m r) (hf : ∀ n, m ≤ n → n ≤ 300 → okRes n (f n)) : okRes m (bindE r f) := by
  cases r with
  | error e => exact h
  | ok n =>
    have := hf n h.1 h.2
    rw [bindE_ok]
    revert this
    cases f n with
    | error e => exact id
    | ok k => exact fun hh => ⟨Int.le_trans h.1 hh.1, hh.2⟩
mutual
theorem stF_ok : ∀ (x : St) (m deep : Int), m ≤ 300 → okRes m (stF x m deep)
  | .mk d at_ a b t n e body els, m, deep, hm => by
    unfold stF
    split
    · assumption
    · rename_i h
      have h3 : m < 300 := by
        rcases Int.lt_or_le m 300 with h1 | h1
        · exact h1
        · exact absurd (by rw [stH, if_pos h1]; decide) h
      refine okRes_bind ?_ fun n _ hn => stsF_ok els n _ hn
      have := stsF_ok body (m + 1) (deep + 1) (by omega)
      revert this
      cases stsF body (m + 1) (deep + 1) with
      | error e => exact id
      | ok k => exact fun hh => ⟨by have := hh.1; omega, hh.2⟩
theorem stsF_ok : ∀ (l : List St) (m deep : Int), m ≤ 300 → okRes m (stsF l m deep)
  | [], m, deep, hm => ⟨Int.le_refl _, hm⟩
  | x :: r, m, deep, hm => by
    rw [stsF_cons]
    exact okRes_bind (stF_ok x m deep hm) fun n _ hn => stsF_ok r n deep hn
end
theorem tup2 {a b : Value} {F : Value → Value → Prop} : (asT (.tuple #[a, b]) fun T2 => asO T2[0]? fun v3 => asT (.tuple #[a, b]) fun T4 => asO T4[1]? fun v5 => F v3 v5) = F a b := by
  simp only [asT_tup]
  rfl
/-- a fault is laid and read -/
theorem finF {h : Hp} {L : Nat} {T : TypeId} {cs ds : List Value} (hw : h[L]? = some (.cells ds.toArray T (0, 0))) (hd : ds.length = 2) (hc : cs.length = 2) {K : List Value → Hp → Prop}
    (hk : ∀ h', Keep (fun k => k = L) h h' → h'[L]? = some (.cells cs.toArray T (0, 0)) → K cs h') : storeK h ⟨L, 0, none⟩ cs fun h' => ∃ C, cellsH h' ⟨L, 0, none⟩ 2 C ∧ K C h' := by
  refine storeK_of hw (by simp; omega) ?_
  rw [spl_all (by simp; omega)]
  have hb := hp_set_same (o := .cells cs.toArray T (0, 0)) hw
  exact ⟨cs, cellsH_blk hb hc, hk _ (Keep.set (S := fun k => k = L) _ rfl) hb⟩
section
variable {ω : Amb}
end
end Go.Proofs.YtkeeboomikkojaaGreatDoor

namespace Go.Proofs.YtkeeboomikkojaaGreatDoor
open Go Go.Sx Go.Sx.Tk Go.Sx.Rn Go.Proofs.YtkeeboomikkojaaGreatDoor.Sx

def prF (q : ByteArray × ByteArray) : Int := orF (if !isNameB q.1 then 4 else 0) (if !isTyB q.2 3 then 11 else 0)
def prsF : List (ByteArray × ByteArray) → Int
  | [] => 0
  | q :: r => orF (prF q) (prsF r)
theorem prsF_app : ∀ (l m : List (ByteArray × ByteArray)), prsF (l ++ m) = orF (prsF l) (prsF m)
  | [], m => by simp only [List.nil_append, prsF, orF_0]
  | y :: r, m => by simp only [List.cons_append, prsF, prsF_app r m, orF_assoc]
theorem prsF_snoc (l : List (ByteArray × ByteArray)) (x : ByteArray × ByteArray) : prsF (l ++ [x]) = orF (prsF l) (prF x) := by rw [prsF_app]; simp only [prsF, orF_r]
def sgH (s : Sg) : Int := orF (if !isNameB s.nm then 4 else 0) (orF (if decide (6 < s.ps.length) then 8 else 0) (prsF s.ps))
def sgsF : List Sg → Int → Int → FR
  | [], _, m => .ok m
  | s :: r, i, m => if sgH s ≠ 0 then .error (sgH s, -2 - i) else bindE (stsF s.body m 1) fun n => sgsF r (i + 1) n
def formP (p : List Sg) : FR := if p.length = 0 then .error (10, -1) else if 10 < p.length then .error (8, -1) else sgsF p 0 0
def fltR (r : FR) : Int × Int := match r with
  | .ok _ => (0, 0)
  | .error e => e
section
variable {ω : Amb}
theorem newL {h h1 h2 : Hp} {L : Nat} (k : Keep (fun _ => False) h h1) (hL : h.size ≤ L) (k2 : Keep (fun b => b = L) h1 h2) : Keep (fun _ => False) h h2 :=
  ((k.mono (fun _ _ h => h.elim)).trans k2).mono fun b hb e => by omega
end
end Go.Proofs.YtkeeboomikkojaaGreatDoor

namespace Go.Proofs.YtkeeboomikkojaaGreatDoor
open Go Go.Sx Go.Sx.Tk Go.Sx.Rn Go.Proofs.YtkeeboomikkojaaGreatDoor.Sx

theorem orF_z {a b : Int} (h : orF a b = 0) : a = 0 ∧ b = 0 := by
  unfold orF at h
  split at h
  · exact ⟨‹_›, h⟩
  · exact absurd h ‹_›
def fmD (d : Int) : Fm := (formOf d).getD fm0
def fmOk (d : Int) : Bool := (formOf d).isSome
theorem hasV_eq (d : Int) : hasV d = .tuple #[.agg (fmC (fmD d)).toArray, .bool (fmOk d)] := by
  unfold hasV fmD fmOk
  cases formOf d <;> rfl
/-- the head's fault -/
def stE (x : St) (n : Int) : Int := if 300 ≤ n then 8 else if (!fmOk x.d || badF (fmD x.d) x) then 5 else if decide (6 < x.e.length) then 8 else 0
theorem stH_E (x : St) (n deep : Int) : stH x n deep = if stE x n ≠ 0 then stE x n else stR (fmD x.d) x deep := by
  unfold stH stE fmOk fmD
  by_cases h1 : 300 ≤ n
  · simp [h1]
  · rw [if_neg h1, if_neg h1]
    cases hf : formOf x.d with
    | none => simp
    | some f =>
      simp only [Option.getD_some, Option.isSome_some, Bool.not_true, Bool.false_or]
      cases hb : badF f x with
      | true => simp
      | false =>
        by_cases h6 : 6 < x.e.length
        · simp [h6]
        · simp [h6]
theorem stE_good {x : St} {n : Int} (h : stE x n = 0) : n < 300 ∧ (∃ f, formOf x.d = some f) ∧ badF (fmD x.d) x = false ∧ x.e.length ≤ 6 := by
  unfold stE at h
  split at h
  · cases h
  · rename_i h1
    split at h
    · cases h
    · rename_i h2
      simp only [Bool.or_eq_true, Bool.not_eq_true', not_or, Bool.not_eq_false, Bool.not_eq_true] at h2
      split at h
      · cases h
      · rename_i h3
        refine ⟨by omega, Option.isSome_iff_exists.1 h2.1, h2.2, ?_⟩
        simp at h3
        omega
def wres (r : FR) (n' : Int) (p' : Int × Int) : Prop := match r with
  | .ok m => n' = m ∧ p' = (0, 0)
  | .error e => p' = e
/-- what a walk over statements leaves -/
def wpost (p : Int × Int) (_ : Int) (r : FR) (n' : Int) (p' : Int × Int) : Prop := (p.1 ≠ 0 → p' = p) ∧ (p = (0, 0) → wres r n' p') ∧ 0 ≤ n' ∧ n' ≤ 301
section
variable {ω : Amb} {h0 : Hp} {b : Nat}
def StmtsLaw (ω : Amb) (h0 : Hp) (b : Nat) (l : List St) : Prop := ∀ (h : Hp) (v : Value) (n : Int) (p : Int × Int) (deep : Int), StS h0 v l → WS h0 b h n p → 0 ≤ n → n ≤ 301 → (p.1 ≠ 0 ∨ (p = (0, 0) ∧ n ≤ 300 ∧ (l ≠ [] → deep ≤ 8))) → 0 ≤ deep → deep ≤ 100 → ∀ (X : List PanicEntry → Hp → Prop),
  CallX Tryz.prog ω n_p_render_walker_stmts [wp b, v, .int .i64 deep] h (fun _ h' => ∃ n' p', WS h0 b h' n' p' ∧ KB b h h' ∧ wpost p n (stsF l n deep) n' p') X
set_option maxHeartbeats 800000 in
theorem wstmt_law (x : St) (hle : stN x ≤ 100000) (hok : stOk x) (hB : StmtsLaw ω h0 b x.body) (hE : StmtsLaw ω h0 b x.els) (h : Hp) (ve vb vl : Value) (n deep : Int) (he : ExS h0 ve x.e) (hbd : StS h0 vb x.body) (hel : StS h0 vl x.els)
    (ws : WS h0 b h n (0, 0)) (hn0 : 0 ≤ n) (hn1 : n ≤ 300) (hd0 : 0 ≤ deep) (hd1 : deep ≤ 8) (X : List PanicEntry → Hp → Prop) :
    CallX Tryz.prog ω n_p_render_walker_stmt [wp b, .agg (stC x ve vb vl).toArray, .int .i64 deep] h (fun _ h' => ∃ n' p', WS h0 b h' n' p' ∧ KB b h h' ∧ wres (stF x n deep) n' p' ∧ 0 ≤ n' ∧ n' ≤ 301) X := by
  refine C_p_render_walker_stmt ω _ _ _ h _ X ?_
  unfold W_p_render_walker_stmt
  simp only [show Value.cells (.agg (stC x ve vb vl).toArray) = (stC x ve vb vl).toArray from rfl]
  obtain ⟨ha, hb, hty, hoe, hob, hol⟩ := stOk_iff.1 hok
  have hxe := stN_eq x
  have hlen := exsN_len x.e
  have ha : x.a.size ≤ 20000 := Nat.le_trans ha (by omega)
  have hb : x.b.size ≤ 20000 := Nat.le_trans hb (by omega)
  have hty : x.t.size ≤ 20000 := Nat.le_trans hty (by omega)
  have hblt := ws.blt
  have hb1 := hp_push_new (h := h) (o := .cells (stC x ve vb vl).toArray 39 (0, 0))
  have kp := Keep.push (S := fun _ => False) h (.cells (stC x ve vb vl).toArray 39 (0, 0))
  generalize h.push (.cells (stC x ve vb vl).toArray 39 (0, 0)) = h1 at *
  have ws1 := ws.keep kp
  have kb1 := KB.of (b := b) kp
  show ∃ v1, _
  refine lx ws1.wk (j := 0) rfl ?_
  show ∃ v3, _
  refine lx ws1.wk (j := 0) rfl ?_
  rw [asK_int, i64_in (by omega) (by omega)]
  rw [nnK_ptr, asP_some]
  refine storeK1_of (o := 0) ws1.wk (by simp) ?_
  have k2 := Keep.set (S := fun k => k = b) (h := h1) (.cells ([Value.int .i64 n, .int .i64 0, .int .i64 0].toArray.setIfInBounds 0 (.int .i64 (n + 1))) 116 (0, 0)) (b := b) rfl
  have ws2 : WS h0 b (h1.setIfInBounds b (.cells ([Value.int .i64 n, .int .i64 0, .int .i64 0].toArray.setIfInBounds 0 (.int .i64 (n + 1))) 116 (0, 0))) (n + 1) (0, 0) := ws1.next k2 (hp_set_same ws1.wk)
  have hL1 : h.size ≠ b := by omega
  have hb2 := k2.get hb1 hL1
  generalize h1.setIfInBounds b (.cells ([Value.int .i64 n, .int .i64 0, .int .i64 0].toArray.setIfInBounds 0 (.int .i64 (n + 1))) 116 (0, 0)) = h2 at *
  have kb2 := kb1.trans k2
  refine lx hb2 (j := 0) rfl ?_
  refine CallX.use (has_law x.d h2) ?_
  rintro _ h3 ⟨rfl, k3⟩
  have hb3 := k3.get hb2 (by simp)
  have ws3 := ws2.keep k3
  have kb3 := kb2.trans (KB.of k3)
  rw [hasV_eq, tup2, asA_agg]
  have hE' : ∀ deep, stH x n deep = if stE x n ≠ 0 then stE x n else stR (fmD x.d) x deep := fun deep => stH_E x n deep
  have hgood := @stE_good x n
  have hEd : stE x n = if 300 ≤ n then 8 else if (!fmOk x.d || badF (fmD x.d) x) then 5 else if decide (6 < x.e.length) then 8 else 0 := rfl
  have hbody : ∀ f, formOf x.d = some f → fmD x.d = f := fun f hf => by rw [fmD, hf]; rfl
  have hels : ∀ f, formOf x.d = some f → f.els = true → f.body = true := fun f hf => formOf_els hf
  generalize fmD x.d = f at *
  generalize fmOk x.d = ok at *
  refine ⟨rfl, fmC_one f, storeK_local (cs := fmC f) rfl ?_⟩
  have hf4 := hp_push_new (h := h3) (o := .cells (fmC f).toArray 165 (0, 0))
  have k4 := Keep.push (S := fun _ => False) h3 (.cells (fmC f).toArray 165 (0, 0))
  have hL2 : h3.size ≠ b := by have := ws3.blt; omega
  generalize h3.push (.cells (fmC f).toArray 165 (0, 0)) = h4 at *
  have hb4 := k4.get hb3 (by simp)
  have ws4 := ws3.keep k4
  have kb4 := kb3.trans (KB.of k4)
  have he4 := he.keep ws4.k
  have hbd4 := hbd.keep ws4.k
  have hel4 := hel.keep ws4.k
  refine ⟨fun h' => WS h0 b h' (n + 1) (wst (0, 0) (stE x n) n) ∧ KB b h4 h', ?_, ?_⟩
  · rw [asK_int]
    refine ⟨fun h' => WS h0 b h' (n + 1) (wst (0, 0) (stE x n) n) ∧ KB b h4 h', ?_, fun _ _ hj => hj⟩
    refine cond_c (fun hc => ?_) (fun hc => ?_)
    · have hge := of_decide_eq_true hc
      refine CallX.use (fail_law ws4 (by decide)) ?_
      rintro _ h5 ⟨ws5, k5⟩
      rw [hEd, if_pos (by omega)]
      exact ⟨ws5, k5⟩
    have hge := of_decide_eq_false hc
    rw [if_neg (by omega)] at hEd
    rw [asB_bool]
    refine ⟨fun v h' => v = .bool (!ok || badF f x) ∧ h4 = h', ?_, ?_⟩
    · refine cond_c (fun hc => ?_) (fun hc => ?_)
      · rw [hc]
        exact ⟨rfl, rfl⟩
      rw [hc, Bool.false_or]
      refine ⟨fun v h' => v = .bool (zT f x) ∧ h4 = h', ?_, ?_⟩
      · refine lx hf4 (j := 2) rfl ?_
        rw [asB_bool]
        refine cond_c (fun hc => ?_) (fun hc => ?_)
        · refine lx hb4 (j := 4) rfl ?_
          rw [asS_str, eqE]
          exact ⟨by rw [zT, hc]; rfl, rfl⟩
        · exact ⟨by rw [zT, hc]; rfl, rfl⟩
      rintro _ _ _ ⟨rfl, rfl⟩
      refine ⟨fun v h' => v = .bool (badF f x) ∧ h4 = h', ?_, fun _ _ _ hj => hj⟩
      rw [asB_bool]
      refine cond_c (fun c1 => ⟨by rw [badF, c1]; rfl, rfl⟩) (fun c1 => ?_)
      refine ⟨fun v h' => v = .bool (zN f x) ∧ h4 = h', ?_, ?_⟩
      · refine lx hf4 (j := 3) rfl ?_
        rw [asB_bool]
        refine cond_c (fun hc => ?_) (fun hc => ?_)
        · refine lx hb4 (j := 5) rfl ?_
          rw [asK_int]
          refine ⟨?_, rfl⟩
          rw [zN, hc]
          congr 1
          rw [Bool.eq_iff_iff]
          simp
        · exact ⟨by rw [zN, hc]; rfl, rfl⟩
      rintro _ _ _ ⟨rfl, rfl⟩
      refine ⟨fun v h' => v = .bool (badF f x) ∧ h4 = h', ?_, fun _ _ _ hj => hj⟩
      rw [asB_bool]
      refine cond_c (fun c2 => ⟨by rw [badF, c1, c2]; rfl, rfl⟩) (fun c2 => ?_)
      refine ⟨fun v h' => v = .bool (zE f x) ∧ h4 = h', ?_, ?_⟩
      · refine lx hf4 (j := 4) rfl ?_
        rw [asK_int]
        refine cond_c (fun hc => ?_) (fun hc => ?_)
        · refine lx hb4 (j := 6) rfl ?_
          refine he4.sl fun _ _ => ?_
          refine lx hf4 (j := 4) rfl ?_
          rw [asK_int]
          refine ⟨?_, rfl⟩
          have h0 : decide (0 ≤ f.e) = true := hc
          rw [zE, h0, Bool.true_and]
          congr 1
          rw [Bool.eq_iff_iff]
          simp
        · have h0 : decide (0 ≤ f.e) = false := hc
          exact ⟨by rw [zE, h0]; rfl, rfl⟩
      rintro _ _ _ ⟨rfl, rfl⟩
      refine ⟨fun v h' => v = .bool (badF f x) ∧ h4 = h', ?_, fun _ _ _ hj => hj⟩
      rw [asB_bool]
      refine cond_c (fun c3 => ⟨by rw [badF, c1, c2, c3]; rfl, rfl⟩) (fun c3 => ?_)
      refine ⟨fun v h' => v = .bool (zBo f x) ∧ h4 = h', ?_, ?_⟩
      · refine lx hf4 (j := 5) rfl ?_
        rw [asB_bool]
        refine cond_c (fun hc => ?_) (fun hc => ?_)
        · refine lx hb4 (j := 7) rfl ?_
          refine hbd4.sl fun _ _ => ?_
          refine ⟨?_, rfl⟩
          rw [zBo, hc, Bool.true_and]
          congr 1
          rw [Bool.eq_iff_iff]
          simp
        · exact ⟨by rw [zBo, hc]; rfl, rfl⟩
      rintro _ _ _ ⟨rfl, rfl⟩
      refine ⟨fun v h' => v = .bool (badF f x) ∧ h4 = h', ?_, fun _ _ _ hj => hj⟩
      rw [asB_bool]
      refine cond_c (fun c4 => ⟨by rw [badF, c1, c2, c3, c4]; rfl, rfl⟩) (fun c4 => ?_)
      refine ⟨fun v h' => v = .bool (zEl f x) ∧ h4 = h', ?_, ?_⟩
      · refine lx hf4 (j := 6) rfl ?_
        rw [asB_bool]
        refine cond_c (fun hc => ?_) (fun hc => ?_)
        · refine lx hb4 (j := 8) rfl ?_
          refine hel4.sl fun _ _ => ?_
          refine ⟨?_, rfl⟩
          rw [zEl, hc, Bool.true_and]
          congr 1
          rw [Bool.eq_iff_iff]
          simp
        · exact ⟨by rw [zEl, hc]; rfl, rfl⟩
      rintro _ _ _ ⟨rfl, rfl⟩
      refine ⟨fun v h' => v = .bool (badF f x) ∧ h4 = h', ?_, fun _ _ _ hj => hj⟩
      rw [asB_bool]
      refine cond_c (fun c5 => ⟨by rw [badF, c1, c2, c3, c4, c5]; rfl, rfl⟩) (fun c5 => ?_)
      refine ⟨fun v h' => v = .bool (zA f x) ∧ h4 = h', ?_, ?_⟩
      · refine lx hf4 (j := 0) rfl ?_
        rw [asB_bool]
        refine cond_c (fun hc => ?_) (fun hc => ?_)
        · refine lx hb4 (j := 2) rfl ?_
          rw [asS_str, eqE]
          exact ⟨by rw [zA, hc]; rfl, rfl⟩
        · exact ⟨by rw [zA, hc]; rfl, rfl⟩
      rintro _ _ _ ⟨rfl, rfl⟩
      refine ⟨fun v h' => v = .bool (badF f x) ∧ h4 = h', ?_, fun _ _ _ hj => hj⟩
      rw [asB_bool]
      refine cond_c (fun c6 => ⟨by rw [badF, c1, c2, c3, c4, c5, c6]; rfl, rfl⟩) (fun c6 => ?_)
      refine ⟨fun v h' => v = .bool (zB f x) ∧ h4 = h', ?_, ?_⟩
      · refine lx hf4 (j := 1) rfl ?_
        rw [asB_bool]
        refine cond_c (fun hc => ?_) (fun hc => ?_)
        · refine lx hb4 (j := 3) rfl ?_
          rw [asS_str, eqE]
          exact ⟨by rw [zB, hc]; rfl, rfl⟩
        · exact ⟨by rw [zB, hc]; rfl, rfl⟩
      rintro _ _ _ ⟨rfl, rfl⟩
      exact ⟨by rw [badF, c1, c2, c3, c4, c5, c6]; rfl, rfl⟩
    rintro _ _ _ ⟨rfl, rfl⟩
    refine ⟨fun h' => WS h0 b h' (n + 1) (wst (0, 0) (stE x n) n) ∧ KB b h4 h', ?_, fun _ _ hj => hj⟩
    rw [asB_bool]
    refine cond_c (fun hc => ?_) (fun hc => ?_)
    · refine CallX.use (fail_law ws4 (by decide)) ?_
      rintro _ h5 ⟨ws5, k5⟩
      rw [hEd, if_pos hc]
      exact ⟨ws5, k5⟩
    rw [if_neg (by rw [hc]; decide)] at hEd
    refine lx hb4 (j := 6) rfl ?_
    refine he4.sl fun _ _ => ?_
    refine ⟨fun h' => WS h0 b h' (n + 1) (wst (0, 0) (stE x n) n) ∧ KB b h4 h', ?_, fun _ _ hj => hj⟩
    rw [show decide ((x.e.length : Int) > 6) = decide (6 < x.e.length) by rw [Bool.eq_iff_iff]; simp; omega, hEd]
    exact fail_if ws4 (by decide) X
  rintro _ h5 ⟨ws5, k5⟩
  have hb5 := k5.get hb4 hL1
  have hf5 := k5.get hf4 hL2
  have kb5 := kb4.trans k5
  show ∃ v140, _
  refine ws5.code ?_
  rw [asK_int]
  refine cond_c (fun hc => ?_) (fun hc => ?_)
  · have hne := bne_iff_ne.1 hc
    have hE0 : stE x n ≠ 0 := fun h => by
      rw [h, wst_0] at hne
      exact hne rfl
    have hw : wst (0, 0) (stE x n) n = (stE x n, n) := if_pos ⟨rfl, hE0⟩
    rw [hw] at ws5
    refine ⟨n + 1, _, ws5, kb5, ?_, by omega, by omega⟩
    have h1 : stH x n deep = stE x n := by rw [hE', if_pos hE0]
    rw [stF_eq, h1, if_pos hE0]
    rfl
  have hE0 : stE x n = 0 := by
    have hp : (wst (0, 0) (stE x n) n).1 = 0 := by simpa using hc
    unfold wst at hp
    split at hp
    · exact hp
    · rename_i h
      simpa using h
  rw [hE0, wst_0] at ws5
  obtain ⟨hn3, ⟨f', hf'⟩, hbad, hl6⟩ := hgood hE0
  obtain rfl := hbody f' hf'
  have hSH : stH x n deep = stR f x deep := by rw [hE', if_neg (fun h => h hE0)]
  obtain ⟨bA, bB, bT, bN, bE, bBo, bEl⟩ := bad_all hbad
  refine lx hf5 (j := 0) rfl ?_
  refine lx hb5 (j := 2) rfl ?_
  refine CallX.use (wname_law ws5 f.a x.a ha n) ?_
  rintro _ h6 ⟨ws6, k6⟩
  have hb6 := k6.get hb5 hL1
  have hf6 := k6.get hf5 hL2
  have kb6 := kb5.trans k6
  refine lx hf6 (j := 1) rfl ?_
  refine lx hb6 (j := 3) rfl ?_
  refine CallX.use (wname_law ws6 f.b x.b hb n) ?_
  rintro _ h7 ⟨ws7, k7⟩
  have hb7 := k7.get hb6 hL1
  have hf7 := k7.get hf6 hL2
  have kb7 := kb6.trans k7
  rw [wst_or] at ws7
  refine ⟨fun v h' => v = .bool (f.t && !isTyB x.t 3) ∧ h7 = h', ?_, ?_⟩
  · refine lx hf7 (j := 2) rfl ?_
    rw [asB_bool]
    refine cond_c (fun hc => ?_) (fun hc => ?_)
    · refine lx hb7 (j := 4) rfl ?_
      refine CallX.use (Type_law x.t 3 hty h7) ?_
      rintro _ _ ⟨rfl, rfl⟩
      rw [hc]
      exact ⟨rfl, rfl⟩
    · rw [hc]
      exact ⟨rfl, rfl⟩
  rintro _ _ _ ⟨rfl, rfl⟩
  refine ⟨_, fail_if ws7 (by decide) X, ?_⟩
  rintro _ h8 ⟨ws8, k8⟩
  have hb8 := k8.get hb7 hL1
  have hf8 := k8.get hf7 hL2
  have kb8 := kb7.trans k8
  rw [wst_or] at ws8
  refine ⟨decide (x.n < 0 ∨ 1000000000000000000 ≤ x.n), ?_, fun _ => ?_⟩
  · refine lx hb8 (j := 5) rfl ?_
    rw [asK_int]
    refine cond_c (fun hc => ?_) (fun hc => ?_)
    · rw [decide_eq_true (.inl (of_decide_eq_true hc))]
      exact ⟨rfl, trivial⟩
    refine lx hb8 (j := 5) rfl ?_
    rw [asK_int]
    have := of_decide_eq_false hc
    refine ⟨?_, trivial⟩
    congr 1
    rw [Bool.eq_iff_iff]
    simp
    omega
  refine ⟨_, fail_if ws8 (by decide) X, ?_⟩
  rintro _ h9 ⟨ws9, k9⟩
  have hb9 := k9.get hb8 hL1
  have hf9 := k9.get hf8 hL2
  have kb9 := kb8.trans k9
  rw [wst_or] at ws9
  refine lx hb9 (j := 6) rfl ?_
  refine (he.keep ws9.k).sl fun _ _ => ?_
  generalize hacc : (orF (orF (orF (nmF f.a x.a) (nmF f.b x.b)) (if (f.t && !isTyB x.t 3) = true then 11 else 0)) (if decide (x.n < 0 ∨ 1000000000000000000 ≤ x.n) = true then 14 else 0)) = acc at ws9
  refine ⟨fun t h' => ∃ k : Nat, t = .int .i64 k ∧ k ≤ x.e.length ∧ WS h0 b h' (n + 1) (wst (0, 0) (orF acc (esF (x.e.take k))) n) ∧ KB b h9 h', fun t _ => match t with | .int _ k => x.e.length - k.toNat | _ => 0,
    ⟨0, rfl, by omega, by simpa [esF, orF_r] using ws9, Keep.refl _ _⟩, ?_⟩
  rintro _ _ h10 ⟨k, rfl, hk, ws10, k10⟩
  have hb10 := k10.get hb9 hL1
  have hf10 := k10.get hf9 hL2
  have kb10 := kb9.trans k10
  rw [asK_int]
  refine cond_c (fun hc => ?_) (fun hc => ?_)
  · have hkl : k < x.e.length := by
      have := of_decide_eq_true hc
      omega
    have hx := List.getElem?_eq_getElem hkl
    have hmem : x.e[k] ∈ x.e := List.getElem_mem hkl
    generalize x.e[k] = y at hx hmem
    have hyn := exsN_mem hmem
    have hyo := exsOk_mem hoe hmem
    refine he.rdC0 ws10.k hx fun w' hw' => ?_
    refine ⟨rfl, exC_one hw'.isSl, storeK_local (cs := exC y w') rfl ?_⟩
    have hc11 := hp_push_new (h := h10) (o := .cells (exC y w').toArray 36 (0, 0))
    have k11 := Keep.push (S := fun _ => False) h10 (.cells (exC y w').toArray 36 (0, 0))
    have hL3 : h10.size ≠ b := by have := ws10.blt; omega
    generalize h10.push (.cells (exC y w').toArray 36 (0, 0)) = h11 at *
    have ws11 := ws10.keep k11
    refine ⟨_, cellsH_blk hc11 rfl, ?_⟩
    refine CallX.use (terms_law _ y (Nat.lt_succ_self _) h11 w' 20 (hw'.keep ws11.k) (by decide) (by decide)) ?_
    rintro _ h12 ⟨⟨z, rfl, hz1, hz2, hz3, hz4⟩, k12⟩
    have hc12 := k12.get hc11 (by simp)
    have ws12 := ws11.keep k12
    rw [asK_int]
    have hq : decide (z < 0) = decide (20 < exN y) := by
      rw [Bool.eq_iff_iff]
      simp
      omega
    rw [hq]
    refine ⟨_, fail_if ws12 (by decide) X, ?_⟩
    rintro _ h13 ⟨ws13, k13⟩
    have hc13 := k13.get hc12 hL3
    refine ⟨_, cellsH_blk hc13 rfl, ?_⟩
    refine CallX.use (wexpr_law _ y (Nat.lt_succ_self _) (by omega) hyo h13 w' (n + 1) _ n hw' ws13) ?_
    rintro _ h14 ⟨ws14, k14⟩
    rw [asK_int, i64_in (by omega) (by omega)]
    refine ⟨⟨k + 1, by simp, by omega, ?_, (((k10.trans (KB.of k11)).trans (KB.of k12)).trans k13).trans k14⟩, by simp; omega⟩
    rw [wst_or, wst_or, orF_assoc] at ws14
    rw [tk_snoc hx, esF_snoc, eF1]
    simpa using ws14
  have hc := of_decide_eq_false hc
  obtain rfl : k = x.e.length := by omega
  rw [List.take_length] at ws10
  refine ⟨f.body && decide (8 ≤ deep), ?_, fun _ => ?_⟩
  · refine lx hf10 (j := 5) rfl ?_
    rw [asB_bool]
    refine cond_c (fun hc => ?_) (fun hc => ?_)
    · rw [hc, asK_int]
      refine ⟨?_, trivial⟩
      congr 1
      rw [Bool.eq_iff_iff]
      simp
      omega
    · rw [hc]
      exact ⟨rfl, trivial⟩
  refine ⟨_, fail_if ws10 (by decide) X, ?_⟩
  rintro _ h11 ⟨ws11, k11⟩
  have hb11 := k11.get hb10 hL1
  have kb11 := kb10.trans k11
  rw [wst_or, ← hacc] at ws11
  have hR : orF (orF (orF (orF (orF (nmF f.a x.a) (nmF f.b x.b)) (if (f.t && !isTyB x.t 3) = true then 11 else 0)) (if decide (x.n < 0 ∨ 1000000000000000000 ≤ x.n) = true then 14 else 0)) (esF x.e)) (if (f.body && decide (8 ≤ deep)) = true then 7 else 0) = stR f x deep := by
    simp only [orF_assoc, stR]
  rw [hR, ← hSH] at ws11
  refine lx hb11 (j := 7) rfl ?_
  rw [asK_int, i64_in (by omega) (by omega)]
  by_cases hS0 : stH x n deep = 0
  · rw [hS0, wst_0] at ws11
    have hdp : f.body = true → deep < 8 := fun hbo => by
      rw [hSH, stR] at hS0
      rcases Int.lt_or_le deep 8 with h8 | h8
      · exact h8
      · exfalso
        have := orF_z (orF_z (orF_z (orF_z (orF_z hS0).2).2).2).2
        rw [hbo, decide_eq_true h8] at this
        exact absurd this.2 (by decide)
    have hbe : x.body ≠ [] → f.body = true := fun hne => by
      have : 0 < x.body.length := List.length_pos_iff.2 hne
      unfold zBo at bBo
      rw [decide_eq_true this, Bool.and_true] at bBo
      simpa using bBo
    have hee : x.els ≠ [] → f.body = true := fun hne => by
      have : 0 < x.els.length := List.length_pos_iff.2 hne
      unfold zEl at bEl
      rw [decide_eq_true this, Bool.and_true] at bEl
      exact hels _ hf' (by simpa using bEl)
    refine CallX.use (hB h11 vb (n + 1) (0, 0) (deep + 1) hbd ws11 (by omega) (by omega) (.inr ⟨rfl, by omega, fun hne => by have := hdp (hbe hne); omega⟩) (by omega) (by omega)) ?_
    rintro _ h12 ⟨n1, p1, ws12, k12, hw1, hw2, hw3, hw4⟩
    have hb12 := k12.get hb11 hL1
    have kb12 := kb11.trans k12
    have hw2 := hw2 rfl
    refine lx hb12 (j := 8) rfl ?_
    rw [asK_int, i64_in (by omega) (by omega)]
    have hokb := stsF_ok x.body (n + 1) (deep + 1) (by omega)
    rw [stF_eq, if_neg (fun h => h hS0)]
    cases hr1 : stsF x.body (n + 1) (deep + 1) with
    | error e =>
      rw [hr1] at hw2 hokb
      have hw2 : p1 = e := hw2
      subst hw2
      refine CallX.use (hE h12 vl n1 p1 (deep + 1) hel ws12 hw3 hw4 (.inl hokb) (by omega) (by omega)) ?_
      rintro _ h13 ⟨n2, p2, ws13, k13, g1, g2, g3, g4⟩
      exact ⟨n2, p2, ws13, kb12.trans k13, g1 hokb, g3, g4⟩
    | ok m =>
      rw [hr1] at hw2 hokb
      obtain ⟨rfl, rfl⟩ := hw2
      refine CallX.use (hE h12 vl n1 (0, 0) (deep + 1) hel ws12 hw3 hw4 (.inr ⟨rfl, hokb.2, fun hne => by have := hdp (hee hne); omega⟩) (by omega) (by omega)) ?_
      rintro _ h13 ⟨n2, p2, ws13, k13, g1, g2, g3, g4⟩
      exact ⟨n2, p2, ws13, kb12.trans k13, g2 rfl, g3, g4⟩
  · have hw : wst (0, 0) (stH x n deep) n = (stH x n deep, n) := if_pos ⟨rfl, hS0⟩
    rw [hw] at ws11
    refine CallX.use (hB h11 vb (n + 1) _ (deep + 1) hbd ws11 (by omega) (by omega) (.inl hS0) (by omega) (by omega)) ?_
    rintro _ h12 ⟨n1, p1, ws12, k12, hw1, hw2, hw3, hw4⟩
    have hb12 := k12.get hb11 hL1
    have kb12 := kb11.trans k12
    obtain rfl := hw1 hS0
    refine lx hb12 (j := 8) rfl ?_
    rw [asK_int, i64_in (by omega) (by omega)]
    refine CallX.use (hE h12 vl n1 _ (deep + 1) hel ws12 hw3 hw4 (.inl hS0) (by omega) (by omega)) ?_
    rintro _ h13 ⟨n2, p2, ws13, k13, g1, g2, g3, g4⟩
    obtain rfl := g1 hS0
    refine ⟨n2, _, ws13, kb12.trans k13, ?_, g3, g4⟩
    rw [stF_eq, if_pos hS0]
    rfl
end
end Go.Proofs.YtkeeboomikkojaaGreatDoor

namespace Go.Proofs.YtkeeboomikkojaaGreatDoor
open Go Go.Sx Go.Sx.Tk Go.Sx.Rn Go.Proofs.YtkeeboomikkojaaGreatDoor.Sx

theorem fr_cases (r : FR) : (∃ m, r = .ok m) ∨ ∃ e, r = .error e := by cases r with
  | ok m => exact .inl ⟨m, rfl⟩
  | error e => exact .inr ⟨e, rfl⟩
section
variable {ω : Amb} {h0 : Hp} {b : Nat}
theorem wstop (l : List St) (h : Hp) (v : Value) (n : Int) (p : Int × Int) (deep : Int) (hs : StS h0 v l) (ws : WS h0 b h n p) (hp : p.1 ≠ 0) (X : List PanicEntry → Hp → Prop) :
    CallX Tryz.prog ω n_p_render_walker_stmts [wp b, v, .int .i64 deep] h (fun _ h' => h' = h) X := by
  refine C_p_render_walker_stmts ω _ _ _ h _ X ?_
  unfold W_p_render_walker_stmts
  refine ⟨fun t h' => t = .int .i64 0 ∧ h = h', fun _ _ => 0, ⟨rfl, rfl⟩, ?_⟩
  rintro _ _ _ ⟨rfl, rfl⟩
  refine ⟨false, ?_, fun _ => cond_f rfl rfl⟩
  refine (hs.keep ws.k).sl fun _ _ => ?_
  rw [asK_int]
  refine cond_c (fun hc => ?_) (fun hc => ?_)
  · show ∃ v, _
    refine ws.code ?_
    rw [asK_int]
    exact ⟨by rw [beq_eq_false_iff_ne.2 hp], rfl⟩
  · exact ⟨rfl, rfl⟩
theorem wstmts_law : ∀ (N : Nat) (l : List St), stsN l < N → stsN l ≤ 100000 → stsOk l → StmtsLaw ω h0 b l := by
  intro N
  induction N with
  | zero => exact fun l hN => absurd hN (Nat.not_lt_zero _)
  | succ N ih =>
    intro l hN hle hok h v n p deep hs ws hn0 hn1 hp hd0 hd1 X
    by_cases hp0 : p.1 ≠ 0
    · refine CallX.use (wstop l h v n p deep hs ws hp0) ?_
      rintro _ _ rfl
      exact ⟨n, p, ws, Keep.refl _ _, fun _ => rfl, fun he => absurd (by rw [he]) hp0, hn0, hn1⟩
    obtain ⟨rfl, hn3, hdp⟩ := hp.resolve_left hp0
    refine C_p_render_walker_stmts ω _ _ _ h _ X ?_
    unfold W_p_render_walker_stmts
    have hlen := stsN_len l
    refine ⟨fun t h' => ∃ (k : Nat) (n' : Int) (p' : Int × Int), t = .int .i64 k ∧ k ≤ l.length ∧ WS h0 b h' n' p' ∧ KB b h h' ∧ 0 ≤ n' ∧ n' ≤ 301 ∧
      ((p' = (0, 0) ∧ n' ≤ 300 ∧ stsF l n deep = stsF (l.drop k) n' deep) ∨ (p'.1 ≠ 0 ∧ stsF l n deep = .error p')),
      fun t _ => match t with | .int _ k => l.length - k.toNat | _ => 0, ⟨0, n, (0, 0), rfl, by omega, ws, Keep.refl _ _, hn0, hn1, .inl ⟨rfl, hn3, rfl⟩⟩, ?_⟩
    rintro _ _ h4 ⟨k, n', p', rfl, hk, ws4, k4, hn40, hn41, hq⟩
    refine ⟨decide (k < l.length ∧ p'.1 = 0), ?_, fun _ => cond_c (fun hc => ?_) (fun hc => ?_)⟩
    · refine (hs.keep ws4.k).sl fun _ _ => ?_
      rw [asK_int]
      refine cond_c (fun hc => ?_) (fun hc => ?_)
      · have := of_decide_eq_true hc
        show ∃ v, _
        refine ws4.code ?_
        rw [asK_int]
        refine ⟨?_, rfl⟩
        congr 1
        rw [Bool.eq_iff_iff]
        simp
        omega
      · have := of_decide_eq_false hc
        rw [decide_eq_false (by omega)]
        exact ⟨rfl, rfl⟩
    rotate_left
    · have hc := of_decide_eq_false hc
      refine ⟨n', p', ws4, k4, fun h => absurd rfl h, fun _ => ?_, hn40, hn41⟩
      rcases hq with ⟨rfl, hn', hq⟩ | ⟨hne, hq⟩
      · obtain rfl : k = l.length := by
          rcases Nat.lt_or_ge k l.length with h1 | h1
          · exact absurd ⟨h1, rfl⟩ hc
          · omega
        rw [hq, List.drop_length]
        exact ⟨rfl, rfl⟩
      · rw [hq]
        rfl
    obtain ⟨hkl, hp1⟩ := of_decide_eq_true hc
    obtain ⟨rfl, hn', hq⟩ := hq.resolve_right fun h => h.1 hp1
    have hx := List.getElem?_eq_getElem hkl
    have hdr := drop_at hx
    have hmem : l[k] ∈ l := List.getElem_mem hkl
    generalize l[k] = x at hx hmem hdr
    have hxn := stsN_mem hmem
    have hxe := stN_eq x
    have hxo := stsOk_mem hok hmem
    obtain ⟨_, _, _, _, hob, hoe⟩ := stOk_iff.1 hxo
    rw [hdr, stsF_cons] at hq
    refine hs.rdC0 ws4.k hx fun ve vb vl he hbd hel => ?_
    refine CallX.use (wstmt_law x (by omega) hxo (ih x.body (by omega) (by omega) hob) (ih x.els (by omega) (by omega) hoe) h4 ve vb vl n' deep he hbd hel ws4 hn40 hn' hd0 (hdp (List.ne_nil_of_mem hmem))) ?_
    rintro _ h5 ⟨n2, p2, ws5, k5, hr, g0, g1⟩
    have hok1 := stF_ok x n' deep hn'
    rw [asK_int, i64_in (by omega) (by omega)]
    refine ⟨⟨k + 1, n2, p2, by simp, by omega, ws5, k4.trans k5, g0, g1, ?_⟩, by simp; omega⟩
    rcases fr_cases (stF x n' deep) with ⟨m, hm⟩ | ⟨e, hm⟩
    · rw [hm] at hr hok1 hq
      obtain ⟨rfl, rfl⟩ := hr
      exact .inl ⟨rfl, hok1.2, hq⟩
    · rw [hm] at hr hok1 hq
      have hr : p2 = e := hr
      subst hr
      exact .inr ⟨hok1, hq⟩
theorem wstage_law (x : Sg) (hnm : x.nm.size ≤ 20000) (hps : ∀ q ∈ x.ps, okN q.1 ∧ okN q.2) (hpl : x.ps.length ≤ 100) (hle : stsN x.body ≤ 100000) (hob : stsOk x.body) (h : Hp) (vp vb : Value) (n at_ : Int) (hvp : PsS h0 vp x.ps) (hbd : StS h0 vb x.body)
    (ws : WS h0 b h n (0, 0)) (hn0 : 0 ≤ n) (hn1 : n ≤ 300) (X : List PanicEntry → Hp → Prop) :
    CallX Tryz.prog ω n_p_render_walker_stage [wp b, .agg (sgC x vp vb).toArray, .int .i64 at_] h (fun _ h' => ∃ n' p', WS h0 b h' n' p' ∧ KB b h h' ∧ wres (if sgH x ≠ 0 then .error (sgH x, at_) else stsF x.body n 1) n' p' ∧ 0 ≤ n' ∧ n' ≤ 301) X := by
  refine C_p_render_walker_stage ω _ _ _ h _ X ?_
  unfold W_p_render_walker_stage
  simp only [show Value.cells (.agg (sgC x vp vb).toArray) = (sgC x vp vb).toArray from rfl]
  have hblt := ws.blt
  have hb1 := hp_push_new (h := h) (o := .cells (sgC x vp vb).toArray 41 (0, 0))
  have kp := Keep.push (S := fun _ => False) h (.cells (sgC x vp vb).toArray 41 (0, 0))
  generalize h.push (.cells (sgC x vp vb).toArray 41 (0, 0)) = h1 at *
  have ws1 := ws.keep kp
  have kb1 := KB.of (b := b) kp
  have hL1 : h.size ≠ b := by omega
  refine lx hb1 (j := 0) rfl ?_
  refine CallX.use (Name_law x.nm hnm h1) ?_
  rintro _ _ ⟨rfl, rfl⟩
  rw [asB_bool]
  refine ⟨_, fail_if ws1 (by decide) X, ?_⟩
  rintro _ h2 ⟨ws2, k2⟩
  have hb2 := k2.get hb1 hL1
  have kb2 := kb1.trans k2
  refine lx hb2 (j := 2) rfl ?_
  refine SlAt.sl (hvp.1.keep ws2.k) fun _ _ => ?_
  rw [show decide ((x.ps.length : Int) > 6) = decide (6 < x.ps.length) by rw [Bool.eq_iff_iff]; simp; omega]
  refine ⟨_, fail_if ws2 (by decide) X, ?_⟩
  rintro _ h3 ⟨ws3, k3⟩
  have hb3 := k3.get hb2 hL1
  have kb3 := kb2.trans k3
  rw [wst_or] at ws3
  generalize hacc : orF (if (!isNameB x.nm) = true then 4 else 0) (if decide (6 < x.ps.length) = true then 8 else 0) = acc at ws3
  have hH : sgH x = orF acc (prsF x.ps) := by rw [← hacc, orF_assoc]; rfl
  have hz : ∀ c : Int, (wst (0, 0) c at_).1 = 0 ↔ c = 0 := fun c => by
    unfold wst
    by_cases hc : c = 0 <;> simp [hc]
  refine ⟨fun t h' => ∃ k : Nat, t = .int .i64 k ∧ k ≤ x.ps.length ∧ WS h0 b h' n (wst (0, 0) (orF acc (prsF (x.ps.take k))) at_) ∧ KB b h3 h' ,
    fun t _ => match t with | .int _ k => x.ps.length - k.toNat | _ => 0, ⟨0, rfl, by omega, by simpa [prsF, orF_r] using ws3, Keep.refl _ _⟩, ?_⟩
  rintro _ _ h4 ⟨k, rfl, hk, ws4, k4⟩
  have hb4 := k4.get hb3 hL1
  have kb4 := kb3.trans k4
  refine ⟨decide (k < x.ps.length ∧ orF acc (prsF (x.ps.take k)) = 0), ?_, fun _ => cond_c (fun hc => ?_) (fun hc => ?_)⟩
  · refine lx hb4 (j := 2) rfl ?_
    refine SlAt.sl (hvp.1.keep ws4.k) fun _ _ => ?_
    rw [asK_int]
    refine cond_c (fun hc => ?_) (fun hc => ?_)
    · have := of_decide_eq_true hc
      show ∃ v, _
      refine ws4.code ?_
      rw [asK_int]
      refine ⟨?_, trivial⟩
      congr 1
      rw [Bool.eq_iff_iff]
      simp only [beq_iff_eq, decide_eq_true_eq, hz]
      exact ⟨fun h => ⟨by omega, h⟩, fun h => h.2⟩
    · have := of_decide_eq_false hc
      rw [decide_eq_false (fun h => this (by have := h.1; omega))]
      exact ⟨rfl, trivial⟩
  · obtain ⟨hkl, _⟩ := of_decide_eq_true hc
    have hy := List.getElem?_eq_getElem hkl
    have hqm : x.ps[k] ∈ x.ps := List.getElem_mem hkl
    generalize x.ps[k] = q at hy hqm
    obtain ⟨hq1, hq2⟩ := hps q hqm
    have hq1 : q.1.size ≤ 20000 := Nat.le_trans hq1 (by omega)
    have hq2 : q.2.size ≤ 20000 := Nat.le_trans hq2 (by omega)
    refine ⟨fun h' => WS h0 b h' n (wst (0, 0) (orF acc (prsF (x.ps.take (k + 1)))) at_) ∧ KB b h3 h', ?_, ?_⟩
    · refine lx hb4 (j := 2) rfl ?_
      refine SlAt.rdT (f := pf) (hvp.1.keep ws4.k) pf_len hy (o := 0) rfl ?_
      refine CallX.use (Name_law q.1 hq1 h4) ?_
      rintro _ _ ⟨rfl, rfl⟩
      rw [asB_bool]
      refine ⟨_, fail_if ws4 (by decide) X, ?_⟩
      rintro _ h5 ⟨ws5, k5⟩
      have hb5 := k5.get hb4 hL1
      refine lx hb5 (j := 2) rfl ?_
      refine SlAt.rdT (f := pf) (hvp.1.keep ws5.k) pf_len hy (o := 1) rfl ?_
      refine CallX.use (Type_law q.2 3 hq2 h5) ?_
      rintro _ _ ⟨rfl, rfl⟩
      rw [asB_bool]
      refine ⟨_, fail_if ws5 (by decide) X, ?_⟩
      rintro _ h6 ⟨ws6, k6⟩
      rw [wst_or, wst_or, orF_assoc] at ws6
      rw [tk_snoc hy, prsF_snoc, prF, ← orF_assoc acc]
      rw [← orF_assoc acc] at ws6
      exact ⟨ws6, (k4.trans k5).trans k6⟩
    · rintro _ h7 ⟨ws7, k7⟩
      rw [asK_int, i64_in (by omega) (by omega)]
      exact ⟨⟨k + 1, by simp, by omega, ws7, k7⟩, by simp; omega⟩
  · have hc := of_decide_eq_false hc
    have hfin : orF acc (prsF (x.ps.take k)) = sgH x := by
      rcases Nat.lt_or_ge k x.ps.length with h1 | h1
      · have hne : orF acc (prsF (x.ps.take k)) ≠ 0 := fun h => hc ⟨h1, h⟩
        have := prsF_app (x.ps.take k) (x.ps.drop k)
        rw [List.take_append_drop] at this
        rw [hH, this, ← orF_assoc, orF_ne hne]
      · obtain rfl : k = x.ps.length := by omega
        rw [List.take_length, hH]
    rw [hfin] at ws4
    refine lx hb4 (j := 3) rfl ?_
    by_cases hS : sgH x = 0
    · rw [hS, wst_0] at ws4
      refine CallX.use (wstmts_law _ x.body (Nat.lt_succ_self _) hle hob h4 vb n (0, 0) 1 hbd ws4 hn0 (by omega) (.inr ⟨rfl, hn1, fun _ => by decide⟩) (by decide) (by decide)) ?_
      rintro _ h5 ⟨n2, p2, ws5, k5, _, g2, g3, g4⟩
      refine ⟨n2, p2, ws5, kb4.trans k5, ?_, g3, g4⟩
      rw [if_neg (fun h => h hS)]
      exact g2 rfl
    · have hw : wst (0, 0) (sgH x) at_ = (sgH x, at_) := if_pos ⟨rfl, hS⟩
      rw [hw] at ws4
      refine CallX.use (wstmts_law _ x.body (Nat.lt_succ_self _) hle hob h4 vb n _ 1 hbd ws4 hn0 (by omega) (.inl hS) (by decide) (by decide)) ?_
      rintro _ h5 ⟨n2, p2, ws5, k5, g1, _, g3, g4⟩
      refine ⟨n2, p2, ws5, kb4.trans k5, ?_, g3, g4⟩
      rw [if_pos hS]
      exact g1 hS
theorem check_law (p : List Sg) (hsm : Small p) (v : Value) (h : Hp) (hp : PgS h v p) (X : List PanicEntry → Hp → Prop) :
    CallX Tryz.prog ω n_render_check [v] h (fun r h' => r = .agg (flt (fltR (formP p)).1 (fltR (formP p)).2).toArray ∧ Keep (fun _ => False) h h') X := by
  obtain ⟨w0, rfl, hs⟩ := hp
  refine C_render_check ω _ h _ X ?_
  unfold W_render_check
  simp only [show Value.cells (.agg #[w0]) = [w0].toArray from rfl]
  have hlen := hsm.len
  have hb0 := hp_push_new (h := h) (o := .cells [w0].toArray 24 (0, 0))
  have k0 := Keep.push (S := fun _ => False) h (.cells [w0].toArray 24 (0, 0))
  have z0 : (h.push (.cells [w0].toArray 24 (0, 0))).size = h.size + 1 := by simp
  generalize h.push (.cells [w0].toArray 24 (0, 0)) = h1 at *
  have hb1 := hp_push_new (h := h1) (o := .cells (flt 0 0).toArray 28 (0, 0))
  have k1 := Keep.push (S := fun _ => False) h1 (.cells (flt 0 0).toArray 28 (0, 0))
  have z1 : (h1.push (.cells (flt 0 0).toArray 28 (0, 0))).size = h1.size + 1 := by simp
  simp only [show (Obj.cells #[(.int .i64 0), (.int .i64 0)] 28 (0, 0)) = Obj.cells (flt 0 0).toArray 28 (0, 0) from rfl]
  generalize h1.push (.cells (flt 0 0).toArray 28 (0, 0)) = h2 at *
  have hb2 := hp_push_new (h := h2) (o := .cells #[(.int .i64 0), (.int .i64 0), (.int .i64 0)] 116 (0, 0))
  have k2 := Keep.push (S := fun _ => False) h2 (.cells #[(.int .i64 0), (.int .i64 0), (.int .i64 0)] 116 (0, 0))
  generalize h2.push (.cells #[(.int .i64 0), (.int .i64 0), (.int .i64 0)] 116 (0, 0)) = h3 at *
  have hs2 := hs.keep (k0.trans k1)
  have ws3 : WS h2 h2.size h3 0 (0, 0) := ⟨k2, Nat.le_refl _, hb2⟩
  have hb0 := (k1.trans k2).get hb0 (by simp)
  have hb1 := k2.get hb1 (by simp)
  have hL0 : h.size ≠ h2.size := by omega
  have hL1 : h1.size ≠ h2.size := by omega
  refine lx hb0 (j := 0) rfl ?_
  refine (hs2.keep k2).sl fun _ _ => ?_
  refine ⟨_, fail_if ws3 (by decide) X, ?_⟩
  rintro _ h4 ⟨ws4, k4⟩
  have hb04 := k4.get hb0 hL0
  refine lx hb04 (j := 0) rfl ?_
  refine (hs2.keep ws4.k).sl fun _ _ => ?_
  refine ⟨_, fail_if ws4 (by decide) X, ?_⟩
  rintro _ h5 ⟨ws5, k5⟩
  rw [wst_or] at ws5
  have k35 := k4.trans k5
  refine ⟨fun t h' => ∃ (k : Nat) (n' : Int) (p' : Int × Int), t = .int .i64 k ∧ k ≤ p.length ∧ WS h2 h2.size h' n' p' ∧ KB h2.size h3 h' ∧ 0 ≤ n' ∧ n' ≤ 301 ∧
      ((p' = (0, 0) ∧ n' ≤ 300 ∧ formP p = sgsF (p.drop k) k n') ∨ (p'.1 ≠ 0 ∧ formP p = .error p')),
      fun t _ => match t with | .int _ k => p.length - k.toNat | _ => 0, ⟨0, 0, _, rfl, by omega, ws5, k35, by decide, by decide, ?_⟩, ?_⟩
  · unfold formP
    by_cases h0 : p.length = 0
    · refine .inr ⟨?_, ?_⟩
      · simp [h0, wst, orF]
      · rw [if_pos h0]
        simp [h0, wst, orF]
    · by_cases h10 : 10 < p.length
      · have h10' : (10 : Int) < p.length := by omega
        refine .inr ⟨?_, ?_⟩
        · simp [h0, h10', wst, orF]
        · rw [if_neg h0, if_pos h10]
          simp [h0, h10', wst, orF]
      · have h10' : ¬ (10 : Int) < p.length := by omega
        refine .inl ⟨?_, by decide, ?_⟩
        · simp [h0, h10', wst, orF]
        · rw [if_neg h0, if_neg h10]
          rfl
  clear ws3 ws4 ws5 k4 k5 k35 hb04
  rintro _ _ h6 ⟨k, n', p', rfl, hk, ws6, k6, hn0, hn1, hq⟩
  have hb06 := k6.get hb0 hL0
  have hb16 := k6.get hb1 hL1
  refine ⟨decide (k < p.length ∧ p'.1 = 0), ?_, fun _ => cond_c (fun hc => ?_) (fun hc => ?_)⟩
  · refine lx hb06 (j := 0) rfl ?_
    refine (hs2.keep ws6.k).sl fun _ _ => ?_
    rw [asK_int]
    refine cond_c (fun hc => ?_) (fun hc => ?_)
    · have := of_decide_eq_true hc
      refine ws6.code ?_
      rw [asK_int]
      refine ⟨?_, trivial⟩
      congr 1
      rw [Bool.eq_iff_iff]
      simp
      omega
    · have := of_decide_eq_false hc
      rw [decide_eq_false (by omega)]
      exact ⟨rfl, trivial⟩
  rotate_left
  · have hc := of_decide_eq_false hc
    have hfin : fltR (formP p) = p' := by
      rcases hq with ⟨rfl, hn', hq⟩ | ⟨hne, hq⟩
      · obtain rfl : k = p.length := by
          rcases Nat.lt_or_ge k p.length with h1 | h1
          · exact absurd ⟨h1, rfl⟩ hc
          · omega
        rw [hq, List.drop_length]
        rfl
      · rw [hq]
        rfl
    rw [hfin]
    refine ⟨flt p'.1 p'.2, ⟨rfl, fun j u hu => ?_⟩, rfl, flt_one _ _, finF hb16 rfl rfl fun h' kk hb' => ⟨rfl, ?_⟩⟩
    · rw [addr_add, addr_add, cellH_block ws6.wk]
      match j, hu with
      | 0, hu => exact hu
      | 1, hu => exact hu
      | j + 2, hu => simp [flt] at hu
    · refine newL (newL ((k0.trans k1).trans k2) (by omega) k6) (L := h1.size) (by omega) kk
  obtain ⟨hkl, hp1⟩ := of_decide_eq_true hc
  obtain ⟨rfl, hn', hq⟩ := hq.resolve_right fun h => h.1 hp1
  have hx := List.getElem?_eq_getElem hkl
  have hdr := drop_at hx
  have hmem : p[k] ∈ p := List.getElem_mem hkl
  generalize p[k] = x at hx hmem hdr
  obtain ⟨hnm, hpl, hpn, hbo⟩ := hsm.nm x hmem
  have hnm : x.nm.size ≤ 20000 := Nat.le_trans hnm (by omega)
  have hxb : stsN x.body ≤ 20000 := Nat.le_trans (sum_mem hmem) hsm.tot
  rw [hdr] at hq
  have hq : formP p = if sgH x ≠ 0 then .error (sgH x, -2 - k) else bindE (stsF x.body n' 1) fun n => sgsF (p.drop (k + 1)) (k + 1) n := hq
  refine lx hb06 (j := 0) rfl ?_
  refine hs2.rdC0 ws6.k hx fun vp vb hps hbd => ?_
  rw [asK_int, i64_in (by omega) (by omega)]
  refine CallX.use (wstage_law x hnm hpn hpl (by omega) hbo h6 vp vb n' (-2 - k) hps hbd ws6 hn0 hn') ?_
  rintro _ h7 ⟨n2, p2, ws7, k7, hr, g0, g1⟩
  rw [asK_int, i64_in (by omega) (by omega)]
  refine ⟨⟨k + 1, n2, p2, by simp, by omega, ws7, k6.trans k7, g0, g1, ?_⟩, by simp; omega⟩
  by_cases hS : sgH x = 0
  · rw [if_neg (fun h => h hS)] at hr hq
    have hok1 := stsF_ok x.body n' 1 hn'
    rcases fr_cases (stsF x.body n' 1) with ⟨m, hm⟩ | ⟨e, hm⟩
    · rw [hm] at hr hok1 hq
      obtain ⟨rfl, rfl⟩ := hr
      exact .inl ⟨rfl, hok1.2, hq⟩
    · rw [hm] at hr hok1 hq
      have hr : p2 = e := hr
      subst hr
      exact .inr ⟨hok1, hq⟩
  · rw [if_pos hS] at hr hq
    have hr : p2 = (sgH x, -2 - (k : Int)) := hr
    subst hr
    exact .inr ⟨hS, hq⟩
end
end Go.Proofs.YtkeeboomikkojaaGreatDoor
