/- Words for going through a formula; heaps; slices of one's own. -/
import Derived.Test.YtkeeboomikkojaaGreatDoorSxCore
namespace Go.Sx
variable {P : Program} {ω : Amb}

section looks
variable (F : Int → Prop)
@[simp] theorem asK_int (k : IntKind) (n : Int) : asK k (.int k n) F = F n := by cases k <;> rfl
@[simp] theorem asI_int (k : IntKind) (n : Int) : asI (.int k n) F = F n := rfl
end looks
theorem asK_int' : ∀ (k : IntKind) (n : Int) (F : Int → Prop), asK k (.int k n) F = F n := fun k _ _ => by cases k <;> rfl
@[simp] theorem asB_bool (b : Bool) (F : Bool → Prop) : asB (.bool b) F = F b := rfl
@[simp] theorem asP_some (a : Addr) (F : Addr → Prop) : asP (.pointer (some a)) F = F a := rfl
@[simp] theorem asPo_ptr (a : Option Addr) (F : Option Addr → Prop) : asPo (.pointer a) F = F a := rfl
@[simp] theorem asS_str (s : ByteArray) (F : ByteArray → Prop) : asS (.string s) F = F s := rfl
@[simp] theorem asSl_sl (a : Option Addr) (l c : Nat) (F : Option Addr → Nat → Nat → Prop) : asSl (.slice a l c) F = F a l c := rfl
@[simp] theorem asSl1_sl (a : Addr) (l c : Nat) (F : Addr → Nat → Nat → Prop) : asSl1 (.slice (some a) l c) F = F a l c := rfl
@[simp] theorem asA_agg (cs : Array Value) (F : Array Value → Prop) : asA (.agg cs) F = F cs := rfl
@[simp] theorem asT_tup (cs : Array Value) (F : Array Value → Prop) : asT (.tuple cs) F = F cs := rfl
@[simp] theorem asO_some (v : Value) (F : Value → Prop) : asO (some v) F = F v := rfl
@[simp] theorem nnK_ptr (a : Addr) (F : Prop) : nnK (.pointer (some a)) F = F := rfl
@[simp] theorem oneK_int (k : IntKind) (n : Int) (F : Prop) : oneK (.int k n) F = F := rfl
@[simp] theorem oneK_bool (b : Bool) (F : Prop) : oneK (.bool b) F = F := rfl
@[simp] theorem oneK_str (s : ByteArray) (F : Prop) : oneK (.string s) F = F := rfl
@[simp] theorem oneK_ptr (a : Option Addr) (F : Prop) : oneK (.pointer a) F = F := rfl
@[simp] theorem oneK_sl (a : Option Addr) (l c : Nat) (F : Prop) : oneK (.slice a l c) F = F := rfl
theorem oneK_of {v : Value} {F : Prop} (h : one v) (hf : F) : oneK v F := by cases v <;> first | exact hf | cases h
theorem oneK_eq {v : Value} {F : Prop} (h : one v) : oneK v F = F := by cases v <;> first | rfl | cases h
attribute [simp] addr_add

theorem cond_t {c : Bool} {A B : Prop} (hc : c = true) (ha : A) : cond c A B := by subst hc; exact ha
theorem cond_f {c : Bool} {A B : Prop} (hc : c = false) (hb : B) : cond c A B := by subst hc; exact hb
theorem cond_c {c : Bool} {A B : Prop} (ha : c = true → A) (hb : c = false → B) : cond c A B := by
  cases c
  · exact hb rfl
  · exact ha rfl
theorem ex_eq {α : Type} {a : α} {o : Option α} {F : α → Prop} (h : o = some a) (hf : F a) : ∃ v, o = some v ∧ F v := ⟨a, h, hf⟩

theorem i64_in {n : Int} (h1 : -9223372036854775808 ≤ n) (h2 : n ≤ 9223372036854775807) : IntKind.wrap .i64 n = n := by rw [IntKind.wrap_i64]; omega

/-! ### heaps -/
theorem hp_lt {h : Hp} {k : Nat} {o : Obj} (hk : h[k]? = some o) : k < h.size := (Array.getElem?_eq_some_iff.1 hk).1
theorem hp_push_old {h : Hp} {k : Nat} {o x : Obj} (hk : h[k]? = some x) : (h.push o)[k]? = some x := by
  rw [Array.getElem?_push, if_neg (by have := hp_lt hk; omega)]; exact hk
theorem hp_push_new {h : Hp} {o : Obj} : (Array.push h o)[Array.size h]? = some o := Array.getElem?_push_size
theorem hp_set_same {h : Hp} {k : Nat} {o x : Obj} (hk : h[k]? = some x) : (h.setIfInBounds k o)[k]? = some o := by
  rw [Array.getElem?_setIfInBounds_self_of_lt (hp_lt hk)]
theorem hp_set_ne {h : Hp} {k b : Nat} {o x : Obj} (hk : h[k]? = some x) (hne : k ≠ b) : (h.setIfInBounds b o)[k]? = some x := by
  rw [Array.getElem?_setIfInBounds_ne (Ne.symm hne)]; exact hk

/-- from h to h': nothing has gone, and only the blocks in S (and new ones) may have turned -/
structure Keep (S : Nat → Prop) (h h' : Hp) : Prop where
  size : h.size ≤ h'.size
  block : ∀ k, k < h.size → ¬ S k → h'[k]? = h[k]?
theorem Keep.refl (S : Nat → Prop) (h : Hp) : Keep S h h := ⟨Nat.le_refl _, fun _ _ _ => rfl⟩
theorem Keep.trans {S : Nat → Prop} {a b c : Hp} (h : Keep S a b) (k : Keep S b c) : Keep S a c :=
  ⟨Nat.le_trans h.size k.size, fun i hi hs => (k.block i (Nat.lt_of_lt_of_le hi h.size) hs).trans (h.block i hi hs)⟩
theorem Keep.mono {S S' : Nat → Prop} {a b : Hp} (h : Keep S a b) (hs : ∀ k, k < a.size → S k → S' k) : Keep S' a b := ⟨h.size, fun k hk hn => h.block k hk fun hh => hn (hs k hk hh)⟩
theorem Keep.get {S : Nat → Prop} {a b : Hp} (h : Keep S a b) {k : Nat} {o : Obj} (hk : a[k]? = some o) (hn : ¬ S k) : b[k]? = some o := (h.block k (hp_lt hk) hn).trans hk
theorem Keep.push {S : Nat → Prop} (h : Hp) (o : Obj) : Keep S h (h.push o) := ⟨by simp, fun k hk _ => by rw [Array.getElem?_push, if_neg (by omega)]⟩
theorem Keep.set {S : Nat → Prop} {h : Hp} {b : Nat} (o : Obj) (hb : S b) : Keep S h (h.setIfInBounds b o) := ⟨by simp, fun k _ hn => by
  rw [Array.getElem?_setIfInBounds_ne]; intro e; exact hn (e ▸ hb)⟩
theorem Keep.grown {S : Nat → Prop} {h h' : Hp} {row : Option Nat} (hg : GrownH h h' row) (hr : ∀ k, row = some k → k < h.size → S k) : Keep S h h' :=
  ⟨hg.size, fun k hk hn => hg.block k hk fun e => hn (hr k e.symm hk)⟩
/-- what was new stays new -/
theorem Keep.newer {S : Nat → Prop} {a b c : Hp} (h : Keep S a b) (k : Keep (fun i => S i ∨ a.size ≤ i) b c) : Keep S a c :=
  ⟨Nat.le_trans h.size k.size, fun i hi hs => (k.block i (Nat.lt_of_lt_of_le hi h.size) (fun hh => hh.elim hs (by omega))).trans (h.block i hi hs)⟩

/-! ### slices of one's own -/
theorem OwnH.nil {h : Hp} {base : Nat} {e : TypeId} {size : Nat} : OwnH h base e size (.slice none 0 0) 0 [] := ⟨by simp, .inl ⟨rfl, rfl⟩⟩
theorem OwnH.lt {h : Hp} {base : Nat} {e : TypeId} {size : Nat} {v : Value} {n : Nat} {xs : List Value} (ho : OwnH h base e size v n xs) : ∀ k, v.ownBlock = some k → base ≤ k ∧ k < h.size := by
  intro k hk
  rcases ho.2 with ⟨rfl, _⟩ | ⟨g, o, cap, cur, rfl, hb, hg, _⟩
  · simp [Value.ownBlock] at hk
  · simp [Value.ownBlock] at hk
    subst hk
    exact ⟨hb, hp_lt hg⟩
theorem OwnH.keep {h h' : Hp} {base : Nat} {e : TypeId} {size : Nat} {v : Value} {n : Nat} {xs : List Value} (ho : OwnH h base e size v n xs)
    (hk : ∀ k, v.ownBlock = some k → k < h.size → h'[k]? = h[k]?) : OwnH h' base e size v n xs := by
  refine ⟨ho.1, ?_⟩
  rcases ho.2 with hn | ⟨g, o, cap, cur, rfl, hb, hg, rest⟩
  · exact .inl hn
  · exact .inr ⟨g, o, cap, cur, rfl, hb, by rw [hk g rfl (hp_lt hg)]; exact hg, rest⟩
theorem OwnH.push {h : Hp} {base : Nat} {e : TypeId} {size : Nat} {v : Value} {n : Nat} {xs : List Value} (ho : OwnH h base e size v n xs) (o : Obj) : OwnH (h.push o) base e size v n xs :=
  ho.keep fun k _ hk => by rw [Array.getElem?_push, if_neg (by omega)]
theorem OwnH.base {h : Hp} {base base' : Nat} {e : TypeId} {size : Nat} {v : Value} {n : Nat} {xs : List Value} (ho : OwnH h base e size v n xs) (hb : base' ≤ base) : OwnH h base' e size v n xs :=
  ⟨ho.1, ho.2.imp id fun ⟨g, o, cap, cur, h1, h2, r⟩ => ⟨g, o, cap, cur, h1, Nat.le_trans hb h2, r⟩⟩
/-- a slice that owns its row: its shape, and its cells -/
theorem OwnH.shape {h : Hp} {base : Nat} {e : TypeId} {size : Nat} {v : Value} {n : Nat} {xs : List Value} (ho : OwnH h base e size v n xs) :
    (v = .slice none 0 0 ∧ n = 0 ∧ xs = []) ∨ ∃ g o cap, v = .slice (some ⟨g, o, none⟩) n cap ∧ g < h.size ∧ base ≤ g ∧ n ≤ cap ∧ ∀ j u, xs[j]? = some u → cellH h ⟨g, o + j, none⟩ = some u := by
  rcases ho.2 with ⟨rfl, rfl⟩ | ⟨g, o, cap, cur, rfl, hb, hg, hnc, _, _, hx⟩
  · exact .inl ⟨rfl, rfl, List.eq_nil_of_length_eq_zero (by simpa using ho.1)⟩
  · refine .inr ⟨g, o, cap, rfl, hp_lt hg, hb, hnc, fun j u hu => ?_⟩
    have := own_cells hg hx j u hu
    rwa [addr_add] at this

/-- the closed facts of a slice type that an append wants: element, cells, bytes -/
def appFacts (P : Program) (t : TypeId) : Option (TypeId × Nat × Nat) :=
  match P.underlying t with
  | some (.slice el) => match P.info? el with
    | some i => match i.zero with
      | some z => cond (z.cells.size == i.size && Nat.blt 0 i.size) (some (el, i.size, i.bytes)) none
      | none => none
    | none => none
  | _ => none

theorem appK_of {t el sz bt : Nat} (hf : appFacts P t = some (el, sz, bt)) {h : Hp} {s x : Value} {K : Value → Hp → Prop} {base n m : Nat} {xs news : List Value}
    (hown : OwnH h base el sz s n xs) (hnews : newsAt h x m sz news) (h1 : ∀ u ∈ news, one u) (hmax : n + m ≤ 4611686018427387904) (hby : (n + m) * bt ≤ 140737488355328) (hb : base ≤ h.size)
    (hk : ∀ v' h', OwnH h' base el sz v' (n + m) (xs ++ news) → GrownH h h' s.ownBlock → (v' = .slice none 0 0 ↔ s = .slice none 0 0 ∧ m = 0) → (∀ k, v'.ownBlock = some k → s.ownBlock = some k ∨ h.size ≤ k) → K v' h') : appK P t h s x K := by
  unfold appFacts at hf
  unfold appK
  split at hf <;> try cases hf
  rename_i el' hu
  split at hf <;> try cases hf
  rename_i i hi
  split at hf <;> try cases hf
  rename_i z hz
  cases hc : (z.cells.size == i.size && Nat.blt 0 i.size) with
  | false => rw [hc] at hf; cases hf
  | true =>
    rw [hc] at hf
    cases hf
    simp only [hu, hi, hz, hc, cond_true]
    exact ⟨base, n, xs, m, news, hown, hnews, h1, by simp only [maxLen]; omega, hby, hb, hk⟩

/-- ONE ELEMENT APPENDED: 's = append(s, x)' -/
theorem appK_one {t el sz bt : Nat} (hf : appFacts P t = some (el, sz, bt)) {h : Hp} {s : Value} {K : Value → Hp → Prop} {base n : Nat} {xs cs : List Value}
    (hown : OwnH h base el sz s n xs) (hl : cs.length = sz) (h1 : ∀ u ∈ cs, one u) (hmax : n + 1 ≤ 4611686018427387904) (hby : (n + 1) * bt ≤ 140737488355328) (hb : base ≤ h.size)
    (hk : ∀ v' h', OwnH h' base el sz v' (n + 1) (xs ++ cs) → GrownH h h' s.ownBlock → v' ≠ .slice none 0 0 → (∀ k, v'.ownBlock = some k → s.ownBlock = some k ∨ h.size ≤ k) → K v' h') :
    appK P t (h.push (.cells cs.toArray el (0, 0))) s (.slice (some ⟨h.size, 0, none⟩) 1 1) K := by
  refine appK_of hf (hown.push _) (m := 1) (news := cs) ⟨by simpa using hl, .inr ⟨_, _, rfl, fun j u hu => ?_⟩⟩ h1 hmax hby (by simp; omega) fun v' h' h2 h3 h4 h5 => hk v' h' h2 ⟨?_, fun k hk hn => ?_⟩ (by rw [Ne, h4]; simp) (fun k hk => (h5 k hk).imp id (fun hh => by simp at hh; omega))
  · rw [addr_add, cellH_block hp_push_new, Nat.zero_add]; simpa using hu
  · have := h3.size; simp at this; omega
  · rw [h3.block k (by simp; omega) hn, Array.getElem?_push, if_neg (by omega)]

/-- a slice that is only read: its cells -/
def SlAt (h : Hp) (size : Nat) (v : Value) (n : Nat) (xs : List Value) : Prop :=
  xs.length = n * size ∧ ((n = 0 ∧ ∃ a c, v = .slice a 0 c) ∨ ∃ b o cap, v = .slice (some ⟨b, o, none⟩) n cap ∧ ∀ j u, xs[j]? = some u → cellH h ⟨b, o + j, none⟩ = some u)
theorem cellH_lt {h : Hp} {a : Addr} {u : Value} (hc : cellH h a = some u) : a.block < h.size := by
  unfold cellH at hc
  split at hc
  · exact hp_lt ‹_›
  · cases hc
theorem Keep.cell {S : Nat → Prop} {h h' : Hp} (hk : Keep S h h') {a : Addr} {u : Value} (hc : cellH h a = some u) (hn : ¬ S a.block) : cellH h' a = some u := by
  have := hk.block a.block (cellH_lt hc) hn
  unfold cellH at *
  rw [this]; exact hc
theorem SlAt.keep {h h' : Hp} {size : Nat} {v : Value} {n : Nat} {xs : List Value} (hs : SlAt h size v n xs) (hk : Keep (fun _ => False) h h') : SlAt h' size v n xs :=
  ⟨hs.1, hs.2.imp id fun ⟨b, o, cap, hv, hc⟩ => ⟨b, o, cap, hv, fun j u hu => hk.cell (hc j u hu) (by simp)⟩⟩
theorem OwnH.slAt {h : Hp} {base : Nat} {e : TypeId} {size : Nat} {v : Value} {n : Nat} {xs : List Value} (ho : OwnH h base e size v n xs) : SlAt h size v n xs := by
  rcases ho.shape with ⟨rfl, rfl, rfl⟩ | ⟨g, o, cap, rfl, _, _, _, hc⟩
  · exact ⟨by simp, .inl ⟨rfl, _, _, rfl⟩⟩
  · exact ⟨ho.1, .inr ⟨g, o, cap, rfl, hc⟩⟩

theorem SlAt.sl {h : Hp} {size : Nat} {v : Value} {n : Nat} {xs : List Value} (hs : SlAt h size v n xs) {F : Option Addr → Nat → Nat → Prop} (hf : ∀ a c, F a n c) : asSl v F := by
  rcases hs.2 with ⟨rfl, a, c, rfl⟩ | ⟨b, o, cap, rfl, _⟩
  · exact hf _ _
  · exact hf _ _
/-- an element of one cell -/
theorem SlAt.rd1 {h : Hp} {v : Value} {n : Nat} {xs : List Value} (hs : SlAt h 1 v n xs) {i : Nat} {u : Value} (hu : xs[i]? = some u) {K : Value → Prop} (hk : K u) :
    asSl1 v fun a l _ => 0 ≤ (i : Int) ∧ (i : Int) < (l : Int) ∧ ∃ w, cellH h (Addr.add a (Int.toNat (i : Int) * 1)) = some w ∧ K w := by
  have hi : i < xs.length := by
    rcases Nat.lt_or_ge i xs.length with h' | h'
    · exact h'
    · rw [List.getElem?_eq_none h'] at hu; cases hu
  have hl := hs.1
  rcases hs.2 with ⟨rfl, a, c, rfl⟩ | ⟨b, o, cap, rfl, hc⟩
  · omega
  · refine ⟨by omega, by omega, u, ?_, hk⟩
    rw [addr_add, Int.toNat_natCast, Nat.mul_one]
    exact hc i u hu

/-- a field of an element of several cells -/
theorem SlAt.rdF {h : Hp} {v : Value} {n sz : Nat} {xs : List Value} (hs : SlAt h sz v n xs) {i off : Nat} {u : Value} (hi : i < n) (hu : xs[i * sz + off]? = some u) {K : Value → Prop} (hk : K u) :
    asSl1 v fun a l _ => 0 ≤ (i : Int) ∧ (i : Int) < (l : Int) ∧ ∃ w, cellH h (Addr.add (Addr.add a (Int.toNat (i : Int) * sz)) off) = some w ∧ K w := by
  rcases hs.2 with ⟨rfl, a, c, rfl⟩ | ⟨b, o, cap, rfl, hc⟩
  · omega
  · refine ⟨by omega, by omega, u, ?_, hk⟩
    rw [addr_add, addr_add, Int.toNat_natCast, Nat.add_assoc]
    exact hc _ u hu

/-- the closed facts of a slice type that a make wants -/
theorem makeK_of {t el sz bt : Nat} (hf : appFacts P t = some (el, sz, bt)) {h : Hp} {n : Int} {k1 k2 : IntKind} {z : List Value} (hz : zeroOf P el = some z) {K : Value → Hp → Prop} (h0 : 0 ≤ n) (hmax : n ≤ 4611686018427387904) (hby : (bt : Int) * n ≤ 281474976710656)
    (hk : K (.slice (some ⟨h.size, 0, none⟩) n.toNat n.toNat) (h.push (.cells (zeroRow z n.toNat) el (0, 0)))) : makeK P t h (.int k1 n) (.int k2 n) K := by
  unfold appFacts at hf
  unfold makeK
  split at hf <;> try cases hf
  rename_i el' hu
  split at hf <;> try cases hf
  rename_i i hi
  split at hf <;> try cases hf
  rename_i z' hz'
  cases hc : (z'.cells.size == i.size && Nat.blt 0 i.size) with
  | false => rw [hc] at hf; cases hf
  | true =>
    rw [hc] at hf
    cases hf
    simp only [Bool.and_eq_true] at hc
    simp only [hu, hi, hz', hc.1, cond_true, asI_int]
    simp only [zeroOf, hi, hz', Option.some.injEq] at hz
    subst hz
    exact ⟨trivial, h0, by omega, hby, hk⟩

theorem szK_of {t el sz bt : Nat} (hf : appFacts P t = some (el, sz, bt)) {F : Nat → Prop} (h : F sz) : szK P el F := by
  unfold appFacts at hf
  split at hf <;> try cases hf
  split at hf <;> try cases hf
  rename_i i hi
  split at hf <;> try cases hf
  rename_i z hz
  cases hc : (z.cells.size == i.size && Nat.blt 0 i.size) with
  | false => rw [hc] at hf; cases hf
  | true =>
    rw [hc] at hf
    cases hf
    simp only [szK, hi]
    exact h
theorem und_of {t el sz bt : Nat} (hf : appFacts P t = some (el, sz, bt)) : P.underlying t = some (.slice el) := by
  unfold appFacts at hf
  split at hf <;> try cases hf
  rename_i el' hu
  split at hf <;> try cases hf
  split at hf <;> try cases hf
  rename_i i hi _ z hz
  cases hc : (z.cells.size == i.size && Nat.blt 0 i.size) with
  | false => rw [hc] at hf; cases hf
  | true => rw [hc] at hf; cases hf; exact hu

/-- copy into a row with room for all -/
theorem copyK_of {t el sz bt : Nat} (hf : appFacts P t = some (el, sz, bt)) {h : Hp} {g o dl dc e n base : Nat} {cur : Array Value} {src : Value} {xs : List Value} {K : Value → Hp → Prop}
    (hown : OwnH h base el sz src n xs) (hle : n ≤ dl) (h1 : ∀ u ∈ xs, one u) (hb : h[g]? = some (.cells cur e (0, 0))) (hfit : o + xs.length ≤ cur.size)
    (hk : K (.int .i64 n) (h.setIfInBounds g (.cells (spl cur o xs) e (0, 0)))) : copyK P t h (.slice (some ⟨g, o, none⟩) dl dc) src K := by
  unfold copyK
  rw [und_of hf]
  refine szK_of hf ?_
  simp only [asSl1_sl]
  have hl := hown.1
  rcases hown.shape with ⟨rfl, rfl, rfl⟩ | ⟨g', o', cap, rfl, _, _, _, hc⟩
  · exact ⟨[], by simp, rfl, by simp, cur, e, hb, rfl, by simpa using hfit, by simpa using hk⟩
  · refine ⟨xs, by rw [hl]; congr 1; exact (Nat.min_eq_left hle).symm, fun j u hu => ?_, h1, cur, e, hb, rfl, hfit, ?_⟩
    · rw [addr_add]; exact hc j u hu
    · rw [show Nat.min n dl = n from Nat.min_eq_left hle]; exact hk

theorem spl_get {cur : Array Value} {o : Nat} {cs : List Value} {j : Nat} (h : o + cs.length ≤ cur.size) : (spl cur o cs)[j]? = if j < o then cur[j]? else if j < o + cs.length then cs[j - o]? else cur[j]? := by
  simp only [spl, List.getElem?_toArray]
  have hl : (cur.toList.take o).length = o := by simp; omega
  by_cases h1 : j < o
  · rw [if_pos h1, List.getElem?_append_left (by omega), List.getElem?_take, if_pos h1]; simp
  · rw [if_neg h1, List.getElem?_append_right (by omega), hl]
    by_cases h2 : j < o + cs.length
    · rw [if_pos h2, List.getElem?_append_left (by omega)]
    · rw [if_neg h2, List.getElem?_append_right (by omega), List.getElem?_drop]
      rw [show o + cs.length + (j - o - cs.length) = j by omega]; simp
theorem spl_size {cur : Array Value} {o : Nat} {cs : List Value} (h : o + cs.length ≤ cur.size) : (spl cur o cs).size = cur.size := by
  simp only [spl, List.size_toArray, List.length_append, List.length_take, List.length_drop, Array.length_toList]; omega

/-- a store of one cell into a block that is known -/
theorem storeK1_of {h : Hp} {b o : Nat} {cur : Array Value} {t : TypeId} {v : Value} {K : Hp → Prop} (hb : h[b]? = some (.cells cur t (0, 0))) (ho : o < cur.size)
    (hk : K (h.setIfInBounds b (.cells (cur.setIfInBounds o v) t (0, 0)))) : storeK1 h ⟨b, o, none⟩ v K := ⟨cur, t, hb, rfl, ho, hk⟩
theorem storeK_of {h : Hp} {b o : Nat} {cur : Array Value} {t : TypeId} {cs : List Value} {K : Hp → Prop} (hb : h[b]? = some (.cells cur t (0, 0))) (ho : o + cs.length ≤ cur.size)
    (hk : K (h.setIfInBounds b (.cells (spl cur o cs) t (0, 0)))) : storeK h ⟨b, o, none⟩ cs K := ⟨cur, t, hb, rfl, ho, hk⟩

theorem zeroRow_one (z : Value) (n : Nat) : zeroRow [z] n = Array.replicate n z := by
  apply Array.ext'
  apply List.ext_getElem
  · simp [zeroRow]
  · intro i h1 h2
    simp [zeroRow, Nat.mod_one]

/-- a call by its contract -/
theorem CallX.use {f : FuncId} {args : List Value} {h : Hp} {R R' : Value → Hp → Prop} {X : List PanicEntry → Hp → Prop} (hc : ∀ Y, CallX P ω f args h R Y) (hr : ∀ v h', R v h' → R' v h') : CallX P ω f args h R' X :=
  (hc X).mono hr (fun _ _ h => h)

/-- the everyday rewritings, under one name -/
theorem ld : (∀ b o n : Nat, (⟨b, o, none⟩ : Addr).add n = ⟨b, o + n, none⟩) ∧ (∀ n : Nat, 0 + n = n) ∧ (∀ (l : List Value) (i : Nat), l.toArray[i]? = l[i]?) ∧
    (∀ (a : Value) (l : List Value), (a :: l)[0]? = some a) ∧ (∀ (a : Value) (l : List Value) (i : Nat), (a :: l)[i + 1]? = l[i]?) ∧
    (∀ a b : Value, (some a = some b) = (a = b)) ∧ (∀ (p : Value → Prop) (a : Value), (∃ v, a = v ∧ p v) = p a) ∧
    (∀ (k : IntKind) (n : Int) (F : Int → Prop), asK k (.int k n) F = F n) ∧ (∀ (k : IntKind) (n : Int) (F : Int → Prop), asI (.int k n) F = F n) ∧
    (∀ (b : Bool) (F : Bool → Prop), asB (.bool b) F = F b) ∧ (∀ (a : Addr) (F : Addr → Prop), asP (.pointer (some a)) F = F a) ∧
    (∀ (a : Option Addr) (F : Option Addr → Prop), asPo (.pointer a) F = F a) ∧ (∀ (s : ByteArray) (F : ByteArray → Prop), asS (.string s) F = F s) ∧
    (∀ (a : Option Addr) (l c : Nat) (F : Option Addr → Nat → Nat → Prop), asSl (.slice a l c) F = F a l c) ∧
    (∀ (a : Addr) (l c : Nat) (F : Addr → Nat → Nat → Prop), asSl1 (.slice (some a) l c) F = F a l c) ∧
    (∀ (cs : Array Value) (F : Array Value → Prop), asA (.agg cs) F = F cs) ∧ (∀ (cs : Array Value) (F : Array Value → Prop), asT (.tuple cs) F = F cs) ∧
    (∀ (v : Value) (F : Value → Prop), asO (some v) F = F v) ∧ (∀ (a : Addr) (F : Prop), nnK (.pointer (some a)) F = F) ∧
    (∀ (k : IntKind) (n : Int) (F : Prop), oneK (.int k n) F = F) ∧ (∀ (b : Bool) (F : Prop), oneK (.bool b) F = F) ∧ (∀ (s : ByteArray) (F : Prop), oneK (.string s) F = F) ∧
    (∀ (a : Option Addr) (F : Prop), oneK (.pointer a) F = F) ∧ (∀ (a : Option Addr) (l c : Nat) (F : Prop), oneK (.slice a l c) F = F) ∧
    (∀ n : Nat, Int.toNat (n : Int) = n) ∧ (∀ n : Nat, n * 1 = n) :=
  ⟨addr_add, Nat.zero_add, fun _ _ => List.getElem?_toArray, fun _ _ => rfl, fun _ _ _ => rfl, fun _ _ => by simp, fun _ _ => by simp, asK_int' , fun _ _ _ => rfl, fun _ _ => rfl, fun _ _ => rfl, fun _ _ => rfl, fun _ _ => rfl,
    fun _ _ _ _ => rfl, fun _ _ _ _ => rfl, fun _ _ => rfl, fun _ _ => rfl, fun _ _ => rfl, fun _ _ => rfl, fun _ _ _ => rfl, fun _ _ => rfl, fun _ _ => rfl, fun _ _ => rfl, fun _ _ _ _ => rfl, Int.toNat_natCast, Nat.mul_one⟩
theorem st : (∀ (l : List Value) (i : Nat) (v : Value), l.toArray.setIfInBounds i v = (l.set i v).toArray) ∧ (∀ (a v : Value) (l : List Value), (a :: l).set 0 v = v :: l) ∧
    (∀ (a v : Value) (l : List Value) (i : Nat), (a :: l).set (i + 1) v = a :: l.set i v) := ⟨fun _ _ _ => by simp, fun _ _ _ => rfl, fun _ _ _ _ => rfl⟩

end Go.Sx
