/- Statements as texts, as the document has them: the plain side. -/
import Derived.Test.YtaehnpilebkcoaaDoorRn5
namespace Go.Proofs.YtaehnpilebkcoaaDoor
open Go Go.Sx Go.Sx.Tk Go.Sx.Rn Go.Proofs.YtaehnpilebkcoaaDoor.Sx

def wdL (d : Int) : List UInt8 :=
  if d = 1 then [108, 101, 116]
  else if d = 2 then [115, 101, 116]
  else if d = 3 then [101, 109, 105, 116]
  else if d = 4 then [99, 104, 97, 110]
  else if d = 5 then [99, 108, 111, 110, 101]
  else if d = 6 then [115, 101, 110, 100]
  else if d = 7 then [99, 108, 111, 115, 101]
  else if d = 8 then [97, 98, 97, 110, 100, 111, 110]
  else if d = 9 then [100, 114, 97, 105, 110]
  else if d = 10 then [115, 112, 97, 119, 110]
  else if d = 11 then [116, 97, 107, 101]
  else if d = 12 then [102, 111, 114]
  else if d = 13 then [114, 101, 112, 101, 97, 116]
  else if d = 14 then [105, 102]
  else []
def wdT : List Value := [(.string ⟨#[]⟩), (.string ⟨#[108, 101, 116]⟩), (.string ⟨#[115, 101, 116]⟩), (.string ⟨#[101, 109, 105, 116]⟩), (.string ⟨#[99, 104, 97, 110]⟩), (.string ⟨#[99, 108, 111, 110, 101]⟩), (.string ⟨#[115, 101, 110, 100]⟩), (.string ⟨#[99, 108, 111, 115, 101]⟩), (.string ⟨#[97, 98, 97, 110, 100, 111, 110]⟩), (.string ⟨#[100, 114, 97, 105, 110]⟩), (.string ⟨#[115, 112, 97, 119, 110]⟩), (.string ⟨#[116, 97, 107, 101]⟩), (.string ⟨#[102, 111, 114]⟩), (.string ⟨#[114, 101, 112, 101, 97, 116]⟩), (.string ⟨#[105, 102]⟩)]
theorem wd_at : ∀ k : Nat, k < 15 → wdT[k]? = some (.string (bs (wdL (k : Int))))
  | 0, _ => rfl
  | 1, _ => rfl
  | 2, _ => rfl
  | 3, _ => rfl
  | 4, _ => rfl
  | 5, _ => rfl
  | 6, _ => rfl
  | 7, _ => rfl
  | 8, _ => rfl
  | 9, _ => rfl
  | 10, _ => rfl
  | 11, _ => rfl
  | 12, _ => rfl
  | 13, _ => rfl
  | 14, _ => rfl
  | k + 15, h => absurd h (by omega)
def p1R (x : St) : List UInt8 := if emp x.a then [] else [32] ++ bytesOf x.a
def p2R (x : St) : List UInt8 := if x.d = 1 ∨ x.d = 2 then [32, 61] else []
def p3R (x : St) : List UInt8 := if x.d = 11 ∨ x.d = 12 then [32, 102, 114, 111, 109] else []
def p4R (x : St) : List UInt8 := if emp x.b then [] else [32] ++ bytesOf x.b
def p5R (x : St) : List UInt8 := if x.d = 4 then [32] ++ kindL x.t ++ [32] ++ Lib.itoa x.n else []
def p6R (x : St) : List UInt8 := if x.d = 10 then [40] else []
def esR (d : Int) : List Ex → List UInt8
  | [] => []
  | x :: r => (if d = 10 then [] else [32]) ++ listT (x :: r)
def p7R (x : St) : List UInt8 := if x.d = 10 then [41] else []
theorem join_snoc (sep : List UInt8) (l : List (List UInt8)) (y : List UInt8) : Lib.join (l ++ [y]) sep = if l.length = 0 then y else Lib.join l sep ++ sep ++ y := by
  cases l with
  | nil => simp [Lib.join_one]
  | cons a r =>
    rw [if_neg (by simp), List.cons_append, Lib.join_cons, Lib.join_cons]
    unfold Lib.joinTail
    simp
theorem listT_snoc (l : List Ex) (y : Ex) : listT (l ++ [y]) = if l.length = 0 then exT y else listT l ++ [44, 32] ++ exT y := by
  unfold listT
  rw [List.map_append, List.map_singleton, join_snoc, List.length_map]
theorem esR_snoc (d : Int) (l : List Ex) (y : Ex) : esR d (l ++ [y]) = esR d l ++ ((if 0 < l.length then [44, 32] else if d = 10 then [] else [32]) ++ exT y) := by
  cases l with
  | nil => simp [esR, listT, Lib.join_one]
  | cons a r =>
    rw [if_pos (show 0 < (a :: r).length by simp)]
    show (if d = 10 then [] else [32]) ++ listT ((a :: r) ++ [y]) = _
    rw [listT_snoc, if_neg (show ¬ (a :: r).length = 0 by simp)]
    simp [esR]
theorem name_ne {s : ByteArray} (h : isNameB s = true) : ¬ emp s := by
  unfold isNameB nameHead at h
  simp only [Bool.and_eq_true, decide_eq_true_eq] at h
  intro he
  have h0 : s.size = 0 := by
    rw [← bytes_len, show bytesOf s = [] from he]
    rfl
  have := h.1.1
  omega
theorem len1 {l : List Ex} (h : (l.length : Int) = 1) : ∃ y, l = [y] := one_of (by omega)
theorem len0' {l : List Ex} (h : (l.length : Int) = 0) : l = [] := List.eq_nil_of_length_eq_zero (by omega)
set_option maxHeartbeats 1000000 in
/-- both ways to say a statement's first line -/
theorem line_eq {x : St} {f : Fm} {deep : Int} (h : StOk x f deep) : wdL x.d ++ p1R x ++ p2R x ++ p3R x ++ p4R x ++ p5R x ++ p6R x ++ esR x.d x.e = headT x ++ listT x.e := by
  have hf := h.form
  have h1 := h.d1
  have h2 := h.d2
  have na := h.na
  have nb := h.nb
  have ea := h.ea
  have eb := h.eb
  have ne := h.ne
  have hd : x.d = 1 ∨ x.d = 2 ∨ x.d = 3 ∨ x.d = 4 ∨ x.d = 5 ∨ x.d = 6 ∨ x.d = 7 ∨ x.d = 8 ∨ x.d = 9 ∨ x.d = 10 ∨ x.d = 11 ∨ x.d = 12 ∨ x.d = 13 ∨ x.d = 14 := by omega
  rcases hd with hd | hd | hd | hd | hd | hd | hd | hd | hd | hd | hd | hd | hd | hd
  · rw [hd] at hf
    obtain rfl := Option.some.inj hf
    have ha := name_ne (na rfl)
    have hb := eb rfl
    obtain ⟨y, hy⟩ := len1 (ne (by decide))
    simp [p1R, p2R, p3R, p4R, p5R, p6R, wdL, headT, hd, ha, hb, hy, esR, listT, Lib.join_one]
  · rw [hd] at hf
    obtain rfl := Option.some.inj hf
    have ha := name_ne (na rfl)
    have hb := eb rfl
    obtain ⟨y, hy⟩ := len1 (ne (by decide))
    simp [p1R, p2R, p3R, p4R, p5R, p6R, wdL, headT, hd, ha, hb, hy, esR, listT, Lib.join_one]
  · rw [hd] at hf
    obtain rfl := Option.some.inj hf
    have ha := ea rfl
    have hb := eb rfl
    obtain ⟨y, hy⟩ := len1 (ne (by decide))
    simp [p1R, p2R, p3R, p4R, p5R, p6R, wdL, headT, hd, ha, hb, hy, esR, listT, Lib.join_one]
  · rw [hd] at hf
    obtain rfl := Option.some.inj hf
    have ha := name_ne (na rfl)
    have hb := name_ne (nb rfl)
    have hy := len0' (ne (by decide))
    simp [p1R, p2R, p3R, p4R, p5R, p6R, wdL, headT, hd, ha, hb, hy, esR, listT, Lib.join_nil]
  · rw [hd] at hf
    obtain rfl := Option.some.inj hf
    have ha := name_ne (na rfl)
    have hb := name_ne (nb rfl)
    have hy := len0' (ne (by decide))
    simp [p1R, p2R, p3R, p4R, p5R, p6R, wdL, headT, hd, ha, hb, hy, esR, listT, Lib.join_nil]
  · rw [hd] at hf
    obtain rfl := Option.some.inj hf
    have ha := name_ne (na rfl)
    have hb := eb rfl
    obtain ⟨y, hy⟩ := len1 (ne (by decide))
    simp [p1R, p2R, p3R, p4R, p5R, p6R, wdL, headT, hd, ha, hb, hy, esR, listT, Lib.join_one]
  · rw [hd] at hf
    obtain rfl := Option.some.inj hf
    have ha := name_ne (na rfl)
    have hb := eb rfl
    have hy := len0' (ne (by decide))
    simp [p1R, p2R, p3R, p4R, p5R, p6R, wdL, headT, hd, ha, hb, hy, esR, listT, Lib.join_nil]
  · rw [hd] at hf
    obtain rfl := Option.some.inj hf
    have ha := name_ne (na rfl)
    have hb := eb rfl
    have hy := len0' (ne (by decide))
    simp [p1R, p2R, p3R, p4R, p5R, p6R, wdL, headT, hd, ha, hb, hy, esR, listT, Lib.join_nil]
  · rw [hd] at hf
    obtain rfl := Option.some.inj hf
    have ha := name_ne (na rfl)
    have hb := eb rfl
    have hy := len0' (ne (by decide))
    simp [p1R, p2R, p3R, p4R, p5R, p6R, wdL, headT, hd, ha, hb, hy, esR, listT, Lib.join_nil]
  · rw [hd] at hf
    obtain rfl := Option.some.inj hf
    have ha := name_ne (na rfl)
    have hb := eb rfl
    cases hy : x.e with
    | nil => simp [p1R, p2R, p3R, p4R, p5R, p6R, wdL, headT, hd, ha, hb, esR, listT, Lib.join_nil]
    | cons y r => simp [p1R, p2R, p3R, p4R, p5R, p6R, wdL, headT, hd, ha, hb, esR]
  · rw [hd] at hf
    obtain rfl := Option.some.inj hf
    have ha := name_ne (na rfl)
    have hb := name_ne (nb rfl)
    have hy := len0' (ne (by decide))
    simp [p1R, p2R, p3R, p4R, p5R, p6R, wdL, headT, hd, ha, hb, hy, esR, listT, Lib.join_nil]
  · rw [hd] at hf
    obtain rfl := Option.some.inj hf
    have ha := name_ne (na rfl)
    have hb := name_ne (nb rfl)
    have hy := len0' (ne (by decide))
    simp [p1R, p2R, p3R, p4R, p5R, p6R, wdL, headT, hd, ha, hb, hy, esR, listT, Lib.join_nil]
  · rw [hd] at hf
    obtain rfl := Option.some.inj hf
    have ha := ea rfl
    have hb := eb rfl
    obtain ⟨y, hy⟩ := len1 (ne (by decide))
    simp [p1R, p2R, p3R, p4R, p5R, p6R, wdL, headT, hd, ha, hb, hy, esR, listT, Lib.join_one]
  · rw [hd] at hf
    obtain rfl := Option.some.inj hf
    have ha := ea rfl
    have hb := eb rfl
    obtain ⟨y, hy⟩ := len1 (ne (by decide))
    simp [p1R, p2R, p3R, p4R, p5R, p6R, wdL, headT, hd, ha, hb, hy, esR, listT, Lib.join_one]
theorem body_lt {x : St} {f : Fm} {deep : Int} (h : StOk x f deep) : f.body = decide (11 ≤ x.d) := by
  have hf := h.form
  have h1 := h.d1
  have h2 := h.d2
  have hd : x.d = 1 ∨ x.d = 2 ∨ x.d = 3 ∨ x.d = 4 ∨ x.d = 5 ∨ x.d = 6 ∨ x.d = 7 ∨ x.d = 8 ∨ x.d = 9 ∨ x.d = 10 ∨ x.d = 11 ∨ x.d = 12 ∨ x.d = 13 ∨ x.d = 14 := by omega
  rcases hd with hd | hd | hd | hd | hd | hd | hd | hd | hd | hd | hd | hd | hd | hd <;> rw [hd] at hf <;> obtain rfl := Option.some.inj hf <;> rw [hd] <;> rfl
end Go.Proofs.YtaehnpilebkcoaaDoor

namespace Go.Proofs.YtaehnpilebkcoaaDoor
open Go Go.Sx Go.Sx.Tk Go.Sx.Rn Go.Proofs.YtaehnpilebkcoaaDoor.Sx

theorem emp_if (s : ByteArray) {A B : Prop} (ha : ¬ emp s → A) (hb : emp s → B) : cond (!(s.toList == ByteArray.toList ⟨#[]⟩)) A B := by
  rw [eqE]
  by_cases h : emp s
  · rw [decide_eq_true h]
    exact hb h
  · rw [decide_eq_false h]
    exact ha h
section
variable {ω : Amb}
def RBlk (ω : Amb) (l : List St) : Prop := ∀ (h : Hp) (v : Value) (k : Nat), StS h v l → PwTab h → stsG (k + 1) l → k ≤ 7 → (blkT k l).length ≤ 100000000 → ∀ (X : List PanicEntry → Hp → Prop),
  CallX Tryd.prog ω n_pipewrightref_blockText [v, .string (bs (tabL k))] h (fun r h' => r = .string (bs (blkT k l)) ∧ Keep (fun _ => False) h h') X
set_option maxHeartbeats 800000 in
theorem stmtText_law (x : St) (hle : stN x ≤ 80000) (hok : stOk x) (hB : RBlk ω x.body) (hE : RBlk ω x.els) (h : Hp) (ve vb vl : Value) (k : Nat) (he : ExS h ve x.e) (hbd : StS h vb x.body) (hel : StS h vl x.els)
    (ht : PwTab h) (hg : stG k x) (hd : k ≤ 8) (hlen : (stT k x).length ≤ 100000000) (X : List PanicEntry → Hp → Prop) :
    CallX Tryd.prog ω n_pipewrightref_stmtText [.agg (stC x ve vb vl).toArray, .string (bs (tabL k))] h (fun r h' => r = .string (bs (stT k x)) ∧ Keep (fun _ => False) h h') X := by
  refine C_pipewrightref_stmtText ω _ _ h _ X ?_
  unfold W_pipewrightref_stmtText
  simp only [show Value.cells (.agg (stC x ve vb vl).toArray) = (stC x ve vb vl).toArray from rfl, show List.toArray [(.string ⟨#[]⟩), (.string ⟨#[108, 101, 116]⟩), (.string ⟨#[115, 101, 116]⟩), (.string ⟨#[101, 109, 105, 116]⟩), (.string ⟨#[99, 104, 97, 110]⟩), (.string ⟨#[99, 108, 111, 110, 101]⟩), (.string ⟨#[115, 101, 110, 100]⟩), (.string ⟨#[99, 108, 111, 115, 101]⟩), (.string ⟨#[97, 98, 97, 110, 100, 111, 110]⟩), (.string ⟨#[100, 114, 97, 105, 110]⟩), (.string ⟨#[115, 112, 97, 119, 110]⟩), (.string ⟨#[116, 97, 107, 101]⟩), (.string ⟨#[102, 111, 114]⟩), (.string ⟨#[114, 101, 112, 101, 97, 116]⟩), (.string ⟨#[105, 102]⟩)] = wdT.toArray from rfl]
  obtain ⟨oa, ob, ot, oe, o5, o6⟩ := stOk_iff.1 hok
  have oa : x.a.size ≤ 100 := oa
  have ob : x.b.size ≤ 100 := ob
  have ot : x.t.size ≤ 100 := ot
  obtain ⟨hg1, hg2, hg3⟩ := stG_iff.1 hg
  obtain ⟨f, hf⟩ := hdG_ok hg1
  have hxe := stN_eq x
  have hT := stT_eq k x
  have hle' := line_eq hf
  rw [hf.fm, List.append_assoc (tabL k), ← hle'] at hT
  have hTl := congrArg List.length hT
  simp only [List.length_append, tab_len] at hTl
  have d1 := hf.d1
  have d2 := hf.d2
  have hb1 := hp_push_new (h := h) (o := .cells (stC x ve vb vl).toArray 65 (0, 0))
  have kp := Keep.push (S := fun _ => False) h (.cells (stC x ve vb vl).toArray 65 (0, 0))
  generalize h.push (.cells (stC x ve vb vl).toArray 65 (0, 0)) = h1 at *
  have hw2 := hp_push_new (h := h1) (o := .cells wdT.toArray 9 (0, 0))
  have k1 := Keep.push (S := fun _ => False) h1 (.cells wdT.toArray 9 (0, 0))
  generalize h1.push (.cells wdT.toArray 9 (0, 0)) = h2 at *
  have hb2 := k1.get hb1 (by simp)
  have k02 := kp.trans k1
  refine lx hb2 (j := 0) rfl ?_
  obtain ⟨o, ho⟩ : ∃ o : Nat, x.d = o := ⟨x.d.toNat, by omega⟩
  rw [ho, asI_int]
  refine ⟨by omega, by omega, ?_⟩
  rw [Int.toNat_natCast, Nat.mul_one]
  refine lx hw2 (wd_at o (by omega)) ?_
  rw [← ho, asS_str, asS_str]
  simp only [bs_app, bs_size, List.length_append, tab_len]
  refine ⟨by omega, ?_⟩
  refine lx hb2 (j := 2) rfl ?_
  rw [asS_str]
  refine ⟨fun v h' => v = .string (bs (tabL k ++ wdL x.d ++ p1R x)) ∧ h2 = h', emp_if x.a (fun hc => ?_) (fun hc => ?_), ?_⟩
  · refine lx hb2 (j := 2) rfl ?_
    rw [asS_str]
    have hp : p1R x = [32] ++ bytesOf x.a := by rw [p1R, if_neg hc]
    have hpl := congrArg List.length hp
    simp only [List.length_append, bytes_len, List.length_cons, List.length_nil] at hpl
    simp only [lit, app_size, bs_size, List.length_cons, List.length_nil]
    refine ⟨by omega, by omega, ?_, trivial⟩
    rw [hp]
    simp only [← bs_app, bs_bytes]
  · rw [p1R, if_pos hc, List.append_nil]
    exact ⟨rfl, rfl⟩
  rintro _ _ _ ⟨rfl, rfl⟩
  refine ⟨decide (x.d = 1 ∨ x.d = 2), ?_, fun _ => ?_⟩
  · refine lx hb2 (j := 0) rfl ?_
    rw [asK_int]
    refine cond_c (fun hc => ?_) (fun hc => ?_)
    · rw [decide_eq_true (.inl (eq_of_beq hc))]
      exact ⟨rfl, trivial⟩
    · refine lx hb2 (j := 0) rfl ?_
      rw [asK_int]
      have := beq_eq_false_iff_ne.1 hc
      refine ⟨?_, trivial⟩
      congr 1
      rw [Bool.eq_iff_iff]
      simp [this]
  refine ⟨fun v h' => v = .string (bs (tabL k ++ wdL x.d ++ p1R x ++ p2R x)) ∧ h2 = h', cond_c (fun hc => ?_) (fun hc => ?_), ?_⟩
  · have hp : p2R x = [32, 61] := by rw [p2R, if_pos (of_decide_eq_true hc)]
    rw [asS_str]
    simp only [lit, bs_app, bs_size, List.length_append, tab_len, List.length_cons, List.length_nil]
    exact ⟨by omega, by rw [hp], trivial⟩
  · have hp : p2R x = [] := by rw [p2R, if_neg (of_decide_eq_false hc)]
    rw [hp, List.append_nil]
    exact ⟨rfl, rfl⟩
  rintro _ _ _ ⟨rfl, rfl⟩
  refine ⟨decide (x.d = 11 ∨ x.d = 12), ?_, fun _ => ?_⟩
  · refine lx hb2 (j := 0) rfl ?_
    rw [asK_int]
    refine cond_c (fun hc => ?_) (fun hc => ?_)
    · rw [decide_eq_true (.inl (eq_of_beq hc))]
      exact ⟨rfl, trivial⟩
    · refine lx hb2 (j := 0) rfl ?_
      rw [asK_int]
      have := beq_eq_false_iff_ne.1 hc
      refine ⟨?_, trivial⟩
      congr 1
      rw [Bool.eq_iff_iff]
      simp [this]
  refine ⟨fun v h' => v = .string (bs (tabL k ++ wdL x.d ++ p1R x ++ p2R x ++ p3R x)) ∧ h2 = h', cond_c (fun hc => ?_) (fun hc => ?_), ?_⟩
  · have hp : p3R x = [32, 102, 114, 111, 109] := by rw [p3R, if_pos (of_decide_eq_true hc)]
    rw [asS_str]
    simp only [lit, bs_app, bs_size, List.length_append, tab_len, List.length_cons, List.length_nil]
    exact ⟨by omega, by rw [hp], trivial⟩
  · have hp : p3R x = [] := by rw [p3R, if_neg (of_decide_eq_false hc)]
    rw [hp, List.append_nil]
    exact ⟨rfl, rfl⟩
  rintro _ _ _ ⟨rfl, rfl⟩
  refine lx hb2 (j := 3) rfl ?_
  rw [asS_str]
  refine ⟨fun v h' => v = .string (bs (tabL k ++ wdL x.d ++ p1R x ++ p2R x ++ p3R x ++ p4R x)) ∧ h2 = h', emp_if x.b (fun hc => ?_) (fun hc => ?_), ?_⟩
  · refine lx hb2 (j := 3) rfl ?_
    rw [asS_str]
    have hp : p4R x = [32] ++ bytesOf x.b := by rw [p4R, if_neg hc]
    have hpl := congrArg List.length hp
    simp only [List.length_append, bytes_len, List.length_cons, List.length_nil] at hpl
    simp only [lit, asS_str, app_size, bs_size, List.length_append, tab_len, List.length_cons, List.length_nil]
    refine ⟨by omega, by omega, ?_, trivial⟩
    rw [hp]
    simp only [← bs_app, bs_bytes]
  · rw [p4R, if_pos hc, List.append_nil]
    exact ⟨rfl, rfl⟩
  rintro _ _ _ ⟨rfl, rfl⟩
  refine lx hb2 (j := 0) rfl ?_
  rw [asK_int]
  refine ⟨fun v h' => v = .string (bs (tabL k ++ wdL x.d ++ p1R x ++ p2R x ++ p3R x ++ p4R x ++ p5R x)) ∧ Keep (fun _ => False) h2 h', cond_c (fun hc => ?_) (fun hc => ?_), ?_⟩
  · have hp : p5R x = [32] ++ kindL x.t ++ [32] ++ Lib.itoa x.n := by rw [p5R, if_pos (eq_of_beq hc)]
    have hpl := congrArg List.length hp
    simp only [List.length_append, List.length_cons, List.length_nil] at hpl
    have n0 := hf.n0
    have n1 := hf.n1
    refine lx hb2 (j := 4) rfl ?_
    refine lx hb2 (j := 5) rfl ?_
    refine CallX.use (kindText_law x.t (by omega) h2) ?_
    rintro _ _ ⟨rfl, rfl⟩
    refine ⟨lx' hb2 rfl, ?_⟩
    rw [asS_str]
    simp only [lit, bs_app, bs_size, List.length_append, List.length_cons, List.length_nil]
    refine ⟨by omega, by omega, ?_⟩
    refine CallX.use (Itoa_law x.n (by omega) (by omega) _ (ht.more k02)) ?_
    rintro _ h3 ⟨rfl, k3⟩
    have hib : itB x.n = bs (Lib.itoa x.n) := rfl
    rw [hib]
    simp only [asS_str, bs_app, bs_size, List.length_append, List.length_cons, List.length_nil, tab_len]
    exact ⟨by omega, by omega, by rw [hp], k3⟩
  · have hp : p5R x = [] := by rw [p5R, if_neg (beq_eq_false_iff_ne.1 hc)]
    rw [hp, List.append_nil]
    exact ⟨rfl, Keep.refl _ _⟩
  rintro _ _ h3 ⟨rfl, k3⟩
  have hb3 := k3.get hb2 (by simp)
  have k03 := k02.trans k3
  refine lx hb3 (j := 0) rfl ?_
  rw [asK_int]
  refine ⟨fun v h' => v = .string (bs (tabL k ++ wdL x.d ++ p1R x ++ p2R x ++ p3R x ++ p4R x ++ p5R x ++ p6R x)) ∧ h3 = h', cond_c (fun hc => ?_) (fun hc => ?_), ?_⟩
  · have hp : p6R x = [40] := by rw [p6R, if_pos (eq_of_beq hc)]
    rw [asS_str]
    simp only [lit, bs_app, bs_size, List.length_append, tab_len, List.length_cons, List.length_nil]
    exact ⟨by omega, by rw [hp], trivial⟩
  · have hp : p6R x = [] := by rw [p6R, if_neg (beq_eq_false_iff_ne.1 hc)]
    rw [hp, List.append_nil]
    exact ⟨rfl, rfl⟩
  rintro _ _ _ ⟨rfl, rfl⟩
  generalize hpre : tabL k ++ wdL x.d ++ p1R x ++ p2R x ++ p3R x ++ p4R x ++ p5R x ++ p6R x = pre
  have hprel := congrArg List.length hpre
  simp only [List.length_append, tab_len] at hprel
  have hlx := exsN_len x.e
  refine ⟨fun o t h' => ∃ j : Nat, t = .int .i64 j ∧ j ≤ x.e.length ∧ o = .string (bs (pre ++ esR x.d (x.e.take j))) ∧ (esR x.d (x.e.take j)).length ≤ (esR x.d x.e).length ∧ Keep (fun _ => False) h3 h', fun _ t _ => match t with | .int _ j => x.e.length - j.toNat | _ => 0,
    ⟨0, rfl, by omega, by simp [esR], by simp [esR], Keep.refl _ _⟩, ?_⟩
  rintro _ _ _ h4 ⟨j, rfl, hj, rfl, hjl, k4⟩
  have hb4 := k4.get hb3 (by simp)
  have k04 := k03.trans k4
  have he4 := he.keep k04
  refine lx hb4 (j := 6) rfl ?_
  refine he4.sl fun _ _ => ?_
  rw [asK_int]
  refine cond_c (fun hc => ?_) (fun hc => ?_)
  · have hkl : j < x.e.length := by
      have := of_decide_eq_true hc
      omega
    have hx := List.getElem?_eq_getElem hkl
    have hdr := drop_at hx
    have hmem : x.e[j] ∈ x.e := List.getElem_mem hkl
    generalize x.e[j] = y at hx hmem hdr
    have hyn := exsN_mem hmem
    have hyo := exsOk_mem oe hmem
    have hyF := exsF_0 hf.ex hmem
    have hsn := esR_snoc x.d (x.e.take j) y
    rw [← tk_snoc hx, List.length_take, Nat.min_eq_left hj] at hsn
    have hmono : (esR x.d (x.e.take (j + 1))).length ≤ (esR x.d x.e).length := by
      have : ∀ m : List Ex, ∀ l : List Ex, (esR x.d l).length ≤ (esR x.d (l ++ m)).length := by
        intro m
        induction m with
        | nil => intro l; simp
        | cons z r ih =>
          intro l
          have h1 := ih (l ++ [z])
          rw [List.append_assoc, List.singleton_append] at h1
          rw [esR_snoc] at h1
          simp only [List.length_append] at h1
          omega
      have := this (x.e.drop (j + 1)) (x.e.take (j + 1))
      rwa [List.take_append_drop] at this
    have hsl := congrArg List.length hsn
    simp only [List.length_append] at hsl
    rw [asK_int]
    refine ⟨fun v h' => v = .string (bs (pre ++ esR x.d (x.e.take j) ++ (if 0 < j then [44] else []))) ∧ h4 = h', cond_c (fun hc => ?_) (fun hc => ?_), ?_⟩
    · have h0 : 0 < j := by
        have := of_decide_eq_true hc
        omega
      rw [if_pos h0] at hsl ⊢
      simp only [List.length_cons, List.length_nil] at hsl
      simp only [asS_str, lit, bs_app, bs_size, List.length_append, List.length_cons, List.length_nil]
      exact ⟨by omega, trivial, trivial⟩
    · have h0 : ¬ 0 < j := by
        have := of_decide_eq_false hc
        omega
      rw [if_neg h0, List.append_nil]
      exact ⟨rfl, rfl⟩
    rintro _ _ _ ⟨rfl, rfl⟩
    refine ⟨decide (0 < j ∨ x.d ≠ 10), ?_, fun _ => ?_⟩
    · rw [asK_int]
      refine cond_c (fun hc => ?_) (fun hc => ?_)
      · have := of_decide_eq_true hc
        rw [decide_eq_true (.inl (by omega))]
        exact ⟨rfl, trivial⟩
      · have := of_decide_eq_false hc
        refine lx hb4 (j := 0) rfl ?_
        rw [asK_int]
        refine ⟨?_, trivial⟩
        congr 1
        rw [Bool.eq_iff_iff]
        simp
        omega
    refine ⟨fun v h' => v = .string (bs (pre ++ esR x.d (x.e.take j) ++ (if 0 < j then [44, 32] else if x.d = 10 then [] else [32]))) ∧ h4 = h', cond_c (fun hc => ?_) (fun hc => ?_), ?_⟩
    · have hor := of_decide_eq_true hc
      by_cases h0 : 0 < j
      · rw [if_pos h0] at hsl
        rw [if_pos h0, if_pos h0]
        simp only [List.length_cons, List.length_nil] at hsl
        simp only [asS_str, lit, bs_app, bs_size, List.length_append, List.length_cons, List.length_nil]
        refine ⟨by omega, ?_, trivial⟩
        simp
      · have h10 : ¬ x.d = 10 := hor.resolve_left h0
        rw [if_neg h0, if_neg h10] at hsl
        rw [if_neg h0, if_neg h0, if_neg h10]
        simp only [List.length_cons, List.length_nil] at hsl
        simp only [asS_str, lit, bs_app, bs_size, List.length_append, List.length_cons, List.length_nil]
        refine ⟨by omega, ?_, trivial⟩
        simp
    · have hor := of_decide_eq_false hc
      have h0 : ¬ 0 < j := fun h => hor (.inl h)
      have h10 : x.d = 10 := Decidable.not_not.1 fun h => hor (.inr h)
      rw [if_neg h0, if_neg h0, if_pos h10]
      exact ⟨rfl, rfl⟩
    rintro _ _ _ ⟨rfl, rfl⟩
    refine lx hb4 (j := 6) rfl ?_
    refine he4.rdC hx fun w hw => ?_
    refine CallX.use (exprText_law _ y (Nat.lt_succ_self _) (by omega) hyo hyF h4 w 0 hw (ht.more k04) (by decide)) ?_
    rintro _ h5 ⟨rfl, k5⟩
    have hbr : brk 0 (y.op, exT y) = exT y := by
      unfold brk
      rw [if_neg]
      unfold rk
      repeat' split
      all_goals simp
    rw [hbr]
    simp only [asS_str, bs_app, bs_size, List.length_append]
    rw [asK_int, i64_in (by omega) (by omega)]
    refine ⟨by omega, ⟨j + 1, by simp, by omega, ?_, hmono, k4.trans k5⟩, by simp; omega⟩
    rw [hsn]
    simp only [List.append_assoc]
  have hc := of_decide_eq_false hc
  obtain rfl : j = x.e.length := by omega
  rw [List.take_length] at hjl ⊢
  refine lx hb4 (j := 0) rfl ?_
  rw [asK_int]
  have hpe : tabL k ++ (wdL x.d ++ p1R x ++ p2R x ++ p3R x ++ p4R x ++ p5R x ++ p6R x ++ esR x.d x.e) = pre ++ esR x.d x.e := by
    rw [← hpre]
    simp only [List.append_assoc]
  rw [hpe, body_lt hf] at hT
  rw [body_lt hf] at hTl
  have htotal := congrArg List.length hT
  simp only [List.length_append] at htotal
  refine ⟨fun v h' => v = .string (bs (pre ++ esR x.d x.e ++ p7R x)) ∧ h4 = h', cond_c (fun hc => ?_) (fun hc => ?_), ?_⟩
  · have h10 : x.d = 10 := eq_of_beq hc
    have hp : p7R x = [41] := by rw [p7R, if_pos h10]
    rw [h10] at htotal
    have htotal := htotal
    simp only [show decide ((11 : Int) ≤ 10) = false from rfl, Bool.false_eq_true, if_false, if_true, List.length_append, List.length_cons, List.length_nil] at htotal
    simp only [asS_str, lit, bs_app, bs_size, List.length_append, List.length_cons, List.length_nil]
    exact ⟨by rw [h10]; omega, by rw [hp], trivial⟩
  · have hp : p7R x = [] := by rw [p7R, if_neg (beq_eq_false_iff_ne.1 hc)]
    rw [hp, List.append_nil]
    exact ⟨rfl, rfl⟩
  rintro _ _ _ ⟨rfl, rfl⟩
  refine lx hb4 (j := 0) rfl ?_
  rw [asK_int]
  refine cond_c (fun hc => ?_) (fun hc => ?_)
  · have hlt := of_decide_eq_true hc
    rw [decide_eq_false (by omega), if_neg (by decide)] at hT htotal
    have hp7 : p7R x = if x.d = 10 then [41] else [] := rfl
    simp only [asS_str, lit, bs_app, bs_size, List.length_append, List.length_cons, List.length_nil] at htotal ⊢
    rw [← hp7] at htotal
    refine ⟨by omega, ?_, k04⟩
    rw [hT, ← hp7]
    simp only [List.append_assoc]
  · have hge := of_decide_eq_false hc
    rw [decide_eq_true (by omega), if_pos rfl] at hT htotal
    have hp7 : p7R x = [] := by rw [p7R, if_neg (by omega)]
    have hbo : f.body = true := by rw [body_lt hf, decide_eq_true (by omega)]
    have hd8 := hf.dp hbo
    simp only [List.length_append, List.length_cons, List.length_nil] at htotal
    rw [hp7, List.append_nil]
    refine lx hb4 (j := 7) rfl ?_
    refine CallX.use (hB h4 vb k (hbd.keep k04) (ht.more k04) hg2 (by omega) (by omega)) ?_
    rintro _ h5 ⟨rfl, k5⟩
    have hb5 := k5.get hb4 (by simp)
    have k05 := k04.trans k5
    simp only [asS_str, bs_app, bs_size, List.length_append]
    refine ⟨by omega, ?_⟩
    refine lx hb5 (j := 8) rfl ?_
    refine (hel.keep k05).sl fun _ _ => ?_
    refine ⟨fun v h' => v = .string (bs (pre ++ esR x.d x.e ++ blkT k x.body ++ (if x.els.length = 0 then [] else [32, 101, 108, 115, 101] ++ blkT k x.els))) ∧ Keep (fun _ => False) h5 h', cond_c (fun hc => ?_) (fun hc => ?_), ?_⟩
    · have hne : ¬ x.els.length = 0 := by
        have := of_decide_eq_true hc
        omega
      rw [if_neg hne] at htotal ⊢
      simp only [List.length_append, List.length_cons, List.length_nil] at htotal
      refine lx hb5 (j := 8) rfl ?_
      refine CallX.use (hE h5 vl k (hel.keep k05) (ht.more k05) hg3 (by omega) (by omega)) ?_
      rintro _ h6 ⟨rfl, k6⟩
      simp only [asS_str, lit, bs_app, bs_size, List.length_append, List.length_cons, List.length_nil]
      exact ⟨by omega, by omega, trivial, k6⟩
    · have hne : x.els.length = 0 := by
        have := of_decide_eq_false hc
        omega
      rw [if_pos hne, List.append_nil]
      exact ⟨rfl, Keep.refl _ _⟩
    · rintro _ _ h6 ⟨rfl, k6⟩
      simp only [asS_str, lit, bs_app, bs_size, List.length_append, List.length_cons, List.length_nil]
      refine ⟨by omega, ?_, k05.trans k6⟩
      rw [hT]
      simp only [List.append_assoc]
theorem tab_succ (k : Nat) : tabL k ++ [9] = tabL (k + 1) := by
  unfold tabL
  rw [← List.replicate_succ']
theorem blockText_law : ∀ (N : Nat) (l : List St), stsN l < N → stsN l ≤ 80000 → stsOk l → RBlk ω l := by
  intro N
  induction N with
  | zero => exact fun l hN => absurd hN (Nat.not_lt_zero _)
  | succ N ih =>
    intro l hN hle hok h v k hs ht hg hd hlen X
    refine C_pipewrightref_blockText ω _ _ h _ X ?_
    unfold W_pipewrightref_blockText
    have hll := stsN_len l
    have hbl : (blkT k l).length = 3 + (stsT (k + 1) l).length + k + 1 := by
      unfold blkT
      simp only [List.length_append, tab_len, List.length_cons, List.length_nil]
    refine ⟨fun o t h' => ∃ j : Nat, t = .int .i64 j ∧ j ≤ l.length ∧ o = .string (bs ([32, 123, 10] ++ stsT (k + 1) (l.take j))) ∧ Keep (fun _ => False) h h', fun _ t _ => match t with | .int _ k => l.length - k.toNat | _ => 0,
      ⟨0, rfl, by omega, rfl, Keep.refl _ _⟩, ?_⟩
    rintro _ _ _ h3 ⟨j, rfl, hj, rfl, k3⟩
    have hs3 := hs.keep k3
    refine hs3.sl fun _ _ => ?_
    rw [asK_int]
    refine cond_c (fun hc => ?_) (fun hc => ?_)
    · have hkl : j < l.length := by
        have := of_decide_eq_true hc
        omega
      have hx := List.getElem?_eq_getElem hkl
      have hdr := drop_at hx
      have hmem : l[j] ∈ l := List.getElem_mem hkl
      generalize l[j] = x at hx hmem hdr
      have hxn := stsN_mem hmem
      have hxe := stN_eq x
      have hxo := stsOk_mem hok hmem
      obtain ⟨_, _, _, _, hob, hoe⟩ := stOk_iff.1 hxo
      have hsp := stsT_app (k + 1) (l.take j) (l.drop j)
      rw [List.take_append_drop, hdr] at hsp
      have hsp := congrArg List.length hsp
      simp only [stsT, List.length_append] at hsp
      have hgx : stG ((k + 1 : Nat) : Int) x := stsG_mem hg hmem
      refine hs3.rdC hx fun ve vb vl he hbd hel => ?_
      rw [asS_str, lit]
      simp only [bs_app, bs_size, List.length_append, tab_len, List.length_cons, List.length_nil]
      refine ⟨by omega, ?_⟩
      rw [tab_succ]
      refine CallX.use (stmtText_law x (by omega) hxo (ih x.body (by omega) (by omega) hob) (ih x.els (by omega) (by omega) hoe) h3 ve vb vl (k + 1) he hbd hel (ht.more k3) hgx (by omega) (by omega)) ?_
      rintro _ h5 ⟨rfl, k5⟩
      simp only [asS_str, asK_int, bs_app, bs_size, List.length_append, List.length_cons, List.length_nil]
      rw [i64_in (by omega) (by omega)]
      refine ⟨by omega, ⟨j + 1, by simp, by omega, ?_, k3.trans k5⟩, by simp; omega⟩
      rw [tk_snoc hx, stsT_snoc]
      simp only [List.append_assoc]
    · have hc := of_decide_eq_false hc
      obtain rfl : j = l.length := by omega
      rw [List.take_length]
      simp only [asS_str, lit, bs_app, bs_size, List.length_append, tab_len, List.length_cons, List.length_nil]
      exact ⟨by omega, by omega, rfl, k3⟩
end
end Go.Proofs.YtaehnpilebkcoaaDoor

namespace Go.Proofs.YtaehnpilebkcoaaDoor
open Go Go.Sx Go.Sx.Tk Go.Sx.Rn Go.Proofs.YtaehnpilebkcoaaDoor.Sx

theorem prsT_snoc (l : List (ByteArray × ByteArray)) (q : ByteArray × ByteArray) : prsT (l ++ [q]) = prsT l ++ (if 0 < l.length then [44, 32] else []) ++ prT q := by
  unfold prsT
  rw [List.map_append, List.map_singleton, join_snoc, List.length_map]
  cases l with
  | nil => simp [Lib.join_nil]
  | cons a r => simp
section
variable {ω : Amb}
set_option maxHeartbeats 400000 in
theorem Text_law (p : List Sg) (hsm : Small p) (hok : PgOk p) (v : Value) (h : Hp) (hp : PgS h v p) (ht : PwTab h) (X : List PanicEntry → Hp → Prop) :
    CallX Tryd.prog ω n_pipewrightref_Text [v] h (fun r h' => r = .string (bs (pgT p)) ∧ Keep (fun _ => False) h h') X := by
  obtain ⟨w0, rfl, hs⟩ := hp
  refine C_pipewrightref_Text ω _ h _ X ?_
  unfold W_pipewrightref_Text
  simp only [show Value.cells (.agg #[w0]) = [w0].toArray from rfl]
  have hlen := hok.len
  have htl := pgT_len p fun s hs => ⟨hsm.nm s hs, hok.ok s hs⟩
  have htot := hsm.tot
  have hb0 := hp_push_new (h := h) (o := .cells [w0].toArray 24 (0, 0))
  have k0 := Keep.push (S := fun _ => False) h (.cells [w0].toArray 24 (0, 0))
  generalize h.push (.cells [w0].toArray 24 (0, 0)) = h1 at *
  refine ⟨fun o t h' => ∃ k : Nat, t = .int .i64 k ∧ k ≤ p.length ∧ o = .string (bs (pgT (p.take k))) ∧ Keep (fun _ => False) h1 h', fun _ t _ => match t with | .int _ k => p.length - k.toNat | _ => 0,
    ⟨0, rfl, by omega, rfl, Keep.refl _ _⟩, ?_⟩
  rintro _ _ _ h3 ⟨k, rfl, hk, rfl, k3⟩
  have hb3 := k3.get hb0 (by simp)
  have k03 := k0.trans k3
  have hs3 := hs.keep k03
  refine lx hb3 (j := 0) rfl ?_
  refine hs3.sl fun _ _ => ?_
  rw [asK_int]
  refine cond_c (fun hc => ?_) (fun hc => ?_)
  rotate_left
  · have hc := of_decide_eq_false hc
    obtain rfl : k = p.length := by omega
    rw [List.take_length]
    exact ⟨rfl, k03⟩
  have hkl : k < p.length := by
    have := of_decide_eq_true hc
    omega
  have hx := List.getElem?_eq_getElem hkl
  have hdr := drop_at hx
  have hmem : p[k] ∈ p := List.getElem_mem hkl
  generalize p[k] = x at hx hmem hdr
  have hxok := hok.ok x hmem
  obtain ⟨hnm, hpl, hpn, hbo⟩ := hsm.nm x hmem
  have hnm : x.nm.size ≤ 100 := hnm
  have hxb : stsN x.body ≤ 8000 := Nat.le_trans (sum_mem hmem) hsm.tot
  have hpp := prsT_len x.ps hpn
  have hpl6 := hxok.pl
  have hsp : pgT p = pgT (p.take k) ++ (sgT x ++ pgT (p.drop (k + 1))) := by
    conv => lhs; rw [← List.take_append_drop k p, hdr]
    unfold pgT
    rw [List.flatMap_append, List.flatMap_cons]
  have hsp := congrArg List.length hsp
  simp only [List.length_append] at hsp
  have hsl : (sgT x).length = 8 + x.nm.size + (prsT x.ps).length + (blkT 0 x.body).length + 1 := by
    unfold sgT
    simp only [List.length_append, bytes_len, List.length_cons, List.length_nil]
    omega
  refine lx hb3 (j := 0) rfl ?_
  refine hs3.rdC hx fun vp vb hps hbd => ?_
  refine ⟨rfl, sgC_one (nilOr_isSl hps.2) hbd.isSl, storeK_local (cs := sgC x vp vb) rfl ?_⟩
  have hb4 := hp_push_new (h := h3) (o := .cells (sgC x vp vb).toArray 51 (0, 0))
  have k4 := Keep.push (S := fun _ => False) h3 (.cells (sgC x vp vb).toArray 51 (0, 0))
  generalize h3.push (.cells (sgC x vp vb).toArray 51 (0, 0)) = h4 at *
  have hps4 := hps.1.keep k4
  have hbd4 := hbd.keep k4
  have k04 := k03.trans k4
  refine lx hb4 (j := 0) rfl ?_
  rw [asS_str]
  simp only [lit, asS_str, app_size, bs_size, List.length_cons, List.length_nil]
  refine ⟨by omega, by omega, by omega, ?_⟩
  refine ⟨fun o t h' => ∃ j : Nat, t = .int .i64 j ∧ j ≤ x.ps.length ∧ o = .string (bs (pgT (p.take k) ++ ([115, 116, 97, 103, 101, 32] ++ bytesOf x.nm ++ [40]) ++ prsT (x.ps.take j))) ∧ (prsT (x.ps.take j)).length ≤ (prsT x.ps).length ∧ Keep (fun _ => False) h4 h', fun _ t _ => match t with | .int _ j => x.ps.length - j.toNat | _ => 0,
    ⟨0, rfl, by omega, ?_, by simp [prsT, Lib.join_nil], Keep.refl _ _⟩, ?_⟩
  · rw [show prsT (x.ps.take 0) = [] from rfl, List.append_nil]
    simp only [← bs_app, bs_bytes]
  rintro _ _ _ h5 ⟨j, rfl, hj, rfl, hjl, k5⟩
  have hb5 := k5.get hb4 (by simp)
  have k05 := k04.trans k5
  refine lx hb5 (j := 2) rfl ?_
  refine SlAt.sl (hps4.keep k5) fun _ _ => ?_
  rw [asK_int]
  refine cond_c (fun hc => ?_) (fun hc => ?_)
  · have hjl' : j < x.ps.length := by
      have := of_decide_eq_true hc
      omega
    have hy := List.getElem?_eq_getElem hjl'
    have hqm : x.ps[j] ∈ x.ps := List.getElem_mem hjl'
    generalize x.ps[j] = q at hy hqm
    obtain ⟨hq1, hq2⟩ := hpn q hqm
    have hq1 : q.1.size ≤ 100 := hq1
    have hq2 : q.2.size ≤ 100 := hq2
    have hkl := kind_len q.2
    have hsn := prsT_snoc (x.ps.take j) q
    rw [← tk_snoc hy, List.length_take, Nat.min_eq_left hj] at hsn
    have hmono : (prsT (x.ps.take (j + 1))).length ≤ (prsT x.ps).length := by
      have : ∀ m : List (ByteArray × ByteArray), ∀ l : List (ByteArray × ByteArray), (prsT l).length ≤ (prsT (l ++ m)).length := by
        intro m
        induction m with
        | nil => intro l; simp
        | cons z r ih =>
          intro l
          have h1 := ih (l ++ [z])
          rw [List.append_assoc, List.singleton_append] at h1
          rw [prsT_snoc] at h1
          simp only [List.length_append] at h1
          omega
      have := this (x.ps.drop (j + 1)) (x.ps.take (j + 1))
      rwa [List.take_append_drop] at this
    have hsl' := congrArg List.length hsn
    simp only [List.length_append] at hsl'
    have hprl : (prT q).length = q.1.size + 1 + (kindL q.2).length := by
      unfold prT
      simp only [List.length_append, bytes_len, List.length_cons, List.length_nil]
    rw [asK_int]
    refine ⟨fun v h' => v = .string (bs (pgT (p.take k) ++ ([115, 116, 97, 103, 101, 32] ++ bytesOf x.nm ++ [40]) ++ prsT (x.ps.take j) ++ (if 0 < j then [44, 32] else []))) ∧ h5 = h', cond_c (fun hc => ?_) (fun hc => ?_), ?_⟩
    · have h0 : 0 < j := by
        have := of_decide_eq_true hc
        omega
      rw [if_pos h0] at hsl' ⊢
      simp only [List.length_cons, List.length_nil] at hsl'
      simp only [asS_str, bs_app, bs_size, List.length_append, List.length_cons, List.length_nil, bytes_len]
      exact ⟨by omega, trivial, trivial⟩
    · have h0 : ¬ 0 < j := by
        have := of_decide_eq_false hc
        omega
      rw [if_neg h0, List.append_nil]
      exact ⟨rfl, rfl⟩
    rintro _ _ _ ⟨rfl, rfl⟩
    refine lx hb5 (j := 2) rfl ?_
    refine SlAt.rdTa (f := pf) (hps4.keep k5) pf_len hy (o := 0) rfl fun a0 ha0 => ?_
    rw [asS_str]
    refine ⟨by omega, ?_⟩
    refine lx hb5 (j := 2) rfl ?_
    refine SlAt.rdT (f := pf) (hps4.keep k5) pf_len hy (o := 1) rfl ?_
    refine CallX.use (kindText_law q.2 (by omega) h5) ?_
    rintro _ _ ⟨rfl, rfl⟩
    refine ⟨ha0, lx' hb5 rfl, ?_⟩
    simp only [asS_str, asK_int, bs_size, List.length_append, List.length_cons, List.length_nil, bytes_len]
    rw [i64_in (by omega) (by omega)]
    refine ⟨by omega, by omega, ⟨j + 1, by simp, by omega, ?_, hmono, k5⟩, by simp; omega⟩
    rw [hsn]
    unfold prT
    refine congrArg Value.string (bytes_ext ?_)
    simp only [bytes_app, bytes_bs, List.append_assoc]
  · have hc := of_decide_eq_false hc
    obtain rfl : j = x.ps.length := by omega
    rw [List.take_length]
    refine lx hb5 (j := 3) rfl ?_
    refine CallX.use (blockText_law _ x.body (Nat.lt_succ_self _) (by omega) hbo h5 vb 0 (hbd4.keep k5) (ht.more k05) (by exact hxok.body) (by omega) (by omega)) ?_
    rintro _ h6 ⟨rfl, k6⟩
    simp only [asS_str, asK_int, bs_app, bs_size, List.length_append, List.length_cons, List.length_nil, bytes_len]
    rw [i64_in (by omega) (by omega)]
    refine ⟨by omega, by omega, by omega, ⟨k + 1, by simp, by omega, ?_, ((k3.trans k4).trans k5).trans k6⟩, by simp; omega⟩
    have he : pgT (p.take (k + 1)) = pgT (p.take k) ++ sgT x := by
      rw [tk_snoc hx]
      unfold pgT
      rw [List.flatMap_append]
      simp
    rw [he]
    unfold sgT
    simp only [List.append_assoc]
end
end Go.Proofs.YtaehnpilebkcoaaDoor

namespace Go.Proofs.YtaehnpilebkcoaaDoor
open Go Go.Sx Go.Sx.Tk Go.Sx.Rn Go.Proofs.YtaehnpilebkcoaaDoor.Sx

theorem sgsF_ne : ∀ {p : List Sg} {i m : Int} {e : Int × Int}, m ≤ 300 → sgsF p i m = .error e → e.1 ≠ 0
  | [], _, _, _, _, h => by cases h
  | x :: r, i, m, e, hm, h => by
    unfold sgsF at h
    split at h
    · rename_i h0
      cases h
      exact h0
    · have hok := stsF_ok x.body m 1 hm
      rcases fr_cases (stsF x.body m 1) with ⟨n, hn⟩ | ⟨e', hn⟩
      · rw [hn] at h hok
        exact sgsF_ne hok.2 h
      · rw [hn] at h hok
        cases h
        exact hok
theorem formP_ne {p : List Sg} {e : Int × Int} (h : formP p = .error e) : e.1 ≠ 0 := by
  unfold formP at h
  split at h
  · cases h
    decide
  split at h
  · cases h
    decide
  exact sgsF_ne (by decide) h
theorem formP_0 {p : List Sg} (h : (fltR (formP p)).1 = 0) : PgOk p ∧ fltR (formP p) = (0, 0) ∧ ∃ n, formP p = .ok n := by
  rcases fr_cases (formP p) with ⟨n, hn⟩ | ⟨e, hn⟩
  · exact ⟨pgOk_of hn, by rw [hn]; rfl, n, hn⟩
  · rw [hn] at h
    exact absurd h (formP_ne hn)
/-- what Check answers -/
def rendF (p : List Sg) : Int × Int := if (fltR (formP p)).1 = 0 then (if 12000 < (pgT p).length then (1, -1) else (0, 0)) else fltR (formP p)
theorem rendF_0 {p : List Sg} (h : (rendF p).1 = 0) : PgOk p ∧ (pgT p).length ≤ 12000 ∧ rendF p = (0, 0) := by
  unfold rendF at h ⊢
  split
  · rename_i h0
    rw [if_pos h0] at h
    split
    · rename_i h1
      rw [if_pos h1] at h
      cases h
    · exact ⟨(formP_0 h0).1, by omega, rfl⟩
  · rename_i h0
    rw [if_neg h0] at h
    exact absurd h h0
section
variable {ω : Amb}
theorem Check_law (hω : ω.low = 0) (p : List Sg) (hsm : Small p) (v : Value) (h : Hp) (hp : PgS h v p) (ht : PwTab h) (X : List PanicEntry → Hp → Prop) :
    CallX Tryd.prog ω n_render_Check [v] h (fun r h' => r = .agg (flt (rendF p).1 (rendF p).2).toArray ∧ Keep (fun _ => False) h h') X := by
  obtain ⟨w0, rfl, hs⟩ := hp
  refine C_render_Check ω _ h _ X ?_
  unfold W_render_Check
  simp only [show Value.cells (.agg #[w0]) = [w0].toArray from rfl]
  have hb0 := hp_push_new (h := h) (o := .cells [w0].toArray 24 (0, 0))
  have k0 := Keep.push (S := fun _ => False) h (.cells [w0].toArray 24 (0, 0))
  have z0 : (h.push (.cells [w0].toArray 24 (0, 0))).size = h.size + 1 := by simp
  generalize h.push (.cells [w0].toArray 24 (0, 0)) = h1 at *
  have hb1 := hp_push_new (h := h1) (o := .cells (flt 0 0).toArray 28 (0, 0))
  have k1 := Keep.push (S := fun _ => False) h1 (.cells (flt 0 0).toArray 28 (0, 0))
  simp only [show (Obj.cells #[(.int .i64 0), (.int .i64 0)] 28 (0, 0)) = Obj.cells (flt 0 0).toArray 28 (0, 0) from rfl]
  generalize h1.push (.cells (flt 0 0).toArray 28 (0, 0)) = h2 at *
  have hb0 := k1.get hb0 (by simp)
  have k02 := k0.trans k1
  have hL : h.size ≤ h1.size := by omega
  refine ⟨_, cellsH_blk hb0 rfl, ?_⟩
  refine CallX.use (check_law p hsm (.agg #[w0]) h2 ⟨w0, rfl, hs.keep k02⟩) ?_
  rintro _ h3 ⟨rfl, k3⟩
  have hb03 := k3.get hb0 (by simp)
  have hb13 := k3.get hb1 (by simp)
  have k03 := k02.trans k3
  rw [asA_agg]
  refine ⟨rfl, flt_one _ _, storeK_local (cs := flt (fltR (formP p)).1 (fltR (formP p)).2) rfl ?_⟩
  have hb4 := hp_push_new (h := h3) (o := .cells (flt (fltR (formP p)).1 (fltR (formP p)).2).toArray 28 (0, 0))
  have k4 := Keep.push (S := fun _ => False) h3 (.cells (flt (fltR (formP p)).1 (fltR (formP p)).2).toArray 28 (0, 0))
  have hL3 : h1.size < h3.size := by have := hp_lt hb13; omega
  generalize h3.push (.cells (flt (fltR (formP p)).1 (fltR (formP p)).2).toArray 28 (0, 0)) = h4 at *
  have hb04 := k4.get hb03 (by simp)
  have hb14 := k4.get hb13 (by simp)
  have k04 := k03.trans k4
  refine ⟨fun v h' => v = .bool (decide ((fltR (formP p)).1 = 0 ∧ 12000 < (pgT p).length)) ∧ Keep (fun _ => False) h4 h', ?_, ?_⟩
  · refine lx hb4 (j := 0) rfl ?_
    rw [asK_int]
    refine cond_c (fun hc => ?_) (fun hc => ?_)
    · have h0 : (fltR (formP p)).1 = 0 := eq_of_beq hc
      refine ⟨_, cellsH_blk hb04 rfl, ?_⟩
      refine CallX.use (whole_law hω p hsm (formP_0 h0).1 (.agg #[w0]) h4 ⟨w0, rfl, hs.keep k04⟩ (ht.more k04)) ?_
      rintro _ h5 ⟨rfl, k5⟩
      rw [asS_str, bs_size]
      refine ⟨?_, k5⟩
      congr 1
      rw [Bool.eq_iff_iff]
      simp [h0]
      omega
    · have h0 : ¬ (fltR (formP p)).1 = 0 := beq_eq_false_iff_ne.1 hc
      exact ⟨by rw [decide_eq_false fun h => h0 h.1], Keep.refl _ _⟩
  rintro _ _ h5 ⟨rfl, k5⟩
  have hb5 := k5.get hb4 (by simp)
  have hb15 := k5.get hb14 (by simp)
  have k05 := k04.trans k5
  have hR : rendF p = if (fltR (formP p)).1 = 0 ∧ 12000 < (pgT p).length then (1, -1) else fltR (formP p) := by
    unfold rendF
    by_cases h0 : (fltR (formP p)).1 = 0
    · rw [if_pos h0, (formP_0 h0).2.1]
      by_cases h1 : 12000 < (pgT p).length <;> simp [h1]
    · rw [if_neg h0, if_neg fun h => h0 h.1]
  refine ⟨fun h' => h'[h3.size]? = some (.cells (flt (rendF p).1 (rendF p).2).toArray 28 (0, 0)) ∧ Keep (fun b => b = h3.size) h5 h', ?_, ?_⟩
  · rw [asB_bool]
    refine cond_c (fun hc => ?_) (fun hc => ?_)
    · have h1 := of_decide_eq_true hc
      refine ⟨trivial, flt_one 1 (-1), storeK_of (o := 0) hb5 (by simp [flt]) ?_⟩
      rw [spl_all (by rfl), hR, if_pos h1]
      exact ⟨hp_set_same hb5, Keep.set (S := fun b => b = h3.size) _ rfl⟩
    · rw [hR, if_neg (of_decide_eq_false hc)]
      exact ⟨hb5, Keep.refl _ _⟩
  rintro _ h6 ⟨hb6, k6⟩
  have hb16 := k6.get hb15 (by omega)
  refine ⟨_, cellsH_blk hb6 rfl, rfl, flt_one _ _, finF hb16 rfl rfl fun h' kk _ => ⟨rfl, ?_⟩⟩
  have hs3 := k03.size
  exact newL (newL k05 (by omega) k6) hL kk
theorem RFault_law (p : List Sg) (hsm : Small p) (v : Value) (h : Hp) (hp : PgS h v p) (ht : PwTab h) (X : List PanicEntry → Hp → Prop) :
    CallX Tryd.prog ω n_pipewrightref_RenderFault [v] h (fun r h' => r = .agg (flt (rendF p).1 (rendF p).2).toArray ∧ Keep (fun _ => False) h h') X := by
  obtain ⟨w0, rfl, hs⟩ := hp
  refine C_pipewrightref_RenderFault ω _ h _ X ?_
  unfold W_pipewrightref_RenderFault
  simp only [show Value.cells (.agg #[w0]) = [w0].toArray from rfl]
  have hb0 := hp_push_new (h := h) (o := .cells [w0].toArray 24 (0, 0))
  have k0 := Keep.push (S := fun _ => False) h (.cells [w0].toArray 24 (0, 0))
  have z0 : (h.push (.cells [w0].toArray 24 (0, 0))).size = h.size + 1 := by simp
  generalize h.push (.cells [w0].toArray 24 (0, 0)) = h1 at *
  have hb1 := hp_push_new (h := h1) (o := .cells (flt 0 0).toArray 28 (0, 0))
  have k1 := Keep.push (S := fun _ => False) h1 (.cells (flt 0 0).toArray 28 (0, 0))
  simp only [show (Obj.cells #[(.int .i64 0), (.int .i64 0)] 28 (0, 0)) = Obj.cells (flt 0 0).toArray 28 (0, 0) from rfl]
  generalize h1.push (.cells (flt 0 0).toArray 28 (0, 0)) = h2 at *
  have hb0 := k1.get hb0 (by simp)
  have k02 := k0.trans k1
  have hL : h.size ≤ h1.size := by omega
  refine ⟨_, cellsH_blk hb0 rfl, ?_⟩
  refine CallX.use (formFault_law p hsm (.agg #[w0]) h2 ⟨w0, rfl, hs.keep k02⟩ (ht.more k02)) ?_
  rintro _ h3 ⟨rfl, k3⟩
  have hb03 := k3.get hb0 (by simp)
  have hb13 := k3.get hb1 (by simp)
  have k03 := k02.trans k3
  rw [asA_agg]
  refine ⟨rfl, flt_one _ _, storeK_local (cs := flt (fltR (formP p)).1 (fltR (formP p)).2) rfl ?_⟩
  have hb4 := hp_push_new (h := h3) (o := .cells (flt (fltR (formP p)).1 (fltR (formP p)).2).toArray 28 (0, 0))
  have k4 := Keep.push (S := fun _ => False) h3 (.cells (flt (fltR (formP p)).1 (fltR (formP p)).2).toArray 28 (0, 0))
  generalize h3.push (.cells (flt (fltR (formP p)).1 (fltR (formP p)).2).toArray 28 (0, 0)) = h4 at *
  have hb04 := k4.get hb03 (by simp)
  have hb14 := k4.get hb13 (by simp)
  have k04 := k03.trans k4
  refine ⟨fun v h' => v = .bool (decide ((fltR (formP p)).1 = 0 ∧ 12000 < (pgT p).length)) ∧ Keep (fun _ => False) h4 h', ?_, ?_⟩
  · refine lx hb4 (j := 0) rfl ?_
    rw [asK_int]
    refine cond_c (fun hc => ?_) (fun hc => ?_)
    · have h0 : (fltR (formP p)).1 = 0 := eq_of_beq hc
      refine ⟨_, cellsH_blk hb04 rfl, ?_⟩
      refine CallX.use (Text_law p hsm (formP_0 h0).1 (.agg #[w0]) h4 ⟨w0, rfl, hs.keep k04⟩ (ht.more k04)) ?_
      rintro _ h5 ⟨rfl, k5⟩
      rw [asS_str, bs_size]
      refine ⟨?_, k5⟩
      congr 1
      rw [Bool.eq_iff_iff]
      simp [h0]
      omega
    · have h0 : ¬ (fltR (formP p)).1 = 0 := beq_eq_false_iff_ne.1 hc
      exact ⟨by rw [decide_eq_false fun h => h0 h.1], Keep.refl _ _⟩
  rintro _ _ h5 ⟨rfl, k5⟩
  have hb5 := k5.get hb4 (by simp)
  have hb15 := k5.get hb14 (by simp)
  have k05 := k04.trans k5
  have hR : rendF p = if (fltR (formP p)).1 = 0 ∧ 12000 < (pgT p).length then (1, -1) else fltR (formP p) := by
    unfold rendF
    by_cases h0 : (fltR (formP p)).1 = 0
    · rw [if_pos h0, (formP_0 h0).2.1]
      by_cases h1 : 12000 < (pgT p).length <;> simp [h1]
    · rw [if_neg h0, if_neg fun h => h0 h.1]
  rw [asB_bool]
  refine cond_c (fun hc => ?_) (fun hc => ?_)
  · rw [hR, if_pos (of_decide_eq_true hc)]
    exact retF hb15 rfl 1 (-1) (R := fun r h' => r = Value.agg (flt (1, (-1 : Int)).1 (1, -1).2).toArray ∧ Keep (fun _ => False) h h') (fun h' kk => ⟨rfl, newL k05 hL kk⟩) X
  · rw [hR, if_neg (of_decide_eq_false hc)]
    exact ⟨_, cellsH_blk hb5 rfl, rfl, flt_one _ _, finF hb15 rfl rfl fun h' kk _ => ⟨rfl, newL k05 hL kk⟩⟩
/-- what Print answers -/
def printV (p : List Sg) : Value := if (rendF p).1 = 0 then .tuple #[.string (bs (pgT p)), .agg (flt 0 0).toArray] else .tuple #[.string ⟨#[]⟩, .agg (flt (rendF p).1 (rendF p).2).toArray]
theorem Print_law (hω : ω.low = 0) (p : List Sg) (hsm : Small p) (v : Value) (h : Hp) (hp : PgS h v p) (ht : PwTab h) (X : List PanicEntry → Hp → Prop) :
    CallX Tryd.prog ω n_render_Print [v] h (fun r h' => r = printV p ∧ Keep (fun _ => False) h h') X := by
  obtain ⟨w0, rfl, hs⟩ := hp
  refine C_render_Print ω _ h _ X ?_
  unfold W_render_Print
  simp only [show Value.cells (.agg #[w0]) = [w0].toArray from rfl]
  have hb0 := hp_push_new (h := h) (o := .cells [w0].toArray 24 (0, 0))
  have k0 := Keep.push (S := fun _ => False) h (.cells [w0].toArray 24 (0, 0))
  have z0 : (h.push (.cells [w0].toArray 24 (0, 0))).size = h.size + 1 := by simp
  generalize h.push (.cells [w0].toArray 24 (0, 0)) = h1 at *
  have hb1 := hp_push_new (h := h1) (o := .cells (flt 0 0).toArray 28 (0, 0))
  have k1 := Keep.push (S := fun _ => False) h1 (.cells (flt 0 0).toArray 28 (0, 0))
  simp only [show (Obj.cells #[(.int .i64 0), (.int .i64 0)] 28 (0, 0)) = Obj.cells (flt 0 0).toArray 28 (0, 0) from rfl]
  generalize h1.push (.cells (flt 0 0).toArray 28 (0, 0)) = h2 at *
  have hb0 := k1.get hb0 (by simp)
  have k02 := k0.trans k1
  have hL : h.size ≤ h1.size := by omega
  refine ⟨_, cellsH_blk hb0 rfl, ?_⟩
  refine CallX.use (Check_law hω p hsm (.agg #[w0]) h2 ⟨w0, rfl, hs.keep k02⟩ (ht.more k02)) ?_
  rintro _ h3 ⟨rfl, k3⟩
  have hb03 := k3.get hb0 (by simp)
  have hb13 := k3.get hb1 (by simp)
  have k03 := k02.trans k3
  rw [asA_agg]
  refine ⟨rfl, flt_one _ _, storeK_local (cs := flt (rendF p).1 (rendF p).2) rfl ?_⟩
  have hb4 := hp_push_new (h := h3) (o := .cells (flt (rendF p).1 (rendF p).2).toArray 28 (0, 0))
  have k4 := Keep.push (S := fun _ => False) h3 (.cells (flt (rendF p).1 (rendF p).2).toArray 28 (0, 0))
  generalize h3.push (.cells (flt (rendF p).1 (rendF p).2).toArray 28 (0, 0)) = h4 at *
  have hb04 := k4.get hb03 (by simp)
  have hb14 := k4.get hb13 (by simp)
  have k04 := k03.trans k4
  refine lx hb4 (j := 0) rfl ?_
  rw [asK_int]
  unfold printV
  refine cond_c (fun hc => ?_) (fun hc => ?_)
  · have hne := bne_iff_ne.1 hc
    rw [if_neg hne]
    exact ⟨_, cellsH_blk hb4 rfl, rfl, flt_one _ _, finF hb14 rfl rfl fun h' kk _ => ⟨rfl, newL k04 hL kk⟩⟩
  · have h0 : (rendF p).1 = 0 := by simpa using hc
    rw [if_pos h0]
    refine ⟨_, cellsH_blk hb04 rfl, ?_⟩
    refine CallX.use (whole_law hω p hsm (rendF_0 h0).1 (.agg #[w0]) h4 ⟨w0, rfl, hs.keep k04⟩ (ht.more k04)) ?_
    rintro _ h5 ⟨rfl, k5⟩
    exact ⟨trivial, flt_one 0 0, finF (k5.get hb14 (by simp)) rfl rfl fun h' kk _ => ⟨rfl, newL (k04.trans k5) hL kk⟩⟩
end
end Go.Proofs.YtaehnpilebkcoaaDoor

namespace Go.Proofs.YtaehnpilebkcoaaDoor
open Go Go.Sx Go.Sx.Tk Go.Sx.Rn Go.Proofs.YtaehnpilebkcoaaDoor.Sx

def prog1 : List Sg := [⟨⟨#[97]⟩, 0, [], []⟩]
theorem small1 : Small prog1 := by
  refine ⟨by decide, ?_, by decide⟩
  intro s hs
  obtain rfl := List.mem_singleton.1 hs
  exact ⟨by show (1 : Nat) ≤ 100; decide, by decide, fun q hq => absurd hq List.not_mem_nil, trivial⟩
theorem name1 : isNameB ⟨#[97]⟩ = true := by decide
theorem form1 : formP prog1 = .ok 0 := by
  unfold formP prog1
  rw [if_neg (by decide), if_neg (by decide)]
  unfold sgsF
  have h0 : sgH ⟨⟨#[97]⟩, 0, [], []⟩ = 0 := by
    unfold sgH
    rw [name1]
    rfl
  rw [if_neg (fun h => h h0)]
  rfl
theorem text1 : pgT prog1 = [115, 116, 97, 103, 101, 32, 97, 40, 41, 32, 123, 10, 125, 10] := by
  unfold pgT prog1 sgT prsT
  rfl
theorem rend1 : rendF prog1 = (0, 0) := by
  unfold rendF
  rw [form1, text1]
  rfl
theorem pgS1 {h : Hp} : PgS (Array.push h (.cells (List.toArray [(.string ⟨#[97]⟩), (.int .i64 0), (.slice none 0 0), (.slice none 0 0)]) 51 (0, 0))) (.agg #[(.slice (some ⟨Array.size h, 0, none⟩) 1 1)]) prog1 := by
  refine ⟨_, rfl, [(.string ⟨#[97]⟩), (.int .i64 0), (.slice none 0 0), (.slice none 0 0)], ⟨⟨rfl, .inr ⟨h.size, 0, 1, rfl, fun j u hu => ?_⟩⟩, by decide⟩, ?_, rfl⟩
  · rw [Nat.zero_add, cellH_block hp_push_new]
    simpa using hu
  · refine ⟨.slice none 0 0, .slice none 0 0, rfl, ⟨⟨rfl, .inl ⟨rfl, _, _, rfl⟩⟩, .inl rfl⟩, [], ⟨⟨rfl, .inl ⟨rfl, _, _, rfl⟩⟩, by decide⟩, ?_⟩
    unfold stsAt
    rfl
section
variable {ω : Amb}
theorem renderBegun_law (hω : ω.low = 0) (h : Hp) (ht : PwTab h) (X : List PanicEntry → Hp → Prop) :
    CallX Tryd.prog ω n_pipewrightlaw_renderBegun [] h (fun r h' => r = .bool true ∧ Keep (fun _ => False) h h') X := by
  refine C_pipewrightlaw_renderBegun ω h _ X ?_
  unfold W_pipewrightlaw_renderBegun
  have hp := pgS1 (h := h)
  have kp := Keep.push (S := fun _ => False) h (.cells (List.toArray [(.string ⟨#[97]⟩), (.int .i64 0), (.slice none 0 0), (.slice none 0 0)]) 51 (0, 0))
  refine ⟨rfl, ?_⟩
  refine CallX.use (Print_law hω prog1 small1 _ _ hp (ht.more kp)) ?_
  rintro _ h1 ⟨rfl, k1⟩
  have k01 := kp.trans k1
  unfold printV
  rw [rend1, if_pos rfl, tup2, asA_agg]
  refine ⟨rfl, flt_one 0 0, storeK_local (cs := flt 0 0) rfl ?_⟩
  have hb2 := hp_push_new (h := h1) (o := .cells (flt 0 0).toArray 28 (0, 0))
  have k2 := Keep.push (S := fun _ => False) h1 (.cells (flt 0 0).toArray 28 (0, 0))
  generalize h1.push (.cells (flt 0 0).toArray 28 (0, 0)) = h2 at *
  refine ⟨fun v h' => v = .bool true ∧ h2 = h', ?_, fun _ _ _ hj => ⟨hj.1, hj.2 ▸ k01.trans k2⟩⟩
  refine lx hb2 (j := 0) rfl ?_
  rw [asK_int]
  refine cond_t rfl ?_
  rw [asS_str, text1, eqS]
  refine cond_t (by decide) ?_
  refine CallX.use (Type_law ⟨#[114, 115, 105]⟩ 2 (by decide) h2) ?_
  rintro _ _ ⟨rfl, rfl⟩
  exact ⟨by congr 1, rfl⟩
theorem cellsP {h : Hp} {b : Nat} {w : Value} {C : List Value} (hb : h[b]? = some (.cells [w].toArray 24 (0, 0))) (hC : C = [w]) : cellsH h ⟨b, 0, none⟩ 1 C := by
  subst hC
  exact cellsH_blk hb rfl
theorem RenderChecks_lawX (hω : ω.low = 0) (p : List Sg) (t : ByteArray) (ends : Int) (v : Value) (h : Hp) (hp : PgS h v p) (ht : PwTab h) (X : List PanicEntry → Hp → Prop) :
    CallX Tryd.prog ω n_pipewrightlaw_RenderChecks [v, .string t, .int .i64 ends] h (fun r h' => r = .bool true ∧ Keep (fun _ => False) h h') X := by
  obtain ⟨w0, rfl, hs⟩ := hp
  refine C_pipewrightlaw_RenderChecks ω _ _ _ h _ X ?_
  unfold W_pipewrightlaw_RenderChecks
  simp only [show Value.cells (.agg #[w0]) = [w0].toArray from rfl]
  have hb0 := hp_push_new (h := h) (o := .cells [w0].toArray 24 (0, 0))
  have k0 := Keep.push (S := fun _ => False) h (.cells [w0].toArray 24 (0, 0))
  generalize h.push (.cells [w0].toArray 24 (0, 0)) = h1 at *
  refine CallX.use (renderBegun_law hω h1 (ht.more k0)) ?_
  rintro _ h2 ⟨rfl, k2⟩
  have hb2 := k2.get hb0 (by simp)
  have k02 := k0.trans k2
  rw [asB_bool]
  refine cond_f rfl ?_
  refine ⟨fun v h' => (∃ b : Bool, v = .bool b ∧ (b = false → Small p ∧ t.size ≤ 1000)) ∧ Keep (fun _ => False) h2 h', ?_, ?_⟩
  · refine ⟨_, cellsH_blk hb2 rfl, ?_⟩
    refine CallX.use (Great_law p (.agg #[w0]) h2 ⟨w0, rfl, hs.keep k02⟩) ?_
    rintro _ h3 ⟨g, rfl, k3, hg⟩
    rw [asB_bool]
    refine cond_c (fun hc => ?_) (fun hc => ?_)
    · exact ⟨⟨true, rfl, fun h => by cases h⟩, k3⟩
    · rw [asS_str]
      refine ⟨⟨_, rfl, fun h => ⟨hg hc, ?_⟩⟩, k3⟩
      have := of_decide_eq_false h
      omega
  rintro _ _ h3 ⟨⟨b, rfl, hb⟩, k3⟩
  have hb3 := k3.get hb2 (by simp)
  have k03 := k02.trans k3
  rw [asB_bool]
  refine cond_c (fun hc => ⟨trivial, k03⟩) (fun hc => ?_)
  obtain ⟨hsm, hts⟩ := hb hc
  refine ⟨fun v h' => v = .bool true ∧ Keep (fun _ => False) h3 h', ?_, fun _ _ _ hj => ⟨hj.1, k03.trans hj.2⟩⟩
  refine ⟨_, cellsH_blk hb3 rfl, _, cellsH_blk hb3 rfl, ?_⟩
  refine CallX.use (Copy_law p hsm (.agg #[w0]) h3 ⟨w0, rfl, hs.keep k03⟩) ?_
  rintro own h4 ⟨hown, k4⟩
  have hb4 := k4.get hb3 (by simp)
  refine ⟨cellsH_blk hb4 rfl, ?_⟩
  refine CallX.use (Check_law hω p hsm own h4 hown (ht.more (k03.trans k4))) ?_
  rintro _ h5 ⟨rfl, k5⟩
  have hb5 := k5.get hb4 (by simp)
  refine ⟨cellsH_blk hb5 rfl, ?_⟩
  refine CallX.use (RFault_law p hsm (.agg #[w0]) h5 ⟨w0, rfl, hs.keep ((k03.trans k4).trans k5)⟩ (ht.more ((k03.trans k4).trans k5))) ?_
  rintro _ h6 ⟨rfl, k6⟩
  simp only [asA_agg]
  show asK .i64 (.int .i64 (rendF p).1) fun n29 => asK .i64 (.int .i64 (rendF p).1) fun n30 => asK .i64 (.int .i64 (rendF p).2) fun n33 => asK .i64 (.int .i64 (rendF p).2) fun n34 => cond ((n29 == (n30 : Int)) && ((n33 == (n34 : Int)) && true)) _ _
  simp only [asK_int, beq_self_eq_true, Bool.and_true, cond_true]
  refine CallX.use (Type_law t ends (by omega) h6) ?_
  rintro _ _ ⟨rfl, rfl⟩
  refine CallX.use (IsType_law t ends (by omega) _) ?_
  rintro _ _ ⟨rfl, rfl⟩
  rw [asB_bool, asB_bool]
  exact ⟨by rw [beq_self_eq_true], (k4.trans k5).trans k6⟩
end
end Go.Proofs.YtaehnpilebkcoaaDoor
