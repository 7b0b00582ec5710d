/- What is parsed has the shape of what may be printed: expressions, types, names. -/
import Derived.Test.YtkeeboomikkojaaGreatDoorRi1
import Derived.Test.YtkeeboomikkojaaGreatDoorRy2
import Derived.Test.YtkeeboomikkojaaGreatDoorRy1
import Derived.Test.YtkeeboomikkojaaGreatDoorRx4
namespace Go.Proofs.YtkeeboomikkojaaGreatDoor
open Go Go.Sx Go.Sx.Tk Go.Sx.Rn Go.Proofs.YtkeeboomikkojaaGreatDoor.Sx

/-- tokens as Scan tells them -/
def TsOk (l : List Tok) : Prop := ∀ t ∈ l, TkOk t
theorem TsOk.tail {l : List Tok} (h : TsOk l) : TsOk l.tail := fun t ht => h t (List.mem_of_mem_tail ht)
theorem TsOk.cdr {t : Tok} {r : List Tok} (h : TsOk (t :: r)) : TsOk r := fun u hu => h u (List.mem_cons_of_mem _ hu)
/-- an expression read is one that may be printed; its parts were counted -/
def Xg (n : Nat) (r : Ex × Nat × List Tok) : Prop := Xw r.1 ∧ r.2.1 = n + exN r.1 ∧ TsOk r.2.2
theorem exN_num (n : Int) : exN (exNum n) = 1 := by
  unfold exNum exN exsN
  rfl
theorem exN_name (s : ByteArray) : exN (exName s) = 1 := by
  unfold exName exN exsN
  rfl
theorem xwf (e : Int) : ∀ f : Nat, (∀ {o n l r}, TsOk l → cmpP e f o n l = .ok r → Xg n r) ∧ (∀ {o n l r}, TsOk l → sumP e f o n l = .ok r → Xg n r) ∧ (∀ {o x n l r}, TsOk l → Xw x → sumL e f o x n l = .ok r → Xw r.1 ∧ r.2.1 + exN x = n + exN r.1 ∧ TsOk r.2.2) ∧
    (∀ {o n l r}, TsOk l → prodP e f o n l = .ok r → Xg n r) ∧ (∀ {o x n l r}, TsOk l → Xw x → prodL e f o x n l = .ok r → Xw r.1 ∧ r.2.1 + exN x = n + exN r.1 ∧ TsOk r.2.2) ∧ (∀ {o n l r}, TsOk l → unitP e f o n l = .ok r → Xg n r) := by
  intro f
  induction f with
  | zero =>
    refine ⟨?_, ?_, ?_, ?_, ?_, ?_⟩
    · intro o n l r _ h
      unfold cmpP at h
      cases h
    · intro o n l r _ h
      unfold sumP at h
      cases h
    · intro o x n l r _ _ h
      unfold sumL at h
      cases h
    · intro o n l r _ h
      unfold prodP at h
      cases h
    · intro o x n l r _ _ h
      unfold prodL at h
      cases h
    · intro o n l r _ h
      unfold unitP at h
      cases h
  | succ f ih =>
    obtain ⟨i1, i2, i3, i4, i5, i6⟩ := ih
    refine ⟨?_, ?_, ?_, ?_, ?_, ?_⟩
    · intro o n l r ht h
      unfold cmpP at h
      obtain ⟨a, ha, h⟩ := bindP_okk h
      obtain ⟨a1, a2, a3⟩ := i2 ht ha
      split at h
      · obtain ⟨b, hb, h⟩ := bindP_okk h
        obtain ⟨b1, b2, b3⟩ := i2 a3.tail hb
        cases h
        exact ⟨.two (by decide) (by decide) a1 b1, by show b.2.1 + 1 = n + exN (exTwo 7 a.1 b.1); rw [exN_two]; omega, b3⟩
      split at h
      · obtain ⟨b, hb, h⟩ := bindP_okk h
        obtain ⟨b1, b2, b3⟩ := i2 a3.tail hb
        cases h
        exact ⟨.two (by decide) (by decide) a1 b1, by show b.2.1 + 1 = n + exN (exTwo 8 a.1 b.1); rw [exN_two]; omega, b3⟩
      · cases h
        exact ⟨a1, a2, a3⟩
    · intro o n l r ht h
      unfold sumP at h
      obtain ⟨a, ha, h⟩ := bindP_okk h
      obtain ⟨a1, a2, a3⟩ := i4 ht ha
      obtain ⟨b1, b2, b3⟩ := i3 a3 a1 h
      exact ⟨b1, by omega, b3⟩
    · intro o x n l r ht hx h
      unfold sumL at h
      split at h
      · obtain ⟨a, ha, h⟩ := bindP_okk h
        obtain ⟨a1, a2, a3⟩ := i4 ht.tail ha
        obtain ⟨b1, b2, b3⟩ := i3 a3 (.two (by decide) (by decide) hx a1) h
        rw [exN_two] at b2
        exact ⟨b1, by omega, b3⟩
      split at h
      · obtain ⟨a, ha, h⟩ := bindP_okk h
        obtain ⟨a1, a2, a3⟩ := i4 ht.tail ha
        obtain ⟨b1, b2, b3⟩ := i3 a3 (.two (by decide) (by decide) hx a1) h
        rw [exN_two] at b2
        exact ⟨b1, by omega, b3⟩
      · cases h
        exact ⟨hx, rfl, ht⟩
    · intro o n l r ht h
      unfold prodP at h
      obtain ⟨a, ha, h⟩ := bindP_okk h
      obtain ⟨a1, a2, a3⟩ := i6 ht ha
      obtain ⟨b1, b2, b3⟩ := i5 a3 a1 h
      exact ⟨b1, by omega, b3⟩
    · intro o x n l r ht hx h
      unfold prodL at h
      split at h
      · obtain ⟨a, ha, h⟩ := bindP_okk h
        obtain ⟨a1, a2, a3⟩ := i6 ht.tail ha
        obtain ⟨b1, b2, b3⟩ := i5 a3 (.two (by decide) (by decide) hx a1) h
        rw [exN_two] at b2
        exact ⟨b1, by omega, b3⟩
      · cases h
        exact ⟨hx, rfl, ht⟩
    · intro o n l r ht h
      unfold unitP at h
      split at h
      · split at h
        · cases h
        obtain ⟨a, ha, h⟩ := bindP_okk h
        obtain ⟨a1, a2, a3⟩ := i1 ht.tail ha
        split at h
        · cases h
          exact ⟨a1, a2, a3.tail⟩
        · cases h
      split at h
      · split at h
        · cases h
        obtain ⟨a, ha, h⟩ := bindP_okk h
        obtain ⟨a1, a2, a3⟩ := i6 ht.tail ha
        cases h
        exact ⟨.neg a1, by show a.2.1 = n + exN (exNeg a.1); rw [exN_neg]; omega, a3⟩
      split at h
      · cases h
      · rename_i t r' _ _
        have htk := ht t List.mem_cons_self
        split at h
        · rename_i hk
          cases h
          rcases htk with h1 | ⟨h1, _⟩ | ⟨_, _, h2, h3⟩ | ⟨h1, _⟩
          · rw [hk] at h1
            cases h1
          · rw [hk] at h1
            cases h1
          · exact ⟨.num h2 h3, by show n + 1 = n + exN (exNum t.n); rw [exN_num], ht.cdr⟩
          · rw [hk] at h1
            cases h1
        split at h
        · rename_i hk
          cases h
          rcases htk with h1 | ⟨_, h2⟩ | ⟨h1, _⟩ | ⟨h1, _⟩
          · rw [hk] at h1
            cases h1
          · exact ⟨.name h2, by show n + 1 = n + exN (exName t.text); rw [exN_name], ht.cdr⟩
          · rw [hk] at h1
            cases h1
          · rw [hk] at h1
            cases h1
        · cases h
theorem exprP_ok {e : Int} {l : List Tok} {q : Ex × List Tok} (ht : TsOk l) (h : exprP e l = .ok q) : XwL q.1 ∧ TsOk q.2 := by
  cases l with
  | nil => cases h
  | cons t r =>
    rw [exprP_cons] at h
    obtain ⟨a, ha, h⟩ := bindP_okk h
    obtain ⟨a1, a2, a3⟩ := (xwf e _).1 ht ha
    split at h
    · cases h
    · rename_i h20
      cases h
      exact ⟨⟨a1, by show exN a.1 ≤ 20; omega⟩, a3⟩
theorem nameP_ok {e : Int} {l : List Tok} {q : ByteArray × List Tok} (ht : TsOk l) (h : nameP e l = .ok q) : isNameB q.1 = true ∧ TsOk q.2 := by
  cases l with
  | nil => cases h
  | cons t r =>
    rw [nameP_cons] at h
    split at h
    · rename_i hk
      cases h
      rcases ht t List.mem_cons_self with h1 | ⟨_, h2⟩ | ⟨h1, _⟩ | ⟨h1, _⟩
      · rw [hk] at h1
        cases h1
      · exact ⟨h2, ht.cdr⟩
      · rw [hk] at h1
        cases h1
      · rw [hk] at h1
        cases h1
    · cases h
theorem numP_ok {e : Int} {l : List Tok} {q : Int × List Tok} (ht : TsOk l) (h : numP e l = .ok q) : 0 ≤ q.1 ∧ q.1 < 1000000000000000000 ∧ TsOk q.2 := by
  cases l with
  | nil => cases h
  | cons t r =>
    rw [numP_cons] at h
    split at h
    · rename_i hk
      cases h
      rcases ht t List.mem_cons_self with h1 | ⟨h1, _⟩ | ⟨_, _, h2, h3⟩ | ⟨h1, _⟩
      · rw [hk] at h1
        cases h1
      · rw [hk] at h1
        cases h1
      · exact ⟨h2, h3, ht.cdr⟩
      · rw [hk] at h1
        cases h1
    · cases h
theorem wantP_ok {e : Int} {s : List UInt8} {l r : List Tok} (ht : TsOk l) (h : wantP e s l = .ok r) : TsOk r := by
  unfold wantP at h
  split at h
  · cases h
    exact ht.tail
  · cases h
theorem ty_form {l : List UInt8} (hl : l.length ≤ 3) (hc : ∀ c ∈ l, c = 115 ∨ c = 114) : isTyB (bs (l ++ [105])) 3 = true := by
  unfold isTyB
  have hs : (bs (l ++ [105])).size = l.length + 1 := by
    rw [bs_size]
    simp
  rw [decide_eq_true_eq, hs]
  have hcat : ∀ k, cAt (bs (l ++ [105])) k = (l ++ [105]).getD k 0 := fun k => by
    unfold cAt
    rw [bytes_bs]
  refine ⟨by omega, by omega, ?_, fun k hk => ?_⟩
  · rw [hcat, List.getD_eq_getElem?_getD]
    simp
  · have hk : k < l.length := by omega
    rw [hcat, List.getD_eq_getElem?_getD, List.getElem?_append_left hk, List.getElem?_eq_getElem hk, Option.getD_some]
    exact hc _ (List.getElem_mem hk)
theorem typP_ok {e : Int} : ∀ {l : List Tok} {acc : List UInt8} {q : List UInt8 × List Tok}, TsOk l → acc.length ≤ 3 → (∀ c ∈ acc, c = 115 ∨ c = 114) → typP e acc l = .ok q → isTyB (bs q.1) 3 = true ∧ TsOk q.2
  | [], acc, q, _, _, _, h => by
    rw [typP_nil] at h
    cases h
  | t :: r, acc, q, ht, hl, hc, h => by
    rw [typP_cons] at h
    split at h
    · cases h
      exact ⟨ty_form hl hc, ht.cdr⟩
    split at h
    · rename_i hT
      split at h
      · cases h
      · rename_i h3
        have htl : ∃ c, (bytesOf t.text).take 1 = [c] ∧ (c = 115 ∨ c = 114) := by
          rw [Bool.or_eq_true] at hT
          rcases hT with hT | hT
          · exact ⟨115, by rw [isT_text hT]; rfl, .inl rfl⟩
          · exact ⟨114, by rw [isT_text hT]; rfl, .inr rfl⟩
        obtain ⟨c, h1, h2⟩ := htl
        rw [h1] at h
        refine typP_ok ht.cdr (by simp; omega) (fun d hd => ?_) h
        rcases List.mem_append.1 hd with hd | hd
        · exact hc d hd
        · rw [List.mem_singleton.1 hd]
          exact h2
    · cases h
theorem argsL_ok {e : Int} : ∀ {f : Nat} {acc : List Ex} {l : List Tok} {q : List Ex × List Tok}, TsOk l → acc.length ≤ 6 → (∀ x ∈ acc, XwL x) → argsL e f acc l = .ok q → q.1.length ≤ 6 ∧ (∀ x ∈ q.1, XwL x) ∧ TsOk q.2
  | 0, _, _, _, _, _, _, h => by
    unfold argsL at h
    cases h
  | f + 1, acc, l, q, ht, hl, hx, h => by
    unfold argsL at h
    split at h
    · cases h
      exact ⟨hl, hx, ht.tail⟩
    · obtain ⟨l1, hl1, h⟩ := bindP_okk h
      have ht1 : TsOk l1 := by
        split at hl1
        · cases hl1
          exact ht
        · exact wantP_ok ht hl1
      split at h
      · cases h
      · rename_i h6
        obtain ⟨x, hx1, h⟩ := bindP_okk h
        obtain ⟨h1, h2⟩ := exprP_ok ht1 hx1
        refine argsL_ok h2 (by simp; omega) (fun y hy => ?_) h
        rcases List.mem_append.1 hy with hy | hy
        · exact hx y hy
        · rw [List.mem_singleton.1 hy]
          exact h1
theorem parsL_ok {e : Int} : ∀ {f : Nat} {acc : List (ByteArray × ByteArray)} {l : List Tok} {q : List (ByteArray × ByteArray) × List Tok}, TsOk l → acc.length ≤ 6 → (∀ x ∈ acc, isNameB x.1 = true ∧ isTyB x.2 3 = true) → parsL e f acc l = .ok q → q.1.length ≤ 6 ∧ (∀ x ∈ q.1, isNameB x.1 = true ∧ isTyB x.2 3 = true) ∧ TsOk q.2
  | 0, _, _, _, _, _, _, h => by
    unfold parsL at h
    cases h
  | f + 1, acc, l, q, ht, hl, hx, h => by
    unfold parsL at h
    split at h
    · cases h
      exact ⟨hl, hx, ht.tail⟩
    · obtain ⟨l1, hl1, h⟩ := bindP_okk h
      have ht1 : TsOk l1 := by
        split at hl1
        · cases hl1
          exact ht
        · exact wantP_ok ht hl1
      split at h
      · cases h
      · rename_i h6
        obtain ⟨x, hx1, h⟩ := bindP_okk h
        obtain ⟨y, hy1, h⟩ := bindP_okk h
        obtain ⟨h1, h2⟩ := nameP_ok ht1 hx1
        obtain ⟨h3, h4⟩ := typP_ok h2 (by simp) (fun c hc => absurd hc List.not_mem_nil) hy1
        refine parsL_ok h4 (by simp; omega) (fun z hz => ?_) h
        rcases List.mem_append.1 hz with hz | hz
        · exact hx z hz
        · rw [List.mem_singleton.1 hz]
          exact ⟨h1, h3⟩
/-! ### statements -/
theorem shortP_ok {e : Int} {d : Nat} {l : List Tok} {q : Sh × List Tok} {at_ : Int} {deep : Nat} (ht : TsOk l) (h1 : 1 ≤ d) (h11 : d < 11) (h : shortP e d l = .ok q) : Sw deep (.mk (d : Nat) at_ q.1.a q.1.b q.1.t q.1.n q.1.e [] []) ∧ TsOk q.2 := by
  have hd : d = 1 ∨ d = 2 ∨ d = 3 ∨ d = 4 ∨ d = 5 ∨ d = 6 ∨ d = 7 ∨ d = 8 ∨ d = 9 ∨ d = 10 := by omega
  unfold shortP at h
  rcases hd with rfl | rfl | rfl | rfl | rfl | rfl | rfl | rfl | rfl | rfl
  · rw [if_neg (by decide)] at h
    obtain ⟨a, ha, h⟩ := bindP_okk h
    rw [if_pos (by decide)] at h
    obtain ⟨w, hw, h⟩ := bindP_okk h
    obtain ⟨x, hx, h⟩ := bindP_okk h
    obtain ⟨n1, t1⟩ := nameP_ok ht ha
    obtain ⟨x1, t2⟩ := exprP_ok (wantP_ok t1 hw) hx
    cases h
    exact ⟨.let_ (.inl rfl) n1 x1, t2⟩
  · rw [if_neg (by decide)] at h
    obtain ⟨a, ha, h⟩ := bindP_okk h
    rw [if_pos (by decide)] at h
    obtain ⟨w, hw, h⟩ := bindP_okk h
    obtain ⟨x, hx, h⟩ := bindP_okk h
    obtain ⟨n1, t1⟩ := nameP_ok ht ha
    obtain ⟨x1, t2⟩ := exprP_ok (wantP_ok t1 hw) hx
    cases h
    exact ⟨.let_ (.inr rfl) n1 x1, t2⟩
  · rw [if_pos rfl] at h
    obtain ⟨x, hx, h⟩ := bindP_okk h
    obtain ⟨x1, t2⟩ := exprP_ok ht hx
    cases h
    exact ⟨.emit x1, t2⟩
  · rw [if_neg (by decide)] at h
    obtain ⟨a, ha, h⟩ := bindP_okk h
    rw [if_neg (by decide), if_pos rfl] at h
    obtain ⟨b, hb, h⟩ := bindP_okk h
    obtain ⟨ty, hty, h⟩ := bindP_okk h
    obtain ⟨n, hn, h⟩ := bindP_okk h
    obtain ⟨n1, t1⟩ := nameP_ok ht ha
    obtain ⟨n2, t2⟩ := nameP_ok t1 hb
    obtain ⟨y1, t3⟩ := typP_ok t2 (by simp) (fun c hc => absurd hc List.not_mem_nil) hty
    obtain ⟨m1, m2, t4⟩ := numP_ok t3 hn
    cases h
    exact ⟨.chan n1 n2 y1 m1 m2, t4⟩
  · rw [if_neg (by decide)] at h
    obtain ⟨a, ha, h⟩ := bindP_okk h
    rw [if_neg (by decide), if_neg (by decide), if_pos rfl] at h
    obtain ⟨b, hb, h⟩ := bindP_okk h
    obtain ⟨n1, t1⟩ := nameP_ok ht ha
    obtain ⟨n2, t2⟩ := nameP_ok t1 hb
    cases h
    exact ⟨.clone n1 n2, t2⟩
  · rw [if_neg (by decide)] at h
    obtain ⟨a, ha, h⟩ := bindP_okk h
    rw [if_neg (by decide), if_neg (by decide), if_neg (by decide), if_pos rfl] at h
    obtain ⟨x, hx, h⟩ := bindP_okk h
    obtain ⟨n1, t1⟩ := nameP_ok ht ha
    obtain ⟨x1, t2⟩ := exprP_ok t1 hx
    cases h
    exact ⟨.send n1 x1, t2⟩
  · rw [if_neg (by decide)] at h
    obtain ⟨a, ha, h⟩ := bindP_okk h
    rw [if_neg (by decide), if_neg (by decide), if_neg (by decide), if_neg (by decide), if_neg (by decide)] at h
    obtain ⟨n1, t1⟩ := nameP_ok ht ha
    cases h
    exact ⟨.one (.inl rfl) n1, t1⟩
  · rw [if_neg (by decide)] at h
    obtain ⟨a, ha, h⟩ := bindP_okk h
    rw [if_neg (by decide), if_neg (by decide), if_neg (by decide), if_neg (by decide), if_neg (by decide)] at h
    obtain ⟨n1, t1⟩ := nameP_ok ht ha
    cases h
    exact ⟨.one (.inr (.inl rfl)) n1, t1⟩
  · rw [if_neg (by decide)] at h
    obtain ⟨a, ha, h⟩ := bindP_okk h
    rw [if_neg (by decide), if_neg (by decide), if_neg (by decide), if_neg (by decide), if_neg (by decide)] at h
    obtain ⟨n1, t1⟩ := nameP_ok ht ha
    cases h
    exact ⟨.one (.inr (.inr rfl)) n1, t1⟩
  · rw [if_neg (by decide)] at h
    obtain ⟨a, ha, h⟩ := bindP_okk h
    rw [if_neg (by decide), if_neg (by decide), if_neg (by decide), if_neg (by decide), if_pos rfl] at h
    obtain ⟨w, hw, h⟩ := bindP_okk h
    obtain ⟨x, hx, h⟩ := bindP_okk h
    obtain ⟨n1, t1⟩ := nameP_ok ht ha
    obtain ⟨a1, a2, t2⟩ := argsL_ok (wantP_ok t1 hw) (by simp) (fun y hy => absurd hy List.not_mem_nil) hx
    cases h
    exact ⟨.spawn n1 a1 a2, t2⟩
theorem longP_ok {e : Int} {d : Nat} {l : List Tok} {q : Sh × List Tok} (ht : TsOk l) (h11 : 11 ≤ d) (h14 : d ≤ 14) (h : longP e d l = .ok q) : TsOk q.2 ∧ ∀ {at_ : Int} {deep : Nat} {body els : List St}, deep < 8 → (∀ y ∈ body, Sw (deep + 1) y) → (∀ y ∈ els, Sw (deep + 1) y) → (d = 12 ∨ d = 13 → els = []) → Sw deep (.mk (d : Nat) at_ q.1.a q.1.b ⟨#[]⟩ 0 q.1.e body els) := by
  have hd : d = 11 ∨ d = 12 ∨ d = 13 ∨ d = 14 := by omega
  unfold longP at h
  rcases hd with rfl | rfl | rfl | rfl
  · rw [if_pos (by decide)] at h
    obtain ⟨a, ha, h⟩ := bindP_okk h
    obtain ⟨w, hw, h⟩ := bindP_okk h
    obtain ⟨b, hb, h⟩ := bindP_okk h
    obtain ⟨n1, t1⟩ := nameP_ok ht ha
    obtain ⟨n2, t2⟩ := nameP_ok (wantP_ok t1 hw) hb
    cases h
    exact ⟨t2, fun h1 h2 h3 _ => .take n1 n2 h1 h2 h3⟩
  · rw [if_pos (by decide)] at h
    obtain ⟨a, ha, h⟩ := bindP_okk h
    obtain ⟨w, hw, h⟩ := bindP_okk h
    obtain ⟨b, hb, h⟩ := bindP_okk h
    obtain ⟨n1, t1⟩ := nameP_ok ht ha
    obtain ⟨n2, t2⟩ := nameP_ok (wantP_ok t1 hw) hb
    cases h
    refine ⟨t2, fun h1 h2 _ h4 => ?_⟩
    rw [h4 (.inl rfl)]
    exact .for_ n1 n2 h1 h2
  · rw [if_neg (by decide)] at h
    obtain ⟨x, hx, h⟩ := bindP_okk h
    obtain ⟨x1, t2⟩ := exprP_ok ht hx
    cases h
    refine ⟨t2, fun h1 h2 _ h4 => ?_⟩
    rw [h4 (.inr rfl)]
    exact .rep x1 h1 h2
  · rw [if_neg (by decide)] at h
    obtain ⟨x, hx, h⟩ := bindP_okk h
    obtain ⟨x1, t2⟩ := exprP_ok ht hx
    cases h
    exact ⟨t2, fun h1 h2 h3 _ => .if_ x1 h1 h2 h3⟩
theorem sw_parse (e : Int) : ∀ f : Nat, (∀ {deep n l r}, TsOk l → deep ≤ 8 → blockP e f deep n l = .ok r → deep < 8 ∧ (∀ y ∈ r.1, Sw (deep + 1) y) ∧ TsOk r.2.2) ∧ (∀ {deep acc n l r}, TsOk l → deep ≤ 8 → (∀ y ∈ acc, Sw deep y) → stmtsL e f deep acc n l = .ok r → (∀ y ∈ r.1, Sw deep y) ∧ TsOk r.2.2) ∧ (∀ {deep n l r}, TsOk l → deep ≤ 8 → stmtP e f deep n l = .ok r → Sw deep r.1 ∧ TsOk r.2.2) := by
  intro f
  induction f with
  | zero =>
    refine ⟨?_, ?_, ?_⟩
    · intro deep n l r _ _ h
      unfold blockP at h
      cases h
    · intro deep acc n l r _ _ _ h
      unfold stmtsL at h
      cases h
    · intro deep n l r _ _ h
      unfold stmtP at h
      cases h
  | succ f ih =>
    obtain ⟨i1, i2, i3⟩ := ih
    refine ⟨?_, ?_, ?_⟩
    · intro deep n l r ht hd h
      rw [blockP_eq] at h
      split at h
      · split at h
        · cases h
        · rename_i h8
          obtain ⟨a, b⟩ := i2 ht.tail (by omega) (fun y hy => absurd hy List.not_mem_nil) h
          exact ⟨by omega, a, b⟩
      · cases h
    · intro deep acc n l r ht hd hacc h
      rw [stmtsL_eq] at h
      split at h
      · cases h
        exact ⟨hacc, ht.tail⟩
      · obtain ⟨x, hx, h⟩ := bindP_okk h
        obtain ⟨h1, h2⟩ := i3 ht hd hx
        refine i2 h2 hd (fun y hy => ?_) h
        rcases List.mem_append.1 hy with hy | hy
        · exact hacc y hy
        · rw [List.mem_singleton.1 hy]
          exact h1
    · intro deep n l r ht hd h
      cases l with
      | nil =>
        rw [stmtP_nil] at h
        cases h
      | cons t l =>
        rw [stmtP_cons] at h
        split at h
        · rename_i hw
          split at h
          · cases h
          have hle := doW_le (bytesOf t.text)
          split at h
          · rename_i h11
            obtain ⟨s, hs, h⟩ := bindP_okk h
            obtain ⟨w, hw2, h⟩ := bindP_okk h
            obtain ⟨s1, s2⟩ := shortP_ok (at_ := t.at_) (deep := deep) ht.cdr (by omega) h11 hs
            cases h
            exact ⟨s1, wantP_ok s2 hw2⟩
          · rename_i h11
            obtain ⟨s, hs, h⟩ := bindP_okk h
            obtain ⟨b, hb, h⟩ := bindP_okk h
            obtain ⟨s1, s2⟩ := longP_ok ht.cdr (by omega) hle hs
            obtain ⟨b1, b2, b3⟩ := i1 s1 hd hb
            split at h
            · rename_i hel
              obtain ⟨c, hc, h⟩ := bindP_okk h
              obtain ⟨c1, c2, c3⟩ := i1 b3.tail hd hc
              cases h
              refine ⟨s2 b1 b2 c2 fun hh => ?_, c3⟩
              rcases hel.1 with h1 | h1 <;> omega
            · cases h
              exact ⟨s2 b1 b2 (fun y hy => absurd hy List.not_mem_nil) fun _ => rfl, b3⟩
        · cases h
end Go.Proofs.YtkeeboomikkojaaGreatDoor

namespace Go.Proofs.YtkeeboomikkojaaGreatDoor
open Go Go.Sx Go.Sx.Tk Go.Sx.Rn Go.Proofs.YtkeeboomikkojaaGreatDoor.Sx

theorem orF_00 {a b : Int} (ha : a = 0) (hb : b = 0) : orF a b = 0 := by rw [ha, orF_0, hb]
theorem emp_e0 : emp (⟨#[]⟩ : ByteArray) := by unfold emp; rfl
theorem exH_ok {x : Ex} (h1 : 1 ≤ x.op ∧ x.op ≤ 8) (h2 : (x.l.length : Int) = wantN x.op) (h3 : x.n ≠ 0 → x.op = 1) (h4 : ¬ emp x.nm → x.op = 2) (h5 : x.op = 2 → isNameB x.nm = true) (h6 : 0 ≤ x.n ∧ x.n < 1000000000000000000) : exH x = 0 := by
  unfold exH
  rw [if_neg, if_neg, if_neg (by omega)]
  · rintro ⟨g1, g2⟩
    rw [h5 g1] at g2
    cases g2
  · rintro (g | g | g | ⟨g1, g2⟩ | ⟨g1, g2⟩)
    · omega
    · omega
    · exact g h2
    · exact g2 (h3 g1)
    · exact g2 (h4 g1)
theorem zN0 : 0 ≤ (0 : Int) ∧ (0 : Int) < 1000000000000000000 := by decide
theorem xw_F : ∀ {x : Ex}, Xw x → exF x = 0 := by
  intro x h
  induction h with
  | @num n h0 h1 =>
    rw [exF_eq]
    refine orF_00 (exH_ok (x := exNum n) ⟨by show (1 : Int) ≤ 1; decide, by show (1 : Int) ≤ 8; decide⟩ rfl (fun _ => rfl) (fun g => absurd emp_e0 g) (fun g => absurd (show (1 : Int) = 2 from g) (by decide)) ⟨h0, h1⟩) rfl
  | @name s hs =>
    rw [exF_eq]
    exact orF_00 (exH_ok (x := exName s) ⟨by show (1 : Int) ≤ 2; decide, by show (2 : Int) ≤ 8; decide⟩ rfl (fun g => absurd rfl g) (fun _ => rfl) (fun _ => hs) zN0) rfl
  | @neg a _ ih =>
    rw [exF_eq]
    refine orF_00 (exH_ok (x := exNeg a) ⟨by show (1 : Int) ≤ 3; decide, by show (3 : Int) ≤ 8; decide⟩ rfl (fun g => absurd rfl g) (fun g => absurd emp_e0 g) (fun g => absurd (show (3 : Int) = 2 from g) (by decide)) zN0) ?_
    show orF (exF a) (exsF []) = 0
    exact orF_00 ih rfl
  | @two op a b h4 h8 _ _ iha ihb =>
    rw [exF_eq]
    have hw : wantN op = 2 := by unfold wantN; rw [if_neg (by omega), if_neg (by omega)]
    refine orF_00 (exH_ok (x := exTwo op a b) ⟨by show 1 ≤ op; omega, h8⟩ (by show _ = wantN op; rw [hw]; rfl) (fun g => absurd rfl g) (fun g => absurd emp_e0 g) (fun g => by have : op = 2 := g; omega) zN0) ?_
    show orF (exF a) (orF (exF b) (exsF [])) = 0
    exact orF_00 iha (orF_00 ihb rfl)
theorem xwL_es : ∀ {l : List Ex}, (∀ x ∈ l, XwL x) → esF l = 0
  | [], _ => rfl
  | x :: r, h => by
    unfold esF
    refine orF_00 ?_ (xwL_es fun y hy => h y (List.mem_cons_of_mem _ hy))
    obtain ⟨h1, h2⟩ := h x List.mem_cons_self
    unfold eF1
    rw [if_neg (by omega), orF_0]
    exact xw_F h1
theorem stH_ok {x : St} {m deep : Int} {f : Fm} (h300 : m < 300) (hf : formOf x.d = some f) (hb : badF f x = false) (he : x.e.length ≤ 6) (hs : stR f x deep = 0) : stH x m deep = 0 := by
  unfold stH
  rw [if_neg (by omega), hf]
  show (if badF f x then 5 else if 6 < x.e.length then 8 else stR f x deep) = 0
  rw [hb, if_neg Bool.false_ne_true, if_neg (by omega), hs]
theorem nmF_t {s : ByteArray} (h : isNameB s = true) : nmF true s = 0 := by
  unfold nmF
  rw [h]
  rfl
theorem nmF_f : nmF false e0 = 0 := by decide
theorem stR_ok {f : Fm} {x : St} {deep : Int} (h1 : nmF f.a x.a = 0) (h2 : nmF f.b x.b = 0) (h3 : (f.t && !isTyB x.t 3) = false) (h4 : 0 ≤ x.n ∧ x.n < 1000000000000000000) (h5 : ∀ y ∈ x.e, XwL y) (h6 : f.body = true → deep < 8) : stR f x deep = 0 := by
  unfold stR
  refine orF_00 h1 (orF_00 h2 (orF_00 ?_ (orF_00 ?_ (orF_00 (xwL_es h5) ?_))))
  · rw [h3]
    rfl
  · rw [decide_eq_false (by omega)]
    rfl
  · cases hb : f.body with
    | false => rfl
    | true =>
      have := h6 hb
      rw [decide_eq_false (by omega)]
      rfl
theorem one_l {x : Ex} (h : XwL x) : ∀ y ∈ [x], XwL y := fun y hy => by rw [List.mem_singleton.1 hy]; exact h
theorem nil_l : ∀ y ∈ ([] : List Ex), XwL y := fun y hy => absurd hy List.not_mem_nil
theorem nil_s {deep : Nat} : ∀ y ∈ ([] : List St), Sw deep y := fun y hy => absurd hy List.not_mem_nil
theorem tyk {s : ByteArray} (h : isTyB s 3 = true) : (true && !isTyB s 3) = false := by
  rw [h]
  rfl
theorem sw_H {deep : Nat} {x : St} (h : Sw deep x) : (∀ y ∈ x.body, Sw (deep + 1) y) ∧ (∀ y ∈ x.els, Sw (deep + 1) y) ∧ ∀ m : Int, m < 300 → stH x m deep = 0 := by
  cases h with
  | @let_ _ _ _ _ x hd hn hx =>
    refine ⟨nil_s, nil_s, fun m hm => ?_⟩
    rcases hd with rfl | rfl
    · exact stH_ok hm rfl rfl (by show 1 ≤ 6; decide) (stR_ok (nmF_t hn) nmF_f rfl zN0 (one_l hx) fun h => by cases h)
    · exact stH_ok hm rfl rfl (by show 1 ≤ 6; decide) (stR_ok (nmF_t hn) nmF_f rfl zN0 (one_l hx) fun h => by cases h)
  | @emit _ _ x hx => exact ⟨nil_s, nil_s, fun m hm => stH_ok hm rfl rfl (by show 1 ≤ 6; decide) (stR_ok nmF_f nmF_f rfl zN0 (one_l hx) fun h => by cases h)⟩
  | chan ha hb hty h0 h1 => exact ⟨nil_s, nil_s, fun m hm => stH_ok hm rfl rfl (by show 0 ≤ 6; decide) (stR_ok (nmF_t ha) (nmF_t hb) (tyk hty) ⟨h0, h1⟩ nil_l fun h => by cases h)⟩
  | clone ha hb => exact ⟨nil_s, nil_s, fun m hm => stH_ok hm rfl rfl (by show 0 ≤ 6; decide) (stR_ok (nmF_t ha) (nmF_t hb) rfl zN0 nil_l fun h => by cases h)⟩
  | @send _ _ _ x ha hx => exact ⟨nil_s, nil_s, fun m hm => stH_ok hm rfl rfl (by show 1 ≤ 6; decide) (stR_ok (nmF_t ha) nmF_f rfl zN0 (one_l hx) fun h => by cases h)⟩
  | one hd ha =>
    refine ⟨nil_s, nil_s, fun m hm => ?_⟩
    rcases hd with rfl | rfl | rfl
    · exact stH_ok hm rfl rfl (by show 0 ≤ 6; decide) (stR_ok (nmF_t ha) nmF_f rfl zN0 nil_l fun h => by cases h)
    · exact stH_ok hm rfl rfl (by show 0 ≤ 6; decide) (stR_ok (nmF_t ha) nmF_f rfl zN0 nil_l fun h => by cases h)
    · exact stH_ok hm rfl rfl (by show 0 ≤ 6; decide) (stR_ok (nmF_t ha) nmF_f rfl zN0 nil_l fun h => by cases h)
  | @spawn _ _ _ es ha hl hx => exact ⟨nil_s, nil_s, fun m hm => stH_ok hm rfl rfl hl (stR_ok (nmF_t ha) nmF_f rfl zN0 hx fun h => by cases h)⟩
  | take ha hb hd hbd hel => exact ⟨hbd, hel, fun m hm => stH_ok hm rfl rfl (by show 0 ≤ 6; decide) (stR_ok (nmF_t ha) (nmF_t hb) rfl zN0 nil_l fun _ => by omega)⟩
  | for_ ha hb hd hbd => exact ⟨hbd, nil_s, fun m hm => stH_ok hm rfl rfl (by show 0 ≤ 6; decide) (stR_ok (nmF_t ha) (nmF_t hb) rfl zN0 nil_l fun _ => by omega)⟩
  | @rep _ _ x _ hx hd hbd => exact ⟨hbd, nil_s, fun m hm => stH_ok hm rfl rfl (by show 1 ≤ 6; decide) (stR_ok nmF_f nmF_f rfl zN0 (one_l hx) fun _ => by omega)⟩
  | @if_ _ _ x _ _ hx hd hbd hel => exact ⟨hbd, hel, fun m hm => stH_ok hm rfl rfl (by show 1 ≤ 6; decide) (stR_ok nmF_f nmF_f rfl zN0 (one_l hx) fun _ => by omega)⟩
mutual
theorem stF_sw : ∀ (x : St) {deep : Nat} {m : Int}, Sw deep x → m + stQ x ≤ 300 → stF x m deep = .ok (m + stQ x)
  | .mk d at_ a b t n e body els, deep, m, h, hm => by
    obtain ⟨h1, h2, h3⟩ := sw_H h
    have hQ : stQ (.mk d at_ a b t n e body els) = 1 + stsQ body + stsQ els := stQ_eq _
    rw [hQ] at hm ⊢
    have e1 := stsF_sw body (deep := deep + 1) (m := m + 1) h1 (by omega)
    have e2 := stsF_sw els (deep := deep + 1) (m := m + 1 + stsQ body) h2 (by omega)
    rw [Int.natCast_add] at e1 e2
    have e1 : stsF body (m + 1) ((deep : Int) + 1) = _ := e1
    have e2 : stsF els (m + 1 + stsQ body) ((deep : Int) + 1) = _ := e2
    rw [stF_eq, h3 m (by omega), if_neg (fun h => h rfl)]
    show bindE (stsF body (m + 1) ((deep : Int) + 1)) (fun n => stsF els n ((deep : Int) + 1)) = _
    rw [e1, bindE_ok, e2]
    congr 1
    omega
theorem stsF_sw : ∀ (l : List St) {deep : Nat} {m : Int}, (∀ y ∈ l, Sw deep y) → m + stsQ l ≤ 300 → stsF l m deep = .ok (m + stsQ l)
  | [], deep, m, _, _ => by
    rw [stsQ_nil]
    show Except.ok m = Except.ok (m + ((0 : Nat) : Int))
    congr 1
    omega
  | x :: r, deep, m, h, hm => by
    rw [stsQ_cons] at hm ⊢
    have e1 := stF_sw x (deep := deep) (m := m) (h x List.mem_cons_self) (by omega)
    have e2 := stsF_sw r (deep := deep) (m := m + stQ x) (fun y hy => h y (List.mem_cons_of_mem _ hy)) (by omega)
    rw [stsF_cons, e1, bindE_ok, e2]
    congr 1
    omega
end
/-- a stage that was parsed -/
structure SgP (s : Sg) : Prop where
  nm : isNameB s.nm = true
  pl : s.ps.length ≤ 6
  ps : ∀ q ∈ s.ps, isNameB q.1 = true ∧ isTyB q.2 3 = true
  body : ∀ y ∈ s.body, Sw 1 y
theorem stageP_ok {e : Int} {n : Nat} {l : List Tok} {r : Sg × Nat × List Tok} (ht : TsOk l) (h : stageP e n l = .ok r) : SgP r.1 ∧ TsOk r.2.2 := by
  cases l with
  | nil => cases h
  | cons t l =>
    rw [stageP_cons] at h
    obtain ⟨a, ha, h⟩ := bindP_okk h
    obtain ⟨w, hw, h⟩ := bindP_okk h
    obtain ⟨ps, hps, h⟩ := bindP_okk h
    obtain ⟨b, hb, h⟩ := bindP_okk h
    obtain ⟨n1, t1⟩ := nameP_ok ht.cdr ha
    obtain ⟨p1, p2, t2⟩ := parsL_ok (wantP_ok t1 hw) (by simp) (fun y hy => absurd hy List.not_mem_nil) hps
    obtain ⟨_, b1, t3⟩ := (sw_parse e _).1 t2 (by omega) hb
    cases h
    exact ⟨⟨n1, p1, p2, b1⟩, t3⟩
theorem stagesP_ok {e : Int} : ∀ (f : Nat) {n : Nat} {acc p : List Sg} {l : List Tok}, TsOk l → (∀ s ∈ acc, SgP s) → stagesL e f acc n l = .ok p → ∀ s ∈ p, SgP s
  | 0, _, _, _, _, _, _, h => by
    unfold stagesL at h
    cases h
  | f + 1, n, acc, p, l, ht, hacc, h => by
    rw [stagesL_eq] at h
    split at h
    · cases h
      exact hacc
    split at h
    · split at h
      · cases h
      obtain ⟨q, hq, h⟩ := bindP_okk h
      obtain ⟨q1, q2⟩ := stageP_ok ht hq
      refine stagesP_ok f q2 (fun s hs => ?_) h
      rcases List.mem_append.1 hs with hs | hs
      · exact hacc s hs
      · rw [List.mem_singleton.1 hs]
        exact q1
    · cases h
theorem prsF_ok : ∀ {l : List (ByteArray × ByteArray)}, (∀ q ∈ l, isNameB q.1 = true ∧ isTyB q.2 3 = true) → prsF l = 0
  | [], _ => rfl
  | q :: r, h => by
    unfold prsF
    obtain ⟨h1, h2⟩ := h q List.mem_cons_self
    refine orF_00 ?_ (prsF_ok fun y hy => h y (List.mem_cons_of_mem _ hy))
    unfold prF
    rw [h1, h2]
    rfl
theorem sgH_ok {s : Sg} (h : SgP s) : sgH s = 0 := by
  have := h.pl
  unfold sgH
  rw [h.nm, prsF_ok h.ps, decide_eq_false (by omega)]
  rfl
theorem sgsF_sw : ∀ {p : List Sg} {i m : Int}, (∀ s ∈ p, SgP s) → m + pgQ p ≤ 300 → sgsF p i m = .ok (m + pgQ p)
  | [], i, m, _, _ => by
    show Except.ok m = Except.ok (m + ((0 : Nat) : Int))
    congr 1
    omega
  | s :: r, i, m, h, hm => by
    have hQ : pgQ (s :: r) = stsQ s.body + pgQ r := by unfold pgQ; rw [List.map_cons, List.sum_cons]
    rw [hQ] at hm ⊢
    have h1 := h s List.mem_cons_self
    unfold sgsF
    rw [sgH_ok h1, if_neg (fun h => h rfl)]
    have e1 := stsF_sw s.body (deep := 1) (m := m) h1.body (by omega)
    have e1 : stsF s.body m 1 = _ := e1
    rw [e1, bindE_ok, sgsF_sw (fun y hy => h y (List.mem_cons_of_mem _ hy)) (by omega)]
    congr 1
    omega
/-! ### a program that was parsed is not great -/
theorem name_N {s : ByteArray} (h : isNameB s = true) : okN s := by
  unfold isNameB nameHead at h
  simp only [Bool.and_eq_true, decide_eq_true_eq] at h
  unfold okN
  omega
theorem ty_N {s : ByteArray} (h : isTyB s 3 = true) : okN s := by
  unfold isTyB at h
  rw [decide_eq_true_eq] at h
  unfold okN
  omega
theorem e0_N : okN e0 := by unfold okN; decide
theorem xw_Ok : ∀ {x : Ex}, Xw x → exOk x := by
  intro x h
  induction h with
  | num _ _ => exact exOk_iff.2 ⟨e0_N, trivial⟩
  | name hs => exact exOk_iff.2 ⟨name_N hs, trivial⟩
  | neg _ ih => exact exOk_iff.2 ⟨e0_N, ih, trivial⟩
  | two _ _ _ _ iha ihb => exact exOk_iff.2 ⟨e0_N, iha, ihb, trivial⟩
theorem xwL_Ok : ∀ {l : List Ex}, (∀ x ∈ l, XwL x) → exsOk l
  | [], _ => trivial
  | x :: r, h => ⟨xw_Ok (h x List.mem_cons_self).1, xwL_Ok fun y hy => h y (List.mem_cons_of_mem _ hy)⟩
theorem sw_N {deep : Nat} {x : St} (h : Sw deep x) : okN x.a ∧ okN x.b ∧ okN x.t ∧ exsOk x.e := by
  cases h with
  | let_ hd hn hx => exact ⟨name_N hn, e0_N, e0_N, xwL_Ok (one_l hx)⟩
  | emit hx => exact ⟨e0_N, e0_N, e0_N, xwL_Ok (one_l hx)⟩
  | chan ha hb hty h0 h1 => exact ⟨name_N ha, name_N hb, ty_N hty, trivial⟩
  | clone ha hb => exact ⟨name_N ha, name_N hb, e0_N, trivial⟩
  | send ha hx => exact ⟨name_N ha, e0_N, e0_N, xwL_Ok (one_l hx)⟩
  | one hd ha => exact ⟨name_N ha, e0_N, e0_N, trivial⟩
  | spawn ha hl hx => exact ⟨name_N ha, e0_N, e0_N, xwL_Ok hx⟩
  | take ha hb hd hbd hel => exact ⟨name_N ha, name_N hb, e0_N, trivial⟩
  | for_ ha hb hd hbd => exact ⟨name_N ha, name_N hb, e0_N, trivial⟩
  | rep hx hd hbd => exact ⟨e0_N, e0_N, e0_N, xwL_Ok (one_l hx)⟩
  | if_ hx hd hbd hel => exact ⟨e0_N, e0_N, e0_N, xwL_Ok (one_l hx)⟩
mutual
theorem sw_Ok : ∀ (x : St) {deep : Nat}, Sw deep x → stOk x
  | .mk d at_ a b t n e body els, deep, h => by
    obtain ⟨h1, h2, _⟩ := sw_H h
    obtain ⟨n1, n2, n3, n4⟩ := sw_N h
    exact ⟨n1, n2, n3, n4, sws_Ok body h1, sws_Ok els h2⟩
theorem sws_Ok : ∀ (l : List St) {deep : Nat}, (∀ y ∈ l, Sw deep y) → stsOk l
  | [], _, _ => trivial
  | x :: r, deep, h => ⟨sw_Ok x (h x List.mem_cons_self), sws_Ok r fun y hy => h y (List.mem_cons_of_mem _ hy)⟩
end
theorem parsed_ok {e : Int} {ts : List Tok} {p : List Sg} (ht : TsOk ts) (hl : ts.length ≤ 12000) (h : parseT e ts = .ok p) : Small p ∧ ∃ n, formP p = .ok n := by
  have hsg : ∀ s ∈ p, SgP s := stagesP_ok _ ht (fun s hs => absurd hs List.not_mem_nil) h
  obtain ⟨_, m, _, _, h3, h4, h5, h6⟩ := parse_pre (e' := 0) (y := []) h
  obtain ⟨hN, _⟩ := parse_N h
  refine ⟨⟨by omega, fun s hs => ?_, ?_⟩, m, ?_⟩
  · have := hsg s hs
    exact ⟨name_N this.nm, by have := this.pl; omega, fun q hq => ⟨name_N (this.ps q hq).1, ty_N (this.ps q hq).2⟩, sws_Ok _ this.body⟩
  · have : (p.map fun s => stsN s.body).sum ≤ sgsN p := by
      unfold sgsN
      exact Nat.le_refl _
    omega
  · unfold formP
    rw [if_neg (fun hh => h5 (List.eq_nil_of_length_eq_zero hh)), if_neg (by omega), sgsF_sw hsg (by omega), h4]
    congr 1
    omega
end Go.Proofs.YtkeeboomikkojaaGreatDoor
