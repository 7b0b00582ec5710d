/- A store and a book, one beside the other; a step of both. -/
import Derived.Test.YtipgilfbhceknaaBk6
namespace Go.Proofs.Ytipgilfbhceknaa
open Go Go.Sx Go.Proofs.Ytipgilfbhceknaa.Sx

section
variable {h h' : Hp} {s b : Nat} {xs xs' bx bx' : List E4} {ys ys' bz bz' : List C4} {F F' G G' S : Nat → Prop}
theorem StoR.lt (hS : StoR h s xs ys F) {k : Nat} (hk : F k) : k < h.size := by
  obtain ⟨p, v, lv, chs, hS, rfl⟩ := hS
  exact hS.lt hk
theorem StoR.keep (hS : StoR h s xs ys F) (hk : Keep S h h') (hn : ∀ k, F k → ¬ S k) : StoR h' s xs ys F := by
  obtain ⟨p, v, lv, chs, hS, rfl⟩ := hS
  exact ⟨p, v, lv, chs, hS.keep hk hn, rfl⟩
theorem BkR.lt (hB : BkR h b xs ys F) {k : Nat} (hk : F k) : k < h.size := by
  obtain ⟨w, sv, jv, gv, its, hB, rfl⟩ := hB
  exact hB.lt hk
theorem BkR.keep (hB : BkR h b xs ys F) (hk : Keep S h h') (hn : ∀ k, F k → ¬ S k) : BkR h' b xs ys F := by
  obtain ⟨w, sv, jv, gv, its, hB, rfl⟩ := hB
  exact ⟨w, sv, jv, gv, its, hB.keep hk hn, rfl⟩

structure Two (h : Hp) (s b : Nat) (xs : List E4) (ys : List C4) (bx : List E4) (bz : List C4) (F G : Nat → Prop) : Prop where
  sto : StoR h s xs ys F
  bk : BkR h b bx bz G
  dis : ∀ k, F k → ¬ G k
theorem Two.more (t : Two h s b xs ys bx bz F G) (hk : Keep (fun _ => False) h h') : Two h' s b xs ys bx bz F G := ⟨t.sto.keep hk (by simp), t.bk.keep hk (by simp), t.dis⟩
theorem Two.setS (t : Two h s b xs ys bx bz F G) (hS : StoR h' s xs' ys' F') (u : Upd F F' h h') : Two h' s b xs' ys' bx bz F' G :=
  ⟨hS, t.bk.keep u.keep fun k hg hf => t.dis k hf hg, fun k hf hg => (u.more k hf).elim (fun e => t.dis k e hg) (fun e => by have := t.bk.lt hg; omega)⟩
theorem Two.setB (t : Two h s b xs ys bx bz F G) (hB : BkR h' b bx' bz' G') (u : Upd G G' h h') : Two h' s b xs ys bx' bz' F G' :=
  ⟨t.sto.keep u.keep fun k hf hg => t.dis k hf hg, hB, fun k hf hg => (u.more k hg).elim (fun e => t.dis k hf e) (fun e => by have := t.sto.lt hf; omega)⟩
theorem Upd.left (u : Upd F F' h h') : Upd (fun k => F k ∨ G k) (fun k => F' k ∨ G k) h h' :=
  ⟨u.keep.mono fun _ _ e => .inl e, fun k hk => hk.elim (fun e => (u.more k e).imp .inl id) (fun e => .inl (.inr e))⟩
theorem Upd.right (u : Upd G G' h h') : Upd (fun k => F k ∨ G k) (fun k => F k ∨ G' k) h h' :=
  ⟨u.keep.mono fun _ _ e => .inr e, fun k hk => hk.elim (fun e => .inl (.inl e)) (fun e => (u.more k e).imp .inr id)⟩
end

/-- what the document's channels are like -/
structure Good (n : Nat) (xs : List E4) (ys : List C4) : Prop where
  chan : ∀ x ∈ xs, ∃ k : Nat, x.c = k ∧ k < ys.length
  room : ∀ y ∈ ys, 0 < y.slots → y.items.length ≤ y.slots
  item : ∀ y ∈ ys, ∀ z ∈ y.items, z.e < 0 ∨ ∃ i : Nat, z.e = i ∧ i < xs.length
  xl : xs.length ≤ 2 * n
  yl : ys.length ≤ n
  il : ∀ y ∈ ys, y.items.length ≤ n
theorem Good.bd {n : Nat} {xs : List E4} {ys : List C4} (g : Good n xs ys) (hn : n ≤ 10000000) : Bd xs ys :=
  ⟨g.chan, by have := g.xl; omega, by have := g.yl; omega, fun y hy => by have := g.il y hy; omega⟩
theorem Good.mono {n m : Nat} {xs : List E4} {ys : List C4} (g : Good n xs ys) (hm : n ≤ m) : Good m xs ys :=
  ⟨g.chan, g.room, g.item, by have := g.xl; omega, by have := g.yl; omega, fun y hy => by have := g.il y hy; omega⟩
theorem Good.nil (n : Nat) : Good n [] [] := ⟨by simp, by simp, by simp, by simp, by simp, by simp⟩
theorem Good.ev {n : Nat} {xs xs' : List E4} {ys ys' : List C4} (g : Good n xs ys) (e : Ev xs ys xs' ys') : Good n xs' ys' := by
  have hy : ∀ y' ∈ ys', ∃ y ∈ ys, y'.slots = y.slots ∧ (y'.items = y.items ∨ y'.items = []) := fun y' hy' => by
    obtain ⟨i, hi⟩ := List.mem_iff_getElem?.1 hy'
    obtain ⟨y, hy, h1, h2⟩ := e.y i y' hi
    exact ⟨y, List.mem_iff_getElem?.2 ⟨i, hy⟩, h1, h2⟩
  refine ⟨fun x hx => ?_, fun y hy' hs => ?_, fun y hy' z hz => ?_, by rw [e.xl]; exact g.xl, by rw [e.yl]; exact g.yl, fun y hy' => ?_⟩
  · obtain ⟨i, hi⟩ := List.mem_iff_getElem?.1 hx
    obtain ⟨z, hz, hc, _⟩ := e.e i x hi
    rw [hc, e.yl]
    exact g.chan z (List.mem_iff_getElem?.2 ⟨i, hz⟩)
  · obtain ⟨y0, h0, h1, h2 | h2⟩ := hy y hy'
    · rw [h1, h2]; exact g.room y0 h0 (by rw [← h1]; exact hs)
    · rw [h2]; simp
  · obtain ⟨y0, h0, _, h2 | h2⟩ := hy y hy'
    · rw [h2] at hz
      rw [e.xl]
      exact g.item y0 h0 z hz
    · rw [h2] at hz; simp at hz
  · obtain ⟨y0, h0, _, h2 | h2⟩ := hy y hy'
    · rw [h2]; exact g.il y0 h0
    · rw [h2]; simp
theorem Good.setY {n : Nat} {xs : List E4} {ys : List C4} (g : Good n xs ys) {k : Nat} {y : C4} (h1 : 0 < y.slots → y.items.length ≤ y.slots) (h2 : ∀ z ∈ y.items, z.e < 0 ∨ ∃ i : Nat, z.e = i ∧ i < xs.length) (h3 : y.items.length ≤ n) : Good n xs (ys.set k y) := by
  refine ⟨by rw [List.length_set]; exact g.chan, fun y' hy' => ?_, fun y' hy' => ?_, g.xl, by rw [List.length_set]; exact g.yl, fun y' hy' => ?_⟩ <;> rcases List.mem_or_eq_of_mem_set hy' with hm | rfl
  · exact g.room y' hm
  · exact h1
  · exact g.item y' hm
  · exact h2
  · exact g.il y' hm
  · exact h3
theorem Good.make {n : Nat} {xs : List E4} {ys : List C4} (g : Good n xs ys) (slots task : Int) : Good (n + 1) (makeM xs ys slots task).1 (makeM xs ys slots task).2.1 := by
  unfold makeM
  split
  · exact g.mono (by omega)
  · refine ⟨fun x hx => ?_, fun y hy => ?_, fun y hy z hz => ?_, ?_, ?_, fun y hy => ?_⟩
    · simp only [List.mem_append, List.mem_cons, List.not_mem_nil, or_false] at hx
      rcases hx with hx | rfl | rfl
      · obtain ⟨k, h1, h2⟩ := g.chan x hx
        exact ⟨k, h1, by simp; omega⟩
      · exact ⟨ys.length, rfl, by simp⟩
      · exact ⟨ys.length, rfl, by simp⟩
    · simp only [List.mem_append, List.mem_singleton] at hy
      rcases hy with hy | rfl
      · exact g.room y hy
      · simp
    · simp only [List.mem_append, List.mem_singleton] at hy
      rcases hy with hy | rfl
      · exact (g.item y hy z hz).imp id fun ⟨i, h1, h2⟩ => ⟨i, h1, by simp; omega⟩
      · simp at hz
    · have := g.xl; simp; omega
    · have := g.yl; simp; omega
    · simp only [List.mem_append, List.mem_singleton] at hy
      rcases hy with hy | rfl
      · have := g.il y hy; omega
      · simp
theorem Good.clone {n : Nat} {xs : List E4} {ys : List C4} (g : Good n xs ys) (e task : Int) : Good (n + 1) (cloneM xs e task).1 ys := by
  unfold cloneM
  split
  · exact g.mono (by omega)
  · rename_i k hs
    split
    · exact g.mono (by omega)
    · obtain ⟨i, x, rfl, hx, _, _, hk, _⟩ := sideE_some hs
      obtain ⟨k', h1, h2⟩ := g.chan x (List.mem_iff_getElem?.2 ⟨i, hx⟩)
      rw [h1, Int.toNat_natCast] at hk
      subst hk
      refine ⟨fun x hx => ?_, g.room, fun y hy z hz => (g.item y hy z hz).imp id fun ⟨i, h1, h2⟩ => ⟨i, h1, by simp; omega⟩, ?_, ?_, fun y hy => ?_⟩
      · simp only [List.mem_append, List.mem_singleton] at hx
        rcases hx with hx | rfl
        · exact g.chan x hx
        · exact ⟨k', rfl, h2⟩
      · have := g.xl; simp; omega
      · have := g.yl; omega
      · have := g.il y hy; omega
theorem Good.side {n : Nat} {xs : List E4} {ys : List C4} (g : Good n xs ys) {e : Int} {send : Bool} {k : Nat} (hs : sideE xs e send = some k) : ∃ y, ys[k]? = some y := by
  obtain ⟨i, x, rfl, hx, _, _, hk, _⟩ := sideE_some hs
  obtain ⟨k', h1, h2⟩ := g.chan x (List.mem_iff_getElem?.2 ⟨i, hx⟩)
  rw [h1, Int.toNat_natCast] at hk
  subst hk
  exact ⟨_, List.getElem?_eq_getElem h2⟩
theorem Good.take {n : Nat} {xs : List E4} {ys : List C4} (g : Good n xs ys) (e task : Int) : Good n (takeM xs ys e task).1 (takeM xs ys e task).2.1 := by
  unfold takeM
  split
  · exact g
  · rename_i k hs
    split
    · exact g
    · rename_i hw
      split
      · exact g
      · rename_i z r hi
        obtain ⟨y, hy⟩ := g.side hs
        have hym := List.mem_iff_getElem?.2 ⟨k, hy⟩
        rw [yAt_of hy] at hi ⊢
        have h1 := g.ev (move_ev xs ys z.e task (by omega))
        refine h1.setY (fun h0 => ?_) (fun w hw => ?_) ?_
        · have := g.room y hym h0
          rw [hi] at this
          simp at this
          simp only
          omega
        · exact h1.item y hym w (by rw [hi]; exact List.mem_cons_of_mem _ hw)
        · have := g.il y hym
          rw [hi] at this
          simp at this
          simp only
          omega
theorem Good.put {n : Nat} {xs : List E4} {ys : List C4} (g : Good n xs ys) (e : Int) (x : It) : Good (n + 1) (putM xs ys e x).1 (putM xs ys e x).2.1 := by
  have g1 : Good (n + 1) xs ys := g.mono (by omega)
  unfold putM
  split
  · exact g1
  · rename_i k hs
    split
    · exact g1
    · rename_i hw
      obtain ⟨y, hy⟩ := g.side hs
      have hym := List.mem_iff_getElem?.2 ⟨k, hy⟩
      rw [yAt_of hy]
      have hroom : ¬ y.gone = true → 0 < y.slots → y.items.length + 1 ≤ y.slots := by
        intro hg h0
        have := g.room y hym h0
        unfold waitsM at hw
        simp only [hs, yAt_of hy] at hw
        have hne : y.items.length ≠ y.slots := by
          intro he
          simp [hg, h0, he] at hw
        omega
      have hil := g.il y hym
      split
      · split
        · exact g1
        · rename_i he hg
          refine g1.setY (fun h0 => ?_) (fun z hz => ?_) ?_
          · simpa using hroom hg h0
          · simp only [List.mem_append, List.mem_singleton] at hz
            rcases hz with hz | rfl
            · exact g.item y hym z hz
            · exact .inl (by simp)
          · simpa using hil
      · rename_i he
        split
        · exact g1
        · rename_i hq
          split
          · exact (g1.ev (drop_ev _ _ _ _))
          · rename_i hg
            have h1 := g1.ev (move_ev xs ys x.e (-1) (by omega))
            refine h1.setY (fun h0 => ?_) (fun z hz => ?_) ?_
            · simpa using hroom hg h0
            · simp only [List.mem_append, List.mem_singleton] at hz
              rcases hz with hz | rfl
              · exact h1.item y hym z hz
              · rcases atE_cases xs x.e with ⟨_, ha⟩ | ⟨i, w, hi, hl, _, _⟩
                · exact absurd (.inl (by rw [ha])) hq
                · exact .inr ⟨i, hi, by rw [(move_ev xs ys x.e (-1) (by omega)).xl]; exact hl⟩
            · simpa using hil

def kind (n : Int) : Int := IntKind.wrap .i64 (Int.tmod (IntKind.wrap .u64 n) 10)
def itemOf (x : S5) : It := ⟨x.n, if x.send = true then x.n else if IntKind.wrap .i64 (-1 - Int.tmod x.home 2) > -1 then -1 else IntKind.wrap .i64 (-1 - Int.tmod x.home 2)⟩
def stepM (xs : List E4) (ys : List C4) (x : S5) : List E4 × List C4 :=
  if kind x.d = 0 then ((makeM xs ys x.n x.home).1, (makeM xs ys x.n x.home).2.1)
  else if kind x.d = 1 then ((cloneM xs x.e x.home).1, ys)
  else if kind x.d = 2 ∨ kind x.d = 3 ∨ kind x.d = 4 then ((putM xs ys x.e (itemOf x)).1, (putM xs ys x.e (itemOf x)).2.1)
  else if kind x.d = 5 ∨ kind x.d = 6 ∨ kind x.d = 7 then ((takeM xs ys x.e x.home).1, (takeM xs ys x.e x.home).2.1)
  else dropM (liveN xs) xs ys x.e
theorem Good.step {n : Nat} {xs : List E4} {ys : List C4} (g : Good n xs ys) (x : S5) : Good (n + 1) (stepM xs ys x).1 (stepM xs ys x).2 := by
  unfold stepM
  split
  · exact g.make _ _
  split
  · exact g.clone _ _
  split
  · exact g.put _ _
  split
  · exact (g.take _ _).mono (by omega)
  · exact (g.mono (by omega)).ev (drop_ev _ _ _ _)
end Go.Proofs.Ytipgilfbhceknaa
