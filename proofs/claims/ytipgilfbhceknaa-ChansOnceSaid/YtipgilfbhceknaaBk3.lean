/- The book: Make. -/
import Derived.Test.YtipgilfbhceknaaBk2
namespace Go.Proofs.Ytipgilfbhceknaa
open Go Go.Sx Go.Proofs.Ytipgilfbhceknaa.Sx
section
variable {ω : Amb} {h h' : Hp} {b : Nat} {w sv jv gv : Value} {xs : List E4} {its : List Value} {ys : List C4}
theorem BMake_law (hb : Bk h b w sv jv gv xs its ys) (hB : Bd xs ys) (slots task : Int) (X : List PanicEntry → Hp → Prop) :
    CallX Try.prog ω n_p_pipewrightref_Book_Make [.pointer (some ⟨b, 0, none⟩), .int .i64 slots, .int .i64 task] h (fun r h' => r = .tuple #[.int .i64 (makeM xs ys slots task).2.2.1, .int .i64 (makeM xs ys slots task).2.2.2] ∧
      ∃ F', BkR h' b (makeM xs ys slots task).1 (makeM xs ys slots task).2.1 F' ∧ Upd (Fb b w sv jv gv its) F' h h') X := by
  refine C_p_pipewrightref_Book_Make ω _ _ _ h _ X ?_
  unfold W_p_pipewrightref_Book_Make
  unfold makeM
  have hxl := hB.xl
  have hyl := hB.yl
  rw [asK_int]
  refine cond_c (fun hc => ?_) (fun hc => ?_)
  · have hc' : task < 0 := by simpa using hc
    simp only [if_pos hc']
    exact ⟨trivial, _, ⟨_, _, _, _, _, hb, rfl⟩, Upd.refl _ _⟩
  have hc' : ¬ task < 0 := by simpa using hc
  simp only [if_neg hc']
  rw [nnK_ptr]
  refine lx hb.blk rfl ?_
  refine hb.slots.slAt.sl fun _ _ => ?_
  rw [nnK_ptr]
  refine lx hb.blk rfl ?_
  rw [asK_int]
  have hn : (if (0 : Int) > slots then (0 : Int) else slots) = (slots.toNat : Int) := by split <;> omega
  rw [hn]
  refine fieldApp (bt := 8) (tb := 32) (m := 1) (j := 1) (cs := [.int .i64 slots.toNat]) (by kernel_rfl) (by decide) hb.blk hb.slots rfl (by intro u hu; simp at hu; subst hu; rfl) (by omega) (by omega) (by simp) fun w1 h1 ho1 hb1 k1 hv1 => ?_
  simp only [st] at hb1
  have T1 := (OfTy.blk hb.blk).or (OfTy.own hb.slots)
  have oj1 := keepT hb.items k1 T1 (by decide)
  have og1 := keepT hb.gone k1 T1 (by decide)
  have ow1 := keepT hb.own k1 T1 (by decide)
  have oi1 := fun k y u hy hu => keepT (hb.it k y u hy hu) k1 T1 (by decide)
  rw [nnK_ptr]
  refine lx hb1 rfl ?_
  refine fieldApp (bt := 24) (tb := 32) (m := 1) (j := 2) (cs := [.slice none 0 0]) (by kernel_rfl) (by decide) hb1 oj1 rfl (by intro u hu; simp at hu; subst hu; rfl) (by omega) (by omega) (by simp) fun w2 h2 ho2 hb2 k2 hv2 => ?_
  simp only [st] at hb2
  have T2 := (OfTy.blk hb1).or (OfTy.own oj1)
  have os2 := keepT ho1 k2 T2 (by decide)
  have og2 := keepT og1 k2 T2 (by decide)
  have ow2 := keepT ow1 k2 T2 (by decide)
  have oi2 := fun k y u hy hu => keepT (oi1 k y u hy hu) k2 T2 (by decide)
  rw [nnK_ptr]
  refine lx hb2 rfl ?_
  refine fieldApp (bt := 1) (tb := 32) (m := 1) (j := 3) (cs := [.bool false]) (by kernel_rfl) (by decide) hb2 og2 rfl (by intro u hu; simp at hu; subst hu; rfl) (by omega) (by omega) (by simp) fun w3 h3 ho3 hb3 k3 hv3 => ?_
  simp only [st] at hb3
  have T3 := (OfTy.blk hb2).or (OfTy.own og2)
  have os3 := keepT os2 k3 T3 (by decide)
  have oj3 := keepT ho2 k3 T3 (by decide)
  have ow3 := keepT ow2 k3 T3 (by decide)
  have oi3 := fun k y u hy hu => keepT (oi2 k y u hy hu) k3 T3 (by decide)
  rw [nnK_ptr]
  refine lx hb3 rfl ?_
  rw [oneK_int, oneK_int]
  refine ⟨trivial, trivial, ?_⟩
  refine fieldApp (bt := 32) (tb := 32) (m := 2) (j := 0) (cs := E4.f ⟨ys.length, true, task, 0⟩ ++ E4.f ⟨ys.length, false, task, 0⟩) (by kernel_rfl) (by decide) hb3 ow3 rfl (by
    intro u hu
    rcases List.mem_append.1 hu with hu | hu
    · exact E4.one _ u hu
    · exact E4.one _ u hu) (by omega) (by omega) (by simp) fun w4 h4 ho4 hb4 k4 hv4 => ?_
  simp only [st] at hb4
  have T4 := (OfTy.blk hb3).or (OfTy.own ow3)
  have os4 := keepT os3 k4 T4 (by decide)
  have oj4 := keepT oj3 k4 T4 (by decide)
  have og4 := keepT ho3 k4 T4 (by decide)
  have oi4 := fun k y u hy hu => keepT (oi3 k y u hy hu) k4 T4 (by decide)
  have hlen := hb.len
  have hbk : Bk h4 b w4 w1 w2 w3 (xs ++ [⟨ys.length, true, task, 0⟩, ⟨ys.length, false, task, 0⟩]) (its ++ [.slice none 0 0]) (ys ++ [⟨slots.toNat, false, []⟩]) := by
    refine ⟨hb4, by simpa using ho4, by simpa using os4, by simpa using oj4, by simpa using og4, fun k y u hy hu => ?_, fun i j u u' hu hu' hne G hG hG' => ?_⟩
    · by_cases hk : k < ys.length
      · rw [List.getElem?_append_left hk] at hy
        rw [List.getElem?_append_left (by omega)] at hu
        exact oi4 k y u hy hu
      · have hkl := (List.getElem?_eq_some_iff.1 hy).1
        simp at hkl
        have hke : k = ys.length := by omega
        subst hke
        simp at hy
        rw [← hlen] at hu
        simp at hu
        subst hy hu
        exact OwnH.nil
    · have key : ∀ (i : Nat) (u : Value), (its ++ [.slice none 0 0])[i]? = some u → u.ownBlock = some G → its[i]? = some u := by
        intro i u hu hG
        by_cases hi : i < its.length
        · rw [List.getElem?_append_left hi] at hu
          exact hu
        · have hil := (List.getElem?_eq_some_iff.1 hu).1
          simp at hil
          have hie : i = its.length := by omega
          subst hie
          simp at hu
          subst hu
          cases hG
      exact hb.dis i j u u' (key i u hu hG) (key j u' hu' hG') hne G hG hG'
  rw [nnK_ptr]
  refine lx hb4 rfl ?_
  refine hbk.own.slAt.sl fun _ _ => ?_
  rw [nnK_ptr]
  refine lx hb4 rfl ?_
  refine hbk.own.slAt.sl fun _ _ => ?_
  refine ⟨?_, _, ⟨_, _, _, _, _, hbk, rfl⟩, ⟨?_, ?_⟩⟩
  · rw [i64_in (by simp <;> omega) (by simp <;> omega), i64_in (by simp <;> omega) (by simp <;> omega)]
    simp
    omega
  · refine (((k1.mono fun k _ e => ?_).trans (k2.mono fun k _ e => ?_)).trans (k3.mono fun k _ e => ?_)).trans (k4.mono fun k _ e => ?_)
    · exact e.imp id fun e => .inr (.inl e)
    · exact e.imp id fun e => .inr (.inr (.inl e))
    · exact e.imp id fun e => .inr (.inr (.inr (.inl e)))
    · exact e.imp id fun e => .inl e
  · have s1 := k1.size
    have s2 := k2.size
    have s3 := k3.size
    intro k hk
    rcases hk with e | e | e | e | e | ⟨u, hu, e⟩
    · exact .inl (.inl e)
    · exact (hv4 k e).imp (fun e => .inr (.inl e)) (fun e => by omega)
    · exact (hv1 k e).imp (fun e => .inr (.inr (.inl e))) id
    · exact (hv2 k e).imp (fun e => .inr (.inr (.inr (.inl e)))) (fun e => by omega)
    · exact (hv3 k e).imp (fun e => .inr (.inr (.inr (.inr (.inl e))))) (fun e => by omega)
    · rw [List.mem_append, List.mem_singleton] at hu
      rcases hu with hu | rfl
      · exact .inl (.inr (.inr (.inr (.inr (.inr ⟨u, hu, e⟩)))))
      · cases e
end
end Go.Proofs.Ytipgilfbhceknaa
