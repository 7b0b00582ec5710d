/- Lines and places: contracts. -/
import Derived.Test.YtfpedcmempljlaaDoorSxMore
import Derived.Test.YtfpedcmempljlaaDoorY7
namespace Go.Proofs.YtfpedcmempljlaaDoor
open Go Go.Sx Go.Proofs.YtfpedcmempljlaaDoor.Sx

/-- where the lines begin, of a text's first k bytes -/
def starts (bs : List UInt8) : Nat → List Nat
  | 0 => [0]
  | k + 1 => if (bs.getD k 0).toNat = 10 then starts bs k ++ [k + 1] else starts bs k
/-- where the last of them begins -/
def lastS (bs : List UInt8) : Nat → Nat
  | 0 => 0
  | k + 1 => if (bs.getD k 0).toNat = 10 then k + 1 else lastS bs k
def nv (l : List Nat) : List Value := l.map fun (n : Nat) => .int .i64 (n : Int)
theorem nv_len (l : List Nat) : (nv l).length = l.length := by simp [nv]
theorem nv_at {l : List Nat} {i n : Nat} (h : l[i]? = some n) : (nv l)[i]? = some (.int .i64 (n : Int)) := by rw [nv, List.getElem?_map, h]; rfl

theorem starts_pos (bs : List UInt8) : ∀ k, 0 < (starts bs k).length
  | 0 => by simp [starts]
  | k + 1 => by
    have := starts_pos bs k
    unfold starts
    split <;> simp <;> omega
theorem starts_len (bs : List UInt8) : ∀ k, (starts bs k).length ≤ k + 1
  | 0 => by simp [starts]
  | k + 1 => by
    have := starts_len bs k
    unfold starts
    split <;> simp <;> omega
theorem starts_le (bs : List UInt8) : ∀ k, ∀ x ∈ starts bs k, x ≤ k
  | 0, x, h => by simp [starts] at h; omega
  | k + 1, x, h => by
    unfold starts at h
    split at h
    · rcases List.mem_append.1 h with h | h
      · have := starts_le bs k x h; omega
      · simp at h; omega
    · have := starts_le bs k x h; omega
theorem starts_last (bs : List UInt8) : ∀ k, (starts bs k)[(starts bs k).length - 1]? = some (lastS bs k)
  | 0 => by simp [starts, lastS]
  | k + 1 => by
    unfold starts lastS
    split
    · simp
    · exact starts_last bs k
theorem lastS_le (bs : List UInt8) (k : Nat) : lastS bs k ≤ k := starts_le bs k _ (List.mem_iff_getElem?.2 ⟨_, starts_last bs k⟩)
/-- a longer text's lines begin as its head's do, and behind it -/
theorem starts_more (bs : List UInt8) (k : Nat) : ∀ m, ∃ r, starts bs (k + m) = starts bs k ++ r ∧ ∀ x ∈ r, k < x
  | 0 => ⟨[], by simp, by simp⟩
  | m + 1 => by
    obtain ⟨r, h1, h2⟩ := starts_more bs k m
    rw [show k + (m + 1) = (k + m) + 1 by omega]
    simp only [starts]
    split
    · refine ⟨r ++ [k + m + 1], by rw [h1, List.append_assoc], fun x hx => ?_⟩
      rcases List.mem_append.1 hx with hx | hx
      · exact h2 x hx
      · simp at hx; omega
    · exact ⟨r, h1, h2⟩
theorem starts_up (bs : List UInt8) : ∀ k, (starts bs k).Pairwise (· < ·)
  | 0 => by simp [starts]
  | k + 1 => by
    unfold starts
    split
    · rw [List.pairwise_append]
      refine ⟨starts_up bs k, by simp, fun a ha b hb => ?_⟩
      have := starts_le bs k a ha
      simp at hb
      omega
    · exact starts_up bs k

def bytesOf (s : ByteArray) : List UInt8 := s.data.toList
theorem bytes_len (s : ByteArray) : (bytesOf s).length = s.size := by simp [bytesOf]
theorem byteAt_nat (s : ByteArray) (k : Nat) : byteAt s (k : Int) = (((bytesOf s).getD k 0).toNat : Int) := by rw [byteAt, Int.toNat_natCast]; rfl

section
variable {ω : Amb}
set_option maxRecDepth 100000 in
theorem Lines_law (s : ByteArray) (h : Hp) (X : List PanicEntry → Hp → Prop) :
    CallX Tryd.prog ω n_text_Lines [.string s] h (fun r h' => (12000 < s.size ∧ r = .slice none 0 0 ∧ h' = h) ∨ (s.size ≤ 12000 ∧ OwnH h' h.size 3 1 r (starts (bytesOf s) s.size).length (nv (starts (bytesOf s) s.size)) ∧ Keep (fun _ => False) h h')) X := by
  refine C_text_Lines ω _ h _ X ?_
  unfold W_text_Lines
  rw [asS_str]
  refine cond_c (fun hc => .inl ⟨by simp at hc; omega, rfl, rfl⟩) (fun hc => ?_)
  have hs : s.size ≤ 12000 := by simp at hc; omega
  rw [asS_str]
  refine ⟨fun out t h' => ∃ k, k ≤ s.size ∧ t = .int .i64 k ∧ OwnH h' h.size 3 1 out (starts (bytesOf s) k).length (nv (starts (bytesOf s) k)) ∧ Keep (fun _ => False) h h', fun _ t _ => match t with | .int _ k => s.size - k.toNat | _ => 0,
    ⟨0, Nat.zero_le _, rfl, ownBlk hp_push_new rfl (by decide) (Nat.le_refl _), Keep.push _ _⟩, ?_⟩
  rintro out _ _ h1 ⟨k, hk, rfl, ho, k1⟩
  rw [asK_int]
  refine cond_c (fun hlt => ?_) (fun hge => ?_)
  · have hlt : k < s.size := by simpa using hlt
    refine ⟨fun out h' => OwnH h' h.size 3 1 out (starts (bytesOf s) (k + 1)).length (nv (starts (bytesOf s) (k + 1))) ∧ Keep (fun _ => False) h h', ?_, ?_⟩
    · rw [asS_str, asI_int]
      refine ⟨by omega, by omega, fun out h' => OwnH h' h.size 3 1 out (starts (bytesOf s) (k + 1)).length (nv (starts (bytesOf s) (k + 1))) ∧ Keep (fun _ => False) h h', ?_, fun _ _ _ hj => hj⟩
      rw [byteAt_nat]
      unfold starts
      refine cond_c (fun hb => ?_) (fun hb => ?_)
      · have hb' : ((bytesOf s).getD k 0).toNat = 10 := by have := eq_of_beq hb; omega
        rw [if_pos hb', asK_int, i64_in (by omega) (by omega)]
        have hlen := starts_len (bytesOf s) k
        refine appK_one (bt := 8) (by kernel_rfl) ho rfl (by intro u hu; simp at hu; subst hu; rfl) (by omega) (by omega) k1.size fun w h2 ho2 hg _ _ => ⟨?_, ?_⟩
        · rw [List.length_append]
          simpa [nv] using ho2
        · exact k1.newer ((Keep.grown (S := fun k => h.size ≤ k) hg fun q hq _ => (ho.lt q hq).1).mono fun q _ hq => .inr hq)
      · have hb' : ¬ ((bytesOf s).getD k 0).toNat = 10 := by have := beq_eq_false_iff_ne.1 hb; omega
        rw [if_neg hb']
        exact ⟨ho, k1⟩
    · rintro out2 _ h2 ⟨ho2, k2⟩
      rw [asK_int, i64_in (by omega) (by omega)]
      exact ⟨⟨k + 1, by omega, by simp, ho2, k2⟩, by simp; omega⟩
  · have hke : k = s.size := by simp at hge; omega
    subst hke
    exact .inr ⟨hs, ho, k1⟩

end
end Go.Proofs.YtfpedcmempljlaaDoor
