/- Ranks: the document's ranks. -/
import Derived.Test.YtfjkddigflijeaaR8
namespace Go.Proofs.Ytfjkddigflijeaa
open Go Go.Sx Go.Sx.Pa Go.Sx.Ra Go.Proofs.Ytfjkddigflijeaa.Sx

/-- what the document's Ranks tells -/
def RRes (n : Nat) (es : Es) (h : Hp) (v : Value) (h' : Hp) : Prop :=
  (∃ (w : Value) (o : List Int), v = .tuple #[w, .bool true] ∧ IO h' h.size w o ∧ o.length = n ∧ (∀ a b, (a, b) ∈ es → vz o a < vz o b) ∧ (∀ b, b < n → 0 ≤ vz o b) ∧ ∀ r, IsRk n es r → ∀ b, b < n → vz o b ≤ r b) ∨
  (v = .tuple #[.slice none 0 0, .bool false] ∧ ∀ r, IsRk n es r → (∀ b, b < n → r b ≤ n) → False)

/-- on the way, ahead of the i-th edge of the t-th turn -/
structure Kr (n : Nat) (es : Es) (t i : Nat) (m : Bool) (o : List Int) : Prop where
  len : o.length = n
  lo : ∀ b, b < n → 0 ≤ vz o b ∧ vz o b ≤ ((t * es.length + i : Nat) : Int)
  up : m = false → ∀ e ∈ es.take i, vz o e.1 < vz o e.2
  rk : ∀ r, IsRk n es r → ∀ b, b < n → vz o b ≤ r b ∧ (r b ≤ t → vz o b = r b) ∧ (t ≤ r b → (t : Int) ≤ vz o b)
  on : ∀ r, IsRk n es r → ∀ e ∈ es.take i, (t ≤ r e.1 → (t : Int) + 1 ≤ vz o e.2) ∧ (r e.1 ≤ t → (r e.1 : Int) + 1 ≤ vz o e.2)
  big : m = true → ∀ r, IsRk n es r → (∀ b, b < n → r b ≤ n) → t < n
theorem Kr.start {n : Nat} {es : Es} : Kr n es 0 0 false (List.replicate n 0) := by
  refine ⟨by simp, fun b _ => by rw [vz_rep]; simp, fun _ e he => by simp at he, fun r _ b _ => ?_, fun r _ e he => by simp at he, fun h => by cases h⟩
  rw [vz_rep]
  exact ⟨by omega, fun h => by omega, fun _ => by simp⟩
theorem Kr.same {n : Nat} {es : Es} {t i : Nat} {m : Bool} {o : List Int} (k : Kr n es t i m o) (hok : Ok n es) {a b : Nat} (hi : es[i]? = some (a, b)) (hge : vz o a < vz o b) : Kr n es t (i + 1) m o := by
  have ht : es.take (i + 1) = es.take i ++ [(a, b)] := by rw [List.take_add_one, hi]; rfl
  have hv := hok _ (List.mem_iff_getElem?.2 ⟨i, hi⟩)
  refine ⟨k.len, fun c hc => ?_, fun hm e he => ?_, k.rk, fun r hr e he => ?_, k.big⟩
  · have := k.lo c hc
    omega
  · rw [ht] at he
    rcases List.mem_append.1 he with he | he
    · exact k.up hm e he
    · simp at he
      subst he
      exact hge
  · rw [ht] at he
    rcases List.mem_append.1 he with he | he
    · exact k.on r hr e he
    · simp at he
      subst he
      have h1 := k.rk r hr a hv.1
      simp only
      exact ⟨fun h => by have := h1.2.2 h; omega, fun h => by have := h1.2.1 h; omega⟩
theorem Kr.raise {n : Nat} {es : Es} {t i : Nat} {m : Bool} {o : List Int} (k : Kr n es t i m o) (hok : Ok n es) {a b : Nat} (hi : es[i]? = some (a, b)) (hlt : vz o b < vz o a + 1) : Kr n es t (i + 1) true (o.set b (vz o a + 1)) := by
  have ht : es.take (i + 1) = es.take i ++ [(a, b)] := by rw [List.take_add_one, hi]; rfl
  have hmem : (a, b) ∈ es := List.mem_iff_getElem?.2 ⟨i, hi⟩
  have hv := hok _ hmem
  simp only at hv
  have hset := vz_set (o := o) (v := vz o a + 1) (by rw [k.len]; exact hv.2)
  refine ⟨by rw [List.length_set]; exact k.len, fun c hc => ?_, (fun h => by cases h), fun r hr c hc => ?_, fun r hr e he => ?_, fun _ r hr hrn => ?_⟩
  · rw [hset]
    have := k.lo c hc
    have := k.lo a hv.1
    split <;> omega
  · have hup := hr.up a b hmem
    have ha := k.rk r hr a hv.1
    have hb := k.rk r hr b hv.2
    rw [hset]
    split
    · rename_i e
      subst e
      refine ⟨by omega, fun h => ?_, fun h => ?_⟩
      · have := hb.2.1 h
        omega
      · have := hb.2.2 h
        omega
    · exact k.rk r hr c hc
  · rw [hset]
    rw [ht] at he
    have hold : ∀ e ∈ es.take i, (t ≤ r e.1 → (t : Int) + 1 ≤ if e.2 = b then vz o a + 1 else vz o e.2) ∧ (r e.1 ≤ t → (r e.1 : Int) + 1 ≤ if e.2 = b then vz o a + 1 else vz o e.2) := fun e he => by
      obtain ⟨h1, h2⟩ := k.on r hr e he
      refine ⟨fun h => ?_, fun h => ?_⟩
      · have := h1 h
        split
        · rename_i e'
          rw [e'] at this
          omega
        · exact this
      · have := h2 h
        split
        · rename_i e'
          rw [e'] at this
          omega
        · exact this
    rcases List.mem_append.1 he with he | he
    · exact hold e he
    · simp at he
      subst he
      have h1 := k.rk r hr a hv.1
      simp only
      rw [if_pos trivial]
      exact ⟨fun h => by have := h1.2.2 h; omega, fun h => by have := h1.2.1 h; omega⟩
  · have hup := hr.up a b hmem
    have ha := k.rk r hr a hv.1
    have hb := k.rk r hr b hv.2
    have := hrn b hv.2
    refine Classical.byContradiction fun hge => ?_
    have := hb.2.1 (by omega)
    omega
theorem Kr.turn {n : Nat} {es : Es} {t : Nat} {m : Bool} {o : List Int} (k : Kr n es t es.length m o) (hok : Ok n es) : Kr n es (t + 1) 0 false o := by
  refine ⟨k.len, fun b hb => ?_, fun _ e he => by simp at he, fun r hr b hb => ?_, fun r _ e he => by simp at he, fun h => by cases h⟩
  · have := k.lo b hb
    have : (t + 1) * es.length = t * es.length + es.length := Nat.succ_mul _ _
    omega
  · have h1 := k.rk r hr b hb
    have h2 : r b = 0 ∨ ∃ a, (a, b) ∈ es ∧ r b = r a + 1 := hr.by_ b hb
    refine ⟨h1.1, fun h => ?_, fun h => ?_⟩
    · by_cases hle : r b ≤ t
      · exact h1.2.1 hle
      · rcases h2 with h0 | ⟨a, ha, he⟩
        · omega
        · have := k.on r hr (a, b) (by rw [List.take_length]; exact ha)
          simp only at this
          have := this.1 (by omega)
          omega
    · rcases h2 with h0 | ⟨a, ha, he⟩
      · omega
      · have := k.on r hr (a, b) (by rw [List.take_length]; exact ha)
        simp only at this
        have := this.1 (by omega)
        omega

section
variable {ω : Amb}
theorem RRanks_law {h : Hp} {v : Value} {E : List (Int × Int)} {n : Nat} (hs : EdAt h v E) (hn : n ≤ 1000) (hl : E.length ≤ 20000) (hg : ∀ x ∈ E, bad (n : Int) x = false) (X : List PanicEntry → Hp → Prop) :
    CallX Try.prog ω n_pipewrightref_Ranks [.int .i64 (n : Int), v] h (fun r h' => RRes n (esOf E) h r h' ∧ Keep (fun _ => False) h h') X := by
  refine C_pipewrightref_Ranks ω _ _ h _ X ?_
  unfold W_pipewrightref_Ranks
  have hel : (esOf E).length = E.length := by simp [esOf]
  have hok := es_ok hg
  refine makeK_of (z := [.int .i64 0]) (bt := 8) (el := 3) (sz := 1) (by kernel_rfl) (by kernel_rfl) (by omega) (by omega) (by omega) ?_
  rw [Int.toNat_natCast, zeroRow_one]
  have ho1 := IO.zero h n (by omega)
  have k1 := Keep.push (S := fun _ => False) h (.cells (Array.replicate n (Value.int .i64 0)) 3 (0, 0))
  generalize Value.slice (some ⟨h.size, 0, none⟩) n n = V at *
  generalize Array.push h (.cells (Array.replicate n (Value.int .i64 0)) 3 (0, 0)) = h1 at *
  refine ⟨fun t h' => ∃ (k : Nat) (o : List Int), t = .int .i64 k ∧ k ≤ n + 1 ∧ Kr n (esOf E) k 0 false o ∧ IO h' h.size V o ∧ Keep (fun _ => False) h h' ∧ (k = n + 1 → ∀ r, IsRk n (esOf E) r → (∀ b, b < n → r b ≤ n) → False),
    fun t _ => match t with | .int _ k => n + 1 - k.toNat | _ => 0, ⟨0, _, rfl, by omega, Kr.start, ho1, k1, fun h => by omega⟩, ?_⟩
  rintro _ _ h2 ⟨t, o, rfl, ht, kr, ho2, k2, hno⟩
  rw [asK_int, asK_int]
  refine cond_c (fun hc => ?_) (fun hc => ?_)
  rotate_left
  · have he : t = n + 1 := by have := of_decide_eq_false hc; omega
    exact ⟨.inr ⟨rfl, hno he⟩, k2⟩
  have htn : t ≤ n := by have := of_decide_eq_true hc; omega
  have htl : t * E.length ≤ 1000 * 20000 := Nat.mul_le_mul (by omega) hl
  refine ⟨fun more i h' => ∃ (m : Bool) (k : Nat) (o : List Int), more = .bool m ∧ i = .int .i64 k ∧ k ≤ E.length ∧ Kr n (esOf E) t k m o ∧ IO h' h.size V o ∧ Keep (fun _ => False) h h',
    fun _ i _ => match i with | .int _ k => E.length - k.toNat | _ => 0, ⟨false, 0, o, rfl, rfl, by omega, kr, ho2, k2⟩, ?_⟩
  rintro _ _ _ h3 ⟨m, i, o3, rfl, rfl, hi, kr3, ho3, k3⟩
  have hs3 := EdAt.keep hs k3
  refine EdAt.sl hs3 fun _ _ => ?_
  rw [asK_int]
  refine cond_c (fun hc => ?_) (fun hc => ?_)
  · have hlt : i < E.length := by have := of_decide_eq_true hc; omega
    have hx := List.getElem?_eq_getElem hlt
    generalize E[i] = e at hx
    obtain ⟨a, b, rfl, ha, hb, hes⟩ := es_at hg hx
    have hla : a < o3.length := by rw [kr3.len]; exact ha
    have hlb : b < o3.length := by rw [kr3.len]; exact hb
    refine ⟨fun more h' => ∃ (m : Bool) (o : List Int), more = .bool m ∧ Kr n (esOf E) t (i + 1) m o ∧ IO h' h.size V o ∧ Keep (fun _ => False) h h', ?_, ?_⟩
    rotate_left
    · rintro _ _ h4 ⟨m4, o4, rfl, kr4, ho4, k4⟩
      rw [asK_int, i64_in (by omega) (by omega)]
      exact ⟨⟨m4, i + 1, o4, rfl, by simp, by omega, kr4, ho4, k4⟩, by simp; omega⟩
    refine EdAt.rd0 hs3 hx ?_
    refine EdAt.rd1 hs3 hx ?_
    refine IS.rd ho3.slAt (vz_at hlb) ?_
    refine IS.rd ho3.slAt (vz_at hla) ?_
    have hva := kr3.lo a ha
    have hvb := kr3.lo b hb
    rw [hel] at hva hvb
    rw [asK_int, asK_int, i64_in (by omega) (by omega)]
    refine ⟨fun more h' => ∃ (m : Bool) (o : List Int), more = .bool m ∧ Kr n (esOf E) t (i + 1) m o ∧ IO h' h.size V o ∧ Keep (fun _ => False) h h', ?_, fun _ _ _ hj => hj⟩
    refine cond_c (fun hc => ?_) (fun hc => ?_)
    · have hlt' := of_decide_eq_true hc
      refine IS.rd ho3.slAt (vz_at hla) ?_
      rw [asK_int, i64_in (by omega) (by omega)]
      refine IO.st ho3 hlb fun h5 ho5 k5 => ?_
      exact ⟨true, _, rfl, kr3.raise hok hes hlt', ho5, k3.newer (k5.mono fun b _ hb => .inr (OwnH.lt ho3 b hb).1)⟩
    · have hge := of_decide_eq_false hc
      exact ⟨m, o3, rfl, kr3.same hok hes (by omega), ho3, k3⟩
  · have hie : i = E.length := by have := of_decide_eq_false hc; omega
    subst hie
    rw [← hel] at kr3
    rw [asB_bool]
    refine cond_c (fun hc => ?_) (fun hc => ?_)
    · have hm : m = false := by simpa using hc
      subst hm
      refine ⟨.inl ⟨V, o3, rfl, ho3, kr3.len, fun a b hab => ?_, fun b hb => (kr3.lo b hb).1, fun r hr b hb => (kr3.rk r hr b hb).1⟩, k3⟩
      exact kr3.up rfl (a, b) (by rw [List.take_length]; exact hab)
    · have hm : m = true := by simpa using hc
      subst hm
      rw [asK_int, i64_in (by omega) (by omega)]
      refine ⟨⟨t + 1, o3, by simp, by omega, kr3.turn hok, ho3, k3, fun he r hr hrn => ?_⟩, by simp; omega⟩
      have := kr3.big rfl r hr hrn
      omega
end
end Go.Proofs.Ytfjkddigflijeaa
