/- The library's calls on slices of ints. -/
import Derived.Test.YtfjkddigflijeaaR1
namespace Go.Proofs.Ytfjkddigflijeaa
open Go Go.Sx Go.Sx.Pa Go.Proofs.Ytfjkddigflijeaa.Sx

theorem IO.form {h : Hp} {base : Nat} {v : Value} {xs : List Int} (ho : IO h base v xs) : ∃ a cap, v = .slice a xs.length cap ∧ xs.length ≤ cap := by
  rcases ho.2 with ⟨rfl, hn⟩ | ⟨g, o, cap, cur, rfl, hb, hg, hnc, _⟩
  · exact ⟨none, 0, by rw [hn], by omega⟩
  · exact ⟨some ⟨g, o, none⟩, cap, rfl, hnc⟩
theorem callK_use {ω : Amb} {fv : Value} {args : List Value} {h : Hp} {R R' : Value → Hp → Prop} {X : List PanicEntry → Hp → Prop} (hc : ∀ Y, callK Try.prog ω fv args h R Y) (hr : ∀ v h', R v h' → R' v h') : callK Try.prog ω fv args h R' X := by
  have := hc X
  unfold callK at this ⊢
  split at this
  · rename_i f first captured
    cases hb : callable Try.prog f with
    | false => rw [hb] at this; exact this.elim
    | true =>
      rw [hb] at this
      exact CallX.mono this hr (fun _ _ h => h)
  · exact this.elim
theorem i64_nat {n : Nat} (h : n ≤ 9223372036854775807) : IntKind.wrap .i64 (n : Int) = (n : Int) := i64_in (by omega) (by omega)

section
variable {ω : Amb}
theorem IdxF_law {h : Hp} {v : Value} {xs : List Int} (hs : IS h v xs) (hl : xs.length ≤ 1000000) {fv : Value} {p : Int → Bool} (hf : ∀ x ∈ xs, ∀ Y, callK Try.prog ω fv [.int .i64 x] h (fun r h' => r = .bool (p x) ∧ h' = h) Y) (X : List PanicEntry → Hp → Prop) :
    CallX Try.prog ω n_slices_IndexFunc_sl_int_int [v, fv] h (fun r h' => h' = h ∧ ∃ k : Nat, k ≤ xs.length ∧ (∀ y ∈ xs.take k, p y = false) ∧ ((k = xs.length ∧ r = .int .i64 (-1)) ∨ ∃ x, xs[k]? = some x ∧ p x = true ∧ r = .int .i64 k)) X := by
  refine C_slices_IndexFunc_sl_int_int ω _ _ h _ X ?_
  unfold W_slices_IndexFunc_sl_int_int
  refine hs.sl fun _ _ => ?_
  refine ⟨fun i h' => h' = h ∧ ∃ k : Nat, i = .int .i64 k ∧ k ≤ xs.length ∧ ∀ y ∈ xs.take k, p y = false, fun i _ => match i with | .int _ k => xs.length - k.toNat | _ => 0, ⟨rfl, 0, rfl, by omega, by simp⟩, ?_⟩
  rintro _ _ _ ⟨hh, k, rfl, hk, hn⟩
  rw [hh, asK_int]
  refine cond_c (fun hc => ?_) (fun hc => ?_)
  · have hlt : k < xs.length := by have := of_decide_eq_true hc; omega
    have hx := List.getElem?_eq_getElem hlt
    have hm : xs[k] ∈ xs := List.getElem_mem hlt
    have ht := List.take_succ_eq_append_getElem hlt
    generalize xs[k] = x at hx hm ht
    refine hs.rd hx ?_
    refine callK_use (hf x hm) ?_
    rintro _ _ ⟨rfl, hh⟩
    rw [hh, asB_bool]
    refine cond_c (fun hc => ⟨rfl, k, hk, hn, .inr ⟨x, hx, hc, rfl⟩⟩) (fun hc => ?_)
    rw [asK_int, i64_in (by omega) (by omega)]
    refine ⟨⟨rfl, k + 1, by simp, by omega, ?_⟩, by simp; omega⟩
    rw [ht]
    intro y hy
    rcases List.mem_append.1 hy with hy | hy
    · exact hn y hy
    · simp at hy
      rw [hy]
      exact hc
  · have hke : k = xs.length := by have := of_decide_eq_false hc; omega
    exact ⟨rfl, k, hk, hn, .inl ⟨hke, rfl⟩⟩

end
end Go.Proofs.Ytfjkddigflijeaa
