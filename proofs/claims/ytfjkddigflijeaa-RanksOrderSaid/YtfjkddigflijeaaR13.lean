/- Ranks: Shortest. -/
import Derived.Test.YtfjkddigflijeaaR12
namespace Go.Proofs.Ytfjkddigflijeaa
open Go Go.Sx Go.Sx.Pa Go.Sx.Ra Go.Proofs.Ytfjkddigflijeaa.Sx

def total (o : List Int) : Nat := (o.map Int.toNat).sum
theorem total_set : ∀ {o : List Int} {k : Nat} {v : Int}, k < o.length → 0 ≤ v → v < val o k → total (o.set k v) < total o
  | x :: o, 0, v, _, h1, h2 => by
    have : v < x := h2
    simp only [total, List.set_cons_zero, List.map_cons, List.sum_cons]
    omega
  | x :: o, k + 1, v, hk, h1, h2 => by
    have := total_set (o := o) (k := k) (v := v) (by simpa using hk) h1 h2
    simp only [total, List.set_cons_succ, List.map_cons, List.sum_cons] at *
    omega
/-- what an edge to b gives -/
def dd (v : Nat) (o : List Int) (b : Nat) : Int := if b = v then 1 else if val o b < farOff then val o b + 1 else farOff
structure Sh (n : Nat) (es : Es) (v : Nat) (o : List Int) : Prop where
  len : o.length = n
  pos : ∀ k, k < n → 0 < val o k ∧ val o k ≤ farOff
  src : ∀ k, k < n → val o k < farOff → v ≤ k ∧ ∃ b d, (k, b) ∈ es ∧ v ≤ b ∧ Dst (Nb n es v) v b d ∧ val o k = d + 1
theorem val_rep {n k : Nat} (hk : k < n) (x : Int) : val (List.replicate n x) k = x := by
  unfold val
  rw [List.getD_eq_getElem?_getD, List.getElem?_replicate, if_pos hk]
  rfl
theorem Sh.start (n : Nat) (es : Es) (v : Nat) : Sh n es v (List.replicate n farOff) :=
  ⟨by simp, fun k hk => by rw [val_rep hk]; decide, fun k hk hlt => by rw [val_rep hk] at hlt; omega⟩
theorem Sh.dd_pos {n : Nat} {es : Es} {v : Nat} {o : List Int} (s : Sh n es v o) {b : Nat} (hb : b < n) : 0 < dd v o b ∧ dd v o b ≤ farOff := by
  have := s.pos b hb
  unfold dd farOff at *
  split
  · omega
  · split <;> omega
theorem Sh.near {n : Nat} {es : Es} {v : Nat} {o : List Int} (s : Sh n es v o) (ho : Ok n es) {a b : Nat} (he : (a, b) ∈ es) (ha : v ≤ a) (hb : v ≤ b) (hlt : dd v o b < val o a) : Sh n es v (o.set a (dd v o b)) := by
  have hv := ho _ he
  simp only at hv
  have hset := val_set (v := dd v o b) (by rw [s.len]; exact hv.1 : a < o.length)
  have hdp := s.dd_pos hv.2
  have hpa := s.pos a hv.1
  refine ⟨by rw [List.length_set]; exact s.len, fun k hk => ?_, fun k hk hk2 => ?_⟩
  · rw [hset]
    split
    · exact hdp
    · exact s.pos k hk
  · rw [hset] at hk2 ⊢
    by_cases hka : k = a
    · subst hka
      rw [if_pos rfl] at hk2 ⊢
      refine ⟨ha, ?_⟩
      by_cases hbv : b = v
      · subst hbv
        refine ⟨b, 0, he, Nat.le_refl _, .nil, ?_⟩
        unfold dd
        rw [if_pos rfl]
        rfl
      · have hbf : val o b < farOff := by
          refine Classical.byContradiction fun hn => ?_
          unfold dd at hk2
          rw [if_neg hbv, if_neg hn] at hk2
          omega
        obtain ⟨_, c, d, h1, h2, h3, h4⟩ := s.src b hv.2 hbf
        refine ⟨b, d + 1, he, hb, .step h3 ((mem_Nb ho).2 ⟨h1, by omega⟩), ?_⟩
        unfold dd
        rw [if_neg hbv, if_pos hbf, h4]
        simp
    · rw [if_neg hka] at hk2 ⊢
      exact s.src k hk hk2
/-- what Shortest tells -/
structure ShIs (n : Nat) (es : Es) (v : Nat) (o : List Int) : Prop where
  len : o.length = n
  pos : ∀ k, k < n → 0 < val o k ∧ val o k ≤ farOff
  far : ∀ k d, v < k → Dst (Nb n es v) v k d → val o k ≤ d
  get : ∀ k, k < n → v < k → val o k < farOff → ∃ d : Nat, val o k = d ∧ Dst (Nb n es v) v k d
  cyc : ∀ d : Nat, Cyc n es v d → val o v ≤ d + 1
  own : v < n → val o v < farOff → ∃ d : Nat, Cyc n es v d ∧ val o v = d + 1
theorem Sh.fin {n : Nat} {es : Es} {v : Nat} {o : List Int} (s : Sh n es v o) (ho : Ok n es) (hfix : ∀ a b, (a, b) ∈ es → v ≤ a → v ≤ b → val o a ≤ dd v o b) : ShIs n es v o := by
  have hstep : ∀ {a b d : Nat}, (a, b) ∈ es → v ≤ a → v ≤ b → (b = v ∨ val o b ≤ d) → val o a ≤ (d : Int) + 1 := fun {a b d} he ha hb hd => by
    have h1 := hfix a b he ha hb
    have hv := ho _ he
    have h2 := s.pos b hv.2
    unfold dd at h1
    split at h1
    · omega
    · rename_i hbv
      split at h1 <;> omega
  have hdst : ∀ {k d : Nat}, Dst (Nb n es v) v k d → k = v ∨ val o k ≤ d := fun {k d} h => by
    induction h with
    | nil => exact .inl rfl
    | @step b c d hb hc ih =>
      obtain ⟨h1, h2⟩ := (mem_Nb ho).1 hc
      have hbv : v ≤ b := by rcases Dst.ge hb with h | h <;> omega
      have := hstep h1 (by omega) hbv ih
      exact .inr (by rw [Int.natCast_add]; exact this)
  refine ⟨s.len, s.pos, fun k d hk hd => ?_, fun k hk hvk hlt => ?_, fun d hc => ?_, fun hv hlt => ?_⟩
  · rcases hdst hd with h | h
    · omega
    · exact h
  · obtain ⟨_, b, d, h1, h2, h3, h4⟩ := s.src k hk hlt
    exact ⟨d + 1, by rw [h4]; simp, .step h3 ((mem_Nb ho).2 ⟨h1, hvk⟩)⟩
  · obtain ⟨k, h1, h2, h3⟩ := hc
    exact hstep h1 (Nat.le_refl _) h2 (hdst h3)
  · obtain ⟨_, b, d, h1, h2, h3, h4⟩ := s.src v hv hlt
    exact ⟨d, ⟨b, h1, h2, h3⟩, h4⟩
theorem ShIs.at_ {n : Nat} {es : Es} {v : Nat} {o : List Int} (s : ShIs n es v o) (hn : n ≤ 1000) {D : Nat → Option Nat} (hv : v < n) (hD : IsD (Nb n es v) n (v : Int) D) {k : Nat} (hk : k < n) (hvk : v < k) {m : Nat} (hm : m < n) : val o k = m ↔ D k = some m := by
  constructor
  · intro h
    obtain ⟨d, h1, h2⟩ := s.get k hk hvk (by unfold farOff; omega)
    obtain rfl : d = m := by omega
    obtain ⟨d', h3, h4⟩ := D_le hv hD h2
    have := s.far k d' hvk (D_dst hD h3)
    rw [h3]
    congr 1
    omega
  · intro h
    have h1 := s.far k m hvk (D_dst hD h)
    obtain ⟨d, h2, h3⟩ := s.get k hk hvk (by unfold farOff; omega)
    obtain ⟨d', h4, h5⟩ := D_le hv hD h3
    rw [h] at h4
    cases h4
    omega

section
variable {ω : Amb}
theorem Shortest_law {h : Hp} {ev : Value} {E : List (Int × Int)} {n v : Nat} (hs : EdAt h ev E) (hn : n ≤ 1000) (hl : E.length ≤ 20000) (hg : ∀ x ∈ E, bad (n : Int) x = false) (X : List PanicEntry → Hp → Prop) :
    CallX Try.prog ω n_pipewrightref_Shortest [.int .i64 (n : Int), ev, .int .i64 (v : Int), .int .i64 (v : Int)] h (fun r h' => ∃ o, IO h' h.size r o ∧ ShIs n (esOf E) v o ∧ Keep (fun _ => False) h h') X := by
  refine C_pipewrightref_Shortest ω _ _ _ _ h _ X ?_
  unfold W_pipewrightref_Shortest
  have hel : (esOf E).length = E.length := by simp [esOf]
  have hok := es_ok hg
  refine makeK_of (z := [.int .i64 0]) (bt := 8) (el := 3) (sz := 1) (by kernel_rfl) (by kernel_rfl) (by omega) (by omega) (by omega) ?_
  rw [Int.toNat_natCast, zeroRow_one]
  have ho1 := IO.zero h n (by omega)
  have k1 := Keep.push (S := fun _ => False) h (.cells (Array.replicate n (Value.int .i64 0)) 3 (0, 0))
  generalize Value.slice (some ⟨h.size, 0, none⟩) n n = V at *
  generalize Array.push h (.cells (Array.replicate n (Value.int .i64 0)) 3 (0, 0)) = h1 at *
  refine ⟨fun t h' => ∃ i : Nat, t = .int .i64 i ∧ i ≤ n ∧ IO h' h.size V (List.replicate i farOff ++ List.replicate (n - i) 0) ∧ Keep (fun _ => False) h h', fun t _ => match t with | .int _ i => n - i.toNat | _ => 0, ⟨0, rfl, by omega, by simpa using ho1, k1⟩, ?_⟩
  rintro _ _ h2 ⟨i, rfl, hi, ho2, k2⟩
  rw [asK_int, asK_int]
  refine cond_c (fun hc => ?_) (fun hc => ?_)
  · have hlt : i < n := by have := of_decide_eq_true hc; omega
    refine IO.st (x := farOff) ho2 (by simp; omega : i < (List.replicate i farOff ++ List.replicate (n - i) (0 : Int)).length) fun h3 ho3 k3 => ?_
    rw [asK_int, i64_in (by omega) (by omega)]
    have hbo := OwnH.lt ho2
    refine ⟨⟨i + 1, by simp, by omega, ?_, k2.newer (k3.mono fun b _ hb => .inr (hbo b hb).1)⟩, by simp; omega⟩
    have : (List.replicate i farOff ++ List.replicate (n - i) (0 : Int)).set i farOff = List.replicate (i + 1) farOff ++ List.replicate (n - (i + 1)) 0 := by
      rw [List.set_append_right _ _ (by simp), List.length_replicate, Nat.sub_self]
      obtain ⟨q, hq⟩ : ∃ q, n - i = q + 1 := ⟨n - i - 1, by omega⟩
      rw [hq, show n - (i + 1) = q by omega, List.replicate_succ (n := q), List.set_cons_zero, List.replicate_succ' (n := i), List.append_assoc]
      rfl
    rw [← this]
    exact ho3
  have hie : i = n := by have := of_decide_eq_false hc; omega
  subst hie
  rw [Nat.sub_self, List.replicate_zero, List.append_nil] at ho2
  refine ⟨fun more h' => ∃ (B : List Int) (m : Bool), more = .bool m ∧ Sh i (esOf E) v B ∧ IO h' h.size V B ∧ Keep (fun _ => False) h h' ∧ (m = false → ∀ a b, (a, b) ∈ esOf E → v ≤ a → v ≤ b → val B a ≤ dd v B b),
    fun more h' => (total (rdI V h')) * 2 + (match more with | .bool true => 1 | _ => 0), ⟨_, true, rfl, Sh.start i (esOf E) v, ho2, k2, fun h => by cases h⟩, ?_⟩
  rintro _ _ h4 ⟨B, m, rfl, hB, hoB, kB, hm⟩
  rw [asB_bool]
  refine cond_c (fun hc => ?_) (fun hc => ?_)
  rotate_left
  · subst hc
    exact ⟨B, hoB, hB.fin hok (hm rfl), kB⟩
  subst hc
  refine ⟨fun more t h' => ∃ (B' : List Int) (m : Bool) (j : Nat), more = .bool m ∧ t = .int .i64 j ∧ j ≤ E.length ∧ Sh i (esOf E) v B' ∧ IO h' h.size V B' ∧ Keep (fun _ => False) h h' ∧ total B' ≤ total B ∧ (m = true → total B' < total B) ∧ (m = false → ∀ a b, (a, b) ∈ (esOf E).take j → v ≤ a → v ≤ b → val B' a ≤ dd v B' b),
    fun _ t _ => match t with | .int _ k => E.length - k.toNat | _ => 0, ⟨B, false, 0, rfl, rfl, by omega, hB, hoB, kB, Nat.le_refl _, fun h => (by cases h), fun _ a b hab => by simp at hab⟩, ?_⟩
  rintro _ _ _ h5 ⟨B5, m5, j, rfl, rfl, hj, hB5, ho5, k5, hc5, hm5, hf5⟩
  have hs5 := EdAt.keep hs k5
  have hBl5 := hB5.len
  refine EdAt.sl hs5 fun _ _ => ?_
  rw [asK_int]
  refine cond_c (fun hc => ?_) (fun hc => ?_)
  rotate_left
  · obtain rfl : j = E.length := by have := of_decide_eq_false hc; omega
    refine ⟨⟨B5, m5, rfl, hB5, ho5, k5, fun hmf a b hab => hf5 hmf a b (by rw [← hel, List.take_length]; exact hab)⟩, ?_⟩
    show (total (rdI V _)) * 2 + _ < (total (rdI V _)) * 2 + 1
    rw [rdI_own ho5, rdI_own hoB]
    cases m5 with
    | true =>
      have := hm5 rfl
      simp only
      omega
    | false =>
      simp only
      omega
  have hlt : j < E.length := by have := of_decide_eq_true hc; omega
  have hx := List.getElem?_eq_getElem hlt
  generalize E[j] = e at hx
  obtain ⟨a, b, rfl, ha, hb, hes⟩ := es_at hg hx
  have hab : (a, b) ∈ esOf E := List.mem_iff_getElem?.2 ⟨j, hes⟩
  have htk : (esOf E).take (j + 1) = (esOf E).take j ++ [(a, b)] := by rw [List.take_add_one, hes]; rfl
  have hpa := hB5.pos a ha
  have hpb := hB5.pos b hb
  have hdp := hB5.dd_pos hb
  refine ⟨fun more h' => ∃ (B' : List Int) (m : Bool), more = .bool m ∧ Sh i (esOf E) v B' ∧ IO h' h.size V B' ∧ Keep (fun _ => False) h h' ∧ total B' ≤ total B ∧ (m = true → total B' < total B) ∧ (m = false → ∀ a b, (a, b) ∈ (esOf E).take (j + 1) → v ≤ a → v ≤ b → val B' a ≤ dd v B' b), ?_, ?_⟩
  rotate_left
  · rintro _ _ h6 ⟨B6, m6, rfl, hB6, ho6, k6, hc6, hm6, hf6⟩
    rw [asK_int, i64_in (by omega) (by omega)]
    exact ⟨⟨B6, m6, j + 1, rfl, by simp, by omega, hB6, ho6, k6, hc6, hm6, hf6⟩, by simp; omega⟩
  refine EdAt.rd0 hs5 hx ?_
  refine EdAt.rd1 hs5 hx ?_
  refine ⟨decide (a < v ∨ b < v), ?_, fun _ => cond_c (fun hc => ?_) (fun hc => ?_)⟩
  · rw [asK_int, asK_int]
    refine cond_c (fun hc => ?_) (fun hc => ?_)
    · have := of_decide_eq_true hc
      rw [decide_eq_true (by omega : a < v ∨ b < v)]
      exact ⟨rfl, rfl⟩
    · have := of_decide_eq_false hc
      rw [asK_int, asK_int]
      refine ⟨?_, rfl⟩
      congr 1
      rw [Bool.eq_iff_iff]
      simp
      omega
  · have := of_decide_eq_true hc
    refine ⟨B5, m5, rfl, hB5, ho5, k5, hc5, hm5, fun hmf a' b' hab' h1 h2 => ?_⟩
    rw [htk] at hab'
    rcases List.mem_append.1 hab' with h3 | h3
    · exact hf5 hmf a' b' h3 h1 h2
    · simp at h3
      omega
  have hvab := of_decide_eq_false hc
  rw [asK_int, asK_int]
  refine ⟨fun d h' => d = .int .i64 (dd v B5 b) ∧ h' = h5, ?_, ?_⟩
  · refine cond_c (fun hc => ?_) (fun hc => ?_)
    · have := eq_of_beq hc
      refine ⟨?_, rfl⟩
      unfold dd
      rw [if_pos (by omega)]
    · have hne := beq_eq_false_iff_ne.1 hc
      have hnb : b ≠ v := fun e => hne (by rw [e])
      refine IS.rd ho5.slAt (val_at (by omega : b < B5.length)) ?_
      rw [asK_int]
      refine ⟨fun d h' => d = .int .i64 (dd v B5 b) ∧ h' = h5, ?_, fun _ _ _ hj => hj⟩
      unfold dd
      rw [if_neg hnb]
      refine cond_c (fun hc => ?_) (fun hc => ?_)
      · have hlt' : val B5 b < farOff := of_decide_eq_true hc
        refine IS.rd ho5.slAt (val_at (by omega : b < B5.length)) ?_
        unfold farOff at hpb
        rw [asK_int, i64_in (by omega) (by omega), if_pos hlt']
        exact ⟨rfl, rfl⟩
      · have hge' : ¬ val B5 b < farOff := of_decide_eq_false hc
        rw [if_neg hge']
        exact ⟨rfl, rfl⟩
  rintro _ _ h6 ⟨rfl, hh⟩
  rw [hh]
  refine IS.rd ho5.slAt (val_at (by omega : a < B5.length)) ?_
  rw [asK_int, asK_int]
  refine ⟨fun more h' => ∃ (B' : List Int) (m : Bool), more = .bool m ∧ Sh i (esOf E) v B' ∧ IO h' h.size V B' ∧ Keep (fun _ => False) h h' ∧ total B' ≤ total B ∧ (m = true → total B' < total B) ∧ (m = false → ∀ a b, (a, b) ∈ (esOf E).take (j + 1) → v ≤ a → v ≤ b → val B' a ≤ dd v B' b), ?_, fun _ _ _ hj => hj⟩
  refine cond_c (fun hc => ?_) (fun hc => ?_)
  · have hlt' := of_decide_eq_true hc
    have hn := hB5.near hok hab (by omega) (by omega) hlt'
    have ht := total_set (by omega : a < B5.length) (by omega) hlt'
    generalize dd v B5 b = z at *
    refine IO.st ho5 (by omega : a < B5.length) fun h7 ho7 k7 => ?_
    have hbo := OwnH.lt ho5
    exact ⟨_, true, rfl, hn, ho7, k5.newer (k7.mono fun b _ hb => .inr (hbo b hb).1), by omega, fun _ => by omega, fun h => by cases h⟩
  · have hge := of_decide_eq_false hc
    refine ⟨B5, m5, rfl, hB5, ho5, k5, hc5, hm5, fun hmf a' b' hab' h1 h2 => ?_⟩
    rw [htk] at hab'
    rcases List.mem_append.1 hab' with h3 | h3
    · exact hf5 hmf a' b' h3 h1 h2
    · simp at h3
      obtain ⟨rfl, rfl⟩ := h3
      omega
end
end Go.Proofs.Ytfjkddigflijeaa
