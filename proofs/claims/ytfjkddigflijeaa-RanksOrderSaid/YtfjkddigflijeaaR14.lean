/- Ranks: the document's Round. -/
import Derived.Test.YtfjkddigflijeaaR13
namespace Go.Proofs.Ytfjkddigflijeaa
open Go Go.Sx Go.Sx.Pa Go.Sx.Ra Go.Proofs.Ytfjkddigflijeaa.Sx

/-- after the first V nodes, the document's -/
def RfS (n : Nat) (es : Es) (V : Nat) (best from_ : Int) : Prop :=
  (best = farOff ∧ from_ = -1 ∧ ∀ v, v < V → ∀ d, ¬ Cyc n es v d) ∨
  ∃ u d : Nat, from_ = u ∧ best = d + 1 ∧ u < V ∧ d < n ∧ Cyc n es u d ∧ ∀ v' d', v' < V → Cyc n es v' d' → d ≤ d' ∧ (d' = d → u ≤ v')
theorem RfS.less {n : Nat} {es : Es} (ho : Ok n es) (hn : n ≤ 1000) {V : Nat} {best from_ : Int} (s : RfS n es V best from_) (hV : V < n) {o : List Int} (hs : ShIs n es V o) (hlt : val o V < best) : RfS n es (V + 1) (val o V) V := by
  have hfar : val o V < farOff := by
    rcases s with ⟨rfl, _⟩ | ⟨u, d, _, rfl, _, hd, hc, _⟩
    · exact hlt
    · unfold farOff
      omega
  obtain ⟨d', h1, h2⟩ := hs.own hV hfar
  have hmin : ∀ e, Cyc n es V e → d' ≤ e := fun e he => by
    have := hs.cyc e he
    omega
  obtain ⟨m, h3, h4, h5⟩ := h1.least ho
  have h6 := hmin m h3
  refine .inr ⟨V, d', rfl, h2, by omega, by omega, h1, fun v' e hv hc' => ?_⟩
  rcases Nat.lt_or_ge v' V with hl | hge
  · rcases s with ⟨_, _, hno⟩ | ⟨u, d, _, rfl, _, _, _, hall⟩
    · exact absurd hc' (hno v' hl e)
    · have := hall v' e hl hc'
      omega
  · obtain rfl : v' = V := by omega
    exact ⟨hmin e hc', fun _ => Nat.le_refl _⟩
theorem RfS.more {n : Nat} {es : Es} (ho : Ok n es) (hn : n ≤ 1000) {V : Nat} {best from_ : Int} (s : RfS n es V best from_) {o : List Int} (hs : ShIs n es V o) (hge : ¬ val o V < best) : RfS n es (V + 1) best from_ := by
  rcases s with ⟨rfl, h2, hno⟩ | ⟨u, d, h1, rfl, h3, hd, hc, hall⟩
  · refine .inl ⟨rfl, h2, fun v hv e hc => ?_⟩
    rcases Nat.lt_or_ge v V with hl | hg
    · exact hno v hl e hc
    · obtain rfl : v = V := by omega
      obtain ⟨m, a1, _, a3⟩ := hc.least ho
      have := hs.cyc m a1
      unfold farOff at hge
      omega
  · refine .inr ⟨u, d, h1, rfl, by omega, hd, hc, fun v' e hv hc' => ?_⟩
    rcases Nat.lt_or_ge v' V with hl | hg
    · exact hall v' e hl hc'
    · obtain rfl : v' = V := by omega
      have := hs.cyc e hc'
      exact ⟨by omega, fun _ => by omega⟩

section
variable {ω : Amb}
theorem RRound_law {h : Hp} {ev : Value} {E : List (Int × Int)} {n : Nat} (hs : EdAt h ev E) (hn : n ≤ 1000) (hl : E.length ≤ 20000) (hg : ∀ x ∈ E, bad (n : Int) x = false) (X : List PanicEntry → Hp → Prop) :
    CallX Try.prog ω n_pipewrightref_Round [.int .i64 (n : Int), ev] h (fun r h' => ∃ l, IO h' h.size r (nI l) ∧ RoundIs n (esOf E) l ∧ Keep (fun _ => False) h h') X := by
  refine C_pipewrightref_Round ω _ _ h _ X ?_
  unfold W_pipewrightref_Round
  have hel : (esOf E).length = E.length := by simp [esOf]
  have hok := es_ok hg
  have hfo : farOff = 1073741824 := rfl
  refine ⟨fun best from_ t h' => ∃ (b f : Int) (V : Nat), best = .int .i64 b ∧ from_ = .int .i64 f ∧ t = .int .i64 V ∧ V ≤ n ∧ RfS n (esOf E) V b f ∧ Keep (fun _ => False) h h', fun _ _ t _ => match t with | .int _ V => n - V.toNat | _ => 0,
    ⟨farOff, -1, 0, rfl, rfl, rfl, by omega, .inl ⟨rfl, rfl, fun _ h => by omega⟩, Keep.refl _ _⟩, ?_⟩
  rintro _ _ _ _ h1 ⟨best, from_, V, rfl, rfl, rfl, hV, hst, k1⟩
  have hs1 := EdAt.keep hs k1
  rw [asK_int, asK_int]
  refine cond_c (fun hc => ?_) (fun hc => ?_)
  · have hVn : V < n := by have := of_decide_eq_true hc; omega
    refine ⟨fun best from_ h' => ∃ (b f : Int), best = .int .i64 b ∧ from_ = .int .i64 f ∧ RfS n (esOf E) (V + 1) b f ∧ Keep (fun _ => False) h h', ?_, ?_⟩
    rotate_left
    · rintro _ _ _ h2 ⟨b, f, rfl, rfl, hst, k2⟩
      rw [asK_int, i64_in (by omega) (by omega)]
      exact ⟨⟨b, f, V + 1, rfl, rfl, by simp, by omega, hst, k2⟩, by simp; omega⟩
    refine CallX.use (Shortest_law hs1 hn hl hg) ?_
    rintro r h2 ⟨o, ho, hsh, k2⟩
    refine IS.rd ho.slAt (val_at (by rw [hsh.len]; exact hVn)) ?_
    rw [asK_int, asK_int]
    refine ⟨fun best from_ h' => ∃ (b f : Int), best = .int .i64 b ∧ from_ = .int .i64 f ∧ RfS n (esOf E) (V + 1) b f ∧ Keep (fun _ => False) h h', ?_, fun _ _ _ _ hj => hj⟩
    refine cond_c (fun hc => ?_) (fun hc => ?_)
    · exact ⟨_, _, rfl, rfl, hst.less hok hn hVn hsh (of_decide_eq_true hc), k1.trans k2⟩
    · exact ⟨_, _, rfl, rfl, hst.more hok hn hsh (of_decide_eq_false hc), k1.trans k2⟩
  obtain rfl : V = n := by have := of_decide_eq_false hc; omega
  rw [asK_int]
  rcases hst with ⟨rfl, rfl, hno⟩ | ⟨u, d, rfl, rfl, hu, hd, hcy, hall⟩
  · refine cond_t (by decide) ?_
    exact ⟨[], OwnH.nil, .inl ⟨fun v d hc => hno v (hc.lt hok) d hc, rfl⟩, k1⟩
  refine cond_f (by simp) ?_
  refine CallX.use (Shortest_law hs1 hn hl hg) ?_
  rintro r h2 ⟨o, ho, hsh, k2⟩
  rw [oneK_int]
  have hmin : ∀ d', Cyc V (esOf E) u d' → d ≤ d' := fun d' hc' => (hall u d' hu hc').1
  obtain ⟨D, hD⟩ := isD_ex (Nb V (esOf E) u) hu
  have hfst := hcy.first hok hmin hD
  have hwl := (wk_all hok hu hD d u hfst).1
  have hat : ∀ {k m : Nat}, k < V → u < k → m < V → (val o k = m ↔ D k = some m) := fun hk huk hm => hsh.at_ hn hu hD hk huk hm
  have hlit := IO.lit (h := h2) [(u : Int)] (by simp)
  have kp3 : Keep (fun _ => False) h2 (Array.push h2 (.cells (List.toArray [.int .i64 (u : Int)]) 3 (0, 0))) := Keep.push (S := fun _ => False) h2 _
  have k12 := k1.trans k2
  refine ⟨fun at_ out h' => ∃ (x m : Nat) (pre : List Nat), at_ = .int .i64 x ∧ x < V ∧ pre.length + m = d ∧ wk (succ V (esOf E)) D d u = pre ++ wk (succ V (esOf E)) D m x ∧ IO h' h2.size out (nI (pre ++ [x])) ∧ (∃ k, (x, k) ∈ esOf E ∧ D k = some m) ∧ Keep (fun _ => False) h2 h',
    fun _ out _ => d + 1 - lenV out, ⟨u, d, [], rfl, hu, by simp, rfl, hlit, hfst, kp3⟩, ?_⟩
  rintro _ out _ h4 ⟨x, m, pre, rfl, hx, hpm, hwk, ho4, ⟨k', hk1, hk2⟩, k4⟩
  have hlo : (nI (pre ++ [x])).length = pre.length + 1 := by rw [nI_len]; simp
  refine IS.sl ho4.slAt fun _ _ => ?_
  rw [hlo, asK_int]
  refine cond_c (fun hc => ?_) (fun hc => ?_)
  rotate_left
  · obtain rfl : m = 0 := by have := of_decide_eq_false hc; omega
    refine ⟨pre ++ [x], OwnH.base ho4 k12.size, .inr ⟨u, d, D, hu, hcy, fun v' d' hc' => hall v' d' (hc'.lt hok) hc', hD, ?_⟩, k12.trans k4⟩
    rw [hwk]
    rfl
  have hm : 0 < m := by have := of_decide_eq_true hc; omega
  have ho4' := OwnH.more ho k4
  have hs4 := EdAt.keep hs (k12.trans k4)
  let P : Nat → Nat → Prop := fun i y => (y = V ∧ ∀ k, (x, k) ∈ (esOf E).take i → D k ≠ some m) ∨ ((x, y) ∈ esOf E ∧ D y = some m ∧ ∀ k, (x, k) ∈ (esOf E).take i → D k = some m → y ≤ k)
  refine ⟨fun next i h' => ∃ (y j : Nat), next = .int .i64 y ∧ i = .int .i64 j ∧ j ≤ E.length ∧ P j y ∧ h' = h4, fun _ i _ => match i with | .int _ j => E.length - j.toNat | _ => 0, ⟨V, 0, rfl, rfl, by omega, .inl ⟨rfl, fun k hk => by simp at hk⟩, rfl⟩, ?_⟩
  rintro _ _ _ h5 ⟨y, j, rfl, rfl, hj, hP, hh⟩
  rw [hh]
  refine EdAt.sl hs4 fun _ _ => ?_
  rw [asK_int]
  refine cond_c (fun hc => ?_) (fun hc => ?_)
  · have hlt : j < E.length := by have := of_decide_eq_true hc; omega
    have hxe := List.getElem?_eq_getElem hlt
    generalize E[j] = e at hxe
    obtain ⟨a, b, rfl, ha, hb, hes⟩ := es_at hg hxe
    have hab : (a, b) ∈ esOf E := List.mem_iff_getElem?.2 ⟨j, hes⟩
    have htk : (esOf E).take (j + 1) = (esOf E).take j ++ [(a, b)] := by rw [List.take_add_one, hes]; rfl
    refine ⟨fun next h' => ∃ y, next = .int .i64 (y : Nat) ∧ P (j + 1) y ∧ h' = h4, ?_, ?_⟩
    rotate_left
    · rintro _ _ h6 ⟨y6, rfl, hP6, hh6⟩
      rw [hh6, asK_int, i64_in (by omega) (by omega)]
      exact ⟨⟨y6, j + 1, rfl, by simp, by omega, hP6, rfl⟩, by simp; omega⟩
    refine EdAt.rd1 hs4 hxe ?_
    refine ⟨decide (a = x) && (decide (u < b) && (decide (val o b = m) && decide (b < y))), ?_, fun _ => ?_⟩
    · refine EdAt.rd0 hs4 hxe ?_
      rw [asK_int, asK_int]
      refine cond_c (fun hc => ?_) (fun hc => ?_)
      · have h1 : (a : Int) = x := eq_of_beq hc
        rw [decide_eq_true (by omega : a = x), Bool.true_and, asK_int, asK_int]
        refine cond_c (fun hc => ?_) (fun hc => ?_)
        · have h2 := of_decide_eq_true hc
          rw [decide_eq_true (by simpa using h2 : u < b), Bool.true_and]
          refine IS.rd ho4'.slAt (val_at (by rw [hsh.len]; exact hb)) ?_
          refine IS.sl ho4.slAt fun _ _ => ?_
          rw [asK_int, asK_int, hlo, i64_in (by omega) (by omega)]
          refine cond_c (fun hc => ?_) (fun hc => ?_)
          · have h3 := eq_of_beq hc
            rw [decide_eq_true (by omega : val o b = m), Bool.true_and, asK_int, asK_int]
            refine ⟨?_, rfl⟩
            congr 1
            rw [Bool.eq_iff_iff]
            simp
          · have h3 := beq_eq_false_iff_ne.1 hc
            rw [decide_eq_false (fun e => h3 (by omega)), Bool.false_and]
            exact ⟨rfl, rfl⟩
        · have h2 := of_decide_eq_false hc
          rw [decide_eq_false (by simpa using h2 : ¬ u < b), Bool.false_and]
          exact ⟨rfl, rfl⟩
      · have h1 := beq_eq_false_iff_ne.1 hc
        rw [decide_eq_false (fun e => h1 (by simp [e])), Bool.false_and]
        exact ⟨rfl, rfl⟩
    refine ⟨fun next h' => ∃ y, next = .int .i64 (y : Nat) ∧ P (j + 1) y ∧ h' = h4, ?_, fun _ _ _ hj => hj⟩
    refine cond_c (fun hc => ?_) (fun hc => ?_)
    · simp only [Bool.and_eq_true, decide_eq_true_eq] at hc
      obtain ⟨rfl, hub, hvb, hby⟩ := hc
      have hDb := (hat hb hub (by omega)).1 hvb
      refine ⟨b, rfl, .inr ⟨hab, hDb, fun k hk hDk => ?_⟩, rfl⟩
      rw [htk] at hk
      rcases List.mem_append.1 hk with hk | hk
      · rcases hP with ⟨_, h1⟩ | ⟨_, _, h1⟩
        · exact absurd hDk (h1 k hk)
        · have := h1 k hk hDk
          omega
      · simp at hk
        omega
    · refine ⟨y, rfl, ?_, rfl⟩
      have hno : a = x → D b = some m → y ≤ b := fun h1 h2 => by
        refine Nat.le_of_not_lt fun hby => ?_
        have hub : u < b := by rcases Dst.ge (D_dst hD h2) with h | h <;> omega
        have := (hat hb hub (by omega)).2 h2
        simp [h1, hub, this, hby] at hc
      rcases hP with ⟨h1, h2⟩ | ⟨h1, h2, h3⟩
      · refine .inl ⟨h1, fun k hk hDk => ?_⟩
        rw [htk] at hk
        rcases List.mem_append.1 hk with hk | hk
        · exact h2 k hk hDk
        · simp at hk
          obtain ⟨rfl, rfl⟩ := hk
          have := hno rfl hDk
          omega
      · refine .inr ⟨h1, h2, fun k hk hDk => ?_⟩
        rw [htk] at hk
        rcases List.mem_append.1 hk with hk | hk
        · exact h3 k hk hDk
        · simp at hk
          obtain ⟨rfl, rfl⟩ := hk
          exact hno rfl hDk
  · obtain rfl : j = E.length := by have := of_decide_eq_false hc; omega
    have hta : (esOf E).take E.length = esOf E := by rw [← hel, List.take_length]
    rcases hP with ⟨_, h1⟩ | ⟨h1, h2, h3⟩
    · rw [hta] at h1
      exact absurd hk2 (h1 k' hk1)
    · rw [hta] at h3
      have hyn := (hok _ h1).2
      obtain ⟨q, rfl⟩ : ∃ q, m = q + 1 := ⟨m - 1, by omega⟩
      have hfy : (succ V (esOf E) x).find? (fun k => D k == some (q + 1)) = some y := by
        refine find_up (succ_up _ _ _) ((mem_succ hok).2 h1) (by simp [h2]) fun k hk hDk => h3 k ((mem_succ hok).1 hk) (eq_of_beq hDk)
      have hwx : wk (succ V (esOf E)) D (q + 1) x = x :: wk (succ V (esOf E)) D q y := by
        rw [wk, hfy]
      rw [oneK_int]
      have hbo := OwnH.lt ho4
      refine IO.app ho4 (by omega) k4.size (y : Int) fun w h6 ho6 k6 hw6 => ?_
      have hnI : nI (pre ++ [x] ++ [y]) = nI (pre ++ [x]) ++ [(y : Int)] := by simp [nI]
      refine ⟨⟨y, q, pre ++ [x], rfl, hyn, by simp; omega, ?_, by rw [hnI]; exact ho6, D_down hok hu hD h2, k4.newer (k6.mono fun b _ hb => .inr (hbo b hb).1)⟩, ?_⟩
      · rw [hwk, hwx, List.append_assoc]
        rfl
      · show d + 1 - lenV w < d + 1 - lenV out
        rw [IO.lenV ho6, IO.lenV ho4, List.length_append, hlo]
        simp only [List.length_cons, List.length_nil]
        omega
end
end Go.Proofs.Ytfjkddigflijeaa
