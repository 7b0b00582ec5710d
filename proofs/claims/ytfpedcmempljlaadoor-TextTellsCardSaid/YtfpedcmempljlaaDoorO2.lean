/- Faults: put in order. -/
import Derived.Test.YtfpedcmempljlaaDoorO1
import Derived.Test.YtfpedcmempljlaaDoorSLayF
import Derived.Shelf.SlSortCmp.NoneTotal
namespace Go.Proofs.YtfpedcmempljlaaDoor
open Go Go.Sx Go.Sx.Or Go.Proofs.YtfpedcmempljlaaDoor.Sx Go.Sort

theorem keep_app {h h' : Hp} (k : Keep (fun _ => False) h h') : ∃ os, h' = h ++ os := by
  refine ⟨h'.extract h.size h'.size, ?_⟩
  refine Array.ext_getElem? fun i => ?_
  by_cases hi : i < h.size
  · rw [Array.getElem?_append_left hi]
    exact k.block i hi (by simp)
  · rw [Array.getElem?_append_right (by omega), Array.getElem?_extract]
    have := k.size
    by_cases h2 : i < h'.size
    · rw [if_pos (by omega)]
      congr 1
      omega
    · rw [if_neg (by omega), Array.getElem?_eq_none (by omega)]
theorem swoF : SWO (ltOf cfF) where
  irrefl := fun x => decide_eq_false fun h => lt2_irrefl x (cf_lt.1 h)
  trans := fun x y z h1 h2 => decide_eq_true (cf_lt.2 (lt2_trans (cf_lt.1 (of_decide_eq_true h1)) (cf_lt.1 (of_decide_eq_true h2))))
  ntrans := fun x y z h1 h2 => decide_eq_false fun h3 => by
    have h1 := fun h => of_decide_eq_false h1 (cf_lt.2 h)
    have h2 := fun h => of_decide_eq_false h2 (cf_lt.2 h)
    have h3 := cf_lt.1 h3
    rcases lt2_tri x y with h | h | h
    · exact h1 h
    · subst h; exact h2 h3
    · exact h2 (lt2_trans h h3)
theorem totF (x y : Ft) (h1 : ltOf cfF x y = false) (h2 : ltOf cfF y x = false) : x = y := by
  have h1 := fun h => of_decide_eq_false h1 (cf_lt.2 h)
  have h2 := fun h => of_decide_eq_false h2 (cf_lt.2 h)
  rcases lt2_tri x y with h | h | h
  · exact absurd h h1
  · exact h
  · exact absurd h h2
theorem putK_at {o : Nat} {d : Array Value} {c : Array Value} {j : Nat} (hj : j < d.size) (hc : o + j < c.size) : (putCells id o d c)[o + j]? = some d[j]! := by
  unfold putCells
  rw [Array.getElem?_mapIdx, Array.getElem?_eq_getElem hc, Option.map_some, if_pos ⟨by omega, by omega⟩, show o + j - o = j by omega]
  rfl
theorem flat_of_K (L : List Ft) {j : Nat} (hj : j < L.length * 2) : (L.flatMap fl)[j]? = some (flatK fl 2 L.toArray)[j]! := by
  rw [get_flatK _ _ _ _ (by simpa using hj)]
  have hi : L[j / 2]? = some L.toArray[j / 2]! := by
    rw [getElem!_pos L.toArray (j / 2) (by simp; omega), List.getElem?_eq_getElem (by omega)]
    simp
  have := flat_get fl_len hi (Nat.mod_lt j (by decide : 0 < 2))
  rw [show j / 2 * 2 + j % 2 = j by omega] at this
  rw [this, getElem!_pos _ (j % 2) (by rw [fl_len]; omega)]
  exact List.getElem?_eq_getElem _

section
variable {ω : Amb}
theorem SortNilF_law {h : Hp} {a : Option Addr} {c : Nat} {fv : Value} (X : List PanicEntry → Hp → Prop) : CallX Tryd.prog ω n_slices_SortFunc_sl_api_Fault_api_Fault [.slice a 0 c, fv] h (fun _ h' => h' = h) X := by
  intro d
  have hc := AnyF.slices_SortFunc_none laysF a c fv (W ω h d)
  have hc' : Calls Tryd.prog 16 #[.slice a 0 c, fv] (W ω h d) _ := hc
  refine hc'.mono fun e w' ⟨he, hw⟩ => ?_
  subst he hw
  exact ⟨⟨d, rfl⟩, rfl⟩
theorem SortF_law {h : Hp} {base : Nat} {v : Value} {L : List Ft} (ho : FO h base v L) (hl : L.length ≤ 1000000) (X : List PanicEntry → Hp → Prop) :
    CallX Tryd.prog ω n_slices_SortFunc_sl_api_Fault_api_Fault [v, .func (.func 17) #[] #[]] h (fun _ h' => FO h' base v (srtF L) ∧ Keep (fun k => v.ownBlock = some k) h h') X := by
  have hls : (srtF L).length = L.length := (srtF_perm L).length_eq
  rcases ho.2 with ⟨rfl, hn⟩ | ⟨g, o, cap, cur, rfl, hb, hg, hnc, hcm, hcs, hx⟩
  · have hL : L = [] := List.eq_nil_of_length_eq_zero hn
    subst hL
    refine CallX.use SortNilF_law ?_
    rintro _ _ hh
    rw [hh]
    have hs0 : srtF [] = [] := List.eq_nil_of_length_eq_zero (by simpa using hls)
    rw [hs0]
    exact ⟨ho, Keep.refl _ _⟩
  · have hgl := hp_lt hg
    intro d
    have hcell := own_cells hg hx
    have hH : HoldsK fl 2 (W ω h d) g o L.toArray := by
      intro j hj
      have hj' : j < L.length * 2 := by simpa using hj
      refine ⟨?_, ?_⟩
      · rw [cell?_W]
        have := hcell j _ (flat_of_K L hj')
        rw [addr_add] at this
        rw [this]
        rfl
      · rw [frozen?_W]
        simp [frozenH, World.frozen?, hg]
    have hcmp : CmpLays Tryd.prog 17 #[] fl 2 cfF g o L.toArray.size (W ω h d) := by
      intro m os dk _ x y
      have := Cmp_law (ω := { ω with low := ω.low + d + m }) x y (h.modify g (onCells (putCells id o (flatK fl 2 dk))) ++ os) (fun _ _ => False) 0
      have hw : W { ω with low := ω.low + d + m } (h.modify g (onCells (putCells id o (flatK fl 2 dk))) ++ os) 0 = sortWorldK fl 2 (W ω h d) g o m dk os := by
        show World.mk _ _ _ _ _ = World.mk _ _ _ _ _
        rfl
      rw [hw] at this
      refine Calls.mono this fun e w' ⟨⟨d', hd⟩, he⟩ => ?_
      cases e with
      | returned v =>
        obtain ⟨rfl, hk⟩ := he
        refine ⟨rfl, d', ?_⟩
        obtain ⟨os', hos⟩ := keep_app hk
        refine ⟨os', ?_⟩
        rw [hd, hos]
        rfl
      | panicked c => exact he.elim
      | outgrown => exact he.elim
    have hc := AnyQ.slices_SortFunc_total laysF 2 Tryd.isAgg26 Tryd.sizeOf26 fl fl_len (fun x v hv => fl_one x v hv) cfF swoF 17 #[] g o cap L.toArray (W ω h d)
      (enters_of Tryd.func17 (by kernel_rfl) rfl) hcmp hH hgl (by simp; omega) totF
    have hc' : Calls Tryd.prog 16 #[.slice (some ⟨g, o, none⟩) L.toArray.size cap, .func (.func 17) #[] #[]] (W ω h d) _ := hc
    rw [List.size_toArray] at hc'
    refine hc'.mono fun e w' ⟨he, n, os, hw⟩ => ?_
    subst he
    have hw2 : w' = W ω (h.modify g (onCells (putCells id o (flatK fl 2 (srtF L).toArray))) ++ os) (d + n) := hw.trans (W_more ω _ d n)
    refine ⟨⟨d + n, by rw [hw2]; rfl⟩, ?_⟩
    rw [hw2]
    have hblk : (h.modify g (onCells (putCells id o (flatK fl 2 (srtF L).toArray))) ++ os)[g]? = some (.cells (putCells id o (flatK fl 2 (srtF L).toArray) cur) 26 (0, 0)) := by
      rw [Array.getElem?_append_left (by simpa using hgl), Array.getElem?_modify, if_pos rfl, hg]
      rfl
    refine ⟨⟨flat_len fl_len _, .inr ⟨g, o, cap, _, by rw [hls], hb, hblk, by rw [hls]; exact hnc, hcm, by simpa [putCells] using hcs, ?_⟩⟩, ?_⟩
    · refine List.ext_getElem? fun j => ?_
      by_cases hj : j < (srtF L).length * 2
      · have hm : (srtF L).length * 2 ≤ cap * 2 := by rw [hls]; omega
        rw [List.getElem?_take, if_pos hj, List.getElem?_drop, Array.getElem?_toList, putK_at (by simpa using hj) (by omega), flat_of_K _ hj]
      · rw [List.getElem?_take, if_neg hj, List.getElem?_eq_none (by rw [flat_len fl_len]; omega)]
    · refine ⟨by simp [W], fun k hk hn => ?_⟩
      have hkg : k ≠ g := fun e => hn (by rw [e]; rfl)
      show (h.modify g _ ++ os)[k]? = h[k]?
      rw [Array.getElem?_append_left (by simpa using hk), Array.getElem?_modify, if_neg (fun e => hkg e.symm)]
end
end Go.Proofs.YtfpedcmempljlaaDoor
