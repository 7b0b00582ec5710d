/- A fault in words. -/
import Derived.Test.YtfpedcmempljlaaDoorO7
import Derived.Test.YtfpedcmempljlaaDoorV3
import Derived.Lib.ItoaLen
namespace Go.Proofs.YtfpedcmempljlaaDoor
open Go Go.Sx Go.Sx.Or Go.Proofs.YtfpedcmempljlaaDoor.Sx

/-- a place: line, column; a fault -/
def plF (s : ByteArray) (a : Int) : Int × Int × Int × Int :=
  if 12000 < s.size then (0, 0, 1, -1) else if a < 0 ∨ (s.size : Int) < a then (0, 0, 14, -1) else ((starts (bytesOf s) a.toNat).length, (a.toNat : Int) + 1 - lastS (bytesOf s) a.toNat, 0, 0)
theorem PlaceOf.eq {s : ByteArray} {a l c k f : Int} (h : PlaceOf s a l c k f) : (l, c, k, f) = plF s a := by
  unfold plF
  split
  · rename_i h0
    obtain ⟨rfl, rfl, rfl, rfl⟩ := h.big h0
    rfl
  · rename_i h0
    split
    · rename_i h1
      obtain ⟨rfl, rfl, rfl, rfl⟩ := h.out (by omega) h1
      rfl
    · rename_i h1
      obtain ⟨rfl, rfl, rfl, rfl⟩ := h.good (by omega) a.toNat (by omega) (by omega)
      rfl
theorem plF_lt (s : ByteArray) (a : Int) : -100000 ≤ (plF s a).1 ∧ (plF s a).1 ≤ 100000 ∧ -100000 ≤ (plF s a).2.1 ∧ (plF s a).2.1 ≤ 100000 := by
  unfold plF
  split
  · exact ⟨by decide, by decide, by decide, by decide⟩
  · split
    · exact ⟨by decide, by decide, by decide, by decide⟩
    · have h1 := starts_len (bytesOf s) a.toNat
      have h2 := lastS_le (bytesOf s) a.toNat
      simp only
      omega
def colonB : ByteArray := ⟨#[58]⟩
def blankB : ByteArray := ⟨#[32]⟩
def lineB : ByteArray := ⟨#[10]⟩
def tellS (s : ByteArray) (f : Ft) : ByteArray := (((itB (plF s f.2).1 ++ colonB) ++ itB (plF s f.2).2.1) ++ blankB) ++ wd f.1
/-- what Tell tells -/
def tellF (s : ByteArray) (f : Ft) : ByteArray × Ft :=
  if (plF s f.2).2.2.1 ≠ 0 then (nilB, (plF s f.2).2.2) else if (wd f.1).toList == nilB.toList then (nilB, (16, -1)) else (tellS s f, (0, 0))
theorem itB_len {n : Int} (h1 : -100000 ≤ n) (h2 : n ≤ 100000) : (itB n).size ≤ 21 := by
  have := Lib.itoa_length_le n (by omega) (by omega)
  simpa [itB, ByteArray.size] using this
theorem app_size (a b : ByteArray) : (a ++ b).size = a.size + b.size := ByteArray.size_append
theorem flt_fl (c a : Int) : flt c a = fl (c, a) := rfl
theorem tup3 {a b c : Value} {F : Value → Value → Value → Prop} : (asT (.tuple #[a, b, c]) fun T2 => asO T2[0]? fun v3 => asT (.tuple #[a, b, c]) fun T4 => asO T4[1]? fun v5 => asT (.tuple #[a, b, c]) fun T6 => asO T6[2]? fun v7 => F v3 v5 v7) = F a b c := by
  simp only [asT_tup]
  rfl
theorem tup2 {a b : Value} {F : Value → Value → Prop} : (asT (.tuple #[a, b]) fun T2 => asO T2[0]? fun v3 => asT (.tuple #[a, b]) fun T4 => asO T4[1]? fun v5 => F v3 v5) = F a b := by
  simp only [asT_tup]
  rfl
/-- a fault is laid and read -/
theorem finF {h : Hp} {L : Nat} {cs ds : List Value} (hw : h[L]? = some (.cells ds.toArray 26 (0, 0))) (hd : ds.length = 2) (hc : cs.length = 2) {K : List Value → Hp → Prop}
    (hk : ∀ h', Keep (fun k => k = L) h h' → h'[L]? = some (.cells cs.toArray 26 (0, 0)) → K cs h') : storeK h ⟨L, 0, none⟩ cs fun h' => ∃ C, cellsH h' ⟨L, 0, none⟩ 2 C ∧ K C h' := by
  refine storeK_of hw (by simp; omega) ?_
  rw [spl_all (by simp; omega)]
  have hb := hp_set_same (o := .cells cs.toArray 26 (0, 0)) hw
  exact ⟨cs, cellsH_blk hb hc, hk _ (Keep.set (S := fun k => k = L) _ rfl) hb⟩
def TeRes (s : ByteArray) (f : Ft) (r : Value) : Prop := r = .tuple #[.string (tellF s f).1, .agg (fl (tellF s f).2).toArray]
theorem tellF_a {s : ByteArray} {f : Ft} (h : (plF s f.2).2.2.1 ≠ 0) : tellF s f = (nilB, (plF s f.2).2.2) := if_pos h
theorem tellF_b {s : ByteArray} {f : Ft} (h : (plF s f.2).2.2.1 = 0) (h2 : ((wd f.1).toList == nilB.toList) = true) : tellF s f = (nilB, (16, -1)) := by
  unfold tellF
  rw [if_neg (by rw [h]; simp), if_pos h2]
theorem tellF_c {s : ByteArray} {f : Ft} (h : (plF s f.2).2.2.1 = 0) (h2 : ((wd f.1).toList == nilB.toList) = false) : tellF s f = (tellS s f, (0, 0)) := by
  unfold tellF
  rw [if_neg (by rw [h]; simp), if_neg (by rw [h2]; simp)]
end Go.Proofs.YtfpedcmempljlaaDoor
