/- Expressions as texts. -/
import Derived.Test.YtaehnpilebkcoaaDoorRn3
import Derived.Test.YtaehnpilebkcoaaDoorY9c
namespace Go.Proofs.YtaehnpilebkcoaaDoor
open Go Go.Sx Go.Sx.Tk Go.Sx.Rn Go.Proofs.YtaehnpilebkcoaaDoor.Sx

def bs (l : List UInt8) : ByteArray := ⟨l.toArray⟩
theorem bs_size (l : List UInt8) : (bs l).size = l.length := by simp [bs, ByteArray.size]
theorem bs_app (a b : List UInt8) : bs a ++ bs b = bs (a ++ b) := by
  refine bytes_ext ?_
  simp [bytesOf, bs]
theorem bytes_bs (l : List UInt8) : bytesOf (bs l) = l := by simp [bytesOf, bs]
theorem bs_bytes (s : ByteArray) : bs (bytesOf s) = s := bytes_ext (bytes_bs _)
def rk (op : Int) : Int := if op = 7 ∨ op = 8 then 1 else if op = 4 ∨ op = 5 then 2 else if op = 6 then 3 else if op = 3 then 4 else 5
def lmO (op : Int) : Int := if op = 7 ∨ op = 8 then 2 else rk op
/-! ### what may stand as a text -/
theorem exF_0 {x : Ex} (h : exF x = 0) : exH x = 0 ∧ exsF x.l = 0 := by
  rw [exF_eq] at h
  exact orF_z h
theorem exH_0 {x : Ex} (h : exH x = 0) : 1 ≤ x.op ∧ x.op ≤ 8 ∧ (x.l.length : Int) = wantN x.op ∧ (x.n ≠ 0 → x.op = 1) ∧ (¬ emp x.nm → x.op = 2) ∧ (x.op = 2 → isNameB x.nm = true) ∧ 0 ≤ x.n ∧ x.n < 1000000000000000000 := by
  unfold exH at h
  split at h
  · cases h
  rename_i h1
  split at h
  · cases h
  rename_i h2
  split at h
  · cases h
  rename_i h3
  refine ⟨by omega, by omega, ?_, fun hn => ?_, fun hn => ?_, fun h2' => ?_, by omega, by omega⟩
  · exact Decidable.byContradiction fun hh => h1 (.inr (.inr (.inl hh)))
  · exact Decidable.byContradiction fun hh => h1 (.inr (.inr (.inr (.inl ⟨hn, hh⟩))))
  · exact Decidable.byContradiction fun hh => h1 (.inr (.inr (.inr (.inr ⟨hn, hh⟩))))
  · cases hh : isNameB x.nm with
    | true => rfl
    | false => exact absurd ⟨h2', hh⟩ h2
theorem Keep.cells {h h' : Hp} (k : Keep (fun _ => False) h h') {a : Addr} {n : Nat} {C : List Value} (hc : cellsH h a n C) : cellsH h' a n C := ⟨hc.1, fun j u hu => k.cell (hc.2 j u hu) (by simp)⟩
section
variable {ω : Amb}
end
end Go.Proofs.YtaehnpilebkcoaaDoor

namespace Go.Proofs.YtaehnpilebkcoaaDoor
open Go Go.Sx Go.Sx.Tk Go.Sx.Rn Go.Proofs.YtaehnpilebkcoaaDoor.Sx

section
variable {ω : Amb}
end
end Go.Proofs.YtaehnpilebkcoaaDoor

namespace Go.Proofs.YtaehnpilebkcoaaDoor
open Go Go.Sx Go.Sx.Tk Go.Sx.Rn Go.Proofs.YtaehnpilebkcoaaDoor.Sx

section
variable {ω : Amb}
end
end Go.Proofs.YtaehnpilebkcoaaDoor

namespace Go.Proofs.YtaehnpilebkcoaaDoor
open Go Go.Sx Go.Sx.Rn Go.Shelf Go.RowKit Go.Proofs.YtaehnpilebkcoaaDoor.Sx

/-- at block b stands a page -/
def PageAt (B b : Nat) (p : Value) (d : Int) (bs : List Value) (w : World) : Prop :=
  B ≤ b ∧ ∃ v, w.heap[b]? = some (.cells #[p, v, .int .i64 d] 97 (0, 0)) ∧ w.ownsRowF B 5 1 v bs.length bs ∧ v.ownBlock ≠ some b
def isPage (B b : Nat) (d : Int) (bs : List Value) (w : World) : Prop := PageAt B b (.pointer none) d bs w ∨ PageAt B b (.pointer (some ⟨b, 0, none⟩)) d bs w
/-- over heaps -/
def Pg (h : Hp) (B b : Nat) (d : Int) (l : List UInt8) : Prop :=
  ∃ p v, (p = .pointer none ∨ p = .pointer (some ⟨b, 0, none⟩)) ∧ B ≤ b ∧ h[b]? = some (.cells #[p, v, .int .i64 d] 97 (0, 0)) ∧ (∀ (ω : Amb) (n : Nat), (W ω h n).ownsRowF B 5 1 v l.length (Lib.byteCells l)) ∧ v.ownBlock ≠ some b
theorem Pg.is {h : Hp} {B b : Nat} {d : Int} {l : List UInt8} (hp : Pg h B b d l) (ω : Amb) (n : Nat) : isPage B b d (Lib.byteCells l) (W ω h n) := by
  obtain ⟨p, v, hp, h1, h2, h3, h4⟩ := hp
  have : PageAt B b p d (Lib.byteCells l) (W ω h n) := ⟨h1, v, h2, by rw [Lib.byteCells_length]; exact h3 ω n, h4⟩
  rcases hp with rfl | rfl
  · exact .inl this
  · exact .inr this
theorem Pg.new {h : Hp} {B b : Nat} {d : Int} (hB : B ≤ b) (hb : h[b]? = some (.cells #[.pointer none, .slice none 0 0, .int .i64 d] 97 (0, 0))) : Pg h B b d [] :=
  ⟨_, _, .inl rfl, hB, hb, fun _ _ => ⟨rfl, .inl ⟨rfl, rfl⟩⟩, by simp [Value.ownBlock]⟩
theorem ownsF_keep {h h' : Hp} {B : Nat} {v : Value} {n : Nat} {xs : List Value} (ho : ∀ (ω : Amb) (m : Nat), (W ω h m).ownsRowF B 5 1 v n xs) (k : ∀ g, v.ownBlock = some g → g < h.size → h'[g]? = h[g]?) :
    ∀ (ω : Amb) (m : Nat), (W ω h' m).ownsRowF B 5 1 v n xs := fun ω m => by
  obtain ⟨e1, e2⟩ := ho ω m
  refine ⟨e1, ?_⟩
  rcases e2 with e2 | ⟨g, cap, cur, fz, e3, e4, e5, rest⟩
  · exact .inl e2
  · have e5 : h[g]? = _ := e5
    exact .inr ⟨g, cap, cur, fz, e3, e4, (k g (by rw [e3]; rfl) (hp_lt e5)).trans e5, rest⟩
theorem Pg.more {h h' : Hp} {B b : Nat} {d : Int} {l : List UInt8} (hp : Pg h B b d l) (k : Keep (fun _ => False) h h') : Pg h' B b d l := by
  obtain ⟨p, v, hp, h1, h2, h3, h4⟩ := hp
  exact ⟨p, v, hp, h1, k.get h2 (by simp), ownsF_keep h3 fun g _ hl => k.block g hl (by simp), h4⟩
section
variable {ω : Amb}
end
end Go.Proofs.YtaehnpilebkcoaaDoor

namespace Go.Proofs.YtaehnpilebkcoaaDoor
open Go Go.Sx Go.Sx.Tk Go.Sx.Rn Go.Proofs.YtaehnpilebkcoaaDoor.Sx

theorem KeepB.new {h h' : Hp} {B : Nat} (hB : h.size ≤ B) (k : Keep (fun b => B ≤ b) h h') : Keep (fun _ => False) h h' := k.mono fun b hb e => by omega
section
variable {ω : Amb}
end
end Go.Proofs.YtaehnpilebkcoaaDoor

namespace Go.Proofs.YtaehnpilebkcoaaDoor
open Go Go.Sx Go.Sx.Tk Go.Sx.Rn Go.Proofs.YtaehnpilebkcoaaDoor.Sx

section
variable {ω : Amb}
end
end Go.Proofs.YtaehnpilebkcoaaDoor
