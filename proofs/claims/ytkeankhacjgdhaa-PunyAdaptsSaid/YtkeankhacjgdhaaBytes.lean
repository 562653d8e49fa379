/- Bytes in memory that read as a text; slices of bytes that read as one. -/
import Derived.Test.YtkeankhacjgdhaaKit
namespace Go.Proofs.Ytkeankhacjgdhaa
open Go.RowKit

/-- The bytes of a text stand in memory, from a place of a block on. -/
def BytesIn (w : World) (b off : Nat) (s : ByteArray) : Prop := ∀ j, j < s.size → w.cell? ⟨b, off + j, none⟩ = some (.int .u8 ((byteAt s j).toNat : Int))
theorem BytesIn.below {w w' : World} {b off B : Nat} {s : ByteArray} (h : BytesIn w b off s) (hb : Below B w w') (hg : b < B) : BytesIn w' b off s :=
  fun j hj => (hb.cell (p := ⟨b, off + j, none⟩) hg).trans (h j hj)
theorem BytesIn.drewN {w : World} {b off : Nat} {s : ByteArray} (h : BytesIn w b off s) (n : Nat) : BytesIn (w.drewN n) b off s := h
theorem BytesAt.isIn {w : World} {g : Nat} {s : ByteArray} (h : BytesAt w g s.data.toList) : BytesIn w g 0 s := fun j hj => by rw [Nat.zero_add]; exact h.byte hj

/-- A slice of bytes that reads as a text. -/
def BytesSl (w : World) (v : Value) (s : ByteArray) : Prop :=
  (s.size = 0 ∧ ∃ a cap, v = .slice a 0 cap) ∨ ∃ b off cap, v = .slice (some ⟨b, off, none⟩) s.size cap ∧ s.size ≤ cap ∧ cap ≤ maxLen ∧ b < w.heap.size ∧ BytesIn w b off s
theorem BytesSl.below {w w' : World} {v : Value} {s : ByteArray} (h : BytesSl w v s) (hb : Below w.heap.size w w') : BytesSl w' v s := by
  rcases h with h | ⟨b, off, cap, e, h1, h2, h3, h4⟩
  · exact .inl h
  · exact .inr ⟨b, off, cap, e, h1, h2, Nat.lt_of_lt_of_le h3 hb.size, h4.below hb h3⟩
theorem BytesSl.drewN {w : World} {v : Value} {s : ByteArray} (h : BytesSl w v s) (n : Nat) : BytesSl (w.drewN n) v s := h

theorem BytesSl.lit (w : World) (l : List UInt8) (cs : Array Value) (n : Nat) (hcs : cs = (l.map byteV).toArray) (hn : n = l.length) (hl : l.length ≤ 16777216) :
    BytesSl (w.alloc (.cells cs 5)) (.slice (some ⟨w.heap.size, 0, none⟩) n n) ⟨l.toArray⟩ := by
  have hsz : (⟨l.toArray⟩ : ByteArray).size = l.length := by show l.toArray.size = _; simp
  refine .inr ⟨w.heap.size, 0, n, by rw [hsz, hn], by rw [hsz, hn]; exact Nat.le_refl _, by unfold maxLen; omega, by simp, fun j hj => ?_⟩
  rw [hsz] at hj
  subst hcs
  rw [World.cell?_alloc_at _ _ _ _ rfl]
  simp [byteAt, byteV, hj]
end Go.Proofs.Ytkeankhacjgdhaa
