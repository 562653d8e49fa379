/- A call's own bytes, as a string. -/
import Derived.Test.YtajpbfffpnbhpaaDoorUnder
import Derived.Laws.BytesArg
namespace Go.Proofs.YtajpbfffpnbhpaaDoor
open Go.RowKit

theorem BytesSl.conv {w : World} {a : Option Addr} {len cap : Nat} {s : ByteArray} (h : BytesSl w (.slice a len cap) s) : (convert 27 9 (.slice a len cap)).run Tryd.prog w = .ok (.string s) w := by
  rcases h with ⟨h0, a', cap', e⟩ | ⟨b, off, cap', e, h1, h2, h3, h4⟩
  · cases e
    have hs : s = ⟨#[]⟩ := by
      apply ByteArray.ext
      apply Array.eq_empty_of_size_eq_zero
      exact h0
    subst hs
    cases a with
    | none =>
      exact run_convert_bytes_nil w 27 5 Tryd.underlying27 Tryd.underlying5 0 cap 9 Tryd.underlying9
    | some ad =>
      have := run_convert_bytes_back (P := Tryd.prog) w 27 9 5 ad cap [] Tryd.underlying27 Tryd.underlying5 Tryd.underlying9 (fun j hj => by simp at hj)
      exact this
  · cases e
    have := run_convert_bytes_back (P := Tryd.prog) w 27 9 5 ⟨b, off, none⟩ cap s.data.toList Tryd.underlying27 Tryd.underlying5 Tryd.underlying9 (fun j hj => by
      have hj' : j < s.size := hj
      rw [Addr.add_lit, h4 j hj']
      simp [byteAt, List.getD, List.getElem?_eq_getElem hj])
    exact this
theorem OwnB.conv {w : World} {base : Nat} {v : Value} {l : List UInt8} (h : OwnB w base v l) : (convert 27 9 v).run Tryd.prog w = .ok (.string ⟨l.toArray⟩) w := by
  rcases h.shape with ⟨rfl, rfl⟩ | ⟨g, cap, rfl, h1, h2, h3, h4⟩
  · exact BytesSl.conv h.sl
  · exact BytesSl.conv h.sl
end Go.Proofs.YtajpbfffpnbhpaaDoor
