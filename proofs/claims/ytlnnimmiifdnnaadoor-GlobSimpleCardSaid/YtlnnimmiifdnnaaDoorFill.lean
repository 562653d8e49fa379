/- A loop that writes into a call's own bytes: nothing else turns. -/
import Derived.Test.YtlnnimmiifdnnaaDoorUnder
namespace Go.Proofs.YtlnnimmiifdnnaaDoor
open Go.RowKit

/-- Block g is a row of at least n bytes that may be written. -/
def RowAt (w : World) (g n : Nat) : Prop := ∃ cur, w.heap[g]? = some (.cells cur 5 (0, 0)) ∧ n ≤ cur.size
theorem RowAt.cell {w : World} {g n i : Nat} (h : RowAt w g n) (hi : i < n) : ∃ u, w.cell? ⟨g, i, none⟩ = some u := by
  obtain ⟨cur, hh, hn⟩ := h
  rw [World.cell?, hh]
  simp
  exact ⟨cur[i]'(by omega), by rw [Array.getElem?_eq_getElem (by omega)]⟩
theorem RowAt.frozen {w : World} {g n i : Nat} (h : RowAt w g n) : w.frozen? ⟨g, i, none⟩ = false := by
  obtain ⟨cur, hh, hn⟩ := h
  simp [World.frozen?, hh]
theorem RowAt.store {w : World} {g n i : Nat} (h : RowAt w g n) (u : Value) : RowAt (w.setCell ⟨g, i, none⟩ u) g n := by
  obtain ⟨cur, hh, hn⟩ := h
  refine ⟨cur.setIfInBounds i u, ?_, by simpa using hn⟩
  simp only [World.setCell, Array.getElem?_modify, hh]
  simp
theorem OwnB.rowAt {w : World} {base g cap : Nat} {l : List UInt8} (h : OwnB w base (.slice (some ⟨g, 0, none⟩) l.length cap) l) : RowAt w g l.length := by
  rcases h.2 with ⟨h0, _⟩ | ⟨g', cap', cur, h0, _, hh, h1, _, h2, _⟩
  · cases h0
  · cases h0
    exact ⟨cur, hh, by omega⟩
theorem row_cell {w : World} {base n c i : Nat} {e : TypeId} {p : Option Addr} {xs : List Value} (h : w.ownsRow base e 1 (.slice p n c) n xs) (hi : i < n) : ∃ g, p = some ⟨g, 0, none⟩ ∧ w.cell? ⟨g, i, none⟩ = xs[i]? ∧ n ≤ c ∧ c ≤ maxLen := by
  have h' := h
  rcases h.2 with ⟨e0, e1⟩ | ⟨g, cap, cur, e0, _, _, h1, h2, _⟩
  · omega
  · cases e0
    exact ⟨g, rfl, h'.cellAt i (by omega), h1, h2⟩
theorem grown_refl (w : World) (row : Option Nat) : w.grownBy w row := ⟨rfl, rfl, rfl, Nat.le_refl _, fun _ _ _ => rfl⟩
theorem grown_trans {w w1 w2 : World} {row : Option Nat} (h1 : w.grownBy w1 row) (h2 : w1.grownBy w2 row) : w.grownBy w2 row :=
  ⟨h2.os.trans h1.os, h2.tape.trans h1.tape, h2.output.trans h1.output, Nat.le_trans h1.size h2.size, fun k hk hr => (h2.block k (Nat.lt_of_lt_of_le hk h1.size) hr).trans (h1.block k hk hr)⟩
theorem grown_set (w : World) (a : Addr) (u : Value) : w.grownBy (w.setCell a u) (some a.block) := by
  have hb : Below 0 w (w.setCell a u) := (Below.refl 0 w).setCell (Nat.zero_le _) u
  exact ⟨hb.os, hb.tape, hb.output, by simp [World.setCell], fun k _ hr => Below.heap_setCell w a u k (fun h => hr (by rw [h]))⟩
theorem FaultIs.fill {w w' : World} {g n : Nat} {v : Value} {k i : Int} {u : Value} (h : FaultIs w v k i u) (hr : RowAt w g n) (hg : w.grownBy w' (some g)) : FaultIs w' v k i u := by
  obtain ⟨b, rfl, hb⟩ := h
  obtain ⟨cur, hh, _⟩ := hr
  refine ⟨b, rfl, ?_⟩
  rw [hg.block b (lt_of_block hb) (fun e => by
    cases e
    rw [hb] at hh
    cases hh)]
  exact hb
theorem FaultIs.fill' {w w' : World} {base n c : Nat} {p : Option Addr} {l : List UInt8} {v : Value} {k i : Int} {u : Value} (h : FaultIs w v k i u) (ho : OwnB w base (.slice p n c) l) (hg : w.grownBy w' (Value.slice p n c).ownBlock) : FaultIs w' v k i u := by
  rcases ho.shape with ⟨_, e⟩ | ⟨g, cap, e, _⟩
  · cases e
    obtain ⟨b, rfl, hb⟩ := h
    exact ⟨b, rfl, (hg.block b (lt_of_block hb) (fun e => by cases e)).trans hb⟩
  · cases e
    exact h.fill ho.rowAt hg
theorem row_fill {w w' : World} {B n c k : Nat} {p : Option Addr} {e : TypeId} {size : Nat} {v : Value} {xs : List Value} (h : w.ownsRow B e size v k xs) (hB : ∀ g, (Value.slice p n c).ownBlock = some g → g < B) (hg : w.grownBy w' (Value.slice p n c).ownBlock) : w'.ownsRow B e size v k xs := by
  refine h.kept hg ?_
  cases hv : v.ownBlock with
  | none => exact .inl rfl
  | some b =>
    refine .inr fun e => ?_
    have h1 := (World.ownsRow.lt h b hv).1
    have h2 := hB b e.symm
    omega

/-- What stands while a loop writes into a call's own bytes. -/
def FillRel (w4 : World) (p : Option Addr) (n c : Nat) (wr : World) : Prop := w4.grownBy wr (Value.slice p n c).ownBlock ∧ (0 < n → ∃ g, p = some ⟨g, 0, none⟩ ∧ RowAt wr g n)
theorem FillRel.start {w : World} {base n c : Nat} {p : Option Addr} {l : List UInt8} (h : OwnB w base (.slice p n c) l) (hn : l.length = n) : FillRel w p n c w := by
  refine ⟨grown_refl _ _, fun h0 => ?_⟩
  subst hn
  rcases h.shape with ⟨e, _⟩ | ⟨g, cap, e, _⟩
  · subst e; simp at h0
  · cases e
    exact ⟨g, rfl, h.rowAt⟩
theorem FillRel.cell {w4 wr : World} {n c i : Nat} {p : Option Addr} (h : FillRel w4 p n c wr) (hi : i < n) :
    ∃ g, p = some ⟨g, 0, none⟩ ∧ (∃ u, wr.cell? ⟨g, i, none⟩ = some u) ∧ wr.frozen? ⟨g, i, none⟩ = false ∧ ∀ u, FillRel w4 p n c (wr.setCell ⟨g, i, none⟩ u) := by
  obtain ⟨hg, hr⟩ := h
  obtain ⟨g, rfl, hrow⟩ := hr (by omega)
  exact ⟨g, rfl, hrow.cell hi, hrow.frozen, fun u => ⟨grown_trans hg (grown_set wr ⟨g, i, none⟩ u), fun _ => ⟨g, rfl, hrow.store u⟩⟩⟩
end Go.Proofs.YtlnnimmiifdnnaaDoor
