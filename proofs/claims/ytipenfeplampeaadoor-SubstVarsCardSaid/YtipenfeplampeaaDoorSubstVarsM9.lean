/- Plain: what is wrong with a variable. -/
import Derived.Test.YtipenfeplampeaaDoorSubstVarsM6
import Derived.Test.YtipenfeplampeaaDoorSubstVarsM8
import Derived.Test.YtipenfeplampeaaDoorSubstVarsM5
import Derived.Test.YtipenfeplampeaaDoorSubstVarsM1
import Derived.Test.YtipenfeplampeaaDoorSubstVarsM7
import Derived.Laws.OwnMore
import Derived.Deep.OwnRows

namespace Go.Proofs.YtipenfeplampeaaDoor
open Go.RowKit

/-- Whether one of some bytes stands in a text. -/
def markB (s m : ByteArray) : Bool := (List.range s.size).any fun i => hasB m (byteAt s i)
theorem markB_yes {s m : ByteArray} {i : Nat} (hi : i < s.size) (h : hasB m (byteAt s i) = true) : markB s m = true := by
  unfold markB; exact List.any_eq_true.2 ⟨i, List.mem_range.2 hi, h⟩
theorem markB_no {s m : ByteArray} (h : ∀ i, i < s.size → hasB m (byteAt s i) = false) : markB s m = false := by
  unfold markB; rw [List.any_eq_false]; intro i hi; rw [h i (List.mem_range.1 hi)]; decide
theorem mark_one (s : ByteArray) (c : UInt8) : markB s ⟨#[c]⟩ = hasB s c := by
  have h1 : ∀ b : UInt8, hasB ⟨#[c]⟩ b = (b == c) := fun b => by
    have : hasB ⟨#[c]⟩ b = (c == b) := by
      show ((List.range 1).any fun i => byteAt ⟨#[c]⟩ i == b) = _
      simp [List.range, List.range.loop, byteAt]
    rw [this, Bool.eq_iff_iff, beq_iff_eq, beq_iff_eq]
    exact ⟨Eq.symm, Eq.symm⟩
  unfold markB
  simp only [h1]
  rfl
theorem mark_three (s : ByteArray) (a b c : UInt8) : markB s ⟨#[a, b, c]⟩ = (hasB s a || (hasB s b || hasB s c)) := by
  have h1 : ∀ x : UInt8, hasB ⟨#[a, b, c]⟩ x = (x == a || (x == b || x == c)) := fun x => by
    have : hasB ⟨#[a, b, c]⟩ x = (a == x || (b == x || c == x)) := by
      show ((List.range 3).any fun i => byteAt ⟨#[a, b, c]⟩ i == x) = _
      simp [List.range, List.range.loop, byteAt]
    rw [this, Bool.eq_iff_iff]
    simp only [Bool.or_eq_true, beq_iff_eq]
    constructor
    · rintro (h | h | h)
      · exact .inl h.symm
      · exact .inr (.inl h.symm)
      · exact .inr (.inr h.symm)
    · rintro (h | h | h)
      · exact .inl h.symm
      · exact .inr (.inl h.symm)
      · exact .inr (.inr h.symm)
  unfold markB hasB
  rw [Bool.eq_iff_iff]
  simp only [Bool.or_eq_true, List.any_eq_true, List.mem_range]
  constructor
  · rintro ⟨i, hi, h⟩
    have h' : hasB ⟨#[a, b, c]⟩ (byteAt s i) = true := by unfold hasB; exact List.any_eq_true.2 (by simpa [List.mem_range] using h)
    rw [h1, Bool.or_eq_true, Bool.or_eq_true] at h'
    rcases h' with h | h | h
    · exact .inl ⟨i, hi, h⟩
    · exact .inr (.inl ⟨i, hi, h⟩)
    · exact .inr (.inr ⟨i, hi, h⟩)
  · intro h
    have hk : ∀ i, i < s.size → hasB ⟨#[a, b, c]⟩ (byteAt s i) = true → ∃ x, x < s.size ∧ ∃ y, y < (⟨#[a, b, c]⟩ : ByteArray).size ∧ (byteAt ⟨#[a, b, c]⟩ y == byteAt s x) = true := fun i hi h => by
      unfold hasB at h
      obtain ⟨y, hy, h2⟩ := List.any_eq_true.1 h
      exact ⟨i, hi, y, List.mem_range.1 hy, h2⟩
    rcases h with ⟨i, hi, h⟩ | ⟨i, hi, h⟩ | ⟨i, hi, h⟩
    · exact hk i hi (by rw [h1, h]; rfl)
    · exact hk i hi (by rw [h1, h]; simp)
    · exact hk i hi (by rw [h1, h]; simp)
/-- A name that is none. -/
def badN (name : ByteArray) : Bool := decide (name.size = 0) || (decide (64 < name.size) || ((ownC name).isSome || (markB name ⟨#[36, 40, 41]⟩ || (chrs name).2.isSome)))
/-- What is wrong with values, from the i-th on: the error's number, its place, from which one it came. -/
def cvL : List ByteArray → Nat → Nat × Nat × Nat
  | [], _ => (0, 0, 0)
  | v :: vs, i => if hasB v 36 = true then (11, i, 0) else if okP v = false then (11, i, (chkP v).1) else cvL vs (i + 1)
def cvP (name : ByteArray) (vals : List ByteArray) : Nat × Nat × Nat := if badN name = true then (30, 0, 0) else if 256 < vals.length then (15, 256, 0) else cvL vals 0
end Go.Proofs.YtipenfeplampeaaDoor

/- A loop that writes into a call's own bytes: nothing else turns. -/
namespace Go.Proofs.YtipenfeplampeaaDoor
open Go.RowKit

/-- Block g is a row of at least n bytes that may be written. -/
def RowAt (w : World) (g n : Nat) : Prop := ∃ cur, w.heap[g]? = some (.cells cur 5 (0, 0)) ∧ n ≤ cur.size
theorem RowAt.cell {w : World} {g n i : Nat} (h : RowAt w g n) (hi : i < n) : ∃ u, w.cell? ⟨g, i, none⟩ = some u := by
  obtain ⟨cur, hh, hn⟩ := h
  rw [World.cell?, hh]
  simp
  exact ⟨cur[i]'(by omega), by rw [Array.getElem?_eq_getElem (by omega)]⟩
theorem RowAt.frozen {w : World} {g n i : Nat} (h : RowAt w g n) : w.frozen? ⟨g, i, none⟩ = false := by
  obtain ⟨cur, hh, hn⟩ := h
  simp [World.frozen?, hh]
theorem RowAt.store {w : World} {g n i : Nat} (h : RowAt w g n) (u : Value) : RowAt (w.setCell ⟨g, i, none⟩ u) g n := by
  obtain ⟨cur, hh, hn⟩ := h
  refine ⟨cur.setIfInBounds i u, ?_, by simpa using hn⟩
  simp only [World.setCell, Array.getElem?_modify, hh]
  simp
theorem OwnB.rowAt {w : World} {base g cap : Nat} {l : List UInt8} (h : OwnB w base (.slice (some ⟨g, 0, none⟩) l.length cap) l) : RowAt w g l.length := by
  rcases h.2 with ⟨h0, _⟩ | ⟨g', cap', cur, h0, _, hh, h1, _, h2, _⟩
  · cases h0
  · cases h0
    exact ⟨cur, hh, by omega⟩
theorem row_cell {w : World} {base n c i : Nat} {e : TypeId} {p : Option Addr} {xs : List Value} (h : w.ownsRow base e 1 (.slice p n c) n xs) (hi : i < n) : ∃ g, p = some ⟨g, 0, none⟩ ∧ w.cell? ⟨g, i, none⟩ = xs[i]? ∧ n ≤ c ∧ c ≤ maxLen := by
  have h' := h
  rcases h.2 with ⟨e0, e1⟩ | ⟨g, cap, cur, e0, _, _, h1, h2, _⟩
  · omega
  · cases e0
    exact ⟨g, rfl, h'.cellAt i (by omega), h1, h2⟩
theorem grown_refl (w : World) (row : Option Nat) : w.grownBy w row := ⟨rfl, rfl, rfl, Nat.le_refl _, fun _ _ _ => rfl⟩
theorem grown_trans {w w1 w2 : World} {row : Option Nat} (h1 : w.grownBy w1 row) (h2 : w1.grownBy w2 row) : w.grownBy w2 row :=
  ⟨h2.os.trans h1.os, h2.tape.trans h1.tape, h2.output.trans h1.output, Nat.le_trans h1.size h2.size, fun k hk hr => (h2.block k (Nat.lt_of_lt_of_le hk h1.size) hr).trans (h1.block k hk hr)⟩
theorem grown_set (w : World) (a : Addr) (u : Value) : w.grownBy (w.setCell a u) (some a.block) := by
  have hb : Below 0 w (w.setCell a u) := (Below.refl 0 w).setCell (Nat.zero_le _) u
  exact ⟨hb.os, hb.tape, hb.output, by simp [World.setCell], fun k _ hr => Below.heap_setCell w a u k (fun h => hr (by rw [h]))⟩
theorem FaultIs.fill {w w' : World} {g n : Nat} {v : Value} {k i : Int} {u : Value} (h : FaultIs w v k i u) (hr : RowAt w g n) (hg : w.grownBy w' (some g)) : FaultIs w' v k i u := by
  obtain ⟨b, rfl, hb⟩ := h
  obtain ⟨cur, hh, _⟩ := hr
  refine ⟨b, rfl, ?_⟩
  rw [hg.block b (lt_of_block hb) (fun e => by
    cases e
    rw [hb] at hh
    cases hh)]
  exact hb
theorem FaultIs.fill' {w w' : World} {base n c : Nat} {p : Option Addr} {l : List UInt8} {v : Value} {k i : Int} {u : Value} (h : FaultIs w v k i u) (ho : OwnB w base (.slice p n c) l) (hg : w.grownBy w' (Value.slice p n c).ownBlock) : FaultIs w' v k i u := by
  rcases ho.shape with ⟨_, e⟩ | ⟨g, cap, e, _⟩
  · cases e
    obtain ⟨b, rfl, hb⟩ := h
    exact ⟨b, rfl, (hg.block b (lt_of_block hb) (fun e => by cases e)).trans hb⟩
  · cases e
    exact h.fill ho.rowAt hg
theorem row_fill {w w' : World} {B n c k : Nat} {p : Option Addr} {e : TypeId} {size : Nat} {v : Value} {xs : List Value} (h : w.ownsRow B e size v k xs) (hB : ∀ g, (Value.slice p n c).ownBlock = some g → g < B) (hg : w.grownBy w' (Value.slice p n c).ownBlock) : w'.ownsRow B e size v k xs := by
  refine h.kept hg ?_
  cases hv : v.ownBlock with
  | none => exact .inl rfl
  | some b =>
    refine .inr fun e => ?_
    have h1 := (World.ownsRow.lt h b hv).1
    have h2 := hB b e.symm
    omega

/-- What stands while a loop writes into a call's own bytes. -/
def FillRel (w4 : World) (p : Option Addr) (n c : Nat) (wr : World) : Prop := w4.grownBy wr (Value.slice p n c).ownBlock ∧ (0 < n → ∃ g, p = some ⟨g, 0, none⟩ ∧ RowAt wr g n)
theorem FillRel.start {w : World} {base n c : Nat} {p : Option Addr} {l : List UInt8} (h : OwnB w base (.slice p n c) l) (hn : l.length = n) : FillRel w p n c w := by
  refine ⟨grown_refl _ _, fun h0 => ?_⟩
  subst hn
  rcases h.shape with ⟨e, _⟩ | ⟨g, cap, e, _⟩
  · subst e; simp at h0
  · cases e
    exact ⟨g, rfl, h.rowAt⟩
theorem FillRel.cell {w4 wr : World} {n c i : Nat} {p : Option Addr} (h : FillRel w4 p n c wr) (hi : i < n) :
    ∃ g, p = some ⟨g, 0, none⟩ ∧ (∃ u, wr.cell? ⟨g, i, none⟩ = some u) ∧ wr.frozen? ⟨g, i, none⟩ = false ∧ ∀ u, FillRel w4 p n c (wr.setCell ⟨g, i, none⟩ u) := by
  obtain ⟨hg, hr⟩ := h
  obtain ⟨g, rfl, hrow⟩ := hr (by omega)
  exact ⟨g, rfl, hrow.cell hi, hrow.frozen, fun u => ⟨grown_trans hg (grown_set wr ⟨g, i, none⟩ u), fun _ => ⟨g, rfl, hrow.store u⟩⟩⟩
end Go.Proofs.YtipenfeplampeaaDoor

/- Parts of patterns, characters, in memory. -/
namespace Go.Proofs.YtipenfeplampeaaDoor
open Go.RowKit

theorem info_part : (Tryd.prog.info? 135).map (fun i => (i.zero, i.size, i.bytes)) = some (some (.agg #[.int .i64 0, .bool false, .bool false]), 3, 16) := by kernel_rfl

def partCells (p : GPart) : List Value := [.int .i64 (p.char : Int), .bool p.wild, .bool p.many]
def partsV (l : List GPart) : List Value := l.flatMap partCells
theorem partsV_len (l : List GPart) : (partsV l).length = l.length * 3 := by
  induction l with
  | nil => rfl
  | cons p l ih =>
    unfold partsV at ih ⊢
    rw [List.flatMap_cons, List.length_append, ih, List.length_cons]
    show 3 + _ = _
    omega
theorem partsV_app (a b : List GPart) : partsV (a ++ b) = partsV a ++ partsV b := by unfold partsV; exact List.flatMap_append
theorem partsV_at {l : List GPart} {i : Nat} {p : GPart} (h : l[i]? = some p) (j : Nat) (hj : j < 3) : (partsV l)[i * 3 + j]? = (partCells p)[j]? := by
  induction l generalizing i with
  | nil => simp at h
  | cons q l ih =>
    cases i with
    | zero =>
      simp at h; subst h
      show (partCells q ++ partsV l)[0 * 3 + j]? = _
      rw [List.getElem?_append_left (by show _ < 3; omega)]
      congr 1; omega
    | succ i =>
      simp at h
      show (partCells q ++ partsV l)[(i + 1) * 3 + j]? = _
      rw [List.getElem?_append_right (by show 3 ≤ _; omega), ← ih h]
      congr 1
      show (i + 1) * 3 + j - 3 = _
      omega
theorem partsV_one (p : GPart) : ∀ u ∈ partCells p, u.oneCell' = true := by
  intro u hu
  unfold partCells at hu
  simp at hu
  rcases hu with rfl | rfl | rfl <;> rfl

def OwnP (w : World) (base : Nat) (v : Value) (l : List GPart) : Prop := w.ownsRow base 135 3 v l.length (partsV l)

theorem OwnP.below {w w' : World} {base : Nat} {v : Value} {l : List GPart} (h : OwnP w base v l) (hb : Below w.heap.size w w') : OwnP w' base v l := ownsRow_below h hb
theorem OwnP.nil (w : World) (base : Nat) : OwnP w base (.slice none 0 0) [] := World.ownsRow_nil _ _ _ _
theorem OwnP.under {w0 w w' : World} {base : Nat} {v : Value} {l : List GPart} (h : OwnP w base v l) (hb : Below w0.heap.size w0 w) (hB : w0.heap.size ≤ base) (hg : w.grownBy w' v.ownBlock) : Below w0.heap.size w0 w' :=
  hb.grown hg hb.size (fun j hj => Nat.le_trans hB (World.ownsRow.lt h j hj).1)
theorem wpList_app_part {w : World} {ops : Array Oper} {rest : List Oper} {o : Oper} {a : Act} {Q : Exit → Act → World → Prop} (hgd : o.guard = none) (s x : Operand) (ho : o.op = .call { callee := .builtin .append, args := #[s, x], argTypes := #[106, 106] })
    (base : Nat) (v : Value) (l : List GPart) (hs : a.eval s = v) (hown : OwnP w base v l) (g c : Nat) (p : GPart) (hx : a.eval x = .slice (some ⟨g, 0, none⟩) 1 c) (hb : w.heap[g]? = some (.cells (partCells p).toArray 135 (0, 0)))
    (hl : l.length ≤ 1073741824) (hbase : base ≤ w.heap.size)
    (h : ∀ v' w', OwnP w' base v' (l ++ [p]) → w.grownBy w' v.ownBlock → wpList Tryd.prog ops Q rest (a.put o.dst v') w') : wpList Tryd.prog ops Q (o :: rest) a w := by
  obtain ⟨i, hi, hz, hsize, hby⟩ := info_parts info_part
  refine wpList_append_own _ hgd s x 106 ho base 135 i _ 3 16 Tryd.underlying106 hi hz hsize hby rfl (by decide) v _ _ hs hown _ 1 c (partCells p) hx rfl ?_ (partsV_one p) (by unfold maxLen; omega) (by omega) hbase ?_
  · intro j u hj
    rw [Addr.add_lit, Nat.zero_add, cell_of_row w g j _ _ _ hb, ← hj]
    simp
  · intro v' w' h1 h2 _
    refine h v' w' ?_ h2
    unfold OwnP
    rw [List.length_append, partsV_app]
    have : partsV [p] = partCells p := by unfold partsV; simp
    rw [this]
    exact h1

/-- A slice of parts. -/
def PartsSl (w : World) (a : Option Addr) (l : List GPart) : Prop := ∀ (i : Nat) (p : GPart), l[i]? = some p → ∃ b, a = some ⟨b, 0, none⟩ ∧ b < w.heap.size ∧
  w.cell? ⟨b, i * 3, none⟩ = some (.int .i64 (p.char : Int)) ∧ w.cell? ⟨b, i * 3 + 1, none⟩ = some (.bool p.wild) ∧ w.cell? ⟨b, i * 3 + 2, none⟩ = some (.bool p.many)
theorem PartsSl.below {w w' : World} {a : Option Addr} {l : List GPart} (h : PartsSl w a l) (hb : Below w.heap.size w w') : PartsSl w' a l := by
  intro i p hp
  obtain ⟨b, e, hlt, h1, h2, h3⟩ := h i p hp
  exact ⟨b, e, Nat.lt_of_lt_of_le hlt hb.size, (hb.cell (p := ⟨b, i * 3, none⟩) hlt).trans h1, (hb.cell (p := ⟨b, i * 3 + 1, none⟩) hlt).trans h2, (hb.cell (p := ⟨b, i * 3 + 2, none⟩) hlt).trans h3⟩
theorem PartsSl.ne {w : World} {a : Option Addr} {l : List GPart} {g n : Nat} {f : Nat → Bool} (h : PartsSl w a l) (hr : w.rowIs g 4 (n + 1) (fun i => .bool (f i))) : ∀ b, a = some ⟨b, 0, none⟩ → l ≠ [] → b ≠ g := by
  rintro b e hne rfl
  cases l with
  | nil => exact hne rfl
  | cons p l =>
    obtain ⟨b', e', _, h1, _, _⟩ := h 0 p rfl
    rw [e] at e'
    cases e'
    have := hr.cell (i := 0) (by omega)
    rw [show (0 : Nat) * 3 = 0 from rfl, this] at h1
    cases h1
theorem PartsSl.grown {w w' : World} {a : Option Addr} {l : List GPart} {g : Nat} (h : PartsSl w a l) (hg : w.grownBy w' (some g)) (hne : ∀ b, a = some ⟨b, 0, none⟩ → l ≠ [] → b ≠ g) : PartsSl w' a l := by
  intro i p hp
  obtain ⟨b, e, hlt, h1, h2, h3⟩ := h i p hp
  have hb : b ≠ g := hne b e (fun e => by rw [e] at hp; simp at hp)
  have hk := hg.block b hlt (fun e => hb (by injection e))
  exact ⟨b, e, Nat.lt_of_lt_of_le hlt hg.size, (World.cell?_of_block hk).trans h1, (World.cell?_of_block hk).trans h2, (World.cell?_of_block hk).trans h3⟩
/-- A slice of characters. -/
def CharsSl (w : World) (a : Option Addr) (l : List Nat) : Prop := ∀ (i c : Nat), l[i]? = some c → ∃ b, a = some ⟨b, 0, none⟩ ∧ b < w.heap.size ∧ w.cell? ⟨b, i, none⟩ = some (.int .i64 (c : Int))
theorem CharsSl.ne {w : World} {a : Option Addr} {l : List Nat} {g n : Nat} {f : Nat → Bool} (h : CharsSl w a l) (hr : w.rowIs g 4 (n + 1) (fun i => .bool (f i))) : ∀ b, a = some ⟨b, 0, none⟩ → l ≠ [] → b ≠ g := by
  rintro b e hne rfl
  cases l with
  | nil => exact hne rfl
  | cons p l =>
    obtain ⟨b', e', _, h1⟩ := h 0 p rfl
    rw [e] at e'
    cases e'
    have := hr.cell (i := 0) (by omega)
    rw [this] at h1
    cases h1
theorem CharsSl.grown {w w' : World} {a : Option Addr} {l : List Nat} {g : Nat} (h : CharsSl w a l) (hg : w.grownBy w' (some g)) (hne : ∀ b, a = some ⟨b, 0, none⟩ → l ≠ [] → b ≠ g) : CharsSl w' a l := by
  intro i p hp
  obtain ⟨b, e, hlt, h1⟩ := h i p hp
  have hb : b ≠ g := hne b e (fun e => by rw [e] at hp; simp at hp)
  have hk := hg.block b hlt (fun e => hb (by injection e))
  exact ⟨b, e, Nat.lt_of_lt_of_le hlt hg.size, (World.cell?_of_block hk).trans h1⟩
theorem OwnP.sl {w : World} {base n c : Nat} {a : Option Addr} {l : List GPart} (h : OwnP w base (.slice a n c) l) : n = l.length ∧ n ≤ c ∧ c ≤ maxLen ∧ PartsSl w a l := by
  unfold OwnP at h
  rcases h.2 with ⟨e0, e1⟩ | ⟨g, cap, cur, e0, hg, hh, h1, h2, _⟩
  · cases e0
    refine ⟨e1.symm, Nat.le_refl _, by unfold maxLen; omega, fun i p hp => ?_⟩
    have := (List.getElem?_eq_some_iff.1 hp).1
    omega
  · cases e0
    refine ⟨rfl, h1, h2, fun i p hp => ?_⟩
    have hc := h.cells (g := g) rfl
    have c0 := hc (i * 3 + 0) _ ((partsV_at hp 0 (by omega)).trans rfl)
    have c1 := hc (i * 3 + 1) _ ((partsV_at hp 1 (by omega)).trans rfl)
    have c2 := hc (i * 3 + 2) _ ((partsV_at hp 2 (by omega)).trans rfl)
    simp only [Addr.add_lit, Nat.zero_add, Nat.add_zero] at c0 c1 c2
    exact ⟨g, rfl, lt_of_block hh, c0, c1, c2⟩

theorem CharsSl.below {w w' : World} {a : Option Addr} {l : List Nat} (h : CharsSl w a l) (hb : Below w.heap.size w w') : CharsSl w' a l := by
  intro i p hp
  obtain ⟨b, e, hlt, h1⟩ := h i p hp
  exact ⟨b, e, Nat.lt_of_lt_of_le hlt hb.size, (hb.cell (p := ⟨b, i, none⟩) hlt).trans h1⟩
theorem chars_sl {w : World} {base n : Nat} {v : Value} {l : List Nat} (h : w.ownsRow base 3 1 v n (l.map intV)) (hn : n = l.length) : ∃ a c, v = .slice a l.length c ∧ l.length ≤ c ∧ c ≤ maxLen ∧ CharsSl w a l := by
  subst hn
  have h' := h
  rcases h.2 with ⟨e0, e1⟩ | ⟨g, cap, cur, e0, hg, hh, h1, h2, _⟩
  · refine ⟨none, 0, by rw [e0, e1], by omega, by unfold maxLen; omega, fun i c hc => ?_⟩
    have := (List.getElem?_eq_some_iff.1 hc).1
    omega
  · refine ⟨_, cap, e0, h1, h2, fun i c hc => ?_⟩
    have hlt := (List.getElem?_eq_some_iff.1 hc).1
    subst e0
    refine ⟨g, rfl, lt_of_block hh, ?_⟩
    rw [h'.cellAt i (by omega), List.getElem?_map, hc]; rfl
end Go.Proofs.YtipenfeplampeaaDoor

/- glob.skip. -/
namespace Go.Proofs.YtipenfeplampeaaDoor
open Go.RowKit

def boolsF (f : Nat → Bool) : Nat → Value := fun i => .bool (f i)
theorem rowIs_far {w w' : World} {b n : Nat} {t : TypeId} {f : Nat → Value} {row : Option Nat} (h : w.rowIs b t n f) (hg : w.grownBy w' row) (hr : some b ≠ row) : w'.rowIs b t n f :=
  h.of_block (hg.block b h.lt hr)
theorem only_alloc {a w : World} {row : Option Nat} (h : a.grownBy w row) (o : Obj) : a.grownBy (w.alloc o) row :=
  ⟨h.os, h.tape, h.output, Nat.le_trans h.size (by simp), fun i hi hne => (Below.heap_alloc w o i (Nat.lt_of_lt_of_le hi h.size)).trans (h.block i hi hne)⟩
theorem only_setCell {a w : World} {g : Nat} (h : a.grownBy w (some g)) {p : Addr} (hp : p.block = g ∨ a.heap.size ≤ p.block) (u : Value) : a.grownBy (w.setCell p u) (some g) :=
  ⟨h.os, h.tape, h.output, by simpa [World.setCell] using h.size, fun i hi hne => (Below.heap_setCell w p u i (by
    rintro rfl
    rcases hp with hp | hp
    · exact hne (by rw [hp])
    · omega)).trans (h.block i hi hne)⟩

theorem skip_row {w : World} {g n i : Nat} {t : TypeId} {ps : List GPart} {f0 : Nat → Bool} {v : Bool} (h : w.rowIs g t n (fun j => if j = i + 1 then .bool v else boolsF (fun m => if m ≤ i then skipF ps f0 m else f0 m) j)) (hv : skipF ps f0 (i + 1) = v) :
    w.rowIs g t n (boolsF fun m => if m ≤ i + 1 then skipF ps f0 m else f0 m) := by
  refine h.congr fun j _ => ?_
  by_cases hj : j = i + 1
  · subst hj
    rw [if_pos rfl]
    show _ = Value.bool (if i + 1 ≤ i + 1 then _ else _)
    rw [if_pos (Nat.le_refl _), hv]
  · rw [if_neg hj]
    show Value.bool (if j ≤ i then _ else _) = Value.bool (if j ≤ i + 1 then _ else _)
    by_cases h2 : j ≤ i
    · rw [if_pos h2, if_pos (by omega)]
    · rw [if_neg h2, if_neg (by omega)]

set_option maxHeartbeats 3200000 in
theorem glob_skip (a : Option Addr) (n cap : Nat) (ps : List GPart) (g c2 : Nat) (f0 : Nat → Bool) (w : World) (hn : ps.length = n) (hn2 : n ≤ 16777216) (hsl : PartsSl w a ps) (hrow : w.rowIs g 4 (n + 1) (boolsF f0)) :
    Calls Tryd.prog 62 #[.slice a n cap, .slice (some ⟨g, 0, none⟩) (n + 1) c2] w fun e w' => e = .returned (.tuple #[]) ∧ w'.rowIs g 4 (n + 1) (boolsF (skipF ps f0)) ∧ w.grownBy w' (some g) := by
  have hne := hsl.ne hrow
  have hgw := hrow.lt
  have HNE := Lib.hid hne
  have HN := Lib.hid hn
  clear hne hn
  go_enter Tryd.func62, Tryd.ntmps62
  go_wp2_with fail
  go_loopw [8] (fun x wr => ∃ i : Nat, i ≤ n ∧ x = .int .i64 i ∧ wr.rowIs g 4 (n + 1) (boolsF fun m => if m ≤ i then skipF ps f0 m else f0 m) ∧ w.grownBy wr (some g)) (fun x _ => n - (intOf x).toNat)
  case atStart => exact ⟨0, Nat.zero_le _, rfl, hrow.congr (fun i _ => by
    unfold boolsF
    by_cases h : i ≤ 0
    · obtain rfl : i = 0 := by omega
      rfl
    · show Value.bool (f0 i) = Value.bool (if i ≤ 0 then _ else _)
      rw [if_neg h]), grown_refl _ _⟩
  case round =>
    obtain ⟨i, hil, rfl, hr, hg⟩ := hrel
    by_cases hlt : i < n
    · obtain ⟨p, hp⟩ : ∃ p, ps[i]? = some p := ⟨_, List.getElem?_eq_getElem (by rw [HN.out]; exact hlt)⟩
      obtain ⟨b, rfl, hbw, h1, h2, h3⟩ := (hsl.grown hg HNE.out) i p hp
      have hbg : b ≠ g := HNE.out b rfl (fun e => by rw [e] at hp; simp at hp)
      have hma := manyAt_of hp
      have hsk := skipF_succ ps f0 i
      have c0 := hr.cell (i := i) (by omega)
      have c1 := hr.cell (i := i + 1) (by omega)
      have hset := fun o u => (hr.set (i + 1) u).alloc o
      have hfz := hr.frozen (i + 1)
      have e0 : boolsF (fun m => if m ≤ i then skipF ps f0 m else f0 m) i = .bool (skipF ps f0 i) := by unfold boolsF; simp
      have e1 : boolsF (fun m => if m ≤ i then skipF ps f0 m else f0 m) (i + 1) = .bool (f0 (i + 1)) := by
        show Value.bool (if i + 1 ≤ i then _ else _) = _
        rw [if_neg (by omega)]
      rw [e0] at c0
      rw [e1] at c1
      rw [← hma] at h3
      generalize skipF ps f0 i = y at *
      generalize f0 (i + 1) = x at *
      generalize manyAt ps i = m at *
      have HSET := Lib.hid hset
      have HSK := Lib.hid hsk
      have HP := Lib.hid hp
      clear hset hsk hp e0 e1 hma HN hrow
      have hgr := fun o u => only_alloc (only_setCell hg (p := ⟨g, i + 1, none⟩) (.inl rfl) u) o
      have hglt := hr.lt
      have HGR := Lib.hid hgr
      clear hgr hr hg
      cases x <;> cases y <;> cases m
      all_goals
        go_wp2_with fail
        go_roundw
        case rel => exact ⟨i + 1, by omega, by go_num, skip_row (HSET.out _ _) HSK.out, HGR.out _ _⟩
        case measure => simp [intOf]; omega
    · obtain rfl : i = n := by omega
      go_wp2_with fail
      go_end0
      exact ⟨rfl, hr.congr (fun j hj => by
        show Value.bool (if j ≤ i then _ else _) = _
        rw [if_pos (by omega)]; rfl), hg⟩
end Go.Proofs.YtipenfeplampeaaDoor

/- glob.part.stands; the reference's same. -/
namespace Go.Proofs.YtipenfeplampeaaDoor
open Go.RowKit

theorem stands_two (ch c : Nat) (m f : Bool) : standsB ⟨ch, false, m⟩ c f = (decide (ch = c) || (f && decide (smallC ch = smallC c))) := rfl

set_option maxHeartbeats 800000 in
theorem glob_stands (ch c : Nat) (wild many f : Bool) (hch : ch ≤ 1114111) (hc : c ≤ 1114111) (w : World) :
    Calls Tryd.prog 63 #[.agg #[.int .i64 (ch : Int), .bool wild, .bool many], .int .i64 (c : Int), .bool f] w fun e w' => e = .returned (.bool (standsB ⟨ch, wild, many⟩ c f)) ∧ Below w.heap.size w w' := by
  cases wild with
  | true =>
    have hv := Lib.hid (stands_wild ch many f c)
    go_enter Tryd.func63, Tryd.ntmps63
    go_wp2_with fail
    go_ret
    exact ⟨rfl, (Below.refl _ _).alloc (Nat.le_refl _) _⟩
  | false =>
    by_cases hcc : ch = c
    · have hv := Lib.hid (show standsB ⟨ch, false, many⟩ c f = true by rw [stands_two, decide_eq_true hcc]; rfl)
      have e1 : ((ch : Int) == (c : Int)) = true := by rw [beq_iff_eq]; omega
      clear hcc
      go_enter Tryd.func63, Tryd.ntmps63
      go_wp2_with fail
      go_ret
      exact ⟨ret_bool hv.out.symm, (Below.refl _ _).alloc (Nat.le_refl _) _⟩
    · have e1 : ((ch : Int) == (c : Int)) = false := by rw [beq_eq_false_iff_ne]; omega
      cases f with
      | false =>
        have hv := Lib.hid (show standsB ⟨ch, false, many⟩ c false = false by rw [stands_two, decide_eq_false hcc]; rfl)
        clear hcc
        go_enter Tryd.func63, Tryd.ntmps63
        go_wp2_with fail
        go_ret
        exact ⟨ret_bool hv.out.symm, (Below.refl _ _).alloc (Nat.le_refl _) _⟩
      | true =>
        have hv := Lib.hid (show standsB ⟨ch, false, many⟩ c true = decide (smallC ch = smallC c) by rw [stands_two, decide_eq_false hcc]; simp)
        clear hcc
        have HC := Lib.hid (fun (x : Nat) (hx : x ≤ 1114111) W => glob_small x hx W)
        generalize hx : smallC ch = x at *
        generalize hy : smallC c = y at *
        have HX := Lib.hid hx
        have HY := Lib.hid hy
        clear hx hy
        go_enter Tryd.func63, Tryd.ntmps63
        go_wp2_with fail
        refine (HC.out ch hch _).mono ?_
        rintro e w1 ⟨rfl, rfl⟩
        rw [HX.out]
        go_wp2_with fail
        refine (HC.out c hc _).mono ?_
        rintro e w1 ⟨rfl, rfl⟩
        rw [HY.out]
        by_cases hxy : x = y
        · have e3 : ((x : Int) == (y : Int)) = true := by rw [beq_iff_eq]; omega
          have hd := Lib.hid (show decide (x = y) = true from decide_eq_true hxy)
          clear hxy
          go_wp2_with fail
          go_ret
          exact ⟨ret_bool (by rw [hv.out, hd.out]), (Below.refl _ _).alloc (Nat.le_refl _) _⟩
        · have e3 : ((x : Int) == (y : Int)) = false := by rw [beq_eq_false_iff_ne]; omega
          have hd := Lib.hid (show decide (x = y) = false from decide_eq_false hxy)
          clear hxy
          go_wp2_with fail
          go_ret
          exact ⟨ret_bool (by rw [hv.out, hd.out]), (Below.refl _ _).alloc (Nat.le_refl _) _⟩

theorem small_byte (a b : Nat) (ha : a ≤ 127) (hb : b ≤ 127) : (((smallN a : Nat) : Int) == ((smallN b : Nat) : Int)) = (decide (a = b) || decide (smallC a = smallC b)) := by
  rw [Bool.eq_iff_iff, Bool.or_eq_true, decide_eq_true_iff, decide_eq_true_iff, beq_iff_eq, Int.ofNat_inj]
  exact ⟨fun h => .inr h, fun h => h.elim (fun e => by rw [e]) fun h => h⟩
theorem small_great (a b : Nat) (h : 127 < a ∨ 127 < b) : decide (a = b) = (decide (a = b) || decide (smallC a = smallC b)) := by
  rw [Bool.eq_iff_iff]
  unfold smallC
  simp only [Bool.or_eq_true, decide_eq_true_eq]
  split <;> split <;> omega
theorem nat_eqB (a b : Nat) : ((a : Int) == (b : Int)) = decide (a = b) := by
  rw [Bool.eq_iff_iff, beq_iff_eq, decide_eq_true_iff]; omega
theorem wrap_u8 (a : Nat) (h : a ≤ 127) : IntKind.u8.wrap (a : Int) = (a : Int) := by
  unfold IntKind.wrap; simp [IntKind.signed, IntKind.bits]; omega

/-- Are two characters the same, but, if so asked, for great and small letters? -/
def sameC (a b : Nat) (f : Bool) : Bool := decide (a = b) || (f && decide (smallC a = smallC b))
set_option maxHeartbeats 800000 in
theorem ref_same (a b : Nat) (f : Bool) (ha : a ≤ 1114111) (hb : b ≤ 1114111) (w : World) :
    Calls Tryd.prog 26 #[.int .i64 (a : Int), .int .i64 (b : Int), .bool f] w fun e w' => e = .returned (.bool (sameC a b f)) ∧ w = w' := by
  have hq := nat_eqB a b
  cases f with
  | false =>
    have hv := Lib.hid (show sameC a b false = decide (a = b) by unfold sameC; simp)
    have HQ := Lib.hid hq
    clear hq
    go_enter Tryd.func26, Tryd.ntmps26
    go_wp2_with fail
    go_ret
    exact ⟨ret_bool (by rw [hv.out]; exact HQ.out), rfl⟩
  | true =>
    by_cases h1 : a ≤ 127
    · by_cases h2 : b ≤ 127
      · have hv := Lib.hid (show sameC a b true = (((smallN a : Nat) : Int) == ((smallN b : Nat) : Int)) by unfold sameC; rw [small_byte a b h1 h2, Bool.true_and])
        have w1 := wrap_u8 a h1
        have w2 := wrap_u8 b h2
        have W1 := Lib.hid w1
        have W2 := Lib.hid w2
        clear hq w1 w2
        go_enter Tryd.func26, Tryd.ntmps26
        go_wp2_with fail
        refine (ref_Small a (by omega) _).mono ?_
        rintro e w1 ⟨rfl, rfl⟩
        go_wp2_with fail
        refine (ref_Small b (by omega) _).mono ?_
        rintro e w1 ⟨rfl, rfl⟩
        generalize smallN a = x at *
        generalize smallN b = y at *
        go_wp2_with fail
        go_ret
        exact ⟨ret_bool hv.out.symm, rfl⟩
      · have hv := Lib.hid (show sameC a b true = decide (a = b) by unfold sameC; rw [Bool.true_and, ← small_great a b (by omega)])
        have HQ := Lib.hid hq
        clear hq
        have h2' : 127 < b := by omega
        clear h2
        go_enter Tryd.func26, Tryd.ntmps26
        go_wp2_with fail
        go_ret
        exact ⟨ret_bool (by rw [hv.out]; exact HQ.out), rfl⟩
    · have hv := Lib.hid (show sameC a b true = decide (a = b) by unfold sameC; rw [Bool.true_and, ← small_great a b (by omega)])
      have HQ := Lib.hid hq
      clear hq
      have h1' : 127 < a := by omega
      clear h1
      go_enter Tryd.func26, Tryd.ntmps26
      go_wp2_with fail
      go_ret
      exact ⟨ret_bool (by rw [hv.out]; exact HQ.out), rfl⟩
end Go.Proofs.YtipenfeplampeaaDoor
