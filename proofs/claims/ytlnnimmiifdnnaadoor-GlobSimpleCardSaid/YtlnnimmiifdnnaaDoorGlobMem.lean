/- Parts of patterns, characters, in memory. -/
import Derived.Test.YtlnnimmiifdnnaaDoorGlobPlain
import Derived.Test.YtlnnimmiifdnnaaDoorInts
import Derived.Test.YtlnnimmiifdnnaaDoorFill
import Derived.Laws.OwnMore
import Derived.Deep.OwnRows
namespace Go.Proofs.YtlnnimmiifdnnaaDoor
open Go.RowKit

theorem info_part : (Tryd.prog.info? 47).map (fun i => (i.zero, i.size, i.bytes)) = some (some (.agg #[.int .i64 0, .bool false, .bool false]), 3, 16) := by kernel_rfl

def partCells (p : GPart) : List Value := [.int .i64 (p.char : Int), .bool p.wild, .bool p.many]
def partsV (l : List GPart) : List Value := l.flatMap partCells
theorem partsV_len (l : List GPart) : (partsV l).length = l.length * 3 := by
  induction l with
  | nil => rfl
  | cons p l ih =>
    unfold partsV at ih ⊢
    rw [List.flatMap_cons, List.length_append, ih, List.length_cons]
    show 3 + _ = _
    omega
theorem partsV_app (a b : List GPart) : partsV (a ++ b) = partsV a ++ partsV b := by unfold partsV; exact List.flatMap_append
theorem partsV_at {l : List GPart} {i : Nat} {p : GPart} (h : l[i]? = some p) (j : Nat) (hj : j < 3) : (partsV l)[i * 3 + j]? = (partCells p)[j]? := by
  induction l generalizing i with
  | nil => simp at h
  | cons q l ih =>
    cases i with
    | zero =>
      simp at h; subst h
      show (partCells q ++ partsV l)[0 * 3 + j]? = _
      rw [List.getElem?_append_left (by show _ < 3; omega)]
      congr 1; omega
    | succ i =>
      simp at h
      show (partCells q ++ partsV l)[(i + 1) * 3 + j]? = _
      rw [List.getElem?_append_right (by show 3 ≤ _; omega), ← ih h]
      congr 1
      show (i + 1) * 3 + j - 3 = _
      omega
theorem partsV_one (p : GPart) : ∀ u ∈ partCells p, u.oneCell' = true := by
  intro u hu
  unfold partCells at hu
  simp at hu
  rcases hu with rfl | rfl | rfl <;> rfl

def OwnP (w : World) (base : Nat) (v : Value) (l : List GPart) : Prop := w.ownsRow base 47 3 v l.length (partsV l)

theorem OwnP.below {w w' : World} {base : Nat} {v : Value} {l : List GPart} (h : OwnP w base v l) (hb : Below w.heap.size w w') : OwnP w' base v l := ownsRow_below h hb
theorem OwnP.nil (w : World) (base : Nat) : OwnP w base (.slice none 0 0) [] := World.ownsRow_nil _ _ _ _
theorem OwnP.under {w0 w w' : World} {base : Nat} {v : Value} {l : List GPart} (h : OwnP w base v l) (hb : Below w0.heap.size w0 w) (hB : w0.heap.size ≤ base) (hg : w.grownBy w' v.ownBlock) : Below w0.heap.size w0 w' :=
  hb.grown hg hb.size (fun j hj => Nat.le_trans hB (World.ownsRow.lt h j hj).1)
theorem wpList_app_part {w : World} {ops : Array Oper} {rest : List Oper} {o : Oper} {a : Act} {Q : Exit → Act → World → Prop} (hgd : o.guard = none) (s x : Operand) (ho : o.op = .call { callee := .builtin .append, args := #[s, x], argTypes := #[39, 39] })
    (base : Nat) (v : Value) (l : List GPart) (hs : a.eval s = v) (hown : OwnP w base v l) (g c : Nat) (p : GPart) (hx : a.eval x = .slice (some ⟨g, 0, none⟩) 1 c) (hb : w.heap[g]? = some (.cells (partCells p).toArray 47 (0, 0)))
    (hl : l.length ≤ 1073741824) (hbase : base ≤ w.heap.size)
    (h : ∀ v' w', OwnP w' base v' (l ++ [p]) → w.grownBy w' v.ownBlock → wpList Tryd.prog ops Q rest (a.put o.dst v') w') : wpList Tryd.prog ops Q (o :: rest) a w := by
  obtain ⟨i, hi, hz, hsize, hby⟩ := info_parts info_part
  refine wpList_append_own _ hgd s x 39 ho base 47 i _ 3 16 Tryd.underlying39 hi hz hsize hby rfl (by decide) v _ _ hs hown _ 1 c (partCells p) hx rfl ?_ (partsV_one p) (by unfold maxLen; omega) (by omega) hbase ?_
  · intro j u hj
    rw [Addr.add_lit, Nat.zero_add, cell_of_row w g j _ _ _ hb, ← hj]
    simp
  · intro v' w' h1 h2 _
    refine h v' w' ?_ h2
    unfold OwnP
    rw [List.length_append, partsV_app]
    have : partsV [p] = partCells p := by unfold partsV; simp
    rw [this]
    exact h1

/-- A slice of parts. -/
def PartsSl (w : World) (a : Option Addr) (l : List GPart) : Prop := ∀ (i : Nat) (p : GPart), l[i]? = some p → ∃ b, a = some ⟨b, 0, none⟩ ∧ b < w.heap.size ∧
  w.cell? ⟨b, i * 3, none⟩ = some (.int .i64 (p.char : Int)) ∧ w.cell? ⟨b, i * 3 + 1, none⟩ = some (.bool p.wild) ∧ w.cell? ⟨b, i * 3 + 2, none⟩ = some (.bool p.many)
theorem PartsSl.below {w w' : World} {a : Option Addr} {l : List GPart} (h : PartsSl w a l) (hb : Below w.heap.size w w') : PartsSl w' a l := by
  intro i p hp
  obtain ⟨b, e, hlt, h1, h2, h3⟩ := h i p hp
  exact ⟨b, e, Nat.lt_of_lt_of_le hlt hb.size, (hb.cell (p := ⟨b, i * 3, none⟩) hlt).trans h1, (hb.cell (p := ⟨b, i * 3 + 1, none⟩) hlt).trans h2, (hb.cell (p := ⟨b, i * 3 + 2, none⟩) hlt).trans h3⟩
theorem PartsSl.ne {w : World} {a : Option Addr} {l : List GPart} {g n : Nat} {f : Nat → Bool} (h : PartsSl w a l) (hr : w.rowIs g 4 (n + 1) (fun i => .bool (f i))) : ∀ b, a = some ⟨b, 0, none⟩ → l ≠ [] → b ≠ g := by
  rintro b e hne rfl
  cases l with
  | nil => exact hne rfl
  | cons p l =>
    obtain ⟨b', e', _, h1, _, _⟩ := h 0 p rfl
    rw [e] at e'
    cases e'
    have := hr.cell (i := 0) (by omega)
    rw [show (0 : Nat) * 3 = 0 from rfl, this] at h1
    cases h1
theorem PartsSl.grown {w w' : World} {a : Option Addr} {l : List GPart} {g : Nat} (h : PartsSl w a l) (hg : w.grownBy w' (some g)) (hne : ∀ b, a = some ⟨b, 0, none⟩ → l ≠ [] → b ≠ g) : PartsSl w' a l := by
  intro i p hp
  obtain ⟨b, e, hlt, h1, h2, h3⟩ := h i p hp
  have hb : b ≠ g := hne b e (fun e => by rw [e] at hp; simp at hp)
  have hk := hg.block b hlt (fun e => hb (by injection e))
  exact ⟨b, e, Nat.lt_of_lt_of_le hlt hg.size, (World.cell?_of_block hk).trans h1, (World.cell?_of_block hk).trans h2, (World.cell?_of_block hk).trans h3⟩
/-- A slice of characters. -/
def CharsSl (w : World) (a : Option Addr) (l : List Nat) : Prop := ∀ (i c : Nat), l[i]? = some c → ∃ b, a = some ⟨b, 0, none⟩ ∧ b < w.heap.size ∧ w.cell? ⟨b, i, none⟩ = some (.int .i64 (c : Int))
theorem CharsSl.ne {w : World} {a : Option Addr} {l : List Nat} {g n : Nat} {f : Nat → Bool} (h : CharsSl w a l) (hr : w.rowIs g 4 (n + 1) (fun i => .bool (f i))) : ∀ b, a = some ⟨b, 0, none⟩ → l ≠ [] → b ≠ g := by
  rintro b e hne rfl
  cases l with
  | nil => exact hne rfl
  | cons p l =>
    obtain ⟨b', e', _, h1⟩ := h 0 p rfl
    rw [e] at e'
    cases e'
    have := hr.cell (i := 0) (by omega)
    rw [this] at h1
    cases h1
theorem CharsSl.grown {w w' : World} {a : Option Addr} {l : List Nat} {g : Nat} (h : CharsSl w a l) (hg : w.grownBy w' (some g)) (hne : ∀ b, a = some ⟨b, 0, none⟩ → l ≠ [] → b ≠ g) : CharsSl w' a l := by
  intro i p hp
  obtain ⟨b, e, hlt, h1⟩ := h i p hp
  have hb : b ≠ g := hne b e (fun e => by rw [e] at hp; simp at hp)
  have hk := hg.block b hlt (fun e => hb (by injection e))
  exact ⟨b, e, Nat.lt_of_lt_of_le hlt hg.size, (World.cell?_of_block hk).trans h1⟩
theorem OwnP.sl {w : World} {base n c : Nat} {a : Option Addr} {l : List GPart} (h : OwnP w base (.slice a n c) l) : n = l.length ∧ n ≤ c ∧ c ≤ maxLen ∧ PartsSl w a l := by
  unfold OwnP at h
  rcases h.2 with ⟨e0, e1⟩ | ⟨g, cap, cur, e0, hg, hh, h1, h2, _⟩
  · cases e0
    refine ⟨e1.symm, Nat.le_refl _, by unfold maxLen; omega, fun i p hp => ?_⟩
    have := (List.getElem?_eq_some_iff.1 hp).1
    omega
  · cases e0
    refine ⟨rfl, h1, h2, fun i p hp => ?_⟩
    have hc := h.cells (g := g) rfl
    have c0 := hc (i * 3 + 0) _ ((partsV_at hp 0 (by omega)).trans rfl)
    have c1 := hc (i * 3 + 1) _ ((partsV_at hp 1 (by omega)).trans rfl)
    have c2 := hc (i * 3 + 2) _ ((partsV_at hp 2 (by omega)).trans rfl)
    simp only [Addr.add_lit, Nat.zero_add, Nat.add_zero] at c0 c1 c2
    exact ⟨g, rfl, lt_of_block hh, c0, c1, c2⟩

theorem CharsSl.below {w w' : World} {a : Option Addr} {l : List Nat} (h : CharsSl w a l) (hb : Below w.heap.size w w') : CharsSl w' a l := by
  intro i p hp
  obtain ⟨b, e, hlt, h1⟩ := h i p hp
  exact ⟨b, e, Nat.lt_of_lt_of_le hlt hb.size, (hb.cell (p := ⟨b, i, none⟩) hlt).trans h1⟩
theorem chars_sl {w : World} {base n : Nat} {v : Value} {l : List Nat} (h : w.ownsRow base 3 1 v n (l.map intV)) (hn : n = l.length) : ∃ a c, v = .slice a l.length c ∧ l.length ≤ c ∧ c ≤ maxLen ∧ CharsSl w a l := by
  subst hn
  have h' := h
  rcases h.2 with ⟨e0, e1⟩ | ⟨g, cap, cur, e0, hg, hh, h1, h2, _⟩
  · refine ⟨none, 0, by rw [e0, e1], by omega, by unfold maxLen; omega, fun i c hc => ?_⟩
    have := (List.getElem?_eq_some_iff.1 hc).1
    omega
  · refine ⟨_, cap, e0, h1, h2, fun i c hc => ?_⟩
    have hlt := (List.getElem?_eq_some_iff.1 hc).1
    subst e0
    refine ⟨g, rfl, lt_of_block hh, ?_⟩
    rw [h'.cellAt i (by omega), List.getElem?_map, hc]; rfl
end Go.Proofs.YtlnnimmiifdnnaaDoor
