/- Parts of patterns, characters, in memory. -/
import Derived.Test.YtakcfgmibijdnaaGreatDoorQueryWritesM10
import Derived.Test.YtakcfgmibijdnaaGreatDoorQueryWritesM13
import Derived.Laws.OwnMore
import Derived.Deep.OwnRows
import Derived.Test.YtakcfgmibijdnaaGreatDoorQueryWritesM11
import Derived.Test.YtakcfgmibijdnaaGreatDoorQueryWritesM12

namespace Go.Proofs.YtakcfgmibijdnaaGreatDoor
open Go.RowKit

theorem info_part : (Tryz.prog.info? 190).map (fun i => (i.zero, i.size, i.bytes)) = some (some (.agg #[.int .i64 0, .bool false, .bool false]), 3, 16) := by kernel_rfl

def partCells (p : GPart) : List Value := [.int .i64 (p.char : Int), .bool p.wild, .bool p.many]
def partsV (l : List GPart) : List Value := l.flatMap partCells
theorem partsV_len (l : List GPart) : (partsV l).length = l.length * 3 := by
  induction l with
  | nil => rfl
  | cons p l ih =>
    unfold partsV at ih ⊢
    rw [List.flatMap_cons, List.length_append, ih, List.length_cons]
    show 3 + _ = _
    omega
theorem partsV_app (a b : List GPart) : partsV (a ++ b) = partsV a ++ partsV b := by unfold partsV; exact List.flatMap_append
theorem partsV_at {l : List GPart} {i : Nat} {p : GPart} (h : l[i]? = some p) (j : Nat) (hj : j < 3) : (partsV l)[i * 3 + j]? = (partCells p)[j]? := by
  induction l generalizing i with
  | nil => simp at h
  | cons q l ih =>
    cases i with
    | zero =>
      simp at h; subst h
      show (partCells q ++ partsV l)[0 * 3 + j]? = _
      rw [List.getElem?_append_left (by show _ < 3; omega)]
      congr 1; omega
    | succ i =>
      simp at h
      show (partCells q ++ partsV l)[(i + 1) * 3 + j]? = _
      rw [List.getElem?_append_right (by show 3 ≤ _; omega), ← ih h]
      congr 1
      show (i + 1) * 3 + j - 3 = _
      omega
theorem partsV_one (p : GPart) : ∀ u ∈ partCells p, u.oneCell' = true := by
  intro u hu
  unfold partCells at hu
  simp at hu
  rcases hu with rfl | rfl | rfl <;> rfl

def OwnP (w : World) (base : Nat) (v : Value) (l : List GPart) : Prop := w.ownsRow base 190 3 v l.length (partsV l)

theorem OwnP.below {w w' : World} {base : Nat} {v : Value} {l : List GPart} (h : OwnP w base v l) (hb : Below w.heap.size w w') : OwnP w' base v l := ownsRow_below h hb
theorem OwnP.nil (w : World) (base : Nat) : OwnP w base (.slice none 0 0) [] := World.ownsRow_nil _ _ _ _
theorem OwnP.under {w0 w w' : World} {base : Nat} {v : Value} {l : List GPart} (h : OwnP w base v l) (hb : Below w0.heap.size w0 w) (hB : w0.heap.size ≤ base) (hg : w.grownBy w' v.ownBlock) : Below w0.heap.size w0 w' :=
  hb.grown hg hb.size (fun j hj => Nat.le_trans hB (World.ownsRow.lt h j hj).1)
theorem wpList_app_part {w : World} {ops : Array Oper} {rest : List Oper} {o : Oper} {a : Act} {Q : Exit → Act → World → Prop} (hgd : o.guard = none) (s x : Operand) (ho : o.op = .call { callee := .builtin .append, args := #[s, x], argTypes := #[138, 138] })
    (base : Nat) (v : Value) (l : List GPart) (hs : a.eval s = v) (hown : OwnP w base v l) (g c : Nat) (p : GPart) (hx : a.eval x = .slice (some ⟨g, 0, none⟩) 1 c) (hb : w.heap[g]? = some (.cells (partCells p).toArray 190 (0, 0)))
    (hl : l.length ≤ 1073741824) (hbase : base ≤ w.heap.size)
    (h : ∀ v' w', OwnP w' base v' (l ++ [p]) → w.grownBy w' v.ownBlock → wpList Tryz.prog ops Q rest (a.put o.dst v') w') : wpList Tryz.prog ops Q (o :: rest) a w := by
  obtain ⟨i, hi, hz, hsize, hby⟩ := info_parts info_part
  refine wpList_append_own _ hgd s x 138 ho base 190 i _ 3 16 Tryz.underlying138 hi hz hsize hby rfl (by decide) v _ _ hs hown _ 1 c (partCells p) hx rfl ?_ (partsV_one p) (by unfold maxLen; omega) (by omega) hbase ?_
  · intro j u hj
    rw [Addr.add_lit, Nat.zero_add, cell_of_row w g j _ _ _ hb, ← hj]
    simp
  · intro v' w' h1 h2 _
    refine h v' w' ?_ h2
    unfold OwnP
    rw [List.length_append, partsV_app]
    have : partsV [p] = partCells p := by unfold partsV; simp
    rw [this]
    exact h1

/-- A slice of parts. -/
def PartsSl (w : World) (a : Option Addr) (l : List GPart) : Prop := ∀ (i : Nat) (p : GPart), l[i]? = some p → ∃ b, a = some ⟨b, 0, none⟩ ∧ b < w.heap.size ∧
  w.cell? ⟨b, i * 3, none⟩ = some (.int .i64 (p.char : Int)) ∧ w.cell? ⟨b, i * 3 + 1, none⟩ = some (.bool p.wild) ∧ w.cell? ⟨b, i * 3 + 2, none⟩ = some (.bool p.many)
theorem PartsSl.below {w w' : World} {a : Option Addr} {l : List GPart} (h : PartsSl w a l) (hb : Below w.heap.size w w') : PartsSl w' a l := by
  intro i p hp
  obtain ⟨b, e, hlt, h1, h2, h3⟩ := h i p hp
  exact ⟨b, e, Nat.lt_of_lt_of_le hlt hb.size, (hb.cell (p := ⟨b, i * 3, none⟩) hlt).trans h1, (hb.cell (p := ⟨b, i * 3 + 1, none⟩) hlt).trans h2, (hb.cell (p := ⟨b, i * 3 + 2, none⟩) hlt).trans h3⟩
theorem PartsSl.ne {w : World} {a : Option Addr} {l : List GPart} {g n : Nat} {f : Nat → Bool} (h : PartsSl w a l) (hr : w.rowIs g 4 (n + 1) (fun i => .bool (f i))) : ∀ b, a = some ⟨b, 0, none⟩ → l ≠ [] → b ≠ g := by
  rintro b e hne rfl
  cases l with
  | nil => exact hne rfl
  | cons p l =>
    obtain ⟨b', e', _, h1, _, _⟩ := h 0 p rfl
    rw [e] at e'
    cases e'
    have := hr.cell (i := 0) (by omega)
    rw [show (0 : Nat) * 3 = 0 from rfl, this] at h1
    cases h1
theorem PartsSl.grown {w w' : World} {a : Option Addr} {l : List GPart} {g : Nat} (h : PartsSl w a l) (hg : w.grownBy w' (some g)) (hne : ∀ b, a = some ⟨b, 0, none⟩ → l ≠ [] → b ≠ g) : PartsSl w' a l := by
  intro i p hp
  obtain ⟨b, e, hlt, h1, h2, h3⟩ := h i p hp
  have hb : b ≠ g := hne b e (fun e => by rw [e] at hp; simp at hp)
  have hk := hg.block b hlt (fun e => hb (by injection e))
  exact ⟨b, e, Nat.lt_of_lt_of_le hlt hg.size, (World.cell?_of_block hk).trans h1, (World.cell?_of_block hk).trans h2, (World.cell?_of_block hk).trans h3⟩
/-- A slice of characters. -/
def CharsSl (w : World) (a : Option Addr) (l : List Nat) : Prop := ∀ (i c : Nat), l[i]? = some c → ∃ b, a = some ⟨b, 0, none⟩ ∧ b < w.heap.size ∧ w.cell? ⟨b, i, none⟩ = some (.int .i64 (c : Int))
theorem CharsSl.ne {w : World} {a : Option Addr} {l : List Nat} {g n : Nat} {f : Nat → Bool} (h : CharsSl w a l) (hr : w.rowIs g 4 (n + 1) (fun i => .bool (f i))) : ∀ b, a = some ⟨b, 0, none⟩ → l ≠ [] → b ≠ g := by
  rintro b e hne rfl
  cases l with
  | nil => exact hne rfl
  | cons p l =>
    obtain ⟨b', e', _, h1⟩ := h 0 p rfl
    rw [e] at e'
    cases e'
    have := hr.cell (i := 0) (by omega)
    rw [this] at h1
    cases h1
theorem CharsSl.grown {w w' : World} {a : Option Addr} {l : List Nat} {g : Nat} (h : CharsSl w a l) (hg : w.grownBy w' (some g)) (hne : ∀ b, a = some ⟨b, 0, none⟩ → l ≠ [] → b ≠ g) : CharsSl w' a l := by
  intro i p hp
  obtain ⟨b, e, hlt, h1⟩ := h i p hp
  have hb : b ≠ g := hne b e (fun e => by rw [e] at hp; simp at hp)
  have hk := hg.block b hlt (fun e => hb (by injection e))
  exact ⟨b, e, Nat.lt_of_lt_of_le hlt hg.size, (World.cell?_of_block hk).trans h1⟩
theorem OwnP.sl {w : World} {base n c : Nat} {a : Option Addr} {l : List GPart} (h : OwnP w base (.slice a n c) l) : n = l.length ∧ n ≤ c ∧ c ≤ maxLen ∧ PartsSl w a l := by
  unfold OwnP at h
  rcases h.2 with ⟨e0, e1⟩ | ⟨g, cap, cur, e0, hg, hh, h1, h2, _⟩
  · cases e0
    refine ⟨e1.symm, Nat.le_refl _, by unfold maxLen; omega, fun i p hp => ?_⟩
    have := (List.getElem?_eq_some_iff.1 hp).1
    omega
  · cases e0
    refine ⟨rfl, h1, h2, fun i p hp => ?_⟩
    have hc := h.cells (g := g) rfl
    have c0 := hc (i * 3 + 0) _ ((partsV_at hp 0 (by omega)).trans rfl)
    have c1 := hc (i * 3 + 1) _ ((partsV_at hp 1 (by omega)).trans rfl)
    have c2 := hc (i * 3 + 2) _ ((partsV_at hp 2 (by omega)).trans rfl)
    simp only [Addr.add_lit, Nat.zero_add, Nat.add_zero] at c0 c1 c2
    exact ⟨g, rfl, lt_of_block hh, c0, c1, c2⟩

theorem CharsSl.below {w w' : World} {a : Option Addr} {l : List Nat} (h : CharsSl w a l) (hb : Below w.heap.size w w') : CharsSl w' a l := by
  intro i p hp
  obtain ⟨b, e, hlt, h1⟩ := h i p hp
  exact ⟨b, e, Nat.lt_of_lt_of_le hlt hb.size, (hb.cell (p := ⟨b, i, none⟩) hlt).trans h1⟩
theorem chars_sl {w : World} {base n : Nat} {v : Value} {l : List Nat} (h : w.ownsRow base 3 1 v n (l.map intV)) (hn : n = l.length) : ∃ a c, v = .slice a l.length c ∧ l.length ≤ c ∧ c ≤ maxLen ∧ CharsSl w a l := by
  subst hn
  have h' := h
  rcases h.2 with ⟨e0, e1⟩ | ⟨g, cap, cur, e0, hg, hh, h1, h2, _⟩
  · refine ⟨none, 0, by rw [e0, e1], by omega, by unfold maxLen; omega, fun i c hc => ?_⟩
    have := (List.getElem?_eq_some_iff.1 hc).1
    omega
  · refine ⟨_, cap, e0, h1, h2, fun i c hc => ?_⟩
    have hlt := (List.getElem?_eq_some_iff.1 hc).1
    subst e0
    refine ⟨g, rfl, lt_of_block hh, ?_⟩
    rw [h'.cellAt i (by omega), List.getElem?_map, hc]; rfl
end Go.Proofs.YtakcfgmibijdnaaGreatDoor

/- Plain: the states that are reached, as the code's rows have them. -/
namespace Go.Proofs.YtakcfgmibijdnaaGreatDoor
open Classical

noncomputable def rB (f : Bool) (ps : List GPart) (u : List Nat) (i : Nat) : Bool := decide (Reached f ps u i)
theorem rB_iff {f : Bool} {ps : List GPart} {u : List Nat} {i : Nat} : rB f ps u i = true ↔ Reached f ps u i := by unfold rB; exact decide_eq_true_iff
def manyAt (ps : List GPart) (i : Nat) : Bool := match ps[i]? with
  | some p => p.many
  | none => false
theorem manyAt_of {ps : List GPart} {i : Nat} {p : GPart} (h : ps[i]? = some p) : manyAt ps i = p.many := by unfold manyAt; rw [h]
/-- The states behind those that may stand for nothing. -/
def skipF (ps : List GPart) (f0 : Nat → Bool) : Nat → Bool
  | 0 => f0 0
  | i + 1 => f0 (i + 1) || (skipF ps f0 i && manyAt ps i)
theorem skipF_succ (ps : List GPart) (f0 : Nat → Bool) (i : Nat) : skipF ps f0 (i + 1) = (f0 (i + 1) || (skipF ps f0 i && manyAt ps i)) := rfl
def startF (i : Nat) : Bool := decide (i = 0)

theorem skip_start (f : Bool) (ps : List GPart) : ∀ i, i ≤ ps.length → skipF ps startF i = rB f ps [] i := by
  intro i
  induction i with
  | zero => intro _; exact (rB_iff.2 (reached_nil_zero f ps)).symm
  | succ i ih =>
    intro hi
    have hp : ps[i]? = some (ps[i]'(by omega)) := List.getElem?_eq_getElem (by omega)
    rw [skipF_succ, ih (by omega), manyAt_of hp, Bool.eq_iff_iff, rB_iff, reached_nil_succ hp]
    simp [startF, rB_iff]

def Con (f : Bool) (ps : List GPart) (u : List Nat) (c j m : Nat) : Prop := ∃ p, ps[j]? = some p ∧ Reached f ps u j ∧ standsB p c f = true ∧ ((p.many = true ∧ m = j) ∨ (p.many = false ∧ m = j + 1))
/-- What a step has reached, of the first so many parts. -/
noncomputable def stepTo (f : Bool) (ps : List GPart) (u : List Nat) (c i m : Nat) : Bool := decide (∃ j, j < i ∧ Con f ps u c j m)
theorem stepTo_iff {f : Bool} {ps : List GPart} {u : List Nat} {c i m : Nat} : stepTo f ps u c i m = true ↔ ∃ j, j < i ∧ Con f ps u c j m := by unfold stepTo; exact decide_eq_true_iff
theorem stepTo_zero (f : Bool) (ps : List GPart) (u : List Nat) (c m : Nat) : stepTo f ps u c 0 m = false := by
  rw [Bool.eq_false_iff]; intro h
  obtain ⟨j, hj, _⟩ := stepTo_iff.1 h
  omega
theorem stepTo_succ {f : Bool} {ps : List GPart} {u : List Nat} {c i m : Nat} : stepTo f ps u c (i + 1) m = true ↔ (stepTo f ps u c i m = true ∨ Con f ps u c i m) := by
  rw [stepTo_iff, stepTo_iff]
  constructor
  · rintro ⟨j, hj, h⟩
    by_cases e : j = i
    · exact .inr (e ▸ h)
    · exact .inl ⟨j, by omega, h⟩
  · rintro (⟨j, hj, h⟩ | h)
    · exact ⟨j, by omega, h⟩
    · exact ⟨i, by omega, h⟩
theorem con_of {f : Bool} {ps : List GPart} {u : List Nat} {c i m : Nat} {p : GPart} (hp : ps[i]? = some p) : Con f ps u c i m ↔ (rB f ps u i = true ∧ standsB p c f = true ∧ ((p.many = true ∧ m = i) ∨ (p.many = false ∧ m = i + 1))) := by
  unfold Con
  rw [rB_iff]
  constructor
  · rintro ⟨q, hq, h1, h2, h3⟩
    rw [hp] at hq; cases hq
    exact ⟨h1, h2, h3⟩
  · rintro ⟨h1, h2, h3⟩
    exact ⟨p, hp, h1, h2, h3⟩
theorem step_none {f : Bool} {ps : List GPart} {u : List Nat} {c i : Nat} {p : GPart} (hp : ps[i]? = some p) (h : rB f ps u i = false ∨ standsB p c f = false) (m : Nat) : stepTo f ps u c (i + 1) m = stepTo f ps u c i m := by
  rw [Bool.eq_iff_iff, stepTo_succ, con_of hp]
  rcases h with h | h <;> simp [h]
theorem step_many {f : Bool} {ps : List GPart} {u : List Nat} {c i : Nat} {p : GPart} (hp : ps[i]? = some p) (h1 : rB f ps u i = true) (h2 : standsB p c f = true) (h3 : p.many = true) (m : Nat) : stepTo f ps u c (i + 1) m = if m = i then true else stepTo f ps u c i m := by
  rw [Bool.eq_iff_iff, stepTo_succ, con_of hp]
  by_cases hm : m = i <;> simp [h1, h2, h3, hm]
theorem step_one {f : Bool} {ps : List GPart} {u : List Nat} {c i : Nat} {p : GPart} (hp : ps[i]? = some p) (h1 : rB f ps u i = true) (h2 : standsB p c f = true) (h3 : p.many = false) (m : Nat) : stepTo f ps u c (i + 1) m = if m = i + 1 then true else stepTo f ps u c i m := by
  rw [Bool.eq_iff_iff, stepTo_succ, con_of hp]
  by_cases hm : m = i + 1 <;> simp [h1, h2, h3, hm]
theorem stepTo_all {f : Bool} {ps : List GPart} {u : List Nat} {c m : Nat} : stepTo f ps u c ps.length m = true ↔ Stepped f ps u c m := by
  rw [stepTo_iff]
  constructor
  · rintro ⟨j, hj, p, hp, h1, h2, (⟨h3, rfl⟩ | ⟨h3, rfl⟩)⟩
    · exact .inl ⟨p, hp, h1, h2, h3⟩
    · exact .inr ⟨j, p, rfl, hp, h1, h2, h3⟩
  · rintro (⟨p, hp, h1, h2, h3⟩ | ⟨j, p, rfl, hp, h1, h2, h3⟩)
    · exact ⟨m, (List.getElem?_eq_some_iff.1 hp).1, p, hp, h1, h2, .inl ⟨h3, rfl⟩⟩
    · exact ⟨j, (List.getElem?_eq_some_iff.1 hp).1, p, hp, h1, h2, .inr ⟨h3, rfl⟩⟩
theorem skip_step (f : Bool) (ps : List GPart) (u : List Nat) (c : Nat) : ∀ i, i ≤ ps.length → skipF ps (stepTo f ps u c ps.length) i = rB f ps (u ++ [c]) i := by
  intro i
  induction i with
  | zero => intro _; rw [Bool.eq_iff_iff, rB_iff, reached_snoc_zero, ← stepTo_all]; rfl
  | succ i ih =>
    intro hi
    have hp : ps[i]? = some (ps[i]'(by omega)) := List.getElem?_eq_getElem (by omega)
    rw [skipF_succ, ih (by omega), manyAt_of hp, Bool.eq_iff_iff, rB_iff, reached_snoc_succ hp, ← stepTo_all, ← rB_iff, Bool.or_eq_true, Bool.and_eq_true]
theorem rB_all (f : Bool) (ps : List GPart) (u : List Nat) : rB f ps u ps.length = langB f ps u := by
  rw [Bool.eq_iff_iff, rB_iff, reached_all, langB_iff]
end Go.Proofs.YtakcfgmibijdnaaGreatDoor

/- glob.skip. -/
namespace Go.Proofs.YtakcfgmibijdnaaGreatDoor
open Go.RowKit

def boolsF (f : Nat → Bool) : Nat → Value := fun i => .bool (f i)
theorem rowIs_far {w w' : World} {b n : Nat} {t : TypeId} {f : Nat → Value} {row : Option Nat} (h : w.rowIs b t n f) (hg : w.grownBy w' row) (hr : some b ≠ row) : w'.rowIs b t n f :=
  h.of_block (hg.block b h.lt hr)
theorem only_alloc {a w : World} {row : Option Nat} (h : a.grownBy w row) (o : Obj) : a.grownBy (w.alloc o) row :=
  ⟨h.os, h.tape, h.output, Nat.le_trans h.size (by simp), fun i hi hne => (Below.heap_alloc w o i (Nat.lt_of_lt_of_le hi h.size)).trans (h.block i hi hne)⟩
theorem only_setCell {a w : World} {g : Nat} (h : a.grownBy w (some g)) {p : Addr} (hp : p.block = g ∨ a.heap.size ≤ p.block) (u : Value) : a.grownBy (w.setCell p u) (some g) :=
  ⟨h.os, h.tape, h.output, by simpa [World.setCell] using h.size, fun i hi hne => (Below.heap_setCell w p u i (by
    rintro rfl
    rcases hp with hp | hp
    · exact hne (by rw [hp])
    · omega)).trans (h.block i hi hne)⟩

theorem skip_row {w : World} {g n i : Nat} {t : TypeId} {ps : List GPart} {f0 : Nat → Bool} {v : Bool} (h : w.rowIs g t n (fun j => if j = i + 1 then .bool v else boolsF (fun m => if m ≤ i then skipF ps f0 m else f0 m) j)) (hv : skipF ps f0 (i + 1) = v) :
    w.rowIs g t n (boolsF fun m => if m ≤ i + 1 then skipF ps f0 m else f0 m) := by
  refine h.congr fun j _ => ?_
  by_cases hj : j = i + 1
  · subst hj
    rw [if_pos rfl]
    show _ = Value.bool (if i + 1 ≤ i + 1 then _ else _)
    rw [if_pos (Nat.le_refl _), hv]
  · rw [if_neg hj]
    show Value.bool (if j ≤ i then _ else _) = Value.bool (if j ≤ i + 1 then _ else _)
    by_cases h2 : j ≤ i
    · rw [if_pos h2, if_pos (by omega)]
    · rw [if_neg h2, if_neg (by omega)]

set_option maxHeartbeats 3200000 in
theorem glob_skip (a : Option Addr) (n cap : Nat) (ps : List GPart) (g c2 : Nat) (f0 : Nat → Bool) (w : World) (hn : ps.length = n) (hn2 : n ≤ 16777216) (hsl : PartsSl w a ps) (hrow : w.rowIs g 4 (n + 1) (boolsF f0)) :
    Calls Tryz.prog 132 #[.slice a n cap, .slice (some ⟨g, 0, none⟩) (n + 1) c2] w fun e w' => e = .returned (.tuple #[]) ∧ w'.rowIs g 4 (n + 1) (boolsF (skipF ps f0)) ∧ w.grownBy w' (some g) := by
  have hne := hsl.ne hrow
  have hgw := hrow.lt
  have HNE := Lib.hid hne
  have HN := Lib.hid hn
  clear hne hn
  go_enter Tryz.func132, Tryz.ntmps132
  go_wp2_with fail
  go_loopw [8] (fun x wr => ∃ i : Nat, i ≤ n ∧ x = .int .i64 i ∧ wr.rowIs g 4 (n + 1) (boolsF fun m => if m ≤ i then skipF ps f0 m else f0 m) ∧ w.grownBy wr (some g)) (fun x _ => n - (intOf x).toNat)
  case atStart => exact ⟨0, Nat.zero_le _, rfl, hrow.congr (fun i _ => by
    unfold boolsF
    by_cases h : i ≤ 0
    · obtain rfl : i = 0 := by omega
      rfl
    · show Value.bool (f0 i) = Value.bool (if i ≤ 0 then _ else _)
      rw [if_neg h]), grown_refl _ _⟩
  case round =>
    obtain ⟨i, hil, rfl, hr, hg⟩ := hrel
    by_cases hlt : i < n
    · obtain ⟨p, hp⟩ : ∃ p, ps[i]? = some p := ⟨_, List.getElem?_eq_getElem (by rw [HN.out]; exact hlt)⟩
      obtain ⟨b, rfl, hbw, h1, h2, h3⟩ := (hsl.grown hg HNE.out) i p hp
      have hbg : b ≠ g := HNE.out b rfl (fun e => by rw [e] at hp; simp at hp)
      have hma := manyAt_of hp
      have hsk := skipF_succ ps f0 i
      have c0 := hr.cell (i := i) (by omega)
      have c1 := hr.cell (i := i + 1) (by omega)
      have hset := fun o u => (hr.set (i + 1) u).alloc o
      have hfz := hr.frozen (i + 1)
      have e0 : boolsF (fun m => if m ≤ i then skipF ps f0 m else f0 m) i = .bool (skipF ps f0 i) := by unfold boolsF; simp
      have e1 : boolsF (fun m => if m ≤ i then skipF ps f0 m else f0 m) (i + 1) = .bool (f0 (i + 1)) := by
        show Value.bool (if i + 1 ≤ i then _ else _) = _
        rw [if_neg (by omega)]
      rw [e0] at c0
      rw [e1] at c1
      rw [← hma] at h3
      generalize skipF ps f0 i = y at *
      generalize f0 (i + 1) = x at *
      generalize manyAt ps i = m at *
      have HSET := Lib.hid hset
      have HSK := Lib.hid hsk
      have HP := Lib.hid hp
      clear hset hsk hp e0 e1 hma HN hrow
      have hgr := fun o u => only_alloc (only_setCell hg (p := ⟨g, i + 1, none⟩) (.inl rfl) u) o
      have hglt := hr.lt
      have HGR := Lib.hid hgr
      clear hgr hr hg
      cases x <;> cases y <;> cases m
      all_goals
        go_wp2_with fail
        go_roundw
        case rel => exact ⟨i + 1, by omega, by go_num, skip_row (HSET.out _ _) HSK.out, HGR.out _ _⟩
        case measure => simp [intOf]; omega
    · obtain rfl : i = n := by omega
      go_wp2_with fail
      go_end0
      exact ⟨rfl, hr.congr (fun j hj => by
        show Value.bool (if j ≤ i then _ else _) = _
        rw [if_pos (by omega)]; rfl), hg⟩
end Go.Proofs.YtakcfgmibijdnaaGreatDoor

/- utf.Chars: all characters of bytes. -/
namespace Go.Proofs.YtakcfgmibijdnaaGreatDoor
open Go.RowKit

def CharsPost (s : ByteArray) (w : World) (e : Ending) (w' : World) : Prop :=
  Below w.heap.size w w' ∧ (((chrs s).2 = none ∧ ∃ v, e = .returned (.tuple #[v, .nilIface]) ∧ w'.ownsRow w.heap.size 3 1 v (chrs s).1.length ((chrs s).1.map intV)) ∨
    (∃ i, (chrs s).2 = some i ∧ ∃ v, e = .returned (.tuple #[.slice none 0 0, v]) ∧ IsFault w' v 12 i))

set_option maxHeartbeats 1600000 in
set_option maxRecDepth 100000 in
theorem utf_Chars (v : Value) (s : ByteArray) (w : World) (hU : Utf8Laid w) (hs : s.size ≤ 16777216) (hv : BytesSl w v s) :
    Calls Tryz.prog 50 #[v] w (CharsPost s w) := by
  rcases hv with ⟨h0, a, cap, rfl⟩ | ⟨b, off, cap, rfl, hc, hcm, hbs, hp⟩
  · have hz := Lib.hid ((Reach.zero s).done (by omega))
    clear h0
    go_enter Tryz.func50, Tryz.ntmps50
    go_wp2_with fail
    refine wp_loop_rounds 1 ?_
    rw [rounds_succ]
    go_wp2_with fail
    go_ret2
    exact ⟨Below.refl _ _, .inl ⟨by rw [hz.out], _, rfl, by rw [hz.out]; exact World.ownsRow_nil _ _ _ _⟩⟩
  · obtain ⟨i0, hi, hz0, hz1, hz2⟩ := info_parts info_int
    unfold maxLen at hcm
    go_enter Tryz.func50, Tryz.ntmps50
    go_wp2_with fail
    go_loopw [4, 5] (fun v a wr => ∃ (i : Nat) (l : List Nat), i ≤ s.size ∧ a = .int .i64 i ∧ Reach s l i ∧ wr.ownsRow w.heap.size 3 1 v l.length (l.map intV) ∧ Below w.heap.size w wr)
      (fun _ a _ => s.size - (intOf a).toNat)
    case atStart => exact ⟨0, [], Nat.zero_le _, rfl, Reach.zero s, World.ownsRow_nil _ _ _ _, Below.refl _ _⟩
    case round =>
      obtain ⟨i, l, hil, rfl, hr, hown, hbr⟩ := hrel
      have hll : l.length ≤ i := by obtain ⟨_, _, h, _⟩ := hr; exact h
      have HR := Lib.hid hr
      clear hr
      by_cases hlt : i < s.size
      · obtain ⟨hd1, hd2, hd3, hd4⟩ := decB_bounds s i hlt
        clear hd4
        go_wp2_with fail
        refine (utf_Next s i b off cap _ (hU.below hbr) hlt hc hcm (hp.below hbr hbs)).mono ?_
        rintro e w2 ⟨hb2, h⟩
        have hown2 := ownsRow_below hown hb2
        have hbr2 := Bt hbr hb2
        clear hown hbr hb2
        rcases h with ⟨hok, rfl⟩ | ⟨hok, v, rfl, hv⟩
        · have hst := HR.out.step hlt hok
          generalize (decB s i).1 = c at *
          generalize (decB s i).2 = n at *
          have HST := Lib.hid hst
          clear hst hok
          go_wp2_with (at_builtin; refine wpList_append_own _ rfl _ _ 53 rfl w.heap.size 3 i0 (.int .i64 0) 1 8 Tryz.underlying53 hi hz0 hz1 hz2 rfl (by decide) _ _ _ rfl (hown2.alloc _) ⟨w2.heap.size, 0, none⟩ 1 1 [intV c] rfl rfl ?c1 ?c2 ?c3 ?c4 ?c5 ?_)
          case c1 =>
            intro j u hj
            match j, hj with
            | 0, hj => simp at hj; subst hj; simp [Addr.add, intV]
          case c2 => intro u hu; simp at hu; subst hu; rfl
          case c3 => unfold maxLen; omega
          case c4 => omega
          case c5 => have := hbr2.size; simp; omega
          intro v1 w3 hown3 hg3 _
          have hbr3 := below_app hbr2 hown2 (Nat.le_refl _) hg3
          clear hg3 hown2 hbr2
          go_wp2_with fail
          go_roundw
          case rel => exact ⟨i + n, l ++ [c], by omega, by go_num, HST.out, by simpa using hown3, hbr3⟩
          case measure => simp [intOf]; omega
        · obtain ⟨p, rfl⟩ := hv.ne_nil
          have hb := Lib.hid (HR.out.bad hlt hok)
          clear hok
          go_wp2_with fail
          go_ret2
          exact ⟨hbr2, .inr ⟨i, by rw [hb.out], _, rfl, hv⟩⟩
      · have hb := Lib.hid (HR.out.done hlt)
        obtain rfl : i = s.size := by omega
        go_wp2_with fail
        go_ret2
        exact ⟨hbr, .inl ⟨by rw [hb.out], _, rfl, by rw [hb.out]; exact hown⟩⟩

def ValidPost (s : ByteArray) (w : World) (e : Ending) (w' : World) : Prop :=
  Below w.heap.size w w' ∧ (((chrs s).2 = none ∧ e = .returned .nilIface) ∨ (∃ i, (chrs s).2 = some i ∧ ∃ v, e = .returned v ∧ IsFault w' v 12 i))
set_option maxHeartbeats 800000 in
theorem utf_Valid (v : Value) (s : ByteArray) (w : World) (hU : Utf8Laid w) (hs : s.size ≤ 16777216) (hv : BytesSl w v s) :
    Calls Tryz.prog 79 #[v] w (ValidPost s w) := by
  go_enter Tryz.func79, Tryz.ntmps79
  go_wp2_with fail
  refine (utf_Chars v s _ hU hs hv).mono ?_
  rintro e w2 ⟨hb2, h⟩
  rcases h with ⟨hn, v2, rfl, _⟩ | ⟨i, hi, v2, rfl, hv2⟩
  · have HN := Lib.hid hn
    clear hn
    go_wp2_with fail
    go_ret
    exact ⟨hb2, .inl ⟨HN.out, rfl⟩⟩
  · have HN := Lib.hid hi
    clear hi
    go_wp2_with fail
    go_ret
    exact ⟨hb2, .inr ⟨i, HN.out, _, rfl, hv2⟩⟩
end Go.Proofs.YtakcfgmibijdnaaGreatDoor

/- utf.Half. -/
namespace Go.Proofs.YtakcfgmibijdnaaGreatDoor
open Go.RowKit

end Go.Proofs.YtakcfgmibijdnaaGreatDoor

/- Plain facts: a list of numbers' bytes, or the first one that is no character. -/
namespace Go.Proofs.YtakcfgmibijdnaaGreatDoor

/-- How many of the list's numbers, from its head, are characters. -/
def rightLen : List Int → Nat
  | [] => 0
  | c :: l => if rightB c = true then rightLen l + 1 else 0
def nats (l : List Int) : List Nat := l.map Int.toNat
theorem rightLen_le (l : List Int) : rightLen l ≤ l.length := by
  induction l with
  | nil => exact Nat.le_refl _
  | cons c l ih => unfold rightLen; split <;> simp <;> omega
theorem rightLen_step : ∀ (l : List Int) (i : Nat), i ≤ rightLen l → i < l.length → (rightB (l.getD i 0) = true → i + 1 ≤ rightLen l) ∧ (rightB (l.getD i 0) = false → rightLen l = i) := by
  intro l
  induction l with
  | nil => intro i _ h; simp at h
  | cons c l ih =>
    intro i h1 h2
    unfold rightLen at h1 ⊢
    by_cases hc : rightB c = true
    · rw [if_pos hc] at h1 ⊢
      cases i with
      | zero => exact ⟨fun _ => by omega, fun h => by simp [hc] at h⟩
      | succ i =>
        have := ih i (by omega) (by simpa using h2)
        constructor
        · intro h; have := this.1 (by simpa using h); omega
        · intro h; have := this.2 (by simpa using h); omega
    · rw [if_neg hc] at h1 ⊢
      obtain rfl : i = 0 := by omega
      exact ⟨fun h => absurd (by simpa using h) hc, fun _ => rfl⟩
theorem right_all : ∀ (l : List Int), rightLen l = l.length → ∀ c ∈ nats l, rightC c := by
  intro l
  induction l with
  | nil => intro _ c hc; simp [nats] at hc
  | cons d l ih =>
    intro h c hc
    unfold rightLen at h
    split at h
    · rename_i hd
      simp only [nats, List.map_cons, List.mem_cons] at hc
      rcases hc with rfl | hc
      · have hz := (rightB_iff d).1 hd
        unfold rightZ at hz
        unfold rightC; omega
      · exact ih (by simpa using h) c hc
    · simp at h
theorem nats_take_succ (l : List Int) (i : Nat) (hi : i < l.length) : nats (l.take (i + 1)) = nats (l.take i) ++ [(l.getD i 0).toNat] := by
  unfold nats
  rw [List.take_succ_eq_append_getElem hi, List.map_append]
  simp [hi]
theorem nats_len (l : List Int) : (nats l).length = l.length := by simp [nats]
end Go.Proofs.YtakcfgmibijdnaaGreatDoor
