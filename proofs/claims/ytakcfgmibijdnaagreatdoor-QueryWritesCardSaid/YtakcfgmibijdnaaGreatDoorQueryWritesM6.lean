/- Items, in memory. -/
import Derived.Test.YtakcfgmibijdnaaGreatDoorQueryWritesM2
import Derived.Test.YtakcfgmibijdnaaGreatDoorQueryWritesM3
import Derived.Laws.OwnMore
import Derived.Deep.OwnRows
import Derived.Maps.AppendAt
import Derived.Test.YtakcfgmibijdnaaGreatDoorQueryWritesM5
import Derived.Lib.SplitLaws
import Derived.Lib.IndexBytes
import Derived.Lib.IndexLaws
import Derived.Test.YtakcfgmibijdnaaGreatDoorQueryWritesM4

namespace Go.Proofs.YtakcfgmibijdnaaGreatDoor
open Go.RowKit

structure It where
  name : ByteArray
  value : ByteArray
  has : Bool
deriving DecidableEq

theorem info_item : (Tryz.prog.info? 47).map (fun i => (i.zero, i.size, i.bytes)) = some (some (.agg #[.string ByteArray.empty, .string ByteArray.empty, .bool false]), 3, 40) := by kernel_rfl

def itemC (x : It) : List Value := [.string x.name, .string x.value, .bool x.has]
def itemsV (l : List It) : List Value := l.flatMap itemC
theorem itemsV_len (l : List It) : (itemsV l).length = l.length * 3 := by
  induction l with
  | nil => rfl
  | cons p l ih =>
    unfold itemsV at ih ⊢
    rw [List.flatMap_cons, List.length_append, ih, List.length_cons]
    show 3 + _ = _
    omega
theorem itemsV_app (a b : List It) : itemsV (a ++ b) = itemsV a ++ itemsV b := by unfold itemsV; exact List.flatMap_append
theorem itemsV_at {l : List It} {i : Nat} {p : It} (h : l[i]? = some p) (j : Nat) (hj : j < 3) : (itemsV l)[i * 3 + j]? = (itemC p)[j]? := by
  induction l generalizing i with
  | nil => simp at h
  | cons q l ih =>
    cases i with
    | zero =>
      simp at h; subst h
      show (itemC q ++ itemsV l)[0 * 3 + j]? = _
      rw [List.getElem?_append_left (by show _ < 3; omega)]
      congr 1; omega
    | succ i =>
      simp at h
      show (itemC q ++ itemsV l)[(i + 1) * 3 + j]? = _
      rw [List.getElem?_append_right (by show 3 ≤ _; omega), ← ih h]
      congr 1
      show (i + 1) * 3 + j - 3 = _
      omega
theorem itemC_one (p : It) : ∀ u ∈ itemC p, u.oneCell' = true := by
  intro u hu
  unfold itemC at hu
  simp at hu
  rcases hu with rfl | rfl | rfl <;> rfl

def OwnI (w : World) (base : Nat) (v : Value) (l : List It) : Prop := w.ownsRow base 47 3 v l.length (itemsV l)
theorem OwnI.below {w w' : World} {base : Nat} {v : Value} {l : List It} (h : OwnI w base v l) (hb : Below w.heap.size w w') : OwnI w' base v l := ownsRow_below h hb
theorem OwnI.nil (w : World) (base : Nat) : OwnI w base (.slice none 0 0) [] := World.ownsRow_nil _ _ _ _
theorem OwnI.base' {w : World} {base base' : Nat} {v : Value} {l : List It} (h : OwnI w base v l) (hb : base' ≤ base) : OwnI w base' v l := ownsRow_base h hb
theorem OwnI.under {w0 w w' : World} {base : Nat} {v : Value} {l : List It} (h : OwnI w base v l) (hb : Below w0.heap.size w0 w) (hB : w0.heap.size ≤ base) (hg : w.grownBy w' v.ownBlock) : Below w0.heap.size w0 w' :=
  hb.grown hg hb.size (fun j hj => Nat.le_trans hB (World.ownsRow.lt h j hj).1)
theorem wpList_app_item {w : World} {ops : Array Oper} {rest : List Oper} {o : Oper} {a : Act} {Q : Exit → Act → World → Prop} (hgd : o.guard = none) (s x : Operand) (ho : o.op = .call { callee := .builtin .append, args := #[s, x], argTypes := #[35, 35] })
    (base : Nat) (v : Value) (l : List It) (hs : a.eval s = v) (hown : OwnI w base v l) (g c : Nat) (p : It) (hx : a.eval x = .slice (some ⟨g, 0, none⟩) 1 c) (hb : w.heap[g]? = some (.cells (itemC p).toArray 47 (0, 0)))
    (hl : l.length ≤ 1073741824) (hbase : base ≤ w.heap.size)
    (h : ∀ v' w', OwnI w' base v' (l ++ [p]) → w.grownBy w' v.ownBlock → wpList Tryz.prog ops Q rest (a.put o.dst v') w') : wpList Tryz.prog ops Q (o :: rest) a w := by
  obtain ⟨i, hi, hz, hsize, hby⟩ := info_parts info_item
  refine wpList_append_own _ hgd s x 35 ho base 47 i _ 3 40 Tryz.underlying35 hi hz hsize hby rfl (by decide) v _ _ hs hown _ 1 c (itemC p) hx rfl ?_ (itemC_one p) (by unfold maxLen; omega) (by omega) hbase ?_
  · intro j u hj
    rw [Addr.add_lit, Nat.zero_add, cell_of_row w g j _ _ _ hb, ← hj]
    simp
  · intro v' w' h1 h2 _
    refine h v' w' ?_ h2
    unfold OwnI
    rw [List.length_append, itemsV_app]
    have : itemsV [p] = itemC p := by unfold itemsV; simp
    rw [this]
    exact h1

theorem wpList_app_item_at {w : World} {ops : Array Oper} {rest : List Oper} {o : Oper} {a : Act} {Q : Exit → Act → World → Prop} (hgd : o.guard = none) (s x : Operand) (ho : o.op = .call { callee := .builtin .append, args := #[s, x], argTypes := #[35, 35] })
    (base : Nat) (v : Value) (l : List It) (hs : a.eval s = v) (hown : OwnI w base v l) (g c : Nat) (p : It) (hx : a.eval x = .slice (some ⟨g, 0, none⟩) 1 c) (hb : w.heap[g]? = some (.cells (itemC p).toArray 47 (0, 0)))
    (hl : l.length ≤ 1073741824) (hbase : base ≤ w.heap.size)
    (h : ∀ v' w', OwnI w' base v' (l ++ [p]) → w.grownBy w' v.ownBlock → (v'.ownBlock = v.ownBlock ∨ v'.ownBlock = some w.heap.size) → wpList Tryz.prog ops Q rest (a.put o.dst v') w') : wpList Tryz.prog ops Q (o :: rest) a w := by
  obtain ⟨i, hi, hz, hsize, hby⟩ := info_parts info_item
  refine wpList_append_own_at _ hgd s x 35 ho base 47 i _ 3 40 Tryz.underlying35 hi hz hsize hby rfl (by decide) v _ _ hs hown _ 1 c (itemC p) hx rfl ?_ (itemC_one p) (by unfold maxLen; omega) (by omega) hbase ?_
  · intro j u hj
    rw [Addr.add_lit, Nat.zero_add, cell_of_row w g j _ _ _ hb, ← hj]
    simp
  · intro v' w' h1 h2 _ h3
    refine h v' w' ?_ h2 h3
    unfold OwnI
    rw [List.length_append, itemsV_app]
    have : itemsV [p] = itemC p := by unfold itemsV; simp
    rw [this]
    exact h1
/-- A row that is read, beside a row of the call's own. -/
def Beside (pa : Option Addr) (v : Value) : Prop := ∀ b, pa = some ⟨b, 0, none⟩ → v.ownBlock ≠ some b
theorem RowSl.grown {w w2 : World} {pa : Option Addr} {l : List Value} {v : Value} (h : RowSl w pa l) (hg : w.grownBy w2 v.ownBlock) (hne : Beside pa v) : RowSl w2 pa l := by
  intro i x hx
  obtain ⟨b, e, hlt, h1⟩ := h i x hx
  have hk := hg.block b hlt (fun e' => hne b e e'.symm)
  exact ⟨b, e, Nat.lt_of_lt_of_le hlt hg.size, (World.cell?_of_block hk).trans h1⟩
theorem Beside.at {N : Nat} {pa : Option Addr} {v v' : Value} (h : Beside pa v) (hat : v'.ownBlock = v.ownBlock ∨ v'.ownBlock = some N) (hlt : ∀ b, pa = some ⟨b, 0, none⟩ → b < N) : Beside pa v' := by
  intro b hb e
  rcases hat with hat | hat
  · exact h b hb (hat ▸ e)
  · have := hlt b hb
    rw [hat] at e
    injection e with e
    omega
/-- A slice of items. -/
def ItemsSl (w : World) (a : Option Addr) (l : List It) : Prop := ∀ (i : Nat) (p : It), l[i]? = some p → ∃ b off, a = some ⟨b, off, none⟩ ∧ b < w.heap.size ∧
  w.cell? ⟨b, off + i * 3, none⟩ = some (.string p.name) ∧ w.cell? ⟨b, off + i * 3 + 1, none⟩ = some (.string p.value) ∧ w.cell? ⟨b, off + i * 3 + 2, none⟩ = some (.bool p.has)
theorem ItemsSl.below {w w' : World} {a : Option Addr} {l : List It} (h : ItemsSl w a l) (hb : Below w.heap.size w w') : ItemsSl w' a l := by
  intro i p hp
  obtain ⟨b, off, e, hlt, h1, h2, h3⟩ := h i p hp
  exact ⟨b, off, e, Nat.lt_of_lt_of_le hlt hb.size, (hb.cell (p := ⟨b, off + i * 3, none⟩) hlt).trans h1, (hb.cell (p := ⟨b, off + i * 3 + 1, none⟩) hlt).trans h2, (hb.cell (p := ⟨b, off + i * 3 + 2, none⟩) hlt).trans h3⟩
/-- Own items as a slice: where they lie. -/
def ItemsOwn (w : World) (a : Option Addr) (l : List It) : Prop := ∀ (i : Nat) (p : It), l[i]? = some p → ∃ b, a = some ⟨b, 0, none⟩ ∧ b < w.heap.size ∧
  w.cell? ⟨b, i * 3, none⟩ = some (.string p.name) ∧ w.cell? ⟨b, i * 3 + 1, none⟩ = some (.string p.value) ∧ w.cell? ⟨b, i * 3 + 2, none⟩ = some (.bool p.has)
theorem ItemsOwn.below {w w' : World} {a : Option Addr} {l : List It} (h : ItemsOwn w a l) (hb : Below w.heap.size w w') : ItemsOwn w' a l := by
  intro i p hp
  obtain ⟨b, e, hlt, h1, h2, h3⟩ := h i p hp
  exact ⟨b, e, Nat.lt_of_lt_of_le hlt hb.size, (hb.cell (p := ⟨b, i * 3, none⟩) hlt).trans h1, (hb.cell (p := ⟨b, i * 3 + 1, none⟩) hlt).trans h2, (hb.cell (p := ⟨b, i * 3 + 2, none⟩) hlt).trans h3⟩
theorem ItemsOwn.items {w : World} {a : Option Addr} {l : List It} (h : ItemsOwn w a l) : ItemsSl w a l := by
  intro i p hp
  obtain ⟨b, e, hlt, h1, h2, h3⟩ := h i p hp
  exact ⟨b, 0, e, hlt, by rw [Nat.zero_add]; exact h1, by rw [Nat.zero_add]; exact h2, by rw [Nat.zero_add]; exact h3⟩
theorem OwnI.sl {w : World} {base : Nat} {v : Value} {l : List It} (h : OwnI w base v l) : ∃ a c, v = .slice a l.length c ∧ l.length ≤ c ∧ c ≤ maxLen ∧ ItemsOwn w a l := by
  unfold OwnI at h
  rcases h.2 with ⟨e0, e1⟩ | ⟨g, cap, cur, e0, hg, hh, h1, h2, _⟩
  · refine ⟨none, 0, by rw [e0, e1], by omega, by unfold maxLen; omega, fun i p hp => ?_⟩
    have := (List.getElem?_eq_some_iff.1 hp).1
    omega
  · refine ⟨_, cap, e0, h1, h2, fun i p hp => ?_⟩
    subst e0
    have hc := h.cells (g := g) rfl
    have c0 := hc (i * 3 + 0) _ ((itemsV_at hp 0 (by omega)).trans rfl)
    have c1 := hc (i * 3 + 1) _ ((itemsV_at hp 1 (by omega)).trans rfl)
    have c2 := hc (i * 3 + 2) _ ((itemsV_at hp 2 (by omega)).trans rfl)
    simp only [Addr.add_lit, Nat.zero_add, Nat.add_zero] at c0 c1 c2
    exact ⟨g, rfl, lt_of_block hh, c0, c1, c2⟩
end Go.Proofs.YtakcfgmibijdnaaGreatDoor

/- A list cut at a mark: plain facts, in the forms that strings.Split and the reference's parts have. -/
namespace Go.Proofs.YtakcfgmibijdnaaGreatDoor

def splitL (c : UInt8) : List UInt8 → List (List UInt8)
  | [] => [[]]
  | x :: l => if x = c then [] :: splitL c l else match splitL c l with | [] => [[x]] | p :: ps => (x :: p) :: ps
theorem splitL_none (c : UInt8) : ∀ (a : List UInt8), (∀ x ∈ a, x ≠ c) → splitL c a = [a]
  | [], _ => rfl
  | x :: a, h => by
    have := splitL_none c a (fun y hy => h y (by simp [hy]))
    rw [splitL, if_neg (h x (by simp)), this]
theorem splitL_cut (c : UInt8) (b : List UInt8) : ∀ (a : List UInt8), (∀ x ∈ a, x ≠ c) → splitL c (a ++ c :: b) = a :: splitL c b
  | [], _ => by simp [splitL]
  | x :: a, h => by
    have := splitL_cut c b a (fun y hy => h y (by simp [hy]))
    rw [List.cons_append, splitL, if_neg (h x (by simp)), this]
theorem splitL_ne (c : UInt8) (l : List UInt8) : splitL c l ≠ [] := by
  cases l with
  | nil => simp [splitL]
  | cons x l =>
    rw [splitL]
    split
    · simp
    · split <;> simp
/-- A list without the mark, or the part ahead of the first one. -/
theorem first_cut (c : UInt8) : ∀ (l : List UInt8), (∀ x ∈ l, x ≠ c) ∨ ∃ a b, l = a ++ c :: b ∧ ∀ x ∈ a, x ≠ c
  | [] => .inl (by simp)
  | x :: l => by
    by_cases hx : x = c
    · exact .inr ⟨[], l, by simp [hx], by simp⟩
    · rcases first_cut c l with h | ⟨a, b, e, h⟩
      · exact .inl (by intro y hy; simp at hy; rcases hy with rfl | hy; exact hx; exact h y hy)
      · exact .inr ⟨x :: a, b, by simp [e], by intro y hy; simp at hy; rcases hy with rfl | hy; exact hx; exact h y hy⟩
theorem splitL_app (c : UInt8) (b : List UInt8) : ∀ (n : Nat) (a : List UInt8), a.length ≤ n → splitL c (a ++ c :: b) = splitL c a ++ splitL c b := by
  intro n
  induction n with
  | zero =>
    intro a h
    have : a = [] := List.eq_nil_of_length_eq_zero (by omega)
    subst this
    simp [splitL]
  | succ n ih =>
    intro a h
    rcases first_cut c a with h1 | ⟨x, y, e, h1⟩
    · rw [splitL_cut c b a h1, splitL_none c a h1]; rfl
    · subst e
      rw [List.append_assoc, List.cons_append, splitL_cut c _ x h1, ih y (by simp at h; omega), splitL_cut c _ x h1]
      rfl
theorem splitL_len (c : UInt8) : ∀ (n : Nat) (l : List UInt8), l.length ≤ n → ((splitL c l).map List.length).sum + (splitL c l).length = l.length + 1 := by
  intro n
  induction n with
  | zero =>
    intro l h
    have : l = [] := List.eq_nil_of_length_eq_zero (by omega)
    subst this
    simp [splitL]
  | succ n ih =>
    intro l h
    rcases first_cut c l with h1 | ⟨x, y, e, h1⟩
    · rw [splitL_none c l h1]; simp
    · subst e
      have := ih y (by simp at h; omega)
      rw [splitL_cut c _ x h1]
      simp only [List.map_cons, List.sum_cons, List.length_cons, List.length_append]
      omega
theorem split_index {c : UInt8} {a b : List UInt8} (h : ∀ x ∈ a, x ≠ c) : Lib.index (a ++ c :: b) [c] = (a.length : Int) := by
  rw [Lib.index_one]
  induction a with
  | nil => simp [Lib.indexByte]
  | cons x a ih =>
    have := ih (fun y hy => h y (by simp [hy]))
    rw [List.cons_append, Lib.indexByte, this]
    have hx := h x (by simp)
    simp [hx]
theorem split_index_none {c : UInt8} {a : List UInt8} (h : ∀ x ∈ a, x ≠ c) : Lib.index a [c] = -1 := by
  rw [Lib.index_one]
  induction a with
  | nil => simp [Lib.indexByte]
  | cons x a ih =>
    have := ih (fun y hy => h y (by simp [hy]))
    rw [Lib.indexByte, this]
    have hx := h x (by simp)
    simp [hx]
theorem splitK_is (c : UInt8) : ∀ (n : Nat) (l : List UInt8), l.length ≤ n → Lib.splitK [c] 0 (Lib.count l [c]) l = splitL c l := by
  intro n
  induction n with
  | zero =>
    intro l h
    have : l = [] := List.eq_nil_of_length_eq_zero (by omega)
    subst this
    rw [Lib.count_one]
    rfl
  | succ n ih =>
    intro l h
    rcases first_cut c l with h1 | ⟨x, y, e, h1⟩
    · have h0 : l.count c = 0 := List.count_eq_zero.2 (fun hm => h1 c hm rfl)
      rw [Lib.count_one, h0, splitL_none c l h1]; rfl
    · have hi := split_index (b := y) h1
      have h0 : x.count c = 0 := List.count_eq_zero.2 (fun hm => h1 c hm rfl)
      subst e
      have hc : Lib.count (x ++ c :: y) [c] = Lib.count y [c] + 1 := by
        rw [Lib.count_one, Lib.count_one, List.count_append, h0, List.count_cons_self]; omega
      have hy := ih y (by simp at h; omega)
      rw [hc, Lib.splitK, hi, splitL_cut c _ x h1, ← hy]
      have : ¬ ((x.length : Int) == -1) = true := by simp
      rw [if_neg this]
      simp
theorem splitB_is (c : UInt8) (s : ByteArray) : (Lib.splitB ⟨#[c]⟩ 0 (Lib.countB s ⟨#[c]⟩) s).map (·.data.toList) = splitL c s.data.toList := by
  rw [Lib.splitB_data]
  exact splitK_is c _ _ (Nat.le_refl _)
end Go.Proofs.YtakcfgmibijdnaaGreatDoor

/- Items out of parts, one behind the other, as long as nothing is wrong: plain facts. -/
namespace Go.Proofs.YtakcfgmibijdnaaGreatDoor

/-- What a part gives (are there as many items as may be?): nothing, an error's kind and place, or an item. -/
abbrev StepG := ByteArray → Bool → Option (Except (Nat × Nat) It)
structure RightG (g : StepG) : Prop where
  kind : ∀ p b k i, g p b = some (.error (k, i)) → k ≠ 0
  none : ∀ p b b', g p b = none → g p b' = none
  full : ∀ p x, g p true ≠ some (.ok x)
section
variable (g : StepG) (most : Nat)
/-- Parts' items behind those that there are, the error's kind, its place. -/
def goG : List ByteArray → Nat → List It → List It × Nat × Nat
  | [], _, acc => (acc, 0, 0)
  | p :: ps, at_, acc => match g p (decide (acc.length = most)) with
    | none => goG ps (at_ + p.size + 1) acc
    | some (.error (k, i)) => ([], k, at_ + i)
    | some (.ok x) => goG ps (at_ + p.size + 1) (acc ++ [x])
variable {g most} {p : ByteArray} {ps : List ByteArray} {at_ k i : Nat} {acc : List It} {x : It}
theorem goG_nil : goG g most [] at_ acc = (acc, 0, 0) := rfl
theorem goG_none (h : g p (decide (acc.length = most)) = none) : goG g most (p :: ps) at_ acc = goG g most ps (at_ + p.size + 1) acc := by rw [goG, h]
theorem goG_bad (h : g p (decide (acc.length = most)) = some (.error (k, i))) : goG g most (p :: ps) at_ acc = ([], k, at_ + i) := by rw [goG, h]
theorem goG_ok (h : g p (decide (acc.length = most)) = some (.ok x)) : goG g most (p :: ps) at_ acc = goG g most ps (at_ + p.size + 1) (acc ++ [x]) := by rw [goG, h]
end
/-- A part's three ways. -/
theorem goG_ways (g : StepG) (most : Nat) (p : ByteArray) (acc : List It) : g p (decide (acc.length = most)) = none ∨ (∃ k i, g p (decide (acc.length = most)) = some (.error (k, i))) ∨ ∃ x, g p (decide (acc.length = most)) = some (.ok x) := by
  cases g p (decide (acc.length = most)) with
  | none => exact .inl rfl
  | some r => cases r with
    | error e => exact .inr (.inl ⟨e.1, e.2, rfl⟩)
    | ok x => exact .inr (.inr ⟨x, rfl⟩)
section
variable {g : StepG} {most : Nat} (hg : RightG g)
include hg
theorem goG_len : ∀ (ps : List ByteArray) (at_ : Nat) (acc : List It), acc.length ≤ most → (goG g most ps at_ acc).1.length ≤ most
  | [], _, acc, h => h
  | p :: ps, at_, acc, h => by
    rcases goG_ways g most p acc with h1 | ⟨k, i, h1⟩ | ⟨x, h1⟩
    · rw [goG_none h1]; exact goG_len ps _ _ h
    · rw [goG_bad h1]; simp
    · rw [goG_ok h1]
      refine goG_len ps _ _ ?_
      have : acc.length ≠ most := fun e => by rw [decide_eq_true e] at h1; exact hg.full p x h1
      simp; omega
omit hg in
theorem goG_empty : ∀ (ps : List ByteArray) (at_ : Nat) (acc : List It), (goG g most ps at_ acc).2.1 ≠ 0 → (goG g most ps at_ acc).1 = []
  | [], _, acc, h => absurd rfl h
  | p :: ps, at_, acc, h => by
    rcases goG_ways g most p acc with h1 | ⟨k, i, h1⟩ | ⟨x, h1⟩
    · rw [goG_none h1] at h ⊢; exact goG_empty ps _ _ h
    · rw [goG_bad h1]
    · rw [goG_ok h1] at h ⊢; exact goG_empty ps _ _ h
theorem goG_zero : ∀ (ps : List ByteArray) (at_ : Nat) (acc : List It), (goG g most ps at_ acc).2.1 = 0 → (goG g most ps at_ acc).2.2 = 0
  | [], _, acc, h => rfl
  | p :: ps, at_, acc, h => by
    rcases goG_ways g most p acc with h1 | ⟨k, i, h1⟩ | ⟨x, h1⟩
    · rw [goG_none h1] at h ⊢; exact goG_zero ps _ _ h
    · rw [goG_bad h1] at h; exact absurd h (hg.kind _ _ _ _ h1)
    · rw [goG_ok h1] at h ⊢; exact goG_zero ps _ _ h
theorem goG_grow : ∀ (ps : List ByteArray) (at_ : Nat) (acc : List It), (goG g most ps at_ acc).2.1 = 0 → ∃ l, (goG g most ps at_ acc).1 = acc ++ l
  | [], _, acc, _ => ⟨[], by rw [goG_nil]; simp⟩
  | p :: ps, at_, acc, h => by
    rcases goG_ways g most p acc with h1 | ⟨k, i, h1⟩ | ⟨x, h1⟩
    · rw [goG_none h1] at h ⊢; exact goG_grow ps _ _ h
    · rw [goG_bad h1] at h; exact absurd h (hg.kind _ _ _ _ h1)
    · rw [goG_ok h1] at h ⊢
      obtain ⟨l, e⟩ := goG_grow ps _ _ h
      exact ⟨x :: l, by rw [e]; simp⟩
theorem goG_app : ∀ (ps qs : List ByteArray) (at_ : Nat) (acc : List It), goG g most (ps ++ qs) at_ acc = if (goG g most ps at_ acc).2.1 = 0 then goG g most qs (at_ + (ps.map fun p => p.size + 1).sum) (goG g most ps at_ acc).1 else goG g most ps at_ acc
  | [], qs, at_, acc => by simp [goG_nil]
  | p :: ps, qs, at_, acc => by
    rw [List.cons_append]
    have e : at_ + ((p :: ps).map fun p => p.size + 1).sum = at_ + p.size + 1 + (ps.map fun p => p.size + 1).sum := by rw [List.map_cons, List.sum_cons]; omega
    rcases goG_ways g most p acc with h1 | ⟨k, i, h1⟩ | ⟨x, h1⟩
    · rw [goG_none h1, goG_none h1, goG_app ps qs, e]
    · rw [goG_bad h1, goG_bad h1, if_neg (hg.kind _ _ _ _ h1)]
    · rw [goG_ok h1, goG_ok h1, goG_app ps qs, e]
/-- From another place, behind other items: the same items. -/
theorem goG_move : ∀ (ps : List ByteArray) (a1 a2 : Nat) (x acc : List It), (goG g most ps a1 acc).2.1 = 0 → x.length + (goG g most ps a1 acc).1.length ≤ most → goG g most ps a2 (x ++ acc) = (x ++ (goG g most ps a1 acc).1, 0, 0)
  | [], a1, a2, x, acc, _, _ => rfl
  | p :: ps, a1, a2, x, acc, h, h2 => by
    rcases goG_ways g most p acc with h1 | ⟨k, i, h1⟩ | ⟨y, h1⟩
    · rw [goG_none h1] at h h2 ⊢
      rw [goG_none (hg.none _ _ _ h1)]
      exact goG_move ps _ _ x acc h h2
    · rw [goG_bad h1] at h; exact absurd h (hg.kind _ _ _ _ h1)
    · rw [goG_ok h1] at h h2 ⊢
      obtain ⟨l, e⟩ := goG_grow hg ps _ _ h
      have hl := congrArg List.length e
      simp only [List.length_append, List.length_cons, List.length_nil] at hl
      have h3 : acc.length ≠ most := fun e => by rw [decide_eq_true e] at h1; exact hg.full p y h1
      have h4 : (x ++ acc).length ≠ most := by simp; omega
      rw [decide_eq_false h3] at h1
      have h5 : g p (decide ((x ++ acc).length = most)) = some (.ok y) := by rw [decide_eq_false h4]; exact h1
      rw [goG_ok h5, List.append_assoc]
      exact goG_move ps _ _ x (acc ++ [y]) h h2
end
/-- The parts of a text between marks. -/
def partsB (c : UInt8) (s : ByteArray) : List ByteArray := (splitL c s.data.toList).map ofL
theorem partsB_app (c : UInt8) (s t : ByteArray) : partsB c (s ++ ofL [c] ++ t) = partsB c s ++ partsB c t := by
  unfold partsB
  rw [← List.map_append, ← splitL_app c t.data.toList s.data.toList.length s.data.toList (Nat.le_refl _)]
  congr 2
  rw [ByteArray.data_append, ByteArray.data_append]
  simp [ofL]
section
variable {g : StepG} {most : Nat} (hg : RightG g)
include hg
theorem goG_both (c : UInt8) (s t : ByteArray) (h1 : (goG g most (partsB c s) 0 []).2.1 = 0) (h2 : (goG g most (partsB c t) 0 []).2.1 = 0) (h3 : (goG g most (partsB c s) 0 []).1.length + (goG g most (partsB c t) 0 []).1.length ≤ most) :
    goG g most (partsB c (s ++ ofL [c] ++ t)) 0 [] = ((goG g most (partsB c s) 0 []).1 ++ (goG g most (partsB c t) 0 []).1, 0, 0) := by
  rw [partsB_app, goG_app hg, if_pos h1]
  have := goG_move hg (partsB c t) 0 (0 + ((partsB c s).map fun p => p.size + 1).sum) (goG g most (partsB c s) 0 []).1 [] h2 h3
  rw [List.append_nil] at this
  exact this
theorem goG_first (c : UInt8) (s t : ByteArray) (h1 : (goG g most (partsB c s) 0 []).2.1 ≠ 0) : goG g most (partsB c (s ++ ofL [c] ++ t)) 0 [] = goG g most (partsB c s) 0 [] := by
  rw [partsB_app, goG_app hg, if_neg h1]
end
end Go.Proofs.YtakcfgmibijdnaaGreatDoor

/- A list cut at a mark once: plain facts. -/
namespace Go.Proofs.YtakcfgmibijdnaaGreatDoor

/-- A list's part ahead of a mark, the part behind it, and whether it stands there. -/
def cutL (c : UInt8) : List UInt8 → List UInt8 × List UInt8 × Bool
  | [] => ([], [], false)
  | x :: l => if x = c then ([], l, true) else (x :: (cutL c l).1, (cutL c l).2.1, (cutL c l).2.2)
def cutN (c : UInt8) (s : ByteArray) : ByteArray := ofL (cutL c s.data.toList).1
def cutV (c : UInt8) (s : ByteArray) : ByteArray := ofL (cutL c s.data.toList).2.1
def cutH (c : UInt8) (s : ByteArray) : Bool := (cutL c s.data.toList).2.2
theorem cutL_none (c : UInt8) : ∀ (a : List UInt8), (∀ x ∈ a, x ≠ c) → cutL c a = (a, [], false)
  | [], _ => rfl
  | x :: a, h => by rw [cutL, if_neg (h x (by simp)), cutL_none c a (fun y hy => h y (by simp [hy]))]
theorem cutL_cut (c : UInt8) (b : List UInt8) : ∀ (a : List UInt8), (∀ x ∈ a, x ≠ c) → cutL c (a ++ c :: b) = (a, b, true)
  | [], _ => by simp [cutL]
  | x :: a, h => by rw [List.cons_append, cutL, if_neg (h x (by simp)), cutL_cut c b a (fun y hy => h y (by simp [hy]))]
theorem cutL_len (c : UInt8) (l : List UInt8) : (cutL c l).1.length + (cutL c l).2.1.length + (if (cutL c l).2.2 = true then 1 else 0) = l.length := by
  rcases first_cut c l with h | ⟨a, b, e, h⟩
  · rw [cutL_none c l h]; simp
  · subst e; rw [cutL_cut c b a h]; simp; omega
theorem cutN_size (c : UInt8) (s : ByteArray) : (cutN c s).size ≤ s.size := by
  have := cutL_len c s.data.toList
  have hl : s.data.toList.length = s.size := rfl
  unfold cutN; rw [ofL_size]; omega
theorem cutV_size (c : UInt8) (s : ByteArray) : (cutV c s).size ≤ s.size := by
  have := cutL_len c s.data.toList
  have hl : s.data.toList.length = s.size := rfl
  unfold cutV; rw [ofL_size]; omega
theorem ofL_data (l : List UInt8) : (ofL l).data.toList = l := by simp [ofL]
/-- The index of a mark tells where a text is cut. -/
theorem cut_ways (c : UInt8) (s : ByteArray) : (Lib.indexByte s.data.toList c = -1 ∧ cutN c s = s ∧ cutV c s = ⟨#[]⟩ ∧ cutH c s = false ∧ ∀ j, j < s.size → byteAt s j ≠ c) ∨
    ∃ i : Nat, Lib.indexByte s.data.toList c = i ∧ i < s.size ∧ cutN c s = s.extract 0 i ∧ cutV c s = s.extract (i + 1) s.size ∧ cutH c s = true ∧ byteAt s i = c ∧ ∀ j, j < i → byteAt s j ≠ c := by
  have hl : s.data.toList.length = s.size := rfl
  have hget : ∀ j, (h : j < s.size) → byteAt s j = s.data.toList[j] := fun j h => by unfold byteAt; rw [List.getD, List.getElem?_eq_getElem (by omega)]; rfl
  unfold cutN cutV cutH
  rcases first_cut c s.data.toList with h | ⟨a, b, e, h⟩
  · refine .inl ⟨by rw [← Lib.index_one]; exact split_index_none h, ?_, ?_, ?_, fun j hj => ?_⟩
    · rw [cutL_none c _ h]; exact ofL_list s
    · rw [cutL_none c _ h]; rfl
    · rw [cutL_none c _ h]
    · rw [hget j hj]; exact h _ (List.getElem_mem _)
  · have hs : s.size = a.length + 1 + b.length := by rw [← hl, e]; simp; omega
    refine .inr ⟨a.length, by rw [← Lib.index_one, e]; exact split_index h, by omega, ?_, ?_, ?_, ?_, fun j hj => ?_⟩
    · rw [e, cutL_cut c b a h]
      apply ByteArray.ext
      apply Array.ext'
      rw [Lib.extract_data, e]
      simp [ofL]
    · rw [e, cutL_cut c b a h]
      apply ByteArray.ext
      apply Array.ext'
      rw [Lib.extract_data, e, hs]
      simp [ofL]
    · rw [e, cutL_cut c b a h]
    · rw [hget _ (by omega)]; simp [e]
    · rw [hget _ (by omega)]
      have : s.data.toList[j]'(by omega) = a[j] := by simp [e, List.getElem_append_left, hj]
      rw [this]
      exact h _ (List.getElem_mem _)
/-- Where a text is cut, as one who goes from byte to byte finds it. -/
theorem cut_lim (c : UInt8) (s : ByteArray) : ∃ i, i ≤ s.size ∧ (∀ j, j < i → byteAt s j ≠ c) ∧ cutN c s = s.extract 0 i ∧ (cutN c s).size = i ∧ ((i = s.size ∧ cutV c s = ⟨#[]⟩ ∧ cutH c s = false) ∨ (i < s.size ∧ byteAt s i = c ∧ cutV c s = s.extract (i + 1) s.size ∧ cutH c s = true)) := by
  rcases cut_ways c s with ⟨_, e1, e2, e3, h⟩ | ⟨i, _, hi, e1, e2, e3, h0, h⟩
  · refine ⟨s.size, Nat.le_refl _, h, ?_, by rw [e1], .inl ⟨rfl, e2, e3⟩⟩
    rw [e1]
    apply ByteArray.ext
    apply Array.ext'
    rw [Lib.extract_data]
    have hl : s.data.toList.length = s.size := rfl
    rw [List.drop_zero, Nat.sub_zero, ← hl, List.take_length]
  · exact ⟨i, by omega, h, e1, by rw [e1, ByteArray.size_extract]; omega, .inr ⟨hi, h0, e2, e3⟩⟩
theorem u8_neN {b : UInt8} {n : Nat} (hn : n < 256) (h : b ≠ UInt8.ofNat n) : ((b.toNat : Int) != (n : Int)) = true := by
  simp only [bne_iff_ne, ne_eq, Int.ofNat_inj]
  intro e
  apply h
  apply UInt8.toNat_inj.1
  rw [e, UInt8.toNat_ofNat_of_lt' hn]
theorem u8_eqN {b : UInt8} {n : Nat} (hn : n < 256) (h : b = UInt8.ofNat n) : ((b.toNat : Int) != (n : Int)) = false := by
  subst h
  rw [UInt8.toNat_ofNat_of_lt' hn]
  simp
theorem byteAt_ix {s : ByteArray} {i : Nat} (h : i < s.size) : byteAt s i = s[i] := by simp [byteAt, List.getD, h]; rfl
end Go.Proofs.YtakcfgmibijdnaaGreatDoor
