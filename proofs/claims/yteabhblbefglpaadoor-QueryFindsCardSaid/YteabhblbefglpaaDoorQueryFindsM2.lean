/- Rows of strings of a call's own; two rows of strings held against each other; is a string among them. -/
import Derived.Test.YteabhblbefglpaaDoorQueryFindsM1
import Derived.Laws.OwnMore
import Derived.Deep.OwnRows
import Derived.Maps.AppendAt
import Derived.Lib.SlicesS
import Derived.Test.YteabhblbefglpaaDoorShelf
import Derived.Laws.Tables
import Derived.Laws.ResultCell

namespace Go.Proofs.YteabhblbefglpaaDoor
open Go.RowKit

theorem info_strS : (Tryd.prog.info? 9).map (fun i => (i.zero, i.size, i.bytes)) = some (some (.string ByteArray.empty), 1, 16) := by kernel_rfl
def OwnS (w : World) (base : Nat) (v : Value) (l : List ByteArray) : Prop := w.ownsRow base 9 1 v l.length (l.map strV)
theorem OwnS.below {w w' : World} {base : Nat} {v : Value} {l : List ByteArray} (h : OwnS w base v l) (hb : Below w.heap.size w w') : OwnS w' base v l := ownsRow_below h hb
theorem OwnS.drewN {w : World} {base : Nat} {v : Value} {l : List ByteArray} (h : OwnS w base v l) (m : Nat) : OwnS (w.drewN m) base v l := h
theorem OwnS.nil (w : World) (base : Nat) : OwnS w base (.slice none 0 0) [] := World.ownsRow_nil _ _ _ _
theorem OwnS.lit0 (w : World) (base : Nat) (hb : base ≤ w.heap.size) : OwnS (w.alloc (.cells #[] 9)) base (.slice (some ⟨w.heap.size, 0, none⟩) 0 0) [] :=
  World.ownsRow_lit w #[] 0 hb (Nat.zero_le _) rfl
theorem OwnS.under {w0 w w' : World} {base : Nat} {v : Value} {l : List ByteArray} (h : OwnS w base v l) (hb : Below w0.heap.size w0 w) (hB : w0.heap.size ≤ base) (hg : w.grownBy w' v.ownBlock) : Below w0.heap.size w0 w' :=
  hb.grown hg hb.size (fun j hj => Nat.le_trans hB (World.ownsRow.lt h j hj).1)
theorem OwnS.sl {w : World} {base : Nat} {v : Value} {l : List ByteArray} (h : OwnS w base v l) : ∃ a c, v = .slice a l.length c ∧ l.length ≤ c ∧ c ≤ maxLen ∧ RowSl w a (l.map strV) := by
  have := row_sl h (by simp)
  simpa using this
theorem wpList_app_str {w : World} {ops : Array Oper} {rest : List Oper} {o : Oper} {a : Act} {Q : Exit → Act → World → Prop} (hgd : o.guard = none) (s x : Operand) (ho : o.op = .call { callee := .builtin .append, args := #[s, x], argTypes := #[69, 69] })
    (base : Nat) (v : Value) (l : List ByteArray) (hs : a.eval s = v) (hown : OwnS w base v l) (g c : Nat) (p : ByteArray) (hx : a.eval x = .slice (some ⟨g, 0, none⟩) 1 c) (hb : w.heap[g]? = some (.cells #[.string p] 9 (0, 0)))
    (hl : l.length ≤ 1073741824) (hbase : base ≤ w.heap.size)
    (h : ∀ v' w', OwnS w' base v' (l ++ [p]) → w.grownBy w' v.ownBlock → wpList Tryd.prog ops Q rest (a.put o.dst v') w') : wpList Tryd.prog ops Q (o :: rest) a w := by
  obtain ⟨i, hi, hz, hsize, hby⟩ := info_parts info_strS
  refine wpList_append_own _ hgd s x 69 ho base 9 i _ 1 16 Tryd.underlying69 hi hz hsize hby rfl (by decide) v _ _ hs hown _ 1 c [strV p] hx rfl ?_ ?_ (by unfold maxLen; omega) (by omega) hbase ?_
  · intro j u hj
    match j, hj with
    | 0, hj =>
      simp at hj; subst hj
      rw [Addr.add_lit, Nat.zero_add, cell_of_row w g 0 _ _ _ hb]
      rfl
  · intro u hu; simp at hu; subst hu; rfl
  · intro v' w' h1 h2 _
    refine h v' w' ?_ h2
    unfold OwnS
    rw [List.length_append, List.map_append]
    exact h1
theorem RowSl.strs {w : World} {a : Option Addr} {l : List ByteArray} (h : RowSl w a (l.map strV)) (hne : 0 < l.length) : ∃ b, a = some ⟨b, 0, none⟩ ∧ b < w.heap.size ∧ ∀ j, j < l.length → w.cell? ⟨b, 0 + j, none⟩ = some (.string (l.getD j ByteArray.empty)) := by
  obtain ⟨x, hx⟩ : ∃ x, l[0]? = some x := ⟨_, List.getElem?_eq_getElem hne⟩
  obtain ⟨b, rfl, hb, _⟩ := h 0 (strV x) (by rw [List.getElem?_map, hx]; rfl)
  refine ⟨b, rfl, hb, fun j hj => ?_⟩
  obtain ⟨b', e, _, hc⟩ := h j (strV l[j]) (by rw [List.getElem?_map, List.getElem?_eq_getElem hj]; rfl)
  cases e
  rw [Nat.zero_add, hc]
  simp [strV, List.getD, hj]
theorem strs_Contains (a : Option Addr) (c : Nat) (l : List ByteArray) (x : ByteArray) (w : World) (h : RowSl w a (l.map strV)) (hl : l.length ≤ 16777216) :
    Calls Tryd.prog 70 #[.slice a l.length c, .string x] w fun e w' => e = .returned (.bool (l.any fun y => decide (y = x))) ∧ w' = w := by
  by_cases h0 : 0 < l.length
  · obtain ⟨b, rfl, hb, hc⟩ := h.strs h0
    refine (Tryd.slices_Contains_string b 0 l.length c l x w (Nat.le_refl _) (by omega) hc).mono ?_
    rintro e w' ⟨rfl, rfl⟩
    refine ⟨?_, rfl⟩
    congr 2
    rw [List.take_length, Bool.eq_iff_iff, Lib.containsS_iff, List.any_eq_true]
    exact ⟨fun h => ⟨x, h, by simp⟩, fun ⟨y, hy, h⟩ => by simp at h; exact h ▸ hy⟩
  · obtain rfl : l = [] := List.eq_nil_of_length_eq_zero (by omega)
    refine (Tryd.slices_Contains_string_empty a c x w).mono ?_
    rintro e w' ⟨rfl, rfl⟩
    refine ⟨?_, rfl⟩
    congr 2
set_option maxHeartbeats 1600000 in
theorem ref_SameR (a1 a2 : Option Addr) (c1 c2 : Nat) (l1 l2 : List ByteArray) (w : World) (h1 : RowSl w a1 (l1.map strV)) (h2 : RowSl w a2 (l2.map strV)) (hn1 : l1.length ≤ 16777216) (hn2 : l2.length ≤ 16777216) :
    Calls Tryd.prog 39 #[.slice a1 l1.length c1, .slice a2 l2.length c2] w fun e w' => e = .returned (.bool (decide (l1 = l2))) ∧ ∃ m, w.drewN m = w' := by
  by_cases hn : l1.length = l2.length
  · by_cases h0 : 0 < l1.length
    · obtain ⟨b1, rfl, _, k1⟩ := h1.strs h0
      obtain ⟨b2, rfl, _, k2⟩ := h2.strs (by omega)
      exact ref_Same b1 0 l1.length c1 b2 0 l2.length c2 l1 l2 w ⟨rfl, k1⟩ ⟨rfl, k2⟩ (by omega) (by omega)
    · obtain rfl : l1 = [] := List.eq_nil_of_length_eq_zero (by omega)
      obtain rfl : l2 = [] := List.eq_nil_of_length_eq_zero (by omega)
      show Calls Tryd.prog 39 #[.slice a1 0 c1, .slice a2 0 c2] w fun e w' => e = .returned (.bool true) ∧ ∃ m, w.drewN m = w'
      clear h1 h2 hn1 hn2 hn h0
      go_enter Tryd.func39, Tryd.ntmps39
      go_wp2_with fail
      go_loopw [5] (fun i wr => i = .int .i64 0 ∧ w = wr) (fun _ _ => 0)
      case atStart => exact ⟨rfl, rfl⟩
      case round =>
        obtain ⟨rfl, rfl⟩ := hrel
        go_wp2_with fail
        go_ret
        exact ⟨rfl, 0, rfl⟩
  · have e1 : ((l1.length : Int) != (l2.length : Int)) = true := by simp; omega
    have hne : l1 ≠ l2 := fun h => hn (by rw [h])
    have HNE := Lib.hid hne
    clear hne hn h1 h2
    go_enter Tryd.func39, Tryd.ntmps39
    go_wp2_with fail
    go_ret
    exact ⟨ret_bool (decide_eq_false HNE.out).symm, 0, rfl⟩
end Go.Proofs.YteabhblbefglpaaDoor

/- Items, in memory. -/
namespace Go.Proofs.YteabhblbefglpaaDoor
open Go.RowKit

structure It where
  name : ByteArray
  value : ByteArray
  has : Bool
deriving DecidableEq

theorem info_item : (Tryd.prog.info? 94).map (fun i => (i.zero, i.size, i.bytes)) = some (some (.agg #[.string ByteArray.empty, .string ByteArray.empty, .bool false]), 3, 40) := by kernel_rfl

def itemC (x : It) : List Value := [.string x.name, .string x.value, .bool x.has]
def itemsV (l : List It) : List Value := l.flatMap itemC
theorem itemsV_len (l : List It) : (itemsV l).length = l.length * 3 := by
  induction l with
  | nil => rfl
  | cons p l ih =>
    unfold itemsV at ih ⊢
    rw [List.flatMap_cons, List.length_append, ih, List.length_cons]
    show 3 + _ = _
    omega
theorem itemsV_app (a b : List It) : itemsV (a ++ b) = itemsV a ++ itemsV b := by unfold itemsV; exact List.flatMap_append
theorem itemsV_at {l : List It} {i : Nat} {p : It} (h : l[i]? = some p) (j : Nat) (hj : j < 3) : (itemsV l)[i * 3 + j]? = (itemC p)[j]? := by
  induction l generalizing i with
  | nil => simp at h
  | cons q l ih =>
    cases i with
    | zero =>
      simp at h; subst h
      show (itemC q ++ itemsV l)[0 * 3 + j]? = _
      rw [List.getElem?_append_left (by show _ < 3; omega)]
      congr 1; omega
    | succ i =>
      simp at h
      show (itemC q ++ itemsV l)[(i + 1) * 3 + j]? = _
      rw [List.getElem?_append_right (by show 3 ≤ _; omega), ← ih h]
      congr 1
      show (i + 1) * 3 + j - 3 = _
      omega
theorem itemC_one (p : It) : ∀ u ∈ itemC p, u.oneCell' = true := by
  intro u hu
  unfold itemC at hu
  simp at hu
  rcases hu with rfl | rfl | rfl <;> rfl

def OwnI (w : World) (base : Nat) (v : Value) (l : List It) : Prop := w.ownsRow base 94 3 v l.length (itemsV l)
theorem OwnI.below {w w' : World} {base : Nat} {v : Value} {l : List It} (h : OwnI w base v l) (hb : Below w.heap.size w w') : OwnI w' base v l := ownsRow_below h hb
theorem OwnI.nil (w : World) (base : Nat) : OwnI w base (.slice none 0 0) [] := World.ownsRow_nil _ _ _ _
theorem OwnI.base' {w : World} {base base' : Nat} {v : Value} {l : List It} (h : OwnI w base v l) (hb : base' ≤ base) : OwnI w base' v l := ownsRow_base h hb
theorem OwnI.under {w0 w w' : World} {base : Nat} {v : Value} {l : List It} (h : OwnI w base v l) (hb : Below w0.heap.size w0 w) (hB : w0.heap.size ≤ base) (hg : w.grownBy w' v.ownBlock) : Below w0.heap.size w0 w' :=
  hb.grown hg hb.size (fun j hj => Nat.le_trans hB (World.ownsRow.lt h j hj).1)
theorem wpList_app_item {w : World} {ops : Array Oper} {rest : List Oper} {o : Oper} {a : Act} {Q : Exit → Act → World → Prop} (hgd : o.guard = none) (s x : Operand) (ho : o.op = .call { callee := .builtin .append, args := #[s, x], argTypes := #[52, 52] })
    (base : Nat) (v : Value) (l : List It) (hs : a.eval s = v) (hown : OwnI w base v l) (g c : Nat) (p : It) (hx : a.eval x = .slice (some ⟨g, 0, none⟩) 1 c) (hb : w.heap[g]? = some (.cells (itemC p).toArray 94 (0, 0)))
    (hl : l.length ≤ 1073741824) (hbase : base ≤ w.heap.size)
    (h : ∀ v' w', OwnI w' base v' (l ++ [p]) → w.grownBy w' v.ownBlock → wpList Tryd.prog ops Q rest (a.put o.dst v') w') : wpList Tryd.prog ops Q (o :: rest) a w := by
  obtain ⟨i, hi, hz, hsize, hby⟩ := info_parts info_item
  refine wpList_append_own _ hgd s x 52 ho base 94 i _ 3 40 Tryd.underlying52 hi hz hsize hby rfl (by decide) v _ _ hs hown _ 1 c (itemC p) hx rfl ?_ (itemC_one p) (by unfold maxLen; omega) (by omega) hbase ?_
  · intro j u hj
    rw [Addr.add_lit, Nat.zero_add, cell_of_row w g j _ _ _ hb, ← hj]
    simp
  · intro v' w' h1 h2 _
    refine h v' w' ?_ h2
    unfold OwnI
    rw [List.length_append, itemsV_app]
    have : itemsV [p] = itemC p := by unfold itemsV; simp
    rw [this]
    exact h1

theorem wpList_app_item_at {w : World} {ops : Array Oper} {rest : List Oper} {o : Oper} {a : Act} {Q : Exit → Act → World → Prop} (hgd : o.guard = none) (s x : Operand) (ho : o.op = .call { callee := .builtin .append, args := #[s, x], argTypes := #[52, 52] })
    (base : Nat) (v : Value) (l : List It) (hs : a.eval s = v) (hown : OwnI w base v l) (g c : Nat) (p : It) (hx : a.eval x = .slice (some ⟨g, 0, none⟩) 1 c) (hb : w.heap[g]? = some (.cells (itemC p).toArray 94 (0, 0)))
    (hl : l.length ≤ 1073741824) (hbase : base ≤ w.heap.size)
    (h : ∀ v' w', OwnI w' base v' (l ++ [p]) → w.grownBy w' v.ownBlock → (v'.ownBlock = v.ownBlock ∨ v'.ownBlock = some w.heap.size) → wpList Tryd.prog ops Q rest (a.put o.dst v') w') : wpList Tryd.prog ops Q (o :: rest) a w := by
  obtain ⟨i, hi, hz, hsize, hby⟩ := info_parts info_item
  refine wpList_append_own_at _ hgd s x 52 ho base 94 i _ 3 40 Tryd.underlying52 hi hz hsize hby rfl (by decide) v _ _ hs hown _ 1 c (itemC p) hx rfl ?_ (itemC_one p) (by unfold maxLen; omega) (by omega) hbase ?_
  · intro j u hj
    rw [Addr.add_lit, Nat.zero_add, cell_of_row w g j _ _ _ hb, ← hj]
    simp
  · intro v' w' h1 h2 _ h3
    refine h v' w' ?_ h2 h3
    unfold OwnI
    rw [List.length_append, itemsV_app]
    have : itemsV [p] = itemC p := by unfold itemsV; simp
    rw [this]
    exact h1
/-- A row that is read, beside a row of the call's own. -/
def Beside (pa : Option Addr) (v : Value) : Prop := ∀ b, pa = some ⟨b, 0, none⟩ → v.ownBlock ≠ some b
theorem RowSl.grown {w w2 : World} {pa : Option Addr} {l : List Value} {v : Value} (h : RowSl w pa l) (hg : w.grownBy w2 v.ownBlock) (hne : Beside pa v) : RowSl w2 pa l := by
  intro i x hx
  obtain ⟨b, e, hlt, h1⟩ := h i x hx
  have hk := hg.block b hlt (fun e' => hne b e e'.symm)
  exact ⟨b, e, Nat.lt_of_lt_of_le hlt hg.size, (World.cell?_of_block hk).trans h1⟩
theorem Beside.at {N : Nat} {pa : Option Addr} {v v' : Value} (h : Beside pa v) (hat : v'.ownBlock = v.ownBlock ∨ v'.ownBlock = some N) (hlt : ∀ b, pa = some ⟨b, 0, none⟩ → b < N) : Beside pa v' := by
  intro b hb e
  rcases hat with hat | hat
  · exact h b hb (hat ▸ e)
  · have := hlt b hb
    rw [hat] at e
    injection e with e
    omega
/-- A slice of items. -/
def ItemsSl (w : World) (a : Option Addr) (l : List It) : Prop := ∀ (i : Nat) (p : It), l[i]? = some p → ∃ b off, a = some ⟨b, off, none⟩ ∧ b < w.heap.size ∧
  w.cell? ⟨b, off + i * 3, none⟩ = some (.string p.name) ∧ w.cell? ⟨b, off + i * 3 + 1, none⟩ = some (.string p.value) ∧ w.cell? ⟨b, off + i * 3 + 2, none⟩ = some (.bool p.has)
theorem ItemsSl.below {w w' : World} {a : Option Addr} {l : List It} (h : ItemsSl w a l) (hb : Below w.heap.size w w') : ItemsSl w' a l := by
  intro i p hp
  obtain ⟨b, off, e, hlt, h1, h2, h3⟩ := h i p hp
  exact ⟨b, off, e, Nat.lt_of_lt_of_le hlt hb.size, (hb.cell (p := ⟨b, off + i * 3, none⟩) hlt).trans h1, (hb.cell (p := ⟨b, off + i * 3 + 1, none⟩) hlt).trans h2, (hb.cell (p := ⟨b, off + i * 3 + 2, none⟩) hlt).trans h3⟩
/-- Own items as a slice: where they lie. -/
def ItemsOwn (w : World) (a : Option Addr) (l : List It) : Prop := ∀ (i : Nat) (p : It), l[i]? = some p → ∃ b, a = some ⟨b, 0, none⟩ ∧ b < w.heap.size ∧
  w.cell? ⟨b, i * 3, none⟩ = some (.string p.name) ∧ w.cell? ⟨b, i * 3 + 1, none⟩ = some (.string p.value) ∧ w.cell? ⟨b, i * 3 + 2, none⟩ = some (.bool p.has)
theorem ItemsOwn.below {w w' : World} {a : Option Addr} {l : List It} (h : ItemsOwn w a l) (hb : Below w.heap.size w w') : ItemsOwn w' a l := by
  intro i p hp
  obtain ⟨b, e, hlt, h1, h2, h3⟩ := h i p hp
  exact ⟨b, e, Nat.lt_of_lt_of_le hlt hb.size, (hb.cell (p := ⟨b, i * 3, none⟩) hlt).trans h1, (hb.cell (p := ⟨b, i * 3 + 1, none⟩) hlt).trans h2, (hb.cell (p := ⟨b, i * 3 + 2, none⟩) hlt).trans h3⟩
theorem ItemsOwn.items {w : World} {a : Option Addr} {l : List It} (h : ItemsOwn w a l) : ItemsSl w a l := by
  intro i p hp
  obtain ⟨b, e, hlt, h1, h2, h3⟩ := h i p hp
  exact ⟨b, 0, e, hlt, by rw [Nat.zero_add]; exact h1, by rw [Nat.zero_add]; exact h2, by rw [Nat.zero_add]; exact h3⟩
theorem OwnI.sl {w : World} {base : Nat} {v : Value} {l : List It} (h : OwnI w base v l) : ∃ a c, v = .slice a l.length c ∧ l.length ≤ c ∧ c ≤ maxLen ∧ ItemsOwn w a l := by
  unfold OwnI at h
  rcases h.2 with ⟨e0, e1⟩ | ⟨g, cap, cur, e0, hg, hh, h1, h2, _⟩
  · refine ⟨none, 0, by rw [e0, e1], by omega, by unfold maxLen; omega, fun i p hp => ?_⟩
    have := (List.getElem?_eq_some_iff.1 hp).1
    omega
  · refine ⟨_, cap, e0, h1, h2, fun i p hp => ?_⟩
    subst e0
    have hc := h.cells (g := g) rfl
    have c0 := hc (i * 3 + 0) _ ((itemsV_at hp 0 (by omega)).trans rfl)
    have c1 := hc (i * 3 + 1) _ ((itemsV_at hp 1 (by omega)).trans rfl)
    have c2 := hc (i * 3 + 2) _ ((itemsV_at hp 2 (by omega)).trans rfl)
    simp only [Addr.add_lit, Nat.zero_add, Nat.add_zero] at c0 c1 c2
    exact ⟨g, rfl, lt_of_block hh, c0, c1, c2⟩
end Go.Proofs.YteabhblbefglpaaDoor

/- The values of a name, and the names, of items, in plain words. -/
namespace Go.Proofs.YteabhblbefglpaaDoor

def valuesB (l : List It) (n : ByteArray) : List ByteArray := (l.filter fun x => decide (x.name = n)).map (·.value)
theorem values_snoc {l : List It} {k : Nat} {x : It} (n : ByteArray) (h : l[k]? = some x) : valuesB (l.take (k + 1)) n = if x.name = n then valuesB (l.take k) n ++ [x.value] else valuesB (l.take k) n := by
  unfold valuesB
  rw [List.take_add_one, h, List.filter_append, List.map_append]
  by_cases hx : x.name = n
  · rw [if_pos hx]; simp [hx]
  · rw [if_neg hx]; simp [hx]
theorem values_len (l : List It) (n : ByteArray) : (valuesB l n).length ≤ l.length := by
  unfold valuesB
  rw [List.length_map]
  exact List.length_filter_le _ _
/-- The names of the first so many items, each once. -/
def namesK (l : List It) : Nat → List ByteArray
  | 0 => []
  | k + 1 => match l[k]? with
    | some x => if (l.take k).any (fun y => decide (y.name = x.name)) then namesK l k else namesK l k ++ [x.name]
    | none => namesK l k
theorem names_old {l : List It} {k : Nat} {x : It} (h : l[k]? = some x) (h2 : (l.take k).any (fun y => decide (y.name = x.name)) = true) : namesK l (k + 1) = namesK l k := by
  show (match l[k]? with | some x => _ | none => _) = _
  rw [h]; dsimp only; rw [if_pos h2]
theorem names_new {l : List It} {k : Nat} {x : It} (h : l[k]? = some x) (h2 : (l.take k).any (fun y => decide (y.name = x.name)) = false) : namesK l (k + 1) = namesK l k ++ [x.name] := by
  show (match l[k]? with | some x => _ | none => _) = _
  rw [h]; dsimp only; rw [if_neg (by rw [h2]; decide)]
theorem names_mem (l : List It) (n : ByteArray) : ∀ k, k ≤ l.length → (n ∈ namesK l k ↔ (l.take k).any (fun y => decide (y.name = n)) = true) := by
  intro k
  induction k with
  | zero => intro _; simp [namesK]
  | succ k ih =>
    intro hk
    have hx := List.getElem?_eq_getElem (show k < l.length by omega)
    generalize l[k] = x at hx
    have ih := ih (by omega)
    rw [List.take_add_one, hx, List.any_append]
    cases hold : (l.take k).any (fun y => decide (y.name = x.name)) with
    | true =>
      rw [names_old hx hold, ih]
      by_cases hn : x.name = n
      · subst hn; rw [hold]; simp
      · simp [hn]
    | false =>
      rw [names_new hx hold, List.mem_append, ih]
      by_cases hn : x.name = n
      · subst hn; simp
      · have : n ≠ x.name := fun h => hn h.symm
        simp [hn, this]
theorem names_len (l : List It) : ∀ k, (namesK l k).length ≤ k := by
  intro k
  induction k with
  | zero => exact Nat.le_refl _
  | succ k ih =>
    cases h : l[k]? with
    | none =>
      have : namesK l (k + 1) = namesK l k := by show (match l[k]? with | some x => _ | none => _) = _; rw [h]
      rw [this]; omega
    | some x =>
      cases hold : (l.take k).any (fun y => decide (y.name = x.name)) with
      | true => rw [names_old h hold]; omega
      | false => rw [names_new h hold]; simp; omega
theorem any_snoc {l : List It} {k : Nat} {x : It} (P : It → Bool) (h : l[k]? = some x) : (l.take (k + 1)).any P = ((l.take k).any P || P x) := by
  rw [List.take_add_one, h, List.any_append]
  simp
end Go.Proofs.YteabhblbefglpaaDoor

/- An item in a variable of a function's own; given back out of it. -/
namespace Go.Proofs.YteabhblbefglpaaDoor
open Go.RowKit

theorem size_item : (Tryd.prog.info? 94).map (·.size) = some 3 := by kernel_rfl
def itemA (n v : ByteArray) (h : Bool) : Array Value := #[.string n, .string v, .bool h]
/-- In block g lies an item. -/
def ItemAt (w : World) (g : Nat) (n v : ByteArray) (h : Bool) : Prop := w.heap[g]? = some (.cells #[.string n, .string v, .bool h] 94 (0, 0))
section
variable {w w' : World} {g : Nat} {n v : ByteArray} {b : Bool}
theorem ItemAt.new : ItemAt (w.alloc (.cells #[.string n, .string v, .bool b] 94)) w.heap.size n v b := heap_alloc_new w _
theorem ItemAt.lt (h : ItemAt w g n v b) : g < w.heap.size := lt_of_block h
theorem ItemAt.below (h : ItemAt w g n v b) (hb : Below w.heap.size w w') : ItemAt w' g n v b := (hb.block g h.lt).trans h
theorem ItemAt.below' {B : Nat} (h : ItemAt w g n v b) (hb : Below B w w') (hB : g < B) : ItemAt w' g n v b := (hb.block g hB).trans h
theorem ItemAt.drewN (h : ItemAt w g n v b) (m : Nat) : ItemAt (w.drewN m) g n v b := h
theorem ItemAt.set (h : ItemAt w g n v b) (n' v' : ByteArray) (b' : Bool) : ItemAt (w.setRow g #[.string n', .string v', .bool b']) g n' v' b' := setRow_heap w g _ _ _ _ h
theorem ItemAt.setHas (h : ItemAt w g n v b) (b' : Bool) : ItemAt (w.setCell ⟨g, 2, none⟩ (.bool b')) g n v b' := by
  unfold ItemAt at h ⊢; simp [World.setCell, Array.getElem?_modify, h]
theorem ItemAt.setValue (h : ItemAt w g n v b) (v' : ByteArray) : ItemAt (w.setCell ⟨g, 1, none⟩ (.string v')) g n v' b := by
  unfold ItemAt at h ⊢; simp [World.setCell, Array.getElem?_modify, h]
theorem ItemAt.setName (h : ItemAt w g n v b) (n' : ByteArray) : ItemAt (w.setCell ⟨g, 0, none⟩ (.string n')) g n' v b := by
  unfold ItemAt at h ⊢; simp [World.setCell, Array.getElem?_modify, h]
theorem ItemAt.setOther (h : ItemAt w g n v b) {q : Nat} (hq : q ≠ g) (j : Nat) (u : Value) : ItemAt (w.setCell ⟨q, j, none⟩ u) g n v b := (Below.heap_setCell w ⟨q, j, none⟩ u g (fun e => hq e.symm)).trans h
theorem ItemAt.frozen (h : ItemAt w g n v b) (j : Nat) : w.frozen? ⟨g, j, none⟩ = false := by
  unfold ItemAt at h; simp [World.frozen?, h]
theorem ItemAt.load (h : ItemAt w g n v b) : (loadVar 94 ⟨g, 0, none⟩).run Tryd.prog w = .ok (.agg #[.string n, .string v, .bool b]) w :=
  run_loadVar_row w g _ _ _ _ _ h Tryd.underlying94 rfl (by rw [size_item]; rfl)
theorem ItemAt.cells (h : ItemAt w g n v b) : w.cell? ⟨g, 0, none⟩ = some (.string n) ∧ w.cell? ⟨g, 1, none⟩ = some (.string v) ∧ w.cell? ⟨g, 2, none⟩ = some (.bool b) := by
  unfold ItemAt at h
  refine ⟨?_, ?_, ?_⟩
  · rw [cell_of_row w g 0 _ _ _ h]; rfl
  · rw [cell_of_row w g 1 _ _ _ h]; rfl
  · rw [cell_of_row w g 2 _ _ _ h]; rfl
end
theorem below_setRowI {B : Nat} {a w : World} (h : Below B a w) {g : Nat} (hg : B ≤ g) (cs : Array Value) : Below B a (w.setRow g cs) :=
  ⟨h.os, h.tape, h.output, by simpa using h.size, fun k hk => (setRow_other w g k cs (by omega)).trans (h.block k hk)⟩
theorem FaultIs.setItem {w : World} {x : Value} {k i : Int} {m : Value} {g : Nat} {n v : ByteArray} {b : Bool} (h : FaultIs w x k i m) (hg : ItemAt w g n v b) (ds : Array Value) : FaultIs (w.setRow g ds) x k i m := by
  obtain ⟨q, rfl, hh⟩ := h
  have hne : q ≠ g := by
    rintro rfl
    unfold ItemAt at hg
    rw [hh] at hg
    injection hg with this
    injection this with h1 h2
    injection h1 with h3
    injection h3 with h4
    cases h4
  exact ⟨q, rfl, (setRow_other w g q ds hne).trans hh⟩
section
variable {fn : Func} {p u : Tmp} {tmps : Array Value} {w : World} {g : Nat} {n v : ByteArray} {b : Bool}
theorem results_item (h : fn.results = #[.cell p 94, .tmp u]) (hp : tmps.getD p undef = .pointer (some ⟨g, 0, none⟩)) (hg : ItemAt w g n v b) :
    (results fn tmps).run Tryd.prog w = .ok (.tuple #[.agg #[.string n, .string v, .bool b], tmps.getD u undef]) w := by
  rw [results_cell_tmp h, hp]
  simp [asAddr, Result.andThen, hg.load]
end
section
variable {w : World} {ops : Array Oper} {rest : List Oper} {o : Oper} {a : Act} {Q : Exit → Act → World → Prop}
theorem all_item (n v : ByteArray) (b : Bool) : (#[Value.string n, .string v, .bool b] : Array Value).all (·.oneCell') = true := by simp [Value.oneCell']
/-- An item is stored into a variable of the function's own. -/
theorem wpList_store_item (hgd : o.guard = none) (x y : Operand) (ho : o.op = .store 94 x y) (g : Nat) (n v : ByteArray) (b : Bool) (hx : a.eval x = .pointer (some ⟨g, 0, none⟩)) (hy : a.eval y = .agg #[.string n, .string v, .bool b]) (n0 v0 : ByteArray) (b0 : Bool) (hg : ItemAt w g n0 v0 b0)
    (h : ItemAt (w.setRow g #[.string n, .string v, .bool b]) g n v b → wpList Tryd.prog ops Q rest (a.put o.dst undef) (w.setRow g #[.string n, .string v, .bool b])) : wpList Tryd.prog ops Q (o :: rest) a w :=
  wpList_store_row hgd _ x y ho g _ hx hy _ _ hg (by rw [size_item]; rfl) rfl (all_item n v b) (h (hg.set _ _ _))
end
end Go.Proofs.YteabhblbefglpaaDoor

/- slices.IndexFunc and ContainsFunc of items. -/
namespace Go.Proofs.YteabhblbefglpaaDoor
open Go.RowKit

/-- The first place at which a test says yes; -1: none. -/
def findI (P : It → Bool) (l : List It) : Int := match l.findIdx? P with | some i => (i : Int) | none => -1
theorem findI_hit {P : It → Bool} {l : List It} {i : Nat} {x : It} (h : l[i]? = some x) (hx : P x = true) (hall : ∀ (j : Nat) (y : It), j < i → l[j]? = some y → P y = false) : findI P l = i := by
  unfold findI
  have : l.findIdx? P = some i := by
    rw [List.findIdx?_eq_some_iff_getElem]
    obtain ⟨hi, rfl⟩ := List.getElem?_eq_some_iff.1 h
    exact ⟨hi, hx, fun j hj => by rw [hall j _ hj (List.getElem?_eq_getElem (by omega))]; decide⟩
  rw [this]
theorem findI_none {P : It → Bool} {l : List It} (hall : ∀ (j : Nat) (y : It), l[j]? = some y → P y = false) : findI P l = -1 := by
  unfold findI
  have : l.findIdx? P = none := by
    rw [List.findIdx?_eq_none_iff]
    intro x hx
    obtain ⟨i, hi, rfl⟩ := List.mem_iff_getElem.1 hx
    exact hall i _ (List.getElem?_eq_getElem hi)
  rw [this]
theorem ItemsOwn.take {w : World} {a : Option Addr} {l : List It} (h : ItemsOwn w a l) (n : Nat) : ItemsOwn w a (l.take n) := by
  intro i p hp
  refine h i p ?_
  rw [List.getElem?_take] at hp
  split at hp
  · exact hp
  · cases hp
/-- A test that a closure makes of items, in whatever world lies behind w. -/
def TestI (w : World) (f : FuncId) (caps : Array Value) (P : It → Bool) : Prop := ∀ (W : World) (x : It), Below w.heap.size w W → Calls Tryd.prog f (#[.agg #[.string x.name, .string x.value, .bool x.has]] ++ caps) W fun e w' => e = .returned (.bool (P x)) ∧ Below W.heap.size W w'
set_option maxHeartbeats 1600000 in
set_option maxRecDepth 100000 in
theorem items_IndexFunc (pa : Option Addr) (c : Nat) (l : List It) (f : FuncId) (q : Nat) (P : It → Bool) (w : World) (hsl : ItemsOwn w pa l) (hl : l.length ≤ 16777216) (eg : ∀ args w, (callFunc f args).run Tryd.prog w = .ok (.enter f args) w) (hf : TestI w f #[.pointer (some ⟨q, 0, none⟩)] P) :
    Calls Tryd.prog 105 #[.slice pa l.length c, .func (.func f) #[] #[.pointer (some ⟨q, 0, none⟩)]] w fun e w' => e = .returned (.int .i64 (findI P l)) ∧ Below w.heap.size w w' := by
  have hF := Lib.hid hf
  clear hf
  go_enter Tryd.func105, Tryd.ntmps105
  go_wp2_with fail
  go_loopw [8] (fun x wr => ∃ i : Nat, i ≤ l.length ∧ x = .int .i64 i ∧ Below w.heap.size w wr ∧ ∀ (j : Nat) (y : It), j < i → l[j]? = some y → P y = false) (fun x _ => l.length - (intOf x).toNat)
  case atStart => exact ⟨0, Nat.zero_le _, rfl, Below.refl _ _, fun j y h => by omega⟩
  case round =>
    obtain ⟨i, hil, rfl, hbr, hall⟩ := hrel
    have HA := Lib.hid hall
    clear hall
    by_cases hlt : i < l.length
    · obtain ⟨x, hx⟩ : ∃ x, l[i]? = some x := ⟨_, List.getElem?_eq_getElem hlt⟩
      obtain ⟨b, rfl, hb, d0, d1, d2⟩ := (hsl.below hbr) i x hx
      have hhit := fun h => findI_hit hx h HA.out
      have hst : P x = false → ∀ (j : Nat) (y : It), j < i + 1 → l[j]? = some y → P y = false := fun h j y hj hy => by
        by_cases hji : j = i
        · subst hji; rw [hx] at hy; cases hy; exact h
        · exact HA.out j y (by omega) hy
      have HHIT := Lib.hid hhit
      have HST := Lib.hid hst
      have cF := Lib.hid (hF.out wr x hbr)
      obtain ⟨xn, xv, xh⟩ := x
      have hiI : (i : Int) < (l.length : Int) := by omega
      clear hhit hst hx HA hF
      generalize P ⟨xn, xv, xh⟩ = r at *
      go_wp2_with fail
      refine cF.out.mono ?_
      rintro e w2 ⟨rfl, hb2⟩
      have hbr2 := Bt hbr hb2
      cases r
      · have HX := Lib.hid (HST.out rfl)
        go_wp2_with fail
        go_roundw
        case rel => exact ⟨i + 1, by omega, by go_num, hbr2, HX.out⟩
        case measure => simp [intOf]; omega
      · have HX := Lib.hid (HHIT.out rfl)
        go_wp2_with fail
        go_ret
        exact ⟨ret_i64 HX.out.symm, hbr2⟩
    · obtain rfl : i = l.length := by omega
      have hn : findI P l = -1 := findI_none fun j y hy => HA.out j y (List.getElem?_eq_some_iff.1 hy).1 hy
      have HN := Lib.hid hn
      clear hn
      go_wp2_with fail
      go_ret
      exact ⟨ret_i64 HN.out.symm, hbr⟩
theorem findI_any (P : It → Bool) (l : List It) : decide (0 ≤ findI P l) = l.any P := by
  unfold findI
  cases h : l.findIdx? P with
  | none =>
    rw [List.findIdx?_eq_none_iff] at h
    have : l.any P = false := by rw [List.any_eq_false]; intro x hx; rw [h x hx]; decide
    rw [this]; rfl
  | some i =>
    rw [List.findIdx?_eq_some_iff_getElem] at h
    obtain ⟨hi, hx, _⟩ := h
    have : l.any P = true := by rw [List.any_eq_true]; exact ⟨l[i], List.getElem_mem _, hx⟩
    rw [this]
    simp
set_option maxHeartbeats 800000 in
theorem items_ContainsFunc (pa : Option Addr) (c : Nat) (l : List It) (f : FuncId) (q : Nat) (P : It → Bool) (w : World) (hsl : ItemsOwn w pa l) (hl : l.length ≤ 16777216) (eg : ∀ args w, (callFunc f args).run Tryd.prog w = .ok (.enter f args) w) (hf : TestI w f #[.pointer (some ⟨q, 0, none⟩)] P) :
    Calls Tryd.prog 69 #[.slice pa l.length c, .func (.func f) #[] #[.pointer (some ⟨q, 0, none⟩)]] w fun e w' => e = .returned (.bool (l.any P)) ∧ Below w.heap.size w w' := by
  have cI := Lib.hid (items_IndexFunc pa c l f q P w hsl hl eg hf)
  have HA := Lib.hid (findI_any P l)
  generalize findI P l = i at *
  clear hf hsl eg
  go_enter Tryd.func69, Tryd.ntmps69
  go_wp2_with fail
  refine cI.out.mono ?_
  rintro e w2 ⟨rfl, hb2⟩
  go_wp2_with fail
  go_ret
  exact ⟨ret_bool HA.out, hb2⟩
end Go.Proofs.YteabhblbefglpaaDoor
