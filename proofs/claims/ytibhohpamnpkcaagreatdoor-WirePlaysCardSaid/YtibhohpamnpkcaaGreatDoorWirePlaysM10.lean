/- A slice of one-cell elements that is read as values. -/
import Derived.Test.YtibhohpamnpkcaaGreatDoorWirePlaysM1
import Derived.Test.YtibhohpamnpkcaaGreatDoorWirePlaysM5
import Derived.Laws.OwnMore
import Derived.Deep.OwnRows
import Derived.Maps.AppendAt
import Derived.Laws.BitsLemmas
import Derived.Test.YtibhohpamnpkcaaGreatDoorShelf
import Derived.Lib.IndexLaws
import Derived.Lib.SplitLaws
import Derived.Lib.IndexBytes

namespace Go.Proofs.YtibhohpamnpkcaaGreatDoor
open Go.RowKit

/-- A slice of one-cell elements that reads as these values. -/
def RowSl (w : World) (a : Option Addr) (l : List Value) : Prop := ∀ i v, l[i]? = some v → ∃ b, a = some ⟨b, 0, none⟩ ∧ b < w.heap.size ∧ w.cell? ⟨b, i, none⟩ = some v
theorem row_sl {w : World} {base n : Nat} {e : TypeId} {v : Value} {l : List Value} (h : w.ownsRow base e 1 v n l) (hn : n = l.length) : ∃ a c, v = .slice a l.length c ∧ l.length ≤ c ∧ c ≤ maxLen ∧ RowSl w a l := by
  subst hn
  have h' := h
  rcases h.2 with ⟨e0, e1⟩ | ⟨g, cap, cur, e0, hg, hh, h1, h2, _⟩
  · refine ⟨none, 0, by rw [e0, e1], by omega, by unfold maxLen; omega, fun i c hc => ?_⟩
    have := (List.getElem?_eq_some_iff.1 hc).1
    omega
  · refine ⟨_, cap, e0, h1, h2, fun i c hc => ?_⟩
    have hlt := (List.getElem?_eq_some_iff.1 hc).1
    subst e0
    refine ⟨g, rfl, lt_of_block hh, ?_⟩
    rw [h'.cellAt i (by omega), hc]
theorem RowSl.below {w w' : World} {a : Option Addr} {l : List Value} (h : RowSl w a l) (hb : Below w.heap.size w w') : RowSl w' a l := by
  intro i v hv
  obtain ⟨b, e, hlt, h1⟩ := h i v hv
  exact ⟨b, e, Nat.lt_of_lt_of_le hlt hb.size, (hb.cell (p := ⟨b, i, none⟩) hlt).trans h1⟩
/-- .. where a newer row is written. -/
theorem RowSl.mid {w w1 w2 : World} {a : Option Addr} {l : List Value} {g : Nat} (h : RowSl w a l) (hb : Below w.heap.size w w1) (hg : w1.grownBy w2 (some g)) (hn : w.heap.size ≤ g) : RowSl w2 a l := by
  intro i v hv
  obtain ⟨b, e, hlt, h1⟩ := h i v hv
  have h2 := Nat.lt_of_lt_of_le hlt hb.size
  have hk := hg.block b h2 (fun e => by injection e with e; omega)
  exact ⟨b, e, Nat.lt_of_lt_of_le h2 hg.size, (World.cell?_of_block hk).trans ((hb.cell (p := ⟨b, i, none⟩) hlt).trans h1)⟩
end Go.Proofs.YtibhohpamnpkcaaGreatDoor

/- Items, in memory. -/
namespace Go.Proofs.YtibhohpamnpkcaaGreatDoor
open Go.RowKit

structure It where
  name : ByteArray
  value : ByteArray
  has : Bool
deriving DecidableEq

theorem info_item : (Tryz.prog.info? 102).map (fun i => (i.zero, i.size, i.bytes)) = some (some (.agg #[.string ByteArray.empty, .string ByteArray.empty, .bool false]), 3, 40) := by kernel_rfl

def itemC (x : It) : List Value := [.string x.name, .string x.value, .bool x.has]
def itemsV (l : List It) : List Value := l.flatMap itemC
theorem itemsV_len (l : List It) : (itemsV l).length = l.length * 3 := by
  induction l with
  | nil => rfl
  | cons p l ih =>
    unfold itemsV at ih ⊢
    rw [List.flatMap_cons, List.length_append, ih, List.length_cons]
    show 3 + _ = _
    omega
theorem itemsV_app (a b : List It) : itemsV (a ++ b) = itemsV a ++ itemsV b := by unfold itemsV; exact List.flatMap_append
theorem itemsV_at {l : List It} {i : Nat} {p : It} (h : l[i]? = some p) (j : Nat) (hj : j < 3) : (itemsV l)[i * 3 + j]? = (itemC p)[j]? := by
  induction l generalizing i with
  | nil => simp at h
  | cons q l ih =>
    cases i with
    | zero =>
      simp at h; subst h
      show (itemC q ++ itemsV l)[0 * 3 + j]? = _
      rw [List.getElem?_append_left (by show _ < 3; omega)]
      congr 1; omega
    | succ i =>
      simp at h
      show (itemC q ++ itemsV l)[(i + 1) * 3 + j]? = _
      rw [List.getElem?_append_right (by show 3 ≤ _; omega), ← ih h]
      congr 1
      show (i + 1) * 3 + j - 3 = _
      omega
theorem itemC_one (p : It) : ∀ u ∈ itemC p, u.oneCell' = true := by
  intro u hu
  unfold itemC at hu
  simp at hu
  rcases hu with rfl | rfl | rfl <;> rfl

def OwnI (w : World) (base : Nat) (v : Value) (l : List It) : Prop := w.ownsRow base 102 3 v l.length (itemsV l)
theorem OwnI.below {w w' : World} {base : Nat} {v : Value} {l : List It} (h : OwnI w base v l) (hb : Below w.heap.size w w') : OwnI w' base v l := ownsRow_below h hb
theorem OwnI.nil (w : World) (base : Nat) : OwnI w base (.slice none 0 0) [] := World.ownsRow_nil _ _ _ _
theorem OwnI.base' {w : World} {base base' : Nat} {v : Value} {l : List It} (h : OwnI w base v l) (hb : base' ≤ base) : OwnI w base' v l := ownsRow_base h hb
theorem OwnI.under {w0 w w' : World} {base : Nat} {v : Value} {l : List It} (h : OwnI w base v l) (hb : Below w0.heap.size w0 w) (hB : w0.heap.size ≤ base) (hg : w.grownBy w' v.ownBlock) : Below w0.heap.size w0 w' :=
  hb.grown hg hb.size (fun j hj => Nat.le_trans hB (World.ownsRow.lt h j hj).1)
theorem wpList_app_item {w : World} {ops : Array Oper} {rest : List Oper} {o : Oper} {a : Act} {Q : Exit → Act → World → Prop} (hgd : o.guard = none) (s x : Operand) (ho : o.op = .call { callee := .builtin .append, args := #[s, x], argTypes := #[60, 60] })
    (base : Nat) (v : Value) (l : List It) (hs : a.eval s = v) (hown : OwnI w base v l) (g c : Nat) (p : It) (hx : a.eval x = .slice (some ⟨g, 0, none⟩) 1 c) (hb : w.heap[g]? = some (.cells (itemC p).toArray 102 (0, 0)))
    (hl : l.length ≤ 1073741824) (hbase : base ≤ w.heap.size)
    (h : ∀ v' w', OwnI w' base v' (l ++ [p]) → w.grownBy w' v.ownBlock → wpList Tryz.prog ops Q rest (a.put o.dst v') w') : wpList Tryz.prog ops Q (o :: rest) a w := by
  obtain ⟨i, hi, hz, hsize, hby⟩ := info_parts info_item
  refine wpList_append_own _ hgd s x 60 ho base 102 i _ 3 40 Tryz.underlying60 hi hz hsize hby rfl (by decide) v _ _ hs hown _ 1 c (itemC p) hx rfl ?_ (itemC_one p) (by unfold maxLen; omega) (by omega) hbase ?_
  · intro j u hj
    rw [Addr.add_lit, Nat.zero_add, cell_of_row w g j _ _ _ hb, ← hj]
    simp
  · intro v' w' h1 h2 _
    refine h v' w' ?_ h2
    unfold OwnI
    rw [List.length_append, itemsV_app]
    have : itemsV [p] = itemC p := by unfold itemsV; simp
    rw [this]
    exact h1

theorem wpList_app_item_at {w : World} {ops : Array Oper} {rest : List Oper} {o : Oper} {a : Act} {Q : Exit → Act → World → Prop} (hgd : o.guard = none) (s x : Operand) (ho : o.op = .call { callee := .builtin .append, args := #[s, x], argTypes := #[60, 60] })
    (base : Nat) (v : Value) (l : List It) (hs : a.eval s = v) (hown : OwnI w base v l) (g c : Nat) (p : It) (hx : a.eval x = .slice (some ⟨g, 0, none⟩) 1 c) (hb : w.heap[g]? = some (.cells (itemC p).toArray 102 (0, 0)))
    (hl : l.length ≤ 1073741824) (hbase : base ≤ w.heap.size)
    (h : ∀ v' w', OwnI w' base v' (l ++ [p]) → w.grownBy w' v.ownBlock → (v'.ownBlock = v.ownBlock ∨ v'.ownBlock = some w.heap.size) → wpList Tryz.prog ops Q rest (a.put o.dst v') w') : wpList Tryz.prog ops Q (o :: rest) a w := by
  obtain ⟨i, hi, hz, hsize, hby⟩ := info_parts info_item
  refine wpList_append_own_at _ hgd s x 60 ho base 102 i _ 3 40 Tryz.underlying60 hi hz hsize hby rfl (by decide) v _ _ hs hown _ 1 c (itemC p) hx rfl ?_ (itemC_one p) (by unfold maxLen; omega) (by omega) hbase ?_
  · intro j u hj
    rw [Addr.add_lit, Nat.zero_add, cell_of_row w g j _ _ _ hb, ← hj]
    simp
  · intro v' w' h1 h2 _ h3
    refine h v' w' ?_ h2 h3
    unfold OwnI
    rw [List.length_append, itemsV_app]
    have : itemsV [p] = itemC p := by unfold itemsV; simp
    rw [this]
    exact h1
/-- A row that is read, beside a row of the call's own. -/
def Beside (pa : Option Addr) (v : Value) : Prop := ∀ b, pa = some ⟨b, 0, none⟩ → v.ownBlock ≠ some b
theorem RowSl.grown {w w2 : World} {pa : Option Addr} {l : List Value} {v : Value} (h : RowSl w pa l) (hg : w.grownBy w2 v.ownBlock) (hne : Beside pa v) : RowSl w2 pa l := by
  intro i x hx
  obtain ⟨b, e, hlt, h1⟩ := h i x hx
  have hk := hg.block b hlt (fun e' => hne b e e'.symm)
  exact ⟨b, e, Nat.lt_of_lt_of_le hlt hg.size, (World.cell?_of_block hk).trans h1⟩
theorem Beside.at {N : Nat} {pa : Option Addr} {v v' : Value} (h : Beside pa v) (hat : v'.ownBlock = v.ownBlock ∨ v'.ownBlock = some N) (hlt : ∀ b, pa = some ⟨b, 0, none⟩ → b < N) : Beside pa v' := by
  intro b hb e
  rcases hat with hat | hat
  · exact h b hb (hat ▸ e)
  · have := hlt b hb
    rw [hat] at e
    injection e with e
    omega
/-- A slice of items. -/
def ItemsSl (w : World) (a : Option Addr) (l : List It) : Prop := ∀ (i : Nat) (p : It), l[i]? = some p → ∃ b off, a = some ⟨b, off, none⟩ ∧ b < w.heap.size ∧
  w.cell? ⟨b, off + i * 3, none⟩ = some (.string p.name) ∧ w.cell? ⟨b, off + i * 3 + 1, none⟩ = some (.string p.value) ∧ w.cell? ⟨b, off + i * 3 + 2, none⟩ = some (.bool p.has)
theorem ItemsSl.below {w w' : World} {a : Option Addr} {l : List It} (h : ItemsSl w a l) (hb : Below w.heap.size w w') : ItemsSl w' a l := by
  intro i p hp
  obtain ⟨b, off, e, hlt, h1, h2, h3⟩ := h i p hp
  exact ⟨b, off, e, Nat.lt_of_lt_of_le hlt hb.size, (hb.cell (p := ⟨b, off + i * 3, none⟩) hlt).trans h1, (hb.cell (p := ⟨b, off + i * 3 + 1, none⟩) hlt).trans h2, (hb.cell (p := ⟨b, off + i * 3 + 2, none⟩) hlt).trans h3⟩
/-- Own items as a slice: where they lie. -/
def ItemsOwn (w : World) (a : Option Addr) (l : List It) : Prop := ∀ (i : Nat) (p : It), l[i]? = some p → ∃ b, a = some ⟨b, 0, none⟩ ∧ b < w.heap.size ∧
  w.cell? ⟨b, i * 3, none⟩ = some (.string p.name) ∧ w.cell? ⟨b, i * 3 + 1, none⟩ = some (.string p.value) ∧ w.cell? ⟨b, i * 3 + 2, none⟩ = some (.bool p.has)
theorem ItemsOwn.below {w w' : World} {a : Option Addr} {l : List It} (h : ItemsOwn w a l) (hb : Below w.heap.size w w') : ItemsOwn w' a l := by
  intro i p hp
  obtain ⟨b, e, hlt, h1, h2, h3⟩ := h i p hp
  exact ⟨b, e, Nat.lt_of_lt_of_le hlt hb.size, (hb.cell (p := ⟨b, i * 3, none⟩) hlt).trans h1, (hb.cell (p := ⟨b, i * 3 + 1, none⟩) hlt).trans h2, (hb.cell (p := ⟨b, i * 3 + 2, none⟩) hlt).trans h3⟩
theorem ItemsOwn.items {w : World} {a : Option Addr} {l : List It} (h : ItemsOwn w a l) : ItemsSl w a l := by
  intro i p hp
  obtain ⟨b, e, hlt, h1, h2, h3⟩ := h i p hp
  exact ⟨b, 0, e, hlt, by rw [Nat.zero_add]; exact h1, by rw [Nat.zero_add]; exact h2, by rw [Nat.zero_add]; exact h3⟩
theorem OwnI.sl {w : World} {base : Nat} {v : Value} {l : List It} (h : OwnI w base v l) : ∃ a c, v = .slice a l.length c ∧ l.length ≤ c ∧ c ≤ maxLen ∧ ItemsOwn w a l := by
  unfold OwnI at h
  rcases h.2 with ⟨e0, e1⟩ | ⟨g, cap, cur, e0, hg, hh, h1, h2, _⟩
  · refine ⟨none, 0, by rw [e0, e1], by omega, by unfold maxLen; omega, fun i p hp => ?_⟩
    have := (List.getElem?_eq_some_iff.1 hp).1
    omega
  · refine ⟨_, cap, e0, h1, h2, fun i p hp => ?_⟩
    subst e0
    have hc := h.cells (g := g) rfl
    have c0 := hc (i * 3 + 0) _ ((itemsV_at hp 0 (by omega)).trans rfl)
    have c1 := hc (i * 3 + 1) _ ((itemsV_at hp 1 (by omega)).trans rfl)
    have c2 := hc (i * 3 + 2) _ ((itemsV_at hp 2 (by omega)).trans rfl)
    simp only [Addr.add_lit, Nat.zero_add, Nat.add_zero] at c0 c1 c2
    exact ⟨g, rfl, lt_of_block hh, c0, c1, c2⟩
end Go.Proofs.YtibhohpamnpkcaaGreatDoor

/- The reference's Small. -/
namespace Go.Proofs.YtibhohpamnpkcaaGreatDoor
open Go.RowKit

def smallN (n : Nat) : Nat := if 65 ≤ n ∧ n ≤ 90 then n + 32 else n
theorem ret_u8 {a b : Int} (h : a = b) : Ending.returned (.int .u8 a) = .returned (.int .u8 b) := by rw [h]
theorem ref_Small (n : Nat) (hn : n < 256) (w : World) : Calls Tryz.prog 105 #[.int .u8 (n : Int)] w fun e w' => e = .returned (.int .u8 (smallN n : Nat)) ∧ w = w' := by
  by_cases h1 : 65 ≤ n
  · by_cases h2 : n ≤ 90
    · have hv := Lib.hid (show smallN n = n + 32 by unfold smallN; rw [if_pos ⟨h1, h2⟩])
      go_enter Tryz.func105, Tryz.ntmps105
      go_wp2
      go_ret
      exact ⟨ret_u8 (by rw [hv.out]; omega), rfl⟩
    · have hv := Lib.hid (show smallN n = n by unfold smallN; rw [if_neg (by omega)])
      go_enter Tryz.func105, Tryz.ntmps105
      go_wp2
      go_ret
      exact ⟨ret_u8 (by rw [hv.out]), rfl⟩
  · have hv := Lib.hid (show smallN n = n by unfold smallN; rw [if_neg (by omega)])
    go_enter Tryz.func105, Tryz.ntmps105
    go_wp2
    go_ret
    exact ⟨ret_u8 (by rw [hv.out]), rfl⟩
end Go.Proofs.YtibhohpamnpkcaaGreatDoor

/- Plain facts: small letters. -/
namespace Go.Proofs.YtibhohpamnpkcaaGreatDoor
open Go.RowKit

def lowerB (b : UInt8) : UInt8 := if 65 ≤ b.toNat ∧ b.toNat ≤ 90 then b + 32 else b
theorem lowerB_nat (b : UInt8) : (lowerB b).toNat = smallN b.toNat := by
  have hb := b.toNat_lt
  unfold lowerB smallN
  split
  · rw [UInt8.toNat_add]
    simp
    omega
  · rfl
theorem lowerB_idem (b : UInt8) : lowerB (lowerB b) = lowerB b := by
  have h := lowerB_nat b
  apply UInt8.toNat_inj.1
  rw [lowerB_nat, h]
  unfold smallN
  repeat' split
  all_goals omega
theorem or_letter (n : Nat) (h1 : 65 ≤ n) (h2 : n ≤ 90) : bits .or .u8 (n : Int) 32 = ((n + 32 : Nat) : Int) := by
  have : ∀ n : Fin 91, 65 ≤ n.1 → bits .or .u8 (n.1 : Int) 32 = ((n.1 + 32 : Nat) : Int) := by decide +kernel
  exact this ⟨n, by omega⟩ h1
/-- A text with small letters. -/
def lowerL (l : List UInt8) : List UInt8 := l.map lowerB
def lowerS (s : ByteArray) : ByteArray := ⟨(lowerL s.data.toList).toArray⟩
theorem lowerS_size (s : ByteArray) : (lowerS s).size = s.size := by
  show (lowerL s.data.toList).toArray.size = s.data.toList.length
  simp [lowerL]
theorem lowerS_idem (s : ByteArray) : lowerS (lowerS s) = lowerS s := by
  unfold lowerS lowerL
  apply ByteArray.ext
  apply Array.ext'
  show (s.data.toList.map lowerB).map lowerB = s.data.toList.map lowerB
  rw [List.map_map]
  exact List.map_congr_left fun x _ => lowerB_idem x
/-- So far small letters. -/
def lowTo (s : ByteArray) (i : Nat) : List UInt8 := lowerL (s.data.toList.take i) ++ s.data.toList.drop i
theorem lowTo_len (s : ByteArray) (i : Nat) : (lowTo s i).length = s.size := by
  have hl : s.data.toList.length = s.size := rfl
  simp [lowTo, lowerL]; omega
theorem lowTo_zero (s : ByteArray) : lowTo s 0 = s.data.toList := by simp [lowTo, lowerL]
theorem lowTo_all (s : ByteArray) : lowTo s s.size = (lowerS s).data.toList := by
  have hl : s.data.toList.length = s.size := rfl
  show lowerL (s.data.toList.take s.size) ++ s.data.toList.drop s.size = lowerL s.data.toList
  rw [List.take_of_length_le (by omega), List.drop_eq_nil_of_le (by omega), List.append_nil]
theorem lowTo_at {s : ByteArray} {i : Nat} (hi : i < s.size) : (lowTo s i).getD i 0 = byteAt s i := by
  have hl : s.data.toList.length = s.size := rfl
  have h1 : (lowerL (s.data.toList.take i)).length = i := by simp [lowerL]; omega
  unfold lowTo byteAt
  simp only [List.getD, List.getElem?_append, h1, Nat.lt_irrefl, if_false, Nat.sub_self, List.getElem?_drop, Nat.add_zero]
theorem lowTo_set {s : ByteArray} {i : Nat} (hi : i < s.size) : (lowTo s i).set i (lowerB (byteAt s i)) = lowTo s (i + 1) := by
  have hl : s.data.toList.length = s.size := rfl
  have hlt : i < s.data.toList.length := by omega
  have h1 : (lowerL (s.data.toList.take i)).length = i := by simp [lowerL]; omega
  have hb : byteAt s i = s.data.toList[i] := by unfold byteAt; rw [List.getD, List.getElem?_eq_getElem hlt]; rfl
  unfold lowTo
  rw [List.set_append_right _ _ (by rw [h1]; exact Nat.le_refl _), h1, Nat.sub_self, List.drop_eq_getElem_cons hlt, List.set_cons_zero, List.take_succ_eq_append_getElem hlt, hb]
  simp [lowerL]
theorem lowTo_keep {s : ByteArray} {i : Nat} (hi : i < s.size) (h : lowerB (byteAt s i) = byteAt s i) : lowTo s (i + 1) = lowTo s i := by
  rw [← lowTo_set hi, h]
  have h2 := lowTo_at hi
  have hll : i < (lowTo s i).length := by rw [lowTo_len]; exact hi
  apply List.ext_getElem?
  intro j
  rw [List.getElem?_set]
  split
  · rename_i e
    subst e
    rw [← h2, List.getD, List.getElem?_eq_getElem hll]; rfl
  · rfl
end Go.Proofs.YtibhohpamnpkcaaGreatDoor

/- Texts out of lists of bytes. -/
namespace Go.Proofs.YtibhohpamnpkcaaGreatDoor
open Go.RowKit

def ofL (l : List UInt8) : ByteArray := ⟨l.toArray⟩
theorem ofL_app (a b : List UInt8) : ofL a ++ ofL b = ofL (a ++ b) := by
  unfold ofL
  apply ByteArray.ext
  apply Array.ext'
  rw [ByteArray.data_append]
  simp
theorem ofL_list (s : ByteArray) : ofL s.data.toList = s := by unfold ofL; rfl
theorem extract_one {s : ByteArray} {i : Nat} (h : i < s.size) : s.extract i (i + 1) = ofL [byteAt s i] := by
  apply ByteArray.ext
  apply Array.ext'
  rw [Lib.extract_data]
  have hl : s.data.toList.length = s.size := rfl
  have : s.data.toList.drop i = s.data.toList[i]'(by omega) :: s.data.toList.drop (i + 1) := List.drop_eq_getElem_cons (by omega)
  rw [this]
  unfold byteAt ofL
  simp [List.getD]
  rw [Array.getElem?_eq_getElem (show i < s.data.size from h)]
  rfl
theorem byte_string (c : UInt8) (w : World) : (convert 74 9 (.slice (some ⟨w.heap.size, 0, none⟩) 1 1)).run Tryz.prog (w.alloc (.cells #[.int .u8 (c.toNat : Int)] 5)) = .ok (.string ⟨#[c]⟩) (w.alloc (.cells #[.int .u8 (c.toNat : Int)] 5)) := by
  have hB : BytesAt (w.alloc (.cells #[.int .u8 (c.toNat : Int)] 5)) w.heap.size [c] := ⟨5, [], 0, 0, .inl (Nat.le_refl _), heap_alloc_new w _⟩
  exact run_back (P := Tryz.prog) _ 74 9 5 w.heap.size 1 [c] Tryz.underlying74 Tryz.underlying5 Tryz.underlying9 hB
theorem ofL_size (l : List UInt8) : (ofL l).size = l.length := by
  show l.toArray.size = _
  simp
end Go.Proofs.YtibhohpamnpkcaaGreatDoor

/- Kinds of content: plain facts. -/
namespace Go.Proofs.YtibhohpamnpkcaaGreatDoor
open Go.RowKit

/-- The bytes that stand in tokens, but for great letters. -/
def tokS : ByteArray := ⟨#[97, 98, 99, 100, 101, 102, 103, 104, 105, 106, 107, 108, 109, 110, 111, 112, 113, 114, 115, 116, 117, 118, 119, 120, 121, 122, 48, 49, 50, 51, 52, 53, 54, 55, 56, 57, 33, 35, 36, 37, 38, 39, 42, 43, 45, 46, 94, 95, 96, 124, 126]⟩
def inTok (c : UInt8) : Bool := hasB tokS c || (decide (65 ≤ c.toNat) && decide (c.toNat ≤ 90))
def tokOk (l : List UInt8) : Bool := l.all inTok && (decide (1 ≤ l.length) && decide (l.length ≤ 100))
def isBlank (c : UInt8) : Bool := decide (c = 32) || decide (c = 9)
def blankL (l : List UInt8) : List UInt8 := l.dropWhile isBlank
def tokW (l : List UInt8) : List UInt8 := l.takeWhile inTok
def tokR (l : List UInt8) : List UInt8 := l.dropWhile inTok
/-- The text between marks: what it stands for, and what is behind it. -/
def quotedG : List UInt8 → List UInt8 → Option (List UInt8 × List UInt8)
  | [], _ => none
  | [c], out => if c = 34 then some (out, []) else none
  | c :: d :: l, out => if c = 34 then some (out, d :: l) else if c = 92 then quotedG l (out ++ [d]) else quotedG (d :: l) (out ++ [c])
/-- What follows a name and its mark: a value, and what is behind it. -/
def valueG (l : List UInt8) : Option (List UInt8 × List UInt8) :=
  match l with
  | 34 :: l' => quotedG l' []
  | _ => if tokOk (tokW l) = true then some (tokW l, tokR l) else none
/-- The parameter that is next, and what is behind it. -/
def paramG (l : List UInt8) : Option (It × List UInt8) :=
  match l with
  | 59 :: l1 =>
    if tokOk (tokW (blankL l1)) = true then
      match tokR (blankL l1) with
      | 61 :: l3 => (valueG l3).map fun x => (⟨lowerS (ofL (tokW (blankL l1))), ofL x.1, true⟩, blankL x.2)
      | _ => none
    else none
  | _ => none
def paramsG : Nat → List UInt8 → List It → Option (List It)
  | 0, l, acc => if l = [] then some acc else none
  | n + 1, l, acc => if l = [] then some acc else
    match paramG l with
    | none => none
    | some (x, l') => paramsG n l' (acc ++ [x])
end Go.Proofs.YtibhohpamnpkcaaGreatDoor

/- fold.All. -/
namespace Go.Proofs.YtibhohpamnpkcaaGreatDoor
open Go.RowKit

/-- Do all bytes of a text stand in another one? -/
def allB (s m : ByteArray) : Bool := (List.range s.size).all fun i => hasB m (byteAt s i)
theorem allB_no {s m : ByteArray} {i : Nat} (hi : i < s.size) (h : hasB m (byteAt s i) = false) : allB s m = false := by
  unfold allB; rw [List.all_eq_false]; exact ⟨i, by simpa using hi, by simpa using h⟩
theorem allB_yes {s m : ByteArray} (h : ∀ i, i < s.size → hasB m (byteAt s i) = true) : allB s m = true := by
  unfold allB; rw [List.all_eq_true]; intro i hi; exact h i (by simpa using hi)
theorem index_has (m : ByteArray) (c : UInt8) : (hasB m c = true ∧ 0 ≤ Lib.indexByte m.data.toList c) ∨ (hasB m c = false ∧ Lib.indexByte m.data.toList c < 0) := by
  have hl : m.data.toList.length = m.size := rfl
  have hge := Lib.indexByte_ge m.data.toList c
  by_cases h : Lib.indexByte m.data.toList c = -1
  · refine .inr ⟨hasB_no fun j hj e => ?_, by omega⟩
    have := Lib.indexByte_none h j
    rw [List.getElem?_eq_getElem (by omega)] at this
    apply this
    rw [← e]
    unfold byteAt
    rw [List.getD, List.getElem?_eq_getElem (by omega)]; rfl
  · obtain ⟨o, ho⟩ := Int.eq_ofNat_of_zero_le (show 0 ≤ Lib.indexByte m.data.toList c by omega)
    have h2 := (Lib.indexByte_some ho).1
    have hlt : o < m.data.toList.length := (List.getElem?_eq_some_iff.1 h2).1
    refine .inl ⟨hasB_yes (k := o) (by omega) ?_, by omega⟩
    unfold byteAt
    rw [List.getD, h2]; rfl

end Go.Proofs.YtibhohpamnpkcaaGreatDoor

/- A list cut at a mark: plain facts, in the forms that strings.Split and the reference's parts have. -/
namespace Go.Proofs.YtibhohpamnpkcaaGreatDoor

def splitL (c : UInt8) : List UInt8 → List (List UInt8)
  | [] => [[]]
  | x :: l => if x = c then [] :: splitL c l else match splitL c l with | [] => [[x]] | p :: ps => (x :: p) :: ps
theorem splitL_none (c : UInt8) : ∀ (a : List UInt8), (∀ x ∈ a, x ≠ c) → splitL c a = [a]
  | [], _ => rfl
  | x :: a, h => by
    have := splitL_none c a (fun y hy => h y (by simp [hy]))
    rw [splitL, if_neg (h x (by simp)), this]
theorem splitL_cut (c : UInt8) (b : List UInt8) : ∀ (a : List UInt8), (∀ x ∈ a, x ≠ c) → splitL c (a ++ c :: b) = a :: splitL c b
  | [], _ => by simp [splitL]
  | x :: a, h => by
    have := splitL_cut c b a (fun y hy => h y (by simp [hy]))
    rw [List.cons_append, splitL, if_neg (h x (by simp)), this]
theorem splitL_ne (c : UInt8) (l : List UInt8) : splitL c l ≠ [] := by
  cases l with
  | nil => simp [splitL]
  | cons x l =>
    rw [splitL]
    split
    · simp
    · split <;> simp
/-- A list without the mark, or the part ahead of the first one. -/
theorem first_cut (c : UInt8) : ∀ (l : List UInt8), (∀ x ∈ l, x ≠ c) ∨ ∃ a b, l = a ++ c :: b ∧ ∀ x ∈ a, x ≠ c
  | [] => .inl (by simp)
  | x :: l => by
    by_cases hx : x = c
    · exact .inr ⟨[], l, by simp [hx], by simp⟩
    · rcases first_cut c l with h | ⟨a, b, e, h⟩
      · exact .inl (by intro y hy; simp at hy; rcases hy with rfl | hy; exact hx; exact h y hy)
      · exact .inr ⟨x :: a, b, by simp [e], by intro y hy; simp at hy; rcases hy with rfl | hy; exact hx; exact h y hy⟩
theorem splitL_app (c : UInt8) (b : List UInt8) : ∀ (n : Nat) (a : List UInt8), a.length ≤ n → splitL c (a ++ c :: b) = splitL c a ++ splitL c b := by
  intro n
  induction n with
  | zero =>
    intro a h
    have : a = [] := List.eq_nil_of_length_eq_zero (by omega)
    subst this
    simp [splitL]
  | succ n ih =>
    intro a h
    rcases first_cut c a with h1 | ⟨x, y, e, h1⟩
    · rw [splitL_cut c b a h1, splitL_none c a h1]; rfl
    · subst e
      rw [List.append_assoc, List.cons_append, splitL_cut c _ x h1, ih y (by simp at h; omega), splitL_cut c _ x h1]
      rfl
theorem splitL_len (c : UInt8) : ∀ (n : Nat) (l : List UInt8), l.length ≤ n → ((splitL c l).map List.length).sum + (splitL c l).length = l.length + 1 := by
  intro n
  induction n with
  | zero =>
    intro l h
    have : l = [] := List.eq_nil_of_length_eq_zero (by omega)
    subst this
    simp [splitL]
  | succ n ih =>
    intro l h
    rcases first_cut c l with h1 | ⟨x, y, e, h1⟩
    · rw [splitL_none c l h1]; simp
    · subst e
      have := ih y (by simp at h; omega)
      rw [splitL_cut c _ x h1]
      simp only [List.map_cons, List.sum_cons, List.length_cons, List.length_append]
      omega
theorem split_index {c : UInt8} {a b : List UInt8} (h : ∀ x ∈ a, x ≠ c) : Lib.index (a ++ c :: b) [c] = (a.length : Int) := by
  rw [Lib.index_one]
  induction a with
  | nil => simp [Lib.indexByte]
  | cons x a ih =>
    have := ih (fun y hy => h y (by simp [hy]))
    rw [List.cons_append, Lib.indexByte, this]
    have hx := h x (by simp)
    simp [hx]
theorem split_index_none {c : UInt8} {a : List UInt8} (h : ∀ x ∈ a, x ≠ c) : Lib.index a [c] = -1 := by
  rw [Lib.index_one]
  induction a with
  | nil => simp [Lib.indexByte]
  | cons x a ih =>
    have := ih (fun y hy => h y (by simp [hy]))
    rw [Lib.indexByte, this]
    have hx := h x (by simp)
    simp [hx]
theorem splitK_is (c : UInt8) : ∀ (n : Nat) (l : List UInt8), l.length ≤ n → Lib.splitK [c] 0 (Lib.count l [c]) l = splitL c l := by
  intro n
  induction n with
  | zero =>
    intro l h
    have : l = [] := List.eq_nil_of_length_eq_zero (by omega)
    subst this
    rw [Lib.count_one]
    rfl
  | succ n ih =>
    intro l h
    rcases first_cut c l with h1 | ⟨x, y, e, h1⟩
    · have h0 : l.count c = 0 := List.count_eq_zero.2 (fun hm => h1 c hm rfl)
      rw [Lib.count_one, h0, splitL_none c l h1]; rfl
    · have hi := split_index (b := y) h1
      have h0 : x.count c = 0 := List.count_eq_zero.2 (fun hm => h1 c hm rfl)
      subst e
      have hc : Lib.count (x ++ c :: y) [c] = Lib.count y [c] + 1 := by
        rw [Lib.count_one, Lib.count_one, List.count_append, h0, List.count_cons_self]; omega
      have hy := ih y (by simp at h; omega)
      rw [hc, Lib.splitK, hi, splitL_cut c _ x h1, ← hy]
      have : ¬ ((x.length : Int) == -1) = true := by simp
      rw [if_neg this]
      simp
theorem splitB_is (c : UInt8) (s : ByteArray) : (Lib.splitB ⟨#[c]⟩ 0 (Lib.countB s ⟨#[c]⟩) s).map (·.data.toList) = splitL c s.data.toList := by
  rw [Lib.splitB_data]
  exact splitK_is c _ _ (Nat.le_refl _)
end Go.Proofs.YtibhohpamnpkcaaGreatDoor
