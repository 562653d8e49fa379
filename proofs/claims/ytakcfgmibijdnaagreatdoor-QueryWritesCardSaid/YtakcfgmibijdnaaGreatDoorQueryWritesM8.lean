/- Items as a query, in plain words. -/
import Derived.Test.YtakcfgmibijdnaaGreatDoorQueryWritesM6
import Derived.Test.YtakcfgmibijdnaaGreatDoorQueryWritesM7
import Derived.Test.YtakcfgmibijdnaaGreatDoorQueryWritesM2
import Derived.Test.YtakcfgmibijdnaaGreatDoorQueryWritesM3
import Derived.Laws.OwnMore
import Derived.Deep.OwnRows
import Derived.Maps.AppendAt
import Derived.Lib.SlicesS
import Derived.Test.YtakcfgmibijdnaaGreatDoorShelf
import Derived.Laws.Tables
import Derived.Laws.ResultCell
import Derived.Laws.StructEq
import Derived.Deep.QuietTactic
import Derived.BigQuiet

namespace Go.Proofs.YtakcfgmibijdnaaGreatDoor
open Go.RowKit

def encE0 (l : List UInt8) : List UInt8 := encL ⟨#[]⟩ l
theorem encC_facts (c : UInt8) : encC ⟨#[]⟩ c ≠ [] ∧ ∀ x ∈ encC ⟨#[]⟩ c, x ≠ 38 ∧ x ≠ 61 := by
  have : ∀ n : Fin 256, encC ⟨#[]⟩ (UInt8.ofNat n.1) ≠ [] ∧ ∀ x ∈ encC ⟨#[]⟩ (UInt8.ofNat n.1), x ≠ 38 ∧ x ≠ 61 := by decide +kernel
  have := this ⟨c.toNat, c.toNat_lt⟩
  simpa using this
theorem encE0_free {l : List UInt8} {x : UInt8} (h : x ∈ encE0 l) : x ≠ 38 ∧ x ≠ 61 := by
  obtain ⟨c, _, hx⟩ := List.mem_flatMap.1 h
  exact (encC_facts c).2 x hx
theorem encE0_nil {l : List UInt8} (h : encE0 l = []) : l = [] := by
  cases l with
  | nil => rfl
  | cons c l =>
    have h1 : encC ⟨#[]⟩ c ++ encE0 l = [] := h
    exact absurd (List.append_eq_nil_iff.1 h1).1 (encC_facts c).1
theorem encE0_len (l : List UInt8) : (encE0 l).length ≤ 3 * l.length := encL_len _ _
theorem encS_E0 (s : ByteArray) : encS ⟨#[]⟩ s = ofL (encE0 s.data.toList) := rfl
/-- An item's part of a query. -/
def partW (x : It) : List UInt8 := if x.has = true then encE0 x.name.data.toList ++ 61 :: encE0 x.value.data.toList else encE0 x.name.data.toList
theorem partW_yes {x : It} (h : x.has = true) : partW x = encE0 x.name.data.toList ++ 61 :: encE0 x.value.data.toList := by unfold partW; rw [if_pos h]
theorem partW_no {x : It} (h : x.has = false) : partW x = encE0 x.name.data.toList := by unfold partW; rw [if_neg (by rw [h]; decide)]
theorem partW_free {x : It} {c : UInt8} (h : c ∈ partW x) : c ≠ 38 := by
  cases hh : x.has with
  | true =>
    rw [partW_yes hh] at h
    rcases List.mem_append.1 h with h | h
    · exact (encE0_free h).1
    · rcases List.mem_cons.1 h with rfl | h
      · decide
      · exact (encE0_free h).1
  | false =>
    rw [partW_no hh] at h
    exact (encE0_free h).1
theorem partW_len (x : It) : (partW x).length ≤ 3 * x.name.size + 3 * x.value.size + 1 := by
  have h1 : (encE0 x.name.data.toList).length ≤ 3 * x.name.size := encE0_len _
  have h2 : (encE0 x.value.data.toList).length ≤ 3 * x.value.size := encE0_len _
  cases hh : x.has with
  | true => rw [partW_yes hh, List.length_append, List.length_cons]; omega
  | false => rw [partW_no hh]; omega
def partsW (l : List It) : List (List UInt8) := (l.map partW).filter fun p => !p.isEmpty
theorem partsW_snoc (l : List It) (x : It) : partsW (l ++ [x]) = if partW x = [] then partsW l else partsW l ++ [partW x] := by
  unfold partsW
  rw [List.map_append, List.filter_append]
  by_cases h : partW x = []
  · rw [if_pos h]; simp [h]
  · rw [if_neg h]
    have : (partW x).isEmpty = false := by simpa using h
    simp [this]
theorem partsW_ne {l : List It} {p : List UInt8} (h : p ∈ partsW l) : p ≠ [] := by
  have := (List.mem_filter.1 h).2
  simpa using this
theorem partsW_len (l : List It) : (partsW l).length ≤ l.length := by
  unfold partsW
  exact Nat.le_trans (List.length_filter_le _ _) (by simp)
/-- A query of items. -/
def textW (l : List It) : List UInt8 := joinA 38 (partsW l)
/-- Whether an item is read as it was written. -/
def goodI (x : It) : Prop := okS x.name.data.toList = true ∧ okS x.value.data.toList = true ∧ (x.has = false → x.name.data.toList ≠ []) ∧ (x.has = false → x.value.data.toList = [])
theorem partW_ne {x : It} (h : goodI x) : partW x ≠ [] := by
  intro e
  cases hh : x.has with
  | true => rw [partW_yes hh] at e; simp at e
  | false => rw [partW_no hh] at e; exact h.2.2.1 hh (encE0_nil e)
theorem item_back {x : It} (h : goodI x) : itemP (ofL (partW x)) = .ok x := by
  obtain ⟨h1, h2, h3, h4⟩ := h
  have hn := told_enc ⟨#[]⟩ x.name.data.toList
  have hv := told_enc ⟨#[]⟩ x.value.data.toList
  cases hh : x.has with
  | true =>
    have hc : cutL 61 (ofL (partW x)).data.toList = (encE0 x.name.data.toList, encE0 x.value.data.toList, true) := by
      rw [ofL_data, partW_yes hh]
      exact cutL_cut 61 _ _ fun y hy => (encE0_free hy).2
    have e1 : cutN 61 (ofL (partW x)) = ofL (encE0 x.name.data.toList) := by unfold cutN; rw [hc]
    have e2 : cutV 61 (ofL (partW x)) = ofL (encE0 x.value.data.toList) := by unfold cutV; rw [hc]
    have e3 : cutH 61 (ofL (partW x)) = true := by unfold cutH; rw [hc]
    have := itemP_ok (p := ofL (partW x)) (by rw [e1]; exact hn.1) (by rw [e2]; exact hv.1) (by
      rw [e1, e2]
      exact ⟨by rw [show bytesT (ofL (encE0 x.name.data.toList)) = _ from hn.2]; exact h1, by rw [show bytesT (ofL (encE0 x.value.data.toList)) = _ from hv.2]; exact h2⟩)
    rw [this, e1, e2, e3, show bytesT (ofL (encE0 x.name.data.toList)) = _ from hn.2, show bytesT (ofL (encE0 x.value.data.toList)) = _ from hv.2, ofL_list, ofL_list, ← hh]
  | false =>
    have hc : cutL 61 (ofL (partW x)).data.toList = (encE0 x.name.data.toList, [], false) := by
      rw [ofL_data, partW_no hh]
      exact cutL_none 61 _ fun y hy => (encE0_free hy).2
    have e1 : cutN 61 (ofL (partW x)) = ofL (encE0 x.name.data.toList) := by unfold cutN; rw [hc]
    have e2 : cutV 61 (ofL (partW x)) = ofL (encE0 x.value.data.toList) := by unfold cutV; rw [hc, h4 hh]; rfl
    have e3 : cutH 61 (ofL (partW x)) = false := by unfold cutH; rw [hc]
    have := itemP_ok (p := ofL (partW x)) (by rw [e1]; exact hn.1) (by rw [e2]; exact hv.1) (by
      rw [e1, e2]
      exact ⟨by rw [show bytesT (ofL (encE0 x.name.data.toList)) = _ from hn.2]; exact h1, by rw [show bytesT (ofL (encE0 x.value.data.toList)) = _ from hv.2]; exact h2⟩)
    rw [this, e1, e2, e3, show bytesT (ofL (encE0 x.name.data.toList)) = _ from hn.2, show bytesT (ofL (encE0 x.value.data.toList)) = _ from hv.2, ofL_list, ofL_list, ← hh]
theorem items_go : ∀ (l : List It) (at_ : Nat) (acc : List It), (∀ x ∈ l, goodI x) → acc.length + l.length ≤ 256 → goG stepQ 256 ((l.map partW).map ofL) at_ acc = (acc ++ l, 0, 0) := by
  intro l
  induction l with
  | nil => intro at_ acc _ _; show (acc, 0, 0) = _; rw [List.append_nil]
  | cons x l ih =>
    intro at_ acc hg hl
    have hx := hg x (by simp)
    simp only [List.length_cons] at hl
    have h0 : (ofL (partW x)).size ≠ 0 := by rw [ofL_size]; intro e; exact partW_ne hx (List.eq_nil_of_length_eq_zero e)
    rw [List.map_cons, List.map_cons, goG_ok (x := x) (by rw [decide_eq_false (by omega), stepQ_item h0, item_back hx]), ih _ _ (fun y hy => hg y (by simp [hy])) (by simp; omega)]
    simp
/-- Items of characters' bytes are read as they were written. -/
theorem items_back {l : List It} (hg : ∀ x ∈ l, goodI x) (hl : l.length ≤ 256) : itemsQ (ofL (textW l)) = (l, 0, 0) := by
  unfold itemsQ
  cases l with
  | nil => decide +kernel
  | cons x l =>
    have hp : partsW (x :: l) = (x :: l).map partW := by
      unfold partsW
      rw [List.filter_eq_self]
      intro p hp
      obtain ⟨y, hy, rfl⟩ := List.mem_map.1 hp
      simpa using partW_ne (hg y hy)
    have hs : partsB 38 (ofL (textW (x :: l))) = ((x :: l).map partW).map ofL := by
      unfold partsB textW
      rw [ofL_data, hp, split_join 38 _ (by simp) fun p hp c hc => ?_]
      obtain ⟨y, _, rfl⟩ := List.mem_map.1 hp
      exact partW_free hc
    rw [hs, items_go _ _ _ hg (by simpa using hl)]
    rfl
end Go.Proofs.YtakcfgmibijdnaaGreatDoor

/- Rows of strings of a call's own; two rows of strings held against each other; is a string among them. -/
namespace Go.Proofs.YtakcfgmibijdnaaGreatDoor
open Go.RowKit

theorem info_strS : (Tryz.prog.info? 9).map (fun i => (i.zero, i.size, i.bytes)) = some (some (.string ByteArray.empty), 1, 16) := by kernel_rfl
def OwnS (w : World) (base : Nat) (v : Value) (l : List ByteArray) : Prop := w.ownsRow base 9 1 v l.length (l.map strV)
theorem OwnS.below {w w' : World} {base : Nat} {v : Value} {l : List ByteArray} (h : OwnS w base v l) (hb : Below w.heap.size w w') : OwnS w' base v l := ownsRow_below h hb
theorem OwnS.drewN {w : World} {base : Nat} {v : Value} {l : List ByteArray} (h : OwnS w base v l) (m : Nat) : OwnS (w.drewN m) base v l := h
theorem OwnS.nil (w : World) (base : Nat) : OwnS w base (.slice none 0 0) [] := World.ownsRow_nil _ _ _ _
theorem OwnS.lit0 (w : World) (base : Nat) (hb : base ≤ w.heap.size) : OwnS (w.alloc (.cells #[] 9)) base (.slice (some ⟨w.heap.size, 0, none⟩) 0 0) [] :=
  World.ownsRow_lit w #[] 0 hb (Nat.zero_le _) rfl
theorem OwnS.under {w0 w w' : World} {base : Nat} {v : Value} {l : List ByteArray} (h : OwnS w base v l) (hb : Below w0.heap.size w0 w) (hB : w0.heap.size ≤ base) (hg : w.grownBy w' v.ownBlock) : Below w0.heap.size w0 w' :=
  hb.grown hg hb.size (fun j hj => Nat.le_trans hB (World.ownsRow.lt h j hj).1)
theorem OwnS.sl {w : World} {base : Nat} {v : Value} {l : List ByteArray} (h : OwnS w base v l) : ∃ a c, v = .slice a l.length c ∧ l.length ≤ c ∧ c ≤ maxLen ∧ RowSl w a (l.map strV) := by
  have := row_sl h (by simp)
  simpa using this
theorem wpList_app_str {w : World} {ops : Array Oper} {rest : List Oper} {o : Oper} {a : Act} {Q : Exit → Act → World → Prop} (hgd : o.guard = none) (s x : Operand) (ho : o.op = .call { callee := .builtin .append, args := #[s, x], argTypes := #[32, 32] })
    (base : Nat) (v : Value) (l : List ByteArray) (hs : a.eval s = v) (hown : OwnS w base v l) (g c : Nat) (p : ByteArray) (hx : a.eval x = .slice (some ⟨g, 0, none⟩) 1 c) (hb : w.heap[g]? = some (.cells #[.string p] 9 (0, 0)))
    (hl : l.length ≤ 1073741824) (hbase : base ≤ w.heap.size)
    (h : ∀ v' w', OwnS w' base v' (l ++ [p]) → w.grownBy w' v.ownBlock → wpList Tryz.prog ops Q rest (a.put o.dst v') w') : wpList Tryz.prog ops Q (o :: rest) a w := by
  obtain ⟨i, hi, hz, hsize, hby⟩ := info_parts info_strS
  refine wpList_append_own _ hgd s x 32 ho base 9 i _ 1 16 Tryz.underlying32 hi hz hsize hby rfl (by decide) v _ _ hs hown _ 1 c [strV p] hx rfl ?_ ?_ (by unfold maxLen; omega) (by omega) hbase ?_
  · intro j u hj
    match j, hj with
    | 0, hj =>
      simp at hj; subst hj
      rw [Addr.add_lit, Nat.zero_add, cell_of_row w g 0 _ _ _ hb]
      rfl
  · intro u hu; simp at hu; subst hu; rfl
  · intro v' w' h1 h2 _
    refine h v' w' ?_ h2
    unfold OwnS
    rw [List.length_append, List.map_append]
    exact h1
theorem RowSl.strs {w : World} {a : Option Addr} {l : List ByteArray} (h : RowSl w a (l.map strV)) (hne : 0 < l.length) : ∃ b, a = some ⟨b, 0, none⟩ ∧ b < w.heap.size ∧ ∀ j, j < l.length → w.cell? ⟨b, 0 + j, none⟩ = some (.string (l.getD j ByteArray.empty)) := by
  obtain ⟨x, hx⟩ : ∃ x, l[0]? = some x := ⟨_, List.getElem?_eq_getElem hne⟩
  obtain ⟨b, rfl, hb, _⟩ := h 0 (strV x) (by rw [List.getElem?_map, hx]; rfl)
  refine ⟨b, rfl, hb, fun j hj => ?_⟩
  obtain ⟨b', e, _, hc⟩ := h j (strV l[j]) (by rw [List.getElem?_map, List.getElem?_eq_getElem hj]; rfl)
  cases e
  rw [Nat.zero_add, hc]
  simp [strV, List.getD, hj]
set_option maxHeartbeats 1600000 in
theorem ref_SameR (a1 a2 : Option Addr) (c1 c2 : Nat) (l1 l2 : List ByteArray) (w : World) (h1 : RowSl w a1 (l1.map strV)) (h2 : RowSl w a2 (l2.map strV)) (hn1 : l1.length ≤ 16777216) (hn2 : l2.length ≤ 16777216) :
    Calls Tryz.prog 14 #[.slice a1 l1.length c1, .slice a2 l2.length c2] w fun e w' => e = .returned (.bool (decide (l1 = l2))) ∧ ∃ m, w.drewN m = w' := by
  by_cases hn : l1.length = l2.length
  · by_cases h0 : 0 < l1.length
    · obtain ⟨b1, rfl, _, k1⟩ := h1.strs h0
      obtain ⟨b2, rfl, _, k2⟩ := h2.strs (by omega)
      exact ref_Same b1 0 l1.length c1 b2 0 l2.length c2 l1 l2 w ⟨rfl, k1⟩ ⟨rfl, k2⟩ (by omega) (by omega)
    · obtain rfl : l1 = [] := List.eq_nil_of_length_eq_zero (by omega)
      obtain rfl : l2 = [] := List.eq_nil_of_length_eq_zero (by omega)
      show Calls Tryz.prog 14 #[.slice a1 0 c1, .slice a2 0 c2] w fun e w' => e = .returned (.bool true) ∧ ∃ m, w.drewN m = w'
      clear h1 h2 hn1 hn2 hn h0
      go_enter Tryz.func14, Tryz.ntmps14
      go_wp2_with fail
      go_loopw [5] (fun i wr => i = .int .i64 0 ∧ w = wr) (fun _ _ => 0)
      case atStart => exact ⟨rfl, rfl⟩
      case round =>
        obtain ⟨rfl, rfl⟩ := hrel
        go_wp2_with fail
        go_ret
        exact ⟨rfl, 0, rfl⟩
  · have e1 : ((l1.length : Int) != (l2.length : Int)) = true := by simp; omega
    have hne : l1 ≠ l2 := fun h => hn (by rw [h])
    have HNE := Lib.hid hne
    clear hne hn h1 h2
    go_enter Tryz.func14, Tryz.ntmps14
    go_wp2_with fail
    go_ret
    exact ⟨ret_bool (decide_eq_false HNE.out).symm, 0, rfl⟩
end Go.Proofs.YtakcfgmibijdnaaGreatDoor

/- An item in a variable of a function's own; given back out of it. -/
namespace Go.Proofs.YtakcfgmibijdnaaGreatDoor
open Go.RowKit

theorem size_item : (Tryz.prog.info? 47).map (·.size) = some 3 := by kernel_rfl
def itemA (n v : ByteArray) (h : Bool) : Array Value := #[.string n, .string v, .bool h]
/-- In block g lies an item. -/
def ItemAt (w : World) (g : Nat) (n v : ByteArray) (h : Bool) : Prop := w.heap[g]? = some (.cells #[.string n, .string v, .bool h] 47 (0, 0))
section
variable {w w' : World} {g : Nat} {n v : ByteArray} {b : Bool}
theorem ItemAt.new : ItemAt (w.alloc (.cells #[.string n, .string v, .bool b] 47)) w.heap.size n v b := heap_alloc_new w _
theorem ItemAt.lt (h : ItemAt w g n v b) : g < w.heap.size := lt_of_block h
theorem ItemAt.below (h : ItemAt w g n v b) (hb : Below w.heap.size w w') : ItemAt w' g n v b := (hb.block g h.lt).trans h
theorem ItemAt.below' {B : Nat} (h : ItemAt w g n v b) (hb : Below B w w') (hB : g < B) : ItemAt w' g n v b := (hb.block g hB).trans h
theorem ItemAt.drewN (h : ItemAt w g n v b) (m : Nat) : ItemAt (w.drewN m) g n v b := h
theorem ItemAt.set (h : ItemAt w g n v b) (n' v' : ByteArray) (b' : Bool) : ItemAt (w.setRow g #[.string n', .string v', .bool b']) g n' v' b' := setRow_heap w g _ _ _ _ h
theorem ItemAt.setHas (h : ItemAt w g n v b) (b' : Bool) : ItemAt (w.setCell ⟨g, 2, none⟩ (.bool b')) g n v b' := by
  unfold ItemAt at h ⊢; simp [World.setCell, Array.getElem?_modify, h]
theorem ItemAt.setValue (h : ItemAt w g n v b) (v' : ByteArray) : ItemAt (w.setCell ⟨g, 1, none⟩ (.string v')) g n v' b := by
  unfold ItemAt at h ⊢; simp [World.setCell, Array.getElem?_modify, h]
theorem ItemAt.setName (h : ItemAt w g n v b) (n' : ByteArray) : ItemAt (w.setCell ⟨g, 0, none⟩ (.string n')) g n' v b := by
  unfold ItemAt at h ⊢; simp [World.setCell, Array.getElem?_modify, h]
theorem ItemAt.setOther (h : ItemAt w g n v b) {q : Nat} (hq : q ≠ g) (j : Nat) (u : Value) : ItemAt (w.setCell ⟨q, j, none⟩ u) g n v b := (Below.heap_setCell w ⟨q, j, none⟩ u g (fun e => hq e.symm)).trans h
theorem ItemAt.frozen (h : ItemAt w g n v b) (j : Nat) : w.frozen? ⟨g, j, none⟩ = false := by
  unfold ItemAt at h; simp [World.frozen?, h]
theorem ItemAt.load (h : ItemAt w g n v b) : (loadVar 47 ⟨g, 0, none⟩).run Tryz.prog w = .ok (.agg #[.string n, .string v, .bool b]) w :=
  run_loadVar_row w g _ _ _ _ _ h Tryz.underlying47 rfl (by rw [size_item]; rfl)
theorem ItemAt.cells (h : ItemAt w g n v b) : w.cell? ⟨g, 0, none⟩ = some (.string n) ∧ w.cell? ⟨g, 1, none⟩ = some (.string v) ∧ w.cell? ⟨g, 2, none⟩ = some (.bool b) := by
  unfold ItemAt at h
  refine ⟨?_, ?_, ?_⟩
  · rw [cell_of_row w g 0 _ _ _ h]; rfl
  · rw [cell_of_row w g 1 _ _ _ h]; rfl
  · rw [cell_of_row w g 2 _ _ _ h]; rfl
end
theorem below_setRowI {B : Nat} {a w : World} (h : Below B a w) {g : Nat} (hg : B ≤ g) (cs : Array Value) : Below B a (w.setRow g cs) :=
  ⟨h.os, h.tape, h.output, by simpa using h.size, fun k hk => (setRow_other w g k cs (by omega)).trans (h.block k hk)⟩
theorem FaultIs.setItem {w : World} {x : Value} {k i : Int} {m : Value} {g : Nat} {n v : ByteArray} {b : Bool} (h : FaultIs w x k i m) (hg : ItemAt w g n v b) (ds : Array Value) : FaultIs (w.setRow g ds) x k i m := by
  obtain ⟨q, rfl, hh⟩ := h
  have hne : q ≠ g := by
    rintro rfl
    unfold ItemAt at hg
    rw [hh] at hg
    injection hg with this
    injection this with h1 h2
    injection h1 with h3
    injection h3 with h4
    cases h4
  exact ⟨q, rfl, (setRow_other w g q ds hne).trans hh⟩
section
variable {fn : Func} {p u : Tmp} {tmps : Array Value} {w : World} {g : Nat} {n v : ByteArray} {b : Bool}
theorem results_item (h : fn.results = #[.cell p 47, .tmp u]) (hp : tmps.getD p undef = .pointer (some ⟨g, 0, none⟩)) (hg : ItemAt w g n v b) :
    (results fn tmps).run Tryz.prog w = .ok (.tuple #[.agg #[.string n, .string v, .bool b], tmps.getD u undef]) w := by
  rw [results_cell_tmp h, hp]
  simp [asAddr, Result.andThen, hg.load]
end
section
variable {w : World} {ops : Array Oper} {rest : List Oper} {o : Oper} {a : Act} {Q : Exit → Act → World → Prop}
theorem all_item (n v : ByteArray) (b : Bool) : (#[Value.string n, .string v, .bool b] : Array Value).all (·.oneCell') = true := by simp [Value.oneCell']
/-- An item is stored into a variable of the function's own. -/
theorem wpList_store_item (hgd : o.guard = none) (x y : Operand) (ho : o.op = .store 47 x y) (g : Nat) (n v : ByteArray) (b : Bool) (hx : a.eval x = .pointer (some ⟨g, 0, none⟩)) (hy : a.eval y = .agg #[.string n, .string v, .bool b]) (n0 v0 : ByteArray) (b0 : Bool) (hg : ItemAt w g n0 v0 b0)
    (h : ItemAt (w.setRow g #[.string n, .string v, .bool b]) g n v b → wpList Tryz.prog ops Q rest (a.put o.dst undef) (w.setRow g #[.string n, .string v, .bool b])) : wpList Tryz.prog ops Q (o :: rest) a w :=
  wpList_store_row hgd _ x y ho g _ hx hy _ _ hg (by rw [size_item]; rfl) rfl (all_item n v b) (h (hg.set _ _ _))
end
end Go.Proofs.YtakcfgmibijdnaaGreatDoor

/- Items, compared; two rows of items. -/
namespace Go.Proofs.YtakcfgmibijdnaaGreatDoor
open Go.RowKit

def itemV (x : It) : Value := .agg #[.string x.name, .string x.value, .bool x.has]
theorem toList_eqB (a b : ByteArray) : (a.toList = b.toList) = (a = b) := by
  have h := str_eqB a b
  rw [Bool.eq_iff_iff] at h
  simpa using h
theorem neq_item (n v : ByteArray) (b : Bool) (n' v' : ByteArray) (b' : Bool) (w : World) : (binOp .neq 47 (.agg #[.string n, .string v, .bool b]) (.agg #[.string n', .string v', .bool b'])).run Tryz.prog w = .ok (.bool (!decide ((⟨n, v, b⟩ : It) = ⟨n', v', b'⟩))) w := by
  have u9 := Tryz.underlying9
  have u4 := Tryz.underlying4
  have z9 := Tryz.sizeOf9
  have z4 := Tryz.sizeOf4
  have a9 := Tryz.isAgg9
  have a4 := Tryz.isAgg4
  have hS : Tryz.prog.underlying 47 = some (.struct (Tryz.prog.fieldsOf 47)) := by kernel_rfl
  have hp : Tryz.prog.stoodInHeld 47 = false := by kernel_rfl
  rw [run_neq_struct, show (10000 : Nat) = 9999 + 1 from rfl, run_equalIn_agg w 9999 47 _ _ hS hp]
  simp only [Program.fieldsOf, Tryz.underlying47]
  go_simp
  simp only [toList_eqB]
  by_cases h1 : n = n'
  · by_cases h2 : v = v'
    · by_cases h3 : b = b'
      · simp [h1, h2, h3]
      · simp [h1, h2, h3]
    · simp [h1, h2]
  · simp [h1]

set_option maxHeartbeats 1600000 in
set_option maxRecDepth 100000 in
theorem ref16_Same (a1 : Option Addr) (c1 : Nat) (a2 : Option Addr) (c2 : Nat) (l1 l2 : List It) (w : World) (h1 : ItemsOwn w a1 l1) (h2 : ItemsOwn w a2 l2) (hn1 : l1.length ≤ 16777216) (hn2 : l2.length ≤ 16777216) :
    Calls Tryz.prog 34 #[.slice a1 l1.length c1, .slice a2 l2.length c2] w fun e w' => e = .returned (.bool (decide (l1 = l2))) ∧ ∃ m, w.drewN m = w' := by
  by_cases hn : l1.length = l2.length
  · go_enter Tryz.func34, Tryz.ntmps34
    have hnI : ((l1.length : Int) != (l2.length : Int)) = false := by simp; omega
    have h12 : l1.length ≤ l2.length := by omega
    have HN := Lib.hid hn
    clear hn
    go_wp2_with fail
    go_loopw [5] (fun i wr => ∃ k m : Nat, k ≤ l1.length ∧ i = .int .i64 k ∧ w.drewN m = wr ∧ l1.take k = l2.take k) (fun i _ => l1.length - (intOf i).toNat)
    case atStart => exact ⟨0, 0, Nat.zero_le _, rfl, rfl, rfl⟩
    case round =>
      obtain ⟨k, m, hk, rfl, rfl, hall⟩ := hrel
      have HA := Lib.hid hall
      clear hall
      by_cases hlt : k < l1.length
      · obtain ⟨x, hx⟩ : ∃ x, l1[k]? = some x := ⟨_, List.getElem?_eq_getElem hlt⟩
        obtain ⟨y, hy⟩ : ∃ y, l2[k]? = some y := ⟨_, List.getElem?_eq_getElem (by omega)⟩
        obtain ⟨b1, rfl, hb1, d0, d1, d2⟩ := h1 k x hx
        obtain ⟨b2, rfl, hb2, e0, e1, e2⟩ := h2 k y hy
        have i1 : (k : Int) < (l1.length : Int) := by omega
        have i2 : (k : Int) < (l2.length : Int) := by omega
        have hcm := fun W => neq_item x.name x.value x.has y.name y.value y.has W
        have hstep : x = y → l1.take (k + 1) = l2.take (k + 1) := by
          intro e
          rw [List.take_add_one, List.take_add_one, HA.out, hx, hy, e]
        have hne : x ≠ y → l1 ≠ l2 := by
          intro e e'
          rw [e', hy] at hx
          exact e (Option.some.inj hx).symm
        have HS := Lib.hid hstep
        have HNE := Lib.hid hne
        clear hstep hne hx hy h1 h2
        obtain ⟨xn, xv, xh⟩ := x
        obtain ⟨yn, yv, yh⟩ := y
        by_cases hxy : (⟨xn, xv, xh⟩ : It) = ⟨yn, yv, yh⟩
        · simp only [decide_eq_true hxy, Bool.not_true] at hcm
          have HX := Lib.hid (HS.out hxy)
          clear hxy HS HNE
          go_wp2_with fail
          go_quiet (fail)
          go_wp2_with fail
          go_roundw
          case rel => exact ⟨k + 1, _, by omega, by go_num, rfl, HX.out⟩
          case measure => simp [intOf]; omega
        · simp only [decide_eq_false hxy, Bool.not_false] at hcm
          have HX := Lib.hid (HNE.out hxy)
          clear hxy HS HNE
          go_wp2_with fail
          go_quiet (fail)
          go_wp2_with fail
          go_ret
          exact ⟨ret_bool (decide_eq_false HX.out).symm, _, (World.drewN_drewN _ _ _).symm⟩
      · obtain rfl : k = l1.length := by omega
        have heq : l1 = l2 := by
          have := HA.out
          rw [List.take_length, HN.out, List.take_length] at this
          exact this
        have HE := Lib.hid heq
        clear heq h1 h2
        go_wp2_with fail
        go_ret
        exact ⟨ret_bool (decide_eq_true HE.out).symm, _, rfl⟩
  · have e1 : ((l1.length : Int) != (l2.length : Int)) = true := by simp; omega
    have hne : l1 ≠ l2 := fun h => hn (by rw [h])
    have HNE := Lib.hid hne
    clear hne hn
    go_enter Tryz.func34, Tryz.ntmps34
    go_wp2_with fail
    go_ret
    exact ⟨ret_bool (decide_eq_false HNE.out).symm, 0, rfl⟩
end Go.Proofs.YtakcfgmibijdnaaGreatDoor

/- A string's bytes, as a slice that reads as the string. -/
namespace Go.Proofs.YtakcfgmibijdnaaGreatDoor
open Go.RowKit

section
variable {P : Program}
theorem wpList_bytes_sl {ops : Array Oper} {rest : List Oper} {o : Oper} {a : Act} {w : World} {Q : Exit → Act → World → Prop} (hgd : o.guard = none) (src dst e : TypeId) (x : Operand)
    (ho : o.op = .convert src dst x) (s : ByteArray) (hx : a.eval x = .string s) (hs : P.underlying src = some .string) (hd : P.underlying dst = some (.slice e)) (he : P.underlying e = some (.int .u8)) (hm : s.size ≤ 140737488351232)
    (h : ∀ (v : Value) (w' : World), BytesSl w' v s → Below w.heap.size w w' → wpList P ops Q rest (a.put o.dst v) w') : wpList P ops Q (o :: rest) a w := by
  refine wpList_plain hgd fun K hK => ?_
  unfold Oper.wp execOp
  have hr := run_bytes_of_string (P := P) w src dst e s hs hd he
  simp only [ho, hx, Sem.run_bind, hr, Result.andThen_ok, Sem.run_pure]
  refine hK _ _ (h _ _ (.inr ⟨w.heap.size, 0, grownCap w s.size 0 e, rfl, grownCap_ge w s.size 0 e, grownCap_le_maxLen w s.size 0 e (by unfold maxLen; omega), by simp, BytesAt.isIn ?_⟩) ((((Below.refl _ _).drew).alloc (Nat.le_refl _) _)))
  refine ⟨e, List.replicate (grownCap w s.size 0 e - s.size) (Value.int .u8 0), _, s.data.toList.length + (List.replicate (grownCap w s.size 0 e - s.size) (Value.int .u8 0)).length + 1, .inr (Nat.le_refl _), ?_⟩
  refine (heap_alloc_new w.drew _).trans ?_
  have hb : bytesRow s (grownCap w s.size 0 e) = (List.map byteV s.data.toList ++ List.replicate (grownCap w s.size 0 e - s.size) (Value.int .u8 0)).toArray := by
    unfold bytesRow
    apply Array.ext'
    simp [byteV]
  have hsz : (bytesRow s (grownCap w s.size 0 e)).size = s.data.toList.length + (List.replicate (grownCap w s.size 0 e - s.size) (Value.int .u8 0)).length := by
    rw [hb]; simp
  rw [hsz, hb]
end
end Go.Proofs.YtakcfgmibijdnaaGreatDoor
