/- A loop that writes into a call's own bytes: nothing else turns. -/
import Derived.Test.YtibhohpamnpkcaaGreatDoorRouteOrderM1
import Derived.Test.YtibhohpamnpkcaaGreatDoorRouteOrderM21
import Derived.Test.YtibhohpamnpkcaaGreatDoorRouteOrderM5
import Derived.Laws.OwnMore
import Derived.Deep.OwnRows
import Derived.Test.YtibhohpamnpkcaaGreatDoorShelf
import Derived.Lib.IndexMore
import Derived.Deep.DeepCutAuto
import Derived.Deep.DeepMust
import Derived.Test.YtibhohpamnpkcaaGreatDoorRouteOrderM10

namespace Go.Proofs.YtibhohpamnpkcaaGreatDoor
open Go.RowKit

/-- Block g is a row of at least n bytes that may be written. -/
def RowAt (w : World) (g n : Nat) : Prop := ∃ cur, w.heap[g]? = some (.cells cur 5 (0, 0)) ∧ n ≤ cur.size
theorem RowAt.cell {w : World} {g n i : Nat} (h : RowAt w g n) (hi : i < n) : ∃ u, w.cell? ⟨g, i, none⟩ = some u := by
  obtain ⟨cur, hh, hn⟩ := h
  rw [World.cell?, hh]
  simp
  exact ⟨cur[i]'(by omega), by rw [Array.getElem?_eq_getElem (by omega)]⟩
theorem RowAt.frozen {w : World} {g n i : Nat} (h : RowAt w g n) : w.frozen? ⟨g, i, none⟩ = false := by
  obtain ⟨cur, hh, hn⟩ := h
  simp [World.frozen?, hh]
theorem RowAt.store {w : World} {g n i : Nat} (h : RowAt w g n) (u : Value) : RowAt (w.setCell ⟨g, i, none⟩ u) g n := by
  obtain ⟨cur, hh, hn⟩ := h
  refine ⟨cur.setIfInBounds i u, ?_, by simpa using hn⟩
  simp only [World.setCell, Array.getElem?_modify, hh]
  simp
theorem OwnB.rowAt {w : World} {base g cap : Nat} {l : List UInt8} (h : OwnB w base (.slice (some ⟨g, 0, none⟩) l.length cap) l) : RowAt w g l.length := by
  rcases h.2 with ⟨h0, _⟩ | ⟨g', cap', cur, h0, _, hh, h1, _, h2, _⟩
  · cases h0
  · cases h0
    exact ⟨cur, hh, by omega⟩
theorem row_cell {w : World} {base n c i : Nat} {e : TypeId} {p : Option Addr} {xs : List Value} (h : w.ownsRow base e 1 (.slice p n c) n xs) (hi : i < n) : ∃ g, p = some ⟨g, 0, none⟩ ∧ w.cell? ⟨g, i, none⟩ = xs[i]? ∧ n ≤ c ∧ c ≤ maxLen := by
  have h' := h
  rcases h.2 with ⟨e0, e1⟩ | ⟨g, cap, cur, e0, _, _, h1, h2, _⟩
  · omega
  · cases e0
    exact ⟨g, rfl, h'.cellAt i (by omega), h1, h2⟩
theorem grown_refl (w : World) (row : Option Nat) : w.grownBy w row := ⟨rfl, rfl, rfl, Nat.le_refl _, fun _ _ _ => rfl⟩
theorem grown_trans {w w1 w2 : World} {row : Option Nat} (h1 : w.grownBy w1 row) (h2 : w1.grownBy w2 row) : w.grownBy w2 row :=
  ⟨h2.os.trans h1.os, h2.tape.trans h1.tape, h2.output.trans h1.output, Nat.le_trans h1.size h2.size, fun k hk hr => (h2.block k (Nat.lt_of_lt_of_le hk h1.size) hr).trans (h1.block k hk hr)⟩
theorem grown_set (w : World) (a : Addr) (u : Value) : w.grownBy (w.setCell a u) (some a.block) := by
  have hb : Below 0 w (w.setCell a u) := (Below.refl 0 w).setCell (Nat.zero_le _) u
  exact ⟨hb.os, hb.tape, hb.output, by simp [World.setCell], fun k _ hr => Below.heap_setCell w a u k (fun h => hr (by rw [h]))⟩
theorem FaultIs.fill {w w' : World} {g n : Nat} {v : Value} {k i : Int} {u : Value} (h : FaultIs w v k i u) (hr : RowAt w g n) (hg : w.grownBy w' (some g)) : FaultIs w' v k i u := by
  obtain ⟨b, rfl, hb⟩ := h
  obtain ⟨cur, hh, _⟩ := hr
  refine ⟨b, rfl, ?_⟩
  rw [hg.block b (lt_of_block hb) (fun e => by
    cases e
    rw [hb] at hh
    cases hh)]
  exact hb
theorem FaultIs.fill' {w w' : World} {base n c : Nat} {p : Option Addr} {l : List UInt8} {v : Value} {k i : Int} {u : Value} (h : FaultIs w v k i u) (ho : OwnB w base (.slice p n c) l) (hg : w.grownBy w' (Value.slice p n c).ownBlock) : FaultIs w' v k i u := by
  rcases ho.shape with ⟨_, e⟩ | ⟨g, cap, e, _⟩
  · cases e
    obtain ⟨b, rfl, hb⟩ := h
    exact ⟨b, rfl, (hg.block b (lt_of_block hb) (fun e => by cases e)).trans hb⟩
  · cases e
    exact h.fill ho.rowAt hg
theorem row_fill {w w' : World} {B n c k : Nat} {p : Option Addr} {e : TypeId} {size : Nat} {v : Value} {xs : List Value} (h : w.ownsRow B e size v k xs) (hB : ∀ g, (Value.slice p n c).ownBlock = some g → g < B) (hg : w.grownBy w' (Value.slice p n c).ownBlock) : w'.ownsRow B e size v k xs := by
  refine h.kept hg ?_
  cases hv : v.ownBlock with
  | none => exact .inl rfl
  | some b =>
    refine .inr fun e => ?_
    have h1 := (World.ownsRow.lt h b hv).1
    have h2 := hB b e.symm
    omega

/-- What stands while a loop writes into a call's own bytes. -/
def FillRel (w4 : World) (p : Option Addr) (n c : Nat) (wr : World) : Prop := w4.grownBy wr (Value.slice p n c).ownBlock ∧ (0 < n → ∃ g, p = some ⟨g, 0, none⟩ ∧ RowAt wr g n)
theorem FillRel.start {w : World} {base n c : Nat} {p : Option Addr} {l : List UInt8} (h : OwnB w base (.slice p n c) l) (hn : l.length = n) : FillRel w p n c w := by
  refine ⟨grown_refl _ _, fun h0 => ?_⟩
  subst hn
  rcases h.shape with ⟨e, _⟩ | ⟨g, cap, e, _⟩
  · subst e; simp at h0
  · cases e
    exact ⟨g, rfl, h.rowAt⟩
theorem FillRel.cell {w4 wr : World} {n c i : Nat} {p : Option Addr} (h : FillRel w4 p n c wr) (hi : i < n) :
    ∃ g, p = some ⟨g, 0, none⟩ ∧ (∃ u, wr.cell? ⟨g, i, none⟩ = some u) ∧ wr.frozen? ⟨g, i, none⟩ = false ∧ ∀ u, FillRel w4 p n c (wr.setCell ⟨g, i, none⟩ u) := by
  obtain ⟨hg, hr⟩ := h
  obtain ⟨g, rfl, hrow⟩ := hr (by omega)
  exact ⟨g, rfl, hrow.cell hi, hrow.frozen, fun u => ⟨grown_trans hg (grown_set wr ⟨g, i, none⟩ u), fun _ => ⟨g, rfl, hrow.store u⟩⟩⟩
end Go.Proofs.YtibhohpamnpkcaaGreatDoor

/- Parts of patterns with variables, in memory. -/
namespace Go.Proofs.YtibhohpamnpkcaaGreatDoor
open Go.RowKit

theorem info_piece : (Tryz.prog.info? 221).map (fun i => (i.zero, i.size, i.bytes)) = some (some (.agg #[.string ⟨#[]⟩, .bool false, .int .i64 0]), 3, 32) := by kernel_rfl

def pieceCells (p : PcS) : List Value := [.string p.text, .bool p.isVar, .int .i64 (p.place : Int)]
def piecesV (l : List PcS) : List Value := l.flatMap pieceCells
theorem piecesV_len (l : List PcS) : (piecesV l).length = l.length * 3 := by
  induction l with
  | nil => rfl
  | cons p l ih =>
    unfold piecesV at ih ⊢
    rw [List.flatMap_cons, List.length_append, ih, List.length_cons]
    show 3 + _ = _
    omega
theorem piecesV_app (a b : List PcS) : piecesV (a ++ b) = piecesV a ++ piecesV b := by unfold piecesV; exact List.flatMap_append
theorem piecesV_at {l : List PcS} {i : Nat} {p : PcS} (h : l[i]? = some p) (j : Nat) (hj : j < 3) : (piecesV l)[i * 3 + j]? = (pieceCells p)[j]? := by
  induction l generalizing i with
  | nil => simp at h
  | cons q l ih =>
    cases i with
    | zero =>
      simp at h; subst h
      show (pieceCells q ++ piecesV l)[0 * 3 + j]? = _
      rw [List.getElem?_append_left (by show _ < 3; omega)]
      congr 1; omega
    | succ i =>
      simp at h
      show (pieceCells q ++ piecesV l)[(i + 1) * 3 + j]? = _
      rw [List.getElem?_append_right (by show 3 ≤ _; omega), ← ih h]
      congr 1
      show (i + 1) * 3 + j - 3 = _
      omega
theorem piecesV_one (p : PcS) : ∀ u ∈ pieceCells p, u.oneCell' = true := by
  intro u hu
  unfold pieceCells at hu
  simp at hu
  rcases hu with rfl | rfl | rfl <;> rfl

def OwnPc (w : World) (base : Nat) (v : Value) (l : List PcS) : Prop := w.ownsRow base 221 3 v l.length (piecesV l)

theorem OwnPc.below {w w' : World} {base : Nat} {v : Value} {l : List PcS} (h : OwnPc w base v l) (hb : Below w.heap.size w w') : OwnPc w' base v l := ownsRow_below h hb
theorem OwnPc.nil (w : World) (base : Nat) : OwnPc w base (.slice none 0 0) [] := World.ownsRow_nil _ _ _ _
theorem OwnPc.under {w0 w w' : World} {base : Nat} {v : Value} {l : List PcS} (h : OwnPc w base v l) (hb : Below w0.heap.size w0 w) (hB : w0.heap.size ≤ base) (hg : w.grownBy w' v.ownBlock) : Below w0.heap.size w0 w' :=
  hb.grown hg hb.size (fun j hj => Nat.le_trans hB (World.ownsRow.lt h j hj).1)
theorem wpList_app_piece {w : World} {ops : Array Oper} {rest : List Oper} {o : Oper} {a : Act} {Q : Exit → Act → World → Prop} (hgd : o.guard = none) (s x : Operand) (ho : o.op = .call { callee := .builtin .append, args := #[s, x], argTypes := #[217, 217] })
    (base : Nat) (v : Value) (l : List PcS) (hs : a.eval s = v) (hown : OwnPc w base v l) (g c : Nat) (p : PcS) (hx : a.eval x = .slice (some ⟨g, 0, none⟩) 1 c) (hb : w.heap[g]? = some (.cells (pieceCells p).toArray 221 (0, 0)))
    (hl : l.length ≤ 1073741824) (hbase : base ≤ w.heap.size)
    (h : ∀ v' w', OwnPc w' base v' (l ++ [p]) → w.grownBy w' v.ownBlock → wpList Tryz.prog ops Q rest (a.put o.dst v') w') : wpList Tryz.prog ops Q (o :: rest) a w := by
  obtain ⟨i, hi, hz, hsize, hby⟩ := info_parts info_piece
  refine wpList_append_own _ hgd s x 217 ho base 221 i _ 3 32 Tryz.underlying217 hi hz hsize hby rfl (by decide) v _ _ hs hown _ 1 c (pieceCells p) hx rfl ?_ (piecesV_one p) (by unfold maxLen; omega) (by omega) hbase ?_
  · intro j u hj
    rw [Addr.add_lit, Nat.zero_add, cell_of_row w g j _ _ _ hb, ← hj]
    simp
  · intro v' w' h1 h2 _
    refine h v' w' ?_ h2
    unfold OwnPc
    rw [List.length_append, piecesV_app]
    have : piecesV [p] = pieceCells p := by unfold piecesV; simp
    rw [this]
    exact h1

theorem OwnPc.shape3 {w : World} {base : Nat} {v : Value} {l : List PcS} (h : OwnPc w base v l) : ∃ a n c, v = .slice a n c := by
  unfold OwnPc at h
  rcases h.2 with ⟨e0, _⟩ | ⟨g, cap, cur, e0, _⟩
  · exact ⟨_, _, _, e0⟩
  · exact ⟨_, _, _, e0⟩
/-- A slice of parts. -/
def PcsSl (w : World) (a : Option Addr) (l : List PcS) : Prop := ∀ (i : Nat) (p : PcS), l[i]? = some p → ∃ b, a = some ⟨b, 0, none⟩ ∧ b < w.heap.size ∧
  w.cell? ⟨b, i * 3, none⟩ = some (.string p.text) ∧ w.cell? ⟨b, i * 3 + 1, none⟩ = some (.bool p.isVar) ∧ w.cell? ⟨b, i * 3 + 2, none⟩ = some (.int .i64 (p.place : Int))
theorem PcsSl.below {w w' : World} {a : Option Addr} {l : List PcS} (h : PcsSl w a l) (hb : Below w.heap.size w w') : PcsSl w' a l := by
  intro i p hp
  obtain ⟨b, e, hlt, h1, h2, h3⟩ := h i p hp
  exact ⟨b, e, Nat.lt_of_lt_of_le hlt hb.size, (hb.cell (p := ⟨b, i * 3, none⟩) hlt).trans h1, (hb.cell (p := ⟨b, i * 3 + 1, none⟩) hlt).trans h2, (hb.cell (p := ⟨b, i * 3 + 2, none⟩) hlt).trans h3⟩
theorem OwnPc.sl {w : World} {base n c : Nat} {a : Option Addr} {l : List PcS} (h : OwnPc w base (.slice a n c) l) : n = l.length ∧ n ≤ c ∧ c ≤ maxLen ∧ PcsSl w a l := by
  unfold OwnPc at h
  rcases h.2 with ⟨e0, e1⟩ | ⟨g, cap, cur, e0, hg, hh, h1, h2, _⟩
  · cases e0
    refine ⟨e1.symm, Nat.le_refl _, by unfold maxLen; omega, fun i p hp => ?_⟩
    have := (List.getElem?_eq_some_iff.1 hp).1
    omega
  · cases e0
    refine ⟨rfl, h1, h2, fun i p hp => ?_⟩
    have hc := h.cells (g := g) rfl
    have c0 := hc (i * 3 + 0) _ ((piecesV_at hp 0 (by omega)).trans rfl)
    have c1 := hc (i * 3 + 1) _ ((piecesV_at hp 1 (by omega)).trans rfl)
    have c2 := hc (i * 3 + 2) _ ((piecesV_at hp 2 (by omega)).trans rfl)
    simp only [Addr.add_lit, Nat.zero_add, Nat.add_zero] at c0 c1 c2
    exact ⟨g, rfl, lt_of_block hh, c0, c1, c2⟩

end Go.Proofs.YtibhohpamnpkcaaGreatDoor

/- A variable of the library that is read on the way. -/
namespace Go.Proofs.YtibhohpamnpkcaaGreatDoor
open Go.RowKit

/-- The variable of the library that is read on the way: it holds some number. -/
def MaxAt (w : World) : Prop := ∃ m, w.cell? ⟨2, 0, none⟩ = some (.int .i64 m)
theorem MaxAt.below {w w' : World} (h : MaxAt w) (hb : Below w.heap.size w w') : MaxAt w' := by
  obtain ⟨m, hm⟩ := h
  have hlt : 2 < w.heap.size := by
    unfold World.cell? at hm
    cases hh : w.heap[(⟨2, 0, none⟩ : Addr).block]? with
    | none => rw [hh] at hm; simp at hm
    | some o => exact (Array.getElem?_eq_some_iff.1 hh).1
  exact ⟨m, (hb.cell (p := ⟨2, 0, none⟩) hlt).trans hm⟩
end Go.Proofs.YtibhohpamnpkcaaGreatDoor

/- subst.pieces: the parts of a pattern with variables. -/
namespace Go.Proofs.YtibhohpamnpkcaaGreatDoor
open Go.RowKit

theorem pre_pair (b : UInt8) (l : List UInt8) : ([36, 40] : List UInt8).isPrefixOf (b :: l) = decide (b = 36 ∧ l.head? = some 40) := by
  cases l with
  | nil => simp [List.isPrefixOf]
  | cons c l =>
    rw [Bool.eq_iff_iff]
    simp [List.isPrefixOf]
    constructor
    · rintro ⟨rfl, rfl⟩; exact ⟨rfl, rfl⟩
    · rintro ⟨rfl, rfl⟩; exact ⟨rfl, rfl⟩
theorem idx_pair : ∀ l : List UInt8, Lib.index l [36, 40] = -1 ∨ ∃ n : Nat, Lib.index l [36, 40] = (n : Int) ∧ n + 2 ≤ l.length := by
  intro l
  induction l with
  | nil => exact .inl rfl
  | cons c l ih =>
    rw [Lib.index, pre_pair]
    by_cases h : c = 36 ∧ l.head? = some 40
    · rw [decide_eq_true h, if_pos rfl]
      refine .inr ⟨0, rfl, ?_⟩
      cases l with
      | nil => simp at h
      | cons d l => simp
    · rw [decide_eq_false h, if_neg (by decide)]
      rcases ih with h1 | ⟨n, h1, h2⟩
      · rw [h1]; exact .inl rfl
      · rw [h1]
        refine .inr ⟨n + 1, ?_, by rw [List.length_cons]; omega⟩
        rw [if_neg (by simp <;> omega)]
        simp
/-- What is left to be told, from a place on. -/
def PcSt (p : ByteArray) (acc : List PcS) (at_ : Nat) : Prop := at_ ≤ p.size ∧ acc.length ≤ 2 * at_ ∧ ∃ f, p.size - at_ < f ∧ acc ++ (pcF p f at_).1 = (pcs p).1 ∧ (pcF p f at_).2 = (pcs p).2
theorem PcSt.zero (p : ByteArray) : PcSt p [] 0 := ⟨Nat.zero_le _, by simp, p.size + 1, by omega, rfl, rfl⟩
theorem PcSt.done {p : ByteArray} {acc : List PcS} {k : Nat} (h : PcSt p acc k) (hk : ¬ k < p.size) : (pcs p) = (acc, -1) := by
  obtain ⟨_, _, f, hf, h1, h2⟩ := h
  obtain ⟨f, rfl⟩ : ∃ f', f = f' + 1 := ⟨f - 1, by omega⟩
  rw [pcF, if_neg hk] at h1 h2
  rw [← Prod.eta (pcs p), ← h1, ← h2, List.append_nil]
theorem PcSt.none {p : ByteArray} {acc : List PcS} {k : Nat} (h : PcSt p acc k) (hk : k < p.size) (hi : Lib.index (p.extract k p.size).data.toList [36, 40] = -1) : (pcs p) = (acc ++ [⟨p.extract k p.size, false, k⟩], -1) := by
  obtain ⟨_, _, f, hf, h1, h2⟩ := h
  obtain ⟨f, rfl⟩ : ∃ f', f = f' + 1 := ⟨f - 1, by omega⟩
  rw [pcF, if_pos hk, hi, if_pos (by decide)] at h1 h2
  rw [← Prod.eta (pcs p), ← h1, ← h2]
/-- The part ahead of a variable. -/
def preP (p : ByteArray) (k n : Nat) : List PcS := if 0 < n then [⟨p.extract k (k + n), false, k⟩] else []
theorem pre_int (p : ByteArray) (k n : Nat) : (if (0 : Int) < (n : Int) then [(⟨p.extract k (k + n), false, k⟩ : PcS)] else []) = preP p k n := by
  unfold preP
  by_cases h : 0 < n
  · rw [if_pos h, if_pos (by omega)]
  · rw [if_neg h, if_neg (by omega)]
theorem PcSt.bad {p : ByteArray} {acc : List PcS} {k n : Nat} (h : PcSt p acc k) (hk : k < p.size) (hi : Lib.index (p.extract k p.size).data.toList [36, 40] = (n : Int)) (hc : cutH 41 (p.extract (k + n + 2) p.size) = false) : (pcs p) = (acc ++ preP p k n, ((k + n : Nat) : Int)) := by
  obtain ⟨_, _, f, hf, h1, h2⟩ := h
  obtain ⟨f, rfl⟩ : ∃ f', f = f' + 1 := ⟨f - 1, by omega⟩
  rw [pcF, if_pos hk, hi, if_neg (by omega), Int.toNat_natCast, if_neg (by rw [hc]; decide), pre_int] at h1 h2
  rw [← Prod.eta (pcs p), ← h1, ← h2]
theorem PcSt.step {p : ByteArray} {acc : List PcS} {k n : Nat} (h : PcSt p acc k) (hk : k < p.size) (hi : Lib.index (p.extract k p.size).data.toList [36, 40] = (n : Int)) (hc : cutH 41 (p.extract (k + n + 2) p.size) = true)
    (hb : k + n + 2 + (cutN 41 (p.extract (k + n + 2) p.size)).size + 1 ≤ p.size) : PcSt p (acc ++ preP p k n ++ [⟨cutN 41 (p.extract (k + n + 2) p.size), true, k + n⟩]) (k + n + 2 + (cutN 41 (p.extract (k + n + 2) p.size)).size + 1) := by
  obtain ⟨_, hl, f, hf, h1, h2⟩ := h
  obtain ⟨f, rfl⟩ : ∃ f', f = f' + 1 := ⟨f - 1, by omega⟩
  rw [pcF, if_pos hk, hi, if_neg (by omega), Int.toNat_natCast, if_pos hc, pre_int] at h1 h2
  refine ⟨hb, ?_, f, by omega, ?_, h2⟩
  · have : (preP p k n).length ≤ 1 := by unfold preP; split <;> simp
    simp only [List.length_append, List.length_cons, List.length_nil]
    omega
  · rw [← h1]; simp
end Go.Proofs.YtibhohpamnpkcaaGreatDoor

/- subst.pieces: the walk. -/
namespace Go.Proofs.YtibhohpamnpkcaaGreatDoor
open Go.RowKit

theorem cut_room {c : UInt8} {s : ByteArray} (h : cutH c s = true) : (cutN c s).size + 1 ≤ s.size := by
  obtain ⟨i, _, _, _, h4, h5⟩ := cut_lim c s
  rcases h5 with ⟨_, _, h6⟩ | ⟨h6, _⟩
  · rw [h] at h6; cases h6
  · omega
set_option maxHeartbeats 6400000 in
set_option maxRecDepth 100000 in
theorem sub_pieces (p : ByteArray) (w : World) (hm : MaxAt w) (hp : p.size ≤ 16777216) :
    Calls Tryz.prog 121 #[.string p] w fun e w' => ∃ v, e = .returned (.tuple #[v, .int .i64 (pcs p).2]) ∧ OwnPc w' w.heap.size v (pcs p).1 ∧ Below w.heap.size w w' := by
  have HM := Lib.hid hm
  clear hm
  go_enter Tryz.func121, Tryz.ntmps121
  go_wp2_with fail
  go_loopw [2, 4] (fun v x wr => ∃ (k : Nat) (acc : List PcS), x = .int .i64 k ∧ OwnPc wr w.heap.size v acc ∧ PcSt p acc k ∧ Below w.heap.size w wr) (fun _ x _ => p.size - (intOf x).toNat)
  case atStart => exact ⟨0, [], rfl, OwnPc.nil _ _, PcSt.zero p, Below.refl _ _⟩
  case round =>
    obtain ⟨k, acc, rfl, hown, hst, hbr⟩ := hrel
    have hkle := hst.1
    have hacc := hst.2.1
    by_cases hlt : k < p.size
    · have hkI : (k : Int) < (p.size : Int) := by omega
      have hkI2 : (k : Int) ≤ (p.size : Int) := by omega
      have hes := extract_tail_size p k hkle
      have hidx := idx_pair (p.extract k p.size).data.toList
      have hlen : (p.extract k p.size).data.toList.length = (p.extract k p.size).size := rfl
      rw [hlen, hes] at hidx
      obtain ⟨mx, hmx⟩ := HM.out.below hbr
      have hC := fun W hm => Tryz.strings_Index (p.extract k p.size) ⟨#[36, 40]⟩ mx W (by omega) hm
      rw [show (⟨#[36, 40]⟩ : ByteArray).data.toList = [36, 40] from rfl] at hC
      have HC := Lib.hid hC
      have hnone := fun h => hst.none hlt h
      have hbad := fun n h h2 => hst.bad (n := n) hlt h h2
      have hstep := fun n h h2 h3 => hst.step (n := n) hlt h h2 h3
      have HNONE := Lib.hid hnone
      have HBAD := Lib.hid hbad
      have HSTEP := Lib.hid hstep
      clear hC hnone hbad hstep hst hlen
      have hws := hbr.size
      go_wp2_with fail
      refine (HC.out _ hmx).mono ?_
      rintro e w2 ⟨rfl, rfl⟩
      rcases hidx with hi | ⟨n, hi, hn⟩
      · rw [hi]
        have HR := Lib.hid (HNONE.out hi)
        have ho2 := hown.below ((Below.refl w2.heap.size w2).alloc (Nat.le_refl _) (.cells #[.string (p.extract k p.size), .bool false, .int .i64 (k : Int)] 221))
        have hbr2 := hbr.alloc hbr.size (.cells #[.string (p.extract k p.size), .bool false, .int .i64 (k : Int)] 221)
        clear hi HBAD HSTEP HNONE HC hmx
        go_wp2_with (at_builtin; refine wpList_app_piece rfl (.tmp 19) (.tmp 25) rfl w.heap.size _ _ rfl ho2 w2.heap.size 1 ⟨p.extract k p.size, false, k⟩ rfl (heap_alloc_new w2 _) (by omega) (by simp; omega) ?_)
        intro v4 w4 hown4 hg4
        have hbr4 := ho2.under hbr2 (Nat.le_refl _) hg4
        clear ho2 hbr2 hown hbr hg4
        go_wp2_with fail
        go_ret2
        rw [HR.out]
        exact ⟨v4, rfl, hown4, hbr4⟩
      · rw [hi]
        have HB := Lib.hid (HBAD.out n hi)
        have HS := Lib.hid (HSTEP.out n hi)
        have hnI : ¬ (n : Int) < 0 := by omega
        clear hi HBAD HSTEP HNONE HC hmx
        have z1 : IntKind.i64.wrap ((k : Int) + (n : Int)) = (k : Int) + (n : Int) := IntWalk.i64_in _ (by omega)
        have y1 : (0 : Int) ≤ (k : Int) + (n : Int) := by omega
        have y2 : (k : Int) ≤ (k : Int) + (n : Int) := by omega
        have y3 : (k : Int) + (n : Int) ≤ (p.size : Int) := by omega
        have y4 : ((k : Int) + (n : Int)).toNat = k + n := by omega
        go_upto_if 28 with (fail)
        go_cut [2, 4] (fun v x wx => x = .int .i64 ((k + n : Nat) : Int) ∧ OwnPc wx w.heap.size v (acc ++ preP p k n) ∧ Below w.heap.size w wx)
        case first =>
          clear HB HS
          by_cases h0 : 0 < n
          · have h0I : (0 : Int) < (n : Int) := by omega
            have HP := Lib.hid (show preP p k n = [⟨p.extract k (k + n), false, k⟩] by unfold preP; rw [if_pos h0])
            have ho2 := hown.below ((Below.refl w2.heap.size w2).alloc (Nat.le_refl _) (.cells #[.string (p.extract k (k + n)), .bool false, .int .i64 (k : Int)] 221))
            have hbr2 := hbr.alloc hbr.size (.cells #[.string (p.extract k (k + n)), .bool false, .int .i64 (k : Int)] 221)
            clear h0
            go_wp2_with (at_builtin; refine wpList_app_piece rfl (.tmp 29) (.tmp 38) rfl w.heap.size _ _ rfl ho2 w2.heap.size 1 ⟨p.extract k (k + n), false, k⟩ rfl (heap_alloc_new w2 _) (by omega) (by simp; omega) ?_)
            intro v4 w4 hown4 hg4
            have hbr4 := ho2.under hbr2 (Nat.le_refl _) hg4
            clear ho2 hbr2 hown hbr hg4
            go_wp2_with fail
            go_meet
            exact ⟨by go_num, by rw [HP.out]; exact hown4, hbr4⟩
          · obtain rfl : n = 0 := by omega
            have HP := Lib.hid (show preP p k 0 = [] by unfold preP; rw [if_neg h0])
            clear h0
            go_wp2_with fail
            go_meet
            exact ⟨by go_num, by rw [HP.out, List.append_nil]; exact hown, hbr⟩
        case rest =>
          obtain ⟨rfl, hown3, hbr3⟩ := hcut
          have hacc2 : (acc ++ preP p k n).length ≤ 16777217 * 2 := by
            have : (preP p k n).length ≤ 1 := by unfold preP; split <;> simp
            rw [List.length_append]; omega
          clear hown hbr z1 y1 y2 y3 y4 hkI hkI2 hacc hes hkle hnI hws
          generalize acc ++ preP p k n = acc2 at *
          have hq2 : k + n + 2 ≤ p.size := by omega
          have hkq : k ≤ k + n := by omega
          generalize k + n = q at *
          have x1 : IntKind.i64.wrap ((q : Int) + 2) = (q : Int) + 2 := IntWalk.i64_in _ (by omega)
          have x2 : (0 : Int) ≤ (q : Int) + 2 := by omega
          have x3 : (q : Int) + 2 ≤ (p.size : Int) := by omega
          have x4 : ((q : Int) + 2).toNat = q + 2 := by omega
          have hsz2 := extract_tail_size p (q + 2) hq2
          have hCC := Lib.hid (fun W => strings_Cut1 (p.extract (q + 2) p.size) 41 W (by omega))
          have hroom : cutH 41 (p.extract (q + 2) p.size) = true → q + 2 + (cutN 41 (p.extract (q + 2) p.size)).size + 1 ≤ p.size := fun h => by have := cut_room h; omega
          have HRM := Lib.hid hroom
          clear hroom hsz2
          generalize cutN 41 (p.extract (q + 2) p.size) = nm at *
          generalize cutV 41 (p.extract (q + 2) p.size) = rv at *
          generalize cutH 41 (p.extract (q + 2) p.size) = hh at *
          go_wp2_with fail
          refine (hCC.out _).mono ?_
          rintro e w5 ⟨rfl, qd, rfl⟩
          have hbd : Below wc.heap.size wc (wc.drewN qd) := below_drewN (Below.refl _ _) qd
          have hown5 := hown3.below hbd
          have hbr5 := Bt hbr3 hbd
          clear hown3 hbr3 hbd hCC
          generalize wc.drewN qd = w5 at *
          cases hh with
          | false =>
            have HR := Lib.hid (HB.out rfl)
            clear HB HS
            go_wp2_with fail
            go_ret2
            rw [HR.out]
            exact ⟨_, rfl, hown5, hbr5⟩
          | true =>
            have hle := HRM.out rfl
            have HR := Lib.hid (HS.out rfl hle)
            clear HB HS HRM
            have ho2 := hown5.below ((Below.refl w5.heap.size w5).alloc (Nat.le_refl _) (.cells #[.string nm, .bool true, .int .i64 (q : Int)] 221))
            have hbr2 := hbr5.alloc hbr5.size (.cells #[.string nm, .bool true, .int .i64 (q : Int)] 221)
            have hws5 := hbr5.size
            have u1 : IntKind.i64.wrap (2 + (nm.size : Int)) = 2 + (nm.size : Int) := IntWalk.i64_in _ (by omega)
            have u2 : IntKind.i64.wrap (2 + (nm.size : Int) + 1) = 2 + (nm.size : Int) + 1 := IntWalk.i64_in _ (by omega)
            have u3 : IntKind.i64.wrap ((q : Int) + (2 + (nm.size : Int) + 1)) = (q : Int) + (2 + (nm.size : Int) + 1) := IntWalk.i64_in _ (by omega)
            go_wp2_with (at_builtin; refine wpList_app_piece rfl (.tmp 56) (.tmp 60) rfl w.heap.size _ _ rfl ho2 w5.heap.size 1 ⟨nm, true, q⟩ rfl (heap_alloc_new w5 _) (by omega) (by simp; omega) ?_)
            intro v4 w4 hown4 hg4
            have hbr4 := ho2.under hbr2 (Nat.le_refl _) hg4
            clear ho2 hbr2 hown5 hbr5 hg4
            go_wp2_with fail
            go_roundw
            case rel => exact ⟨q + 2 + nm.size + 1, _, by go_num, hown4, HR.out, hbr4⟩
            case measure => simp [intOf]; omega
    · have hkI : ¬ (k : Int) < (p.size : Int) := by omega
      have HR := Lib.hid (hst.done hlt)
      clear hst hlt
      go_wp2_with fail
      go_ret2
      rw [HR.out]
      exact ⟨_, rfl, hown, hbr⟩
end Go.Proofs.YtibhohpamnpkcaaGreatDoor

/- slices.IndexFunc, of rows of what subst has. -/
namespace Go.Proofs.YtibhohpamnpkcaaGreatDoor
open Go.RowKit

def findG {α : Type} (P : α → Bool) (l : List α) : Int := match l.findIdx? P with | some i => (i : Int) | none => -1
theorem findG_hit {α : Type} {P : α → Bool} {l : List α} {i : Nat} {x : α} (hx : l[i]? = some x) (h : P x = true) (hall : ∀ (j : Nat) (y : α), j < i → l[j]? = some y → P y = false) : findG P l = (i : Int) := by
  have : l.findIdx? P = some i := by
    obtain ⟨hi, rfl⟩ := List.getElem?_eq_some_iff.1 hx
    rw [List.findIdx?_eq_some_iff_getElem]
    exact ⟨hi, h, fun j hj => by rw [hall j _ hj (List.getElem?_eq_getElem (by omega))]; decide⟩
  unfold findG; rw [this]
theorem findG_none {α : Type} {P : α → Bool} {l : List α} (hall : ∀ (j : Nat) (y : α), l[j]? = some y → P y = false) : findG P l = -1 := by
  have : l.findIdx? P = none := by
    rw [List.findIdx?_eq_none_iff]
    intro x hx
    obtain ⟨j, hj⟩ := List.getElem?_of_mem hx
    exact hall j x hj
  unfold findG; rw [this]
/-- Rows of classes, of variables, of numbers, from an offset of a block on. -/
def ClsAt (w : World) (b off : Nat) (l : List (ByteArray × ByteArray × Nat)) : Prop := b < w.heap.size ∧ ∀ (i : Nat) x, l[i]? = some x → w.cell? ⟨b, off + i * 3, none⟩ = some (.string x.1) ∧ w.cell? ⟨b, off + i * 3 + 1, none⟩ = some (.string x.2.1) ∧ w.cell? ⟨b, off + i * 3 + 2, none⟩ = some (.int .i64 (x.2.2 : Nat))
theorem ClsAt.below {w w' : World} {b off : Nat} {l : List (ByteArray × ByteArray × Nat)} (h : ClsAt w b off l) (hb : Below w.heap.size w w') : ClsAt w' b off l :=
  ⟨Nat.lt_of_lt_of_le h.1 hb.size, fun i x hx => ⟨(hb.cell (p := ⟨b, _, none⟩) h.1).trans (h.2 i x hx).1, (hb.cell (p := ⟨b, _, none⟩) h.1).trans (h.2 i x hx).2.1, (hb.cell (p := ⟨b, _, none⟩) h.1).trans (h.2 i x hx).2.2⟩⟩
def NumAt (w : World) (b off : Nat) (l : List Nat) : Prop := b < w.heap.size ∧ ∀ (i : Nat) x, l[i]? = some x → w.cell? ⟨b, off + i, none⟩ = some (.int .i64 (x : Int))
theorem NumAt.below {w w' : World} {b off : Nat} {l : List Nat} (h : NumAt w b off l) (hb : Below w.heap.size w w') : NumAt w' b off l :=
  ⟨Nat.lt_of_lt_of_le h.1 hb.size, fun i x hx => (hb.cell (p := ⟨b, _, none⟩) h.1).trans (h.2 i x hx)⟩
/-- A slice of strings that lies anywhere: what a variable's values are. -/
def StrsV (w : World) (v : Value) (l : List ByteArray) : Prop := ∃ (a : Option Addr) (cap : Nat), v = .slice a l.length cap ∧ l.length ≤ cap ∧ ∀ (i : Nat) s, l[i]? = some s → ∃ b off, a = some ⟨b, off, none⟩ ∧ b < w.heap.size ∧ w.cell? ⟨b, off + i, none⟩ = some (.string s)
theorem StrsV.below {w w' : World} {v : Value} {l : List ByteArray} (h : StrsV w v l) (hb : Below w.heap.size w w') : StrsV w' v l := by
  obtain ⟨a, cap, e, hc, h⟩ := h
  refine ⟨a, cap, e, hc, fun i s hs => ?_⟩
  obtain ⟨b, off, e2, hlt, hcell⟩ := h i s hs
  exact ⟨b, off, e2, Nat.lt_of_lt_of_le hlt hb.size, (hb.cell (p := ⟨b, _, none⟩) hlt).trans hcell⟩
/-- A slice of variables that lies anywhere: names, and what lies behind them. -/
def VarSl (w : World) (a : Option Addr) (l : List (ByteArray × Value)) : Prop := ∀ (i : Nat) x, l[i]? = some x → ∃ b off, a = some ⟨b, off, none⟩ ∧ b < w.heap.size ∧ w.cell? ⟨b, off + i * 2, none⟩ = some (.string x.1) ∧ w.cell? ⟨b, off + i * 2 + 1, none⟩ = some x.2
theorem VarSl.below {w w' : World} {a : Option Addr} {l : List (ByteArray × Value)} (h : VarSl w a l) (hb : Below w.heap.size w w') : VarSl w' a l := by
  intro i v hv
  obtain ⟨b, off, e, hlt, h0, h1⟩ := h i v hv
  exact ⟨b, off, e, Nat.lt_of_lt_of_le hlt hb.size, (hb.cell (p := ⟨b, _, none⟩) hlt).trans h0, (hb.cell (p := ⟨b, _, none⟩) hlt).trans h1⟩
def VarsSl (w : World) (a : Option Addr) (l : List SVar) : Prop := ∃ us, VarSl w a us ∧ us.length = l.length ∧ ∀ (i : Nat) (v : SVar), l[i]? = some v → ∃ u, us[i]? = some (v.1, u) ∧ StrsV w u v.2
theorem VarsSl.below {w w' : World} {a : Option Addr} {l : List SVar} (h : VarsSl w a l) (hb : Below w.heap.size w w') : VarsSl w' a l := by
  obtain ⟨us, h1, h2, h3⟩ := h
  refine ⟨us, h1.below hb, h2, fun i v hv => ?_⟩
  obtain ⟨u, hu, hs⟩ := h3 i v hv
  exact ⟨u, hu, hs.below hb⟩
/-- A test that a closure makes of a list's elements, in whatever world lies behind w. -/
def TestCls (w : World) (f : FuncId) (caps : Array Value) (P : ByteArray × ByteArray × Nat → Bool) (l : List (ByteArray × ByteArray × Nat)) : Prop := ∀ (W : World) (x : ByteArray × ByteArray × Nat), x ∈ l → Below w.heap.size w W → Calls Tryz.prog f (#[.agg #[.string x.1, .string x.2.1, .int .i64 (x.2.2 : Nat)]] ++ caps) W fun e w' => e = .returned (.bool (P x)) ∧ Below W.heap.size W w'
set_option maxHeartbeats 1600000 in
set_option maxRecDepth 100000 in
theorem cls_IndexFunc (b off cap : Nat) (l : List (ByteArray × ByteArray × Nat)) (f : FuncId) (caps : Array Value) (P : ByteArray × ByteArray × Nat → Bool) (w : World) (hsl : ClsAt w b off l) (hl : l.length ≤ 16777216) (eg : ∀ args w, (callFunc f args).run Tryz.prog w = .ok (.enter f args) w) (hf : TestCls w f caps P l) :
    Calls Tryz.prog 185 #[.slice (some ⟨b, off, none⟩) l.length cap, .func (.func f) #[] caps] w fun e w' => e = .returned (.int .i64 (findG P l)) ∧ Below w.heap.size w w' := by
  have hF := Lib.hid hf
  clear hf
  go_enter Tryz.func185, Tryz.ntmps185
  go_wp2_with fail
  go_loopw [8] (fun x wr => ∃ i : Nat, i ≤ l.length ∧ x = .int .i64 i ∧ Below w.heap.size w wr ∧ ∀ (j : Nat) (y : ByteArray × ByteArray × Nat), j < i → l[j]? = some y → P y = false) (fun x _ => l.length - (intOf x).toNat)
  case atStart => exact ⟨0, Nat.zero_le _, rfl, Below.refl _ _, fun j y h => by omega⟩
  case round =>
    obtain ⟨i, hil, rfl, hbr, hall⟩ := hrel
    have HA := Lib.hid hall
    clear hall
    by_cases hlt : i < l.length
    · obtain ⟨x, hx⟩ : ∃ x, l[i]? = some x := ⟨_, List.getElem?_eq_getElem hlt⟩
      obtain ⟨d0, d1, d2⟩ := (hsl.below hbr).2 i x hx
      have hbw := (hsl.below hbr).1
      have hhit := fun h => findG_hit hx h HA.out
      have hst : P x = false → ∀ (j : Nat) (y : ByteArray × ByteArray × Nat), j < i + 1 → l[j]? = some y → P y = false := fun h j y hj hy => by
        by_cases hji : j = i
        · subst hji; rw [hx] at hy; cases hy; exact h
        · exact HA.out j y (by omega) hy
      have HHIT := Lib.hid hhit
      have HST := Lib.hid hst
      have cF := Lib.hid (hF.out wr x (List.mem_of_getElem? hx) hbr)
      obtain ⟨xn, xa, xz⟩ := x
      simp only at d0 d1 d2
      have hiI : (i : Int) < (l.length : Int) := by omega
      clear hhit hst hx HA hF
      generalize P _ = r at *
      go_wp2_with fail
      refine cF.out.mono ?_
      rintro e w2 ⟨rfl, hb2⟩
      have hbr2 := Bt hbr hb2
      cases r
      · have HX := Lib.hid (HST.out rfl)
        go_wp2_with fail
        go_roundw
        case rel => exact ⟨i + 1, by omega, by go_num, hbr2, HX.out⟩
        case measure => simp [intOf]; omega
      · have HX := Lib.hid (HHIT.out rfl)
        go_wp2_with fail
        go_ret
        exact ⟨ret_i64 HX.out.symm, hbr2⟩
    · obtain rfl : i = l.length := by omega
      have hn : findG P l = -1 := findG_none fun j y hy => HA.out j y (List.getElem?_eq_some_iff.1 hy).1 hy
      have HN := Lib.hid hn
      clear hn
      go_wp2_with fail
      go_ret
      exact ⟨ret_i64 HN.out.symm, hbr⟩
/-- A test that a closure makes of a list's elements, in whatever world lies behind w. -/
def TestNum (w : World) (f : FuncId) (caps : Array Value) (P : Nat → Bool) (l : List (Nat)) : Prop := ∀ (W : World) (x : Nat), x ∈ l → Below w.heap.size w W → Calls Tryz.prog f (#[.int .i64 (x : Int)] ++ caps) W fun e w' => e = .returned (.bool (P x)) ∧ Below W.heap.size W w'
set_option maxHeartbeats 1600000 in
set_option maxRecDepth 100000 in
theorem num_IndexFunc (b off cap : Nat) (l : List (Nat)) (f : FuncId) (caps : Array Value) (P : Nat → Bool) (w : World) (hsl : NumAt w b off l) (hl : l.length ≤ 16777216) (eg : ∀ args w, (callFunc f args).run Tryz.prog w = .ok (.enter f args) w) (hf : TestNum w f caps P l) :
    Calls Tryz.prog 208 #[.slice (some ⟨b, off, none⟩) l.length cap, .func (.func f) #[] caps] w fun e w' => e = .returned (.int .i64 (findG P l)) ∧ Below w.heap.size w w' := by
  have hF := Lib.hid hf
  clear hf
  go_enter Tryz.func208, Tryz.ntmps208
  go_wp2_with fail
  go_loopw [8] (fun x wr => ∃ i : Nat, i ≤ l.length ∧ x = .int .i64 i ∧ Below w.heap.size w wr ∧ ∀ (j : Nat) (y : Nat), j < i → l[j]? = some y → P y = false) (fun x _ => l.length - (intOf x).toNat)
  case atStart => exact ⟨0, Nat.zero_le _, rfl, Below.refl _ _, fun j y h => by omega⟩
  case round =>
    obtain ⟨i, hil, rfl, hbr, hall⟩ := hrel
    have HA := Lib.hid hall
    clear hall
    by_cases hlt : i < l.length
    · obtain ⟨x, hx⟩ : ∃ x, l[i]? = some x := ⟨_, List.getElem?_eq_getElem hlt⟩
      have d0 := (hsl.below hbr).2 i x hx
      have hbw := (hsl.below hbr).1
      have hhit := fun h => findG_hit hx h HA.out
      have hst : P x = false → ∀ (j : Nat) (y : Nat), j < i + 1 → l[j]? = some y → P y = false := fun h j y hj hy => by
        by_cases hji : j = i
        · subst hji; rw [hx] at hy; cases hy; exact h
        · exact HA.out j y (by omega) hy
      have HHIT := Lib.hid hhit
      have HST := Lib.hid hst
      have cF := Lib.hid (hF.out wr x (List.mem_of_getElem? hx) hbr)
      skip
      have hiI : (i : Int) < (l.length : Int) := by omega
      clear hhit hst hx HA hF
      generalize P _ = r at *
      go_wp2_with fail
      refine cF.out.mono ?_
      rintro e w2 ⟨rfl, hb2⟩
      have hbr2 := Bt hbr hb2
      cases r
      · have HX := Lib.hid (HST.out rfl)
        go_wp2_with fail
        go_roundw
        case rel => exact ⟨i + 1, by omega, by go_num, hbr2, HX.out⟩
        case measure => simp [intOf]; omega
      · have HX := Lib.hid (HHIT.out rfl)
        go_wp2_with fail
        go_ret
        exact ⟨ret_i64 HX.out.symm, hbr2⟩
    · obtain rfl : i = l.length := by omega
      have hn : findG P l = -1 := findG_none fun j y hy => HA.out j y (List.getElem?_eq_some_iff.1 hy).1 hy
      have HN := Lib.hid hn
      clear hn
      go_wp2_with fail
      go_ret
      exact ⟨ret_i64 HN.out.symm, hbr⟩
/-- A test that a closure makes of a list's elements, in whatever world lies behind w. -/
def TestVar (w : World) (f : FuncId) (caps : Array Value) (P : ByteArray × Value → Bool) (l : List (ByteArray × Value)) : Prop := ∀ (W : World) (x : ByteArray × Value), x ∈ l → Below w.heap.size w W → Calls Tryz.prog f (#[.agg #[.string x.1, x.2]] ++ caps) W fun e w' => e = .returned (.bool (P x)) ∧ Below W.heap.size W w'
set_option maxHeartbeats 1600000 in
set_option maxRecDepth 100000 in
theorem var_IndexFunc (a : Option Addr) (cap : Nat) (l : List (ByteArray × Value)) (f : FuncId) (caps : Array Value) (P : ByteArray × Value → Bool) (w : World) (hsl : VarSl w a l) (hl : l.length ≤ 16777216) (eg : ∀ args w, (callFunc f args).run Tryz.prog w = .ok (.enter f args) w) (hf : TestVar w f caps P l) :
    Calls Tryz.prog 179 #[.slice a l.length cap, .func (.func f) #[] caps] w fun e w' => e = .returned (.int .i64 (findG P l)) ∧ Below w.heap.size w w' := by
  have hF := Lib.hid hf
  clear hf
  go_enter Tryz.func179, Tryz.ntmps179
  go_wp2_with fail
  go_loopw [8] (fun x wr => ∃ i : Nat, i ≤ l.length ∧ x = .int .i64 i ∧ Below w.heap.size w wr ∧ ∀ (j : Nat) (y : ByteArray × Value), j < i → l[j]? = some y → P y = false) (fun x _ => l.length - (intOf x).toNat)
  case atStart => exact ⟨0, Nat.zero_le _, rfl, Below.refl _ _, fun j y h => by omega⟩
  case round =>
    obtain ⟨i, hil, rfl, hbr, hall⟩ := hrel
    have HA := Lib.hid hall
    clear hall
    by_cases hlt : i < l.length
    · obtain ⟨x, hx⟩ : ∃ x, l[i]? = some x := ⟨_, List.getElem?_eq_getElem hlt⟩
      obtain ⟨b, off, rfl, hbw, d0, d1⟩ := (hsl.below hbr) i x hx
      have hhit := fun h => findG_hit hx h HA.out
      have hst : P x = false → ∀ (j : Nat) (y : ByteArray × Value), j < i + 1 → l[j]? = some y → P y = false := fun h j y hj hy => by
        by_cases hji : j = i
        · subst hji; rw [hx] at hy; cases hy; exact h
        · exact HA.out j y (by omega) hy
      have HHIT := Lib.hid hhit
      have HST := Lib.hid hst
      have cF := Lib.hid (hF.out wr x (List.mem_of_getElem? hx) hbr)
      obtain ⟨xn, xu⟩ := x
      simp only at d0 d1
      have hiI : (i : Int) < (l.length : Int) := by omega
      clear hhit hst hx HA hF
      generalize P _ = r at *
      go_wp2_with fail
      refine cF.out.mono ?_
      rintro e w2 ⟨rfl, hb2⟩
      have hbr2 := Bt hbr hb2
      cases r
      · have HX := Lib.hid (HST.out rfl)
        go_wp2_with fail
        go_roundw
        case rel => exact ⟨i + 1, by omega, by go_num, hbr2, HX.out⟩
        case measure => simp [intOf]; omega
      · have HX := Lib.hid (HHIT.out rfl)
        go_wp2_with fail
        go_ret
        exact ⟨ret_i64 HX.out.symm, hbr2⟩
    · obtain rfl : i = l.length := by omega
      have hn : findG P l = -1 := findG_none fun j y hy => HA.out j y (List.getElem?_eq_some_iff.1 hy).1 hy
      have HN := Lib.hid hn
      clear hn
      go_wp2_with fail
      go_ret
      exact ⟨ret_i64 HN.out.symm, hbr⟩
set_option maxHeartbeats 800000 in
theorem num_ContainsFunc (b off cap : Nat) (l : List Nat) (f : FuncId) (caps : Array Value) (P : Nat → Bool) (w : World) (hsl : NumAt w b off l) (hl : l.length ≤ 16777216) (eg : ∀ args w, (callFunc f args).run Tryz.prog w = .ok (.enter f args) w) (hf : TestNum w f caps P l) :
    Calls Tryz.prog 187 #[.slice (some ⟨b, off, none⟩) l.length cap, .func (.func f) #[] caps] w fun e w' => e = .returned (.bool (l.any P)) ∧ Below w.heap.size w w' := by
  have cI := Lib.hid (num_IndexFunc b off cap l f caps P w hsl hl eg hf)
  have hA : decide (0 ≤ findG P l) = l.any P := by
    unfold findG
    cases h : l.findIdx? P with
    | none =>
      have : l.any P = false := by
        rw [List.findIdx?_eq_none_iff] at h
        rw [List.any_eq_false]
        exact fun x hx => by simp [h x hx]
      rw [this]; rfl
    | some i =>
      obtain ⟨hi, h1, _⟩ := List.findIdx?_eq_some_iff_getElem.1 h
      have : l.any P = true := List.any_eq_true.2 ⟨_, List.getElem_mem hi, h1⟩
      rw [this]; simp
  have HA := Lib.hid hA
  clear hA
  generalize findG P l = i at *
  clear hf hsl eg
  go_enter Tryz.func187, Tryz.ntmps187
  go_wp2_with fail
  refine cI.out.mono ?_
  rintro e w2 ⟨rfl, hb2⟩
  go_wp2_with fail
  go_ret
  exact ⟨ret_bool HA.out, hb2⟩
end Go.Proofs.YtibhohpamnpkcaaGreatDoor
