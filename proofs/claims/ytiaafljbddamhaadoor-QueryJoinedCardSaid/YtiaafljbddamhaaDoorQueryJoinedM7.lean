/- Queries' items: plain facts. -/
import Derived.Test.YtiaafljbddamhaaDoorQueryJoinedM3
import Derived.Test.YtiaafljbddamhaaDoorQueryJoinedM5
import Derived.Test.YtiaafljbddamhaaDoorQueryJoinedM6
import Derived.Test.YtiaafljbddamhaaDoorQueryJoinedM2
import Derived.Laws.BytesArg
import Derived.Laws.Tables
import Derived.Laws.ResultCell
import Derived.Laws.MakeOwn
import Derived.Test.YtiaafljbddamhaaDoorQueryJoinedM1
import Derived.LaidHandle
import Derived.LaidLaws
import Derived.Stop.Joined
import Derived.Lib.LaidU8T
import Derived.Shelf.Unicode.DecodeSlow

namespace Go.Proofs.YtiaafljbddamhaaDoor
open Go.RowKit

def okS (l : List UInt8) : Bool := (chrs (ofL l)).2.isNone
/-- The item of a part, or the error's kind and place. -/
def itemP (p : ByteArray) : Except (Nat × Nat) It :=
  match (told (cutN 61 p)).2 with
  | some i => .error (11, i)
  | none => match (told (cutV 61 p)).2 with
    | some i => .error (11, (cutN 61 p).size + 1 + i)
    | none => if okS (bytesT (cutN 61 p)) = true ∧ okS (bytesT (cutV 61 p)) = true then .ok ⟨ofL (bytesT (cutN 61 p)), ofL (bytesT (cutV 61 p)), cutH 61 p⟩ else .error (12, 0)
theorem itemP_bad1 {p : ByteArray} {i : Nat} (h : (told (cutN 61 p)).2 = some i) : itemP p = .error (11, i) := by unfold itemP; rw [h]
theorem itemP_bad2 {p : ByteArray} {i : Nat} (h0 : (told (cutN 61 p)).2 = none) (h : (told (cutV 61 p)).2 = some i) : itemP p = .error (11, (cutN 61 p).size + 1 + i) := by unfold itemP; rw [h0, h]
theorem itemP_utf {p : ByteArray} (h0 : (told (cutN 61 p)).2 = none) (h1 : (told (cutV 61 p)).2 = none) (h : ¬ (okS (bytesT (cutN 61 p)) = true ∧ okS (bytesT (cutV 61 p)) = true)) : itemP p = .error (12, 0) := by unfold itemP; rw [h0, h1]; exact if_neg h
theorem itemP_ok {p : ByteArray} (h0 : (told (cutN 61 p)).2 = none) (h1 : (told (cutV 61 p)).2 = none) (h : okS (bytesT (cutN 61 p)) = true ∧ okS (bytesT (cutV 61 p)) = true) : itemP p = .ok ⟨ofL (bytesT (cutN 61 p)), ofL (bytesT (cutV 61 p)), cutH 61 p⟩ := by unfold itemP; rw [h0, h1]; exact if_pos h
theorem itemP_kind {p : ByteArray} {k i : Nat} (h : itemP p = .error (k, i)) : k = 11 ∨ k = 12 := by
  unfold itemP at h
  split at h
  · cases h; exact .inl rfl
  · split at h
    · cases h; exact .inl rfl
    · split at h
      · cases h
      · cases h; exact .inr rfl

/-- What a part of a query gives. -/
def stepQ : StepG := fun p full => if p.size = 0 then none else if full = true then some (.error (15, 0)) else some (itemP p)
theorem stepQ_right : RightG stepQ where
  kind := by
    intro p b k i h
    unfold stepQ at h
    split at h
    · cases h
    · split at h
      · cases h; decide
      · have := itemP_kind (Option.some.inj h); omega
  none := by
    intro p b b' h
    unfold stepQ at h ⊢
    split at h
    · next h0 => rw [if_pos h0]
    · split at h <;> cases h
  full := by
    intro p x h
    unfold stepQ at h
    split at h
    · cases h
    · cases h
theorem stepQ_empty {p : ByteArray} {b : Bool} (h : p.size = 0) : stepQ p b = none := by unfold stepQ; rw [if_pos h]
theorem stepQ_many {p : ByteArray} (h : p.size ≠ 0) : stepQ p true = some (.error (15, 0)) := by unfold stepQ; rw [if_neg h, if_pos rfl]
theorem stepQ_item {p : ByteArray} (h : p.size ≠ 0) : stepQ p false = some (itemP p) := by unfold stepQ; rw [if_neg h, if_neg (by decide)]
def itemsQ (s : ByteArray) : List It × Nat × Nat := goG stepQ 256 (partsB 38 s) 0 []
end Go.Proofs.YtiaafljbddamhaaDoor

/- A call's own bytes, as a string. -/
namespace Go.Proofs.YtiaafljbddamhaaDoor
open Go.RowKit

theorem BytesSl.conv {w : World} {a : Option Addr} {len cap : Nat} {s : ByteArray} (h : BytesSl w (.slice a len cap) s) : (convert 35 9 (.slice a len cap)).run Tryd.prog w = .ok (.string s) w := by
  rcases h with ⟨h0, a', cap', e⟩ | ⟨b, off, cap', e, h1, h2, h3, h4⟩
  · cases e
    have hs : s = ⟨#[]⟩ := by
      apply ByteArray.ext
      apply Array.eq_empty_of_size_eq_zero
      exact h0
    subst hs
    cases a with
    | none =>
      exact run_convert_bytes_nil w 35 5 Tryd.underlying35 Tryd.underlying5 0 cap 9 Tryd.underlying9
    | some ad =>
      have := run_convert_bytes_back (P := Tryd.prog) w 35 9 5 ad cap [] Tryd.underlying35 Tryd.underlying5 Tryd.underlying9 (fun j hj => by simp at hj)
      exact this
  · cases e
    have := run_convert_bytes_back (P := Tryd.prog) w 35 9 5 ⟨b, off, none⟩ cap s.data.toList Tryd.underlying35 Tryd.underlying5 Tryd.underlying9 (fun j hj => by
      have hj' : j < s.size := hj
      rw [Addr.add_lit, h4 j hj']
      simp [byteAt, List.getD, List.getElem?_eq_getElem hj])
    exact this
theorem OwnB.conv {w : World} {base : Nat} {v : Value} {l : List UInt8} (h : OwnB w base v l) : (convert 35 9 v).run Tryd.prog w = .ok (.string ⟨l.toArray⟩) w := by
  rcases h.shape with ⟨rfl, rfl⟩ | ⟨g, cap, rfl, h1, h2, h3, h4⟩
  · exact BytesSl.conv h.sl
  · exact BytesSl.conv h.sl
end Go.Proofs.YtiaafljbddamhaaDoor

/- query.decode. -/
namespace Go.Proofs.YtiaafljbddamhaaDoor
open Go.RowKit

def QDecPost (s : ByteArray) (a : Nat) (w : World) (e : Ending) (w' : World) : Prop := Below w.heap.size w w' ∧ (((told s).2 = none ∧ e = .returned (.tuple #[.string (ofL (bytesT s)), .nilIface])) ∨ (∃ i n, (told s).2 = some i ∧ ∃ v, e = .returned (.tuple #[.string ⟨#[]⟩, v]) ∧ FaultIs w' v 11 ((a + i : Nat) : Int) n))
set_option maxHeartbeats 1600000 in
set_option maxRecDepth 100000 in
theorem query_decode (s : ByteArray) (a : Nat) (w : World) (hg : Handle w) (hs : s.size ≤ 16777216) (ha : a ≤ 16777216) (ht : ∀ i, (told s).2 = some i → i ≤ 16777216) : Calls Tryd.prog 96 #[.string s, .int .i64 (a : Int)] w (QDecPost s a w) := by
  have cD := Lib.hid (fun W => percent_Decode s W hs)
  have HT := Lib.hid ht
  clear ht
  go_enter Tryd.func96, Tryd.ntmps96
  go_wp2_with fail
  refine (cD.out _).mono ?_
  rintro e w1 ⟨hb1, h⟩
  have hg1 := hg.below hb1
  rcases h with ⟨hn, v, rfl, hown⟩ | ⟨i, hi, v, rfl, hv⟩
  · have hown2 := hown.below ((Below.refl w1.heap.size w1).alloc (Nat.le_refl _) (.cells #[.pointer none] 90))
    have hb2 : Below w.heap.size w (w1.alloc (.cells #[.pointer none] 90)) := hb1.alloc hb1.size _
    have hconv := hown2.conv
    have HN := Lib.hid hn
    clear hn hown
    go_wp2_with fail
    refine (as_nil _ _).mono ?_
    rintro e w2 ⟨rfl, rfl⟩
    go_wp2_with fail
    go_ret2
    exact ⟨hb2, .inl ⟨HN.out, rfl⟩⟩
  · obtain ⟨b, rfl, hblk⟩ := id hv
    have hlt := lt_of_block hblk
    have hi2 := HT.out i hi
    have hg2 : Handle (w1.alloc (.cells #[.pointer none] 90)) := hg1.below ((Below.refl _ _).alloc (Nat.le_refl _) _)
    have ht1 : (w1.alloc (.cells #[.pointer none] 90)).cell? ⟨w1.heap.size, 0, none⟩ = some (.pointer none) := by simp
    have hf1 : (w1.alloc (.cells #[.pointer none] 90)).frozen? ⟨w1.heap.size, 0, none⟩ = false := by simp
    have HI := Lib.hid hi
    clear hi hv
    go_wp2_with fail
    refine (as_hit ⟨b, 0, none⟩ ⟨w1.heap.size, 0, none⟩ (.pointer none) _ hg2 ht1 hf1).mono ?_
    rintro e w3 ⟨rfl, hw⟩
    obtain ⟨hb3, hc0⟩ := as_world b w1 _ w3 rfl hw
    have hcb : w3.cell? ⟨b, 1, none⟩ = some (.int .i64 (i : Int)) := by
      rw [hb3.cell hlt, cell_of_row w1 b 1 _ _ _ hblk]; rfl
    have hb13 := Bt hb1 hb3
    clear hw hg2 ht1 hf1 hblk hb3
    go_wp2_with fail
    refine (wrap_fault 11 _ _ _ ⟨_, _, rfl⟩).mono ?_
    rintro e w4 ⟨u, rfl, hu, hb4⟩
    have hb14 := Bt hb13 hb4
    have HU := Lib.hid hu
    clear hu
    go_wp2_with fail
    go_ret2
    exact ⟨hb14, .inr ⟨i, _, HI.out, u, rfl, by have := HU.out; rw [Int.natCast_add]; exact this⟩⟩
end Go.Proofs.YtiaafljbddamhaaDoor

/- An item in a variable of a function's own; given back out of it. -/
namespace Go.Proofs.YtiaafljbddamhaaDoor
open Go.RowKit

theorem size_item : (Tryd.prog.info? 78).map (·.size) = some 3 := by kernel_rfl
def itemA (n v : ByteArray) (h : Bool) : Array Value := #[.string n, .string v, .bool h]
/-- In block g lies an item. -/
def ItemAt (w : World) (g : Nat) (n v : ByteArray) (h : Bool) : Prop := w.heap[g]? = some (.cells #[.string n, .string v, .bool h] 78 (0, 0))
section
variable {w w' : World} {g : Nat} {n v : ByteArray} {b : Bool}
theorem ItemAt.new : ItemAt (w.alloc (.cells #[.string n, .string v, .bool b] 78)) w.heap.size n v b := heap_alloc_new w _
theorem ItemAt.lt (h : ItemAt w g n v b) : g < w.heap.size := lt_of_block h
theorem ItemAt.below (h : ItemAt w g n v b) (hb : Below w.heap.size w w') : ItemAt w' g n v b := (hb.block g h.lt).trans h
theorem ItemAt.below' {B : Nat} (h : ItemAt w g n v b) (hb : Below B w w') (hB : g < B) : ItemAt w' g n v b := (hb.block g hB).trans h
theorem ItemAt.drewN (h : ItemAt w g n v b) (m : Nat) : ItemAt (w.drewN m) g n v b := h
theorem ItemAt.set (h : ItemAt w g n v b) (n' v' : ByteArray) (b' : Bool) : ItemAt (w.setRow g #[.string n', .string v', .bool b']) g n' v' b' := setRow_heap w g _ _ _ _ h
theorem ItemAt.setHas (h : ItemAt w g n v b) (b' : Bool) : ItemAt (w.setCell ⟨g, 2, none⟩ (.bool b')) g n v b' := by
  unfold ItemAt at h ⊢; simp [World.setCell, Array.getElem?_modify, h]
theorem ItemAt.setValue (h : ItemAt w g n v b) (v' : ByteArray) : ItemAt (w.setCell ⟨g, 1, none⟩ (.string v')) g n v' b := by
  unfold ItemAt at h ⊢; simp [World.setCell, Array.getElem?_modify, h]
theorem ItemAt.setName (h : ItemAt w g n v b) (n' : ByteArray) : ItemAt (w.setCell ⟨g, 0, none⟩ (.string n')) g n' v b := by
  unfold ItemAt at h ⊢; simp [World.setCell, Array.getElem?_modify, h]
theorem ItemAt.setOther (h : ItemAt w g n v b) {q : Nat} (hq : q ≠ g) (j : Nat) (u : Value) : ItemAt (w.setCell ⟨q, j, none⟩ u) g n v b := (Below.heap_setCell w ⟨q, j, none⟩ u g (fun e => hq e.symm)).trans h
theorem ItemAt.frozen (h : ItemAt w g n v b) (j : Nat) : w.frozen? ⟨g, j, none⟩ = false := by
  unfold ItemAt at h; simp [World.frozen?, h]
theorem ItemAt.load (h : ItemAt w g n v b) : (loadVar 78 ⟨g, 0, none⟩).run Tryd.prog w = .ok (.agg #[.string n, .string v, .bool b]) w :=
  run_loadVar_row w g _ _ _ _ _ h Tryd.underlying78 rfl (by rw [size_item]; rfl)
theorem ItemAt.cells (h : ItemAt w g n v b) : w.cell? ⟨g, 0, none⟩ = some (.string n) ∧ w.cell? ⟨g, 1, none⟩ = some (.string v) ∧ w.cell? ⟨g, 2, none⟩ = some (.bool b) := by
  unfold ItemAt at h
  refine ⟨?_, ?_, ?_⟩
  · rw [cell_of_row w g 0 _ _ _ h]; rfl
  · rw [cell_of_row w g 1 _ _ _ h]; rfl
  · rw [cell_of_row w g 2 _ _ _ h]; rfl
end
theorem below_setRowI {B : Nat} {a w : World} (h : Below B a w) {g : Nat} (hg : B ≤ g) (cs : Array Value) : Below B a (w.setRow g cs) :=
  ⟨h.os, h.tape, h.output, by simpa using h.size, fun k hk => (setRow_other w g k cs (by omega)).trans (h.block k hk)⟩
theorem FaultIs.setItem {w : World} {x : Value} {k i : Int} {m : Value} {g : Nat} {n v : ByteArray} {b : Bool} (h : FaultIs w x k i m) (hg : ItemAt w g n v b) (ds : Array Value) : FaultIs (w.setRow g ds) x k i m := by
  obtain ⟨q, rfl, hh⟩ := h
  have hne : q ≠ g := by
    rintro rfl
    unfold ItemAt at hg
    rw [hh] at hg
    injection hg with this
    injection this with h1 h2
    injection h1 with h3
    injection h3 with h4
    cases h4
  exact ⟨q, rfl, (setRow_other w g q ds hne).trans hh⟩
section
variable {fn : Func} {p u : Tmp} {tmps : Array Value} {w : World} {g : Nat} {n v : ByteArray} {b : Bool}
theorem results_item (h : fn.results = #[.cell p 78, .tmp u]) (hp : tmps.getD p undef = .pointer (some ⟨g, 0, none⟩)) (hg : ItemAt w g n v b) :
    (results fn tmps).run Tryd.prog w = .ok (.tuple #[.agg #[.string n, .string v, .bool b], tmps.getD u undef]) w := by
  rw [results_cell_tmp h, hp]
  simp [asAddr, Result.andThen, hg.load]
end
section
variable {w : World} {ops : Array Oper} {rest : List Oper} {o : Oper} {a : Act} {Q : Exit → Act → World → Prop}
theorem all_item (n v : ByteArray) (b : Bool) : (#[Value.string n, .string v, .bool b] : Array Value).all (·.oneCell') = true := by simp [Value.oneCell']
/-- An item is stored into a variable of the function's own. -/
theorem wpList_store_item (hgd : o.guard = none) (x y : Operand) (ho : o.op = .store 78 x y) (g : Nat) (n v : ByteArray) (b : Bool) (hx : a.eval x = .pointer (some ⟨g, 0, none⟩)) (hy : a.eval y = .agg #[.string n, .string v, .bool b]) (n0 v0 : ByteArray) (b0 : Bool) (hg : ItemAt w g n0 v0 b0)
    (h : ItemAt (w.setRow g #[.string n, .string v, .bool b]) g n v b → wpList Tryd.prog ops Q rest (a.put o.dst undef) (w.setRow g #[.string n, .string v, .bool b])) : wpList Tryd.prog ops Q (o :: rest) a w :=
  wpList_store_row hgd _ x y ho g _ hx hy _ _ hg (by rw [size_item]; rfl) rfl (all_item n v b) (h (hg.set _ _ _))
end
end Go.Proofs.YtiaafljbddamhaaDoor

/- errors.Join of two. (Printed by gen_errjoin.py.) -/
namespace Go.Proofs.YtiaafljbddamhaaDoor
open Go.RowKit

theorem info_err : (Tryd.prog.info? 25).map (fun i => (i.zero, i.size, i.bytes)) = some (some .nilIface, 1, 16) := by kernel_rfl
set_option maxHeartbeats 1600000 in
set_option maxRecDepth 100000 in
theorem join_nils (g c : Nat) (w : World) (h0 : w.cell? ⟨g, 0, none⟩ = some .nilIface) (h1 : w.cell? ⟨g, 1, none⟩ = some .nilIface) :
    Calls Tryd.prog 97 #[.slice (some ⟨g, 0, none⟩) 2 c] w fun e w' => e = .returned .nilIface ∧ w = w' := by
  go_enter Tryd.func97, Tryd.ntmps97
  go_wp2_with fail
  refine wp_loop_rounds 3 ?_
  rw [rounds_succ]
  go_wp2_with fail
  rw [rounds_succ]
  go_wp2_with fail
  rw [rounds_succ]
  go_wp2_with fail
  go_ret
  exact ⟨rfl, rfl⟩

/-- The errors that are put together: a row of the call's own, told in block p. -/
def JE (w0 w : World) (p n k : Nat) : Prop := Below w0.heap.size w0 w ∧ w0.heap.size < p ∧ w.heap[p]? = some (.cells #[.slice (some ⟨w0.heap.size, 0, none⟩) k n] 201 (0, 0)) ∧ ∃ xs, w.ownsRow w0.heap.size 25 1 (.slice (some ⟨w0.heap.size, 0, none⟩) k n) k xs
theorem JE.start {w0 w1 : World} {n : Nat} (hb : Below w0.heap.size w0 w1) (hs : w0.heap.size < w1.heap.size) (h : w1.ownsRow w0.heap.size 25 1 (.slice (some ⟨w0.heap.size, 0, none⟩) 0 n) 0 []) :
    JE w0 (w1.alloc (.cells #[.slice (some ⟨w0.heap.size, 0, none⟩) 0 n] 201)) w1.heap.size n 0 :=
  ⟨hb.alloc hb.size _, hs, heap_alloc_new w1 _, _, ownsRow_below h ((Below.refl _ _).alloc (Nat.le_refl _) _)⟩
theorem JE.below {w0 w : World} {p n k : Nat} (h : JE w0 w p n k) : Below w0.heap.size w0 w := h.1
theorem JE.load {w0 w : World} {p n k : Nat} (h : JE w0 w p n k) : w.cell? ⟨p, 0, none⟩ = some (.slice (some ⟨w0.heap.size, 0, none⟩) k n) := by rw [cell_of_row w p 0 _ _ _ h.2.2.1]; rfl
theorem JE.own {w0 w : World} {p n k : Nat} (h : JE w0 w p n k) (t : TypeId) (x : Value) : ∃ xs, (w.alloc (.cells #[.iface t x] 25)).ownsRow w0.heap.size 25 1 (.slice (some ⟨w0.heap.size, 0, none⟩) k n) k xs := by
  obtain ⟨_, _, _, xs, h⟩ := h
  exact ⟨xs, ownsRow_below h ((Below.refl _ _).alloc (Nat.le_refl _) _)⟩
/-- One more. -/
theorem JE.step {w0 w w2 : World} {p n k : Nat} {t : TypeId} {x : Value} {ys : List Value} (h : JE w0 w p n k) (ho : w2.ownsRow w0.heap.size 25 1 (.slice (some ⟨w0.heap.size, 0, none⟩) (k + 1) n) (k + 1) ys) (hg : (w.alloc (.cells #[.iface t x] 25)).grownBy w2 (some w0.heap.size)) :
    w2.cell? ⟨p, 0, none⟩ = some (.slice (some ⟨w0.heap.size, 0, none⟩) k n) ∧ w2.frozen? ⟨p, 0, none⟩ = false ∧ (∀ g j v, g < w0.heap.size → w.cell? ⟨g, j, none⟩ = some v → (w2.setCell ⟨p, 0, none⟩ (.slice (some ⟨w0.heap.size, 0, none⟩) (k + 1) n)).cell? ⟨g, j, none⟩ = some v) ∧
    JE w0 (w2.setCell ⟨p, 0, none⟩ (.slice (some ⟨w0.heap.size, 0, none⟩) (k + 1) n)) p n (k + 1) := by
  obtain ⟨hb, hp, hc, xs, _⟩ := h
  have hpl := lt_of_block hc
  have h2 : w2.heap[p]? = some (.cells #[.slice (some ⟨w0.heap.size, 0, none⟩) k n] 201 (0, 0)) := by
    rw [hg.block p (by simp; omega) (fun e => by injection e with e; omega), heap_alloc_old w _ hpl]; exact hc
  have hbb : Below w0.heap.size w0 (w2.setCell ⟨p, 0, none⟩ (.slice (some ⟨w0.heap.size, 0, none⟩) (k + 1) n)) :=
    ((hb.alloc hb.size _).grown hg (by simp; have := hb.size; omega) (fun j hj => by injection hj with hj; omega)).setCell (by show w0.heap.size ≤ p; omega) _
  refine ⟨by rw [cell_of_row w2 p 0 _ _ _ h2]; rfl, by simp [World.frozen?, h2], fun g j v hgl hv => ?_, hbb, hp, ?_, ys, ?_⟩
  · rw [hbb.cell (p := ⟨g, j, none⟩) hgl, ← hb.cell (p := ⟨g, j, none⟩) hgl]; exact hv
  · simp [World.setCell, Array.getElem?_modify, h2]
  · exact ownsRow_setCell_other ho (by show some w0.heap.size ≠ some p; intro e; injection e with e; omega) _

set_option maxHeartbeats 1600000 in
set_option maxRecDepth 100000 in
theorem join_fn (g c : Nat) (t1 : TypeId) (p1 : Value) (w : World) (hg : g < w.heap.size) (h0 : w.cell? ⟨g, 0, none⟩ = some (.iface t1 p1)) (h1 : w.cell? ⟨g, 1, none⟩ = some (.nilIface)) :
    Calls Tryd.prog 97 #[.slice (some ⟨g, 0, none⟩) 2 c] w fun e w' => ∃ p, e = .returned (.iface 199 p) ∧ Below w.heap.size w w' := by
  obtain ⟨i0, hi, hz0, hz1, hz2⟩ := info_parts info_err
  go_enter Tryd.func97, Tryd.ntmps97
  go_wp2_with fail
  refine wp_loop_rounds 3 ?_
  rw [rounds_succ]
  go_wp2_with fail
  rw [rounds_succ]
  go_wp2_with fail
  rw [rounds_succ]
  go_wp2_with (refine wpList_make_own _ rfl _ _ 191 rfl w.heap.size 25 i0 .nilIface 1 Tryd.underlying191 hi hz0 hz1 .i64 .i64 _ 1 rfl rfl rfl (by rw [hz2]; decide) (by decide) (Nat.le_refl _) ?_)
  intro w1 hown1 hg1
  have hb1 : Below w.heap.size w w1 := (Below.refl _ _).grown hg1 (Nat.le_refl _) (fun j hj => by cases hj)
  have hs1 : w.heap.size < w1.heap.size := (World.ownsRow.lt hown1 _ rfl).2
  have a0 := (hb1.cell (p := ⟨g, 0, none⟩) hg).trans h0
  have a1 := (hb1.cell (p := ⟨g, 1, none⟩) hg).trans h1
  have hg' : g < w1.heap.size := Nat.lt_of_lt_of_le hg hb1.size
  have hJ : JE w (w1.alloc (.cells #[.slice (some ⟨w.heap.size, 0, none⟩) 0 1] 201)) w1.heap.size 1 0 := JE.start hb1 hs1 hown1
  clear hg1 hown1 h0 h1 hb1
  go_wp2_with fail
  refine wp_loop_rounds 3 ?_
  have b0 := (World.cell?_alloc_lt w1 (.cells #[.slice (some ⟨w.heap.size, 0, none⟩) 0 1] 201) ⟨g, 0, none⟩ hg').trans a0
  have b1 := (World.cell?_alloc_lt w1 (.cells #[.slice (some ⟨w.heap.size, 0, none⟩) 0 1] 201) ⟨g, 1, none⟩ hg').trans a1
  clear a0 a1
  generalize w1.heap.size = p at *
  generalize w1.alloc (.cells #[.slice (some ⟨w.heap.size, 0, none⟩) 0 1] 201) = w2 at *
  rw [rounds_succ]
  have c0 := hJ.load
  obtain ⟨xs0, hown0⟩ := hJ.own t1 p1
  go_wp2_with (at_builtin; refine wpList_append_fits _ rfl _ _ 191 rfl w.heap.size 25 i0 1 Tryd.underlying191 hi hz1 w.heap.size 0 1 xs0 rfl hown0 ⟨w2.heap.size, 0, none⟩ 1 1 [.iface t1 p1] rfl rfl (by intro j u hj; match j, hj with | 0, hj => simp at hj; subst hj; simp [Addr.add]) (by intro u hu; simp at hu; subst hu; rfl) (by omega) ?_)
  intro wx0 hown0' hgr0
  obtain ⟨c0', f0, hk0, hJ'⟩ := hJ.step hown0' hgr0
  have b1 := hk0 g 1 _ hg b1
  clear c0 hown0 hown0' hgr0 b0 hk0 hJ
  go_wp2_with fail
  clear c0' f0
  have hJ := hJ'
  clear hJ'
  generalize wx0.setCell ⟨p, 0, none⟩ (.slice (some ⟨w.heap.size, 0, none⟩) (0 + 1) 1) = wz0 at *
  rw [rounds_succ]
  go_wp2_with fail
  rw [rounds_succ]
  go_wp2_with fail
  go_ret
  exact ⟨_, rfl, hJ.below⟩
set_option maxHeartbeats 1600000 in
set_option maxRecDepth 100000 in
theorem join_nf (g c : Nat) (t2 : TypeId) (p2 : Value) (w : World) (hg : g < w.heap.size) (h0 : w.cell? ⟨g, 0, none⟩ = some (.nilIface)) (h1 : w.cell? ⟨g, 1, none⟩ = some (.iface t2 p2)) :
    Calls Tryd.prog 97 #[.slice (some ⟨g, 0, none⟩) 2 c] w fun e w' => ∃ p, e = .returned (.iface 199 p) ∧ Below w.heap.size w w' := by
  obtain ⟨i0, hi, hz0, hz1, hz2⟩ := info_parts info_err
  go_enter Tryd.func97, Tryd.ntmps97
  go_wp2_with fail
  refine wp_loop_rounds 3 ?_
  rw [rounds_succ]
  go_wp2_with fail
  rw [rounds_succ]
  go_wp2_with fail
  rw [rounds_succ]
  go_wp2_with (refine wpList_make_own _ rfl _ _ 191 rfl w.heap.size 25 i0 .nilIface 1 Tryd.underlying191 hi hz0 hz1 .i64 .i64 _ 1 rfl rfl rfl (by rw [hz2]; decide) (by decide) (Nat.le_refl _) ?_)
  intro w1 hown1 hg1
  have hb1 : Below w.heap.size w w1 := (Below.refl _ _).grown hg1 (Nat.le_refl _) (fun j hj => by cases hj)
  have hs1 : w.heap.size < w1.heap.size := (World.ownsRow.lt hown1 _ rfl).2
  have a0 := (hb1.cell (p := ⟨g, 0, none⟩) hg).trans h0
  have a1 := (hb1.cell (p := ⟨g, 1, none⟩) hg).trans h1
  have hg' : g < w1.heap.size := Nat.lt_of_lt_of_le hg hb1.size
  have hJ : JE w (w1.alloc (.cells #[.slice (some ⟨w.heap.size, 0, none⟩) 0 1] 201)) w1.heap.size 1 0 := JE.start hb1 hs1 hown1
  clear hg1 hown1 h0 h1 hb1
  go_wp2_with fail
  refine wp_loop_rounds 3 ?_
  have b0 := (World.cell?_alloc_lt w1 (.cells #[.slice (some ⟨w.heap.size, 0, none⟩) 0 1] 201) ⟨g, 0, none⟩ hg').trans a0
  have b1 := (World.cell?_alloc_lt w1 (.cells #[.slice (some ⟨w.heap.size, 0, none⟩) 0 1] 201) ⟨g, 1, none⟩ hg').trans a1
  clear a0 a1
  generalize w1.heap.size = p at *
  generalize w1.alloc (.cells #[.slice (some ⟨w.heap.size, 0, none⟩) 0 1] 201) = w2 at *
  rw [rounds_succ]
  go_wp2_with fail
  rw [rounds_succ]
  have c1 := hJ.load
  obtain ⟨xs1, hown1⟩ := hJ.own t2 p2
  go_wp2_with (at_builtin; refine wpList_append_fits _ rfl _ _ 191 rfl w.heap.size 25 i0 1 Tryd.underlying191 hi hz1 w.heap.size 0 1 xs1 rfl hown1 ⟨w2.heap.size, 0, none⟩ 1 1 [.iface t2 p2] rfl rfl (by intro j u hj; match j, hj with | 0, hj => simp at hj; subst hj; simp [Addr.add]) (by intro u hu; simp at hu; subst hu; rfl) (by omega) ?_)
  intro wx1 hown1' hgr1
  obtain ⟨c1', f1, hk1, hJ'⟩ := hJ.step hown1' hgr1
  have b1 := hk1 g 1 _ hg b1
  clear c1 hown1 hown1' hgr1 b0 hk1 hJ
  go_wp2_with fail
  clear c1' f1
  have hJ := hJ'
  clear hJ'
  generalize wx1.setCell ⟨p, 0, none⟩ (.slice (some ⟨w.heap.size, 0, none⟩) (0 + 1) 1) = wz1 at *
  rw [rounds_succ]
  go_wp2_with fail
  go_ret
  exact ⟨_, rfl, hJ.below⟩
set_option maxHeartbeats 1600000 in
set_option maxRecDepth 100000 in
theorem join_ff (g c : Nat) (t1 : TypeId) (p1 : Value) (t2 : TypeId) (p2 : Value) (w : World) (hg : g < w.heap.size) (h0 : w.cell? ⟨g, 0, none⟩ = some (.iface t1 p1)) (h1 : w.cell? ⟨g, 1, none⟩ = some (.iface t2 p2)) :
    Calls Tryd.prog 97 #[.slice (some ⟨g, 0, none⟩) 2 c] w fun e w' => ∃ p, e = .returned (.iface 199 p) ∧ Below w.heap.size w w' := by
  obtain ⟨i0, hi, hz0, hz1, hz2⟩ := info_parts info_err
  go_enter Tryd.func97, Tryd.ntmps97
  go_wp2_with fail
  refine wp_loop_rounds 3 ?_
  rw [rounds_succ]
  go_wp2_with fail
  rw [rounds_succ]
  go_wp2_with fail
  rw [rounds_succ]
  go_wp2_with (refine wpList_make_own _ rfl _ _ 191 rfl w.heap.size 25 i0 .nilIface 1 Tryd.underlying191 hi hz0 hz1 .i64 .i64 _ 2 rfl rfl rfl (by rw [hz2]; decide) (by decide) (Nat.le_refl _) ?_)
  intro w1 hown1 hg1
  have hb1 : Below w.heap.size w w1 := (Below.refl _ _).grown hg1 (Nat.le_refl _) (fun j hj => by cases hj)
  have hs1 : w.heap.size < w1.heap.size := (World.ownsRow.lt hown1 _ rfl).2
  have a0 := (hb1.cell (p := ⟨g, 0, none⟩) hg).trans h0
  have a1 := (hb1.cell (p := ⟨g, 1, none⟩) hg).trans h1
  have hg' : g < w1.heap.size := Nat.lt_of_lt_of_le hg hb1.size
  have hJ : JE w (w1.alloc (.cells #[.slice (some ⟨w.heap.size, 0, none⟩) 0 2] 201)) w1.heap.size 2 0 := JE.start hb1 hs1 hown1
  clear hg1 hown1 h0 h1 hb1
  go_wp2_with fail
  refine wp_loop_rounds 3 ?_
  have b0 := (World.cell?_alloc_lt w1 (.cells #[.slice (some ⟨w.heap.size, 0, none⟩) 0 2] 201) ⟨g, 0, none⟩ hg').trans a0
  have b1 := (World.cell?_alloc_lt w1 (.cells #[.slice (some ⟨w.heap.size, 0, none⟩) 0 2] 201) ⟨g, 1, none⟩ hg').trans a1
  clear a0 a1
  generalize w1.heap.size = p at *
  generalize w1.alloc (.cells #[.slice (some ⟨w.heap.size, 0, none⟩) 0 2] 201) = w2 at *
  rw [rounds_succ]
  have c0 := hJ.load
  obtain ⟨xs0, hown0⟩ := hJ.own t1 p1
  go_wp2_with (at_builtin; refine wpList_append_fits _ rfl _ _ 191 rfl w.heap.size 25 i0 1 Tryd.underlying191 hi hz1 w.heap.size 0 2 xs0 rfl hown0 ⟨w2.heap.size, 0, none⟩ 1 1 [.iface t1 p1] rfl rfl (by intro j u hj; match j, hj with | 0, hj => simp at hj; subst hj; simp [Addr.add]) (by intro u hu; simp at hu; subst hu; rfl) (by omega) ?_)
  intro wx0 hown0' hgr0
  obtain ⟨c0', f0, hk0, hJ'⟩ := hJ.step hown0' hgr0
  have b1 := hk0 g 1 _ hg b1
  clear c0 hown0 hown0' hgr0 b0 hk0 hJ
  go_wp2_with fail
  clear c0' f0
  have hJ := hJ'
  clear hJ'
  generalize wx0.setCell ⟨p, 0, none⟩ (.slice (some ⟨w.heap.size, 0, none⟩) (0 + 1) 2) = wz0 at *
  rw [rounds_succ]
  have c1 := hJ.load
  obtain ⟨xs1, hown1⟩ := hJ.own t2 p2
  go_wp2_with (at_builtin; refine wpList_append_fits _ rfl _ _ 191 rfl w.heap.size 25 i0 1 Tryd.underlying191 hi hz1 w.heap.size 1 2 xs1 rfl hown1 ⟨wz0.heap.size, 0, none⟩ 1 1 [.iface t2 p2] rfl rfl (by intro j u hj; match j, hj with | 0, hj => simp at hj; subst hj; simp [Addr.add]) (by intro u hu; simp at hu; subst hu; rfl) (by omega) ?_)
  intro wx1 hown1' hgr1
  obtain ⟨c1', f1, hk1, hJ'⟩ := hJ.step hown1' hgr1
  have b1 := hk1 g 1 _ hg b1
  clear c1 hown1 hown1' hgr1 hk1 hJ
  go_wp2_with fail
  clear c1' f1
  have hJ := hJ'
  clear hJ'
  generalize wx1.setCell ⟨p, 0, none⟩ (.slice (some ⟨w.heap.size, 0, none⟩) (1 + 1) 2) = wz1 at *
  rw [rounds_succ]
  go_wp2_with fail
  go_ret
  exact ⟨_, rfl, hJ.below⟩
/-- Of two errors, one of which at least there is. -/
theorem errors_Join2 (g c : Nat) (x y : Value) (w : World) (hg : g < w.heap.size) (h0 : w.cell? ⟨g, 0, none⟩ = some x) (h1 : w.cell? ⟨g, 1, none⟩ = some y) (hx : x = .nilIface ∨ ∃ t p, x = .iface t p) (hy : y = .nilIface ∨ ∃ t p, y = .iface t p) :
    Calls Tryd.prog 97 #[.slice (some ⟨g, 0, none⟩) 2 c] w fun e w' => Below w.heap.size w w' ∧ ((x = .nilIface ∧ y = .nilIface ∧ e = .returned .nilIface) ∨ (¬ (x = .nilIface ∧ y = .nilIface) ∧ ∃ p, e = .returned (.iface 199 p))) := by
  rcases hx with rfl | ⟨t1, p1, rfl⟩
  · rcases hy with rfl | ⟨t2, p2, rfl⟩
    · exact (join_nils g c w h0 h1).mono fun e w' ⟨a, b⟩ => by subst b; exact ⟨Below.refl _ _, .inl ⟨rfl, rfl, a⟩⟩
    · exact (join_nf g c t2 p2 w hg h0 h1).mono fun e w' ⟨p, a, b⟩ => ⟨b, .inr ⟨(fun h => by cases h.2), p, a⟩⟩
  · rcases hy with rfl | ⟨t2, p2, rfl⟩
    · exact (join_fn g c t1 p1 w hg h0 h1).mono fun e w' ⟨p, a, b⟩ => ⟨b, .inr ⟨(fun h => by cases h.1), p, a⟩⟩
    · exact (join_ff g c t1 p1 t2 p2 w hg h0 h1).mono fun e w' ⟨p, a, b⟩ => ⟨b, .inr ⟨(fun h => by cases h.1), p, a⟩⟩
end Go.Proofs.YtiaafljbddamhaaDoor

/- What a row's list of package variables gives: errors.errorType, the tables of unicode/utf8. A world that holds them. -/
namespace Go.Proofs.YtiaafljbddamhaaDoor
open Go.ChangeShapes Go.WideShapes Go.RowKit

/-- The tables of unicode/utf8, as their initialisers lay them. -/
def Utf8Laid (w : World) : Prop := Lib.Utf8Tabs 2 3 w
theorem Utf8Laid.below {w w' : World} (h : Utf8Laid w) (hb : Below w.heap.size w w') : Utf8Laid w' :=
  ⟨fun c hc => (hb.cell (World.block_lt_of_cell? w _ (h.1 c hc))).trans (h.1 c hc),
    fun i hi => ⟨(hb.cell (World.block_lt_of_cell? w _ (h.2 i hi).1)).trans (h.2 i hi).1, (hb.cell (World.block_lt_of_cell? w _ (h.2 i hi).2)).trans (h.2 i hi).2⟩⟩
theorem Utf8Laid.drewN {w : World} (h : Utf8Laid w) (n : Nat) : Utf8Laid (w.drewN n) := h

def u8ren : Go.Shelf.Ren := ⟨fun n => n, fun | 5 => 5 | 119 => 231 | 138 => 233 | 139 => 234 | n => n, fun | 3 => 2 | 4 => 3 | n => n⟩
theorem u8types : U8Types Tryd.prog u8ren := { t5 := Tryd.underlying5, t119 := Tryd.underlying231, t138 := Tryd.underlying233, t139 := Tryd.underlying234 }
theorem u8extra : U8Extra Tryd.prog u8ren := { n3 := by kernel_rfl, n4 := by kernel_rfl, y3 := by kernel_rfl, y4 := by kernel_rfl, c5 := by kernel_rfl, c119 := by kernel_rfl, c138 := by kernel_rfl }
theorem u8first : Lib.firstData = Rows.laid_unicode_utf8_first := by kernel_rfl
theorem u8accept : Lib.acceptData = Rows.laid_unicode_utf8_acceptRanges := by kernel_rfl
noncomputable def laidWorld (os : Os) : World :=
  let w0 := World.holding Tryd.prog os ⟨#[], #[], []⟩
  let h1 := w0.heap.modify 0 fun
      | .cells _ t frozen => .cells #[.iface 180 (.agg #[.pointer (some ⟨4, 25, none⟩)])] t frozen
      | o => o
  let h2 := h1.modify 2 fun
      | .cells _ t frozen => .cells (Lib.firstTab.map (Value.int .u8)).toArray t frozen
      | o => o
  let h3 := h2.modify 3 fun
      | .cells _ t frozen => .cells ((List.range 16).flatMap fun i => [Value.int .u8 (Lib.accLo i : Nat), Value.int .u8 (Lib.accHi i : Nat)]).toArray t frozen
      | o => o
  { w0 with heap := h3 }
end Go.Proofs.YtiaafljbddamhaaDoor
