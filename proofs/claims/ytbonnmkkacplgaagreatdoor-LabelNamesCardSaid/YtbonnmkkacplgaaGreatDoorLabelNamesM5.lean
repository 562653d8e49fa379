/- strings.Builder: copyCheck, WriteByte, WriteString (over a cut whose copyCheck holds a branch that no builder of the call's own reaches), String. -/
import Derived.Test.YtbonnmkkacplgaaGreatDoorLabelNamesM1
import Derived.Test.YtbonnmkkacplgaaGreatDoorShelf
import Derived.Lib.Builder
import Derived.Lib.AppendStr
import Derived.Lib.UnsafeStr
import Derived.Laws.Externs
import Derived.Maps.AppendAt
import Derived.Test.YtbonnmkkacplgaaGreatDoorLabelNamesM4

namespace Go.Proofs.YtbonnmkkacplgaaGreatDoor
open Go.RowKit

/-- A builder in block b, whose bytes lie in a row of the call's own, from B on. -/
def Bld (w : World) (B b : Nat) (l : List UInt8) : Prop :=
  b < B ∧ ∃ p v, (p = .pointer none ∨ p = .pointer (some ⟨b, 0, none⟩)) ∧ w.heap[b]? = some (.cells #[p, v] 83 (0, 0)) ∧ w.ownsRow B 5 1 v l.length (Lib.byteCells l)
/-- All blocks below B, but b, stand as they stood. -/
structure ButB (B b : Nat) (w w' : World) : Prop where
  os : w'.os = w.os
  tape : w'.tape = w.tape
  output : w'.output = w.output
  size : w.heap.size ≤ w'.heap.size
  block : ∀ k, k < B → k ≠ b → w'.heap[k]? = w.heap[k]?
theorem ButB.refl (B b : Nat) (w : World) : ButB B b w w := ⟨rfl, rfl, rfl, Nat.le_refl _, fun _ _ _ => rfl⟩
theorem ButB.trans {B b : Nat} {w w1 w2 : World} (h : ButB B b w w1) (k : ButB B b w1 w2) : ButB B b w w2 :=
  ⟨k.os.trans h.os, k.tape.trans h.tape, k.output.trans h.output, Nat.le_trans h.size k.size, fun i hi hn => (k.block i hi hn).trans (h.block i hi hn)⟩
theorem ButB.of_below {B b : Nat} {w w' : World} (h : Below B w w') : ButB B b w w' := ⟨h.os, h.tape, h.output, h.size, fun k hk _ => h.block k hk⟩
theorem ButB.setCell {B b : Nat} {w w' : World} (h : ButB B b w w') (j : Nat) (u : Value) : ButB B b w (w'.setCell ⟨b, j, none⟩ u) :=
  ⟨h.os, h.tape, h.output, by simpa [World.setCell] using h.size, fun k hk hn => (Below.heap_setCell w' ⟨b, j, none⟩ u k (fun e => hn e)).trans (h.block k hk hn)⟩
theorem ButB.below {B b B0 : Nat} {w w' : World} (h : ButB B b w w') (h1 : B0 ≤ b) (h2 : B0 ≤ B) : Below B0 w w' := ⟨h.os, h.tape, h.output, h.size, fun k hk => h.block k (by omega) (by omega)⟩
theorem BytesAt.but {w w' : World} {g B b : Nat} {l : List UInt8} (h : BytesAt w g l) (hb : ButB B b w w') (h1 : g < B) (h2 : g ≠ b) : BytesAt w' g l := by
  obtain ⟨e, rest, lo, hi, hlo, hh⟩ := h
  exact ⟨e, rest, lo, hi, hlo, (hb.block g h1 h2).trans hh⟩

theorem bld_size : (Tryz.prog.info? 83).map (·.size) = some 2 := by kernel_rfl
theorem bld_lies : liesAt Tryz.prog Tryz.prog.depth 83 (2 / Tryz.prog.cellsOf 83) 0 83 1 = true := by kernel_rfl
theorem bld_byte : (Tryz.prog.info? 5).map (fun i => (i.zero, i.size, i.bytes)) = some (some (.int .u8 0), 1, 1) := by kernel_rfl

theorem Bld.new {w' : World} {B b : Nat} {u : Obj} (hu : u = .cells #[.pointer none, .slice none 0 0] 83) (h : w'.heap[b]? = some u) (hb : b < B) : Bld w' B b [] :=
  ⟨hb, _, _, .inl rfl, by rw [h, hu], World.ownsRow_nil _ _ _ _⟩
theorem Bld.below {w w' : World} {B b : Nat} {l : List UInt8} (h : Bld w B b l) (hb : Below w.heap.size w w') : Bld w' B b l := by
  obtain ⟨h1, p, v, h2, h3, h4⟩ := h
  exact ⟨h1, p, v, h2, (hb.block b (lt_of_block h3)).trans h3, ownsRow_below h4 hb⟩
theorem Bld.lt {w : World} {B b : Nat} {l : List UInt8} (h : Bld w B b l) : b < w.heap.size := by
  obtain ⟨_, p, v, _, h3, _⟩ := h
  exact lt_of_block h3

set_option maxHeartbeats 1000000 in
set_option maxRecDepth 100000 in
theorem bld_check_used (b : Nat) (w : World) (h0 : w.cell? ⟨b, 0, none⟩ = some (.pointer (some ⟨b, 0, none⟩))) :
    Calls Tryz.prog 90 #[.pointer (some ⟨b, 0, none⟩)] w fun e w' => e = .returned (.tuple #[]) ∧ w' = w := by
  obtain ⟨j, hj, _⟩ := Option.map_eq_some_iff.1 bld_size
  have hnp := Lib.run_neq_ptr_same (P := Tryz.prog) w ⟨b, 0, none⟩ Tryz.underlying81 hj
  go_enter Tryz.func90, Tryz.ntmps90
  go_wp2
  go_end0
  exact ⟨rfl, rfl⟩
set_option maxHeartbeats 1000000 in
set_option maxRecDepth 100000 in
theorem bld_check_fresh (b : Nat) (w : World) (h0 : w.cell? ⟨b, 0, none⟩ = some (.pointer none)) (hsh : w.shape? b = some (83, 2)) (hfz : w.frozen? ⟨b, 0, none⟩ = false) :
    Calls Tryz.prog 90 #[.pointer (some ⟨b, 0, none⟩)] w fun e w' => e = .returned (.tuple #[]) ∧ w' = w.setCell ⟨b, 0, none⟩ (.pointer (some ⟨b, 0, none⟩)) := by
  obtain ⟨j, hj, hjs⟩ := Option.map_eq_some_iff.1 bld_size
  have k1 := Lib.run_to_unsafe (P := Tryz.prog) w ⟨b, 0, none⟩ Tryz.underlying81 Tryz.underlying121 hj (by rw [hjs]; decide) hsh (Nat.zero_lt_succ 1)
  have k2 : (callFunc 112 #[.pointer (some ⟨b, 0, none⟩)]).run Tryz.prog w = .ok (.value (.pointer (some ⟨b, 0, none⟩))) w := by
    rw [run_callFunc_extern Tryz.func112 (by kernel_rfl) (by kernel_rfl) (by kernel_rfl) (e := Extern.AbiNoEscape.same) (by kernel_rfl)]
    rw [Lib.run_noEscape]
    rfl
  have k3 := Lib.run_from_unsafe (P := Tryz.prog) w ⟨b, 0, none⟩ Tryz.underlying121 Tryz.underlying81 hj hsh bld_lies
  go_enter Tryz.func90, Tryz.ntmps90
  go_wp2
  go_end0
  exact ⟨rfl, rfl⟩
theorem bld_check (B b : Nat) (l : List UInt8) (w : World) (h : Bld w B b l) :
    Calls Tryz.prog 90 #[.pointer (some ⟨b, 0, none⟩)] w fun e w' => e = .returned (.tuple #[]) ∧ ButB B b w w' ∧ ∃ v, w'.heap[b]? = some (.cells #[.pointer (some ⟨b, 0, none⟩), v] 83 (0, 0)) ∧ w'.ownsRow B 5 1 v l.length (Lib.byteCells l) := by
  obtain ⟨h1, p, v, h2, h3, h4⟩ := h
  have c0 : w.cell? ⟨b, 0, none⟩ = some p := by rw [cell_of_row w b 0 _ _ _ h3]; rfl
  rcases h2 with rfl | rfl
  · refine (bld_check_fresh b w c0 (by simp [World.shape?, h3]) (Lib.frozen_of_heap h3 0)).mono ?_
    rintro e w' ⟨rfl, rfl⟩
    refine ⟨rfl, (ButB.refl B b w).setCell 0 _, v, by simp [World.setCell, Array.getElem?_modify, h3], ?_⟩
    refine h4.kept (row := some b) ⟨rfl, rfl, rfl, by simp [World.setCell], fun k _ hk => Below.heap_setCell _ _ _ _ (fun e => hk (by simp [e]))⟩ (.inr fun e => ?_)
    have := (h4.lt b e).1
    omega
  · refine (bld_check_used b w c0).mono ?_
    rintro e w' ⟨rfl, rfl⟩
    exact ⟨rfl, ButB.refl _ _ _, v, h3, h4⟩
theorem bld_put {w : World} {B b : Nat} {p v : Value} {n : Nat} {xs : List Value} {l : List UInt8} (hb : b < B) (hp : p = .pointer (some ⟨b, 0, none⟩)) {u : Value} (h3 : w.heap[b]? = some (.cells #[p, u] 83 (0, 0))) (h4 : w.ownsRow B 5 1 v n xs) (hn : n = l.length) (hx : xs = Lib.byteCells l) :
    Bld (w.setCell ⟨b, 1, none⟩ v) B b l := by
  subst hn hx
  refine ⟨hb, p, v, .inr hp, by simp [World.setCell, Array.getElem?_modify, h3], ?_⟩
  refine h4.kept (row := some b) ⟨rfl, rfl, rfl, by simp [World.setCell], fun k _ hk => Below.heap_setCell _ _ _ _ (fun e => hk (by simp [e]))⟩ (.inr fun e => ?_)
  have := (h4.lt b e).1
  omega

set_option maxHeartbeats 2000000 in
set_option maxRecDepth 100000 in
theorem bld_WriteByte (B b : Nat) (l : List UInt8) (c : UInt8) (w : World) (h : Bld w B b l) (hlen : l.length ≤ 1073741824) (hBw : B ≤ w.heap.size) :
    Calls Tryz.prog 61 #[.pointer (some ⟨b, 0, none⟩), .int .u8 (c.toNat : Int)] w fun e w' => e = .returned .nilIface ∧ Bld w' B b (l ++ [c]) ∧ ButB B b w w' := by
  obtain ⟨i0, hi, hz0, hz1, hz2⟩ := info_parts bld_byte
  have hbB := h.1
  go_enter Tryz.func61, Tryz.ntmps61
  go_wp2_with fail
  refine (bld_check B b l _ h).mono ?_
  rintro e w1 ⟨rfl, hb1, v, hbk, hown⟩
  have c0 : w1.cell? ⟨b, 0, none⟩ = some (.pointer (some ⟨b, 0, none⟩)) := by rw [Lib.cell_of_heap hbk]; rfl
  have c1 : w1.cell? ⟨b, 1, none⟩ = some v := by rw [Lib.cell_of_heap hbk]; rfl
  have hsz1 := hb1.size
  go_wp2_with (at_builtin; refine wpList_append_own _ rfl _ _ 32 rfl B 5 i0 (.int .u8 0) 1 1 Tryz.underlying32 hi hz0 hz1 hz2 rfl (by decide) _ _ _ rfl (hown.alloc _) ⟨w1.heap.size, 0, none⟩ 1 1 [.int .u8 (c.toNat : Int)] rfl rfl ?c1 ?c2 ?c3 ?c4 ?c5 ?_)
  case c1 =>
    intro j u hj
    match j, hj with
    | 0, hj => simp at hj; subst hj; simp [Addr.add]
  case c2 => intro u hu; simp at hu; subst hu; rfl
  case c3 => unfold maxLen; omega
  case c4 => omega
  case c5 => simp; omega
  intro v' w2 hown' hgrow _
  have hlt : b < w1.heap.size := lt_of_block hbk
  have hne : v.ownBlock ≠ some b := fun e => by have := (hown.lt b e).1; omega
  have hb2 : w2.heap[b]? = some (.cells #[.pointer (some ⟨b, 0, none⟩), v] 83 (0, 0)) := by
    rw [hgrow.block b (by simp; omega) (fun e => hne e.symm), Lib.alloc_old w1 _ b hlt]
    exact hbk
  have d0 : w2.cell? ⟨b, 0, none⟩ = some (.pointer (some ⟨b, 0, none⟩)) := by rw [Lib.cell_of_heap hb2]; rfl
  have d1 : w2.cell? ⟨b, 1, none⟩ = some v := by rw [Lib.cell_of_heap hb2]; rfl
  have f1 : w2.frozen? ⟨b, 1, none⟩ = false := Lib.frozen_of_heap hb2 1
  obtain ⟨g, cap, rfl⟩ : ∃ g cap, v' = .slice (some ⟨g, 0, none⟩) (l.length + 1) cap := by
    rcases hown'.2 with ⟨_, h0⟩ | ⟨g, cap, cur, hv, _⟩
    · omega
    · exact ⟨g, cap, hv⟩
  have hb12 : Below B w1 w2 := ((Below.refl B w1).alloc (by omega) _).grown hgrow (by simp; omega) (fun k hk => (hown.lt k hk).1)
  have hbe := ((hb1.trans (ButB.of_below hb12)).setCell 1 (.slice (some ⟨g, 0, none⟩) (l.length + 1) cap))
  have hput := bld_put (l := l ++ [c]) hbB rfl hb2 hown' (by simp) (by unfold Lib.byteCells; simp)
  clear hb12 hown' hown hgrow hb1
  go_wp2
  go_ret
  exact ⟨rfl, hput, hbe⟩

set_option maxHeartbeats 2000000 in
set_option maxRecDepth 100000 in
theorem bld_WriteString (B b : Nat) (l : List UInt8) (s : ByteArray) (w : World) (h : Bld w B b l) (hlen : l.length + s.size ≤ 1073741824) (hBw : B ≤ w.heap.size) :
    Calls Tryz.prog 80 #[.pointer (some ⟨b, 0, none⟩), .string s] w fun e w' => e = .returned (.tuple #[.int .i64 s.size, .nilIface]) ∧ Bld w' B b (l ++ s.data.toList) ∧ ButB B b w w' := by
  obtain ⟨i0, hi, hz0, hz1, hz2⟩ := info_parts bld_byte
  have hbB := h.1
  go_enter Tryz.func80, Tryz.ntmps80
  go_wp2_with fail
  refine (bld_check B b l _ h).mono ?_
  rintro e w1 ⟨rfl, hb1, v, hbk, hown⟩
  have c0 : w1.cell? ⟨b, 0, none⟩ = some (.pointer (some ⟨b, 0, none⟩)) := by rw [Lib.cell_of_heap hbk]; rfl
  have c1 : w1.cell? ⟨b, 1, none⟩ = some v := by rw [Lib.cell_of_heap hbk]; rfl
  have hsz1 := hb1.size
  go_wp2_with (at_builtin; refine Lib.wpList_append_own_string _ rfl _ _ 32 9 rfl B 5 i0 Tryz.underlying32 Tryz.underlying9 hi hz0 hz1 hz2 _ _ _ rfl hown s rfl ?c3 ?c4 ?c5 ?_)
  case c3 => unfold maxLen; omega
  case c4 => omega
  case c5 => omega
  intro v' w2 hown' hgrow _
  have hlt : b < w1.heap.size := lt_of_block hbk
  have hne : v.ownBlock ≠ some b := fun e => by have := (hown.lt b e).1; omega
  have hb2 : w2.heap[b]? = some (.cells #[.pointer (some ⟨b, 0, none⟩), v] 83 (0, 0)) := by
    rw [hgrow.block b hlt (fun e => hne e.symm)]
    exact hbk
  have d0 : w2.cell? ⟨b, 0, none⟩ = some (.pointer (some ⟨b, 0, none⟩)) := by rw [Lib.cell_of_heap hb2]; rfl
  have d1 : w2.cell? ⟨b, 1, none⟩ = some v := by rw [Lib.cell_of_heap hb2]; rfl
  have f1 : w2.frozen? ⟨b, 1, none⟩ = false := Lib.frozen_of_heap hb2 1
  obtain ⟨ao, n', cap, rfl⟩ : ∃ ao n' cap, v' = .slice ao n' cap := by
    rcases hown'.2 with ⟨hv, _⟩ | ⟨g, cap, cur, hv, _⟩
    · exact ⟨_, _, _, hv⟩
    · exact ⟨_, _, _, hv⟩
  have hb12 : Below B w1 w2 := (Below.refl B w1).grown hgrow (by omega) (fun k hk => (hown.lt k hk).1)
  have hbe := ((hb1.trans (ButB.of_below hb12)).setCell 1 (.slice ao n' cap))
  have hput := bld_put (l := l ++ s.data.toList) hbB rfl hb2 hown' (by simp [Lib.strCells_length]) (by unfold Lib.byteCells Lib.strCells; simp)
  clear hb12 hown' hown hgrow hb1
  go_wp2
  go_ret2
  exact ⟨rfl, hput, hbe⟩

theorem bld_String (B b : Nat) (l : List UInt8) (w : World) (h : Bld w B b l) (hBw : B ≤ w.heap.size) :
    Calls Tryz.prog 68 #[.pointer (some ⟨b, 0, none⟩)] w fun e w' => e = .returned (.string ⟨l.toArray⟩) ∧ Below b w w' := by
  obtain ⟨h1, p, v, h2, h3, h4⟩ := h
  have hne : v.ownBlock ≠ some b := fun e => by have := (h4.lt b e).1; omega
  have hw : w.ownsRow b 5 1 v (Lib.byteCells l).length (Lib.byteCells l) := by rw [Lib.byteCells_length]; exact ownsRow_base h4 (Nat.le_of_lt h1)
  have hi : Lib.IsBuilder 83 5 b b (Lib.byteCells l) w := by
    rcases h2 with rfl | rfl
    · exact .inl ⟨Nat.le_refl _, v, h3, hw, hne⟩
    · exact .inr ⟨Nat.le_refl _, v, h3, hw, hne⟩
  exact Tryz.Builder_String_any b b l w hi (by omega)
end Go.Proofs.YtbonnmkkacplgaaGreatDoor

/- strings.Builder beside a row of the call's own that is kept: WriteByte, Len, String. -/
namespace Go.Proofs.YtbonnmkkacplgaaGreatDoor
open Go.RowKit

/-- A builder in block b, whose bytes lie in a row of the call's own, from B on, that isn't block G. -/
def BldG (w : World) (B b G : Nat) (l : List UInt8) : Prop :=
  b < B ∧ G ≠ b ∧ G < w.heap.size ∧ ∃ p v, (p = .pointer none ∨ p = .pointer (some ⟨b, 0, none⟩)) ∧ w.heap[b]? = some (.cells #[p, v] 83 (0, 0)) ∧ w.ownsRow B 5 1 v l.length (Lib.byteCells l) ∧ v.ownBlock ≠ some G
def ButG (B b G : Nat) (w w' : World) : Prop := ButB B b w w' ∧ w'.heap[G]? = w.heap[G]?
theorem ButG.refl (B b G : Nat) (w : World) : ButG B b G w w := ⟨ButB.refl _ _ _, rfl⟩
theorem ButG.trans {B b G : Nat} {w w1 w2 : World} (h : ButG B b G w w1) (k : ButG B b G w1 w2) : ButG B b G w w2 := ⟨h.1.trans k.1, k.2.trans h.2⟩
theorem Bld.guard {w w' : World} {B b G : Nat} {l : List UInt8} (h : Bld w B b l) (hb : Below w.heap.size w w') (h1 : w.heap.size ≤ G) (h2 : G < w'.heap.size) : BldG w' B b G l := by
  have hlt := h.lt
  obtain ⟨h0, p, v, hp, h3, h4⟩ := h
  refine ⟨h0, by omega, h2, p, v, hp, (hb.block b hlt).trans h3, ownsRow_below h4 hb, fun e => ?_⟩
  have := (h4.lt G e).2
  omega
theorem BldG.bld {w : World} {B b G : Nat} {l : List UInt8} (h : BldG w B b G l) : Bld w B b l := by
  obtain ⟨h0, _, _, p, v, hp, h3, h4, _⟩ := h
  exact ⟨h0, p, v, hp, h3, h4⟩
theorem BldG.grown {w w' : World} {B b G : Nat} {l : List UInt8} (h : BldG w B b G l) (hg : w.grownBy w' (some G)) : BldG w' B b G l := by
  obtain ⟨h0, h1, h2, p, v, hp, h3, h4, h5⟩ := h
  exact ⟨h0, h1, Nat.lt_of_lt_of_le h2 hg.size, p, v, hp, (hg.block b (lt_of_block h3) (fun e => h1 (by injection e with e; exact e.symm))).trans h3, h4.kept hg (.inr h5), h5⟩
theorem BldG.below {w w' : World} {B b G : Nat} {l : List UInt8} (h : BldG w B b G l) (hb : Below w.heap.size w w') : BldG w' B b G l := h.grown (below_grownBy hb _)
set_option maxHeartbeats 1000000 in
theorem bldG_check (B b G : Nat) (l : List UInt8) (w : World) (h : BldG w B b G l) :
    Calls Tryz.prog 90 #[.pointer (some ⟨b, 0, none⟩)] w fun e w' => e = .returned (.tuple #[]) ∧ ButG B b G w w' ∧ ∃ v, w'.heap[b]? = some (.cells #[.pointer (some ⟨b, 0, none⟩), v] 83 (0, 0)) ∧ w'.ownsRow B 5 1 v l.length (Lib.byteCells l) ∧ v.ownBlock ≠ some G := by
  obtain ⟨h1, hG, _, p, v, h2, h3, h4, h5⟩ := h
  have c0 : w.cell? ⟨b, 0, none⟩ = some p := by rw [cell_of_row w b 0 _ _ _ h3]; rfl
  rcases h2 with rfl | rfl
  · refine (bld_check_fresh b w c0 (by simp [World.shape?, h3]) (Lib.frozen_of_heap h3 0)).mono ?_
    rintro e w' ⟨rfl, rfl⟩
    refine ⟨rfl, ⟨(ButB.refl B b w).setCell 0 _, Below.heap_setCell _ _ _ _ hG⟩, v, by simp [World.setCell, Array.getElem?_modify, h3], ?_, h5⟩
    refine h4.kept (row := some b) ⟨rfl, rfl, rfl, by simp [World.setCell], fun k _ hk => Below.heap_setCell _ _ _ _ (fun e => hk (by simp [e]))⟩ (.inr fun e => ?_)
    have := (h4.lt b e).1
    omega
  · refine (bld_check_used b w c0).mono ?_
    rintro e w' ⟨rfl, rfl⟩
    exact ⟨rfl, ButG.refl _ _ _ _, v, h3, h4, h5⟩
theorem bldG_put {w : World} {B b G : Nat} {p v : Value} {n : Nat} {xs : List Value} {l : List UInt8} (hb : b < B) (hG : G ≠ b) (hGw : G < w.heap.size) (hp : p = .pointer (some ⟨b, 0, none⟩)) {u : Value} (h3 : w.heap[b]? = some (.cells #[p, u] 83 (0, 0))) (h4 : w.ownsRow B 5 1 v n xs) (hn : n = l.length) (hx : xs = Lib.byteCells l) (h5 : v.ownBlock ≠ some G) :
    BldG (w.setCell ⟨b, 1, none⟩ v) B b G l := by
  obtain ⟨_, p', v', hp', k3, k4⟩ := bld_put hb hp h3 h4 hn hx
  have e : (w.setCell ⟨b, 1, none⟩ v).heap[b]? = some (.cells #[p, v] 83 (0, 0)) := by simp [World.setCell, Array.getElem?_modify, h3]
  rw [e] at k3
  injection k3 with k3
  injection k3 with k3
  injection k3 with k3
  injection k3 with e1 k3
  injection k3 with e2 _
  subst e1 e2
  exact ⟨hb, hG, by simpa [World.setCell] using hGw, p, v, hp', e, k4, h5⟩
set_option maxHeartbeats 2000000 in
set_option maxRecDepth 100000 in
theorem bldG_WriteByte (B b G : Nat) (l : List UInt8) (c : UInt8) (w : World) (h : BldG w B b G l) (hlen : l.length ≤ 1073741824) (hBw : B ≤ w.heap.size) :
    Calls Tryz.prog 61 #[.pointer (some ⟨b, 0, none⟩), .int .u8 (c.toNat : Int)] w fun e w' => e = .returned .nilIface ∧ BldG w' B b G (l ++ [c]) ∧ ButG B b G w w' := by
  obtain ⟨i0, hi, hz0, hz1, hz2⟩ := info_parts bld_byte
  have hbB := h.1
  have hG := h.2.1
  have hGw := h.2.2.1
  go_enter Tryz.func61, Tryz.ntmps61
  go_wp2_with fail
  refine (bldG_check B b G l _ h).mono ?_
  rintro e w1 ⟨rfl, hb1, v, hbk, hown, hvG⟩
  have c0 : w1.cell? ⟨b, 0, none⟩ = some (.pointer (some ⟨b, 0, none⟩)) := by rw [Lib.cell_of_heap hbk]; rfl
  have c1 : w1.cell? ⟨b, 1, none⟩ = some v := by rw [Lib.cell_of_heap hbk]; rfl
  have hsz1 := hb1.1.size
  go_wp2_with (at_builtin; refine wpList_append_own_at _ rfl _ _ 32 rfl B 5 i0 (.int .u8 0) 1 1 Tryz.underlying32 hi hz0 hz1 hz2 rfl (by decide) _ _ _ rfl (hown.alloc _) ⟨w1.heap.size, 0, none⟩ 1 1 [.int .u8 (c.toNat : Int)] rfl rfl ?c1 ?c2 ?c3 ?c4 ?c5 ?_)
  case c1 =>
    intro j u hj
    match j, hj with
    | 0, hj => simp at hj; subst hj; simp [Addr.add]
  case c2 => intro u hu; simp at hu; subst hu; rfl
  case c3 => unfold maxLen; omega
  case c4 => omega
  case c5 => simp; omega
  intro v' w2 hown' hgrow _ hat
  have hlt : b < w1.heap.size := lt_of_block hbk
  have hne : v.ownBlock ≠ some b := fun e => by have := (hown.lt b e).1; omega
  have hv' : v'.ownBlock ≠ some G := fun e => by
    rcases hat with hat | hat
    · exact hvG (hat ▸ e)
    · rw [hat] at e; injection e with e; first | omega | (simp at e; omega)
  have hG2 : w2.heap[G]? = w1.heap[G]? := by
    rw [hgrow.block G (by simp; omega) (fun e => hvG e.symm), Lib.alloc_old w1 _ G (by omega)]
  have hb2 : w2.heap[b]? = some (.cells #[.pointer (some ⟨b, 0, none⟩), v] 83 (0, 0)) := by
    rw [hgrow.block b (by simp; omega) (fun e => hne e.symm), Lib.alloc_old w1 _ b hlt]
    exact hbk
  have hs2 := hgrow.size
  have d0 : w2.cell? ⟨b, 0, none⟩ = some (.pointer (some ⟨b, 0, none⟩)) := by rw [Lib.cell_of_heap hb2]; rfl
  have d1 : w2.cell? ⟨b, 1, none⟩ = some v := by rw [Lib.cell_of_heap hb2]; rfl
  have f1 : w2.frozen? ⟨b, 1, none⟩ = false := Lib.frozen_of_heap hb2 1
  obtain ⟨g, cap, rfl⟩ : ∃ g cap, v' = .slice (some ⟨g, 0, none⟩) (l.length + 1) cap := by
    rcases hown'.2 with ⟨_, h0⟩ | ⟨g, cap, cur, hv, _⟩
    · omega
    · exact ⟨g, cap, hv⟩
  have hb12 : Below B w1 w2 := ((Below.refl B w1).alloc (by omega) _).grown hgrow (by simp; omega) (fun k hk => (hown.lt k hk).1)
  have hbe := ((hb1.1.trans (ButB.of_below hb12)).setCell 1 (.slice (some ⟨g, 0, none⟩) (l.length + 1) cap))
  have hgE : (w2.setCell ⟨b, 1, none⟩ (.slice (some ⟨g, 0, none⟩) (l.length + 1) cap)).heap[G]? = w.heap[G]? := (Below.heap_setCell _ _ _ _ hG).trans (hG2.trans hb1.2)
  have hput := bldG_put (l := l ++ [c]) hbB hG (by simp at hs2; omega) rfl hb2 hown' (by simp) (by unfold Lib.byteCells; simp) hv'
  clear hb12 hown' hown hgrow hb1 hG2 hv' hvG hs2 hat
  go_wp2
  go_ret
  exact ⟨rfl, hput, hbe, hgE⟩
set_option maxHeartbeats 1000000 in
theorem bld_Len (B b : Nat) (l : List UInt8) (w : World) (h : Bld w B b l) :
    Calls Tryz.prog 62 #[.pointer (some ⟨b, 0, none⟩)] w fun e w' => e = .returned (.int .i64 (l.length : Int)) ∧ w' = w := by
  obtain ⟨_, p, v, _, h3, h4⟩ := h
  have c1 : w.cell? ⟨b, 1, none⟩ = some v := by rw [Lib.cell_of_heap h3]; rfl
  obtain ⟨a, c, rfl⟩ : ∃ a c, v = .slice a l.length c := by
    rcases h4.2 with ⟨e0, e1⟩ | ⟨g, cap, cur, hv, _⟩
    · exact ⟨none, 0, by rw [e0, e1]⟩
    · exact ⟨_, _, hv⟩
  clear h3 h4
  go_enter Tryz.func62, Tryz.ntmps62
  go_wp2_with fail
  go_ret
  exact ⟨rfl, rfl⟩
end Go.Proofs.YtbonnmkkacplgaaGreatDoor

/- utf.Half. -/
namespace Go.Proofs.YtbonnmkkacplgaaGreatDoor
open Go.RowKit

set_option maxHeartbeats 800000 in
theorem utf_Half (n : Int) (w : World) : Calls Tryz.prog 88 #[.int .i64 n] w fun e w' => e = .returned (.int .i64 (halfZ n)) ∧ w = w' := by
  have hc : n < 55296 ∨ (55296 ≤ n ∧ n < 56320) ∨ (56320 ≤ n ∧ n < 57344) ∨ 57344 ≤ n := by omega
  have h0 : n < 55296 ∨ 57344 ≤ n → halfZ n = 0 := by intro h; unfold halfZ; rw [if_neg (by omega), if_neg (by omega)]
  have h1 : 55296 ≤ n ∧ n < 56320 → halfZ n = 1 := by intro h; unfold halfZ; rw [if_pos h]
  have h2 : 56320 ≤ n ∧ n < 57344 → halfZ n = 2 := by intro h; unfold halfZ; rw [if_neg (by omega), if_pos h]
  have H0 := Lib.hid h0
  have H1 := Lib.hid h1
  have H2 := Lib.hid h2
  clear h0 h1 h2
  rcases hc with h | ⟨h, h'⟩ | ⟨h, h'⟩ | h
  all_goals
    go_enter Tryz.func88, Tryz.ntmps88
    go_wp2
    go_ret
  · exact ⟨ret_i64 (H0.out (by omega)).symm, rfl⟩
  · exact ⟨ret_i64 (H1.out (by omega)).symm, rfl⟩
  · exact ⟨ret_i64 (H2.out (by omega)).symm, rfl⟩
  · exact ⟨ret_i64 (H0.out (by omega)).symm, rfl⟩

end Go.Proofs.YtbonnmkkacplgaaGreatDoor

/- Plain facts: the first size whose character's bytes stand there is the decoder's; where there is none the decoder finds none. -/
namespace Go.Proofs.YtbonnmkkacplgaaGreatDoor

/-- So many bytes are those of the character that they would tell. -/
def hitB (s : ByteArray) (i k : Nat) : Prop := rightB (guessB s i k) = true ∧ (⟨(putL (guessB s i k).toNat).toArray⟩ : ByteArray) = s.extract i (i + k)

theorem putL_nat {n : Nat} (hn : n < 1114112) : (putL n).map UInt8.toNat = putN n := by
  have hb : ∀ x, x ∈ putN n → x < 256 := by
    intro x hx
    unfold putN at hx
    repeat' split at hx
    all_goals simp at hx; omega
  unfold putL
  rw [List.map_map]
  conv => rhs; rw [← List.map_id (putN n)]
  refine List.map_congr_left fun x hx => ?_
  simp only [Function.comp, id]
  exact UInt8.toNat_ofNat_of_lt' (hb x hx)

theorem part_nat (s : ByteArray) (i k : Nat) (hk1 : 1 ≤ k) (hk4 : k ≤ 4) (hik : i + k ≤ s.size) : ((s.data.toList.drop i).take k).map UInt8.toNat = firstN k (byteAt s i).toNat (byteAt s (i + 1)).toNat (byteAt s (i + 2)).toNat (byteAt s (i + 3)).toNat := by
  have hl : s.data.toList.length = s.size := rfl
  have hc : k = 1 ∨ k = 2 ∨ k = 3 ∨ k = 4 := by omega
  apply List.ext_getElem?
  intro j
  unfold firstN byteAt
  simp only [List.getElem?_map, List.getElem?_take, List.getElem?_drop]
  by_cases hj : j < k
  · have hjs : i + j < s.data.toList.length := by omega
    rw [if_pos hj, if_pos hj, List.getElem?_eq_getElem hjs]
    have hj4 : j = 0 ∨ j = 1 ∨ j = 2 ∨ j = 3 := by omega
    rcases hj4 with rfl | rfl | rfl | rfl
    · simp [List.getD, hl, show i < s.size by omega]
    · simp [List.getD, hl, show i + 1 < s.size by omega]
    · simp [List.getD, hl, show i + 2 < s.size by omega]
    · simp [List.getD, hl, show i + 3 < s.size by omega]
  · rw [if_neg hj, if_neg hj]; rfl

theorem extract_list (s : ByteArray) (i k : Nat) : (s.extract i (i + k)).data.toList = (s.data.toList.drop i).take k := by
  rw [Lib.extract_eq, Nat.add_sub_cancel_left]

theorem hitB_iff (s : ByteArray) (i k : Nat) (hk1 : 1 ≤ k) (hk4 : k ≤ 4) (hik : i + k ≤ s.size) :
    hitB s i k ↔ rightZ (guessB s i k) ∧ putN (guessB s i k).toNat = firstN k (byteAt s i).toNat (byteAt s (i + 1)).toNat (byteAt s (i + 2)).toNat (byteAt s (i + 3)).toNat := by
  unfold hitB
  rw [rightB_iff]
  refine and_congr_right fun hr => ?_
  have hr' := hr
  unfold rightZ at hr'
  have hn : (guessB s i k).toNat < 1114112 := by omega
  rw [← putL_nat hn, ← part_nat s i k hk1 hk4 hik, ← extract_list]
  constructor
  · intro h; rw [← h]
  · intro h
    apply ByteArray.ext
    apply Array.ext'
    have hid : ∀ l : List UInt8, (l.map UInt8.toNat).map UInt8.ofNat = l := fun l => by
      rw [List.map_map]
      conv => rhs; rw [← List.map_id l]
      exact List.map_congr_left fun x _ => by simp
    have := congrArg (List.map UInt8.ofNat) h
    rw [hid, hid] at this
    exact this

theorem hitB_dec {s : ByteArray} {i k : Nat} (hk1 : 1 ≤ k) (hk4 : k ≤ 4) (hik : i + k ≤ s.size) (h : hitB s i k) : okB s i = true ∧ decB s i = ((guessB s i k).toNat, k) := by
  obtain ⟨hr, hp⟩ := (hitB_iff s i k hk1 hk4 hik).1 h
  obtain ⟨e, ne⟩ := hit_dec (n := s.size - i) hk1 hk4 (by omega) (byteAt s i).toNat_lt (byteAt s (i + 1)).toNat_lt (byteAt s (i + 2)).toNat_lt (byteAt s (i + 3)).toNat_lt hr hp
  have e' : decB s i = ((guessB s i k).toNat, k) := e
  refine ⟨?_, e'⟩
  unfold okB
  rw [e']
  exact decide_eq_true ne

theorem no_hit {s : ByteArray} {i : Nat} (hi : i < s.size) (h : ∀ m, 1 ≤ m → m ≤ 4 → i + m ≤ s.size → ¬ hitB s i m) : okB s i = false := by
  refine decide_eq_false fun ho => ?_
  obtain ⟨k, hk1, hk4, hkn, hr, hp⟩ := dec_hit (n := s.size - i) (by omega) (byteAt s i).toNat_lt (byteAt s (i + 1)).toNat_lt (byteAt s (i + 2)).toNat_lt (byteAt s (i + 3)).toNat_lt ho
  exact h k hk1 hk4 (by omega) ((hitB_iff s i k hk1 hk4 (by omega)).2 ⟨hr, hp⟩)

/-- The reference's answer: the character, and how many bytes it has; 0, 0: none. -/
def refC (s : ByteArray) (i : Nat) : Nat := if okB s i then (decB s i).1 else 0
def refN (s : ByteArray) (i : Nat) : Nat := if okB s i then (decB s i).2 else 0
theorem ref_yes {s : ByteArray} {i c n : Nat} (h : okB s i = true ∧ decB s i = (c, n)) : c = refC s i ∧ n = refN s i := by
  unfold refC refN
  rw [if_pos h.1, if_pos h.1, h.2]
  exact ⟨rfl, rfl⟩
theorem ref_no {s : ByteArray} {i : Nat} (h : okB s i = false) : 0 = refC s i ∧ 0 = refN s i := by
  unfold refC refN
  rw [h]
  exact ⟨rfl, rfl⟩
theorem ret_next {s : ByteArray} {i c n : Nat} (h : c = refC s i ∧ n = refN s i) :
    Ending.returned (.tuple #[.int .i64 (c : Int), .int .i64 (n : Int)]) = .returned (.tuple #[.int .i64 (refC s i : Int), .int .i64 (refN s i : Int)]) := by rw [h.1, h.2]
theorem ret_next0 {s : ByteArray} {i : Nat} (h : 0 = refC s i ∧ 0 = refN s i) :
    Ending.returned (.tuple #[.int .i64 0, .int .i64 0]) = .returned (.tuple #[.int .i64 (refC s i : Int), .int .i64 (refN s i : Int)]) := by rw [← h.1, ← h.2]; rfl
end Go.Proofs.YtbonnmkkacplgaaGreatDoor
