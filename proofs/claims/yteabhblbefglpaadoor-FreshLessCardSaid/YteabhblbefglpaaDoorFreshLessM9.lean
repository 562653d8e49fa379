/- errors.Join of two. (Printed by gen_errjoin.py.) -/
import Derived.Test.YteabhblbefglpaaDoorFreshLessM1
import Derived.Laws.MakeOwn
import Derived.Test.YteabhblbefglpaaDoorFreshLessM5
import Derived.LaidHandle
import Derived.LaidLaws
import Derived.Stop.Joined
import Derived.Lib.LaidU8T
import Derived.Shelf.Unicode.DecodeSlow
import Derived.Test.YteabhblbefglpaaDoorFreshLessM8
import Derived.Test.YteabhblbefglpaaDoorShelf

namespace Go.Proofs.YteabhblbefglpaaDoor
open Go.RowKit

theorem info_err : (Tryd.prog.info? 28).map (fun i => (i.zero, i.size, i.bytes)) = some (some .nilIface, 1, 16) := by kernel_rfl
set_option maxHeartbeats 1600000 in
set_option maxRecDepth 100000 in
theorem join_nils (g c : Nat) (w : World) (h0 : w.cell? ⟨g, 0, none⟩ = some .nilIface) (h1 : w.cell? ⟨g, 1, none⟩ = some .nilIface) :
    Calls Tryd.prog 89 #[.slice (some ⟨g, 0, none⟩) 2 c] w fun e w' => e = .returned .nilIface ∧ w = w' := by
  go_enter Tryd.func89, Tryd.ntmps89
  go_wp2_with fail
  refine wp_loop_rounds 3 ?_
  rw [rounds_succ]
  go_wp2_with fail
  rw [rounds_succ]
  go_wp2_with fail
  rw [rounds_succ]
  go_wp2_with fail
  go_ret
  exact ⟨rfl, rfl⟩

/-- The errors that are put together: a row of the call's own, told in block p. -/
def JE (w0 w : World) (p n k : Nat) : Prop := Below w0.heap.size w0 w ∧ w0.heap.size < p ∧ w.heap[p]? = some (.cells #[.slice (some ⟨w0.heap.size, 0, none⟩) k n] 192 (0, 0)) ∧ ∃ xs, w.ownsRow w0.heap.size 28 1 (.slice (some ⟨w0.heap.size, 0, none⟩) k n) k xs
theorem JE.start {w0 w1 : World} {n : Nat} (hb : Below w0.heap.size w0 w1) (hs : w0.heap.size < w1.heap.size) (h : w1.ownsRow w0.heap.size 28 1 (.slice (some ⟨w0.heap.size, 0, none⟩) 0 n) 0 []) :
    JE w0 (w1.alloc (.cells #[.slice (some ⟨w0.heap.size, 0, none⟩) 0 n] 192)) w1.heap.size n 0 :=
  ⟨hb.alloc hb.size _, hs, heap_alloc_new w1 _, _, ownsRow_below h ((Below.refl _ _).alloc (Nat.le_refl _) _)⟩
theorem JE.below {w0 w : World} {p n k : Nat} (h : JE w0 w p n k) : Below w0.heap.size w0 w := h.1
theorem JE.load {w0 w : World} {p n k : Nat} (h : JE w0 w p n k) : w.cell? ⟨p, 0, none⟩ = some (.slice (some ⟨w0.heap.size, 0, none⟩) k n) := by rw [cell_of_row w p 0 _ _ _ h.2.2.1]; rfl
theorem JE.own {w0 w : World} {p n k : Nat} (h : JE w0 w p n k) (t : TypeId) (x : Value) : ∃ xs, (w.alloc (.cells #[.iface t x] 28)).ownsRow w0.heap.size 28 1 (.slice (some ⟨w0.heap.size, 0, none⟩) k n) k xs := by
  obtain ⟨_, _, _, xs, h⟩ := h
  exact ⟨xs, ownsRow_below h ((Below.refl _ _).alloc (Nat.le_refl _) _)⟩
/-- One more. -/
theorem JE.step {w0 w w2 : World} {p n k : Nat} {t : TypeId} {x : Value} {ys : List Value} (h : JE w0 w p n k) (ho : w2.ownsRow w0.heap.size 28 1 (.slice (some ⟨w0.heap.size, 0, none⟩) (k + 1) n) (k + 1) ys) (hg : (w.alloc (.cells #[.iface t x] 28)).grownBy w2 (some w0.heap.size)) :
    w2.cell? ⟨p, 0, none⟩ = some (.slice (some ⟨w0.heap.size, 0, none⟩) k n) ∧ w2.frozen? ⟨p, 0, none⟩ = false ∧ (∀ g j v, g < w0.heap.size → w.cell? ⟨g, j, none⟩ = some v → (w2.setCell ⟨p, 0, none⟩ (.slice (some ⟨w0.heap.size, 0, none⟩) (k + 1) n)).cell? ⟨g, j, none⟩ = some v) ∧
    JE w0 (w2.setCell ⟨p, 0, none⟩ (.slice (some ⟨w0.heap.size, 0, none⟩) (k + 1) n)) p n (k + 1) := by
  obtain ⟨hb, hp, hc, xs, _⟩ := h
  have hpl := lt_of_block hc
  have h2 : w2.heap[p]? = some (.cells #[.slice (some ⟨w0.heap.size, 0, none⟩) k n] 192 (0, 0)) := by
    rw [hg.block p (by simp; omega) (fun e => by injection e with e; omega), heap_alloc_old w _ hpl]; exact hc
  have hbb : Below w0.heap.size w0 (w2.setCell ⟨p, 0, none⟩ (.slice (some ⟨w0.heap.size, 0, none⟩) (k + 1) n)) :=
    ((hb.alloc hb.size _).grown hg (by simp; have := hb.size; omega) (fun j hj => by injection hj with hj; omega)).setCell (by show w0.heap.size ≤ p; omega) _
  refine ⟨by rw [cell_of_row w2 p 0 _ _ _ h2]; rfl, by simp [World.frozen?, h2], fun g j v hgl hv => ?_, hbb, hp, ?_, ys, ?_⟩
  · rw [hbb.cell (p := ⟨g, j, none⟩) hgl, ← hb.cell (p := ⟨g, j, none⟩) hgl]; exact hv
  · simp [World.setCell, Array.getElem?_modify, h2]
  · exact ownsRow_setCell_other ho (by show some w0.heap.size ≠ some p; intro e; injection e with e; omega) _

set_option maxHeartbeats 1600000 in
set_option maxRecDepth 100000 in
theorem join_fn (g c : Nat) (t1 : TypeId) (p1 : Value) (w : World) (hg : g < w.heap.size) (h0 : w.cell? ⟨g, 0, none⟩ = some (.iface t1 p1)) (h1 : w.cell? ⟨g, 1, none⟩ = some (.nilIface)) :
    Calls Tryd.prog 89 #[.slice (some ⟨g, 0, none⟩) 2 c] w fun e w' => ∃ p, e = .returned (.iface 190 p) ∧ Below w.heap.size w w' := by
  obtain ⟨i0, hi, hz0, hz1, hz2⟩ := info_parts info_err
  go_enter Tryd.func89, Tryd.ntmps89
  go_wp2_with fail
  refine wp_loop_rounds 3 ?_
  rw [rounds_succ]
  go_wp2_with fail
  rw [rounds_succ]
  go_wp2_with fail
  rw [rounds_succ]
  go_wp2_with (refine wpList_make_own _ rfl _ _ 180 rfl w.heap.size 28 i0 .nilIface 1 Tryd.underlying180 hi hz0 hz1 .i64 .i64 _ 1 rfl rfl rfl (by rw [hz2]; decide) (by decide) (Nat.le_refl _) ?_)
  intro w1 hown1 hg1
  have hb1 : Below w.heap.size w w1 := (Below.refl _ _).grown hg1 (Nat.le_refl _) (fun j hj => by cases hj)
  have hs1 : w.heap.size < w1.heap.size := (World.ownsRow.lt hown1 _ rfl).2
  have a0 := (hb1.cell (p := ⟨g, 0, none⟩) hg).trans h0
  have a1 := (hb1.cell (p := ⟨g, 1, none⟩) hg).trans h1
  have hg' : g < w1.heap.size := Nat.lt_of_lt_of_le hg hb1.size
  have hJ : JE w (w1.alloc (.cells #[.slice (some ⟨w.heap.size, 0, none⟩) 0 1] 192)) w1.heap.size 1 0 := JE.start hb1 hs1 hown1
  clear hg1 hown1 h0 h1 hb1
  go_wp2_with fail
  refine wp_loop_rounds 3 ?_
  have b0 := (World.cell?_alloc_lt w1 (.cells #[.slice (some ⟨w.heap.size, 0, none⟩) 0 1] 192) ⟨g, 0, none⟩ hg').trans a0
  have b1 := (World.cell?_alloc_lt w1 (.cells #[.slice (some ⟨w.heap.size, 0, none⟩) 0 1] 192) ⟨g, 1, none⟩ hg').trans a1
  clear a0 a1
  generalize w1.heap.size = p at *
  generalize w1.alloc (.cells #[.slice (some ⟨w.heap.size, 0, none⟩) 0 1] 192) = w2 at *
  rw [rounds_succ]
  have c0 := hJ.load
  obtain ⟨xs0, hown0⟩ := hJ.own t1 p1
  go_wp2_with (at_builtin; refine wpList_append_fits _ rfl _ _ 180 rfl w.heap.size 28 i0 1 Tryd.underlying180 hi hz1 w.heap.size 0 1 xs0 rfl hown0 ⟨w2.heap.size, 0, none⟩ 1 1 [.iface t1 p1] rfl rfl (by intro j u hj; match j, hj with | 0, hj => simp at hj; subst hj; simp [Addr.add]) (by intro u hu; simp at hu; subst hu; rfl) (by omega) ?_)
  intro wx0 hown0' hgr0
  obtain ⟨c0', f0, hk0, hJ'⟩ := hJ.step hown0' hgr0
  have b1 := hk0 g 1 _ hg b1
  clear c0 hown0 hown0' hgr0 b0 hk0 hJ
  go_wp2_with fail
  clear c0' f0
  have hJ := hJ'
  clear hJ'
  generalize wx0.setCell ⟨p, 0, none⟩ (.slice (some ⟨w.heap.size, 0, none⟩) (0 + 1) 1) = wz0 at *
  rw [rounds_succ]
  go_wp2_with fail
  rw [rounds_succ]
  go_wp2_with fail
  go_ret
  exact ⟨_, rfl, hJ.below⟩
set_option maxHeartbeats 1600000 in
set_option maxRecDepth 100000 in
theorem join_nf (g c : Nat) (t2 : TypeId) (p2 : Value) (w : World) (hg : g < w.heap.size) (h0 : w.cell? ⟨g, 0, none⟩ = some (.nilIface)) (h1 : w.cell? ⟨g, 1, none⟩ = some (.iface t2 p2)) :
    Calls Tryd.prog 89 #[.slice (some ⟨g, 0, none⟩) 2 c] w fun e w' => ∃ p, e = .returned (.iface 190 p) ∧ Below w.heap.size w w' := by
  obtain ⟨i0, hi, hz0, hz1, hz2⟩ := info_parts info_err
  go_enter Tryd.func89, Tryd.ntmps89
  go_wp2_with fail
  refine wp_loop_rounds 3 ?_
  rw [rounds_succ]
  go_wp2_with fail
  rw [rounds_succ]
  go_wp2_with fail
  rw [rounds_succ]
  go_wp2_with (refine wpList_make_own _ rfl _ _ 180 rfl w.heap.size 28 i0 .nilIface 1 Tryd.underlying180 hi hz0 hz1 .i64 .i64 _ 1 rfl rfl rfl (by rw [hz2]; decide) (by decide) (Nat.le_refl _) ?_)
  intro w1 hown1 hg1
  have hb1 : Below w.heap.size w w1 := (Below.refl _ _).grown hg1 (Nat.le_refl _) (fun j hj => by cases hj)
  have hs1 : w.heap.size < w1.heap.size := (World.ownsRow.lt hown1 _ rfl).2
  have a0 := (hb1.cell (p := ⟨g, 0, none⟩) hg).trans h0
  have a1 := (hb1.cell (p := ⟨g, 1, none⟩) hg).trans h1
  have hg' : g < w1.heap.size := Nat.lt_of_lt_of_le hg hb1.size
  have hJ : JE w (w1.alloc (.cells #[.slice (some ⟨w.heap.size, 0, none⟩) 0 1] 192)) w1.heap.size 1 0 := JE.start hb1 hs1 hown1
  clear hg1 hown1 h0 h1 hb1
  go_wp2_with fail
  refine wp_loop_rounds 3 ?_
  have b0 := (World.cell?_alloc_lt w1 (.cells #[.slice (some ⟨w.heap.size, 0, none⟩) 0 1] 192) ⟨g, 0, none⟩ hg').trans a0
  have b1 := (World.cell?_alloc_lt w1 (.cells #[.slice (some ⟨w.heap.size, 0, none⟩) 0 1] 192) ⟨g, 1, none⟩ hg').trans a1
  clear a0 a1
  generalize w1.heap.size = p at *
  generalize w1.alloc (.cells #[.slice (some ⟨w.heap.size, 0, none⟩) 0 1] 192) = w2 at *
  rw [rounds_succ]
  go_wp2_with fail
  rw [rounds_succ]
  have c1 := hJ.load
  obtain ⟨xs1, hown1⟩ := hJ.own t2 p2
  go_wp2_with (at_builtin; refine wpList_append_fits _ rfl _ _ 180 rfl w.heap.size 28 i0 1 Tryd.underlying180 hi hz1 w.heap.size 0 1 xs1 rfl hown1 ⟨w2.heap.size, 0, none⟩ 1 1 [.iface t2 p2] rfl rfl (by intro j u hj; match j, hj with | 0, hj => simp at hj; subst hj; simp [Addr.add]) (by intro u hu; simp at hu; subst hu; rfl) (by omega) ?_)
  intro wx1 hown1' hgr1
  obtain ⟨c1', f1, hk1, hJ'⟩ := hJ.step hown1' hgr1
  have b1 := hk1 g 1 _ hg b1
  clear c1 hown1 hown1' hgr1 b0 hk1 hJ
  go_wp2_with fail
  clear c1' f1
  have hJ := hJ'
  clear hJ'
  generalize wx1.setCell ⟨p, 0, none⟩ (.slice (some ⟨w.heap.size, 0, none⟩) (0 + 1) 1) = wz1 at *
  rw [rounds_succ]
  go_wp2_with fail
  go_ret
  exact ⟨_, rfl, hJ.below⟩
set_option maxHeartbeats 1600000 in
set_option maxRecDepth 100000 in
theorem join_ff (g c : Nat) (t1 : TypeId) (p1 : Value) (t2 : TypeId) (p2 : Value) (w : World) (hg : g < w.heap.size) (h0 : w.cell? ⟨g, 0, none⟩ = some (.iface t1 p1)) (h1 : w.cell? ⟨g, 1, none⟩ = some (.iface t2 p2)) :
    Calls Tryd.prog 89 #[.slice (some ⟨g, 0, none⟩) 2 c] w fun e w' => ∃ p, e = .returned (.iface 190 p) ∧ Below w.heap.size w w' := by
  obtain ⟨i0, hi, hz0, hz1, hz2⟩ := info_parts info_err
  go_enter Tryd.func89, Tryd.ntmps89
  go_wp2_with fail
  refine wp_loop_rounds 3 ?_
  rw [rounds_succ]
  go_wp2_with fail
  rw [rounds_succ]
  go_wp2_with fail
  rw [rounds_succ]
  go_wp2_with (refine wpList_make_own _ rfl _ _ 180 rfl w.heap.size 28 i0 .nilIface 1 Tryd.underlying180 hi hz0 hz1 .i64 .i64 _ 2 rfl rfl rfl (by rw [hz2]; decide) (by decide) (Nat.le_refl _) ?_)
  intro w1 hown1 hg1
  have hb1 : Below w.heap.size w w1 := (Below.refl _ _).grown hg1 (Nat.le_refl _) (fun j hj => by cases hj)
  have hs1 : w.heap.size < w1.heap.size := (World.ownsRow.lt hown1 _ rfl).2
  have a0 := (hb1.cell (p := ⟨g, 0, none⟩) hg).trans h0
  have a1 := (hb1.cell (p := ⟨g, 1, none⟩) hg).trans h1
  have hg' : g < w1.heap.size := Nat.lt_of_lt_of_le hg hb1.size
  have hJ : JE w (w1.alloc (.cells #[.slice (some ⟨w.heap.size, 0, none⟩) 0 2] 192)) w1.heap.size 2 0 := JE.start hb1 hs1 hown1
  clear hg1 hown1 h0 h1 hb1
  go_wp2_with fail
  refine wp_loop_rounds 3 ?_
  have b0 := (World.cell?_alloc_lt w1 (.cells #[.slice (some ⟨w.heap.size, 0, none⟩) 0 2] 192) ⟨g, 0, none⟩ hg').trans a0
  have b1 := (World.cell?_alloc_lt w1 (.cells #[.slice (some ⟨w.heap.size, 0, none⟩) 0 2] 192) ⟨g, 1, none⟩ hg').trans a1
  clear a0 a1
  generalize w1.heap.size = p at *
  generalize w1.alloc (.cells #[.slice (some ⟨w.heap.size, 0, none⟩) 0 2] 192) = w2 at *
  rw [rounds_succ]
  have c0 := hJ.load
  obtain ⟨xs0, hown0⟩ := hJ.own t1 p1
  go_wp2_with (at_builtin; refine wpList_append_fits _ rfl _ _ 180 rfl w.heap.size 28 i0 1 Tryd.underlying180 hi hz1 w.heap.size 0 2 xs0 rfl hown0 ⟨w2.heap.size, 0, none⟩ 1 1 [.iface t1 p1] rfl rfl (by intro j u hj; match j, hj with | 0, hj => simp at hj; subst hj; simp [Addr.add]) (by intro u hu; simp at hu; subst hu; rfl) (by omega) ?_)
  intro wx0 hown0' hgr0
  obtain ⟨c0', f0, hk0, hJ'⟩ := hJ.step hown0' hgr0
  have b1 := hk0 g 1 _ hg b1
  clear c0 hown0 hown0' hgr0 b0 hk0 hJ
  go_wp2_with fail
  clear c0' f0
  have hJ := hJ'
  clear hJ'
  generalize wx0.setCell ⟨p, 0, none⟩ (.slice (some ⟨w.heap.size, 0, none⟩) (0 + 1) 2) = wz0 at *
  rw [rounds_succ]
  have c1 := hJ.load
  obtain ⟨xs1, hown1⟩ := hJ.own t2 p2
  go_wp2_with (at_builtin; refine wpList_append_fits _ rfl _ _ 180 rfl w.heap.size 28 i0 1 Tryd.underlying180 hi hz1 w.heap.size 1 2 xs1 rfl hown1 ⟨wz0.heap.size, 0, none⟩ 1 1 [.iface t2 p2] rfl rfl (by intro j u hj; match j, hj with | 0, hj => simp at hj; subst hj; simp [Addr.add]) (by intro u hu; simp at hu; subst hu; rfl) (by omega) ?_)
  intro wx1 hown1' hgr1
  obtain ⟨c1', f1, hk1, hJ'⟩ := hJ.step hown1' hgr1
  have b1 := hk1 g 1 _ hg b1
  clear c1 hown1 hown1' hgr1 hk1 hJ
  go_wp2_with fail
  clear c1' f1
  have hJ := hJ'
  clear hJ'
  generalize wx1.setCell ⟨p, 0, none⟩ (.slice (some ⟨w.heap.size, 0, none⟩) (1 + 1) 2) = wz1 at *
  rw [rounds_succ]
  go_wp2_with fail
  go_ret
  exact ⟨_, rfl, hJ.below⟩
/-- Of two errors, one of which at least there is. -/
theorem errors_Join2 (g c : Nat) (x y : Value) (w : World) (hg : g < w.heap.size) (h0 : w.cell? ⟨g, 0, none⟩ = some x) (h1 : w.cell? ⟨g, 1, none⟩ = some y) (hx : x = .nilIface ∨ ∃ t p, x = .iface t p) (hy : y = .nilIface ∨ ∃ t p, y = .iface t p) :
    Calls Tryd.prog 89 #[.slice (some ⟨g, 0, none⟩) 2 c] w fun e w' => Below w.heap.size w w' ∧ ((x = .nilIface ∧ y = .nilIface ∧ e = .returned .nilIface) ∨ (¬ (x = .nilIface ∧ y = .nilIface) ∧ ∃ p, e = .returned (.iface 190 p))) := by
  rcases hx with rfl | ⟨t1, p1, rfl⟩
  · rcases hy with rfl | ⟨t2, p2, rfl⟩
    · exact (join_nils g c w h0 h1).mono fun e w' ⟨a, b⟩ => by subst b; exact ⟨Below.refl _ _, .inl ⟨rfl, rfl, a⟩⟩
    · exact (join_nf g c t2 p2 w hg h0 h1).mono fun e w' ⟨p, a, b⟩ => ⟨b, .inr ⟨(fun h => by cases h.2), p, a⟩⟩
  · rcases hy with rfl | ⟨t2, p2, rfl⟩
    · exact (join_fn g c t1 p1 w hg h0 h1).mono fun e w' ⟨p, a, b⟩ => ⟨b, .inr ⟨(fun h => by cases h.1), p, a⟩⟩
    · exact (join_ff g c t1 p1 t2 p2 w hg h0 h1).mono fun e w' ⟨p, a, b⟩ => ⟨b, .inr ⟨(fun h => by cases h.1), p, a⟩⟩
end Go.Proofs.YteabhblbefglpaaDoor

/- What a row's list of package variables gives: errors.errorType, the tables of unicode/utf8. A world that holds them. -/
namespace Go.Proofs.YteabhblbefglpaaDoor
open Go.ChangeShapes Go.WideShapes Go.RowKit

/-- The tables of unicode/utf8, as their initialisers lay them. -/
def Utf8Laid (w : World) : Prop := Lib.Utf8Tabs 2 3 w
theorem Utf8Laid.below {w w' : World} (h : Utf8Laid w) (hb : Below w.heap.size w w') : Utf8Laid w' :=
  ⟨fun c hc => (hb.cell (World.block_lt_of_cell? w _ (h.1 c hc))).trans (h.1 c hc),
    fun i hi => ⟨(hb.cell (World.block_lt_of_cell? w _ (h.2 i hi).1)).trans (h.2 i hi).1, (hb.cell (World.block_lt_of_cell? w _ (h.2 i hi).2)).trans (h.2 i hi).2⟩⟩
theorem Utf8Laid.drewN {w : World} (h : Utf8Laid w) (n : Nat) : Utf8Laid (w.drewN n) := h

def u8ren : Go.Shelf.Ren := ⟨fun n => n, fun | 5 => 5 | 119 => 232 | 138 => 234 | 139 => 235 | n => n, fun | 3 => 2 | 4 => 3 | n => n⟩
theorem u8types : U8Types Tryd.prog u8ren := { t5 := Tryd.underlying5, t119 := Tryd.underlying232, t138 := Tryd.underlying234, t139 := Tryd.underlying235 }
theorem u8extra : U8Extra Tryd.prog u8ren := { n3 := by kernel_rfl, n4 := by kernel_rfl, y3 := by kernel_rfl, y4 := by kernel_rfl, c5 := by kernel_rfl, c119 := by kernel_rfl, c138 := by kernel_rfl }
theorem u8first : Lib.firstData = Rows.laid_unicode_utf8_first := by kernel_rfl
theorem u8accept : Lib.acceptData = Rows.laid_unicode_utf8_acceptRanges := by kernel_rfl
noncomputable def laidWorld (os : Os) : World :=
  let w0 := World.holding Tryd.prog os ⟨#[], #[], []⟩
  let h1 := w0.heap.modify 0 fun
      | .cells _ t frozen => .cells #[.iface 169 (.agg #[.pointer (some ⟨4, 28, none⟩)])] t frozen
      | o => o
  let h2 := h1.modify 2 fun
      | .cells _ t frozen => .cells (Lib.firstTab.map (Value.int .u8)).toArray t frozen
      | o => o
  let h3 := h2.modify 3 fun
      | .cells _ t frozen => .cells ((List.range 16).flatMap fun i => [Value.int .u8 (Lib.accLo i : Nat), Value.int .u8 (Lib.accHi i : Nat)]).toArray t frozen
      | o => o
  { w0 with heap := h3 }
end Go.Proofs.YteabhblbefglpaaDoor

/- utf.Next: the character at a place. -/
namespace Go.Proofs.YteabhblbefglpaaDoor
open Go.RowKit

theorem utf8_DecodeRune (s : ByteArray) (i b off cap : Nat) (w : World) (hU : Utf8Laid w) (hi : i < s.size) (hp : BytesIn w b off s) :
    Calls Tryd.prog 164 #[.slice (some ⟨b, off + i, none⟩) (s.size - i) cap] w fun e w' => e = .returned (.tuple #[.int .i32 ((decB s i).1 : Int), .int .i64 ((decB s i).2 : Int)]) ∧ Below w.heap.size w w' := by
  have hsz := extract_tail_size s i (by omega)
  have h := Any7.utf8_DecodeRune Tryd.lays7n32 (s.extract i s.size) b (off + i) cap w hU (fun j hj => by
    rw [byteAt_get, Nat.add_assoc, byteAt_extract s i j (by omega)]
    exact hp (i + j) (by omega))
  rw [decodeGo_extract s i hi, hsz] at h
  exact h

def NextPost (s : ByteArray) (i : Nat) (w : World) (e : Ending) (w' : World) : Prop :=
  Below w.heap.size w w' ∧ ((okB s i = true ∧ e = .returned (.tuple #[.int .i64 ((decB s i).1 : Int), .int .i64 ((decB s i).2 : Int), .nilIface])) ∨
    (okB s i = false ∧ ∃ v, e = .returned (.tuple #[.int .i64 0, .int .i64 0, v]) ∧ IsFault w' v 12 i))

set_option maxHeartbeats 1600000 in
set_option maxRecDepth 100000 in
theorem utf_Next (s : ByteArray) (i b off cap : Nat) (w : World) (hU : Utf8Laid w) (hi : i < s.size) (hc : s.size ≤ cap) (_ : cap ≤ 9223372036854775807) (hp : BytesIn w b off s) :
    Calls Tryd.prog 142 #[.slice (some ⟨b, off, none⟩) s.size cap, .int .i64 (i : Int)] w (NextPost s i w) := by
  obtain ⟨hd1, hd2, hd3, hd4⟩ := decB_bounds s i hi
  have hd5 : (decB s i).1 ≤ 1114111 := by unfold rightC at hd4; omega
  have hok : okB s i = decide (decB s i ≠ (65533, 1)) := rfl
  have hD := Lib.hid (show decB s i = ((decB s i).1, (decB s i).2) from rfl)
  generalize hc1 : (decB s i).1 = c at *
  generalize hn1 : (decB s i).2 = n at *
  have HC := Lib.hid hc1
  have HN := Lib.hid hn1
  have HOK := Lib.hid hok
  clear hc1 hn1 hok hd4
  have hnb : (i : Int) ≤ (s.size : Int) := by omega
  go_enter Tryd.func142, Tryd.ntmps142
  go_wp2_with fail
  refine (utf8_DecodeRune s i b off _ _ hU hi hp).mono ?_
  rintro e w1 ⟨rfl, hb1⟩
  rw [HC.out, HN.out]
  by_cases hc0 : c = 65533
  · by_cases hn0 : n = 1
    · subst hc0 hn0
      go_wp2_with fail
      refine (api_Fail' _ _ _).mono ?_
      rintro e w3 ⟨v, rfl, hv, hb3⟩
      go_wp2_with fail
      go_ret3
      exact ⟨Bt hb1 hb3, .inr ⟨by rw [HOK.out, hD.out]; rfl, v, rfl, hv⟩⟩
    · subst hc0
      have e2 : ((n : Int) == 1) = false := by rw [beq_eq_false_iff_ne]; omega
      go_wp2_with fail
      go_ret3
      exact ⟨hb1, .inl ⟨by rw [HOK.out, hD.out]; simp [hn0], by rw [HC.out, HN.out]; rfl⟩⟩
  · have e1 : ((c : Int) == 65533) = false := by rw [beq_eq_false_iff_ne]; omega
    go_wp2_with fail
    go_ret3
    exact ⟨hb1, .inl ⟨by rw [HOK.out, hD.out]; simp [hc0], by rw [HC.out, HN.out]; rfl⟩⟩

set_option maxHeartbeats 1600000 in
theorem utf_Next_arg (a : Option Addr) (len cap : Nat) (i : Int) (w : World) (hi : i < 0 ∨ (len : Int) < i) :
    Calls Tryd.prog 142 #[.slice a len cap, .int .i64 i] w fun e w' => ∃ v, e = .returned (.tuple #[.int .i64 0, .int .i64 0, v]) ∧ IsFault w' v 1 i ∧ Below w.heap.size w w' := by
  rcases hi with hi | hi
  all_goals
    go_enter Tryd.func142, Tryd.ntmps142
    go_wp2_with fail
    refine (api_Fail' _ _ _).mono ?_
    rintro e w3 ⟨v, rfl, hv, hb3⟩
    go_wp2_with fail
    go_ret3
    exact ⟨v, rfl, hv, hb3⟩

theorem utf_Next_end (a : Option Addr) (len cap : Nat) (w : World) (_ : len ≤ 9223372036854775807) :
    Calls Tryd.prog 142 #[.slice a len cap, .int .i64 (len : Int)] w fun e w' => ∃ v, e = .returned (.tuple #[.int .i64 0, .int .i64 0, v]) ∧ IsFault w' v 10 len ∧ Below w.heap.size w w' := by
  go_enter Tryd.func142, Tryd.ntmps142
  go_wp2_with fail
  refine (api_Fail' _ _ _).mono ?_
  rintro e w3 ⟨v, rfl, hv, hb3⟩
  go_wp2_with fail
  go_ret3
  exact ⟨v, rfl, hv, hb3⟩
end Go.Proofs.YteabhblbefglpaaDoor

/- The code's ints. -/
namespace Go.Proofs.YteabhblbefglpaaDoor
open Go.RowKit

theorem info_int : (Tryd.prog.info? 3).map (fun i => (i.zero, i.size, i.bytes)) = some (some (.int .i64 0), 1, 8) := by kernel_rfl
def intV (n : Nat) : Value := .int .i64 (n : Int)
end Go.Proofs.YteabhblbefglpaaDoor

/- utf.Chars: all characters of bytes. -/
namespace Go.Proofs.YteabhblbefglpaaDoor
open Go.RowKit

def CharsPost (s : ByteArray) (w : World) (e : Ending) (w' : World) : Prop :=
  Below w.heap.size w w' ∧ (((chrs s).2 = none ∧ ∃ v, e = .returned (.tuple #[v, .nilIface]) ∧ w'.ownsRow w.heap.size 3 1 v (chrs s).1.length ((chrs s).1.map intV)) ∨
    (∃ i, (chrs s).2 = some i ∧ ∃ v, e = .returned (.tuple #[.slice none 0 0, v]) ∧ IsFault w' v 12 i))

set_option maxHeartbeats 1600000 in
set_option maxRecDepth 100000 in
theorem utf_Chars (v : Value) (s : ByteArray) (w : World) (hU : Utf8Laid w) (hs : s.size ≤ 16777216) (hv : BytesSl w v s) :
    Calls Tryd.prog 103 #[v] w (CharsPost s w) := by
  rcases hv with ⟨h0, a, cap, rfl⟩ | ⟨b, off, cap, rfl, hc, hcm, hbs, hp⟩
  · have hz := Lib.hid ((Reach.zero s).done (by omega))
    clear h0
    go_enter Tryd.func103, Tryd.ntmps103
    go_wp2_with fail
    refine wp_loop_rounds 1 ?_
    rw [rounds_succ]
    go_wp2_with fail
    go_ret2
    exact ⟨Below.refl _ _, .inl ⟨by rw [hz.out], _, rfl, by rw [hz.out]; exact World.ownsRow_nil _ _ _ _⟩⟩
  · obtain ⟨i0, hi, hz0, hz1, hz2⟩ := info_parts info_int
    unfold maxLen at hcm
    go_enter Tryd.func103, Tryd.ntmps103
    go_wp2_with fail
    go_loopw [4, 5] (fun v a wr => ∃ (i : Nat) (l : List Nat), i ≤ s.size ∧ a = .int .i64 i ∧ Reach s l i ∧ wr.ownsRow w.heap.size 3 1 v l.length (l.map intV) ∧ Below w.heap.size w wr)
      (fun _ a _ => s.size - (intOf a).toNat)
    case atStart => exact ⟨0, [], Nat.zero_le _, rfl, Reach.zero s, World.ownsRow_nil _ _ _ _, Below.refl _ _⟩
    case round =>
      obtain ⟨i, l, hil, rfl, hr, hown, hbr⟩ := hrel
      have hll : l.length ≤ i := by obtain ⟨_, _, h, _⟩ := hr; exact h
      have HR := Lib.hid hr
      clear hr
      by_cases hlt : i < s.size
      · obtain ⟨hd1, hd2, hd3, hd4⟩ := decB_bounds s i hlt
        clear hd4
        go_wp2_with fail
        refine (utf_Next s i b off cap _ (hU.below hbr) hlt hc hcm (hp.below hbr hbs)).mono ?_
        rintro e w2 ⟨hb2, h⟩
        have hown2 := ownsRow_below hown hb2
        have hbr2 := Bt hbr hb2
        clear hown hbr hb2
        rcases h with ⟨hok, rfl⟩ | ⟨hok, v, rfl, hv⟩
        · have hst := HR.out.step hlt hok
          generalize (decB s i).1 = c at *
          generalize (decB s i).2 = n at *
          have HST := Lib.hid hst
          clear hst hok
          go_wp2_with (at_builtin; refine wpList_append_own _ rfl _ _ 32 rfl w.heap.size 3 i0 (.int .i64 0) 1 8 Tryd.underlying32 hi hz0 hz1 hz2 rfl (by decide) _ _ _ rfl (hown2.alloc _) ⟨w2.heap.size, 0, none⟩ 1 1 [intV c] rfl rfl ?c1 ?c2 ?c3 ?c4 ?c5 ?_)
          case c1 =>
            intro j u hj
            match j, hj with
            | 0, hj => simp at hj; subst hj; simp [Addr.add, intV]
          case c2 => intro u hu; simp at hu; subst hu; rfl
          case c3 => unfold maxLen; omega
          case c4 => omega
          case c5 => have := hbr2.size; simp; omega
          intro v1 w3 hown3 hg3 _
          have hbr3 := below_app hbr2 hown2 (Nat.le_refl _) hg3
          clear hg3 hown2 hbr2
          go_wp2_with fail
          go_roundw
          case rel => exact ⟨i + n, l ++ [c], by omega, by go_num, HST.out, by simpa using hown3, hbr3⟩
          case measure => simp [intOf]; omega
        · obtain ⟨p, rfl⟩ := hv.ne_nil
          have hb := Lib.hid (HR.out.bad hlt hok)
          clear hok
          go_wp2_with fail
          go_ret2
          exact ⟨hbr2, .inr ⟨i, by rw [hb.out], _, rfl, hv⟩⟩
      · have hb := Lib.hid (HR.out.done hlt)
        obtain rfl : i = s.size := by omega
        go_wp2_with fail
        go_ret2
        exact ⟨hbr, .inl ⟨by rw [hb.out], _, rfl, by rw [hb.out]; exact hown⟩⟩

def ValidPost (s : ByteArray) (w : World) (e : Ending) (w' : World) : Prop :=
  Below w.heap.size w w' ∧ (((chrs s).2 = none ∧ e = .returned .nilIface) ∨ (∃ i, (chrs s).2 = some i ∧ ∃ v, e = .returned v ∧ IsFault w' v 12 i))
set_option maxHeartbeats 800000 in
theorem utf_Valid (v : Value) (s : ByteArray) (w : World) (hU : Utf8Laid w) (hs : s.size ≤ 16777216) (hv : BytesSl w v s) :
    Calls Tryd.prog 90 #[v] w (ValidPost s w) := by
  go_enter Tryd.func90, Tryd.ntmps90
  go_wp2_with fail
  refine (utf_Chars v s _ hU hs hv).mono ?_
  rintro e w2 ⟨hb2, h⟩
  rcases h with ⟨hn, v2, rfl, _⟩ | ⟨i, hi, v2, rfl, hv2⟩
  · have HN := Lib.hid hn
    clear hn
    go_wp2_with fail
    go_ret
    exact ⟨hb2, .inl ⟨HN.out, rfl⟩⟩
  · have HN := Lib.hid hi
    clear hi
    go_wp2_with fail
    go_ret
    exact ⟨hb2, .inr ⟨i, HN.out, _, rfl, hv2⟩⟩
end Go.Proofs.YteabhblbefglpaaDoor

/- A string's bytes, as a slice that reads as the string. -/
namespace Go.Proofs.YteabhblbefglpaaDoor
open Go.RowKit

section
variable {P : Program}
theorem wpList_bytes_sl {ops : Array Oper} {rest : List Oper} {o : Oper} {a : Act} {w : World} {Q : Exit → Act → World → Prop} (hgd : o.guard = none) (src dst e : TypeId) (x : Operand)
    (ho : o.op = .convert src dst x) (s : ByteArray) (hx : a.eval x = .string s) (hs : P.underlying src = some .string) (hd : P.underlying dst = some (.slice e)) (he : P.underlying e = some (.int .u8)) (hm : s.size ≤ 140737488351232)
    (h : ∀ (v : Value) (w' : World), BytesSl w' v s → Below w.heap.size w w' → wpList P ops Q rest (a.put o.dst v) w') : wpList P ops Q (o :: rest) a w := by
  refine wpList_plain hgd fun K hK => ?_
  unfold Oper.wp execOp
  have hr := run_bytes_of_string (P := P) w src dst e s hs hd he
  simp only [ho, hx, Sem.run_bind, hr, Result.andThen_ok, Sem.run_pure]
  refine hK _ _ (h _ _ (.inr ⟨w.heap.size, 0, grownCap w s.size 0 e, rfl, grownCap_ge w s.size 0 e, grownCap_le_maxLen w s.size 0 e (by unfold maxLen; omega), by simp, BytesAt.isIn ?_⟩) ((((Below.refl _ _).drew).alloc (Nat.le_refl _) _)))
  refine ⟨e, List.replicate (grownCap w s.size 0 e - s.size) (Value.int .u8 0), _, s.data.toList.length + (List.replicate (grownCap w s.size 0 e - s.size) (Value.int .u8 0)).length + 1, .inr (Nat.le_refl _), ?_⟩
  refine (heap_alloc_new w.drew _).trans ?_
  have hb : bytesRow s (grownCap w s.size 0 e) = (List.map byteV s.data.toList ++ List.replicate (grownCap w s.size 0 e - s.size) (Value.int .u8 0)).toArray := by
    unfold bytesRow
    apply Array.ext'
    simp [byteV]
  have hsz : (bytesRow s (grownCap w s.size 0 e)).size = s.data.toList.length + (List.replicate (grownCap w s.size 0 e - s.size) (Value.int .u8 0)).length := by
    rw [hb]; simp
  rw [hsz, hb]
end
end Go.Proofs.YteabhblbefglpaaDoor
