/- errors.Join of two. (Printed by gen_errjoin.py.) -/
import Derived.Test.YtakcfgmibijdnaaGreatDoorQueryWritesM3
import Derived.Laws.MakeOwn
import Derived.Test.YtakcfgmibijdnaaGreatDoorQueryWritesM7
import Derived.Test.YtakcfgmibijdnaaGreatDoorQueryWritesM2
import Derived.Test.YtakcfgmibijdnaaGreatDoorShelf
import Derived.Shelf.Strings.SplitCore

namespace Go.Proofs.YtakcfgmibijdnaaGreatDoor
open Go.RowKit

theorem info_err : (Tryz.prog.info? 28).map (fun i => (i.zero, i.size, i.bytes)) = some (some .nilIface, 1, 16) := by kernel_rfl
set_option maxHeartbeats 1600000 in
set_option maxRecDepth 100000 in
theorem join_nils (g c : Nat) (w : World) (h0 : w.cell? ⟨g, 0, none⟩ = some .nilIface) (h1 : w.cell? ⟨g, 1, none⟩ = some .nilIface) :
    Calls Tryz.prog 121 #[.slice (some ⟨g, 0, none⟩) 2 c] w fun e w' => e = .returned .nilIface ∧ w = w' := by
  go_enter Tryz.func121, Tryz.ntmps121
  go_wp2_with fail
  refine wp_loop_rounds 3 ?_
  rw [rounds_succ]
  go_wp2_with fail
  rw [rounds_succ]
  go_wp2_with fail
  rw [rounds_succ]
  go_wp2_with fail
  go_ret
  exact ⟨rfl, rfl⟩

/-- The errors that are put together: a row of the call's own, told in block p. -/
def JE (w0 w : World) (p n k : Nat) : Prop := Below w0.heap.size w0 w ∧ w0.heap.size < p ∧ w.heap[p]? = some (.cells #[.slice (some ⟨w0.heap.size, 0, none⟩) k n] 232 (0, 0)) ∧ ∃ xs, w.ownsRow w0.heap.size 28 1 (.slice (some ⟨w0.heap.size, 0, none⟩) k n) k xs
theorem JE.start {w0 w1 : World} {n : Nat} (hb : Below w0.heap.size w0 w1) (hs : w0.heap.size < w1.heap.size) (h : w1.ownsRow w0.heap.size 28 1 (.slice (some ⟨w0.heap.size, 0, none⟩) 0 n) 0 []) :
    JE w0 (w1.alloc (.cells #[.slice (some ⟨w0.heap.size, 0, none⟩) 0 n] 232)) w1.heap.size n 0 :=
  ⟨hb.alloc hb.size _, hs, heap_alloc_new w1 _, _, ownsRow_below h ((Below.refl _ _).alloc (Nat.le_refl _) _)⟩
theorem JE.below {w0 w : World} {p n k : Nat} (h : JE w0 w p n k) : Below w0.heap.size w0 w := h.1
theorem JE.load {w0 w : World} {p n k : Nat} (h : JE w0 w p n k) : w.cell? ⟨p, 0, none⟩ = some (.slice (some ⟨w0.heap.size, 0, none⟩) k n) := by rw [cell_of_row w p 0 _ _ _ h.2.2.1]; rfl
theorem JE.own {w0 w : World} {p n k : Nat} (h : JE w0 w p n k) (t : TypeId) (x : Value) : ∃ xs, (w.alloc (.cells #[.iface t x] 28)).ownsRow w0.heap.size 28 1 (.slice (some ⟨w0.heap.size, 0, none⟩) k n) k xs := by
  obtain ⟨_, _, _, xs, h⟩ := h
  exact ⟨xs, ownsRow_below h ((Below.refl _ _).alloc (Nat.le_refl _) _)⟩
/-- One more. -/
theorem JE.step {w0 w w2 : World} {p n k : Nat} {t : TypeId} {x : Value} {ys : List Value} (h : JE w0 w p n k) (ho : w2.ownsRow w0.heap.size 28 1 (.slice (some ⟨w0.heap.size, 0, none⟩) (k + 1) n) (k + 1) ys) (hg : (w.alloc (.cells #[.iface t x] 28)).grownBy w2 (some w0.heap.size)) :
    w2.cell? ⟨p, 0, none⟩ = some (.slice (some ⟨w0.heap.size, 0, none⟩) k n) ∧ w2.frozen? ⟨p, 0, none⟩ = false ∧ (∀ g j v, g < w0.heap.size → w.cell? ⟨g, j, none⟩ = some v → (w2.setCell ⟨p, 0, none⟩ (.slice (some ⟨w0.heap.size, 0, none⟩) (k + 1) n)).cell? ⟨g, j, none⟩ = some v) ∧
    JE w0 (w2.setCell ⟨p, 0, none⟩ (.slice (some ⟨w0.heap.size, 0, none⟩) (k + 1) n)) p n (k + 1) := by
  obtain ⟨hb, hp, hc, xs, _⟩ := h
  have hpl := lt_of_block hc
  have h2 : w2.heap[p]? = some (.cells #[.slice (some ⟨w0.heap.size, 0, none⟩) k n] 232 (0, 0)) := by
    rw [hg.block p (by simp; omega) (fun e => by injection e with e; omega), heap_alloc_old w _ hpl]; exact hc
  have hbb : Below w0.heap.size w0 (w2.setCell ⟨p, 0, none⟩ (.slice (some ⟨w0.heap.size, 0, none⟩) (k + 1) n)) :=
    ((hb.alloc hb.size _).grown hg (by simp; have := hb.size; omega) (fun j hj => by injection hj with hj; omega)).setCell (by show w0.heap.size ≤ p; omega) _
  refine ⟨by rw [cell_of_row w2 p 0 _ _ _ h2]; rfl, by simp [World.frozen?, h2], fun g j v hgl hv => ?_, hbb, hp, ?_, ys, ?_⟩
  · rw [hbb.cell (p := ⟨g, j, none⟩) hgl, ← hb.cell (p := ⟨g, j, none⟩) hgl]; exact hv
  · simp [World.setCell, Array.getElem?_modify, h2]
  · exact ownsRow_setCell_other ho (by show some w0.heap.size ≠ some p; intro e; injection e with e; omega) _

set_option maxHeartbeats 1600000 in
set_option maxRecDepth 100000 in
theorem join_fn (g c : Nat) (t1 : TypeId) (p1 : Value) (w : World) (hg : g < w.heap.size) (h0 : w.cell? ⟨g, 0, none⟩ = some (.iface t1 p1)) (h1 : w.cell? ⟨g, 1, none⟩ = some (.nilIface)) :
    Calls Tryz.prog 121 #[.slice (some ⟨g, 0, none⟩) 2 c] w fun e w' => ∃ p, e = .returned (.iface 230 p) ∧ Below w.heap.size w w' := by
  obtain ⟨i0, hi, hz0, hz1, hz2⟩ := info_parts info_err
  go_enter Tryz.func121, Tryz.ntmps121
  go_wp2_with fail
  refine wp_loop_rounds 3 ?_
  rw [rounds_succ]
  go_wp2_with fail
  rw [rounds_succ]
  go_wp2_with fail
  rw [rounds_succ]
  go_wp2_with (refine wpList_make_own _ rfl _ _ 185 rfl w.heap.size 28 i0 .nilIface 1 Tryz.underlying185 hi hz0 hz1 .i64 .i64 _ 1 rfl rfl rfl (by rw [hz2]; decide) (by decide) (Nat.le_refl _) ?_)
  intro w1 hown1 hg1
  have hb1 : Below w.heap.size w w1 := (Below.refl _ _).grown hg1 (Nat.le_refl _) (fun j hj => by cases hj)
  have hs1 : w.heap.size < w1.heap.size := (World.ownsRow.lt hown1 _ rfl).2
  have a0 := (hb1.cell (p := ⟨g, 0, none⟩) hg).trans h0
  have a1 := (hb1.cell (p := ⟨g, 1, none⟩) hg).trans h1
  have hg' : g < w1.heap.size := Nat.lt_of_lt_of_le hg hb1.size
  have hJ : JE w (w1.alloc (.cells #[.slice (some ⟨w.heap.size, 0, none⟩) 0 1] 232)) w1.heap.size 1 0 := JE.start hb1 hs1 hown1
  clear hg1 hown1 h0 h1 hb1
  go_wp2_with fail
  refine wp_loop_rounds 3 ?_
  have b0 := (World.cell?_alloc_lt w1 (.cells #[.slice (some ⟨w.heap.size, 0, none⟩) 0 1] 232) ⟨g, 0, none⟩ hg').trans a0
  have b1 := (World.cell?_alloc_lt w1 (.cells #[.slice (some ⟨w.heap.size, 0, none⟩) 0 1] 232) ⟨g, 1, none⟩ hg').trans a1
  clear a0 a1
  generalize w1.heap.size = p at *
  generalize w1.alloc (.cells #[.slice (some ⟨w.heap.size, 0, none⟩) 0 1] 232) = w2 at *
  rw [rounds_succ]
  have c0 := hJ.load
  obtain ⟨xs0, hown0⟩ := hJ.own t1 p1
  go_wp2_with (at_builtin; refine wpList_append_fits _ rfl _ _ 185 rfl w.heap.size 28 i0 1 Tryz.underlying185 hi hz1 w.heap.size 0 1 xs0 rfl hown0 ⟨w2.heap.size, 0, none⟩ 1 1 [.iface t1 p1] rfl rfl (by intro j u hj; match j, hj with | 0, hj => simp at hj; subst hj; simp [Addr.add]) (by intro u hu; simp at hu; subst hu; rfl) (by omega) ?_)
  intro wx0 hown0' hgr0
  obtain ⟨c0', f0, hk0, hJ'⟩ := hJ.step hown0' hgr0
  have b1 := hk0 g 1 _ hg b1
  clear c0 hown0 hown0' hgr0 b0 hk0 hJ
  go_wp2_with fail
  clear c0' f0
  have hJ := hJ'
  clear hJ'
  generalize wx0.setCell ⟨p, 0, none⟩ (.slice (some ⟨w.heap.size, 0, none⟩) (0 + 1) 1) = wz0 at *
  rw [rounds_succ]
  go_wp2_with fail
  rw [rounds_succ]
  go_wp2_with fail
  go_ret
  exact ⟨_, rfl, hJ.below⟩
set_option maxHeartbeats 1600000 in
set_option maxRecDepth 100000 in
theorem join_nf (g c : Nat) (t2 : TypeId) (p2 : Value) (w : World) (hg : g < w.heap.size) (h0 : w.cell? ⟨g, 0, none⟩ = some (.nilIface)) (h1 : w.cell? ⟨g, 1, none⟩ = some (.iface t2 p2)) :
    Calls Tryz.prog 121 #[.slice (some ⟨g, 0, none⟩) 2 c] w fun e w' => ∃ p, e = .returned (.iface 230 p) ∧ Below w.heap.size w w' := by
  obtain ⟨i0, hi, hz0, hz1, hz2⟩ := info_parts info_err
  go_enter Tryz.func121, Tryz.ntmps121
  go_wp2_with fail
  refine wp_loop_rounds 3 ?_
  rw [rounds_succ]
  go_wp2_with fail
  rw [rounds_succ]
  go_wp2_with fail
  rw [rounds_succ]
  go_wp2_with (refine wpList_make_own _ rfl _ _ 185 rfl w.heap.size 28 i0 .nilIface 1 Tryz.underlying185 hi hz0 hz1 .i64 .i64 _ 1 rfl rfl rfl (by rw [hz2]; decide) (by decide) (Nat.le_refl _) ?_)
  intro w1 hown1 hg1
  have hb1 : Below w.heap.size w w1 := (Below.refl _ _).grown hg1 (Nat.le_refl _) (fun j hj => by cases hj)
  have hs1 : w.heap.size < w1.heap.size := (World.ownsRow.lt hown1 _ rfl).2
  have a0 := (hb1.cell (p := ⟨g, 0, none⟩) hg).trans h0
  have a1 := (hb1.cell (p := ⟨g, 1, none⟩) hg).trans h1
  have hg' : g < w1.heap.size := Nat.lt_of_lt_of_le hg hb1.size
  have hJ : JE w (w1.alloc (.cells #[.slice (some ⟨w.heap.size, 0, none⟩) 0 1] 232)) w1.heap.size 1 0 := JE.start hb1 hs1 hown1
  clear hg1 hown1 h0 h1 hb1
  go_wp2_with fail
  refine wp_loop_rounds 3 ?_
  have b0 := (World.cell?_alloc_lt w1 (.cells #[.slice (some ⟨w.heap.size, 0, none⟩) 0 1] 232) ⟨g, 0, none⟩ hg').trans a0
  have b1 := (World.cell?_alloc_lt w1 (.cells #[.slice (some ⟨w.heap.size, 0, none⟩) 0 1] 232) ⟨g, 1, none⟩ hg').trans a1
  clear a0 a1
  generalize w1.heap.size = p at *
  generalize w1.alloc (.cells #[.slice (some ⟨w.heap.size, 0, none⟩) 0 1] 232) = w2 at *
  rw [rounds_succ]
  go_wp2_with fail
  rw [rounds_succ]
  have c1 := hJ.load
  obtain ⟨xs1, hown1⟩ := hJ.own t2 p2
  go_wp2_with (at_builtin; refine wpList_append_fits _ rfl _ _ 185 rfl w.heap.size 28 i0 1 Tryz.underlying185 hi hz1 w.heap.size 0 1 xs1 rfl hown1 ⟨w2.heap.size, 0, none⟩ 1 1 [.iface t2 p2] rfl rfl (by intro j u hj; match j, hj with | 0, hj => simp at hj; subst hj; simp [Addr.add]) (by intro u hu; simp at hu; subst hu; rfl) (by omega) ?_)
  intro wx1 hown1' hgr1
  obtain ⟨c1', f1, hk1, hJ'⟩ := hJ.step hown1' hgr1
  have b1 := hk1 g 1 _ hg b1
  clear c1 hown1 hown1' hgr1 b0 hk1 hJ
  go_wp2_with fail
  clear c1' f1
  have hJ := hJ'
  clear hJ'
  generalize wx1.setCell ⟨p, 0, none⟩ (.slice (some ⟨w.heap.size, 0, none⟩) (0 + 1) 1) = wz1 at *
  rw [rounds_succ]
  go_wp2_with fail
  go_ret
  exact ⟨_, rfl, hJ.below⟩
set_option maxHeartbeats 1600000 in
set_option maxRecDepth 100000 in
theorem join_ff (g c : Nat) (t1 : TypeId) (p1 : Value) (t2 : TypeId) (p2 : Value) (w : World) (hg : g < w.heap.size) (h0 : w.cell? ⟨g, 0, none⟩ = some (.iface t1 p1)) (h1 : w.cell? ⟨g, 1, none⟩ = some (.iface t2 p2)) :
    Calls Tryz.prog 121 #[.slice (some ⟨g, 0, none⟩) 2 c] w fun e w' => ∃ p, e = .returned (.iface 230 p) ∧ Below w.heap.size w w' := by
  obtain ⟨i0, hi, hz0, hz1, hz2⟩ := info_parts info_err
  go_enter Tryz.func121, Tryz.ntmps121
  go_wp2_with fail
  refine wp_loop_rounds 3 ?_
  rw [rounds_succ]
  go_wp2_with fail
  rw [rounds_succ]
  go_wp2_with fail
  rw [rounds_succ]
  go_wp2_with (refine wpList_make_own _ rfl _ _ 185 rfl w.heap.size 28 i0 .nilIface 1 Tryz.underlying185 hi hz0 hz1 .i64 .i64 _ 2 rfl rfl rfl (by rw [hz2]; decide) (by decide) (Nat.le_refl _) ?_)
  intro w1 hown1 hg1
  have hb1 : Below w.heap.size w w1 := (Below.refl _ _).grown hg1 (Nat.le_refl _) (fun j hj => by cases hj)
  have hs1 : w.heap.size < w1.heap.size := (World.ownsRow.lt hown1 _ rfl).2
  have a0 := (hb1.cell (p := ⟨g, 0, none⟩) hg).trans h0
  have a1 := (hb1.cell (p := ⟨g, 1, none⟩) hg).trans h1
  have hg' : g < w1.heap.size := Nat.lt_of_lt_of_le hg hb1.size
  have hJ : JE w (w1.alloc (.cells #[.slice (some ⟨w.heap.size, 0, none⟩) 0 2] 232)) w1.heap.size 2 0 := JE.start hb1 hs1 hown1
  clear hg1 hown1 h0 h1 hb1
  go_wp2_with fail
  refine wp_loop_rounds 3 ?_
  have b0 := (World.cell?_alloc_lt w1 (.cells #[.slice (some ⟨w.heap.size, 0, none⟩) 0 2] 232) ⟨g, 0, none⟩ hg').trans a0
  have b1 := (World.cell?_alloc_lt w1 (.cells #[.slice (some ⟨w.heap.size, 0, none⟩) 0 2] 232) ⟨g, 1, none⟩ hg').trans a1
  clear a0 a1
  generalize w1.heap.size = p at *
  generalize w1.alloc (.cells #[.slice (some ⟨w.heap.size, 0, none⟩) 0 2] 232) = w2 at *
  rw [rounds_succ]
  have c0 := hJ.load
  obtain ⟨xs0, hown0⟩ := hJ.own t1 p1
  go_wp2_with (at_builtin; refine wpList_append_fits _ rfl _ _ 185 rfl w.heap.size 28 i0 1 Tryz.underlying185 hi hz1 w.heap.size 0 2 xs0 rfl hown0 ⟨w2.heap.size, 0, none⟩ 1 1 [.iface t1 p1] rfl rfl (by intro j u hj; match j, hj with | 0, hj => simp at hj; subst hj; simp [Addr.add]) (by intro u hu; simp at hu; subst hu; rfl) (by omega) ?_)
  intro wx0 hown0' hgr0
  obtain ⟨c0', f0, hk0, hJ'⟩ := hJ.step hown0' hgr0
  have b1 := hk0 g 1 _ hg b1
  clear c0 hown0 hown0' hgr0 b0 hk0 hJ
  go_wp2_with fail
  clear c0' f0
  have hJ := hJ'
  clear hJ'
  generalize wx0.setCell ⟨p, 0, none⟩ (.slice (some ⟨w.heap.size, 0, none⟩) (0 + 1) 2) = wz0 at *
  rw [rounds_succ]
  have c1 := hJ.load
  obtain ⟨xs1, hown1⟩ := hJ.own t2 p2
  go_wp2_with (at_builtin; refine wpList_append_fits _ rfl _ _ 185 rfl w.heap.size 28 i0 1 Tryz.underlying185 hi hz1 w.heap.size 1 2 xs1 rfl hown1 ⟨wz0.heap.size, 0, none⟩ 1 1 [.iface t2 p2] rfl rfl (by intro j u hj; match j, hj with | 0, hj => simp at hj; subst hj; simp [Addr.add]) (by intro u hu; simp at hu; subst hu; rfl) (by omega) ?_)
  intro wx1 hown1' hgr1
  obtain ⟨c1', f1, hk1, hJ'⟩ := hJ.step hown1' hgr1
  have b1 := hk1 g 1 _ hg b1
  clear c1 hown1 hown1' hgr1 hk1 hJ
  go_wp2_with fail
  clear c1' f1
  have hJ := hJ'
  clear hJ'
  generalize wx1.setCell ⟨p, 0, none⟩ (.slice (some ⟨w.heap.size, 0, none⟩) (1 + 1) 2) = wz1 at *
  rw [rounds_succ]
  go_wp2_with fail
  go_ret
  exact ⟨_, rfl, hJ.below⟩
/-- Of two errors, one of which at least there is. -/
theorem errors_Join2 (g c : Nat) (x y : Value) (w : World) (hg : g < w.heap.size) (h0 : w.cell? ⟨g, 0, none⟩ = some x) (h1 : w.cell? ⟨g, 1, none⟩ = some y) (hx : x = .nilIface ∨ ∃ t p, x = .iface t p) (hy : y = .nilIface ∨ ∃ t p, y = .iface t p) :
    Calls Tryz.prog 121 #[.slice (some ⟨g, 0, none⟩) 2 c] w fun e w' => Below w.heap.size w w' ∧ ((x = .nilIface ∧ y = .nilIface ∧ e = .returned .nilIface) ∨ (¬ (x = .nilIface ∧ y = .nilIface) ∧ ∃ p, e = .returned (.iface 230 p))) := by
  rcases hx with rfl | ⟨t1, p1, rfl⟩
  · rcases hy with rfl | ⟨t2, p2, rfl⟩
    · exact (join_nils g c w h0 h1).mono fun e w' ⟨a, b⟩ => by subst b; exact ⟨Below.refl _ _, .inl ⟨rfl, rfl, a⟩⟩
    · exact (join_nf g c t2 p2 w hg h0 h1).mono fun e w' ⟨p, a, b⟩ => ⟨b, .inr ⟨(fun h => by cases h.2), p, a⟩⟩
  · rcases hy with rfl | ⟨t2, p2, rfl⟩
    · exact (join_fn g c t1 p1 w hg h0 h1).mono fun e w' ⟨p, a, b⟩ => ⟨b, .inr ⟨(fun h => by cases h.1), p, a⟩⟩
    · exact (join_ff g c t1 p1 t2 p2 w hg h0 h1).mono fun e w' ⟨p, a, b⟩ => ⟨b, .inr ⟨(fun h => by cases h.1), p, a⟩⟩
end Go.Proofs.YtakcfgmibijdnaaGreatDoor

/- strings.Cut and strings.Split at a mark of one byte. -/
namespace Go.Proofs.YtakcfgmibijdnaaGreatDoor
open Go.RowKit

theorem cut_full (s : ByteArray) (n : Nat) (h : n = s.size) : s.extract 0 n = s := by
  subst h
  apply ByteArray.ext
  apply Array.ext'
  rw [Lib.extract_data]
  have hl : s.data.toList.length = s.size := rfl
  rw [List.drop_zero, Nat.sub_zero, ← hl, List.take_length]
set_option maxHeartbeats 1600000 in
set_option maxRecDepth 100000 in
theorem lite_Cut1 (s : ByteArray) (c : UInt8) (w : World) (hs : s.size ≤ 16777216) : Calls Tryz.prog 125 #[.string s, .string ⟨#[c]⟩] w fun e w' => e = .returned (.tuple #[.string (cutN c s), .string (cutV c s), .bool (cutH c s)]) ∧ ∃ q, w.drewN q = w' := by
  have cI := Lib.hid (Tryz.stringslite_Index_one s c)
  have h1 : (⟨#[c]⟩ : ByteArray).size = 1 := rfl
  rcases cut_ways c s with ⟨hi, e1, e2, e3, _⟩ | ⟨i, hi, hlt, e1, e2, e3, _⟩
  · rw [e1, e2, e3]
    rw [hi] at cI
    clear hi e1 e2 e3
    go_enter Tryz.func125, Tryz.ntmps125
    go_wp2_with fail
    refine (cI.out _).mono ?_
    rintro e w1 ⟨rfl, rfl⟩
    go_wp2_with fail
    go_ret3
    exact ⟨rfl, 0, rfl⟩
  · rw [e1, e2, e3]
    rw [hi] at cI
    clear hi e1 e2 e3
    go_enter Tryz.func125, Tryz.ntmps125
    go_wp2_with fail
    refine (cI.out _).mono ?_
    rintro e w1 ⟨rfl, rfl⟩
    go_wp2_with fail
    go_quiet (fail)
    go_wp2_with fail
    go_ret3
    exact ⟨rfl, _, rfl⟩
theorem strings_Cut1 (s : ByteArray) (c : UInt8) (w : World) (hs : s.size ≤ 16777216) : Calls Tryz.prog 81 #[.string s, .string ⟨#[c]⟩] w fun e w' => e = .returned (.tuple #[.string (cutN c s), .string (cutV c s), .bool (cutH c s)]) ∧ ∃ q, w.drewN q = w' := by
  have cI := Lib.hid (fun W => lite_Cut1 s c W hs)
  generalize cutN c s = a at *
  generalize cutV c s = b at *
  generalize cutH c s = h at *
  go_enter Tryz.func81, Tryz.ntmps81
  go_wp2_with fail
  refine (cI.out _).mono ?_
  rintro e w1 ⟨rfl, q, rfl⟩
  go_wp2_with fail
  go_ret3
  exact ⟨rfl, _, rfl⟩

theorem split_pieces (c : UInt8) (s : ByteArray) : Lib.splitB ⟨#[c]⟩ 0 (Lib.countB s ⟨#[c]⟩) s = partsB c s := by
  have h := splitB_is c s
  unfold partsB
  rw [← h, List.map_map]
  conv => lhs; rw [← List.map_id (Lib.splitB _ _ _ _)]
  apply List.map_congr_left
  intro x _
  show x = ofL x.data.toList
  exact (ofL_list x).symm
theorem info_str : (Tryz.prog.info? 9).map (fun i => (i.zero, i.size, i.bytes)) = some (some (.string ByteArray.empty), 1, 16) := by kernel_rfl
theorem gen_Split1 (s : ByteArray) (c : UInt8) (w : World) (hs : s.size ≤ 16777216) : Calls Tryz.prog 119 #[.string s, .string ⟨#[c]⟩, .int .i64 0, .int .i64 (-1)] w fun e w' =>
    e = .returned (.slice (some ⟨w.heap.size, 0, none⟩) (partsB c s).length (partsB c s).length) ∧ w' = w.alloc (.cells ((partsB c s).map Value.string).toArray 9) := by
  have h1 : 1 ≤ (⟨#[c]⟩ : ByteArray).size := Nat.le_refl _
  have hle := Lib.countB_le ⟨#[c]⟩ h1 s.size s (Nat.le_refl _)
  have hlen := Lib.splitB_all ⟨#[c]⟩ h1 0 _ s rfl
  have hx : ∀ (x : ByteArray), Lib.indexB x ⟨#[c]⟩ = Lib.indexByte x.data.toList c := fun x => Lib.index_one x.data.toList c
  have hcount : Lib.countB s ⟨#[c]⟩ = Lib.countByte s.data.toList c := Lib.count_one c s.data.toList
  have h := Any.strings_genSplit_core Tryz.lays221 info_str s ⟨#[c]⟩ 0 (-1) (Lib.countB s ⟨#[c]⟩ + 1) w (by omega) h1 (Nat.zero_le _)
    (fun x cs _ => by rw [hx]; exact Tryz.strings_Index_one x c _) (by rw [hcount]; exact Tryz.strings_Count_one s c w) (by decide) (by decide) (by rw [if_pos (by decide)]; omega)
  rw [Nat.add_sub_cancel, hlen] at h
  have e2 : Lib.cellsOf (Lib.splitB ⟨#[c]⟩ 0 (Lib.countB s ⟨#[c]⟩) s) (Lib.countB s ⟨#[c]⟩ + 1) = ((Lib.splitB ⟨#[c]⟩ 0 (Lib.countB s ⟨#[c]⟩) s).map Value.string).toArray := by rw [← hlen]; exact Lib.cellsOf_full _
  rw [e2] at h
  rw [split_pieces] at h hlen
  rw [← hlen] at h
  exact h
theorem strings_Split1 (s : ByteArray) (c : UInt8) (w : World) (hs : s.size ≤ 16777216) : Calls Tryz.prog 71 #[.string s, .string ⟨#[c]⟩] w fun e w' =>
    e = .returned (.slice (some ⟨w.heap.size, 0, none⟩) (partsB c s).length (partsB c s).length) ∧ w.alloc (.cells ((partsB c s).map Value.string).toArray 9) = w' := by
  have cS := Lib.hid (fun W => gen_Split1 s c W hs)
  generalize partsB c s = ps at *
  go_enter Tryz.func71, Tryz.ntmps71
  go_wp2_with fail
  refine (cS.out _).mono ?_
  rintro e w1 ⟨rfl, rfl⟩
  go_wp2_with fail
  go_ret
  exact ⟨rfl, rfl⟩
theorem sum_mem : ∀ (l : List Nat) (x : Nat), x ∈ l → x ≤ l.sum
  | y :: l, x, h => by
    rcases List.mem_cons.1 h with rfl | h
    · rw [List.sum_cons]; omega
    · have := sum_mem l x h; rw [List.sum_cons]; omega
/-- The parts lie in a row. -/
theorem parts_cells (w : World) (ps : List ByteArray) : ∀ i p, ps[i]? = some p → (w.alloc (.cells (ps.map Value.string).toArray 9)).cell? ⟨w.heap.size, i, none⟩ = some (.string p) := by
  intro i p h
  rw [World.cell?_alloc_at _ _ _ _ rfl]
  simp [h]
theorem partsB_sizes (c : UInt8) (s : ByteArray) : ∀ p ∈ partsB c s, p.size ≤ s.size := by
  intro p hp
  unfold partsB at hp
  obtain ⟨l, hl, rfl⟩ := List.mem_map.1 hp
  have h := splitL_len c _ s.data.toList (Nat.le_refl _)
  have hs : s.data.toList.length = s.size := rfl
  have h2 : l.length ≤ ((splitL c s.data.toList).map List.length).sum := sum_mem _ _ (List.mem_map.2 ⟨l, hl, rfl⟩)
  have h3 : 1 ≤ (splitL c s.data.toList).length := List.length_pos_iff.2 (splitL_ne c _)
  rw [ofL_size]
  omega
theorem partsB_len (c : UInt8) (s : ByteArray) : (partsB c s).length ≤ s.size + 1 := by
  have h := splitL_len c _ s.data.toList (Nat.le_refl _)
  have hs : s.data.toList.length = s.size := rfl
  unfold partsB
  rw [List.length_map]
  omega
end Go.Proofs.YtakcfgmibijdnaaGreatDoor
