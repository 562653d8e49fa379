/- strings.Builder beside a row of the call's own that is kept: WriteByte, Len, String. -/
import Derived.Test.YtkeankhacjgdhaaBuilder
import Derived.Maps.AppendAt
namespace Go.Proofs.Ytkeankhacjgdhaa
open Go.RowKit

/-- A builder in block b, whose bytes lie in a row of the call's own, from B on, that isn't block G. -/
def BldG (w : World) (B b G : Nat) (l : List UInt8) : Prop :=
  b < B ∧ G ≠ b ∧ G < w.heap.size ∧ ∃ p v, (p = .pointer none ∨ p = .pointer (some ⟨b, 0, none⟩)) ∧ w.heap[b]? = some (.cells #[p, v] 40 (0, 0)) ∧ w.ownsRow B 5 1 v l.length (Lib.byteCells l) ∧ v.ownBlock ≠ some G
def ButG (B b G : Nat) (w w' : World) : Prop := ButB B b w w' ∧ w'.heap[G]? = w.heap[G]?
theorem ButG.refl (B b G : Nat) (w : World) : ButG B b G w w := ⟨ButB.refl _ _ _, rfl⟩
theorem ButG.trans {B b G : Nat} {w w1 w2 : World} (h : ButG B b G w w1) (k : ButG B b G w1 w2) : ButG B b G w w2 := ⟨h.1.trans k.1, k.2.trans h.2⟩
theorem Bld.guard {w w' : World} {B b G : Nat} {l : List UInt8} (h : Bld w B b l) (hb : Below w.heap.size w w') (h1 : w.heap.size ≤ G) (h2 : G < w'.heap.size) : BldG w' B b G l := by
  have hlt := h.lt
  obtain ⟨h0, p, v, hp, h3, h4⟩ := h
  refine ⟨h0, by omega, h2, p, v, hp, (hb.block b hlt).trans h3, ownsRow_below h4 hb, fun e => ?_⟩
  have := (h4.lt G e).2
  omega
theorem BldG.bld {w : World} {B b G : Nat} {l : List UInt8} (h : BldG w B b G l) : Bld w B b l := by
  obtain ⟨h0, _, _, p, v, hp, h3, h4, _⟩ := h
  exact ⟨h0, p, v, hp, h3, h4⟩
theorem BldG.grown {w w' : World} {B b G : Nat} {l : List UInt8} (h : BldG w B b G l) (hg : w.grownBy w' (some G)) : BldG w' B b G l := by
  obtain ⟨h0, h1, h2, p, v, hp, h3, h4, h5⟩ := h
  exact ⟨h0, h1, Nat.lt_of_lt_of_le h2 hg.size, p, v, hp, (hg.block b (lt_of_block h3) (fun e => h1 (by injection e with e; exact e.symm))).trans h3, h4.kept hg (.inr h5), h5⟩
theorem BldG.below {w w' : World} {B b G : Nat} {l : List UInt8} (h : BldG w B b G l) (hb : Below w.heap.size w w') : BldG w' B b G l := h.grown (below_grownBy hb _)
set_option maxHeartbeats 1000000 in
theorem bldG_check (B b G : Nat) (l : List UInt8) (w : World) (h : BldG w B b G l) :
    Calls Try.prog 26 #[.pointer (some ⟨b, 0, none⟩)] w fun e w' => e = .returned (.tuple #[]) ∧ ButG B b G w w' ∧ ∃ v, w'.heap[b]? = some (.cells #[.pointer (some ⟨b, 0, none⟩), v] 40 (0, 0)) ∧ w'.ownsRow B 5 1 v l.length (Lib.byteCells l) ∧ v.ownBlock ≠ some G := by
  obtain ⟨h1, hG, _, p, v, h2, h3, h4, h5⟩ := h
  have c0 : w.cell? ⟨b, 0, none⟩ = some p := by rw [cell_of_row w b 0 _ _ _ h3]; rfl
  rcases h2 with rfl | rfl
  · refine (bld_check_fresh b w c0 (by simp [World.shape?, h3]) (Lib.frozen_of_heap h3 0)).mono ?_
    rintro e w' ⟨rfl, rfl⟩
    refine ⟨rfl, ⟨(ButB.refl B b w).setCell 0 _, Below.heap_setCell _ _ _ _ hG⟩, v, by simp [World.setCell, Array.getElem?_modify, h3], ?_, h5⟩
    refine h4.kept (row := some b) ⟨rfl, rfl, rfl, by simp [World.setCell], fun k _ hk => Below.heap_setCell _ _ _ _ (fun e => hk (by simp [e]))⟩ (.inr fun e => ?_)
    have := (h4.lt b e).1
    omega
  · refine (bld_check_used b w c0).mono ?_
    rintro e w' ⟨rfl, rfl⟩
    exact ⟨rfl, ButG.refl _ _ _ _, v, h3, h4, h5⟩
theorem bldG_put {w : World} {B b G : Nat} {p v : Value} {n : Nat} {xs : List Value} {l : List UInt8} (hb : b < B) (hG : G ≠ b) (hGw : G < w.heap.size) (hp : p = .pointer (some ⟨b, 0, none⟩)) {u : Value} (h3 : w.heap[b]? = some (.cells #[p, u] 40 (0, 0))) (h4 : w.ownsRow B 5 1 v n xs) (hn : n = l.length) (hx : xs = Lib.byteCells l) (h5 : v.ownBlock ≠ some G) :
    BldG (w.setCell ⟨b, 1, none⟩ v) B b G l := by
  obtain ⟨_, p', v', hp', k3, k4⟩ := bld_put hb hp h3 h4 hn hx
  have e : (w.setCell ⟨b, 1, none⟩ v).heap[b]? = some (.cells #[p, v] 40 (0, 0)) := by simp [World.setCell, Array.getElem?_modify, h3]
  rw [e] at k3
  injection k3 with k3
  injection k3 with k3
  injection k3 with k3
  injection k3 with e1 k3
  injection k3 with e2 _
  subst e1 e2
  exact ⟨hb, hG, by simpa [World.setCell] using hGw, p, v, hp', e, k4, h5⟩
set_option maxHeartbeats 2000000 in
set_option maxRecDepth 100000 in
theorem bldG_WriteByte (B b G : Nat) (l : List UInt8) (c : UInt8) (w : World) (h : BldG w B b G l) (hlen : l.length ≤ 1073741824) (hBw : B ≤ w.heap.size) :
    Calls Try.prog 14 #[.pointer (some ⟨b, 0, none⟩), .int .u8 (c.toNat : Int)] w fun e w' => e = .returned .nilIface ∧ BldG w' B b G (l ++ [c]) ∧ ButG B b G w w' := by
  obtain ⟨i0, hi, hz0, hz1, hz2⟩ := info_parts bld_byte
  have hbB := h.1
  have hG := h.2.1
  have hGw := h.2.2.1
  go_enter Try.func14, Try.ntmps14
  go_wp2_with fail
  refine (bldG_check B b G l _ h).mono ?_
  rintro e w1 ⟨rfl, hb1, v, hbk, hown, hvG⟩
  have c0 : w1.cell? ⟨b, 0, none⟩ = some (.pointer (some ⟨b, 0, none⟩)) := by rw [Lib.cell_of_heap hbk]; rfl
  have c1 : w1.cell? ⟨b, 1, none⟩ = some v := by rw [Lib.cell_of_heap hbk]; rfl
  have hsz1 := hb1.1.size
  go_wp2_with (at_builtin; refine wpList_append_own_at _ rfl _ _ 25 rfl B 5 i0 (.int .u8 0) 1 1 Try.underlying25 hi hz0 hz1 hz2 rfl (by decide) _ _ _ rfl (hown.alloc _) ⟨w1.heap.size, 0, none⟩ 1 1 [.int .u8 (c.toNat : Int)] rfl rfl ?c1 ?c2 ?c3 ?c4 ?c5 ?_)
  case c1 =>
    intro j u hj
    match j, hj with
    | 0, hj => simp at hj; subst hj; simp [Addr.add]
  case c2 => intro u hu; simp at hu; subst hu; rfl
  case c3 => unfold maxLen; omega
  case c4 => omega
  case c5 => simp; omega
  intro v' w2 hown' hgrow _ hat
  have hlt : b < w1.heap.size := lt_of_block hbk
  have hne : v.ownBlock ≠ some b := fun e => by have := (hown.lt b e).1; omega
  have hv' : v'.ownBlock ≠ some G := fun e => by
    rcases hat with hat | hat
    · exact hvG (hat ▸ e)
    · rw [hat] at e; injection e with e; first | omega | (simp at e; omega)
  have hG2 : w2.heap[G]? = w1.heap[G]? := by
    rw [hgrow.block G (by simp; omega) (fun e => hvG e.symm), Lib.alloc_old w1 _ G (by omega)]
  have hb2 : w2.heap[b]? = some (.cells #[.pointer (some ⟨b, 0, none⟩), v] 40 (0, 0)) := by
    rw [hgrow.block b (by simp; omega) (fun e => hne e.symm), Lib.alloc_old w1 _ b hlt]
    exact hbk
  have hs2 := hgrow.size
  have d0 : w2.cell? ⟨b, 0, none⟩ = some (.pointer (some ⟨b, 0, none⟩)) := by rw [Lib.cell_of_heap hb2]; rfl
  have d1 : w2.cell? ⟨b, 1, none⟩ = some v := by rw [Lib.cell_of_heap hb2]; rfl
  have f1 : w2.frozen? ⟨b, 1, none⟩ = false := Lib.frozen_of_heap hb2 1
  obtain ⟨g, cap, rfl⟩ : ∃ g cap, v' = .slice (some ⟨g, 0, none⟩) (l.length + 1) cap := by
    rcases hown'.2 with ⟨_, h0⟩ | ⟨g, cap, cur, hv, _⟩
    · omega
    · exact ⟨g, cap, hv⟩
  have hb12 : Below B w1 w2 := ((Below.refl B w1).alloc (by omega) _).grown hgrow (by simp; omega) (fun k hk => (hown.lt k hk).1)
  have hbe := ((hb1.1.trans (ButB.of_below hb12)).setCell 1 (.slice (some ⟨g, 0, none⟩) (l.length + 1) cap))
  have hgE : (w2.setCell ⟨b, 1, none⟩ (.slice (some ⟨g, 0, none⟩) (l.length + 1) cap)).heap[G]? = w.heap[G]? := (Below.heap_setCell _ _ _ _ hG).trans (hG2.trans hb1.2)
  have hput := bldG_put (l := l ++ [c]) hbB hG (by simp at hs2; omega) rfl hb2 hown' (by simp) (by unfold Lib.byteCells; simp) hv'
  clear hb12 hown' hown hgrow hb1 hG2 hv' hvG hs2 hat
  go_wp2
  go_ret
  exact ⟨rfl, hput, hbe, hgE⟩
set_option maxHeartbeats 1000000 in
theorem bld_Len (B b : Nat) (l : List UInt8) (w : World) (h : Bld w B b l) :
    Calls Try.prog 15 #[.pointer (some ⟨b, 0, none⟩)] w fun e w' => e = .returned (.int .i64 (l.length : Int)) ∧ w' = w := by
  obtain ⟨_, p, v, _, h3, h4⟩ := h
  have c1 : w.cell? ⟨b, 1, none⟩ = some v := by rw [Lib.cell_of_heap h3]; rfl
  obtain ⟨a, c, rfl⟩ : ∃ a c, v = .slice a l.length c := by
    rcases h4.2 with ⟨e0, e1⟩ | ⟨g, cap, cur, hv, _⟩
    · exact ⟨none, 0, by rw [e0, e1]⟩
    · exact ⟨_, _, hv⟩
  clear h3 h4
  go_enter Try.func15, Try.ntmps15
  go_wp2_with fail
  go_ret
  exact ⟨rfl, rfl⟩
end Go.Proofs.Ytkeankhacjgdhaa
