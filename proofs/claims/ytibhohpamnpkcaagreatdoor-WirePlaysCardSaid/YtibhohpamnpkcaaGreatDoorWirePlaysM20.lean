/- A script's calls that came in. -/
import Derived.Test.YtibhohpamnpkcaaGreatDoorWirePlaysM9
import Derived.Test.YtibhohpamnpkcaaGreatDoorWirePlaysM19
import Derived.Deep.Strs
import Derived.OpenShut

namespace Go.Proofs.YtibhohpamnpkcaaGreatDoor
open Go.RowKit Go.ChangeShapes Go.WideShapes

theorem cells_strO : Tryz.prog.cellsOf 9 = 1 := by kernel_rfl
theorem cells_boolO : Tryz.prog.cellsOf 4 = 1 := by kernel_rfl
theorem cells_intO : Tryz.prog.cellsOf 3 = 1 := by kernel_rfl
theorem cells_u64O : Tryz.prog.cellsOf 29 = 1 := by kernel_rfl
theorem cells_hostO : Tryz.prog.cellsOf 33 = 2 := by kernel_rfl
theorem cells_rqO : Tryz.prog.cellsOf 35 = 6 := by kernel_rfl
theorem cells_opO : Tryz.prog.cellsOf 37 = 8 := by kernel_rfl
set_option maxRecDepth 100000 in
theorem open_host {H : Type} {enc : TypeId × Value → H} {W : World} {base : Nat} {spare : Nat → Bool} {held : Bool} {fuel : Nat} {cs : List Value} {x : DataW H × List MemPlace} (h : DataW.trod enc Tryz.prog W base spare held fuel 33 cs = some x) :
    ∃ (k : Int) (t : ByteArray), cs = [.int .i64 k, .string t] ∧ t.size ≤ maxLen := by
  obtain ⟨xs, k, _, _, hl, hlen, hf⟩ := DataW.trod_struct Tryz.underlying33 h
  rw [cells_hostO] at hl
  match xs, hlen, cs, hl with
  | [y0, y1], _, [v0, v1], _ =>
    have g0 := hf 0 _ rfl
    have g1 := hf 1 _ rfl
    simp [cells_strO, cells_intO] at g0 g1
    obtain ⟨a, e0, _⟩ := DataW.trod_int Tryz.underlying3 g0
    obtain ⟨b, e1, _, z1⟩ := DataW.trod_string Tryz.underlying9 g1
    simp at e0 e1
    subst e0 e1
    exact ⟨a, b, rfl, z1⟩
set_option maxRecDepth 100000 in
theorem open_rq {H : Type} {enc : TypeId × Value → H} {W : World} {base : Nat} {spare : Nat → Bool} {held : Bool} {fuel : Nat} {cs : List Value} {x : DataW H × List MemPlace} (h : DataW.trod enc Tryz.prog W base spare held fuel 35 cs = some x) :
    ∃ r : Rq, cs = rqC r ∧ r.app.size ≤ maxLen ∧ r.text.size ≤ maxLen ∧ r.url.size ≤ maxLen := by
  obtain ⟨xs, k, _, _, hl, hlen, hf⟩ := DataW.trod_struct Tryz.underlying35 h
  rw [cells_rqO] at hl
  match xs, hlen, cs, hl with
  | [y0, y1, y2, y3, y4], _, [v0, v1, v2, v3, v4, v5], _ =>
    have g0 := hf 0 _ rfl
    have g1 := hf 1 _ rfl
    have g2 := hf 2 _ rfl
    have g3 := hf 3 _ rfl
    have g4 := hf 4 _ rfl
    simp [cells_strO, cells_u64O, cells_boolO, cells_hostO] at g0 g1 g2 g3 g4
    obtain ⟨a0, e0, _⟩ := DataW.trod_int Tryz.underlying29 g0
    obtain ⟨a1, e1, _, z1⟩ := DataW.trod_string Tryz.underlying9 g1
    obtain ⟨a2, e2, _⟩ := DataW.trod_bool Tryz.underlying4 g2
    obtain ⟨a3, a4, e3, z3⟩ := open_host g3
    obtain ⟨a5, e5, _, z5⟩ := DataW.trod_string Tryz.underlying9 g4
    simp at e0 e1 e2 e3 e5
    obtain ⟨rfl, rfl⟩ := e3
    subst e0 e1 e2 e5
    exact ⟨⟨a0, a1, a2, a3, a4, a5⟩, rfl, z1, z3, z5⟩
set_option maxRecDepth 100000 in
theorem open_op {H : Type} {enc : TypeId × Value → H} {W : World} {base : Nat} {spare : Nat → Bool} {held : Bool} {fuel : Nat} {cs : List Value} {x : DataW H × List MemPlace} (h : DataW.trod enc Tryz.prog W base spare held fuel 37 cs = some x) :
    ∃ p : OpW, cs = [.int .i64 p.kind, .int .u64 p.tick, .int .u64 p.r.id, .string p.r.app, .bool p.r.apple, .int .i64 p.r.kind, .string p.r.text, .string p.r.url] ∧ p.r.app.size ≤ maxLen ∧ p.r.text.size ≤ maxLen ∧ p.r.url.size ≤ maxLen := by
  obtain ⟨xs, k, _, _, hl, hlen, hf⟩ := DataW.trod_struct Tryz.underlying37 h
  rw [cells_opO] at hl
  match xs, hlen, cs, hl with
  | [y0, y1, y2], _, [v0, v1, v2, v3, v4, v5, v6, v7], _ =>
    have g0 := hf 0 _ rfl
    have g1 := hf 1 _ rfl
    have g2 := hf 2 _ rfl
    simp [cells_intO, cells_u64O, cells_rqO] at g0 g1 g2
    obtain ⟨s0, e0, _⟩ := DataW.trod_int Tryz.underlying3 g0
    obtain ⟨s1, e1, _⟩ := DataW.trod_int Tryz.underlying29 g1
    obtain ⟨r, e2, z⟩ := open_rq g2
    simp at e0 e1
    subst e0 e1
    unfold rqC at e2
    simp at e2
    obtain ⟨rfl, rfl, rfl, rfl, rfl, rfl⟩ := e2
    exact ⟨⟨s0, s1, r⟩, rfl, z⟩
def sizedO (l : List OpW) : Prop := ∀ x ∈ l, x.r.app.size ≤ maxLen ∧ x.r.text.size ≤ maxLen ∧ x.r.url.size ≤ maxLen
set_option maxRecDepth 100000 in
theorem open_ops {H : Type} {enc : TypeId × Value → H} {W : World} {base : Nat} {spare : Nat → Bool} {held : Bool} {fuel : Nat} {cs : List Value} {x : DataW H × List MemPlace} (h : DataW.trod enc Tryz.prog W base spare held fuel 22 cs = some x) :
    ∃ (a : Option Addr) (l : List OpW) (cap : Nat), cs = [.slice a l.length cap] ∧ l.length ≤ maxLen ∧ OpsSl W a l ∧ sizedO l := by
  rcases Go.Deep.open_slice Tryz.underlying22 h with ⟨rfl, _⟩ | ⟨a, len, cap, m, n, D, Pl, rfl, hb, hl, hm, hmm, _, hx⟩
  · exact ⟨none, [], 0, rfl, Nat.zero_le _, fun i p h => by simp at h, fun p h => by cases h⟩
  have hlm : len ≤ m := by rw [hmm]; split <;> omega
  by_cases hlen0 : len = 0
  · subst hlen0
    exact ⟨some a, [], cap, rfl, Nat.zero_le _, fun i p h => by simp at h, fun p h => by cases h⟩
  obtain ⟨hspot, hblk⟩ : a = ⟨a.block, a.off, none⟩ ∧ a.block < W.heap.size := by
    obtain ⟨cs', h1, h2⟩ := hx 0 (by omega)
    rw [cells_opO] at h1
    obtain ⟨_, hlen, hcell⟩ := World.cells?_some h1
    have c0 := hcell 0 (by omega)
    rw [Go.Deep.add_add, Nat.zero_mul, Nat.add_zero] at c0
    match cs', hlen with
    | [v0, v1, v2, v3, v4, v5, v6, v7], _ => exact spot_none (c0.trans rfl)
  obtain ⟨ab, ao, asp⟩ := a
  obtain rfl : asp = none := by injection hspot
  dsimp only at hblk
  have each : ∀ i, i < len → ∃ p : OpW, (W.cell? ⟨ab, ao + i * 8, none⟩ = some (.int .i64 p.kind) ∧ W.cell? ⟨ab, ao + i * 8 + 1, none⟩ = some (.int .u64 p.tick) ∧ W.cell? ⟨ab, ao + i * 8 + 2, none⟩ = some (.int .u64 p.r.id) ∧ W.cell? ⟨ab, ao + i * 8 + 3, none⟩ = some (.string p.r.app) ∧
      W.cell? ⟨ab, ao + i * 8 + 4, none⟩ = some (.bool p.r.apple) ∧ W.cell? ⟨ab, ao + i * 8 + 5, none⟩ = some (.int .i64 p.r.kind) ∧ W.cell? ⟨ab, ao + i * 8 + 6, none⟩ = some (.string p.r.text) ∧ W.cell? ⟨ab, ao + i * 8 + 7, none⟩ = some (.string p.r.url)) ∧ p.r.app.size ≤ maxLen ∧ p.r.text.size ≤ maxLen ∧ p.r.url.size ≤ maxLen := by
    intro i hi
    obtain ⟨cs', h1, h2⟩ := hx i (by omega)
    rw [cells_opO] at h1
    obtain ⟨_, hlen, hcell⟩ := World.cells?_some h1
    obtain ⟨p, rfl, z⟩ := open_op h2
    have e : ∀ j, j < 8 → W.cell? ⟨ab, ao + i * 8 + j, none⟩ = [Value.int .i64 p.kind, .int .u64 p.tick, .int .u64 p.r.id, .string p.r.app, .bool p.r.apple, .int .i64 p.r.kind, .string p.r.text, .string p.r.url][j]? := fun j hj => by
      have := hcell j hj
      rw [Go.Deep.add_add, Addr.add_lit, ← Nat.add_assoc] at this
      exact this
    exact ⟨p, ⟨e 0 (by omega), e 1 (by omega), e 2 (by omega), e 3 (by omega), e 4 (by omega), e 5 (by omega), e 6 (by omega), e 7 (by omega)⟩, z⟩
  haveI : Inhabited OpW := ⟨⟨0, 0, ⟨0, ByteArray.empty, false, 0, ByteArray.empty, ByteArray.empty⟩⟩⟩
  obtain ⟨f, hf⟩ := Go.Deep.choose_lt each
  have hlen : ((List.range len).map f).length = len := by simp
  refine ⟨some ⟨ab, ao, none⟩, (List.range len).map f, cap, by rw [hlen], by rw [hlen]; omega, fun i p hp => ?_, fun p hp => ?_⟩
  · have hi : i < len := by have := (List.getElem?_eq_some_iff.1 hp).1; simpa using this
    have : p = f i := by simpa [hi] using hp.symm
    subst this
    exact ⟨ab, ao, rfl, hblk, (hf i hi).1⟩
  · obtain ⟨i, hi, rfl⟩ := List.mem_map.1 hp
    exact (hf i (by simpa using hi)).2
end Go.Proofs.YtibhohpamnpkcaaGreatDoor
