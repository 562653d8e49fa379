/- The walk of WireStatus. -/
import Derived.Test.YtkgifenidmbdkaaDoorWireOnceM13
import Derived.Test.YtkgifenidmbdkaaDoorWireOnceM12
import Derived.Laws.Tables
import Derived.Test.YtkgifenidmbdkaaDoorWireOnceM1
import Derived.Test.YtkgifenidmbdkaaDoorWireOnceM5
import Derived.Deep.Strs
import Derived.OpenShut

namespace Go.Proofs.YtkgifenidmbdkaaDoor
open Go.RowKit

theorem size_resp : (Tryd.prog.info? 46).map (·.size) = some 7 := by kernel_rfl
def RespAt (w : World) (g : Nat) (id st : Int) (rd tm : Bool) (ty ca : ByteArray) (pa : Option Addr) (n c : Nat) : Prop := w.heap[g]? = some (.cells #[.int .u64 id, .int .i64 st, .bool rd, .bool tm, .string ty, .string ca, .slice pa n c] 46 (0, 0))
section
variable {w w' : World} {g : Nat} {id st : Int} {rd tm : Bool} {ty ca : ByteArray} {pa : Option Addr} {n c : Nat}
theorem RespAt.new : RespAt (w.alloc (.cells #[.int .u64 id, .int .i64 st, .bool rd, .bool tm, .string ty, .string ca, .slice pa n c] 46)) w.heap.size id st rd tm ty ca pa n c := heap_alloc_new w _
theorem RespAt.lt (h : RespAt w g id st rd tm ty ca pa n c) : g < w.heap.size := lt_of_block h
theorem RespAt.below (h : RespAt w g id st rd tm ty ca pa n c) (hb : Below w.heap.size w w') : RespAt w' g id st rd tm ty ca pa n c := (hb.block g h.lt).trans h
theorem RespAt.setType (h : RespAt w g id st rd tm ty ca pa n c) (v' : ByteArray) : RespAt (w.setCell ⟨g, 4, none⟩ (.string v')) g id st rd tm v' ca pa n c := by
  unfold RespAt at h ⊢; simp [World.setCell, Array.getElem?_modify, h]
theorem RespAt.frozen (h : RespAt w g id st rd tm ty ca pa n c) (j : Nat) : w.frozen? ⟨g, j, none⟩ = false := by
  unfold RespAt at h; simp [World.frozen?, h]
theorem RespAt.load (h : RespAt w g id st rd tm ty ca pa n c) : (loadVar 46 ⟨g, 0, none⟩).run Tryd.prog w = .ok (.agg #[.int .u64 id, .int .i64 st, .bool rd, .bool tm, .string ty, .string ca, .slice pa n c]) w :=
  run_loadVar_row w g _ _ _ _ _ h Tryd.underlying46 rfl (by rw [size_resp]; rfl)
theorem RespAt.cell (h : RespAt w g id st rd tm ty ca pa n c) (j : Nat) : w.cell? ⟨g, j, none⟩ = (#[.int .u64 id, .int .i64 st, .bool rd, .bool tm, .string ty, .string ca, .slice pa n c] : Array Value)[j]? := cell_of_row w g j _ _ _ h
end
theorem judge_ne {apple : Bool} {st : Int} {rd tm : Bool} {ty : ByteArray} {n : Nat} (h : st ≠ 200) : judgeN apple st rd tm ty n ≠ 0 := by
  unfold judgeN
  split
  · decide
  · split
    · decide
    · first | decide | (rw [if_pos h]; decide)
def jsonT : ByteArray := ⟨#[97, 112, 112, 108, 105, 99, 97, 116, 105, 111, 110, 47, 106, 115, 111, 110, 59, 32, 99, 104, 97, 114, 115, 101, 116, 61, 117, 116, 102, 45, 56]⟩
theorem j_json (apple : Bool) : judgeN apple 200 false false jsonT 0 = 0 := by cases apple <;> decide +kernel
theorem j_none : judgeN true 200 false false ⟨#[]⟩ 0 = 0 := by decide +kernel
theorem j_none' : judgeN false 200 false false ⟨#[]⟩ 0 = 42 := by decide +kernel
theorem j_sp1 : judgeN true 200 false false ⟨#[116, 101, 120, 116, 47, 104, 116, 109, 108]⟩ 0 = 42 := by decide +kernel
theorem j_sp2 : judgeN false 404 false false ⟨#[]⟩ 0 = 40 := by decide +kernel
theorem judge_yes {apple : Bool} {id st : Int} {rd tm : Bool} {ty ca : ByteArray} {pa : Option Addr} {n c : Nat} (w : World) (h : judgeN apple st rd tm ty n = 0) :
    Calls Tryd.prog 11 #[.bool apple, .agg #[.int .u64 id, .int .i64 st, .bool rd, .bool tm, .string ty, .string ca, .slice pa n c]] w fun e w' => e = .returned .nilIface ∧ Below w.heap.size w w' :=
  (wire_Judge apple id st rd tm ty ca pa n c w).mono fun e w' ⟨hb, v, he, hv⟩ => by
    rcases hv with ⟨_, rfl⟩ | ⟨h1, _⟩
    · exact ⟨he, hb⟩
    · exact absurd h h1
theorem judge_no {apple : Bool} {id st : Int} {rd tm : Bool} {ty ca : ByteArray} {pa : Option Addr} {n c : Nat} (w : World) (k : Nat) (h : judgeN apple st rd tm ty n = k) (hk : k ≠ 0) :
    Calls Tryd.prog 11 #[.bool apple, .agg #[.int .u64 id, .int .i64 st, .bool rd, .bool tm, .string ty, .string ca, .slice pa n c]] w fun e w' => Below w.heap.size w w' ∧ ∃ p, e = .returned (.iface 61 p) ∧ IsErr w' (.iface 61 p) k 0 :=
  (wire_Judge apple id st rd tm ty ca pa n c w).mono fun e w' ⟨hb, v, he, hv⟩ => by
    rw [h] at hv
    rcases hv with ⟨h1, _⟩ | ⟨h1, i, hv⟩
    · exact absurd h1 hk
    · obtain ⟨p, rfl⟩ := hv.ne_nil
      exact ⟨hb, p, he, .inr ⟨h1, i, hv⟩⟩
set_option maxHeartbeats 1600000 in
set_option maxRecDepth 100000 in
theorem speaks26 (w : World) (hg : Handle w) : Calls Tryd.prog 4 #[] w fun e w' => e = .returned (.bool true) ∧ Below w.heap.size w w' := by
  have C1 := Lib.hid (fun W => @judge_no true 0 200 false false ⟨#[116, 101, 120, 116, 47, 104, 116, 109, 108]⟩ ⟨#[]⟩ none 0 0 W 42 j_sp1 (by decide))
  have C2 := Lib.hid (fun W => @judge_no false 0 404 false false ⟨#[]⟩ ⟨#[]⟩ none 0 0 W 40 j_sp2 (by decide))
  go_enter Tryd.func4, Tryd.ntmps4
  go_wp2_with fail
  refine (C1.out _).mono ?_
  rintro e w1 ⟨hb1, p, rfl, hp⟩
  go_wp2_with fail
  refine (C2.out _).mono ?_
  rintro e w2 ⟨hb2, q, rfl, hq⟩
  have hb12 := Bt hb1 hb2
  have K1 := Lib.hid (fault_Kind _ _ _ w2 (hg.below hb12) (IsErr.below hp hb2))
  clear hp
  go_wp2_with fail
  refine K1.out.mono ?_
  rintro e w3 ⟨rfl, hb3⟩
  have hb13 := Bt hb12 hb3
  have K2 := Lib.hid (fault_Kind _ _ _ w3 (hg.below hb13) (IsErr.below hq hb3))
  clear hq
  go_wp2_with fail
  refine K2.out.mono ?_
  rintro e w4 ⟨rfl, hb4⟩
  have hb14 := Bt hb13 hb4
  go_wp2_with fail
  go_ret
  exact ⟨rfl, hb14⟩
end Go.Proofs.YtkgifenidmbdkaaDoor

/- Rows of numbers that came in: rows of bytes, rows of ints. -/
namespace Go.Proofs.YtkgifenidmbdkaaDoor
open Go.RowKit

/-- A slice of numbers that came in: nil, or a row of so many cells, each fitting its kind. -/
def IsRow (k : IntKind) (w : World) (a : Option Addr) (len cap : Nat) (zs : List Int) : Prop :=
  (a = none ∧ len = 0 ∧ cap = 0 ∧ zs = []) ∨
  ∃ x, a = some x ∧ len ≤ cap ∧ cap ≤ maxLen ∧ zs.length = cap ∧ (∀ i, i < zs.length → w.cell? (x.add i) = some (.int k (zs.getD i 0))) ∧ ∀ n ∈ zs, (Lit.int k n).wf = true

theorem spot_none {w : World} {x : Addr} {v : Value} (h : w.cell? (x.add 0) = some v) : x = ⟨x.block, x.off, none⟩ ∧ x.block < w.heap.size := by
  have hb := World.block_lt_of_cell? w _ h
  cases x with
  | mk b o s =>
    cases s with
    | none => exact ⟨rfl, hb⟩
    | some q =>
      simp only [World.cell?, Addr.add] at h
      split at h <;> simp at h

theorem IsRow.bytes {w : World} {a : Option Addr} {len cap : Nat} {zs : List Int} (h : IsRow .u8 w a len cap zs) : ∃ s : ByteArray, s.size = len ∧ BytesSl w (.slice a len cap) s := by
  rcases h with ⟨rfl, rfl, rfl, rfl⟩ | ⟨x, rfl, hl, hm, hz, hcell, hwz⟩
  · exact ⟨ByteArray.empty, rfl, .inl ⟨rfl, none, 0, rfl⟩⟩
  · have hsz : (⟨((zs.take len).map fun n => UInt8.ofNat n.toNat).toArray⟩ : ByteArray).size = len := by
      show (((zs.take len).map fun n => UInt8.ofNat n.toNat).toArray).size = _
      simp; omega
    refine ⟨⟨((zs.take len).map fun n => UInt8.ofNat n.toNat).toArray⟩, hsz, ?_⟩
    by_cases h0 : len = 0
    · exact .inl ⟨hsz.trans h0, some x, cap, by rw [h0]⟩
    · obtain ⟨hx, hb⟩ := spot_none (hcell 0 (by omega))
      refine .inr ⟨x.block, x.off, cap, by rw [hsz, ← hx], by rw [hsz]; exact hl, hm, hb, fun j hj => ?_⟩
      rw [hsz] at hj
      have hc := hcell j (by omega)
      have hadd : x.add j = ⟨x.block, x.off + j, none⟩ := by cases x; cases hx; simp [Addr.add]
      rw [hadd] at hc
      rw [hc]
      have hjz : j < zs.length := by omega
      have hw := hwz zs[j] (List.getElem_mem _)
      simp [Lit.wf, IntKind.min, IntKind.max, IntKind.signed, IntKind.bits] at hw
      simp only [byteAt, List.getD, List.getElem?_map, List.getElem?_take, if_pos hj, List.getElem?_eq_getElem hjz, Option.map_some, Option.getD_some]
      rw [UInt8.toNat_ofNat_of_lt' (by have : zs[j].toNat < 256 := by omega
                                       exact this), Int.toNat_of_nonneg hw.1]

/-- A slice of ints that reads as these numbers. -/
def IntsSl (w : World) (v : Value) (l : List Int) : Prop :=
  (l = [] ∧ ∃ a cap, v = .slice a 0 cap) ∨ ∃ b off cap, v = .slice (some ⟨b, off, none⟩) l.length cap ∧ l.length ≤ cap ∧ cap ≤ maxLen ∧ b < w.heap.size ∧ ∀ j, j < l.length → w.cell? ⟨b, off + j, none⟩ = some (.int .i64 (l.getD j 0))
theorem IntsSl.below {w w' : World} {v : Value} {l : List Int} (h : IntsSl w v l) (hb : Below w.heap.size w w') : IntsSl w' v l := by
  rcases h with h | ⟨b, off, cap, e, h1, h2, h3, h4⟩
  · exact .inl h
  · exact .inr ⟨b, off, cap, e, h1, h2, Nat.lt_of_lt_of_le h3 hb.size, fun j hj => (hb.cell (p := ⟨b, off + j, none⟩) h3).trans (h4 j hj)⟩
theorem IsRow.ints {w : World} {a : Option Addr} {len cap : Nat} {zs : List Int} (h : IsRow .i64 w a len cap zs) : ∃ l : List Int, l.length = len ∧ IntsSl w (.slice a len cap) l ∧ ∀ n ∈ l, (Lit.int .i64 n).wf = true := by
  rcases h with ⟨rfl, rfl, rfl, rfl⟩ | ⟨x, rfl, hl, hm, hz, hcell, hwz⟩
  · exact ⟨[], rfl, .inl ⟨rfl, none, 0, rfl⟩, fun _ h => by cases h⟩
  · have hlen : (zs.take len).length = len := by simp; omega
    refine ⟨zs.take len, hlen, ?_, fun n hn => hwz n (List.mem_of_mem_take hn)⟩
    by_cases h0 : len = 0
    · exact .inl ⟨by rw [h0]; rfl, some x, cap, by rw [h0]⟩
    · obtain ⟨hx, hb⟩ := spot_none (hcell 0 (by omega))
      refine .inr ⟨x.block, x.off, cap, by rw [hlen, ← hx], by rw [hlen]; exact hl, hm, hb, fun j hj => ?_⟩
      rw [hlen] at hj
      have hc := hcell j (by omega)
      have hadd : x.add j = ⟨x.block, x.off + j, none⟩ := by cases x; cases hx; simp [Addr.add]
      rw [hadd] at hc
      rw [hc]
      simp [List.getD, hj]
end Go.Proofs.YtkgifenidmbdkaaDoor

/- A script's calls that came in. -/
namespace Go.Proofs.YtkgifenidmbdkaaDoor
open Go.RowKit Go.ChangeShapes Go.WideShapes

theorem cells_strO : Tryd.prog.cellsOf 9 = 1 := by kernel_rfl
theorem cells_boolO : Tryd.prog.cellsOf 4 = 1 := by kernel_rfl
theorem cells_intO : Tryd.prog.cellsOf 3 = 1 := by kernel_rfl
theorem cells_u64O : Tryd.prog.cellsOf 26 = 1 := by kernel_rfl
theorem cells_hostO : Tryd.prog.cellsOf 28 = 2 := by kernel_rfl
theorem cells_rqO : Tryd.prog.cellsOf 30 = 6 := by kernel_rfl
theorem cells_opO : Tryd.prog.cellsOf 32 = 8 := by kernel_rfl
set_option maxRecDepth 100000 in
theorem open_host {H : Type} {enc : TypeId × Value → H} {W : World} {base : Nat} {spare : Nat → Bool} {held : Bool} {fuel : Nat} {cs : List Value} {x : DataW H × List MemPlace} (h : DataW.trod enc Tryd.prog W base spare held fuel 28 cs = some x) :
    ∃ (k : Int) (t : ByteArray), cs = [.int .i64 k, .string t] ∧ t.size ≤ maxLen := by
  obtain ⟨xs, k, _, _, hl, hlen, hf⟩ := DataW.trod_struct Tryd.underlying28 h
  rw [cells_hostO] at hl
  match xs, hlen, cs, hl with
  | [y0, y1], _, [v0, v1], _ =>
    have g0 := hf 0 _ rfl
    have g1 := hf 1 _ rfl
    simp [cells_strO, cells_intO] at g0 g1
    obtain ⟨a, e0, _⟩ := DataW.trod_int Tryd.underlying3 g0
    obtain ⟨b, e1, _, z1⟩ := DataW.trod_string Tryd.underlying9 g1
    simp at e0 e1
    subst e0 e1
    exact ⟨a, b, rfl, z1⟩
set_option maxRecDepth 100000 in
theorem open_rq {H : Type} {enc : TypeId × Value → H} {W : World} {base : Nat} {spare : Nat → Bool} {held : Bool} {fuel : Nat} {cs : List Value} {x : DataW H × List MemPlace} (h : DataW.trod enc Tryd.prog W base spare held fuel 30 cs = some x) :
    ∃ r : Rq, cs = rqC r ∧ r.app.size ≤ maxLen ∧ r.text.size ≤ maxLen ∧ r.url.size ≤ maxLen := by
  obtain ⟨xs, k, _, _, hl, hlen, hf⟩ := DataW.trod_struct Tryd.underlying30 h
  rw [cells_rqO] at hl
  match xs, hlen, cs, hl with
  | [y0, y1, y2, y3, y4], _, [v0, v1, v2, v3, v4, v5], _ =>
    have g0 := hf 0 _ rfl
    have g1 := hf 1 _ rfl
    have g2 := hf 2 _ rfl
    have g3 := hf 3 _ rfl
    have g4 := hf 4 _ rfl
    simp [cells_strO, cells_u64O, cells_boolO, cells_hostO] at g0 g1 g2 g3 g4
    obtain ⟨a0, e0, _⟩ := DataW.trod_int Tryd.underlying26 g0
    obtain ⟨a1, e1, _, z1⟩ := DataW.trod_string Tryd.underlying9 g1
    obtain ⟨a2, e2, _⟩ := DataW.trod_bool Tryd.underlying4 g2
    obtain ⟨a3, a4, e3, z3⟩ := open_host g3
    obtain ⟨a5, e5, _, z5⟩ := DataW.trod_string Tryd.underlying9 g4
    simp at e0 e1 e2 e3 e5
    obtain ⟨rfl, rfl⟩ := e3
    subst e0 e1 e2 e5
    exact ⟨⟨a0, a1, a2, a3, a4, a5⟩, rfl, z1, z3, z5⟩
set_option maxRecDepth 100000 in
theorem open_op {H : Type} {enc : TypeId × Value → H} {W : World} {base : Nat} {spare : Nat → Bool} {held : Bool} {fuel : Nat} {cs : List Value} {x : DataW H × List MemPlace} (h : DataW.trod enc Tryd.prog W base spare held fuel 32 cs = some x) :
    ∃ p : OpW, cs = [.int .i64 p.kind, .int .u64 p.tick, .int .u64 p.r.id, .string p.r.app, .bool p.r.apple, .int .i64 p.r.kind, .string p.r.text, .string p.r.url] ∧ p.r.app.size ≤ maxLen ∧ p.r.text.size ≤ maxLen ∧ p.r.url.size ≤ maxLen := by
  obtain ⟨xs, k, _, _, hl, hlen, hf⟩ := DataW.trod_struct Tryd.underlying32 h
  rw [cells_opO] at hl
  match xs, hlen, cs, hl with
  | [y0, y1, y2], _, [v0, v1, v2, v3, v4, v5, v6, v7], _ =>
    have g0 := hf 0 _ rfl
    have g1 := hf 1 _ rfl
    have g2 := hf 2 _ rfl
    simp [cells_intO, cells_u64O, cells_rqO] at g0 g1 g2
    obtain ⟨s0, e0, _⟩ := DataW.trod_int Tryd.underlying3 g0
    obtain ⟨s1, e1, _⟩ := DataW.trod_int Tryd.underlying26 g1
    obtain ⟨r, e2, z⟩ := open_rq g2
    simp at e0 e1
    subst e0 e1
    unfold rqC at e2
    simp at e2
    obtain ⟨rfl, rfl, rfl, rfl, rfl, rfl⟩ := e2
    exact ⟨⟨s0, s1, r⟩, rfl, z⟩
def sizedO (l : List OpW) : Prop := ∀ x ∈ l, x.r.app.size ≤ maxLen ∧ x.r.text.size ≤ maxLen ∧ x.r.url.size ≤ maxLen
set_option maxRecDepth 100000 in
theorem open_ops {H : Type} {enc : TypeId × Value → H} {W : World} {base : Nat} {spare : Nat → Bool} {held : Bool} {fuel : Nat} {cs : List Value} {x : DataW H × List MemPlace} (h : DataW.trod enc Tryd.prog W base spare held fuel 22 cs = some x) :
    ∃ (a : Option Addr) (l : List OpW) (cap : Nat), cs = [.slice a l.length cap] ∧ l.length ≤ maxLen ∧ OpsSl W a l ∧ sizedO l := by
  rcases Go.Deep.open_slice Tryd.underlying22 h with ⟨rfl, _⟩ | ⟨a, len, cap, m, n, D, Pl, rfl, hb, hl, hm, hmm, _, hx⟩
  · exact ⟨none, [], 0, rfl, Nat.zero_le _, fun i p h => by simp at h, fun p h => by cases h⟩
  have hlm : len ≤ m := by rw [hmm]; split <;> omega
  by_cases hlen0 : len = 0
  · subst hlen0
    exact ⟨some a, [], cap, rfl, Nat.zero_le _, fun i p h => by simp at h, fun p h => by cases h⟩
  obtain ⟨hspot, hblk⟩ : a = ⟨a.block, a.off, none⟩ ∧ a.block < W.heap.size := by
    obtain ⟨cs', h1, h2⟩ := hx 0 (by omega)
    rw [cells_opO] at h1
    obtain ⟨_, hlen, hcell⟩ := World.cells?_some h1
    have c0 := hcell 0 (by omega)
    rw [Go.Deep.add_add, Nat.zero_mul, Nat.add_zero] at c0
    match cs', hlen with
    | [v0, v1, v2, v3, v4, v5, v6, v7], _ => exact spot_none (c0.trans rfl)
  obtain ⟨ab, ao, asp⟩ := a
  obtain rfl : asp = none := by injection hspot
  dsimp only at hblk
  have each : ∀ i, i < len → ∃ p : OpW, (W.cell? ⟨ab, ao + i * 8, none⟩ = some (.int .i64 p.kind) ∧ W.cell? ⟨ab, ao + i * 8 + 1, none⟩ = some (.int .u64 p.tick) ∧ W.cell? ⟨ab, ao + i * 8 + 2, none⟩ = some (.int .u64 p.r.id) ∧ W.cell? ⟨ab, ao + i * 8 + 3, none⟩ = some (.string p.r.app) ∧
      W.cell? ⟨ab, ao + i * 8 + 4, none⟩ = some (.bool p.r.apple) ∧ W.cell? ⟨ab, ao + i * 8 + 5, none⟩ = some (.int .i64 p.r.kind) ∧ W.cell? ⟨ab, ao + i * 8 + 6, none⟩ = some (.string p.r.text) ∧ W.cell? ⟨ab, ao + i * 8 + 7, none⟩ = some (.string p.r.url)) ∧ p.r.app.size ≤ maxLen ∧ p.r.text.size ≤ maxLen ∧ p.r.url.size ≤ maxLen := by
    intro i hi
    obtain ⟨cs', h1, h2⟩ := hx i (by omega)
    rw [cells_opO] at h1
    obtain ⟨_, hlen, hcell⟩ := World.cells?_some h1
    obtain ⟨p, rfl, z⟩ := open_op h2
    have e : ∀ j, j < 8 → W.cell? ⟨ab, ao + i * 8 + j, none⟩ = [Value.int .i64 p.kind, .int .u64 p.tick, .int .u64 p.r.id, .string p.r.app, .bool p.r.apple, .int .i64 p.r.kind, .string p.r.text, .string p.r.url][j]? := fun j hj => by
      have := hcell j hj
      rw [Go.Deep.add_add, Addr.add_lit, ← Nat.add_assoc] at this
      exact this
    exact ⟨p, ⟨e 0 (by omega), e 1 (by omega), e 2 (by omega), e 3 (by omega), e 4 (by omega), e 5 (by omega), e 6 (by omega), e 7 (by omega)⟩, z⟩
  haveI : Inhabited OpW := ⟨⟨0, 0, ⟨0, ByteArray.empty, false, 0, ByteArray.empty, ByteArray.empty⟩⟩⟩
  obtain ⟨f, hf⟩ := Go.Deep.choose_lt each
  have hlen : ((List.range len).map f).length = len := by simp
  refine ⟨some ⟨ab, ao, none⟩, (List.range len).map f, cap, by rw [hlen], by rw [hlen]; omega, fun i p hp => ?_, fun p hp => ?_⟩
  · have hi : i < len := by have := (List.getElem?_eq_some_iff.1 hp).1; simpa using this
    have : p = f i := by simpa [hi] using hp.symm
    subst this
    exact ⟨ab, ao, rfl, hblk, (hf i hi).1⟩
  · obtain ⟨i, hi, rfl⟩ := List.mem_map.1 hp
    exact (hf i (by simpa using hi)).2
end Go.Proofs.YtkgifenidmbdkaaDoor
