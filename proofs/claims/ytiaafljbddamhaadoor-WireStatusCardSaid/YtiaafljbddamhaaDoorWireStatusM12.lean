/- The walk of WireStatus. -/
import Derived.Test.YtiaafljbddamhaaDoorWireStatusM11
import Derived.Test.YtiaafljbddamhaaDoorWireStatusM9
import Derived.Laws.Tables

namespace Go.Proofs.YtiaafljbddamhaaDoor
open Go.RowKit

theorem size_resp : (Tryd.prog.info? 37).map (·.size) = some 7 := by kernel_rfl
def RespAt (w : World) (g : Nat) (id st : Int) (rd tm : Bool) (ty ca : ByteArray) (pa : Option Addr) (n c : Nat) : Prop := w.heap[g]? = some (.cells #[.int .u64 id, .int .i64 st, .bool rd, .bool tm, .string ty, .string ca, .slice pa n c] 37 (0, 0))
section
variable {w w' : World} {g : Nat} {id st : Int} {rd tm : Bool} {ty ca : ByteArray} {pa : Option Addr} {n c : Nat}
theorem RespAt.new : RespAt (w.alloc (.cells #[.int .u64 id, .int .i64 st, .bool rd, .bool tm, .string ty, .string ca, .slice pa n c] 37)) w.heap.size id st rd tm ty ca pa n c := heap_alloc_new w _
theorem RespAt.lt (h : RespAt w g id st rd tm ty ca pa n c) : g < w.heap.size := lt_of_block h
theorem RespAt.below (h : RespAt w g id st rd tm ty ca pa n c) (hb : Below w.heap.size w w') : RespAt w' g id st rd tm ty ca pa n c := (hb.block g h.lt).trans h
theorem RespAt.setType (h : RespAt w g id st rd tm ty ca pa n c) (v' : ByteArray) : RespAt (w.setCell ⟨g, 4, none⟩ (.string v')) g id st rd tm v' ca pa n c := by
  unfold RespAt at h ⊢; simp [World.setCell, Array.getElem?_modify, h]
theorem RespAt.frozen (h : RespAt w g id st rd tm ty ca pa n c) (j : Nat) : w.frozen? ⟨g, j, none⟩ = false := by
  unfold RespAt at h; simp [World.frozen?, h]
theorem RespAt.load (h : RespAt w g id st rd tm ty ca pa n c) : (loadVar 37 ⟨g, 0, none⟩).run Tryd.prog w = .ok (.agg #[.int .u64 id, .int .i64 st, .bool rd, .bool tm, .string ty, .string ca, .slice pa n c]) w :=
  run_loadVar_row w g _ _ _ _ _ h Tryd.underlying37 rfl (by rw [size_resp]; rfl)
theorem RespAt.cell (h : RespAt w g id st rd tm ty ca pa n c) (j : Nat) : w.cell? ⟨g, j, none⟩ = (#[.int .u64 id, .int .i64 st, .bool rd, .bool tm, .string ty, .string ca, .slice pa n c] : Array Value)[j]? := cell_of_row w g j _ _ _ h
end
theorem judge_ne {apple : Bool} {st : Int} {rd tm : Bool} {ty : ByteArray} {n : Nat} (h : st ≠ 200) : judgeN apple st rd tm ty n ≠ 0 := by
  unfold judgeN
  split
  · decide
  · split
    · decide
    · first | decide | (rw [if_pos h]; decide)
def jsonT : ByteArray := ⟨#[97, 112, 112, 108, 105, 99, 97, 116, 105, 111, 110, 47, 106, 115, 111, 110, 59, 32, 99, 104, 97, 114, 115, 101, 116, 61, 117, 116, 102, 45, 56]⟩
theorem j_json (apple : Bool) : judgeN apple 200 false false jsonT 0 = 0 := by cases apple <;> decide +kernel
theorem j_none : judgeN true 200 false false ⟨#[]⟩ 0 = 0 := by decide +kernel
theorem j_none' : judgeN false 200 false false ⟨#[]⟩ 0 = 42 := by decide +kernel
theorem j_sp1 : judgeN true 200 false false ⟨#[116, 101, 120, 116, 47, 104, 116, 109, 108]⟩ 0 = 42 := by decide +kernel
theorem j_sp2 : judgeN false 404 false false ⟨#[]⟩ 0 = 40 := by decide +kernel
theorem judge_yes {apple : Bool} {id st : Int} {rd tm : Bool} {ty ca : ByteArray} {pa : Option Addr} {n c : Nat} (w : World) (h : judgeN apple st rd tm ty n = 0) :
    Calls Tryd.prog 23 #[.bool apple, .agg #[.int .u64 id, .int .i64 st, .bool rd, .bool tm, .string ty, .string ca, .slice pa n c]] w fun e w' => e = .returned .nilIface ∧ Below w.heap.size w w' :=
  (wire_Judge apple id st rd tm ty ca pa n c w).mono fun e w' ⟨hb, v, he, hv⟩ => by
    rcases hv with ⟨_, rfl⟩ | ⟨h1, _⟩
    · exact ⟨he, hb⟩
    · exact absurd h h1
theorem judge_no {apple : Bool} {id st : Int} {rd tm : Bool} {ty ca : ByteArray} {pa : Option Addr} {n c : Nat} (w : World) (k : Nat) (h : judgeN apple st rd tm ty n = k) (hk : k ≠ 0) :
    Calls Tryd.prog 23 #[.bool apple, .agg #[.int .u64 id, .int .i64 st, .bool rd, .bool tm, .string ty, .string ca, .slice pa n c]] w fun e w' => Below w.heap.size w w' ∧ ∃ p, e = .returned (.iface 90 p) ∧ IsErr w' (.iface 90 p) k 0 :=
  (wire_Judge apple id st rd tm ty ca pa n c w).mono fun e w' ⟨hb, v, he, hv⟩ => by
    rw [h] at hv
    rcases hv with ⟨h1, _⟩ | ⟨h1, i, hv⟩
    · exact absurd h1 hk
    · obtain ⟨p, rfl⟩ := hv.ne_nil
      exact ⟨hb, p, he, .inr ⟨h1, i, hv⟩⟩
set_option maxHeartbeats 1600000 in
set_option maxRecDepth 100000 in
theorem speaks26 (w : World) (hg : Handle w) : Calls Tryd.prog 22 #[] w fun e w' => e = .returned (.bool true) ∧ Below w.heap.size w w' := by
  have C1 := Lib.hid (fun W => @judge_no true 0 200 false false ⟨#[116, 101, 120, 116, 47, 104, 116, 109, 108]⟩ ⟨#[]⟩ none 0 0 W 42 j_sp1 (by decide))
  have C2 := Lib.hid (fun W => @judge_no false 0 404 false false ⟨#[]⟩ ⟨#[]⟩ none 0 0 W 40 j_sp2 (by decide))
  go_enter Tryd.func22, Tryd.ntmps22
  go_wp2_with fail
  refine (C1.out _).mono ?_
  rintro e w1 ⟨hb1, p, rfl, hp⟩
  go_wp2_with fail
  refine (C2.out _).mono ?_
  rintro e w2 ⟨hb2, q, rfl, hq⟩
  have hb12 := Bt hb1 hb2
  have K1 := Lib.hid (fault_Kind _ _ _ w2 (hg.below hb12) (IsErr.below hp hb2))
  clear hp
  go_wp2_with fail
  refine K1.out.mono ?_
  rintro e w3 ⟨rfl, hb3⟩
  have hb13 := Bt hb12 hb3
  have K2 := Lib.hid (fault_Kind _ _ _ w3 (hg.below hb13) (IsErr.below hq hb3))
  clear hq
  go_wp2_with fail
  refine K2.out.mono ?_
  rintro e w4 ⟨rfl, hb4⟩
  have hb14 := Bt hb13 hb4
  go_wp2_with fail
  go_ret
  exact ⟨rfl, hb14⟩
set_option maxHeartbeats 1600000 in
set_option maxRecDepth 100000 in
theorem walkWireStatus (st : Int) (apple : Bool) (w : World) (hg : Handle w) (_ : Utf8Laid w) (_ : (Lit.int .i64 st).wf = true) :
    Calls Tryd.prog 7 #[.int .i64 st, .bool apple] w fun e w' => e = .returned (.bool true) ∧ Below w.heap.size w w' := by
  by_cases h : st = 200
  · subst h
    cases apple
    · have C1 := Lib.hid (fun W => @judge_yes false 0 200 false false ⟨#[97, 112, 112, 108, 105, 99, 97, 116, 105, 111, 110, 47, 106, 115, 111, 110, 59, 32, 99, 104, 97, 114, 115, 101, 116, 61, 117, 116, 102, 45, 56]⟩ ⟨#[]⟩ none 0 0 W (j_json false))
      have C2 := Lib.hid (fun W => @judge_no false 0 200 false false ⟨#[]⟩ ⟨#[]⟩ none 0 0 W _ j_none' (by decide))
      go_enter Tryd.func7, Tryd.ntmps7
      go_wp2_with fail
      refine (speaks26 _ hg).mono ?_
      rintro e w1 ⟨rfl, hb1⟩
      have hst := hb1.alloc hb1.size (.cells #[.int .u64 0, .int .i64 200, .bool false, .bool false, .string ⟨#[97, 112, 112, 108, 105, 99, 97, 116, 105, 111, 110, 47, 106, 115, 111, 110, 59, 32, 99, 104, 97, 114, 115, 101, 116, 61, 117, 116, 102, 45, 56]⟩, .string ⟨#[]⟩, .slice none 0 0] 37)
      have hr := RespAt.new (w := w1) (id := 0) (st := 200) (rd := false) (tm := false) (ty := ⟨#[97, 112, 112, 108, 105, 99, 97, 116, 105, 111, 110, 47, 106, 115, 111, 110, 59, 32, 99, 104, 97, 114, 115, 101, 116, 61, 117, 116, 102, 45, 56]⟩) (ca := ⟨#[]⟩) (pa := none) (n := 0) (c := 0)
      have hld := hr.load
      go_wp2_with fail
      refine (C1.out _).mono ?_
      rintro e w2 ⟨rfl, hb2⟩
      have hr2 := hr.below hb2
      have hb12 := Bt hst hb2
      have c0 := hr2.cell 0
      have c1 := hr2.cell 1
      have c2 := hr2.cell 2
      have c3 := hr2.cell 3
      have c4 := hr2.cell 4
      have c5 := hr2.cell 5
      have c6 := hr2.cell 6
      have f4 := hr2.frozen 4
      have hr3 := hr2.setType ⟨#[]⟩
      have hld3 := hr3.load
      have hb13 := hb12.setCell (show w.heap.size ≤ (⟨w1.heap.size, 4, none⟩ : Addr).block from hb1.size) (.string ⟨#[]⟩)
      clear hst hb2 hr hr2 hr3 hld hb12
      simp at c0 c1 c2 c3 c4 c5 c6
      go_wp2_with fail
      refine (C2.out _).mono ?_
      rintro e w3 ⟨hb3, q, rfl, _⟩
      have hb14 := Bt hb13 hb3
      go_wp2_with fail
      go_ret
      exact ⟨rfl, hb14⟩
    · have C1 := Lib.hid (fun W => @judge_yes true 0 200 false false ⟨#[97, 112, 112, 108, 105, 99, 97, 116, 105, 111, 110, 47, 106, 115, 111, 110, 59, 32, 99, 104, 97, 114, 115, 101, 116, 61, 117, 116, 102, 45, 56]⟩ ⟨#[]⟩ none 0 0 W (j_json true))
      have C2 := Lib.hid (fun W => @judge_yes true 0 200 false false ⟨#[]⟩ ⟨#[]⟩ none 0 0 W j_none)
      go_enter Tryd.func7, Tryd.ntmps7
      go_wp2_with fail
      refine (speaks26 _ hg).mono ?_
      rintro e w1 ⟨rfl, hb1⟩
      have hst := hb1.alloc hb1.size (.cells #[.int .u64 0, .int .i64 200, .bool false, .bool false, .string ⟨#[97, 112, 112, 108, 105, 99, 97, 116, 105, 111, 110, 47, 106, 115, 111, 110, 59, 32, 99, 104, 97, 114, 115, 101, 116, 61, 117, 116, 102, 45, 56]⟩, .string ⟨#[]⟩, .slice none 0 0] 37)
      have hr := RespAt.new (w := w1) (id := 0) (st := 200) (rd := false) (tm := false) (ty := ⟨#[97, 112, 112, 108, 105, 99, 97, 116, 105, 111, 110, 47, 106, 115, 111, 110, 59, 32, 99, 104, 97, 114, 115, 101, 116, 61, 117, 116, 102, 45, 56]⟩) (ca := ⟨#[]⟩) (pa := none) (n := 0) (c := 0)
      have hld := hr.load
      go_wp2_with fail
      refine (C1.out _).mono ?_
      rintro e w2 ⟨rfl, hb2⟩
      have hr2 := hr.below hb2
      have hb12 := Bt hst hb2
      have c0 := hr2.cell 0
      have c1 := hr2.cell 1
      have c2 := hr2.cell 2
      have c3 := hr2.cell 3
      have c4 := hr2.cell 4
      have c5 := hr2.cell 5
      have c6 := hr2.cell 6
      have f4 := hr2.frozen 4
      have hr3 := hr2.setType ⟨#[]⟩
      have hld3 := hr3.load
      have hb13 := hb12.setCell (show w.heap.size ≤ (⟨w1.heap.size, 4, none⟩ : Addr).block from hb1.size) (.string ⟨#[]⟩)
      clear hst hb2 hr hr2 hr3 hld hb12
      simp at c0 c1 c2 c3 c4 c5 c6
      go_wp2_with fail
      refine (C2.out _).mono ?_
      rintro e w3 ⟨rfl, hb3⟩
      have hb14 := Bt hb13 hb3
      go_wp2_with fail
      go_ret
      exact ⟨rfl, hb14⟩
  · have h2 : (st == 200) = false := by simpa using h
    cases apple
    · have C1 := Lib.hid (fun W => @judge_no false 0 st false false ⟨#[97, 112, 112, 108, 105, 99, 97, 116, 105, 111, 110, 47, 106, 115, 111, 110, 59, 32, 99, 104, 97, 114, 115, 101, 116, 61, 117, 116, 102, 45, 56]⟩ ⟨#[]⟩ none 0 0 W _ rfl (judge_ne h))
      have C2 := Lib.hid (fun W => @judge_no false 0 st false false ⟨#[]⟩ ⟨#[]⟩ none 0 0 W _ rfl (judge_ne h))
      clear h
      go_enter Tryd.func7, Tryd.ntmps7
      go_wp2_with fail
      refine (speaks26 _ hg).mono ?_
      rintro e w1 ⟨rfl, hb1⟩
      have hst := hb1.alloc hb1.size (.cells #[.int .u64 0, .int .i64 st, .bool false, .bool false, .string ⟨#[97, 112, 112, 108, 105, 99, 97, 116, 105, 111, 110, 47, 106, 115, 111, 110, 59, 32, 99, 104, 97, 114, 115, 101, 116, 61, 117, 116, 102, 45, 56]⟩, .string ⟨#[]⟩, .slice none 0 0] 37)
      have hr := RespAt.new (w := w1) (id := 0) (st := st) (rd := false) (tm := false) (ty := ⟨#[97, 112, 112, 108, 105, 99, 97, 116, 105, 111, 110, 47, 106, 115, 111, 110, 59, 32, 99, 104, 97, 114, 115, 101, 116, 61, 117, 116, 102, 45, 56]⟩) (ca := ⟨#[]⟩) (pa := none) (n := 0) (c := 0)
      have hld := hr.load
      go_wp2_with fail
      refine (C1.out _).mono ?_
      rintro e w2 ⟨hb2, p, rfl, _⟩
      have hr2 := hr.below hb2
      have hb12 := Bt hst hb2
      have c0 := hr2.cell 0
      have c1 := hr2.cell 1
      have c2 := hr2.cell 2
      have c3 := hr2.cell 3
      have c4 := hr2.cell 4
      have c5 := hr2.cell 5
      have c6 := hr2.cell 6
      have f4 := hr2.frozen 4
      have hr3 := hr2.setType ⟨#[]⟩
      have hld3 := hr3.load
      have hb13 := hb12.setCell (show w.heap.size ≤ (⟨w1.heap.size, 4, none⟩ : Addr).block from hb1.size) (.string ⟨#[]⟩)
      clear hst hb2 hr hr2 hr3 hld hb12
      simp at c0 c1 c2 c3 c4 c5 c6
      go_wp2_with fail
      refine (C2.out _).mono ?_
      rintro e w3 ⟨hb3, q, rfl, _⟩
      have hb14 := Bt hb13 hb3
      go_wp2_with fail
      go_ret
      exact ⟨rfl, hb14⟩
    · have C1 := Lib.hid (fun W => @judge_no true 0 st false false ⟨#[97, 112, 112, 108, 105, 99, 97, 116, 105, 111, 110, 47, 106, 115, 111, 110, 59, 32, 99, 104, 97, 114, 115, 101, 116, 61, 117, 116, 102, 45, 56]⟩ ⟨#[]⟩ none 0 0 W _ rfl (judge_ne h))
      have C2 := Lib.hid (fun W => @judge_no true 0 st false false ⟨#[]⟩ ⟨#[]⟩ none 0 0 W _ rfl (judge_ne h))
      clear h
      go_enter Tryd.func7, Tryd.ntmps7
      go_wp2_with fail
      refine (speaks26 _ hg).mono ?_
      rintro e w1 ⟨rfl, hb1⟩
      have hst := hb1.alloc hb1.size (.cells #[.int .u64 0, .int .i64 st, .bool false, .bool false, .string ⟨#[97, 112, 112, 108, 105, 99, 97, 116, 105, 111, 110, 47, 106, 115, 111, 110, 59, 32, 99, 104, 97, 114, 115, 101, 116, 61, 117, 116, 102, 45, 56]⟩, .string ⟨#[]⟩, .slice none 0 0] 37)
      have hr := RespAt.new (w := w1) (id := 0) (st := st) (rd := false) (tm := false) (ty := ⟨#[97, 112, 112, 108, 105, 99, 97, 116, 105, 111, 110, 47, 106, 115, 111, 110, 59, 32, 99, 104, 97, 114, 115, 101, 116, 61, 117, 116, 102, 45, 56]⟩) (ca := ⟨#[]⟩) (pa := none) (n := 0) (c := 0)
      have hld := hr.load
      go_wp2_with fail
      refine (C1.out _).mono ?_
      rintro e w2 ⟨hb2, p, rfl, _⟩
      have hr2 := hr.below hb2
      have hb12 := Bt hst hb2
      have c0 := hr2.cell 0
      have c1 := hr2.cell 1
      have c2 := hr2.cell 2
      have c3 := hr2.cell 3
      have c4 := hr2.cell 4
      have c5 := hr2.cell 5
      have c6 := hr2.cell 6
      have f4 := hr2.frozen 4
      have hr3 := hr2.setType ⟨#[]⟩
      have hld3 := hr3.load
      have hb13 := hb12.setCell (show w.heap.size ≤ (⟨w1.heap.size, 4, none⟩ : Addr).block from hb1.size) (.string ⟨#[]⟩)
      clear hst hb2 hr hr2 hr3 hld hb12
      simp at c0 c1 c2 c3 c4 c5 c6
      go_wp2_with fail
      refine (C2.out _).mono ?_
      rintro e w3 ⟨hb3, q, rfl, _⟩
      have hb14 := Bt hb13 hb3
      go_wp2_with fail
      go_ret
      exact ⟨rfl, hb14⟩
end Go.Proofs.YtiaafljbddamhaaDoor
