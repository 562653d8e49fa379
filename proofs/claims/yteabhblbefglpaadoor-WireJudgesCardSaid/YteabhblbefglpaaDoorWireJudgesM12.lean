/- The walk of WireStatus. -/
import Derived.Test.YteabhblbefglpaaDoorWireJudgesM11
import Derived.Test.YteabhblbefglpaaDoorWireJudgesM9
import Derived.Laws.Tables
import Derived.Test.YteabhblbefglpaaDoorWireJudgesM3
import Derived.Test.YteabhblbefglpaaDoorWireJudgesM2
import Derived.Test.YteabhblbefglpaaDoorWireJudgesM7

namespace Go.Proofs.YteabhblbefglpaaDoor
open Go.RowKit

theorem size_resp : (Tryd.prog.info? 25).map (·.size) = some 7 := by kernel_rfl
def RespAt (w : World) (g : Nat) (id st : Int) (rd tm : Bool) (ty ca : ByteArray) (pa : Option Addr) (n c : Nat) : Prop := w.heap[g]? = some (.cells #[.int .u64 id, .int .i64 st, .bool rd, .bool tm, .string ty, .string ca, .slice pa n c] 25 (0, 0))
section
variable {w w' : World} {g : Nat} {id st : Int} {rd tm : Bool} {ty ca : ByteArray} {pa : Option Addr} {n c : Nat}
theorem RespAt.new : RespAt (w.alloc (.cells #[.int .u64 id, .int .i64 st, .bool rd, .bool tm, .string ty, .string ca, .slice pa n c] 25)) w.heap.size id st rd tm ty ca pa n c := heap_alloc_new w _
theorem RespAt.lt (h : RespAt w g id st rd tm ty ca pa n c) : g < w.heap.size := lt_of_block h
theorem RespAt.below (h : RespAt w g id st rd tm ty ca pa n c) (hb : Below w.heap.size w w') : RespAt w' g id st rd tm ty ca pa n c := (hb.block g h.lt).trans h
theorem RespAt.setType (h : RespAt w g id st rd tm ty ca pa n c) (v' : ByteArray) : RespAt (w.setCell ⟨g, 4, none⟩ (.string v')) g id st rd tm v' ca pa n c := by
  unfold RespAt at h ⊢; simp [World.setCell, Array.getElem?_modify, h]
theorem RespAt.frozen (h : RespAt w g id st rd tm ty ca pa n c) (j : Nat) : w.frozen? ⟨g, j, none⟩ = false := by
  unfold RespAt at h; simp [World.frozen?, h]
theorem RespAt.load (h : RespAt w g id st rd tm ty ca pa n c) : (loadVar 25 ⟨g, 0, none⟩).run Tryd.prog w = .ok (.agg #[.int .u64 id, .int .i64 st, .bool rd, .bool tm, .string ty, .string ca, .slice pa n c]) w :=
  run_loadVar_row w g _ _ _ _ _ h Tryd.underlying25 rfl (by rw [size_resp]; rfl)
theorem RespAt.cell (h : RespAt w g id st rd tm ty ca pa n c) (j : Nat) : w.cell? ⟨g, j, none⟩ = (#[.int .u64 id, .int .i64 st, .bool rd, .bool tm, .string ty, .string ca, .slice pa n c] : Array Value)[j]? := cell_of_row w g j _ _ _ h
end
theorem judge_ne {apple : Bool} {st : Int} {rd tm : Bool} {ty : ByteArray} {n : Nat} (h : st ≠ 200) : judgeN apple st rd tm ty n ≠ 0 := by
  unfold judgeN
  split
  · decide
  · split
    · decide
    · first | decide | (rw [if_pos h]; decide)
def jsonT : ByteArray := ⟨#[97, 112, 112, 108, 105, 99, 97, 116, 105, 111, 110, 47, 106, 115, 111, 110, 59, 32, 99, 104, 97, 114, 115, 101, 116, 61, 117, 116, 102, 45, 56]⟩
theorem j_json (apple : Bool) : judgeN apple 200 false false jsonT 0 = 0 := by cases apple <;> decide +kernel
theorem j_none : judgeN true 200 false false ⟨#[]⟩ 0 = 0 := by decide +kernel
theorem j_none' : judgeN false 200 false false ⟨#[]⟩ 0 = 42 := by decide +kernel
theorem j_sp1 : judgeN true 200 false false ⟨#[116, 101, 120, 116, 47, 104, 116, 109, 108]⟩ 0 = 42 := by decide +kernel
theorem j_sp2 : judgeN false 404 false false ⟨#[]⟩ 0 = 40 := by decide +kernel
theorem judge_yes {apple : Bool} {id st : Int} {rd tm : Bool} {ty ca : ByteArray} {pa : Option Addr} {n c : Nat} (w : World) (h : judgeN apple st rd tm ty n = 0) :
    Calls Tryd.prog 14 #[.bool apple, .agg #[.int .u64 id, .int .i64 st, .bool rd, .bool tm, .string ty, .string ca, .slice pa n c]] w fun e w' => e = .returned .nilIface ∧ Below w.heap.size w w' :=
  (wire_Judge apple id st rd tm ty ca pa n c w).mono fun e w' ⟨hb, v, he, hv⟩ => by
    rcases hv with ⟨_, rfl⟩ | ⟨h1, _⟩
    · exact ⟨he, hb⟩
    · exact absurd h h1
theorem judge_no {apple : Bool} {id st : Int} {rd tm : Bool} {ty ca : ByteArray} {pa : Option Addr} {n c : Nat} (w : World) (k : Nat) (h : judgeN apple st rd tm ty n = k) (hk : k ≠ 0) :
    Calls Tryd.prog 14 #[.bool apple, .agg #[.int .u64 id, .int .i64 st, .bool rd, .bool tm, .string ty, .string ca, .slice pa n c]] w fun e w' => Below w.heap.size w w' ∧ ∃ p, e = .returned (.iface 77 p) ∧ IsErr w' (.iface 77 p) k 0 :=
  (wire_Judge apple id st rd tm ty ca pa n c w).mono fun e w' ⟨hb, v, he, hv⟩ => by
    rw [h] at hv
    rcases hv with ⟨h1, _⟩ | ⟨h1, i, hv⟩
    · exact absurd h1 hk
    · obtain ⟨p, rfl⟩ := hv.ne_nil
      exact ⟨hb, p, he, .inr ⟨h1, i, hv⟩⟩
set_option maxHeartbeats 1600000 in
set_option maxRecDepth 100000 in
theorem speaks26 (w : World) (hg : Handle w) : Calls Tryd.prog 13 #[] w fun e w' => e = .returned (.bool true) ∧ Below w.heap.size w w' := by
  have C1 := Lib.hid (fun W => @judge_no true 0 200 false false ⟨#[116, 101, 120, 116, 47, 104, 116, 109, 108]⟩ ⟨#[]⟩ none 0 0 W 42 j_sp1 (by decide))
  have C2 := Lib.hid (fun W => @judge_no false 0 404 false false ⟨#[]⟩ ⟨#[]⟩ none 0 0 W 40 j_sp2 (by decide))
  go_enter Tryd.func13, Tryd.ntmps13
  go_wp2_with fail
  refine (C1.out _).mono ?_
  rintro e w1 ⟨hb1, p, rfl, hp⟩
  go_wp2_with fail
  refine (C2.out _).mono ?_
  rintro e w2 ⟨hb2, q, rfl, hq⟩
  have hb12 := Bt hb1 hb2
  have K1 := Lib.hid (fault_Kind _ _ _ w2 (hg.below hb12) (IsErr.below hp hb2))
  clear hp
  go_wp2_with fail
  refine K1.out.mono ?_
  rintro e w3 ⟨rfl, hb3⟩
  have hb13 := Bt hb12 hb3
  have K2 := Lib.hid (fault_Kind _ _ _ w3 (hg.below hb13) (IsErr.below hq hb3))
  clear hq
  go_wp2_with fail
  refine K2.out.mono ?_
  rintro e w4 ⟨rfl, hb4⟩
  have hb14 := Bt hb13 hb4
  go_wp2_with fail
  go_ret
  exact ⟨rfl, hb14⟩
set_option maxHeartbeats 1600000 in
set_option maxRecDepth 100000 in
theorem walkWireStatus (st : Int) (apple : Bool) (w : World) (hg : Handle w) (_ : Utf8Laid w) (_ : (Lit.int .i64 st).wf = true) :
    Calls Tryd.prog 4 #[.int .i64 st, .bool apple] w fun e w' => e = .returned (.bool true) ∧ Below w.heap.size w w' := by
  by_cases h : st = 200
  · subst h
    cases apple
    · have C1 := Lib.hid (fun W => @judge_yes false 0 200 false false ⟨#[97, 112, 112, 108, 105, 99, 97, 116, 105, 111, 110, 47, 106, 115, 111, 110, 59, 32, 99, 104, 97, 114, 115, 101, 116, 61, 117, 116, 102, 45, 56]⟩ ⟨#[]⟩ none 0 0 W (j_json false))
      have C2 := Lib.hid (fun W => @judge_no false 0 200 false false ⟨#[]⟩ ⟨#[]⟩ none 0 0 W _ j_none' (by decide))
      go_enter Tryd.func4, Tryd.ntmps4
      go_wp2_with fail
      refine (speaks26 _ hg).mono ?_
      rintro e w1 ⟨rfl, hb1⟩
      have hst := hb1.alloc hb1.size (.cells #[.int .u64 0, .int .i64 200, .bool false, .bool false, .string ⟨#[97, 112, 112, 108, 105, 99, 97, 116, 105, 111, 110, 47, 106, 115, 111, 110, 59, 32, 99, 104, 97, 114, 115, 101, 116, 61, 117, 116, 102, 45, 56]⟩, .string ⟨#[]⟩, .slice none 0 0] 25)
      have hr := RespAt.new (w := w1) (id := 0) (st := 200) (rd := false) (tm := false) (ty := ⟨#[97, 112, 112, 108, 105, 99, 97, 116, 105, 111, 110, 47, 106, 115, 111, 110, 59, 32, 99, 104, 97, 114, 115, 101, 116, 61, 117, 116, 102, 45, 56]⟩) (ca := ⟨#[]⟩) (pa := none) (n := 0) (c := 0)
      have hld := hr.load
      go_wp2_with fail
      refine (C1.out _).mono ?_
      rintro e w2 ⟨rfl, hb2⟩
      have hr2 := hr.below hb2
      have hb12 := Bt hst hb2
      have c0 := hr2.cell 0
      have c1 := hr2.cell 1
      have c2 := hr2.cell 2
      have c3 := hr2.cell 3
      have c4 := hr2.cell 4
      have c5 := hr2.cell 5
      have c6 := hr2.cell 6
      have f4 := hr2.frozen 4
      have hr3 := hr2.setType ⟨#[]⟩
      have hld3 := hr3.load
      have hb13 := hb12.setCell (show w.heap.size ≤ (⟨w1.heap.size, 4, none⟩ : Addr).block from hb1.size) (.string ⟨#[]⟩)
      clear hst hb2 hr hr2 hr3 hld hb12
      simp at c0 c1 c2 c3 c4 c5 c6
      go_wp2_with fail
      refine (C2.out _).mono ?_
      rintro e w3 ⟨hb3, q, rfl, _⟩
      have hb14 := Bt hb13 hb3
      go_wp2_with fail
      go_ret
      exact ⟨rfl, hb14⟩
    · have C1 := Lib.hid (fun W => @judge_yes true 0 200 false false ⟨#[97, 112, 112, 108, 105, 99, 97, 116, 105, 111, 110, 47, 106, 115, 111, 110, 59, 32, 99, 104, 97, 114, 115, 101, 116, 61, 117, 116, 102, 45, 56]⟩ ⟨#[]⟩ none 0 0 W (j_json true))
      have C2 := Lib.hid (fun W => @judge_yes true 0 200 false false ⟨#[]⟩ ⟨#[]⟩ none 0 0 W j_none)
      go_enter Tryd.func4, Tryd.ntmps4
      go_wp2_with fail
      refine (speaks26 _ hg).mono ?_
      rintro e w1 ⟨rfl, hb1⟩
      have hst := hb1.alloc hb1.size (.cells #[.int .u64 0, .int .i64 200, .bool false, .bool false, .string ⟨#[97, 112, 112, 108, 105, 99, 97, 116, 105, 111, 110, 47, 106, 115, 111, 110, 59, 32, 99, 104, 97, 114, 115, 101, 116, 61, 117, 116, 102, 45, 56]⟩, .string ⟨#[]⟩, .slice none 0 0] 25)
      have hr := RespAt.new (w := w1) (id := 0) (st := 200) (rd := false) (tm := false) (ty := ⟨#[97, 112, 112, 108, 105, 99, 97, 116, 105, 111, 110, 47, 106, 115, 111, 110, 59, 32, 99, 104, 97, 114, 115, 101, 116, 61, 117, 116, 102, 45, 56]⟩) (ca := ⟨#[]⟩) (pa := none) (n := 0) (c := 0)
      have hld := hr.load
      go_wp2_with fail
      refine (C1.out _).mono ?_
      rintro e w2 ⟨rfl, hb2⟩
      have hr2 := hr.below hb2
      have hb12 := Bt hst hb2
      have c0 := hr2.cell 0
      have c1 := hr2.cell 1
      have c2 := hr2.cell 2
      have c3 := hr2.cell 3
      have c4 := hr2.cell 4
      have c5 := hr2.cell 5
      have c6 := hr2.cell 6
      have f4 := hr2.frozen 4
      have hr3 := hr2.setType ⟨#[]⟩
      have hld3 := hr3.load
      have hb13 := hb12.setCell (show w.heap.size ≤ (⟨w1.heap.size, 4, none⟩ : Addr).block from hb1.size) (.string ⟨#[]⟩)
      clear hst hb2 hr hr2 hr3 hld hb12
      simp at c0 c1 c2 c3 c4 c5 c6
      go_wp2_with fail
      refine (C2.out _).mono ?_
      rintro e w3 ⟨rfl, hb3⟩
      have hb14 := Bt hb13 hb3
      go_wp2_with fail
      go_ret
      exact ⟨rfl, hb14⟩
  · have h2 : (st == 200) = false := by simpa using h
    cases apple
    · have C1 := Lib.hid (fun W => @judge_no false 0 st false false ⟨#[97, 112, 112, 108, 105, 99, 97, 116, 105, 111, 110, 47, 106, 115, 111, 110, 59, 32, 99, 104, 97, 114, 115, 101, 116, 61, 117, 116, 102, 45, 56]⟩ ⟨#[]⟩ none 0 0 W _ rfl (judge_ne h))
      have C2 := Lib.hid (fun W => @judge_no false 0 st false false ⟨#[]⟩ ⟨#[]⟩ none 0 0 W _ rfl (judge_ne h))
      clear h
      go_enter Tryd.func4, Tryd.ntmps4
      go_wp2_with fail
      refine (speaks26 _ hg).mono ?_
      rintro e w1 ⟨rfl, hb1⟩
      have hst := hb1.alloc hb1.size (.cells #[.int .u64 0, .int .i64 st, .bool false, .bool false, .string ⟨#[97, 112, 112, 108, 105, 99, 97, 116, 105, 111, 110, 47, 106, 115, 111, 110, 59, 32, 99, 104, 97, 114, 115, 101, 116, 61, 117, 116, 102, 45, 56]⟩, .string ⟨#[]⟩, .slice none 0 0] 25)
      have hr := RespAt.new (w := w1) (id := 0) (st := st) (rd := false) (tm := false) (ty := ⟨#[97, 112, 112, 108, 105, 99, 97, 116, 105, 111, 110, 47, 106, 115, 111, 110, 59, 32, 99, 104, 97, 114, 115, 101, 116, 61, 117, 116, 102, 45, 56]⟩) (ca := ⟨#[]⟩) (pa := none) (n := 0) (c := 0)
      have hld := hr.load
      go_wp2_with fail
      refine (C1.out _).mono ?_
      rintro e w2 ⟨hb2, p, rfl, _⟩
      have hr2 := hr.below hb2
      have hb12 := Bt hst hb2
      have c0 := hr2.cell 0
      have c1 := hr2.cell 1
      have c2 := hr2.cell 2
      have c3 := hr2.cell 3
      have c4 := hr2.cell 4
      have c5 := hr2.cell 5
      have c6 := hr2.cell 6
      have f4 := hr2.frozen 4
      have hr3 := hr2.setType ⟨#[]⟩
      have hld3 := hr3.load
      have hb13 := hb12.setCell (show w.heap.size ≤ (⟨w1.heap.size, 4, none⟩ : Addr).block from hb1.size) (.string ⟨#[]⟩)
      clear hst hb2 hr hr2 hr3 hld hb12
      simp at c0 c1 c2 c3 c4 c5 c6
      go_wp2_with fail
      refine (C2.out _).mono ?_
      rintro e w3 ⟨hb3, q, rfl, _⟩
      have hb14 := Bt hb13 hb3
      go_wp2_with fail
      go_ret
      exact ⟨rfl, hb14⟩
    · have C1 := Lib.hid (fun W => @judge_no true 0 st false false ⟨#[97, 112, 112, 108, 105, 99, 97, 116, 105, 111, 110, 47, 106, 115, 111, 110, 59, 32, 99, 104, 97, 114, 115, 101, 116, 61, 117, 116, 102, 45, 56]⟩ ⟨#[]⟩ none 0 0 W _ rfl (judge_ne h))
      have C2 := Lib.hid (fun W => @judge_no true 0 st false false ⟨#[]⟩ ⟨#[]⟩ none 0 0 W _ rfl (judge_ne h))
      clear h
      go_enter Tryd.func4, Tryd.ntmps4
      go_wp2_with fail
      refine (speaks26 _ hg).mono ?_
      rintro e w1 ⟨rfl, hb1⟩
      have hst := hb1.alloc hb1.size (.cells #[.int .u64 0, .int .i64 st, .bool false, .bool false, .string ⟨#[97, 112, 112, 108, 105, 99, 97, 116, 105, 111, 110, 47, 106, 115, 111, 110, 59, 32, 99, 104, 97, 114, 115, 101, 116, 61, 117, 116, 102, 45, 56]⟩, .string ⟨#[]⟩, .slice none 0 0] 25)
      have hr := RespAt.new (w := w1) (id := 0) (st := st) (rd := false) (tm := false) (ty := ⟨#[97, 112, 112, 108, 105, 99, 97, 116, 105, 111, 110, 47, 106, 115, 111, 110, 59, 32, 99, 104, 97, 114, 115, 101, 116, 61, 117, 116, 102, 45, 56]⟩) (ca := ⟨#[]⟩) (pa := none) (n := 0) (c := 0)
      have hld := hr.load
      go_wp2_with fail
      refine (C1.out _).mono ?_
      rintro e w2 ⟨hb2, p, rfl, _⟩
      have hr2 := hr.below hb2
      have hb12 := Bt hst hb2
      have c0 := hr2.cell 0
      have c1 := hr2.cell 1
      have c2 := hr2.cell 2
      have c3 := hr2.cell 3
      have c4 := hr2.cell 4
      have c5 := hr2.cell 5
      have c6 := hr2.cell 6
      have f4 := hr2.frozen 4
      have hr3 := hr2.setType ⟨#[]⟩
      have hld3 := hr3.load
      have hb13 := hb12.setCell (show w.heap.size ≤ (⟨w1.heap.size, 4, none⟩ : Addr).block from hb1.size) (.string ⟨#[]⟩)
      clear hst hb2 hr hr2 hr3 hld hb12
      simp at c0 c1 c2 c3 c4 c5 c6
      go_wp2_with fail
      refine (C2.out _).mono ?_
      rintro e w3 ⟨hb3, q, rfl, _⟩
      have hb14 := Bt hb13 hb3
      go_wp2_with fail
      go_ret
      exact ⟨rfl, hb14⟩
end Go.Proofs.YteabhblbefglpaaDoor

/- The reference of chapter 17: within, Token, token, blank, quoted. -/
namespace Go.Proofs.YteabhblbefglpaaDoor
open Go.RowKit

def signS : ByteArray := ⟨#[33, 35, 36, 37, 38, 39, 42, 43, 45, 46, 94, 95, 124, 126]⟩
theorem inTok_is (c : UInt8) : inTok c = ((decide (97 ≤ smallN c.toNat) && decide (smallN c.toNat ≤ 122)) || ((decide (48 ≤ c.toNat) && decide (c.toNat ≤ 57)) || (decide (c.toNat = 96) || hasB signS c))) := by
  have : ∀ n : Fin 256, inTok (UInt8.ofNat n.1) = ((decide (97 ≤ smallN (UInt8.ofNat n.1).toNat) && decide (smallN (UInt8.ofNat n.1).toNat ≤ 122)) || ((decide (48 ≤ (UInt8.ofNat n.1).toNat) && decide ((UInt8.ofNat n.1).toNat ≤ 57)) || (decide ((UInt8.ofNat n.1).toNat = 96) || hasB signS (UInt8.ofNat n.1)))) := by decide +kernel
  have h := this ⟨c.toNat, c.toNat_lt⟩
  simpa using h
set_option maxHeartbeats 1600000 in
set_option maxRecDepth 100000 in
theorem ref_within (c : UInt8) (w : World) : Calls Tryd.prog 148 #[.int .u8 (c.toNat : Int)] w fun e w' => e = .returned (.bool (inTok c)) ∧ w = w' := by
  have cS := Lib.hid (fun W => ref_Small c.toNat c.toNat_lt W)
  have cH := Lib.hid (fun W => ref_Has signS c W (by decide))
  have hin := inTok_is c
  have hsm : smallN c.toNat = c.toNat ∨ (65 ≤ c.toNat ∧ c.toNat ≤ 90 ∧ smallN c.toNat = c.toNat + 32) := by unfold smallN; split <;> omega
  generalize smallN c.toNat = m at *
  generalize hasB signS c = hb at *
  have HIN := Lib.hid hin
  clear hin
  by_cases h1 : 97 ≤ m
  · by_cases h2 : m ≤ 122
    · have d1 : (97 : Int) ≤ (m : Int) := by omega
      have d2 : decide ((m : Int) ≤ 122) = true := decide_eq_true (by omega)
      have hf : inTok c = true := by rw [HIN.out, decide_eq_true h1, decide_eq_true h2]; rfl
      have HF := Lib.hid hf
      clear hf h1 h2 hsm
      go_enter Tryd.func148, Tryd.ntmps148
      go_wp2_with fail
      refine (cS.out _).mono ?_
      rintro e w2 ⟨rfl, rfl⟩
      go_wp2_with fail
      go_ret
      exact ⟨ret_bool HF.out.symm, rfl⟩
    · have d1 : (97 : Int) ≤ (m : Int) := by omega
      have d2 : decide ((m : Int) ≤ 122) = false := decide_eq_false (by omega)
      have d3 : (48 : Int) ≤ (c.toNat : Int) := by omega
      have d4 : decide ((c.toNat : Int) ≤ 57) = false := decide_eq_false (by omega)
      have d5 : ((c.toNat : Int) == 96) = false := by rw [beq_eq_false_iff_ne]; omega
      have hf : inTok c = hb := by rw [HIN.out, decide_eq_false h2, decide_eq_false (by omega : ¬ c.toNat ≤ 57), decide_eq_false (by omega : ¬ c.toNat = 96)]; simp
      have HF := Lib.hid hf
      clear hf h1 h2 hsm
      go_enter Tryd.func148, Tryd.ntmps148
      go_wp2_with fail
      refine (cS.out _).mono ?_
      rintro e w2 ⟨rfl, rfl⟩
      go_wp2_with fail
      refine (cH.out _).mono ?_
      rintro e w2 ⟨rfl, rfl⟩
      go_wp2_with fail
      go_ret
      exact ⟨ret_bool HF.out.symm, rfl⟩
  · have d1 : decide ((97 : Int) ≤ (m : Int)) = false := decide_eq_false (by omega)
    have d1' : ¬ (97 : Int) ≤ (m : Int) := by omega
    by_cases h3 : 48 ≤ c.toNat
    · have d3 : (48 : Int) ≤ (c.toNat : Int) := by omega
      by_cases h4 : c.toNat ≤ 57
      · have d4 : decide ((c.toNat : Int) ≤ 57) = true := decide_eq_true (by omega)
        have hf : inTok c = true := by rw [HIN.out, decide_eq_true h3, decide_eq_true h4]; simp
        have HF := Lib.hid hf
        clear hf h1 h3 h4 hsm
        go_enter Tryd.func148, Tryd.ntmps148
        go_wp2_with fail
        refine (cS.out _).mono ?_
        rintro e w2 ⟨rfl, rfl⟩
        go_wp2_with fail
        go_ret
        exact ⟨ret_bool HF.out.symm, rfl⟩
      · have d4 : decide ((c.toNat : Int) ≤ 57) = false := decide_eq_false (by omega)
        by_cases h5 : c.toNat = 96
        · have d5 : ((c.toNat : Int) == 96) = true := by rw [beq_iff_eq]; omega
          have hf : inTok c = true := by rw [HIN.out, decide_eq_true h5]; simp
          have HF := Lib.hid hf
          clear hf h1 h3 h4 h5 hsm
          go_enter Tryd.func148, Tryd.ntmps148
          go_wp2_with fail
          refine (cS.out _).mono ?_
          rintro e w2 ⟨rfl, rfl⟩
          go_wp2_with fail
          go_ret
          exact ⟨ret_bool HF.out.symm, rfl⟩
        · have d5 : ((c.toNat : Int) == 96) = false := by rw [beq_eq_false_iff_ne]; omega
          have hf : inTok c = hb := by rw [HIN.out, decide_eq_false h1, decide_eq_false h4, decide_eq_false h5]; simp
          have HF := Lib.hid hf
          clear hf h1 h3 h4 h5 hsm
          go_enter Tryd.func148, Tryd.ntmps148
          go_wp2_with fail
          refine (cS.out _).mono ?_
          rintro e w2 ⟨rfl, rfl⟩
          go_wp2_with fail
          refine (cH.out _).mono ?_
          rintro e w2 ⟨rfl, rfl⟩
          go_wp2_with fail
          go_ret
          exact ⟨ret_bool HF.out.symm, rfl⟩
    · have d3 : decide ((48 : Int) ≤ (c.toNat : Int)) = false := decide_eq_false (by omega)
      have d5 : ((c.toNat : Int) == 96) = false := by rw [beq_eq_false_iff_ne]; omega
      have hf : inTok c = hb := by rw [HIN.out, decide_eq_false h1, decide_eq_false h3, decide_eq_false (by omega : ¬ c.toNat = 96)]; simp
      have HF := Lib.hid hf
      clear hf h1 h3 hsm
      go_enter Tryd.func148, Tryd.ntmps148
      go_wp2_with fail
      refine (cS.out _).mono ?_
      rintro e w2 ⟨rfl, rfl⟩
      go_wp2_with fail
      refine (cH.out _).mono ?_
      rintro e w2 ⟨rfl, rfl⟩
      go_wp2_with fail
      go_ret
      exact ⟨ret_bool HF.out.symm, rfl⟩
set_option maxHeartbeats 1600000 in
set_option maxRecDepth 100000 in
theorem ref17_Token (s : ByteArray) (w : World) (hs : s.size ≤ 16777216) : Calls Tryd.prog 149 #[.string s] w fun e w' => e = .returned (.bool (tokOk s.data.toList)) ∧ w = w' := by
  have HF := Lib.hid (@tokOk_all s)
  have HNO := Lib.hid (fun i => @tokOk_no s i)
  have cI := Lib.hid ref_within
  go_enter Tryd.func149, Tryd.ntmps149
  go_wp2_with fail
  go_loopw [3] (fun x wr => ∃ i : Nat, i ≤ s.size ∧ x = .int .i64 i ∧ w = wr ∧ ∀ j, j < i → inTok (byteAt s j) = true) (fun x _ => s.size - (intOf x).toNat)
  case atStart => exact ⟨0, Nat.zero_le _, rfl, rfl, fun j hj => by omega⟩
  case round =>
    obtain ⟨i, hil, rfl, rfl, hall⟩ := hrel
    have HA := Lib.hid hall
    clear hall
    by_cases hlt : i < s.size
    · have hbi := byteAt_ix hlt
      have hst : inTok s[i] = true → ∀ j, j < i + 1 → inTok (byteAt s j) = true := fun h j hj => by
        by_cases hji : j = i
        · subst hji; rw [hbi]; exact h
        · exact HA.out j (by omega)
      have hn2 := fun h => HNO.out i hlt (hbi ▸ h)
      have HST := Lib.hid hst
      have HN2 := Lib.hid hn2
      have cW := Lib.hid (cI.out s[i])
      clear hst hn2 hbi
      go_wp2_with fail
      refine (cW.out _).mono ?_
      rintro e w2 ⟨rfl, rfl⟩
      cases hin : inTok (s[i]'hlt)
      · have HX := Lib.hid (HN2.out hin)
        clear hin
        go_wp2_with fail
        go_ret
        exact ⟨ret_bool HX.out.symm, rfl⟩
      · have HX := Lib.hid (HST.out hin)
        clear hin
        go_wp2_with fail
        go_roundw
        case rel => exact ⟨i + 1, by omega, by go_num, by trivial, HX.out⟩
        case measure => simp [intOf]; omega
    · obtain rfl : i = s.size := by omega
      have hr := HF.out HA.out
      have HR := Lib.hid hr
      clear hr
      by_cases h1 : 1 ≤ s.size
      · have d1 : (1 : Int) ≤ (s.size : Int) := by omega
        have hd : decide ((s.size : Int) ≤ 100) = decide (s.size ≤ 100) := decide_eq_decide.2 (by omega)
        have HD := Lib.hid hd
        have HH := Lib.hid h1
        clear hd h1
        go_wp2_with fail
        go_ret
        exact ⟨ret_bool (by rw [HR.out, HD.out, decide_eq_true HH.out]; rfl), rfl⟩
      · have d1 : decide ((1 : Int) ≤ (s.size : Int)) = false := decide_eq_false (by omega)
        have HH := Lib.hid h1
        clear h1
        go_wp2_with fail
        go_ret
        exact ⟨ret_bool (by rw [HR.out, decide_eq_false HH.out]; rfl), rfl⟩
end Go.Proofs.YteabhblbefglpaaDoor

/- The reference of chapter 17: token, blank, quoted, from place to place. -/
namespace Go.Proofs.YteabhblbefglpaaDoor
open Go.RowKit

def rest (s : ByteArray) (a : Nat) : List UInt8 := s.data.toList.drop a
theorem rest_len (s : ByteArray) (a : Nat) : (rest s a).length = s.size - a := by unfold rest; rw [List.length_drop]; rfl
theorem rest_get {s : ByteArray} {a i : Nat} : (rest s a).getD i 0 = byteAt s (a + i) := by
  unfold rest byteAt
  rw [List.getD, List.getD, List.getElem?_drop]
theorem rest_drop (s : ByteArray) (a i : Nat) : (rest s a).drop i = rest s (a + i) := by unfold rest; rw [List.drop_drop]
theorem rest_cons {s : ByteArray} {i : Nat} (h : i < s.size) : rest s i = byteAt s i :: rest s (i + 1) := by
  unfold rest byteAt
  have hl : s.data.toList.length = s.size := rfl
  rw [List.drop_eq_getElem_cons (by omega), List.getD, List.getElem?_eq_getElem (by omega)]
  rfl
theorem rest_nil {s : ByteArray} {i : Nat} (h : s.size ≤ i) : rest s i = [] := by
  unfold rest
  exact List.drop_eq_nil_of_le h
theorem rest_extract (s : ByteArray) (a n : Nat) : s.extract a (a + n) = ofL ((rest s a).take n) := by
  conv => lhs; rw [← ofL_list s]
  rw [ofL_extract]
  unfold rest
  rw [show a + n - a = n by omega]
def tokAt (s : ByteArray) (a : Nat) : Int := if tokOk (tokW (rest s a)) = true then ((a + (tokW (rest s a)).length : Nat) : Int) else -1
theorem ext_whole (s : ByteArray) (a b : Nat) (ha : a = 0) (hb : b = s.size) : s.extract a b = s := by
  subst ha hb
  apply ByteArray.ext
  apply Array.ext'
  rw [Lib.extract_data]
  have hl : s.data.toList.length = s.size := rfl
  rw [List.drop_zero, Nat.sub_zero, ← hl, List.take_length]
set_option maxHeartbeats 1600000 in
set_option maxRecDepth 100000 in
theorem ref17_token (s : ByteArray) (a : Nat) (w : World) (hs : s.size ≤ 1000000) (ha : a ≤ s.size) : Calls Tryd.prog 119 #[.string s, .int .i64 (a : Int)] w fun e w' => e = .returned (.int .i64 (tokAt s a)) ∧ w = w' := by
  obtain ⟨s1, s2, s3, s4, _⟩ := span_at inTok (rest s a)
  rw [rest_len] at s2 s3
  have hW : tokW (rest s a) = (rest s a).take ((rest s a).takeWhile inTok).length := s4
  have cT := fun W => ref17_Token (ofL (tokW (rest s a))) W (by rw [ofL_size, hW, List.length_take, rest_len]; omega)
  have hfin : tokAt s a = if tokOk (tokW (rest s a)) = true then ((a + ((rest s a).takeWhile inTok).length : Nat) : Int) else -1 := rfl
  rw [ofL_list2] at cT
  have hext : s.extract a (a + ((rest s a).takeWhile inTok).length) = ofL (tokW (rest s a)) := by rw [rest_extract, hW]
  rw [← hext] at cT
  generalize tokOk (tokW (rest s a)) = ok at *
  generalize ((rest s a).takeWhile inTok).length = k at *
  have CT := Lib.hid cT
  have S1 := Lib.hid s1
  have S3 := Lib.hid s3
  have HF := Lib.hid hfin
  clear cT s1 s3 s4 hW hfin hext
  go_enter Tryd.func119, Tryd.ntmps119
  go_wp2_with fail
  go_loopw [5] (fun x wr => ∃ i : Nat, i ≤ k ∧ x = .int .i64 ((a + i : Nat) : Int) ∧ w = wr) (fun x _ => a + k - (intOf x).toNat)
  case atStart => exact ⟨0, Nat.zero_le _, rfl, rfl⟩
  case round =>
    obtain ⟨i, hik, rfl, rfl⟩ := hrel
    have hai : ((a + i : Nat) : Int) = (a : Int) + (i : Int) := by omega
    by_cases hlt : i < k
    · have hz : a + i < s.size := by omega
      have ei : s[a + i] = (rest s a).getD i 0 := by rw [← byteAt_ix hz, rest_get]
      have cI := Lib.hid (ref_within s[a + i])
      rw [ei, S1.out i hlt, ← ei] at cI
      have hzI : ((a + i : Nat) : Int) < (s.size : Int) := by omega
      clear ei hai
      have hb : a + i = a + i := rfl
      generalize e0 : a + i = b at hz cI hzI hb ⊢
      clear hb
      go_wp2_with fail
      refine (cI.out _).mono ?_
      rintro e w2 ⟨rfl, rfl⟩
      go_wp2_with fail
      go_roundw
      case rel => exact ⟨i + 1, by omega, by rw [← e0]; go_num, by first | rfl | trivial⟩
      case measure => simp [intOf]; omega
    · obtain rfl : i = k := by omega
      by_cases hz : a + i < s.size
      · have ei : s[a + i] = (rest s a).getD i 0 := by rw [← byteAt_ix hz, rest_get]
        have cI := Lib.hid (ref_within s[a + i])
        rw [ei, S3.out (by omega), ← ei] at cI
        have hzI : ((a + i : Nat) : Int) < (s.size : Int) := by omega
        have hbI : (a : Int) ≤ ((a + i : Nat) : Int) := by omega
        clear ei hai hlt hik S1 S3 s2 ha
        generalize a + i = b at *
        go_wp2_with fail
        refine (cI.out _).mono ?_
        rintro e w2 ⟨rfl, rfl⟩
        go_wp2_with fail
        refine (CT.out _).mono ?_
        rintro e w2 ⟨rfl, rfl⟩
        cases ok
        · go_wp2_with fail
          go_ret
          exact ⟨HF.out.symm ▸ rfl, rfl⟩
        · go_wp2_with fail
          go_ret
          exact ⟨HF.out.symm ▸ rfl, rfl⟩
      · have hb : a + i = s.size := by omega
        have hbI : (a : Int) ≤ (s.size : Int) := by omega
        rw [hb] at CT HF ⊢
        clear hai hlt hik S1 S3 s2 ha hz hb
        go_wp2_with fail
        refine (CT.out _).mono ?_
        rintro e w2 ⟨rfl, rfl⟩
        cases ok
        · go_wp2_with fail
          go_ret
          exact ⟨HF.out.symm ▸ rfl, rfl⟩
        · go_wp2_with fail
          go_ret
          exact ⟨HF.out.symm ▸ rfl, rfl⟩
end Go.Proofs.YteabhblbefglpaaDoor
