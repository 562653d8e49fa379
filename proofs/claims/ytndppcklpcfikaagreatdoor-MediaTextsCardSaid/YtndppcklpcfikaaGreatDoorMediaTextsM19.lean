/- errors.Is at a fault and a number: its contract; the statements' Has. -/
import Derived.Test.YtndppcklpcfikaaGreatDoorMediaTextsM11
import Derived.LaidHandle
import Derived.LaidLaws
import Derived.Stop.Joined
import Derived.Lib.LaidU8T
import Derived.Shelf.Unicode.DecodeSlow
import Derived.Test.YtndppcklpcfikaaGreatDoorMediaTextsM18
import Derived.Test.YtndppcklpcfikaaGreatDoorMediaTextsM1
import Derived.Test.YtndppcklpcfikaaGreatDoorMediaTextsM4
import Derived.Deep.Strs
import Derived.OpenShut
import Derived.Test.YtndppcklpcfikaaGreatDoorMediaTextsM9

namespace Go.Proofs.YtndppcklpcfikaaGreatDoor
open Go.RowKit Go.Extern.Stop Go.Stop Go.Extern

theorem ret_beq {a b c : Int} (h : c = b) : Ending.returned (.bool (a == b)) = .returned (.bool (a == c)) := by rw [h]
theorem Is_assertErrno (v : Value) (w : World) : (Instr.typeAssert (.iface 46 v) 32 46 true).run Tryz.prog w = .ok (.tuple #[v, .bool true]) w := by kernel_rfl

set_option maxHeartbeats 800000 in
set_option maxRecDepth 100000 in
theorem fault_Is (b : Nat) (k i n : Int) (inner : Value) (w : World) (hblk : w.heap[b]? = some (.cells #[.int .i64 k, .int .i64 i, inner] 66 (0, 0))) :
    Calls Tryz.prog 136 #[.pointer (some ⟨b, 0, none⟩), .iface 46 (.int .i64 n)] w fun e w' => e = .returned (.bool (n == k)) ∧ w = w' := by
  have hc : w.cell? ⟨b, 0, none⟩ = some (.int .i64 k) := by rw [cell_of_row w b 0 _ _ _ hblk]; rfl
  clear hblk
  have ta := Is_assertErrno
  go_enter Tryz.func136, Tryz.ntmps136
  go_wp2_with fail
  go_ret
  exact ⟨rfl, rfl⟩

set_option maxHeartbeats 800000 in
set_option maxRecDepth 100000 in
theorem fault_Unwrap (b : Nat) (k i : Int) (inner : Value) (w : World) (hblk : w.heap[b]? = some (.cells #[.int .i64 k, .int .i64 i, inner] 66 (0, 0))) :
    Calls Tryz.prog 137 #[.pointer (some ⟨b, 0, none⟩)] w fun e w' => e = .returned inner ∧ w = w' := by
  have hc : w.cell? ⟨b, 2, none⟩ = some inner := by rw [cell_of_row w b 2 _ _ _ hblk]; rfl
  clear hblk
  go_enter Tryz.func137, Tryz.ntmps137
  go_wp2_with fail
  go_ret
  exact ⟨rfl, rfl⟩

theorem Is_eq (p : Addr) (n : Int) (w : World) : (binOp .eql 32 (.iface 62 (.pointer (some p))) (.iface 46 (.int .i64 n))).run Tryz.prog w = .ok (.bool false) w := by kernel_rfl
theorem Is_assertIs (p : Addr) (w : World) : (Instr.typeAssert (.iface 62 (.pointer (some p))) 32 134 true).run Tryz.prog w = .ok (.tuple #[.iface 62 (.pointer (some p)), .bool true]) w := by kernel_rfl
theorem Is_assertUnwrap (p : Addr) (w : World) : (Instr.typeAssert (.iface 62 (.pointer (some p))) 32 129 true).run Tryz.prog w = .ok (.tuple #[.iface 62 (.pointer (some p)), .bool true]) w := by kernel_rfl
theorem Is_methodIs (p : Addr) (w : World) : (Go.method 343 62 (.pointer (some p)) "Is").run Tryz.prog w = .ok (136, .pointer (some p)) w := by kernel_rfl
theorem Is_methodUnwrap (p : Addr) (w : World) : (Go.method 343 62 (.pointer (some p)) "Unwrap").run Tryz.prog w = .ok (137, .pointer (some p)) w := by kernel_rfl
theorem Is_typeOf (v : Value) (w : World) : (ReflectliteType.typeOf #[.iface 46 v]).run Tryz.prog w = .ok (.iface 122 (.agg #[.pointer (some ⟨4, 46, none⟩)])) w := by kernel_rfl
theorem Is_methodComparable (h : Value) (w : World) : (Go.method 343 122 (.agg #[h]) "Comparable").run Tryz.prog w = .ok (144, .agg #[h]) w := by kernel_rfl

/-- What errors.Is tells of a fault that came from nothing, or from such a one. -/
def isKind (n k : Int) : Bool := n == k

set_option maxHeartbeats 1600000 in
set_option maxRecDepth 100000 in
theorem errors_is (b : Nat) (k i n : Int) (w : World) (hblk : w.heap[b]? = some (.cells #[.int .i64 k, .int .i64 i, .nilIface] 66 (0, 0))) :
    Calls Tryz.prog 61 #[.iface 62 (.pointer (some ⟨b, 0, none⟩)), .iface 46 (.int .i64 n), .bool true] w fun e w' => e = .returned (.bool (isKind n k)) ∧ w = w' := by
  have c1 := Lib.hid (fault_Is b k i n .nilIface w hblk)
  have c2 := Lib.hid (fault_Unwrap b k i .nilIface w hblk)
  clear hblk
  have f1 := Is_eq
  have f2 := Is_assertIs
  have f3 := Is_assertUnwrap
  have f4 := Is_methodIs
  have f5 := Is_methodUnwrap
  by_cases hk : n = k
  · have e : isKind n k = true := by simp [isKind, hk]
    have E := Lib.hid e
    have e2 : (n == k) = true := e
    clear e hk
    go_enter Tryz.func61, Tryz.ntmps61
    go_wp2_with fail
    refine wp_loop_rounds 1 ?_
    rw [rounds_succ]
    go_wp2_with fail
    refine c1.out.mono ?_
    rintro e w1 ⟨rfl, rfl⟩
    go_wp2_with fail
    go_ret
    exact ⟨ret_bool E.out.symm, rfl⟩
  · have e : isKind n k = false := by simp [isKind, hk]
    have E := Lib.hid e
    have e2 : (n == k) = false := e
    clear e hk
    go_enter Tryz.func61, Tryz.ntmps61
    go_wp2_with fail
    refine wp_loop_rounds 1 ?_
    rw [rounds_succ]
    go_wp2_with fail
    refine c1.out.mono ?_
    rintro e w1 ⟨rfl, rfl⟩
    go_wp2_with fail
    refine c2.out.mono ?_
    rintro e w1 ⟨rfl, rfl⟩
    go_wp2_with fail
    go_ret
    exact ⟨ret_bool E.out.symm, rfl⟩

set_option maxHeartbeats 1600000 in
set_option maxRecDepth 100000 in
theorem errors_is2 (b b2 : Nat) (k i k2 i2 n : Int) (w : World) (hblk : w.heap[b]? = some (.cells #[.int .i64 k, .int .i64 i, .iface 62 (.pointer (some ⟨b2, 0, none⟩))] 66 (0, 0)))
    (hblk2 : w.heap[b2]? = some (.cells #[.int .i64 k2, .int .i64 i2, .nilIface] 66 (0, 0))) :
    Calls Tryz.prog 61 #[.iface 62 (.pointer (some ⟨b, 0, none⟩)), .iface 46 (.int .i64 n), .bool true] w fun e w' => e = .returned (.bool (isKind n k || isKind n k2)) ∧ w = w' := by
  have c1 := Lib.hid (fault_Is b k i n _ w hblk)
  have c2 := Lib.hid (fault_Unwrap b k i _ w hblk)
  have c3 := Lib.hid (fault_Is b2 k2 i2 n _ w hblk2)
  have c4 := Lib.hid (fault_Unwrap b2 k2 i2 _ w hblk2)
  clear hblk hblk2
  have f1 := Is_eq
  have f2 := Is_assertIs
  have f3 := Is_assertUnwrap
  have f4 := Is_methodIs
  have f5 := Is_methodUnwrap
  by_cases hk : n = k
  · have e : (isKind n k || isKind n k2) = true := by simp [isKind, hk]
    have E := Lib.hid e
    have e2 : (n == k) = true := by simp [hk]
    clear e hk
    go_enter Tryz.func61, Tryz.ntmps61
    go_wp2_with fail
    refine wp_loop_rounds 1 ?_
    rw [rounds_succ]
    go_wp2_with fail
    refine c1.out.mono ?_
    rintro e w1 ⟨rfl, rfl⟩
    go_wp2_with fail
    go_ret
    exact ⟨ret_bool E.out.symm, rfl⟩
  · have e2 : (n == k) = false := by simp [hk]
    by_cases hk2 : n = k2
    · have e : (isKind n k || isKind n k2) = true := by simp [isKind, hk2]
      have E := Lib.hid e
      have e3 : (n == k2) = true := by simp [hk2]
      clear e hk hk2
      go_enter Tryz.func61, Tryz.ntmps61
      go_wp2_with fail
      refine wp_loop_rounds 2 ?_
      rw [rounds_succ]
      go_wp2_with fail
      refine c1.out.mono ?_
      rintro e w1 ⟨rfl, rfl⟩
      go_wp2_with fail
      refine c2.out.mono ?_
      rintro e w1 ⟨rfl, rfl⟩
      go_wp2_with fail
      rw [rounds_succ]
      go_wp2_with fail
      refine c3.out.mono ?_
      rintro e w1 ⟨rfl, rfl⟩
      go_wp2_with fail
      go_ret
      exact ⟨ret_bool E.out.symm, rfl⟩
    · have e : (isKind n k || isKind n k2) = false := by simp [isKind, hk, hk2]
      have E := Lib.hid e
      have e3 : (n == k2) = false := by simp [hk2]
      clear e hk hk2
      go_enter Tryz.func61, Tryz.ntmps61
      go_wp2_with fail
      refine wp_loop_rounds 2 ?_
      rw [rounds_succ]
      go_wp2_with fail
      refine c1.out.mono ?_
      rintro e w1 ⟨rfl, rfl⟩
      go_wp2_with fail
      refine c2.out.mono ?_
      rintro e w1 ⟨rfl, rfl⟩
      go_wp2_with fail
      rw [rounds_succ]
      go_wp2_with fail
      refine c3.out.mono ?_
      rintro e w1 ⟨rfl, rfl⟩
      go_wp2_with fail
      refine c4.out.mono ?_
      rintro e w1 ⟨rfl, rfl⟩
      go_wp2_with fail
      go_ret
      exact ⟨ret_bool E.out.symm, rfl⟩

set_option maxHeartbeats 1600000 in
set_option maxRecDepth 100000 in
theorem errors_Is (p : Addr) (n : Int) (r : Bool) (w : World)
    (c : Calls Tryz.prog 61 #[.iface 62 (.pointer (some p)), .iface 46 (.int .i64 n), .bool true] w fun e w' => e = .returned (.bool r) ∧ w = w') :
    Calls Tryz.prog 45 #[.iface 62 (.pointer (some p)), .iface 46 (.int .i64 n)] w fun e w' => e = .returned (.bool r) ∧ w = w' := by
  have C := Lib.hid c
  clear c
  have f1 := Is_typeOf
  have f2 := Is_methodComparable
  have h10 := @run_callFunc_extern Tryz.prog 60 _ ReflectliteType.typeOf Tryz.func60 (by kernel_rfl) (by kernel_rfl) (by kernel_rfl) (by kernel_rfl)
  have h11 : ∀ w : World, (callFunc 144 #[.agg #[.pointer (some ⟨4, 46, none⟩)]]).run Tryz.prog w = .ok (.value (.bool true)) w := fun w => by kernel_rfl
  go_enter Tryz.func45, Tryz.ntmps45
  go_wp2_with fail
  refine C.out.mono ?_
  rintro e w1 ⟨rfl, rfl⟩
  go_wp2_with fail
  go_ret
  exact ⟨rfl, rfl⟩

set_option maxHeartbeats 800000 in
theorem fault_Has (v : Value) (k i n : Int) (w : World) (hv : IsFault w v k i) :
    Calls Tryz.prog 23 #[v, .int .i64 n] w fun e w' => e = .returned (.bool (isKind n k)) ∧ w = w' := by
  obtain ⟨b, rfl, hblk⟩ := hv
  have C := Lib.hid (errors_Is ⟨b, 0, none⟩ n _ w (errors_is b k i n w hblk))
  clear hblk
  go_enter Tryz.func23, Tryz.ntmps23
  go_wp2_with fail
  refine C.out.mono ?_
  rintro e w1 ⟨rfl, rfl⟩
  go_wp2_with fail
  go_ret
  exact ⟨rfl, rfl⟩
end Go.Proofs.YtndppcklpcfikaaGreatDoor

/- Has of an error that came from another. -/
namespace Go.Proofs.YtndppcklpcfikaaGreatDoor
open Go.RowKit
set_option maxHeartbeats 800000 in
theorem fault_Has2 (v u : Value) (k i k2 i2 n : Int) (w : World) (hv : FaultIs w v k i u) (hu : IsFault w u k2 i2) :
    Calls Tryz.prog 23 #[v, .int .i64 n] w fun e w' => e = .returned (.bool (isKind n k || isKind n k2)) ∧ w = w' := by
  obtain ⟨b, rfl, hblk⟩ := hv
  obtain ⟨b2, rfl, hblk2⟩ := hu
  have C := Lib.hid (errors_Is ⟨b, 0, none⟩ n _ w (errors_is2 b b2 k i k2 i2 n w hblk hblk2))
  clear hblk hblk2
  go_enter Tryz.func23, Tryz.ntmps23
  go_wp2_with fail
  refine C.out.mono ?_
  rintro e w1 ⟨rfl, rfl⟩
  go_wp2_with fail
  go_ret
  exact ⟨rfl, rfl⟩
end Go.Proofs.YtndppcklpcfikaaGreatDoor

/- What a row's list of package variables gives: errors.errorType, the tables of unicode/utf8. A world that holds them. -/
namespace Go.Proofs.YtndppcklpcfikaaGreatDoor
open Go.ChangeShapes Go.WideShapes Go.RowKit

/-- The tables of unicode/utf8, as their initialisers lay them. -/
def Utf8Laid (w : World) : Prop := Lib.Utf8Tabs 1 2 w
theorem Utf8Laid.below {w w' : World} (h : Utf8Laid w) (hb : Below w.heap.size w w') : Utf8Laid w' :=
  ⟨fun c hc => (hb.cell (World.block_lt_of_cell? w _ (h.1 c hc))).trans (h.1 c hc),
    fun i hi => ⟨(hb.cell (World.block_lt_of_cell? w _ (h.2 i hi).1)).trans (h.2 i hi).1, (hb.cell (World.block_lt_of_cell? w _ (h.2 i hi).2)).trans (h.2 i hi).2⟩⟩
theorem Utf8Laid.drewN {w : World} (h : Utf8Laid w) (n : Nat) : Utf8Laid (w.drewN n) := h

def u8ren : Go.Shelf.Ren := ⟨fun n => n, fun | 5 => 5 | 119 => 151 | 138 => 176 | 139 => 177 | n => n, fun | 3 => 1 | 4 => 2 | n => n⟩
theorem u8types : U8Types Tryz.prog u8ren := { t5 := Tryz.underlying5, t119 := Tryz.underlying151, t138 := Tryz.underlying176, t139 := Tryz.underlying177 }
theorem u8extra : U8Extra Tryz.prog u8ren := { n3 := by kernel_rfl, n4 := by kernel_rfl, y3 := by kernel_rfl, y4 := by kernel_rfl, c5 := by kernel_rfl, c119 := by kernel_rfl, c138 := by kernel_rfl }
theorem u8first : Lib.firstData = Rows.laid_unicode_utf8_first := by kernel_rfl
theorem u8accept : Lib.acceptData = Rows.laid_unicode_utf8_acceptRanges := by kernel_rfl
noncomputable def laidWorld (os : Os) : World :=
  let w0 := World.holding Tryz.prog os ⟨#[], #[], []⟩
  let h1 := w0.heap.modify 0 fun
      | .cells _ t frozen => .cells #[.iface 122 (.agg #[.pointer (some ⟨4, 32, none⟩)])] t frozen
      | o => o
  let h2 := h1.modify 1 fun
      | .cells _ t frozen => .cells (Lib.firstTab.map (Value.int .u8)).toArray t frozen
      | o => o
  let h3 := h2.modify 2 fun
      | .cells _ t frozen => .cells ((List.range 16).flatMap fun i => [Value.int .u8 (Lib.accLo i : Nat), Value.int .u8 (Lib.accHi i : Nat)]).toArray t frozen
      | o => o
  { w0 with heap := h3 }
end Go.Proofs.YtndppcklpcfikaaGreatDoor

/- The walk of MediaAccepts. -/
namespace Go.Proofs.YtndppcklpcfikaaGreatDoor
open Go.RowKit

theorem isKind_self (k : Int) : isKind k k = true := by simp [isKind]
theorem sp17a : acceptM ⟨#[65, 112, 112, 108, 105, 99, 97, 116, 105, 111, 110, 47, 74, 83, 79, 78, 59, 32, 67, 104, 97, 114, 115, 101, 116, 61, 34, 85, 84, 70, 45, 56, 34]⟩ = (0, 0) := by decide +kernel
theorem sp17b : acceptM ⟨#[116, 101, 120, 116, 47, 104, 116, 109, 108]⟩ = (42, 0) := by decide +kernel
/-- Does the error that Accept gave hold a kind? -/
theorem acc_Has (v : Value) (a : Nat × Nat) (n : Int) (w : World) (h : IsAcc w v a) (hn : a.1 ≠ 0) (h2 : (a.2 = 0 ∧ n = 42) ∨ (a.2 ≠ 0 ∧ n = (a.2 : Int))) :
    Calls Tryz.prog 23 #[v, .int .i64 n] w fun e w' => e = .returned (.bool true) ∧ w = w' := by
  rcases h with ⟨rfl, _⟩ | ⟨rfl, hv⟩ | ⟨h42, hne, u, i, hv, hu⟩
  · exact absurd rfl hn
  · rcases h2 with ⟨_, rfl⟩ | ⟨h, _⟩
    · exact (fault_Has v 42 0 42 w hv).mono fun e w' ⟨h1, h2⟩ => ⟨by rw [h1]; rfl, h2⟩
    · exact absurd rfl h
  · rcases h2 with ⟨h, _⟩ | ⟨_, rfl⟩
    · exact absurd h hne
    · exact (fault_Has2 v u 42 0 _ _ _ w hv hu).mono fun e w' ⟨h1, h2⟩ => ⟨by rw [h1, isKind_self, Bool.or_true], h2⟩
theorem IsAcc.iface {w : World} {v : Value} {a : Nat × Nat} (h : IsAcc w v a) (hn : a.1 ≠ 0) : ∃ p, v = .iface 62 (.pointer (some p)) := by
  rcases h with ⟨rfl, _⟩ | ⟨_, hv⟩ | ⟨_, _, u, i, hv, _⟩
  · exact absurd rfl hn
  · obtain ⟨b, rfl, _⟩ := hv; exact ⟨_, rfl⟩
  · obtain ⟨b, rfl, _⟩ := hv; exact ⟨_, rfl⟩
theorem IsAcc.zero {w : World} {v : Value} {a : Nat × Nat} (h : IsAcc w v a) (hn : a.1 = 0) : a = (0, 0) ∧ v = .nilIface := by
  rcases h with h | ⟨rfl, _⟩ | ⟨h42, _⟩
  · exact h
  · cases hn
  · rw [hn] at h42; cases h42
set_option maxHeartbeats 1600000 in
set_option maxRecDepth 100000 in
theorem speaks17 (w : World) : Calls Tryz.prog 6 #[] w fun e w' => e = .returned (.bool true) ∧ Below w.heap.size w w' := by
  have c1' : ∀ W, Calls Tryz.prog 22 #[.string ⟨#[65, 112, 112, 108, 105, 99, 97, 116, 105, 111, 110, 47, 74, 83, 79, 78, 59, 32, 67, 104, 97, 114, 115, 101, 116, 61, 34, 85, 84, 70, 45, 56, 34]⟩] W fun e w' => e = .returned .nilIface ∧ Below W.heap.size W w' := fun W =>
    (media_Accept _ W).mono fun e w' ⟨hb, v, he, h⟩ => by
      rw [sp17a] at h
      rw [(h.zero rfl).2] at he
      exact ⟨he, hb⟩
  have c2' : ∀ W, Calls Tryz.prog 22 #[.string ⟨#[116, 101, 120, 116, 47, 104, 116, 109, 108]⟩] W fun e w' => Below W.heap.size W w' ∧ ∃ p, e = .returned (.iface 62 (.pointer (some p))) ∧ IsAcc w' (.iface 62 (.pointer (some p))) (42, 0) := fun W =>
    (media_Accept _ W).mono fun e w' ⟨hb, v, he, h⟩ => by
      rw [sp17b] at h
      obtain ⟨p, rfl⟩ := h.iface (by decide)
      exact ⟨hb, p, he, h⟩
  have C1 := Lib.hid c1'
  have C2 := Lib.hid c2'
  clear c1' c2'
  go_enter Tryz.func6, Tryz.ntmps6
  go_wp2_with fail
  refine (C1.out _).mono ?_
  rintro e w1 ⟨rfl, hb1⟩
  go_wp2_with fail
  refine (C2.out _).mono ?_
  rintro e w2 ⟨hb2, p, rfl, hv⟩
  have hb12 := Bt hb1 hb2
  have CH := Lib.hid (acc_Has _ _ 42 _ hv (by decide) (.inl ⟨rfl, rfl⟩))
  clear hv
  go_wp2_with fail
  refine CH.out.mono ?_
  rintro e w3 ⟨rfl, rfl⟩
  go_wp2_with fail
  go_ret
  exact ⟨rfl, hb12⟩
end Go.Proofs.YtndppcklpcfikaaGreatDoor

/- Rows of numbers that came in: rows of bytes, rows of ints. -/
namespace Go.Proofs.YtndppcklpcfikaaGreatDoor
open Go.RowKit

/-- A slice of numbers that came in: nil, or a row of so many cells, each fitting its kind. -/
def IsRow (k : IntKind) (w : World) (a : Option Addr) (len cap : Nat) (zs : List Int) : Prop :=
  (a = none ∧ len = 0 ∧ cap = 0 ∧ zs = []) ∨
  ∃ x, a = some x ∧ len ≤ cap ∧ cap ≤ maxLen ∧ zs.length = cap ∧ (∀ i, i < zs.length → w.cell? (x.add i) = some (.int k (zs.getD i 0))) ∧ ∀ n ∈ zs, (Lit.int k n).wf = true

theorem spot_none {w : World} {x : Addr} {v : Value} (h : w.cell? (x.add 0) = some v) : x = ⟨x.block, x.off, none⟩ ∧ x.block < w.heap.size := by
  have hb := World.block_lt_of_cell? w _ h
  cases x with
  | mk b o s =>
    cases s with
    | none => exact ⟨rfl, hb⟩
    | some q =>
      simp only [World.cell?, Addr.add] at h
      split at h <;> simp at h

theorem IsRow.bytes {w : World} {a : Option Addr} {len cap : Nat} {zs : List Int} (h : IsRow .u8 w a len cap zs) : ∃ s : ByteArray, s.size = len ∧ BytesSl w (.slice a len cap) s := by
  rcases h with ⟨rfl, rfl, rfl, rfl⟩ | ⟨x, rfl, hl, hm, hz, hcell, hwz⟩
  · exact ⟨ByteArray.empty, rfl, .inl ⟨rfl, none, 0, rfl⟩⟩
  · have hsz : (⟨((zs.take len).map fun n => UInt8.ofNat n.toNat).toArray⟩ : ByteArray).size = len := by
      show (((zs.take len).map fun n => UInt8.ofNat n.toNat).toArray).size = _
      simp; omega
    refine ⟨⟨((zs.take len).map fun n => UInt8.ofNat n.toNat).toArray⟩, hsz, ?_⟩
    by_cases h0 : len = 0
    · exact .inl ⟨hsz.trans h0, some x, cap, by rw [h0]⟩
    · obtain ⟨hx, hb⟩ := spot_none (hcell 0 (by omega))
      refine .inr ⟨x.block, x.off, cap, by rw [hsz, ← hx], by rw [hsz]; exact hl, hm, hb, fun j hj => ?_⟩
      rw [hsz] at hj
      have hc := hcell j (by omega)
      have hadd : x.add j = ⟨x.block, x.off + j, none⟩ := by cases x; cases hx; simp [Addr.add]
      rw [hadd] at hc
      rw [hc]
      have hjz : j < zs.length := by omega
      have hw := hwz zs[j] (List.getElem_mem _)
      simp [Lit.wf, IntKind.min, IntKind.max, IntKind.signed, IntKind.bits] at hw
      simp only [byteAt, List.getD, List.getElem?_map, List.getElem?_take, if_pos hj, List.getElem?_eq_getElem hjz, Option.map_some, Option.getD_some]
      rw [UInt8.toNat_ofNat_of_lt' (by have : zs[j].toNat < 256 := by omega
                                       exact this), Int.toNat_of_nonneg hw.1]

/-- A slice of ints that reads as these numbers. -/
def IntsSl (w : World) (v : Value) (l : List Int) : Prop :=
  (l = [] ∧ ∃ a cap, v = .slice a 0 cap) ∨ ∃ b off cap, v = .slice (some ⟨b, off, none⟩) l.length cap ∧ l.length ≤ cap ∧ cap ≤ maxLen ∧ b < w.heap.size ∧ ∀ j, j < l.length → w.cell? ⟨b, off + j, none⟩ = some (.int .i64 (l.getD j 0))
theorem IntsSl.below {w w' : World} {v : Value} {l : List Int} (h : IntsSl w v l) (hb : Below w.heap.size w w') : IntsSl w' v l := by
  rcases h with h | ⟨b, off, cap, e, h1, h2, h3, h4⟩
  · exact .inl h
  · exact .inr ⟨b, off, cap, e, h1, h2, Nat.lt_of_lt_of_le h3 hb.size, fun j hj => (hb.cell (p := ⟨b, off + j, none⟩) h3).trans (h4 j hj)⟩
theorem IsRow.ints {w : World} {a : Option Addr} {len cap : Nat} {zs : List Int} (h : IsRow .i64 w a len cap zs) : ∃ l : List Int, l.length = len ∧ IntsSl w (.slice a len cap) l ∧ ∀ n ∈ l, (Lit.int .i64 n).wf = true := by
  rcases h with ⟨rfl, rfl, rfl, rfl⟩ | ⟨x, rfl, hl, hm, hz, hcell, hwz⟩
  · exact ⟨[], rfl, .inl ⟨rfl, none, 0, rfl⟩, fun _ h => by cases h⟩
  · have hlen : (zs.take len).length = len := by simp; omega
    refine ⟨zs.take len, hlen, ?_, fun n hn => hwz n (List.mem_of_mem_take hn)⟩
    by_cases h0 : len = 0
    · exact .inl ⟨by rw [h0]; rfl, some x, cap, by rw [h0]⟩
    · obtain ⟨hx, hb⟩ := spot_none (hcell 0 (by omega))
      refine .inr ⟨x.block, x.off, cap, by rw [hlen, ← hx], by rw [hlen]; exact hl, hm, hb, fun j hj => ?_⟩
      rw [hlen] at hj
      have hc := hcell j (by omega)
      have hadd : x.add j = ⟨x.block, x.off + j, none⟩ := by cases x; cases hx; simp [Addr.add]
      rw [hadd] at hc
      rw [hc]
      simp [List.getD, hj]
end Go.Proofs.YtndppcklpcfikaaGreatDoor

/- A slice of items that came in. -/
namespace Go.Proofs.YtndppcklpcfikaaGreatDoor
open Go.RowKit Go.ChangeShapes Go.WideShapes

def sizedI (l : List It) : Prop := ∀ p ∈ l, p.name.size ≤ maxLen ∧ p.value.size ≤ maxLen
theorem cells_item : Tryz.prog.cellsOf 37 = 3 := by kernel_rfl
theorem cells_str : Tryz.prog.cellsOf 9 = 1 := by kernel_rfl
theorem cells_bool : Tryz.prog.cellsOf 4 = 1 := by kernel_rfl
set_option maxRecDepth 100000 in
theorem open_items {H : Type} {enc : TypeId × Value → H} {W : World} {base : Nat} {spare : Nat → Bool} {held : Bool} {fuel : Nat} {cs : List Value} {x : DataW H × List MemPlace} (h : DataW.trod enc Tryz.prog W base spare held fuel 22 cs = some x) :
    ∃ (a : Option Addr) (l : List It) (cap : Nat), cs = [.slice a l.length cap] ∧ l.length ≤ cap ∧ cap ≤ maxLen ∧ ItemsSl W a l ∧ sizedI l := by
  rcases Go.Deep.open_slice Tryz.underlying22 h with ⟨rfl, _⟩ | ⟨a, len, cap, m, n, D, Pl, rfl, hb, hl, hm, hmm, _, hx⟩
  · exact ⟨none, [], 0, rfl, Nat.le_refl _, Nat.zero_le _, fun i p h => by simp at h, fun p h => by cases h⟩
  have hlm : len ≤ m := by rw [hmm]; split <;> omega
  by_cases hlen0 : len = 0
  · subst hlen0
    exact ⟨some a, [], cap, rfl, hl, hm, fun i p h => by simp at h, fun p h => by cases h⟩
  obtain ⟨hspot, hblk⟩ : a = ⟨a.block, a.off, none⟩ ∧ a.block < W.heap.size := by
    obtain ⟨cs', h1, h2⟩ := hx 0 (by omega)
    rw [cells_item] at h1
    obtain ⟨_, hlen, hcell⟩ := World.cells?_some h1
    have c0 := hcell 0 (by omega)
    rw [Go.Deep.add_add, Nat.zero_mul, Nat.add_zero] at c0
    match cs', hlen with
    | [v0, v1, v2], _ => exact spot_none (c0.trans rfl)
  obtain ⟨ab, ao, asp⟩ := a
  obtain rfl : asp = none := by injection hspot
  dsimp only at hblk
  have each : ∀ i, i < len → ∃ p : It, (∃ b off, (⟨ab, ao, none⟩ : Addr) = ⟨b, off, none⟩ ∧ b < W.heap.size ∧
      W.cell? ⟨b, off + i * 3, none⟩ = some (.string p.name) ∧ W.cell? ⟨b, off + i * 3 + 1, none⟩ = some (.string p.value) ∧ W.cell? ⟨b, off + i * 3 + 2, none⟩ = some (.bool p.has)) ∧ p.name.size ≤ maxLen ∧ p.value.size ≤ maxLen := by
    intro i hi
    obtain ⟨cs', h1, h2⟩ := hx i (by omega)
    rw [cells_item] at h1
    obtain ⟨_, hlen, hcell⟩ := World.cells?_some h1
    obtain ⟨y0, y1, y2, k, _, _, g0, g1, g2⟩ := Go.Deep.trod_struct3 Tryz.underlying37 h2
    match cs', hlen with
    | [v0, v1, v2], _ =>
      simp [cells_str, cells_bool] at g0 g1 g2
      obtain ⟨s0, e0, _, z0⟩ := DataW.trod_string Tryz.underlying9 g0
      obtain ⟨s1, e1, _, z1⟩ := DataW.trod_string Tryz.underlying9 g1
      obtain ⟨b2, e2, _⟩ := DataW.trod_bool Tryz.underlying4 g2
      simp at e0 e1 e2
      subst e0 e1 e2
      have c0 := hcell 0 (by omega)
      have c1 := hcell 1 (by omega)
      have c2 := hcell 2 (by omega)
      rw [Go.Deep.add_add] at c0 c1 c2
      rw [Addr.add_lit] at c0 c1 c2
      refine ⟨⟨s0, s1, b2⟩, ⟨ab, ao, rfl, hblk, ?_, ?_, ?_⟩, z0, z1⟩
      · simpa using c0
      · simpa [Nat.add_assoc] using c1
      · simpa [Nat.add_assoc] using c2
  haveI : Inhabited It := ⟨⟨ByteArray.empty, ByteArray.empty, false⟩⟩
  obtain ⟨f, hf⟩ := Go.Deep.choose_lt each
  have hlen : ((List.range len).map f).length = len := by simp
  refine ⟨some ⟨ab, ao, none⟩, (List.range len).map f, cap, by rw [hlen], by rw [hlen]; exact hl, hm, fun i p hp => ?_, fun p hp => ?_⟩
  · have hi : i < len := by have := (List.getElem?_eq_some_iff.1 hp).1; simpa using this
    have : p = f i := by simpa [hi] using hp.symm
    subst this
    obtain ⟨⟨b, off, e, h1, h2, h3, h4⟩, _⟩ := hf i hi
    exact ⟨b, off, congrArg some e, h1, h2, h3, h4⟩
  · obtain ⟨i, hi, rfl⟩ := List.mem_map.1 hp
    exact (hf i (by simpa using hi)).2
end Go.Proofs.YtndppcklpcfikaaGreatDoor

/- A kind of content that came in. -/
namespace Go.Proofs.YtndppcklpcfikaaGreatDoor
open Go.RowKit Go.ChangeShapes Go.WideShapes

theorem cells_media : Tryz.prog.cellsOf 24 = 3 := by kernel_rfl
theorem cells_itemsM : Tryz.prog.cellsOf 22 = 1 := by kernel_rfl
set_option maxRecDepth 100000 in
theorem open_media {H : Type} {enc : TypeId × Value → H} {W : World} {base : Nat} {spare : Nat → Bool} {held : Bool} {fuel : Nat} {cs : List Value} {x : DataW H × List MemPlace} (h : DataW.trod enc Tryz.prog W base spare held fuel 24 cs = some x) :
    ∃ (a b : ByteArray) (pa : Option Addr) (m : List It) (c : Nat), cs = [.string a, .string b, .slice pa m.length c] ∧ a.size ≤ maxLen ∧ b.size ≤ maxLen ∧ m.length ≤ c ∧ c ≤ maxLen ∧ ItemsSl W pa m ∧ sizedI m := by
  obtain ⟨xs, k, _, _, hl, hlen, hf⟩ := DataW.trod_struct Tryz.underlying24 h
  rw [cells_media] at hl
  match xs, hlen, cs, hl with
  | [y0, y1, y2], _, [v0, v1, v2], _ =>
    have g0 := hf 0 _ rfl
    have g1 := hf 1 _ rfl
    have g2 := hf 2 _ rfl
    simp [cells_str, cells_itemsM] at g0 g1 g2
    obtain ⟨a, e0, _, z0⟩ := DataW.trod_string Tryz.underlying9 g0
    obtain ⟨b, e1, _, z1⟩ := DataW.trod_string Tryz.underlying9 g1
    simp at e0 e1
    subst e0 e1
    obtain ⟨pa, m, c, e2, h1, h2, h3, h4⟩ := open_items g2
    simp at e2
    subst e2
    exact ⟨a, b, pa, m, c, rfl, z0, z1, h1, h2, h3, h4⟩
end Go.Proofs.YtndppcklpcfikaaGreatDoor
