/- errors.Is at a fault and a number: its contract; the statements' Has. -/
import Derived.Test.YtndppcklpcfikaaGreatDoorMediaCasesM11
import Derived.LaidHandle
import Derived.LaidLaws
import Derived.Stop.Joined
import Derived.Lib.LaidU8T
import Derived.Shelf.Unicode.DecodeSlow
import Derived.Test.YtndppcklpcfikaaGreatDoorMediaCasesM18
import Derived.Test.YtndppcklpcfikaaGreatDoorMediaCasesM16

namespace Go.Proofs.YtndppcklpcfikaaGreatDoor
open Go.RowKit Go.Extern.Stop Go.Stop Go.Extern

theorem ret_beq {a b c : Int} (h : c = b) : Ending.returned (.bool (a == b)) = .returned (.bool (a == c)) := by rw [h]
theorem Is_assertErrno (v : Value) (w : World) : (Instr.typeAssert (.iface 46 v) 32 46 true).run Tryz.prog w = .ok (.tuple #[v, .bool true]) w := by kernel_rfl

set_option maxHeartbeats 800000 in
set_option maxRecDepth 100000 in
theorem fault_Is (b : Nat) (k i n : Int) (inner : Value) (w : World) (hblk : w.heap[b]? = some (.cells #[.int .i64 k, .int .i64 i, inner] 66 (0, 0))) :
    Calls Tryz.prog 136 #[.pointer (some ⟨b, 0, none⟩), .iface 46 (.int .i64 n)] w fun e w' => e = .returned (.bool (n == k)) ∧ w = w' := by
  have hc : w.cell? ⟨b, 0, none⟩ = some (.int .i64 k) := by rw [cell_of_row w b 0 _ _ _ hblk]; rfl
  clear hblk
  have ta := Is_assertErrno
  go_enter Tryz.func136, Tryz.ntmps136
  go_wp2_with fail
  go_ret
  exact ⟨rfl, rfl⟩

set_option maxHeartbeats 800000 in
set_option maxRecDepth 100000 in
theorem fault_Unwrap (b : Nat) (k i : Int) (inner : Value) (w : World) (hblk : w.heap[b]? = some (.cells #[.int .i64 k, .int .i64 i, inner] 66 (0, 0))) :
    Calls Tryz.prog 137 #[.pointer (some ⟨b, 0, none⟩)] w fun e w' => e = .returned inner ∧ w = w' := by
  have hc : w.cell? ⟨b, 2, none⟩ = some inner := by rw [cell_of_row w b 2 _ _ _ hblk]; rfl
  clear hblk
  go_enter Tryz.func137, Tryz.ntmps137
  go_wp2_with fail
  go_ret
  exact ⟨rfl, rfl⟩

theorem Is_eq (p : Addr) (n : Int) (w : World) : (binOp .eql 32 (.iface 62 (.pointer (some p))) (.iface 46 (.int .i64 n))).run Tryz.prog w = .ok (.bool false) w := by kernel_rfl
theorem Is_assertIs (p : Addr) (w : World) : (Instr.typeAssert (.iface 62 (.pointer (some p))) 32 134 true).run Tryz.prog w = .ok (.tuple #[.iface 62 (.pointer (some p)), .bool true]) w := by kernel_rfl
theorem Is_assertUnwrap (p : Addr) (w : World) : (Instr.typeAssert (.iface 62 (.pointer (some p))) 32 129 true).run Tryz.prog w = .ok (.tuple #[.iface 62 (.pointer (some p)), .bool true]) w := by kernel_rfl
theorem Is_methodIs (p : Addr) (w : World) : (Go.method 343 62 (.pointer (some p)) "Is").run Tryz.prog w = .ok (136, .pointer (some p)) w := by kernel_rfl
theorem Is_methodUnwrap (p : Addr) (w : World) : (Go.method 343 62 (.pointer (some p)) "Unwrap").run Tryz.prog w = .ok (137, .pointer (some p)) w := by kernel_rfl
theorem Is_typeOf (v : Value) (w : World) : (ReflectliteType.typeOf #[.iface 46 v]).run Tryz.prog w = .ok (.iface 122 (.agg #[.pointer (some ⟨4, 46, none⟩)])) w := by kernel_rfl
theorem Is_methodComparable (h : Value) (w : World) : (Go.method 343 122 (.agg #[h]) "Comparable").run Tryz.prog w = .ok (144, .agg #[h]) w := by kernel_rfl

/-- What errors.Is tells of a fault that came from nothing, or from such a one. -/
def isKind (n k : Int) : Bool := n == k

set_option maxHeartbeats 1600000 in
set_option maxRecDepth 100000 in
theorem errors_is (b : Nat) (k i n : Int) (w : World) (hblk : w.heap[b]? = some (.cells #[.int .i64 k, .int .i64 i, .nilIface] 66 (0, 0))) :
    Calls Tryz.prog 61 #[.iface 62 (.pointer (some ⟨b, 0, none⟩)), .iface 46 (.int .i64 n), .bool true] w fun e w' => e = .returned (.bool (isKind n k)) ∧ w = w' := by
  have c1 := Lib.hid (fault_Is b k i n .nilIface w hblk)
  have c2 := Lib.hid (fault_Unwrap b k i .nilIface w hblk)
  clear hblk
  have f1 := Is_eq
  have f2 := Is_assertIs
  have f3 := Is_assertUnwrap
  have f4 := Is_methodIs
  have f5 := Is_methodUnwrap
  by_cases hk : n = k
  · have e : isKind n k = true := by simp [isKind, hk]
    have E := Lib.hid e
    have e2 : (n == k) = true := e
    clear e hk
    go_enter Tryz.func61, Tryz.ntmps61
    go_wp2_with fail
    refine wp_loop_rounds 1 ?_
    rw [rounds_succ]
    go_wp2_with fail
    refine c1.out.mono ?_
    rintro e w1 ⟨rfl, rfl⟩
    go_wp2_with fail
    go_ret
    exact ⟨ret_bool E.out.symm, rfl⟩
  · have e : isKind n k = false := by simp [isKind, hk]
    have E := Lib.hid e
    have e2 : (n == k) = false := e
    clear e hk
    go_enter Tryz.func61, Tryz.ntmps61
    go_wp2_with fail
    refine wp_loop_rounds 1 ?_
    rw [rounds_succ]
    go_wp2_with fail
    refine c1.out.mono ?_
    rintro e w1 ⟨rfl, rfl⟩
    go_wp2_with fail
    refine c2.out.mono ?_
    rintro e w1 ⟨rfl, rfl⟩
    go_wp2_with fail
    go_ret
    exact ⟨ret_bool E.out.symm, rfl⟩

set_option maxHeartbeats 1600000 in
set_option maxRecDepth 100000 in
theorem errors_is2 (b b2 : Nat) (k i k2 i2 n : Int) (w : World) (hblk : w.heap[b]? = some (.cells #[.int .i64 k, .int .i64 i, .iface 62 (.pointer (some ⟨b2, 0, none⟩))] 66 (0, 0)))
    (hblk2 : w.heap[b2]? = some (.cells #[.int .i64 k2, .int .i64 i2, .nilIface] 66 (0, 0))) :
    Calls Tryz.prog 61 #[.iface 62 (.pointer (some ⟨b, 0, none⟩)), .iface 46 (.int .i64 n), .bool true] w fun e w' => e = .returned (.bool (isKind n k || isKind n k2)) ∧ w = w' := by
  have c1 := Lib.hid (fault_Is b k i n _ w hblk)
  have c2 := Lib.hid (fault_Unwrap b k i _ w hblk)
  have c3 := Lib.hid (fault_Is b2 k2 i2 n _ w hblk2)
  have c4 := Lib.hid (fault_Unwrap b2 k2 i2 _ w hblk2)
  clear hblk hblk2
  have f1 := Is_eq
  have f2 := Is_assertIs
  have f3 := Is_assertUnwrap
  have f4 := Is_methodIs
  have f5 := Is_methodUnwrap
  by_cases hk : n = k
  · have e : (isKind n k || isKind n k2) = true := by simp [isKind, hk]
    have E := Lib.hid e
    have e2 : (n == k) = true := by simp [hk]
    clear e hk
    go_enter Tryz.func61, Tryz.ntmps61
    go_wp2_with fail
    refine wp_loop_rounds 1 ?_
    rw [rounds_succ]
    go_wp2_with fail
    refine c1.out.mono ?_
    rintro e w1 ⟨rfl, rfl⟩
    go_wp2_with fail
    go_ret
    exact ⟨ret_bool E.out.symm, rfl⟩
  · have e2 : (n == k) = false := by simp [hk]
    by_cases hk2 : n = k2
    · have e : (isKind n k || isKind n k2) = true := by simp [isKind, hk2]
      have E := Lib.hid e
      have e3 : (n == k2) = true := by simp [hk2]
      clear e hk hk2
      go_enter Tryz.func61, Tryz.ntmps61
      go_wp2_with fail
      refine wp_loop_rounds 2 ?_
      rw [rounds_succ]
      go_wp2_with fail
      refine c1.out.mono ?_
      rintro e w1 ⟨rfl, rfl⟩
      go_wp2_with fail
      refine c2.out.mono ?_
      rintro e w1 ⟨rfl, rfl⟩
      go_wp2_with fail
      rw [rounds_succ]
      go_wp2_with fail
      refine c3.out.mono ?_
      rintro e w1 ⟨rfl, rfl⟩
      go_wp2_with fail
      go_ret
      exact ⟨ret_bool E.out.symm, rfl⟩
    · have e : (isKind n k || isKind n k2) = false := by simp [isKind, hk, hk2]
      have E := Lib.hid e
      have e3 : (n == k2) = false := by simp [hk2]
      clear e hk hk2
      go_enter Tryz.func61, Tryz.ntmps61
      go_wp2_with fail
      refine wp_loop_rounds 2 ?_
      rw [rounds_succ]
      go_wp2_with fail
      refine c1.out.mono ?_
      rintro e w1 ⟨rfl, rfl⟩
      go_wp2_with fail
      refine c2.out.mono ?_
      rintro e w1 ⟨rfl, rfl⟩
      go_wp2_with fail
      rw [rounds_succ]
      go_wp2_with fail
      refine c3.out.mono ?_
      rintro e w1 ⟨rfl, rfl⟩
      go_wp2_with fail
      refine c4.out.mono ?_
      rintro e w1 ⟨rfl, rfl⟩
      go_wp2_with fail
      go_ret
      exact ⟨ret_bool E.out.symm, rfl⟩

set_option maxHeartbeats 1600000 in
set_option maxRecDepth 100000 in
theorem errors_Is (p : Addr) (n : Int) (r : Bool) (w : World)
    (c : Calls Tryz.prog 61 #[.iface 62 (.pointer (some p)), .iface 46 (.int .i64 n), .bool true] w fun e w' => e = .returned (.bool r) ∧ w = w') :
    Calls Tryz.prog 45 #[.iface 62 (.pointer (some p)), .iface 46 (.int .i64 n)] w fun e w' => e = .returned (.bool r) ∧ w = w' := by
  have C := Lib.hid c
  clear c
  have f1 := Is_typeOf
  have f2 := Is_methodComparable
  have h10 := @run_callFunc_extern Tryz.prog 60 _ ReflectliteType.typeOf Tryz.func60 (by kernel_rfl) (by kernel_rfl) (by kernel_rfl) (by kernel_rfl)
  have h11 : ∀ w : World, (callFunc 144 #[.agg #[.pointer (some ⟨4, 46, none⟩)]]).run Tryz.prog w = .ok (.value (.bool true)) w := fun w => by kernel_rfl
  go_enter Tryz.func45, Tryz.ntmps45
  go_wp2_with fail
  refine C.out.mono ?_
  rintro e w1 ⟨rfl, rfl⟩
  go_wp2_with fail
  go_ret
  exact ⟨rfl, rfl⟩

set_option maxHeartbeats 800000 in
theorem fault_Has (v : Value) (k i n : Int) (w : World) (hv : IsFault w v k i) :
    Calls Tryz.prog 23 #[v, .int .i64 n] w fun e w' => e = .returned (.bool (isKind n k)) ∧ w = w' := by
  obtain ⟨b, rfl, hblk⟩ := hv
  have C := Lib.hid (errors_Is ⟨b, 0, none⟩ n _ w (errors_is b k i n w hblk))
  clear hblk
  go_enter Tryz.func23, Tryz.ntmps23
  go_wp2_with fail
  refine C.out.mono ?_
  rintro e w1 ⟨rfl, rfl⟩
  go_wp2_with fail
  go_ret
  exact ⟨rfl, rfl⟩
end Go.Proofs.YtndppcklpcfikaaGreatDoor

/- Has of an error that came from another. -/
namespace Go.Proofs.YtndppcklpcfikaaGreatDoor
open Go.RowKit
set_option maxHeartbeats 800000 in
theorem fault_Has2 (v u : Value) (k i k2 i2 n : Int) (w : World) (hv : FaultIs w v k i u) (hu : IsFault w u k2 i2) :
    Calls Tryz.prog 23 #[v, .int .i64 n] w fun e w' => e = .returned (.bool (isKind n k || isKind n k2)) ∧ w = w' := by
  obtain ⟨b, rfl, hblk⟩ := hv
  obtain ⟨b2, rfl, hblk2⟩ := hu
  have C := Lib.hid (errors_Is ⟨b, 0, none⟩ n _ w (errors_is2 b b2 k i k2 i2 n w hblk hblk2))
  clear hblk hblk2
  go_enter Tryz.func23, Tryz.ntmps23
  go_wp2_with fail
  refine C.out.mono ?_
  rintro e w1 ⟨rfl, rfl⟩
  go_wp2_with fail
  go_ret
  exact ⟨rfl, rfl⟩
end Go.Proofs.YtndppcklpcfikaaGreatDoor

/- What a row's list of package variables gives: errors.errorType, the tables of unicode/utf8. A world that holds them. -/
namespace Go.Proofs.YtndppcklpcfikaaGreatDoor
open Go.ChangeShapes Go.WideShapes Go.RowKit

/-- The tables of unicode/utf8, as their initialisers lay them. -/
def Utf8Laid (w : World) : Prop := Lib.Utf8Tabs 1 2 w
theorem Utf8Laid.below {w w' : World} (h : Utf8Laid w) (hb : Below w.heap.size w w') : Utf8Laid w' :=
  ⟨fun c hc => (hb.cell (World.block_lt_of_cell? w _ (h.1 c hc))).trans (h.1 c hc),
    fun i hi => ⟨(hb.cell (World.block_lt_of_cell? w _ (h.2 i hi).1)).trans (h.2 i hi).1, (hb.cell (World.block_lt_of_cell? w _ (h.2 i hi).2)).trans (h.2 i hi).2⟩⟩
theorem Utf8Laid.drewN {w : World} (h : Utf8Laid w) (n : Nat) : Utf8Laid (w.drewN n) := h

def u8ren : Go.Shelf.Ren := ⟨fun n => n, fun | 5 => 5 | 119 => 151 | 138 => 176 | 139 => 177 | n => n, fun | 3 => 1 | 4 => 2 | n => n⟩
theorem u8types : U8Types Tryz.prog u8ren := { t5 := Tryz.underlying5, t119 := Tryz.underlying151, t138 := Tryz.underlying176, t139 := Tryz.underlying177 }
theorem u8extra : U8Extra Tryz.prog u8ren := { n3 := by kernel_rfl, n4 := by kernel_rfl, y3 := by kernel_rfl, y4 := by kernel_rfl, c5 := by kernel_rfl, c119 := by kernel_rfl, c138 := by kernel_rfl }
theorem u8first : Lib.firstData = Rows.laid_unicode_utf8_first := by kernel_rfl
theorem u8accept : Lib.acceptData = Rows.laid_unicode_utf8_acceptRanges := by kernel_rfl
noncomputable def laidWorld (os : Os) : World :=
  let w0 := World.holding Tryz.prog os ⟨#[], #[], []⟩
  let h1 := w0.heap.modify 0 fun
      | .cells _ t frozen => .cells #[.iface 122 (.agg #[.pointer (some ⟨4, 32, none⟩)])] t frozen
      | o => o
  let h2 := h1.modify 1 fun
      | .cells _ t frozen => .cells (Lib.firstTab.map (Value.int .u8)).toArray t frozen
      | o => o
  let h3 := h2.modify 2 fun
      | .cells _ t frozen => .cells ((List.range 16).flatMap fun i => [Value.int .u8 (Lib.accLo i : Nat), Value.int .u8 (Lib.accHi i : Nat)]).toArray t frozen
      | o => o
  { w0 with heap := h3 }
end Go.Proofs.YtndppcklpcfikaaGreatDoor

/- The walk of MediaAccepts. -/
namespace Go.Proofs.YtndppcklpcfikaaGreatDoor
open Go.RowKit

theorem isKind_self (k : Int) : isKind k k = true := by simp [isKind]
theorem sp17a : acceptM ⟨#[65, 112, 112, 108, 105, 99, 97, 116, 105, 111, 110, 47, 74, 83, 79, 78, 59, 32, 67, 104, 97, 114, 115, 101, 116, 61, 34, 85, 84, 70, 45, 56, 34]⟩ = (0, 0) := by decide +kernel
theorem sp17b : acceptM ⟨#[116, 101, 120, 116, 47, 104, 116, 109, 108]⟩ = (42, 0) := by decide +kernel
/-- Does the error that Accept gave hold a kind? -/
theorem acc_Has (v : Value) (a : Nat × Nat) (n : Int) (w : World) (h : IsAcc w v a) (hn : a.1 ≠ 0) (h2 : (a.2 = 0 ∧ n = 42) ∨ (a.2 ≠ 0 ∧ n = (a.2 : Int))) :
    Calls Tryz.prog 23 #[v, .int .i64 n] w fun e w' => e = .returned (.bool true) ∧ w = w' := by
  rcases h with ⟨rfl, _⟩ | ⟨rfl, hv⟩ | ⟨h42, hne, u, i, hv, hu⟩
  · exact absurd rfl hn
  · rcases h2 with ⟨_, rfl⟩ | ⟨h, _⟩
    · exact (fault_Has v 42 0 42 w hv).mono fun e w' ⟨h1, h2⟩ => ⟨by rw [h1]; rfl, h2⟩
    · exact absurd rfl h
  · rcases h2 with ⟨h, _⟩ | ⟨_, rfl⟩
    · exact absurd h hne
    · exact (fault_Has2 v u 42 0 _ _ _ w hv hu).mono fun e w' ⟨h1, h2⟩ => ⟨by rw [h1, isKind_self, Bool.or_true], h2⟩
theorem IsAcc.iface {w : World} {v : Value} {a : Nat × Nat} (h : IsAcc w v a) (hn : a.1 ≠ 0) : ∃ p, v = .iface 62 (.pointer (some p)) := by
  rcases h with ⟨rfl, _⟩ | ⟨_, hv⟩ | ⟨_, _, u, i, hv, _⟩
  · exact absurd rfl hn
  · obtain ⟨b, rfl, _⟩ := hv; exact ⟨_, rfl⟩
  · obtain ⟨b, rfl, _⟩ := hv; exact ⟨_, rfl⟩
theorem IsAcc.zero {w : World} {v : Value} {a : Nat × Nat} (h : IsAcc w v a) (hn : a.1 = 0) : a = (0, 0) ∧ v = .nilIface := by
  rcases h with h | ⟨rfl, _⟩ | ⟨h42, _⟩
  · exact h
  · cases hn
  · rw [hn] at h42; cases h42
set_option maxHeartbeats 1600000 in
set_option maxRecDepth 100000 in
theorem speaks17 (w : World) : Calls Tryz.prog 6 #[] w fun e w' => e = .returned (.bool true) ∧ Below w.heap.size w w' := by
  have c1' : ∀ W, Calls Tryz.prog 22 #[.string ⟨#[65, 112, 112, 108, 105, 99, 97, 116, 105, 111, 110, 47, 74, 83, 79, 78, 59, 32, 67, 104, 97, 114, 115, 101, 116, 61, 34, 85, 84, 70, 45, 56, 34]⟩] W fun e w' => e = .returned .nilIface ∧ Below W.heap.size W w' := fun W =>
    (media_Accept _ W).mono fun e w' ⟨hb, v, he, h⟩ => by
      rw [sp17a] at h
      rw [(h.zero rfl).2] at he
      exact ⟨he, hb⟩
  have c2' : ∀ W, Calls Tryz.prog 22 #[.string ⟨#[116, 101, 120, 116, 47, 104, 116, 109, 108]⟩] W fun e w' => Below W.heap.size W w' ∧ ∃ p, e = .returned (.iface 62 (.pointer (some p))) ∧ IsAcc w' (.iface 62 (.pointer (some p))) (42, 0) := fun W =>
    (media_Accept _ W).mono fun e w' ⟨hb, v, he, h⟩ => by
      rw [sp17b] at h
      obtain ⟨p, rfl⟩ := h.iface (by decide)
      exact ⟨hb, p, he, h⟩
  have C1 := Lib.hid c1'
  have C2 := Lib.hid c2'
  clear c1' c2'
  go_enter Tryz.func6, Tryz.ntmps6
  go_wp2_with fail
  refine (C1.out _).mono ?_
  rintro e w1 ⟨rfl, hb1⟩
  go_wp2_with fail
  refine (C2.out _).mono ?_
  rintro e w2 ⟨hb2, p, rfl, hv⟩
  have hb12 := Bt hb1 hb2
  have CH := Lib.hid (acc_Has _ _ 42 _ hv (by decide) (.inl ⟨rfl, rfl⟩))
  clear hv
  go_wp2_with fail
  refine CH.out.mono ?_
  rintro e w3 ⟨rfl, rfl⟩
  go_wp2_with fail
  go_ret
  exact ⟨rfl, hb12⟩
end Go.Proofs.YtndppcklpcfikaaGreatDoor

/- The walk of MediaReads. -/
namespace Go.Proofs.YtndppcklpcfikaaGreatDoor
open Go.RowKit

theorem parseM_err {s : ByteArray} {k i : Nat} (h : parseM s = .error (k, i)) : i = 0 ∨ (k = 14 ∧ i = 1000) := by
  unfold parseM at h
  split at h
  · cases h; exact .inr ⟨rfl, rfl⟩
  · split at h
    · cases h; exact .inl rfl
    · split at h
      · cases h; exact .inl rfl
      · split at h
        · cases h; exact .inl rfl
        · split at h
          · cases h; exact .inl rfl
          · cases h
theorem parseM_fit {s : ByteArray} {m : Md} (h : parseM s = .ok m) : m.params.length ≤ 30 ∧ m.type.size ≤ 1000 ∧ m.sub.size ≤ 1000 ∧ ∀ x ∈ m.params, x.name.size ≤ 1000 ∧ x.value.size ≤ 1000 := by
  obtain ⟨h1, h2, h3, h4⟩ := parseM_sizes h
  obtain ⟨_, _, g, _⟩ := parseM_good h
  refine ⟨by omega, h1, h2, fun x hx => ⟨?_, h4 x hx⟩⟩
  have := (tokOk_parts (g x hx).1.1).2.2
  have hL : x.name.data.toList.length = x.name.size := rfl
  simp only at this
  omega
theorem mreads_long (s : ByteArray) (w : World) (h : 1500 < s.size) : Calls Tryz.prog 5 #[.string s] w fun e w' => e = .returned (.bool true) ∧ Below w.heap.size w w' := by
  have e1 : (s.size : Int) > 1500 := by omega
  go_enter Tryz.func5, Tryz.ntmps5
  go_wp2_with fail
  refine (speaks17 _).mono ?_
  rintro e w1 ⟨rfl, hb1⟩
  go_wp2_with fail
  go_ret
  exact ⟨rfl, hb1⟩
set_option maxHeartbeats 6400000 in
set_option maxRecDepth 100000 in
theorem mreads_err (s : ByteArray) (k i : Nat) (w : World) (hg : Handle w) (hs : s.size ≤ 1500) (hp : parseM s = .error (k, i)) : Calls Tryz.prog 5 #[.string s] w fun e w' => e = .returned (.bool true) ∧ Below w.heap.size w w' := by
  have e1 : ¬ (s.size : Int) > 1500 := by omega
  have hk0 := parseM_kind hp
  have hki := parseM_err hp
  have cP' : ∀ W, Calls Tryz.prog 14 #[.string s] W fun e w' => Below W.heap.size W w' ∧ ∃ v, e = .returned (.tuple #[.agg #[.string ⟨#[]⟩, .string ⟨#[]⟩, .slice none 0 0], v]) ∧ IsFault w' v (k : Int) (i : Int) := fun W =>
    (media_Parse s W).mono fun e w' ⟨hb, h⟩ => by
      refine ⟨hb, ?_⟩
      rcases h with ⟨m, h, _⟩ | ⟨k', i', h, v, he, hv⟩
      · rw [hp] at h; cases h
      · rw [hp] at h; cases h; exact ⟨v, he, hv⟩
  have cR' : ∀ W, Calls Tryz.prog 17 #[.string s] W fun e w' => e = .returned (.tuple #[.agg #[.string ⟨#[]⟩, .string ⟨#[]⟩, .slice none 0 0], .int .i64 (k : Nat)]) ∧ Below W.heap.size W w' := fun W =>
    (ref17_Parse s W).mono fun e w' ⟨hb, h⟩ => by
      rcases h with ⟨m, h, _⟩ | ⟨k', i', h, he⟩
      · rw [hp] at h; cases h
      · rw [hp] at h; cases h; exact ⟨he, hb⟩
  have cP := Lib.hid cP'
  have cR := Lib.hid cR'
  have cT := Lib.hid (fun W => media_Token s W (by omega))
  have cU := Lib.hid (fun W => ref17_Token s W (by omega))
  clear cP' cR' hp
  generalize tokOk s.data.toList = tk at *
  go_enter Tryz.func5, Tryz.ntmps5
  go_wp2_with fail
  refine (speaks17 _).mono ?_
  rintro e w1 ⟨rfl, hb1⟩
  go_wp2_with fail
  refine (cP.out _).mono ?_
  rintro e w2 ⟨hb2, v, rfl, hv⟩
  have hb12 := Bt hb1 hb2
  have hm3 := MediaAt.new (w := w2) (n := ⟨#[]⟩) (v := ⟨#[]⟩) (pa := none) (l := 0) (c := 0)
  have hst := (Below.refl w2.heap.size w2).alloc (Nat.le_refl _) (.cells #[.string ⟨#[]⟩, .string ⟨#[]⟩, .slice none 0 0] 24)
  have hb13 := Bt hb12 hst
  have hv3 := FaultIs.below hv hst
  obtain ⟨q, rfl⟩ := hv.ne_nil
  have HV3 := Lib.hid hv3
  clear hb1 hb2 hb12 hst hv hv3
  go_wp2_with fail
  refine (cR.out _).mono ?_
  rintro e w4 ⟨rfl, hb4⟩
  have hm4 := hm3.below hb4
  have hb14 := Bt hb13 hb4
  have hv4 := FaultIs.below HV3.out hb4
  have hm5 := MediaAt.new (w := w4) (n := ⟨#[]⟩) (v := ⟨#[]⟩) (pa := none) (l := 0) (c := 0)
  have hst := (Below.refl w4.heap.size w4).alloc (Nat.le_refl _) (.cells #[.string ⟨#[]⟩, .string ⟨#[]⟩, .slice none 0 0] 24)
  have hm4' := hm4.below hst
  have hb15 := Bt hb14 hst
  have hv5 := FaultIs.below hv4 hst
  have L4 := hm4'.load
  have L5 := hm5.load
  obtain ⟨x0, x1, x2⟩ := hm4'.cells
  obtain ⟨y0, y1, y2⟩ := hm5.cells
  have HV5 := Lib.hid hv5
  clear hm3 hb13 HV3 hb4 hm4 hb14 hv4 hst hv5 hm5 hm4'
  go_wp2_with fail
  refine (ref17_Same_nil _).mono ?_
  rintro e w6 ⟨rfl, hb6⟩
  have hb16 := Bt hb15 hb6
  have hv6 := FaultIs.below HV5.out hb6
  have hg6 := hg.below hb16
  have cK := Lib.hid (fault_Kind _ k i w6 hg6 (.inr ⟨hk0, _, hv6⟩))
  have HV6 := Lib.hid hv6
  clear hb15 hb6 HV5 hv6 L4 L5 x0 x1 x2 y0 y1 y2 cP cR
  go_wp2_with fail
  refine cK.out.mono ?_
  rintro e w7 ⟨rfl, hb7⟩
  have hb17 := Bt hb16 hb7
  have hv7 := FaultIs.below HV6.out hb7
  have HV7 := Lib.hid hv7
  have ek : ((k : Int) != (k : Int)) = false := bne_self_eq_false _
  clear hb16 hb7 HV6 hv7 cK hg6
  go_wp2_with fail
  refine (cT.out _).mono ?_
  rintro e w8 ⟨rfl, hb8⟩
  have hb18 := Bt hb17 hb8
  have hv8 := FaultIs.below HV7.out hb8
  have hg8 := hg.below hb18
  have cA := Lib.hid (fun W (hb : Below w8.heap.size w8 W) => fault_At _ k i W (hg8.below hb) (.inr ⟨hk0, _, FaultIs.below hv8 hb⟩) hk0)
  have et : (tk != tk) = false := bne_self_eq_false _
  clear hb17 hb8 HV7 hv8 hg8
  go_wp2_with fail
  refine (cU.out _).mono ?_
  rintro e w9 ⟨rfl, rfl⟩
  go_wp2_with fail
  refine (cA.out _ (Below.refl _ _)).mono ?_
  rintro e w10 ⟨rfl, hb10⟩
  have hb110 := Bt hb18 hb10
  rcases hki with rfl | ⟨rfl, rfl⟩
  · go_wp2_with fail
    go_ret
    exact ⟨rfl, hb110⟩
  · go_wp2_with fail
    refine (cA.out _ hb10).mono ?_
    rintro e w11 ⟨rfl, hb11⟩
    have hb111 := Bt hb110 hb11
    go_wp2_with fail
    go_ret
    exact ⟨rfl, hb111⟩
set_option maxHeartbeats 6400000 in
set_option maxRecDepth 100000 in
theorem mreads_ok (s : ByteArray) (m : Md) (w : World) (hg : Handle w) (hs : s.size ≤ 1500) (hp : parseM s = .ok m) : Calls Tryz.prog 5 #[.string s] w fun e w' => e = .returned (.bool true) ∧ Below w.heap.size w w' := by
  have e1 : ¬ (s.size : Int) > 1500 := by omega
  obtain ⟨f1, f2, f3, f4⟩ := parseM_fit hp
  have hback := fun h => text_back hp h
  have cP' : ∀ t, parseM t = .ok m → ∀ W, Calls Tryz.prog 14 #[.string t] W fun e w' => Below W.heap.size W w' ∧ ∃ pa c, e = .returned (.tuple #[.agg #[.string m.type, .string m.sub, .slice pa m.params.length c], .nilIface]) ∧ ItemsSl w' pa m.params := fun t ht W =>
    (media_Parse t W).mono fun e w' ⟨hb, h⟩ => by
      refine ⟨hb, ?_⟩
      rcases h with ⟨m', h, pa, c, he, _, _, hv⟩ | ⟨k', i', h, _⟩
      · rw [ht] at h; cases h; exact ⟨pa, c, he, hv.items⟩
      · rw [ht] at h; cases h
  have cL' : ∀ t : ByteArray, 1000 < t.size → ∀ W, Calls Tryz.prog 14 #[.string t] W fun e w' => Below W.heap.size W w' ∧ ∃ v, e = .returned (.tuple #[.agg #[.string ⟨#[]⟩, .string ⟨#[]⟩, .slice none 0 0], v]) := fun t ht W =>
    (media_Parse_long t W ht).mono fun e w' ⟨hb, h⟩ => by
      refine ⟨hb, ?_⟩
      rcases h with ⟨m', h, _⟩ | ⟨k', i', h, v, he, hv⟩
      · unfold parseM at h; rw [if_pos ht] at h; cases h
      · exact ⟨v, he⟩
  have cR' : ∀ W, Calls Tryz.prog 17 #[.string s] W fun e w' => Below W.heap.size W w' ∧ ∃ pa c, e = .returned (.tuple #[.agg #[.string m.type, .string m.sub, .slice pa m.params.length c], .int .i64 0]) ∧ ItemsSl w' pa m.params := fun W =>
    (ref17_Parse s W).mono fun e w' ⟨hb, h⟩ => by
      refine ⟨hb, ?_⟩
      rcases h with ⟨m', h, pa, c, he, hv⟩ | ⟨k', i', h, _⟩
      · rw [hp] at h; cases h; exact ⟨pa, c, he, hv.items⟩
      · rw [hp] at h; cases h
  have cP := Lib.hid (fun W => cP' s hp W)
  have cB := Lib.hid (fun h W => cP' (ofL (mtxt m)) (hback h) W)
  have cL := Lib.hid (fun h W => cL' (ofL (mtxt m)) h W)
  have cR := Lib.hid cR'
  have cT := Lib.hid (fun W => media_Token s W (by omega))
  have cU := Lib.hid (fun W => ref17_Token s W (by omega))
  clear cP' cR' cL' hp hback
  generalize tokOk s.data.toList = tk at *
  obtain ⟨mt, ms, mp⟩ := m
  simp only at f1 f2 f3 f4 cP cB cL cR
  have cX := Lib.hid (fun pa c W (h : ItemsSl W pa mp) => media_Text mt ms pa c mp W h f1 f2 f3 f4)
  have cS := Lib.hid (fun p1 c1 p2 c2 W (h1 : ItemsSl W p1 mp) (h2 : ItemsSl W p2 mp) => ref17_Same mt ms p1 c1 p2 c2 mp W h1 h2 (by omega))
  have hTz := ofL_size (mtxt ⟨mt, ms, mp⟩)
  clear f4
  generalize mtxt ⟨mt, ms, mp⟩ = TL at *
  generalize ofL TL = T at *
  go_enter Tryz.func5, Tryz.ntmps5
  go_wp2_with fail
  refine (speaks17 _).mono ?_
  rintro e w1 ⟨rfl, hb1⟩
  go_wp2_with fail
  refine (cP.out _).mono ?_
  rintro e w2 ⟨hb2, pa, pc, rfl, hi2⟩
  have hb12 := Bt hb1 hb2
  have hm3 := MediaAt.new (w := w2) (n := mt) (v := ms) (pa := pa) (l := mp.length) (c := pc)
  have hst := (Below.refl w2.heap.size w2).alloc (Nat.le_refl _) (.cells #[.string mt, .string ms, .slice pa mp.length pc] 24)
  have hb13 := Bt hb12 hst
  have hi3 := hi2.below hst
  clear hb1 hb2 hb12 hst hi2
  go_wp2_with fail
  refine (cR.out _).mono ?_
  rintro e w4 ⟨hb4, qa, qc, rfl, hj4⟩
  have hm4 := hm3.below hb4
  have hi4 := hi3.below hb4
  have hb14 := Bt hb13 hb4
  have hm5 := MediaAt.new (w := w4) (n := mt) (v := ms) (pa := qa) (l := mp.length) (c := qc)
  have hst := (Below.refl w4.heap.size w4).alloc (Nat.le_refl _) (.cells #[.string mt, .string ms, .slice qa mp.length qc] 24)
  have hm4' := hm4.below hst
  have hi5 := hi4.below hst
  have hj5 := hj4.below hst
  have hb15 := Bt hb14 hst
  have L4 := hm4'.load
  have L5 := hm5.load
  obtain ⟨x0, x1, x2⟩ := hm4'.cells
  obtain ⟨y0, y1, y2⟩ := hm5.cells
  have CS := Lib.hid (cS.out pa pc qa qc _ hi5 hj5)
  clear hm3 hb13 hb4 hm4 hb14 hst hm5 hi3 hj4 hi4 hj5
  go_wp2_with fail
  refine CS.out.mono ?_
  rintro e w6 ⟨rfl, hb6⟩
  have hb16 := Bt hb15 hb6
  have hm6 := hm4'.below hb6
  have hi6 := hi5.below hb6
  clear hb15 hb6 L4 L5 x0 x1 x2 y0 y1 y2 cP cR CS hm4' hi5
  go_wp2_with fail
  refine (fault_Kind_nil _).mono ?_
  rintro e w7 ⟨rfl, hb7⟩
  have hb17 := Bt hb16 hb7
  have hm7 := hm6.below hb7
  have hi7 := hi6.below hb7
  clear hb16 hb7 hm6 hi6
  go_wp2_with fail
  refine (cT.out _).mono ?_
  rintro e w8 ⟨rfl, hb8⟩
  have hb18 := Bt hb17 hb8
  have hm8 := hm7.below hb8
  have hi8 := hi7.below hb8
  have et : (tk != tk) = false := bne_self_eq_false _
  have CX := Lib.hid (cX.out pa pc _ hi8)
  have L8 := hm8.load
  obtain ⟨x0, x1, x2⟩ := hm8.cells
  clear hb17 hb8 hm7 hi7
  go_wp2_with fail
  refine (cU.out _).mono ?_
  rintro e w9 ⟨rfl, rfl⟩
  go_wp2_with fail
  refine CX.out.mono ?_
  rintro e w10 ⟨rfl, hb10⟩
  have hb110 := Bt hb18 hb10
  have hm10 := hm8.below hb10
  have hi10 := hi8.below hb10
  clear hb18 hb10 hm8 hi8 x0 x1 x2 L8 CX cX
  by_cases hT : T.size ≤ 1000
  · have hTI : ¬ (T.size : Int) > 1000 := by omega
    have CB := Lib.hid (cB.out (by omega))
    clear hT hTz
    go_wp2_with fail
    refine (CB.out _).mono ?_
    rintro e w11 ⟨hb11, ra, rc, rfl, hk11⟩
    have hb111 := Bt hb110 hb11
    have hm11 := hm10.below hb11
    have hi11 := hi10.below hb11
    have hm12 := MediaAt.new (w := w11) (n := mt) (v := ms) (pa := ra) (l := mp.length) (c := rc)
    have hst := (Below.refl w11.heap.size w11).alloc (Nat.le_refl _) (.cells #[.string mt, .string ms, .slice ra mp.length rc] 24)
    have hm11' := hm11.below hst
    have hi12 := hi11.below hst
    have hk12 := hk11.below hst
    have hb112 := Bt hb111 hst
    have L11 := hm11'.load
    have L12 := hm12.load
    obtain ⟨x0, x1, x2⟩ := hm11'.cells
    obtain ⟨y0, y1, y2⟩ := hm12.cells
    have CS := Lib.hid (cS.out ra rc pa pc _ hk12 hi12)
    clear hb110 hm10 hi10 hb11 hb111 hm11 hi11 hst hm11' hm12 hi12 hk12 hk11 CB
    go_wp2_with fail
    refine CS.out.mono ?_
    rintro e w13 ⟨rfl, hb13⟩
    go_wp2_with fail
    go_ret
    exact ⟨rfl, Bt hb112 hb13⟩
  · have hTI : (T.size : Int) > 1000 := by omega
    have CL := Lib.hid (cL.out (by omega))
    clear hT hTz
    go_wp2_with fail
    refine (CL.out _).mono ?_
    rintro e w11 ⟨hb11, v, rfl⟩
    have hb111 := Bt hb110 hb11
    have hst := (Below.refl w11.heap.size w11).alloc (Nat.le_refl _) (.cells #[.string ⟨#[]⟩, .string ⟨#[]⟩, .slice none 0 0] 24)
    go_wp2_with fail
    go_ret
    exact ⟨rfl, Bt hb111 hst⟩
theorem walkMediaReads (s : ByteArray) (w : World) (hg : Handle w) (_ : Utf8Laid w) (_ : s.size ≤ maxLen) : Calls Tryz.prog 5 #[.string s] w fun e w' => e = .returned (.bool true) ∧ Below w.heap.size w w' := by
  by_cases h : s.size ≤ 1500
  · cases hp : parseM s with
    | ok m => exact mreads_ok s m w hg h hp
    | error x => obtain ⟨k, i⟩ := x; exact mreads_err s k i w hg h hp
  · exact mreads_long s w (by omega)
end Go.Proofs.YtndppcklpcfikaaGreatDoor
