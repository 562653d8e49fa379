/- errors.Is at a fault and a number: its contract; the statements' Has. -/
import Derived.Test.YtpaeloadmjblpaaDoorKind
namespace Go.Proofs.YtpaeloadmjblpaaDoor
open Go.RowKit Go.Extern.Stop Go.Stop Go.Extern

theorem ret_beq {a b c : Int} (h : c = b) : Ending.returned (.bool (a == b)) = .returned (.bool (a == c)) := by rw [h]
theorem Is_assertErrno (v : Value) (w : World) : (Instr.typeAssert (.iface 42 v) 31 42 true).run Tryd.prog w = .ok (.tuple #[v, .bool true]) w := by kernel_rfl

set_option maxHeartbeats 800000 in
set_option maxRecDepth 100000 in
theorem fault_Is (b : Nat) (k i n : Int) (inner : Value) (w : World) (hblk : w.heap[b]? = some (.cells #[.int .i64 k, .int .i64 i, inner] 63 (0, 0))) :
    Calls Tryd.prog 91 #[.pointer (some ⟨b, 0, none⟩), .iface 42 (.int .i64 n)] w fun e w' => e = .returned (.bool (n == k)) ∧ w = w' := by
  have hc : w.cell? ⟨b, 0, none⟩ = some (.int .i64 k) := by rw [cell_of_row w b 0 _ _ _ hblk]; rfl
  clear hblk
  have ta := Is_assertErrno
  go_enter Tryd.func91, Tryd.ntmps91
  go_wp2_with fail
  go_ret
  exact ⟨rfl, rfl⟩

set_option maxHeartbeats 800000 in
set_option maxRecDepth 100000 in
theorem fault_Unwrap (b : Nat) (k i : Int) (inner : Value) (w : World) (hblk : w.heap[b]? = some (.cells #[.int .i64 k, .int .i64 i, inner] 63 (0, 0))) :
    Calls Tryd.prog 92 #[.pointer (some ⟨b, 0, none⟩)] w fun e w' => e = .returned inner ∧ w = w' := by
  have hc : w.cell? ⟨b, 2, none⟩ = some inner := by rw [cell_of_row w b 2 _ _ _ hblk]; rfl
  clear hblk
  go_enter Tryd.func92, Tryd.ntmps92
  go_wp2_with fail
  go_ret
  exact ⟨rfl, rfl⟩

theorem Is_eq (p : Addr) (n : Int) (w : World) : (binOp .eql 31 (.iface 59 (.pointer (some p))) (.iface 42 (.int .i64 n))).run Tryd.prog w = .ok (.bool false) w := by kernel_rfl
theorem Is_assertIs (p : Addr) (w : World) : (Instr.typeAssert (.iface 59 (.pointer (some p))) 31 117 true).run Tryd.prog w = .ok (.tuple #[.iface 59 (.pointer (some p)), .bool true]) w := by kernel_rfl
theorem Is_assertUnwrap (p : Addr) (w : World) : (Instr.typeAssert (.iface 59 (.pointer (some p))) 31 110 true).run Tryd.prog w = .ok (.tuple #[.iface 59 (.pointer (some p)), .bool true]) w := by kernel_rfl
theorem Is_methodIs (p : Addr) (w : World) : (Go.method 254 59 (.pointer (some p)) "Is").run Tryd.prog w = .ok (91, .pointer (some p)) w := by kernel_rfl
theorem Is_methodUnwrap (p : Addr) (w : World) : (Go.method 254 59 (.pointer (some p)) "Unwrap").run Tryd.prog w = .ok (92, .pointer (some p)) w := by kernel_rfl
theorem Is_typeOf (v : Value) (w : World) : (ReflectliteType.typeOf #[.iface 42 v]).run Tryd.prog w = .ok (.iface 103 (.agg #[.pointer (some ⟨2, 42, none⟩)])) w := by kernel_rfl
theorem Is_methodComparable (h : Value) (w : World) : (Go.method 254 103 (.agg #[h]) "Comparable").run Tryd.prog w = .ok (99, .agg #[h]) w := by kernel_rfl

/-- What errors.Is tells of a fault that came from nothing, or from such a one. -/
def isKind (n k : Int) : Bool := n == k

set_option maxHeartbeats 1600000 in
set_option maxRecDepth 100000 in
theorem errors_is (b : Nat) (k i n : Int) (w : World) (hblk : w.heap[b]? = some (.cells #[.int .i64 k, .int .i64 i, .nilIface] 63 (0, 0))) :
    Calls Tryd.prog 55 #[.iface 59 (.pointer (some ⟨b, 0, none⟩)), .iface 42 (.int .i64 n), .bool true] w fun e w' => e = .returned (.bool (isKind n k)) ∧ w = w' := by
  have c1 := Lib.hid (fault_Is b k i n .nilIface w hblk)
  have c2 := Lib.hid (fault_Unwrap b k i .nilIface w hblk)
  clear hblk
  have f1 := Is_eq
  have f2 := Is_assertIs
  have f3 := Is_assertUnwrap
  have f4 := Is_methodIs
  have f5 := Is_methodUnwrap
  by_cases hk : n = k
  · have e : isKind n k = true := by simp [isKind, hk]
    have E := Lib.hid e
    have e2 : (n == k) = true := e
    clear e hk
    go_enter Tryd.func55, Tryd.ntmps55
    go_wp2_with fail
    refine wp_loop_rounds 1 ?_
    rw [rounds_succ]
    go_wp2_with fail
    refine c1.out.mono ?_
    rintro e w1 ⟨rfl, rfl⟩
    go_wp2_with fail
    go_ret
    exact ⟨ret_bool E.out.symm, rfl⟩
  · have e : isKind n k = false := by simp [isKind, hk]
    have E := Lib.hid e
    have e2 : (n == k) = false := e
    clear e hk
    go_enter Tryd.func55, Tryd.ntmps55
    go_wp2_with fail
    refine wp_loop_rounds 1 ?_
    rw [rounds_succ]
    go_wp2_with fail
    refine c1.out.mono ?_
    rintro e w1 ⟨rfl, rfl⟩
    go_wp2_with fail
    refine c2.out.mono ?_
    rintro e w1 ⟨rfl, rfl⟩
    go_wp2_with fail
    go_ret
    exact ⟨ret_bool E.out.symm, rfl⟩

set_option maxHeartbeats 1600000 in
set_option maxRecDepth 100000 in
theorem errors_is2 (b b2 : Nat) (k i k2 i2 n : Int) (w : World) (hblk : w.heap[b]? = some (.cells #[.int .i64 k, .int .i64 i, .iface 59 (.pointer (some ⟨b2, 0, none⟩))] 63 (0, 0)))
    (hblk2 : w.heap[b2]? = some (.cells #[.int .i64 k2, .int .i64 i2, .nilIface] 63 (0, 0))) :
    Calls Tryd.prog 55 #[.iface 59 (.pointer (some ⟨b, 0, none⟩)), .iface 42 (.int .i64 n), .bool true] w fun e w' => e = .returned (.bool (isKind n k || isKind n k2)) ∧ w = w' := by
  have c1 := Lib.hid (fault_Is b k i n _ w hblk)
  have c2 := Lib.hid (fault_Unwrap b k i _ w hblk)
  have c3 := Lib.hid (fault_Is b2 k2 i2 n _ w hblk2)
  have c4 := Lib.hid (fault_Unwrap b2 k2 i2 _ w hblk2)
  clear hblk hblk2
  have f1 := Is_eq
  have f2 := Is_assertIs
  have f3 := Is_assertUnwrap
  have f4 := Is_methodIs
  have f5 := Is_methodUnwrap
  by_cases hk : n = k
  · have e : (isKind n k || isKind n k2) = true := by simp [isKind, hk]
    have E := Lib.hid e
    have e2 : (n == k) = true := by simp [hk]
    clear e hk
    go_enter Tryd.func55, Tryd.ntmps55
    go_wp2_with fail
    refine wp_loop_rounds 1 ?_
    rw [rounds_succ]
    go_wp2_with fail
    refine c1.out.mono ?_
    rintro e w1 ⟨rfl, rfl⟩
    go_wp2_with fail
    go_ret
    exact ⟨ret_bool E.out.symm, rfl⟩
  · have e2 : (n == k) = false := by simp [hk]
    by_cases hk2 : n = k2
    · have e : (isKind n k || isKind n k2) = true := by simp [isKind, hk2]
      have E := Lib.hid e
      have e3 : (n == k2) = true := by simp [hk2]
      clear e hk hk2
      go_enter Tryd.func55, Tryd.ntmps55
      go_wp2_with fail
      refine wp_loop_rounds 2 ?_
      rw [rounds_succ]
      go_wp2_with fail
      refine c1.out.mono ?_
      rintro e w1 ⟨rfl, rfl⟩
      go_wp2_with fail
      refine c2.out.mono ?_
      rintro e w1 ⟨rfl, rfl⟩
      go_wp2_with fail
      rw [rounds_succ]
      go_wp2_with fail
      refine c3.out.mono ?_
      rintro e w1 ⟨rfl, rfl⟩
      go_wp2_with fail
      go_ret
      exact ⟨ret_bool E.out.symm, rfl⟩
    · have e : (isKind n k || isKind n k2) = false := by simp [isKind, hk, hk2]
      have E := Lib.hid e
      have e3 : (n == k2) = false := by simp [hk2]
      clear e hk hk2
      go_enter Tryd.func55, Tryd.ntmps55
      go_wp2_with fail
      refine wp_loop_rounds 2 ?_
      rw [rounds_succ]
      go_wp2_with fail
      refine c1.out.mono ?_
      rintro e w1 ⟨rfl, rfl⟩
      go_wp2_with fail
      refine c2.out.mono ?_
      rintro e w1 ⟨rfl, rfl⟩
      go_wp2_with fail
      rw [rounds_succ]
      go_wp2_with fail
      refine c3.out.mono ?_
      rintro e w1 ⟨rfl, rfl⟩
      go_wp2_with fail
      refine c4.out.mono ?_
      rintro e w1 ⟨rfl, rfl⟩
      go_wp2_with fail
      go_ret
      exact ⟨ret_bool E.out.symm, rfl⟩

set_option maxHeartbeats 1600000 in
set_option maxRecDepth 100000 in
theorem errors_Is (p : Addr) (n : Int) (r : Bool) (w : World)
    (c : Calls Tryd.prog 55 #[.iface 59 (.pointer (some p)), .iface 42 (.int .i64 n), .bool true] w fun e w' => e = .returned (.bool r) ∧ w = w') :
    Calls Tryd.prog 39 #[.iface 59 (.pointer (some p)), .iface 42 (.int .i64 n)] w fun e w' => e = .returned (.bool r) ∧ w = w' := by
  have C := Lib.hid c
  clear c
  have f1 := Is_typeOf
  have f2 := Is_methodComparable
  have h10 := @run_callFunc_extern Tryd.prog 54 _ ReflectliteType.typeOf Tryd.func54 (by kernel_rfl) (by kernel_rfl) (by kernel_rfl) (by kernel_rfl)
  have h11 : ∀ w : World, (callFunc 99 #[.agg #[.pointer (some ⟨2, 42, none⟩)]]).run Tryd.prog w = .ok (.value (.bool true)) w := fun w => by kernel_rfl
  go_enter Tryd.func39, Tryd.ntmps39
  go_wp2_with fail
  refine C.out.mono ?_
  rintro e w1 ⟨rfl, rfl⟩
  go_wp2_with fail
  go_ret
  exact ⟨rfl, rfl⟩

set_option maxHeartbeats 800000 in
theorem fault_Has (v : Value) (k i n : Int) (w : World) (hv : IsFault w v k i) :
    Calls Tryd.prog 18 #[v, .int .i64 n] w fun e w' => e = .returned (.bool (isKind n k)) ∧ w = w' := by
  obtain ⟨b, rfl, hblk⟩ := hv
  have C := Lib.hid (errors_Is ⟨b, 0, none⟩ n _ w (errors_is b k i n w hblk))
  clear hblk
  go_enter Tryd.func18, Tryd.ntmps18
  go_wp2_with fail
  refine C.out.mono ?_
  rintro e w1 ⟨rfl, rfl⟩
  go_wp2_with fail
  go_ret
  exact ⟨rfl, rfl⟩
end Go.Proofs.YtpaeloadmjblpaaDoor
