/- The reference of chapter 17: Accept. -/
import Derived.Test.YtpdojjdigbjmoaaDoorMediaAcceptsM11
import Derived.Test.YtpdojjdigbjmoaaDoorMediaAcceptsM13
import Derived.Test.YtpdojjdigbjmoaaDoorMediaAcceptsM12
import Derived.LaidHandle
import Derived.LaidLaws
import Derived.Stop.Joined
import Derived.Lib.LaidU8T
import Derived.Shelf.Unicode.DecodeSlow

namespace Go.Proofs.YtpdojjdigbjmoaaDoor
open Go.RowKit

theorem lower_utf8 : lowerS utf8S = utf8S := by decide +kernel
set_option maxHeartbeats 3200000 in
set_option maxRecDepth 100000 in
theorem ref17_Accept (s : ByteArray) (w : World) : Calls Tryd.prog 28 #[.string s] w fun e w' => e = .returned (.tuple #[.int .i64 ((acceptM s).1 : Int), .int .i64 ((acceptM s).2 : Int)]) ∧ Below w.heap.size w w' := by
  have cP := Lib.hid (fun W => ref17_Parse s W)
  go_enter Tryd.func28, Tryd.ntmps28
  go_wp2_with fail
  refine (cP.out _).mono ?_
  rintro e w2 ⟨hb2, h⟩
  rcases h with ⟨m, hm, pa, c, rfl, hsl⟩ | ⟨k, i, hk, rfl⟩
  · obtain ⟨z1, z2, z3, z4⟩ := parseM_sizes hm
    have HY := Lib.hid (fun h => acc_yes hm h)
    have HN := Lib.hid (fun h => acc_no hm h)
    have hmay : mayM m = (jsonB m.type m.sub && (match paramM m.params charS with | none => true | some v => sameB v utf8S)) := rfl
    have HMAY := Lib.hid hmay
    obtain ⟨mt, ms, mp⟩ := m
    simp only at z1 z2 z3 z4 hmay hsl
    have hm3 := MediaAt.new (w := w2) (n := mt) (v := ms) (pa := pa) (l := mp.length) (c := c)
    have hst := (Below.refl w2.heap.size w2).alloc (Nat.le_refl _) (.cells #[.string mt, .string ms, .slice pa mp.length c] 113)
    have hb3 := Bt hb2 hst
    have hs3 := hsl.below hst
    have cA := Lib.hid (ref17_Param mt ms charS pa c mp _ hs3 (by omega))
    have cJ := Lib.hid (fun W => ref17_JSON mt ms pa mp.length c W (by omega))
    obtain ⟨k0, k1, k2⟩ := hm3.cells
    have hsz : ∀ v, paramM mp charS = some v → v.size ≤ 1000 := by
      intro v hv
      unfold paramM at hv
      cases hf : mp.find? fun x => decide (x.name = charS) with
      | none => rw [hf] at hv; cases hv
      | some x => rw [hf] at hv; cases hv; exact z4 x (List.mem_of_find?_eq_some hf)
    have HSZ := Lib.hid hsz
    clear hm hmay hsl hst hb2 z4 hsz
    generalize jsonB mt ms = jb at *
    go_wp2_with fail
    refine cA.out.mono ?_
    rintro e w4 ⟨hb4, h⟩
    have hm4 := hm3.below hb4
    have hb34 := Bt hb3 hb4
    obtain ⟨l0, l1, l2⟩ := hm4.cells
    clear k0 k1 k2 hm3 hb3 hb4 cA hs3
    rcases h with ⟨hp, rfl⟩ | ⟨v, hp, rfl⟩
    · have hmm : mayM ⟨mt, ms, mp⟩ = jb := by rw [HMAY.out]; simp only [hp]; simp
      go_wp2_with fail
      refine (cJ.out _).mono ?_
      rintro e w5 ⟨rfl, hb5⟩
      have hb35 := Bt hb34 hb5
      cases jb
      · have HX := Lib.hid (HN.out hmm)
        clear hmm hp
        go_wp2_with fail
        go_ret2
        exact ⟨by rw [HX.out]; rfl, hb35⟩
      · have HX := Lib.hid (HY.out hmm)
        clear hmm hp
        go_wp2_with fail
        go_ret2
        exact ⟨by rw [HX.out]; rfl, hb35⟩
    · have hmm : mayM ⟨mt, ms, mp⟩ = (jb && sameB v utf8S) := by rw [HMAY.out]; simp only [hp]
      have hvz := HSZ.out v hp
      have hss : sameB v utf8S = decide (lowerS v = utf8S) := by unfold sameB; rw [lower_utf8]
      have cS := Lib.hid (fun W => ref_Lower v W (by omega))
      rw [hss] at hmm
      generalize lowerS v = lv at *
      clear hp hss
      go_wp2_with fail
      refine (cJ.out _).mono ?_
      rintro e w5 ⟨rfl, hb5⟩
      have hb35 := Bt hb34 hb5
      cases jb
      · have HX := Lib.hid (HN.out (hmm.trans (Bool.false_and _)))
        clear hmm
        go_wp2_with fail
        go_ret2
        exact ⟨by rw [HX.out]; rfl, hb35⟩
      · have HMM := Lib.hid hmm
        clear hmm
        go_wp2_with fail
        refine (cS.out _).mono ?_
        rintro e w7 ⟨rfl, hb7⟩
        have hb37 := Bt hb35 hb7
        by_cases hl : lv = utf8S
        · have HX := Lib.hid (HY.out (HMM.out.trans (by rw [decide_eq_true hl]; rfl)))
          have e1 : (lv.toList == [117, 116, 102, 45, 56]) = true := str_yes hl
          have e2 : (lv.toList != [117, 116, 102, 45, 56]) = false := by simp [bne, e1]
          clear hl
          go_wp2_with fail
          go_ret2
          exact ⟨by rw [HX.out]; rfl, hb37⟩
        · have HX := Lib.hid (HN.out (HMM.out.trans (by rw [decide_eq_false hl]; rfl)))
          have e1 : (lv.toList == [117, 116, 102, 45, 56]) = false := str_no hl
          have e2 : (lv.toList != [117, 116, 102, 45, 56]) = true := by simp [bne, e1]
          clear hl
          go_wp2_with fail
          go_ret2
          exact ⟨by rw [HX.out]; rfl, hb37⟩
  · have hne := parseM_kind hk
    have e1 : ((k : Int) != 0) = true := by simp only [bne_iff_ne, ne_eq]; omega
    have HX := Lib.hid (acc_err hk)
    have hb3 := hb2.alloc hb2.size (.cells #[.string ⟨#[]⟩, .string ⟨#[]⟩, .slice none 0 0] 113)
    clear hk hne
    go_wp2_with fail
    go_ret2
    exact ⟨by rw [HX.out]; rfl, hb3⟩
end Go.Proofs.YtpdojjdigbjmoaaDoor

/- errors.Is at a fault and a number: its contract; the statements' Has. -/
namespace Go.Proofs.YtpdojjdigbjmoaaDoor
open Go.RowKit Go.Extern.Stop Go.Stop Go.Extern

theorem ret_beq {a b c : Int} (h : c = b) : Ending.returned (.bool (a == b)) = .returned (.bool (a == c)) := by rw [h]
theorem Is_assertErrno (v : Value) (w : World) : (Instr.typeAssert (.iface 37 v) 33 37 true).run Tryd.prog w = .ok (.tuple #[v, .bool true]) w := by kernel_rfl

set_option maxHeartbeats 800000 in
set_option maxRecDepth 100000 in
theorem fault_Is (b : Nat) (k i n : Int) (inner : Value) (w : World) (hblk : w.heap[b]? = some (.cells #[.int .i64 k, .int .i64 i, inner] 83 (0, 0))) :
    Calls Tryd.prog 206 #[.pointer (some ⟨b, 0, none⟩), .iface 37 (.int .i64 n)] w fun e w' => e = .returned (.bool (n == k)) ∧ w = w' := by
  have hc : w.cell? ⟨b, 0, none⟩ = some (.int .i64 k) := by rw [cell_of_row w b 0 _ _ _ hblk]; rfl
  clear hblk
  have ta := Is_assertErrno
  go_enter Tryd.func206, Tryd.ntmps206
  go_wp2_with fail
  go_ret
  exact ⟨rfl, rfl⟩

set_option maxHeartbeats 800000 in
set_option maxRecDepth 100000 in
theorem fault_Unwrap (b : Nat) (k i : Int) (inner : Value) (w : World) (hblk : w.heap[b]? = some (.cells #[.int .i64 k, .int .i64 i, inner] 83 (0, 0))) :
    Calls Tryd.prog 207 #[.pointer (some ⟨b, 0, none⟩)] w fun e w' => e = .returned inner ∧ w = w' := by
  have hc : w.cell? ⟨b, 2, none⟩ = some inner := by rw [cell_of_row w b 2 _ _ _ hblk]; rfl
  clear hblk
  go_enter Tryd.func207, Tryd.ntmps207
  go_wp2_with fail
  go_ret
  exact ⟨rfl, rfl⟩

theorem Is_eq (p : Addr) (n : Int) (w : World) : (binOp .eql 33 (.iface 79 (.pointer (some p))) (.iface 37 (.int .i64 n))).run Tryd.prog w = .ok (.bool false) w := by kernel_rfl
theorem Is_assertIs (p : Addr) (w : World) : (Instr.typeAssert (.iface 79 (.pointer (some p))) 33 205 true).run Tryd.prog w = .ok (.tuple #[.iface 79 (.pointer (some p)), .bool true]) w := by kernel_rfl
theorem Is_assertUnwrap (p : Addr) (w : World) : (Instr.typeAssert (.iface 79 (.pointer (some p))) 33 200 true).run Tryd.prog w = .ok (.tuple #[.iface 79 (.pointer (some p)), .bool true]) w := by kernel_rfl
theorem Is_methodIs (p : Addr) (w : World) : (Go.method 378 79 (.pointer (some p)) "Is").run Tryd.prog w = .ok (206, .pointer (some p)) w := by kernel_rfl
theorem Is_methodUnwrap (p : Addr) (w : World) : (Go.method 378 79 (.pointer (some p)) "Unwrap").run Tryd.prog w = .ok (207, .pointer (some p)) w := by kernel_rfl
theorem Is_typeOf (v : Value) (w : World) : (ReflectliteType.typeOf #[.iface 37 v]).run Tryd.prog w = .ok (.iface 193 (.agg #[.pointer (some ⟨5, 37, none⟩)])) w := by kernel_rfl
theorem Is_methodComparable (h : Value) (w : World) : (Go.method 378 193 (.agg #[h]) "Comparable").run Tryd.prog w = .ok (214, .agg #[h]) w := by kernel_rfl

/-- What errors.Is tells of a fault that came from nothing, or from such a one. -/
def isKind (n k : Int) : Bool := n == k

set_option maxHeartbeats 1600000 in
set_option maxRecDepth 100000 in
theorem errors_is (b : Nat) (k i n : Int) (w : World) (hblk : w.heap[b]? = some (.cells #[.int .i64 k, .int .i64 i, .nilIface] 83 (0, 0))) :
    Calls Tryd.prog 87 #[.iface 79 (.pointer (some ⟨b, 0, none⟩)), .iface 37 (.int .i64 n), .bool true] w fun e w' => e = .returned (.bool (isKind n k)) ∧ w = w' := by
  have c1 := Lib.hid (fault_Is b k i n .nilIface w hblk)
  have c2 := Lib.hid (fault_Unwrap b k i .nilIface w hblk)
  clear hblk
  have f1 := Is_eq
  have f2 := Is_assertIs
  have f3 := Is_assertUnwrap
  have f4 := Is_methodIs
  have f5 := Is_methodUnwrap
  by_cases hk : n = k
  · have e : isKind n k = true := by simp [isKind, hk]
    have E := Lib.hid e
    have e2 : (n == k) = true := e
    clear e hk
    go_enter Tryd.func87, Tryd.ntmps87
    go_wp2_with fail
    refine wp_loop_rounds 1 ?_
    rw [rounds_succ]
    go_wp2_with fail
    refine c1.out.mono ?_
    rintro e w1 ⟨rfl, rfl⟩
    go_wp2_with fail
    go_ret
    exact ⟨ret_bool E.out.symm, rfl⟩
  · have e : isKind n k = false := by simp [isKind, hk]
    have E := Lib.hid e
    have e2 : (n == k) = false := e
    clear e hk
    go_enter Tryd.func87, Tryd.ntmps87
    go_wp2_with fail
    refine wp_loop_rounds 1 ?_
    rw [rounds_succ]
    go_wp2_with fail
    refine c1.out.mono ?_
    rintro e w1 ⟨rfl, rfl⟩
    go_wp2_with fail
    refine c2.out.mono ?_
    rintro e w1 ⟨rfl, rfl⟩
    go_wp2_with fail
    go_ret
    exact ⟨ret_bool E.out.symm, rfl⟩

set_option maxHeartbeats 1600000 in
set_option maxRecDepth 100000 in
theorem errors_is2 (b b2 : Nat) (k i k2 i2 n : Int) (w : World) (hblk : w.heap[b]? = some (.cells #[.int .i64 k, .int .i64 i, .iface 79 (.pointer (some ⟨b2, 0, none⟩))] 83 (0, 0)))
    (hblk2 : w.heap[b2]? = some (.cells #[.int .i64 k2, .int .i64 i2, .nilIface] 83 (0, 0))) :
    Calls Tryd.prog 87 #[.iface 79 (.pointer (some ⟨b, 0, none⟩)), .iface 37 (.int .i64 n), .bool true] w fun e w' => e = .returned (.bool (isKind n k || isKind n k2)) ∧ w = w' := by
  have c1 := Lib.hid (fault_Is b k i n _ w hblk)
  have c2 := Lib.hid (fault_Unwrap b k i _ w hblk)
  have c3 := Lib.hid (fault_Is b2 k2 i2 n _ w hblk2)
  have c4 := Lib.hid (fault_Unwrap b2 k2 i2 _ w hblk2)
  clear hblk hblk2
  have f1 := Is_eq
  have f2 := Is_assertIs
  have f3 := Is_assertUnwrap
  have f4 := Is_methodIs
  have f5 := Is_methodUnwrap
  by_cases hk : n = k
  · have e : (isKind n k || isKind n k2) = true := by simp [isKind, hk]
    have E := Lib.hid e
    have e2 : (n == k) = true := by simp [hk]
    clear e hk
    go_enter Tryd.func87, Tryd.ntmps87
    go_wp2_with fail
    refine wp_loop_rounds 1 ?_
    rw [rounds_succ]
    go_wp2_with fail
    refine c1.out.mono ?_
    rintro e w1 ⟨rfl, rfl⟩
    go_wp2_with fail
    go_ret
    exact ⟨ret_bool E.out.symm, rfl⟩
  · have e2 : (n == k) = false := by simp [hk]
    by_cases hk2 : n = k2
    · have e : (isKind n k || isKind n k2) = true := by simp [isKind, hk2]
      have E := Lib.hid e
      have e3 : (n == k2) = true := by simp [hk2]
      clear e hk hk2
      go_enter Tryd.func87, Tryd.ntmps87
      go_wp2_with fail
      refine wp_loop_rounds 2 ?_
      rw [rounds_succ]
      go_wp2_with fail
      refine c1.out.mono ?_
      rintro e w1 ⟨rfl, rfl⟩
      go_wp2_with fail
      refine c2.out.mono ?_
      rintro e w1 ⟨rfl, rfl⟩
      go_wp2_with fail
      rw [rounds_succ]
      go_wp2_with fail
      refine c3.out.mono ?_
      rintro e w1 ⟨rfl, rfl⟩
      go_wp2_with fail
      go_ret
      exact ⟨ret_bool E.out.symm, rfl⟩
    · have e : (isKind n k || isKind n k2) = false := by simp [isKind, hk, hk2]
      have E := Lib.hid e
      have e3 : (n == k2) = false := by simp [hk2]
      clear e hk hk2
      go_enter Tryd.func87, Tryd.ntmps87
      go_wp2_with fail
      refine wp_loop_rounds 2 ?_
      rw [rounds_succ]
      go_wp2_with fail
      refine c1.out.mono ?_
      rintro e w1 ⟨rfl, rfl⟩
      go_wp2_with fail
      refine c2.out.mono ?_
      rintro e w1 ⟨rfl, rfl⟩
      go_wp2_with fail
      rw [rounds_succ]
      go_wp2_with fail
      refine c3.out.mono ?_
      rintro e w1 ⟨rfl, rfl⟩
      go_wp2_with fail
      refine c4.out.mono ?_
      rintro e w1 ⟨rfl, rfl⟩
      go_wp2_with fail
      go_ret
      exact ⟨ret_bool E.out.symm, rfl⟩

set_option maxHeartbeats 1600000 in
set_option maxRecDepth 100000 in
theorem errors_Is (p : Addr) (n : Int) (r : Bool) (w : World)
    (c : Calls Tryd.prog 87 #[.iface 79 (.pointer (some p)), .iface 37 (.int .i64 n), .bool true] w fun e w' => e = .returned (.bool r) ∧ w = w') :
    Calls Tryd.prog 44 #[.iface 79 (.pointer (some p)), .iface 37 (.int .i64 n)] w fun e w' => e = .returned (.bool r) ∧ w = w' := by
  have C := Lib.hid c
  clear c
  have f1 := Is_typeOf
  have f2 := Is_methodComparable
  have h10 := @run_callFunc_extern Tryd.prog 86 _ ReflectliteType.typeOf Tryd.func86 (by kernel_rfl) (by kernel_rfl) (by kernel_rfl) (by kernel_rfl)
  have h11 : ∀ w : World, (callFunc 214 #[.agg #[.pointer (some ⟨5, 37, none⟩)]]).run Tryd.prog w = .ok (.value (.bool true)) w := fun w => by kernel_rfl
  go_enter Tryd.func44, Tryd.ntmps44
  go_wp2_with fail
  refine C.out.mono ?_
  rintro e w1 ⟨rfl, rfl⟩
  go_wp2_with fail
  go_ret
  exact ⟨rfl, rfl⟩

set_option maxHeartbeats 800000 in
theorem fault_Has (v : Value) (k i n : Int) (w : World) (hv : IsFault w v k i) :
    Calls Tryd.prog 15 #[v, .int .i64 n] w fun e w' => e = .returned (.bool (isKind n k)) ∧ w = w' := by
  obtain ⟨b, rfl, hblk⟩ := hv
  have C := Lib.hid (errors_Is ⟨b, 0, none⟩ n _ w (errors_is b k i n w hblk))
  clear hblk
  go_enter Tryd.func15, Tryd.ntmps15
  go_wp2_with fail
  refine C.out.mono ?_
  rintro e w1 ⟨rfl, rfl⟩
  go_wp2_with fail
  go_ret
  exact ⟨rfl, rfl⟩
end Go.Proofs.YtpdojjdigbjmoaaDoor

/- Has of an error that came from another. -/
namespace Go.Proofs.YtpdojjdigbjmoaaDoor
open Go.RowKit
set_option maxHeartbeats 800000 in
theorem fault_Has2 (v u : Value) (k i k2 i2 n : Int) (w : World) (hv : FaultIs w v k i u) (hu : IsFault w u k2 i2) :
    Calls Tryd.prog 15 #[v, .int .i64 n] w fun e w' => e = .returned (.bool (isKind n k || isKind n k2)) ∧ w = w' := by
  obtain ⟨b, rfl, hblk⟩ := hv
  obtain ⟨b2, rfl, hblk2⟩ := hu
  have C := Lib.hid (errors_Is ⟨b, 0, none⟩ n _ w (errors_is2 b b2 k i k2 i2 n w hblk hblk2))
  clear hblk hblk2
  go_enter Tryd.func15, Tryd.ntmps15
  go_wp2_with fail
  refine C.out.mono ?_
  rintro e w1 ⟨rfl, rfl⟩
  go_wp2_with fail
  go_ret
  exact ⟨rfl, rfl⟩
end Go.Proofs.YtpdojjdigbjmoaaDoor

/- What a row's list of package variables gives: errors.errorType, the tables of unicode/utf8. A world that holds them. -/
namespace Go.Proofs.YtpdojjdigbjmoaaDoor
open Go.ChangeShapes Go.WideShapes Go.RowKit

/-- The tables of unicode/utf8, as their initialisers lay them. -/
def Utf8Laid (w : World) : Prop := Lib.Utf8Tabs 3 4 w
theorem Utf8Laid.below {w w' : World} (h : Utf8Laid w) (hb : Below w.heap.size w w') : Utf8Laid w' :=
  ⟨fun c hc => (hb.cell (World.block_lt_of_cell? w _ (h.1 c hc))).trans (h.1 c hc),
    fun i hi => ⟨(hb.cell (World.block_lt_of_cell? w _ (h.2 i hi).1)).trans (h.2 i hi).1, (hb.cell (World.block_lt_of_cell? w _ (h.2 i hi).2)).trans (h.2 i hi).2⟩⟩
theorem Utf8Laid.drewN {w : World} (h : Utf8Laid w) (n : Nat) : Utf8Laid (w.drewN n) := h

def u8ren : Go.Shelf.Ren := ⟨fun n => n, fun | 5 => 5 | 119 => 240 | 138 => 242 | 139 => 243 | n => n, fun | 3 => 3 | 4 => 4 | n => n⟩
theorem u8types : U8Types Tryd.prog u8ren := { t5 := Tryd.underlying5, t119 := Tryd.underlying240, t138 := Tryd.underlying242, t139 := Tryd.underlying243 }
theorem u8extra : U8Extra Tryd.prog u8ren := { n3 := by kernel_rfl, n4 := by kernel_rfl, y3 := by kernel_rfl, y4 := by kernel_rfl, c5 := by kernel_rfl, c119 := by kernel_rfl, c138 := by kernel_rfl }
theorem u8first : Lib.firstData = Rows.laid_unicode_utf8_first := by kernel_rfl
theorem u8accept : Lib.acceptData = Rows.laid_unicode_utf8_acceptRanges := by kernel_rfl
noncomputable def laidWorld (os : Os) : World :=
  let w0 := World.holding Tryd.prog os ⟨#[], #[], []⟩
  let h1 := w0.heap.modify 0 fun
      | .cells _ t frozen => .cells #[.iface 193 (.agg #[.pointer (some ⟨5, 33, none⟩)])] t frozen
      | o => o
  let h2 := h1.modify 3 fun
      | .cells _ t frozen => .cells (Lib.firstTab.map (Value.int .u8)).toArray t frozen
      | o => o
  let h3 := h2.modify 4 fun
      | .cells _ t frozen => .cells ((List.range 16).flatMap fun i => [Value.int .u8 (Lib.accLo i : Nat), Value.int .u8 (Lib.accHi i : Nat)]).toArray t frozen
      | o => o
  { w0 with heap := h3 }
end Go.Proofs.YtpdojjdigbjmoaaDoor

/- The walk of MediaAccepts. -/
namespace Go.Proofs.YtpdojjdigbjmoaaDoor
open Go.RowKit

theorem isKind_self (k : Int) : isKind k k = true := by simp [isKind]
theorem sp17a : acceptM ⟨#[65, 112, 112, 108, 105, 99, 97, 116, 105, 111, 110, 47, 74, 83, 79, 78, 59, 32, 67, 104, 97, 114, 115, 101, 116, 61, 34, 85, 84, 70, 45, 56, 34]⟩ = (0, 0) := by decide +kernel
theorem sp17b : acceptM ⟨#[116, 101, 120, 116, 47, 104, 116, 109, 108]⟩ = (42, 0) := by decide +kernel
/-- Does the error that Accept gave hold a kind? -/
theorem acc_Has (v : Value) (a : Nat × Nat) (n : Int) (w : World) (h : IsAcc w v a) (hn : a.1 ≠ 0) (h2 : (a.2 = 0 ∧ n = 42) ∨ (a.2 ≠ 0 ∧ n = (a.2 : Int))) :
    Calls Tryd.prog 15 #[v, .int .i64 n] w fun e w' => e = .returned (.bool true) ∧ w = w' := by
  rcases h with ⟨rfl, _⟩ | ⟨rfl, hv⟩ | ⟨h42, hne, u, i, hv, hu⟩
  · exact absurd rfl hn
  · rcases h2 with ⟨_, rfl⟩ | ⟨h, _⟩
    · exact (fault_Has v 42 0 42 w hv).mono fun e w' ⟨h1, h2⟩ => ⟨by rw [h1]; rfl, h2⟩
    · exact absurd rfl h
  · rcases h2 with ⟨h, _⟩ | ⟨_, rfl⟩
    · exact absurd h hne
    · exact (fault_Has2 v u 42 0 _ _ _ w hv hu).mono fun e w' ⟨h1, h2⟩ => ⟨by rw [h1, isKind_self, Bool.or_true], h2⟩
theorem IsAcc.iface {w : World} {v : Value} {a : Nat × Nat} (h : IsAcc w v a) (hn : a.1 ≠ 0) : ∃ p, v = .iface 79 (.pointer (some p)) := by
  rcases h with ⟨rfl, _⟩ | ⟨_, hv⟩ | ⟨_, _, u, i, hv, _⟩
  · exact absurd rfl hn
  · obtain ⟨b, rfl, _⟩ := hv; exact ⟨_, rfl⟩
  · obtain ⟨b, rfl, _⟩ := hv; exact ⟨_, rfl⟩
theorem IsAcc.zero {w : World} {v : Value} {a : Nat × Nat} (h : IsAcc w v a) (hn : a.1 = 0) : a = (0, 0) ∧ v = .nilIface := by
  rcases h with h | ⟨rfl, _⟩ | ⟨h42, _⟩
  · exact h
  · cases hn
  · rw [hn] at h42; cases h42
set_option maxHeartbeats 1600000 in
set_option maxRecDepth 100000 in
theorem speaks17 (w : World) : Calls Tryd.prog 26 #[] w fun e w' => e = .returned (.bool true) ∧ Below w.heap.size w w' := by
  have c1' : ∀ W, Calls Tryd.prog 27 #[.string ⟨#[65, 112, 112, 108, 105, 99, 97, 116, 105, 111, 110, 47, 74, 83, 79, 78, 59, 32, 67, 104, 97, 114, 115, 101, 116, 61, 34, 85, 84, 70, 45, 56, 34]⟩] W fun e w' => e = .returned .nilIface ∧ Below W.heap.size W w' := fun W =>
    (media_Accept _ W).mono fun e w' ⟨hb, v, he, h⟩ => by
      rw [sp17a] at h
      rw [(h.zero rfl).2] at he
      exact ⟨he, hb⟩
  have c2' : ∀ W, Calls Tryd.prog 27 #[.string ⟨#[116, 101, 120, 116, 47, 104, 116, 109, 108]⟩] W fun e w' => Below W.heap.size W w' ∧ ∃ p, e = .returned (.iface 79 (.pointer (some p))) ∧ IsAcc w' (.iface 79 (.pointer (some p))) (42, 0) := fun W =>
    (media_Accept _ W).mono fun e w' ⟨hb, v, he, h⟩ => by
      rw [sp17b] at h
      obtain ⟨p, rfl⟩ := h.iface (by decide)
      exact ⟨hb, p, he, h⟩
  have C1 := Lib.hid c1'
  have C2 := Lib.hid c2'
  clear c1' c2'
  go_enter Tryd.func26, Tryd.ntmps26
  go_wp2_with fail
  refine (C1.out _).mono ?_
  rintro e w1 ⟨rfl, hb1⟩
  go_wp2_with fail
  refine (C2.out _).mono ?_
  rintro e w2 ⟨hb2, p, rfl, hv⟩
  have hb12 := Bt hb1 hb2
  have CH := Lib.hid (acc_Has _ _ 42 _ hv (by decide) (.inl ⟨rfl, rfl⟩))
  clear hv
  go_wp2_with fail
  refine CH.out.mono ?_
  rintro e w3 ⟨rfl, rfl⟩
  go_wp2_with fail
  go_ret
  exact ⟨rfl, hb12⟩
theorem maccepts_long (s : ByteArray) (w : World) (h : 1500 < s.size) : Calls Tryd.prog 7 #[.string s] w fun e w' => e = .returned (.bool true) ∧ Below w.heap.size w w' := by
  have e1 : (s.size : Int) > 1500 := by omega
  go_enter Tryd.func7, Tryd.ntmps7
  go_wp2_with fail
  refine (speaks17 _).mono ?_
  rintro e w1 ⟨rfl, hb1⟩
  go_wp2_with fail
  go_ret
  exact ⟨rfl, hb1⟩
set_option maxHeartbeats 3200000 in
set_option maxRecDepth 100000 in
theorem maccepts_walk (s : ByteArray) (w : World) (hg : Handle w) (hs : s.size ≤ 1500) : Calls Tryd.prog 7 #[.string s] w fun e w' => e = .returned (.bool true) ∧ Below w.heap.size w w' := by
  have e1 : ¬ (s.size : Int) > 1500 := by omega
  have cA := Lib.hid (fun W => media_Accept s W)
  have cR := Lib.hid (fun W => ref17_Accept s W)
  go_enter Tryd.func7, Tryd.ntmps7
  go_wp2_with fail
  refine (speaks17 _).mono ?_
  rintro e w1 ⟨rfl, hb1⟩
  go_wp2_with fail
  refine (cA.out _).mono ?_
  rintro e w2 ⟨hb2, v, rfl, hv⟩
  have hb12 := Bt hb1 hb2
  clear hb1 hb2
  go_wp2_with fail
  refine (cR.out _).mono ?_
  rintro e w3 ⟨rfl, hb3⟩
  have hb13 := Bt hb12 hb3
  have hv3 := hv.below hb3
  have hg3 := hg.below hb13
  clear hv hb12 hb3
  clear cA cR
  generalize acceptM s = a at *
  obtain ⟨a1, a2⟩ := a
  simp only
  by_cases ha : a1 = 0
  · obtain ⟨h1, rfl⟩ := hv3.zero ha
    injection h1 with h1 h2
    subst h1 h2
    have cK := Lib.hid (fault_Kind .nilIface 0 0 w3 hg3 (.inl ⟨rfl, rfl⟩))
    clear ha hv3
    go_wp2_with fail
    refine cK.out.mono ?_
    rintro e w4 ⟨rfl, hb4⟩
    have hb14 := Bt hb13 hb4
    go_wp2_with fail
    go_ret
    exact ⟨rfl, hb14⟩
  · obtain ⟨p, rfl⟩ := hv3.iface ha
    have cK := Lib.hid (fault_Kind _ a1 0 w3 hg3 hv3.err)
    go_wp2_with fail
    refine cK.out.mono ?_
    rintro e w4 ⟨rfl, hb4⟩
    have hb14 := Bt hb13 hb4
    have hv4 := hv3.below hb4
    have cT := Lib.hid (fault_At _ a1 0 w4 (hg3.below hb4) hv4.err ha)
    clear hv3 hb13 hb4
    go_wp2_with fail
    refine cT.out.mono ?_
    rintro e w5 ⟨rfl, hb5⟩
    have hb15 := Bt hb14 hb5
    have hv5 := hv4.below hb5
    clear hv4 hb14 hb5
    by_cases h2 : a2 = 0
    · subst h2
      go_wp2_with fail
      go_ret
      exact ⟨rfl, hb15⟩
    · have e2 : ((a2 : Int) == 0) = false := by rw [beq_eq_false_iff_ne]; omega
      have cH := Lib.hid (acc_Has _ _ (a2 : Int) _ hv5 ha (.inr ⟨h2, rfl⟩))
      clear hv5 h2 ha
      go_wp2_with fail
      refine cH.out.mono ?_
      rintro e w6 ⟨rfl, rfl⟩
      go_wp2_with fail
      go_ret
      exact ⟨rfl, hb15⟩
theorem walkMediaAccepts (s : ByteArray) (w : World) (hg : Handle w) (_ : Utf8Laid w) (_ : s.size ≤ maxLen) : Calls Tryd.prog 7 #[.string s] w fun e w' => e = .returned (.bool true) ∧ Below w.heap.size w w' := by
  by_cases h : s.size ≤ 1500
  · exact maccepts_walk s w hg h
  · exact maccepts_long s w (by omega)
end Go.Proofs.YtpdojjdigbjmoaaDoor
