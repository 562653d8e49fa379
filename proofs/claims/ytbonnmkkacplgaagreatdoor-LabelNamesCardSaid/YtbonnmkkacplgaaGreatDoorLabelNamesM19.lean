/- errors.As at a pointer to a fault: its contract (after the kit's worked example of errors.As at a concrete target, turned to this program's types and numbers). -/
import Derived.Test.YtbonnmkkacplgaaGreatDoorLabelNamesM1
import Derived.LaidEql
import Derived.Stop.Asserts
import Derived.RowKitTokens
import Derived.StillTailTactics
import Derived.BigQuiet
import Derived.Test.YtbonnmkkacplgaaGreatDoorLabelNamesM3
import Derived.Deep.RegionHeld

namespace Go.Proofs.YtbonnmkkacplgaaGreatDoor
open Go.RowKit Go.Extern.Stop Go.Stop Go.Extern


theorem as_nil (t : Value) (w : World) :
    Calls Tryz.prog 74 #[.nilIface, t] w fun e w' => e = .returned (.bool false) ∧ w' = w := by
  go_enter Tryz.func74, Tryz.ntmps74
  go_wp2
  go_ret
  exact ⟨rfl, rfl⟩

theorem As_valueOf27 (t : Addr) (w : World) : (ReflectliteValue.unpack (.iface 96 (.pointer (some t)))).run Tryz.prog w
    = .ok (.agg #[.pointer (some ⟨5, 96, none⟩), .pointer (some ⟨w.heap.size, 0, none⟩), .int .u64 150]) (w.alloc (.cells #[.pointer (some t)] 96)) := by kernel_rfl
theorem As_type27 (a : Addr) (w : World) : (ReflectliteValue.methodAny (ReflectliteValue.valueError "reflectlite.Value.Type" 0) (fun t _ _ _ => ReflectliteType.toType t) #[.agg #[.pointer (some ⟨5, 96, none⟩), .pointer (some a), .int .u64 150]]).run Tryz.prog w
    = .ok (.iface 141 (.agg #[.pointer (some ⟨5, 96, none⟩)])) w := by kernel_rfl
theorem As_methodKind (h : Value) (w : World) : (Go.method 316 141 (.agg #[h]) "Kind").run Tryz.prog w = .ok (165, h) w := by kernel_rfl
theorem As_kind27 (w : World) : ((ReflectliteType.abiMethod fun t => (fun a : Nat => Value.int IntKind.u8 (a : Int)) <$> Rtype.kind t) #[.pointer (some ⟨5, 96, none⟩)]).run Tryz.prog w = .ok (.int .u8 22) w := by kernel_rfl
theorem As_kind25 (w : World) : ((ReflectliteType.abiMethod fun t => (fun a : Nat => Value.int IntKind.u8 (a : Int)) <$> Rtype.kind t) #[.pointer (some ⟨5, 77, none⟩)]).run Tryz.prog w = .ok (.int .u8 22) w := by kernel_rfl

theorem rlm (z : Sem Value) (f : TypeId → Addr → Nat → Nat → Sem Value) (v : Value) :
    ReflectliteValue.method z f #[v] = (do match ← ReflectliteValue.parts v with | none => z | some (t, a, fl) => f t a fl (fl % 32)) := rfl
theorem As_parts27 (a : Addr) (w : World) : (ReflectliteValue.parts (.agg #[.pointer (some ⟨5, 96, none⟩), .pointer (some a), .int .u64 150])).run Tryz.prog w = .ok (some (96, a, 150)) w := by kernel_rfl
theorem As_isNil27 (a p : Addr) (W : World) (ha : W.cell? a = some (.pointer (some p))) :
    (ReflectliteValue.method (ReflectliteValue.valueError "reflectlite.Value.IsNil" 0) ReflectliteValue.isNil #[.agg #[.pointer (some ⟨5, 96, none⟩), .pointer (some a), .int .u64 150]]).run Tryz.prog W = .ok (.bool false) W := by
  rw [rlm]
  simp only [Sem.run_bind, As_parts27, Result.andThen]
  simp [ReflectliteValue.isNil, loadVar, isAgg, underlying, Tryz.underlying96, ha, Result.andThen]

theorem As_methodElem (h : Value) (w : World) : (Go.method 316 141 (.agg #[h]) "Elem").run Tryz.prog w = .ok (179, .agg #[h]) w := by kernel_rfl
theorem As_methodImplements (h : Value) (w : World) : (Go.method 316 141 (.agg #[h]) "Implements").run Tryz.prog w = .ok (180, .agg #[h]) w := by kernel_rfl
theorem As_methodAssignableTo (h : Value) (w : World) : (Go.method 316 141 (.agg #[h]) "AssignableTo").run Tryz.prog w = .ok (177, .agg #[h]) w := by kernel_rfl
theorem As_elem27 (w : World) : (ReflectliteType.method ReflectliteType.elem #[.agg #[.pointer (some ⟨5, 96, none⟩)]]).run Tryz.prog w = .ok (.iface 141 (.agg #[.pointer (some ⟨5, 77, none⟩)])) w := by kernel_rfl
theorem As_implements25 (w : World) : (ReflectliteType.relation "Implements" ReflectliteType.implements_ #[.agg #[.pointer (some ⟨5, 77, none⟩)], .iface 141 (.agg #[.pointer (some ⟨5, 24, none⟩)])]).run Tryz.prog w = .ok (.bool true) w := by kernel_rfl
theorem As_typeOf25 (v : Value) (w : World) : (ReflectliteType.typeOf #[.iface 77 v]).run Tryz.prog w = .ok (.iface 141 (.agg #[.pointer (some ⟨5, 77, none⟩)])) w := by kernel_rfl
theorem As_assignable25 (w : World) : (ReflectliteType.relation "AssignableTo" ReflectliteType.assignableTo #[.agg #[.pointer (some ⟨5, 77, none⟩)], .iface 141 (.agg #[.pointer (some ⟨5, 77, none⟩)])]).run Tryz.prog w = .ok (.bool true) w := by kernel_rfl
theorem As_valueOf25 (e : Addr) (w : World) : (ReflectliteValue.unpack (.iface 77 (.pointer (some e)))).run Tryz.prog w
    = .ok (.agg #[.pointer (some ⟨5, 77, none⟩), .pointer (some ⟨w.heap.size, 0, none⟩), .int .u64 150]) (w.alloc (.cells #[.pointer (some e)] 77)) := by kernel_rfl

theorem As_elemOf27 (w : World) : (Rtype.elem? 96).run Tryz.prog w = .ok (some 77) w := by kernel_rfl
theorem As_mk25 (p : Addr) (w : World) : (ReflectliteValue.mk 77 p ReflectliteValue.flagAddr).run Tryz.prog w = .ok (.agg #[.pointer (some ⟨5, 77, none⟩), .pointer (some p), .int .u64 406]) w := by kernel_rfl
theorem As_elemV27 (a p : Addr) (W : World) (ha : W.cell? a = some (.pointer (some p))) :
    (ReflectliteValue.method (ReflectliteValue.valueError "reflectlite.Value.Elem" 0) ReflectliteValue.elem #[.agg #[.pointer (some ⟨5, 96, none⟩), .pointer (some a), .int .u64 150]]).run Tryz.prog W
      = .ok (.agg #[.pointer (some ⟨5, 77, none⟩), .pointer (some p), .int .u64 406]) W := by
  rw [rlm]
  simp only [Sem.run_bind, As_parts27, Result.andThen]
  simp [ReflectliteValue.elem, loadVar, isAgg, underlying, Tryz.underlying96, ha, Result.andThen, As_elemOf27, As_mk25]
theorem rls (v x : Value) : ReflectliteValue.set #[v, x] = (do
    let (some (dst, a, fl), some (src, b, _)) := (← ReflectliteValue.parts v, ← ReflectliteValue.parts x)
      | unsupported (.noEntry "extern/(internal/reflectlite.Value).Set.zeroValue")
    if fl / ReflectliteValue.flagAddr % 2 == 0 then unsupported (.noEntry "extern/(internal/reflectlite.Value).Set.unaddressable")
    let val ← loadVar src b
    if ← Rtype.directlyAssignable dst src then storeVar dst a val
    else if ← Rtype.implements dst src then
      if (← Rtype.kind src) == 20 then
        match val with
        | .nilIface => unsupported (.noEntry "extern/reflectlite: a nil value of one interface type handed on as a value of another")
        | _ => storeVar dst a val
      else storeVar dst a (.iface src val)
    else panicString ("reflectlite.Set: value of type " ++ (← Rtype.spelt src) ++ " is not assignable to type " ++ (← Rtype.spelt dst))
    pure (.tuple #[])) := rfl
theorem As_parts25a (a : Addr) (w : World) : (ReflectliteValue.parts (.agg #[.pointer (some ⟨5, 77, none⟩), .pointer (some a), .int .u64 406])).run Tryz.prog w = .ok (some (77, a, 406)) w := by kernel_rfl
theorem As_parts25 (a : Addr) (w : World) : (ReflectliteValue.parts (.agg #[.pointer (some ⟨5, 77, none⟩), .pointer (some a), .int .u64 150])).run Tryz.prog w = .ok (some (77, a, 150)) w := by kernel_rfl
theorem As_direct25 (w : World) : (Rtype.directlyAssignable 77 77).run Tryz.prog w = .ok true w := by kernel_rfl
theorem As_size25 (w : World) : (sizeOf 77).run Tryz.prog w = .ok 1 w := by kernel_rfl
theorem As_set25 (ta b e : Addr) (old : Value) (W : World) (hb : W.cell? b = some (.pointer (some e))) (ht : W.cell? ta = some old) (hf : W.frozen? ta = false) :
    (ReflectliteValue.set #[.agg #[.pointer (some ⟨5, 77, none⟩), .pointer (some ta), .int .u64 406], .agg #[.pointer (some ⟨5, 77, none⟩), .pointer (some b), .int .u64 150]]).run Tryz.prog W
      = .ok (.tuple #[]) (W.setCell ta (.pointer (some e))) := by
  rw [rls]
  simp only [Sem.run_bind, As_parts25a, As_parts25, Result.andThen]
  simp [ReflectliteValue.flagAddr, loadVar, isAgg, underlying, Tryz.underlying77, hb, Result.andThen, As_direct25, storeVar, Value.cells, storeCells, Addr.add]
  rw [run_store Tryz.prog W ta _ _ (by rfl)]
  simp [ht, hf]

set_option maxHeartbeats 4000000 in
theorem as_hit (e t : Addr) (old : Value) (w : World) (hg : w.cell? ⟨1, 0, none⟩ = some (.iface 141 (.agg #[.pointer (some ⟨5, 24, none⟩)]))) (ht0 : w.cell? t = some old) (hf0 : w.frozen? t = false) :
    Calls Tryz.prog 74 #[.iface 77 (.pointer (some e)), .iface 96 (.pointer (some t))] w fun ev w' => ev = .returned (.bool true) ∧ w' = ((((w.alloc (.cells #[.pointer (some t)] 96)).alloc (.cells #[.pointer (some ⟨5, 96, none⟩), .pointer (some ⟨w.heap.size, 0, none⟩), .int .u64 150] 124)).alloc (.cells #[.pointer (some ⟨5, 96, none⟩), .pointer (some ⟨w.heap.size, 0, none⟩), .int .u64 150] 124)).alloc (.cells #[.pointer (some e)] 77)).setCell t (.pointer (some e)) := by
  have h6 := @run_callFunc_extern Tryz.prog 97 _ (fun args => ReflectliteValue.unpack (args.getD 0 (.tuple #[]))) Tryz.func97 (by kernel_rfl) (by kernel_rfl) (by kernel_rfl) (by kernel_rfl)
  have h7 := @run_callFunc_extern Tryz.prog 98 _ (ReflectliteValue.methodAny (ReflectliteValue.valueError "reflectlite.Value.Type" 0) (fun t _ _ _ => ReflectliteType.toType t)) Tryz.func98 (by kernel_rfl) (by kernel_rfl) (by kernel_rfl) (by kernel_rfl)
  have h8 := @run_callFunc_extern Tryz.prog 99 _ (ReflectliteValue.method (ReflectliteValue.valueError "reflectlite.Value.IsNil" 0) ReflectliteValue.isNil) Tryz.func99 (by kernel_rfl) (by kernel_rfl) (by kernel_rfl) (by kernel_rfl)
  have h27 := @run_callFunc_extern Tryz.prog 165 _ (ReflectliteType.abiMethod fun t => do pure (.int .u8 (← Rtype.kind t))) Tryz.func165 (by kernel_rfl) (by kernel_rfl) (by kernel_rfl) (by kernel_rfl)
  have h37 := @run_callFunc_extern Tryz.prog 179 _ (ReflectliteType.method ReflectliteType.elem) Tryz.func179 (by kernel_rfl) (by kernel_rfl) (by kernel_rfl) (by kernel_rfl)
  have h38 := @run_callFunc_extern Tryz.prog 180 _ (ReflectliteType.relation "Implements" ReflectliteType.implements_) Tryz.func180 (by kernel_rfl) (by kernel_rfl) (by kernel_rfl) (by kernel_rfl)
  have h10 := @run_callFunc_extern Tryz.prog 84 _ ReflectliteType.typeOf Tryz.func84 (by kernel_rfl) (by kernel_rfl) (by kernel_rfl) (by kernel_rfl)
  have h35 := @run_callFunc_extern Tryz.prog 177 _ (ReflectliteType.relation "AssignableTo" ReflectliteType.assignableTo) Tryz.func177 (by kernel_rfl) (by kernel_rfl) (by kernel_rfl) (by kernel_rfl)
  have h11 := @run_callFunc_extern Tryz.prog 124 _ (ReflectliteValue.method (ReflectliteValue.valueError "reflectlite.Value.Elem" 0) ReflectliteValue.elem) Tryz.func124 (by kernel_rfl) (by kernel_rfl) (by kernel_rfl) (by kernel_rfl)
  have h12 := @run_callFunc_extern Tryz.prog 125 _ ReflectliteValue.set Tryz.func125 (by kernel_rfl) (by kernel_rfl) (by kernel_rfl) (by kernel_rfl)
  have tO := As_typeOf25
  have mA := As_methodAssignableTo
  have a25 := As_assignable25
  have v25 := As_valueOf25
  have f6 := As_valueOf27
  have f7 := As_type27
  have mK := As_methodKind
  have mE := As_methodElem
  have mI := As_methodImplements
  have k27 := As_kind27
  have k25 := As_kind25
  have e27 := As_elem27
  have i25 := As_implements25
  have n8 := As_isNil27 ⟨w.heap.size, 0, none⟩ t ((w.alloc (.cells #[.pointer (some t)] 96)).alloc (.cells #[.pointer (some ⟨5, 96, none⟩), .pointer (some ⟨w.heap.size, 0, none⟩), .int .u64 150] 124)) (by simp)
  have hlt : 1 < w.heap.size := World.block_lt_of_cell? w _ hg
  have hg2 : ((w.alloc (.cells #[.pointer (some t)] 96)).alloc (.cells #[.pointer (some ⟨5, 96, none⟩), .pointer (some ⟨w.heap.size, 0, none⟩), .int .u64 150] 124)).cell? ⟨1, 0, none⟩ = some (.iface 141 (.agg #[.pointer (some ⟨5, 24, none⟩)])) := by
    rw [World.cell?_alloc_lt _ _ ⟨1, 0, none⟩ (by first | (simp; done) | (simp; omega)), World.cell?_alloc_lt _ _ ⟨1, 0, none⟩ hlt]; exact hg
  have htl : t.block < w.heap.size := by
    rcases Nat.lt_or_ge t.block w.heap.size with h | h
    · exact h
    · simp [World.cell?, Array.getElem?_eq_none h] at ht0
  have el := As_elemV27 ⟨w.heap.size, 0, none⟩ t (((w.alloc (.cells #[.pointer (some t)] 96)).alloc (.cells #[.pointer (some ⟨5, 96, none⟩), .pointer (some ⟨w.heap.size, 0, none⟩), .int .u64 150] 124)).alloc (.cells #[.pointer (some ⟨5, 96, none⟩), .pointer (some ⟨w.heap.size, 0, none⟩), .int .u64 150] 124)) (by rw [World.cell?_alloc_lt _ _ ⟨w.heap.size, 0, none⟩ (by simp; omega)]; simp)
  have st := As_set25 t ⟨w.heap.size + 1 + 1 + 1, 0, none⟩ e old ((((w.alloc (.cells #[.pointer (some t)] 96)).alloc (.cells #[.pointer (some ⟨5, 96, none⟩), .pointer (some ⟨w.heap.size, 0, none⟩), .int .u64 150] 124)).alloc (.cells #[.pointer (some ⟨5, 96, none⟩), .pointer (some ⟨w.heap.size, 0, none⟩), .int .u64 150] 124)).alloc (.cells #[.pointer (some e)] 77))
    (by rw [World.cell?_alloc_at _ _ _ _ (by simp)]; rfl)
    (by rw [World.cell?_alloc_lt _ _ t (by simp; omega), World.cell?_alloc_lt _ _ t (by simp; omega), World.cell?_alloc_lt _ _ t (by simp; omega), World.cell?_alloc_lt _ _ t htl]; exact ht0)
    (by rw [World.frozen?_alloc_old _ _ t (by simp; omega), World.frozen?_alloc_old _ _ t (by simp; omega), World.frozen?_alloc_old _ _ t (by simp; omega), World.frozen?_alloc_old _ _ t (Nat.ne_of_lt htl)]; exact hf0)
  go_enter Tryz.func74, Tryz.ntmps74
  go_wp2
  refine wp_loop_rounds 1 ?_
  rw [rounds_succ]
  go_wp2
  go_ret
  exact ⟨rfl, rfl⟩
end Go.Proofs.YtbonnmkkacplgaaGreatDoor

/- The kind and the place of an error, as the statements read them. -/
namespace Go.Proofs.YtbonnmkkacplgaaGreatDoor
open Go.RowKit

theorem as_world (b : Nat) (w w1 w' : World) (h1 : w1 = w.alloc (.cells #[.pointer none] 77))
    (hw : w' = ((((w1.alloc (.cells #[.pointer (some ⟨w.heap.size, 0, none⟩)] 96)).alloc (.cells #[.pointer (some ⟨5, 96, none⟩), .pointer (some ⟨w1.heap.size, 0, none⟩), .int .u64 150] 124)).alloc (.cells #[.pointer (some ⟨5, 96, none⟩), .pointer (some ⟨w1.heap.size, 0, none⟩), .int .u64 150] 124)).alloc (.cells #[.pointer (some ⟨b, 0, none⟩)] 77)).setCell ⟨w.heap.size, 0, none⟩ (.pointer (some ⟨b, 0, none⟩))) :
    Below w.heap.size w w' ∧ w'.cell? ⟨w.heap.size, 0, none⟩ = some (.pointer (some ⟨b, 0, none⟩)) := by
  have hs : w1.heap.size = w.heap.size + 1 := by rw [h1]; simp
  have hb0 : Below w.heap.size w w1 := by rw [h1]; exact (Below.refl _ _).alloc (Nat.le_refl _) _
  have hc : w1.cell? ⟨w.heap.size, 0, none⟩ = some (.pointer none) := by rw [h1]; simp
  subst hw
  refine ⟨((((hb0.alloc (by omega) _).alloc (by simp; omega) _).alloc (by simp; omega) _).alloc (by simp; omega) _).setCell (Nat.le_refl _) _, ?_⟩
  refine World.cell?_setCell_same (u := .pointer none) _ _ _ ?_
  rw [World.cell?_alloc_lt _ _ _ (by simp; omega), World.cell?_alloc_lt _ _ _ (by simp; omega), World.cell?_alloc_lt _ _ _ (by simp; omega), World.cell?_alloc_lt _ _ _ (by simp; omega), hc]

set_option maxHeartbeats 1600000 in
set_option maxRecDepth 100000 in
theorem fault_Kind_is (v : Value) (k i : Int) (inner : Value) (w : World) (hg : Handle w) (hv : FaultIs w v k i inner) :
    Calls Tryz.prog 41 #[v] w fun e w' => e = .returned (.int .i64 k) ∧ Below w.heap.size w w' := by
  obtain ⟨b, rfl, hblk⟩ := hv
  have hlt := lt_of_block hblk
  have hg1 : Handle (w.alloc (.cells #[.pointer none] 77)) := hg.below ((Below.refl _ _).alloc (Nat.le_refl _) _)
  have ht1 : (w.alloc (.cells #[.pointer none] 77)).cell? ⟨w.heap.size, 0, none⟩ = some (.pointer none) := by simp
  have hf1 : (w.alloc (.cells #[.pointer none] 77)).frozen? ⟨w.heap.size, 0, none⟩ = false := by simp
  go_enter Tryz.func41, Tryz.ntmps41
  go_wp2_with fail
  refine (as_hit ⟨b, 0, none⟩ ⟨w.heap.size, 0, none⟩ (.pointer none) _ hg1 ht1 hf1).mono ?_
  rintro e w' ⟨rfl, hw⟩
  obtain ⟨hb, hc0⟩ := as_world b w _ w' rfl hw
  have hcb : w'.cell? ⟨b, 0, none⟩ = some (.int .i64 k) := by
    rw [hb.cell hlt, cell_of_row w b 0 _ _ _ hblk]; rfl
  clear hw hg1 ht1 hf1
  go_wp2_with fail
  go_ret
  exact ⟨rfl, hb⟩

set_option maxHeartbeats 1600000 in
set_option maxRecDepth 100000 in
theorem fault_At_is (v : Value) (k i : Int) (inner : Value) (w : World) (hg : Handle w) (hv : FaultIs w v k i inner) :
    Calls Tryz.prog 42 #[v] w fun e w' => e = .returned (.int .i64 i) ∧ Below w.heap.size w w' := by
  obtain ⟨b, rfl, hblk⟩ := hv
  have hlt := lt_of_block hblk
  have hg1 : Handle (w.alloc (.cells #[.pointer none] 77)) := hg.below ((Below.refl _ _).alloc (Nat.le_refl _) _)
  have ht1 : (w.alloc (.cells #[.pointer none] 77)).cell? ⟨w.heap.size, 0, none⟩ = some (.pointer none) := by simp
  have hf1 : (w.alloc (.cells #[.pointer none] 77)).frozen? ⟨w.heap.size, 0, none⟩ = false := by simp
  go_enter Tryz.func42, Tryz.ntmps42
  go_wp2_with fail
  refine (as_hit ⟨b, 0, none⟩ ⟨w.heap.size, 0, none⟩ (.pointer none) _ hg1 ht1 hf1).mono ?_
  rintro e w' ⟨rfl, hw⟩
  obtain ⟨hb, hc0⟩ := as_world b w _ w' rfl hw
  have hcb : w'.cell? ⟨b, 1, none⟩ = some (.int .i64 i) := by
    rw [hb.cell hlt, cell_of_row w b 1 _ _ _ hblk]; rfl
  clear hw hg1 ht1 hf1
  go_wp2_with fail
  go_ret
  exact ⟨rfl, hb⟩

theorem fault_Kind_nil (w : World) : Calls Tryz.prog 41 #[.nilIface] w fun e w' => e = .returned (.int .i64 0) ∧ Below w.heap.size w w' := by
  go_enter Tryz.func41, Tryz.ntmps41
  go_wp2_with fail
  go_ret
  exact ⟨rfl, Below.refl _ _⟩

theorem fault_Kind (v : Value) (k i : Nat) (w : World) (hg : Handle w) (hv : IsErr w v k i) :
    Calls Tryz.prog 41 #[v] w fun e w' => e = .returned (.int .i64 (k : Int)) ∧ Below w.heap.size w w' := by
  rcases hv with ⟨rfl, rfl⟩ | ⟨_, n, hv⟩
  · exact fault_Kind_nil w
  · exact fault_Kind_is v k i n w hg hv
theorem fault_At (v : Value) (k i : Nat) (w : World) (hg : Handle w) (hv : IsErr w v k i) (hk : k ≠ 0) :
    Calls Tryz.prog 42 #[v] w fun e w' => e = .returned (.int .i64 (i : Int)) ∧ Below w.heap.size w w' := by
  rcases hv with ⟨rfl, rfl⟩ | ⟨_, n, hv⟩
  · exact absurd rfl hk
  · exact fault_At_is v k i n w hg hv
end Go.Proofs.YtbonnmkkacplgaaGreatDoor

/- api.Wrap. -/
namespace Go.Proofs.YtbonnmkkacplgaaGreatDoor
open Go.RowKit

theorem wrap_at (k i : Int) (t : TypeId) (x : Value) (w : World) : Calls Tryz.prog 78 #[.int .i64 k, .int .i64 i, .iface t x] w fun e w' =>
    e = .returned (.iface 77 (.pointer (some ⟨w.heap.size, 0, none⟩))) ∧ w.alloc (.cells #[.int .i64 k, .int .i64 i, .iface t x] 79) = w' := by
  go_enter Tryz.func78, Tryz.ntmps78
  go_wp2
  go_ret
  exact ⟨rfl, rfl⟩
theorem wrap_fault (k i : Int) (v : Value) (w : World) (hv : ∃ t x, v = .iface t x) : Calls Tryz.prog 78 #[.int .i64 k, .int .i64 i, v] w fun e w' =>
    ∃ u, e = .returned u ∧ FaultIs w' u k i v ∧ Below w.heap.size w w' := by
  obtain ⟨t, x, rfl⟩ := hv
  exact (wrap_at k i t x w).mono fun _ _ ⟨he, hw⟩ => ⟨_, he, ⟨_, rfl, by rw [← hw]; exact heap_alloc_new w _⟩, by rw [← hw]; exact (Below.refl _ _).alloc (Nat.le_refl _) _⟩
end Go.Proofs.YtbonnmkkacplgaaGreatDoor

/- A region that draws its order, whose operations but for a tail only read: its head, walked by the quiet walk's cheap steps, in the one world. -/
namespace Go.Proofs.YtbonnmkkacplgaaGreatDoor
open Go.RowKit

theorem still_of_quiet {P : Program} {ops : Array Oper} {w : World} {o : Oper} {a : Act} {K : Act → Prop} (h : o.quiet P a (fun x => x = w) K) : o.still P a w K := by
  obtain ⟨v, h1, h2⟩ := h
  have h3 := h1 w rfl
  unfold Oper.quietAt at h3
  unfold Oper.still
  generalize (execOp a.eval o).run P w = r at *
  cases r with
  | ok n w' =>
    cases n <;> simp only [Oper.quietUpon] at h3 <;> simp only [Oper.stillUpon]
    case value u => obtain ⟨h4, rfl⟩ := h3; exact ⟨h4, h2⟩
    case skip => obtain ⟨h4, rfl⟩ := h3; exact ⟨h4, h2⟩
    case enter f args => exact ⟨h3.1, v, h3.2, h2⟩
  | halt x w' => simp only [Oper.quietUpon] at h3
theorem wpStill_of_quiet {P : Program} {ops : Array Oper} {w : World} {Q : Act → Prop} : ∀ (l : List Oper) (a : Act), wpQuiet P ops (fun x => x = w) Q l a → wpStill P ops w Q l a
  | [], _, h => h
  | o :: rest, a, h => by
    unfold wpQuiet at h
    unfold wpStill
    split
    · rename_i hw
      rw [if_pos hw] at h
      exact Oper.still_mono (fun a' h' => wpStill_of_quiet rest a' h') (still_of_quiet (ops := ops) h)
    · rename_i hw
      rw [if_neg hw] at h
      exact wpStill_of_quiet rest _ h
end Go.Proofs.YtbonnmkkacplgaaGreatDoor

/- label.moved. -/
namespace Go.Proofs.YtbonnmkkacplgaaGreatDoor
open Go.RowKit

theorem wrap_nil (k i : Int) (w : World) : Calls Tryz.prog 78 #[.int .i64 k, .int .i64 i, .nilIface] w fun e w' =>
    ∃ u, e = .returned u ∧ IsFault w' u k i ∧ Below w.heap.size w w' := by
  go_enter Tryz.func78, Tryz.ntmps78
  go_wp2
  go_ret
  exact ⟨_, rfl, ⟨_, rfl, heap_alloc_new w _⟩, (Below.refl _ _).alloc (Nat.le_refl _) _⟩
set_option maxHeartbeats 3200000 in
set_option maxRecDepth 100000 in
theorem label_moved (v : Value) (k i d : Nat) (w : World) (hg : Handle w) (hv : IsFault w v k i) (hi : i ≤ 1000000) (hd : d ≤ 1000000) : Calls Tryz.prog 47 #[v, .int .i64 (d : Int)] w fun e w' =>
    ∃ u, e = .returned u ∧ IsFault w' u k ((i + d : Nat) : Int) ∧ Below w.heap.size w w' := by
  obtain ⟨b, rfl, hblk⟩ := hv
  have hlt := lt_of_block hblk
  have hg2 : Handle (w.alloc (.cells #[.pointer none] 77)) := hg.below ((Below.refl _ _).alloc (Nat.le_refl _) _)
  have ht1 : (w.alloc (.cells #[.pointer none] 77)).cell? ⟨w.heap.size, 0, none⟩ = some (.pointer none) := by simp
  have hf1 : (w.alloc (.cells #[.pointer none] 77)).frozen? ⟨w.heap.size, 0, none⟩ = false := by simp
  have hdI : (i : Int) + (d : Int) ≤ 2000000 := by omega
  go_enter Tryz.func47, Tryz.ntmps47
  go_wp2_with fail
  refine (as_hit ⟨b, 0, none⟩ ⟨w.heap.size, 0, none⟩ (.pointer none) _ hg2 ht1 hf1).mono ?_
  rintro e w3 ⟨rfl, hw⟩
  obtain ⟨hb3, hc0⟩ := as_world b w _ w3 rfl hw
  have hk0 : w3.cell? ⟨b, 0, none⟩ = some (.int .i64 (k : Int)) := by rw [hb3.cell hlt, cell_of_row w b 0 _ _ _ hblk]; rfl
  have hk1 : w3.cell? ⟨b, 1, none⟩ = some (.int .i64 (i : Int)) := by rw [hb3.cell hlt, cell_of_row w b 1 _ _ _ hblk]; rfl
  have hk2 : w3.cell? ⟨b, 2, none⟩ = some .nilIface := by rw [hb3.cell hlt, cell_of_row w b 2 _ _ _ hblk]; rfl
  have hlt3 := World.block_lt_of_cell? w3 _ hc0
  have hlb3 := World.block_lt_of_cell? w3 _ hk0
  have hS : ∀ W, Below w3.heap.size w3 W → W.cell? ⟨w.heap.size, 0, none⟩ = some (.pointer (some ⟨b, 0, none⟩)) ∧ W.cell? ⟨b, 0, none⟩ = some (.int .i64 (k : Int)) ∧ W.cell? ⟨b, 1, none⟩ = some (.int .i64 (i : Int)) ∧ W.cell? ⟨b, 2, none⟩ = some .nilIface ∧ Below w3.heap.size w3 W := fun W hW =>
    ⟨(hW.cell (p := ⟨w.heap.size, 0, none⟩) hlt3).trans hc0, (hW.cell (p := ⟨b, 0, none⟩) hlb3).trans hk0, (hW.cell (p := ⟨b, 1, none⟩) hlb3).trans hk1, (hW.cell (p := ⟨b, 2, none⟩) hlb3).trans hk2, hW⟩
  have HS2 := Lib.hid hS
  have HB3 := Lib.hid hb3
  have hbr : Below w3.heap.size w3 w3 := Below.refl _ _
  have cW := Lib.hid (fun W => wrap_nil (k : Int) ((i : Int) + (d : Int)) W)
  clear hw hg2 ht1 hf1 hblk hb3 hS hlt hlt3 hlb3 hg
  go_wp2_with fail
  have hw3 : Below w3.heap.size w3 w3.drew := (Below.refl _ _).drew
  obtain ⟨m0, m1, m2, m3, _⟩ := HS2.out _ hw3
  refine wp_region_still_tail 14 (by kernel_rfl) (by kernel_rfl) ?_
  simp only [List.take_succ_cons, List.take_zero, List.drop_succ_cons, List.drop_zero]
  change wpStill _ _ w3.drew (fun a' => wpList _ _ _ _ a' w3.drew) _ _
  refine wpStill_of_quiet _ _ ?_
  repeat (first | go_big_quiet_skip | (go_big_quiet_want; go_big_quiet_op; go_big_quiet_on))
  refine wpQuiet_nil ?_
  go_wp2_with fail
  refine (cW.out _).mono ?_
  rintro e w5 ⟨u, rfl, hu, hb5⟩
  have hbE := Bt HB3.out (Bt hw3 hb5)
  have HU := Lib.hid hu
  clear hu
  go_wp2_with fail
  go_ret
  exact ⟨u, rfl, by have := HU.out; rw [Int.natCast_add]; exact this, hbE⟩
end Go.Proofs.YtbonnmkkacplgaaGreatDoor
