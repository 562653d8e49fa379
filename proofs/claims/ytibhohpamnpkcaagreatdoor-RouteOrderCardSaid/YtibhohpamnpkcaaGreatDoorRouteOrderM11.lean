/- errors.As at a pointer to a fault: its contract (after the kit's worked example of errors.As at a concrete target, turned to this program's types and numbers). -/
import Derived.Test.YtibhohpamnpkcaaGreatDoorRouteOrderM1
import Derived.LaidEql
import Derived.Stop.Asserts
import Derived.RowKitTokens
import Derived.Test.YtibhohpamnpkcaaGreatDoorRouteOrderM5
import Derived.StillTailTactics
import Derived.BigQuiet
import Derived.Test.YtibhohpamnpkcaaGreatDoorRouteOrderM2
import Derived.Deep.RegionHeld
import Derived.Test.YtibhohpamnpkcaaGreatDoorRouteOrderM10

namespace Go.Proofs.YtibhohpamnpkcaaGreatDoor
open Go.RowKit Go.Extern.Stop Go.Stop Go.Extern


theorem as_nil (t : Value) (w : World) :
    Calls Tryz.prog 36 #[.nilIface, t] w fun e w' => e = .returned (.bool false) ∧ w' = w := by
  go_enter Tryz.func36, Tryz.ntmps36
  go_wp2
  go_ret
  exact ⟨rfl, rfl⟩

theorem As_valueOf27 (t : Addr) (w : World) : (ReflectliteValue.unpack (.iface 91 (.pointer (some t)))).run Tryz.prog w
    = .ok (.agg #[.pointer (some ⟨5, 91, none⟩), .pointer (some ⟨w.heap.size, 0, none⟩), .int .u64 150]) (w.alloc (.cells #[.pointer (some t)] 91)) := by kernel_rfl
theorem As_type27 (a : Addr) (w : World) : (ReflectliteValue.methodAny (ReflectliteValue.valueError "reflectlite.Value.Type" 0) (fun t _ _ _ => ReflectliteType.toType t) #[.agg #[.pointer (some ⟨5, 91, none⟩), .pointer (some a), .int .u64 150]]).run Tryz.prog w
    = .ok (.iface 153 (.agg #[.pointer (some ⟨5, 91, none⟩)])) w := by kernel_rfl
theorem As_methodKind (h : Value) (w : World) : (Go.method 455 153 (.agg #[h]) "Kind").run Tryz.prog w = .ok (237, h) w := by kernel_rfl
theorem As_kind27 (w : World) : ((ReflectliteType.abiMethod fun t => (fun a : Nat => Value.int IntKind.u8 (a : Int)) <$> Rtype.kind t) #[.pointer (some ⟨5, 91, none⟩)]).run Tryz.prog w = .ok (.int .u8 22) w := by kernel_rfl
theorem As_kind25 (w : World) : ((ReflectliteType.abiMethod fun t => (fun a : Nat => Value.int IntKind.u8 (a : Int)) <$> Rtype.kind t) #[.pointer (some ⟨5, 89, none⟩)]).run Tryz.prog w = .ok (.int .u8 22) w := by kernel_rfl

theorem rlm (z : Sem Value) (f : TypeId → Addr → Nat → Nat → Sem Value) (v : Value) :
    ReflectliteValue.method z f #[v] = (do match ← ReflectliteValue.parts v with | none => z | some (t, a, fl) => f t a fl (fl % 32)) := rfl
theorem As_parts27 (a : Addr) (w : World) : (ReflectliteValue.parts (.agg #[.pointer (some ⟨5, 91, none⟩), .pointer (some a), .int .u64 150])).run Tryz.prog w = .ok (some (91, a, 150)) w := by kernel_rfl
theorem As_isNil27 (a p : Addr) (W : World) (ha : W.cell? a = some (.pointer (some p))) :
    (ReflectliteValue.method (ReflectliteValue.valueError "reflectlite.Value.IsNil" 0) ReflectliteValue.isNil #[.agg #[.pointer (some ⟨5, 91, none⟩), .pointer (some a), .int .u64 150]]).run Tryz.prog W = .ok (.bool false) W := by
  rw [rlm]
  simp only [Sem.run_bind, As_parts27, Result.andThen]
  simp [ReflectliteValue.isNil, loadVar, isAgg, underlying, Tryz.underlying91, ha, Result.andThen]

theorem As_methodElem (h : Value) (w : World) : (Go.method 455 153 (.agg #[h]) "Elem").run Tryz.prog w = .ok (249, .agg #[h]) w := by kernel_rfl
theorem As_methodImplements (h : Value) (w : World) : (Go.method 455 153 (.agg #[h]) "Implements").run Tryz.prog w = .ok (250, .agg #[h]) w := by kernel_rfl
theorem As_methodAssignableTo (h : Value) (w : World) : (Go.method 455 153 (.agg #[h]) "AssignableTo").run Tryz.prog w = .ok (247, .agg #[h]) w := by kernel_rfl
theorem As_elem27 (w : World) : (ReflectliteType.method ReflectliteType.elem #[.agg #[.pointer (some ⟨5, 91, none⟩)]]).run Tryz.prog w = .ok (.iface 153 (.agg #[.pointer (some ⟨5, 89, none⟩)])) w := by kernel_rfl
theorem As_implements25 (w : World) : (ReflectliteType.relation "Implements" ReflectliteType.implements_ #[.agg #[.pointer (some ⟨5, 89, none⟩)], .iface 153 (.agg #[.pointer (some ⟨5, 42, none⟩)])]).run Tryz.prog w = .ok (.bool true) w := by kernel_rfl
theorem As_typeOf25 (v : Value) (w : World) : (ReflectliteType.typeOf #[.iface 89 v]).run Tryz.prog w = .ok (.iface 153 (.agg #[.pointer (some ⟨5, 89, none⟩)])) w := by kernel_rfl
theorem As_assignable25 (w : World) : (ReflectliteType.relation "AssignableTo" ReflectliteType.assignableTo #[.agg #[.pointer (some ⟨5, 89, none⟩)], .iface 153 (.agg #[.pointer (some ⟨5, 89, none⟩)])]).run Tryz.prog w = .ok (.bool true) w := by kernel_rfl
theorem As_valueOf25 (e : Addr) (w : World) : (ReflectliteValue.unpack (.iface 89 (.pointer (some e)))).run Tryz.prog w
    = .ok (.agg #[.pointer (some ⟨5, 89, none⟩), .pointer (some ⟨w.heap.size, 0, none⟩), .int .u64 150]) (w.alloc (.cells #[.pointer (some e)] 89)) := by kernel_rfl

theorem As_elemOf27 (w : World) : (Rtype.elem? 91).run Tryz.prog w = .ok (some 89) w := by kernel_rfl
theorem As_mk25 (p : Addr) (w : World) : (ReflectliteValue.mk 89 p ReflectliteValue.flagAddr).run Tryz.prog w = .ok (.agg #[.pointer (some ⟨5, 89, none⟩), .pointer (some p), .int .u64 406]) w := by kernel_rfl
theorem As_elemV27 (a p : Addr) (W : World) (ha : W.cell? a = some (.pointer (some p))) :
    (ReflectliteValue.method (ReflectliteValue.valueError "reflectlite.Value.Elem" 0) ReflectliteValue.elem #[.agg #[.pointer (some ⟨5, 91, none⟩), .pointer (some a), .int .u64 150]]).run Tryz.prog W
      = .ok (.agg #[.pointer (some ⟨5, 89, none⟩), .pointer (some p), .int .u64 406]) W := by
  rw [rlm]
  simp only [Sem.run_bind, As_parts27, Result.andThen]
  simp [ReflectliteValue.elem, loadVar, isAgg, underlying, Tryz.underlying91, ha, Result.andThen, As_elemOf27, As_mk25]
theorem rls (v x : Value) : ReflectliteValue.set #[v, x] = (do
    let (some (dst, a, fl), some (src, b, _)) := (← ReflectliteValue.parts v, ← ReflectliteValue.parts x)
      | unsupported (.noEntry "extern/(internal/reflectlite.Value).Set.zeroValue")
    if fl / ReflectliteValue.flagAddr % 2 == 0 then unsupported (.noEntry "extern/(internal/reflectlite.Value).Set.unaddressable")
    let val ← loadVar src b
    if ← Rtype.directlyAssignable dst src then storeVar dst a val
    else if ← Rtype.implements dst src then
      if (← Rtype.kind src) == 20 then
        match val with
        | .nilIface => unsupported (.noEntry "extern/reflectlite: a nil value of one interface type handed on as a value of another")
        | _ => storeVar dst a val
      else storeVar dst a (.iface src val)
    else panicString ("reflectlite.Set: value of type " ++ (← Rtype.spelt src) ++ " is not assignable to type " ++ (← Rtype.spelt dst))
    pure (.tuple #[])) := rfl
theorem As_parts25a (a : Addr) (w : World) : (ReflectliteValue.parts (.agg #[.pointer (some ⟨5, 89, none⟩), .pointer (some a), .int .u64 406])).run Tryz.prog w = .ok (some (89, a, 406)) w := by kernel_rfl
theorem As_parts25 (a : Addr) (w : World) : (ReflectliteValue.parts (.agg #[.pointer (some ⟨5, 89, none⟩), .pointer (some a), .int .u64 150])).run Tryz.prog w = .ok (some (89, a, 150)) w := by kernel_rfl
theorem As_direct25 (w : World) : (Rtype.directlyAssignable 89 89).run Tryz.prog w = .ok true w := by kernel_rfl
theorem As_size25 (w : World) : (sizeOf 89).run Tryz.prog w = .ok 1 w := by kernel_rfl
theorem As_set25 (ta b e : Addr) (old : Value) (W : World) (hb : W.cell? b = some (.pointer (some e))) (ht : W.cell? ta = some old) (hf : W.frozen? ta = false) :
    (ReflectliteValue.set #[.agg #[.pointer (some ⟨5, 89, none⟩), .pointer (some ta), .int .u64 406], .agg #[.pointer (some ⟨5, 89, none⟩), .pointer (some b), .int .u64 150]]).run Tryz.prog W
      = .ok (.tuple #[]) (W.setCell ta (.pointer (some e))) := by
  rw [rls]
  simp only [Sem.run_bind, As_parts25a, As_parts25, Result.andThen]
  simp [ReflectliteValue.flagAddr, loadVar, isAgg, underlying, Tryz.underlying89, hb, Result.andThen, As_direct25, storeVar, Value.cells, storeCells, Addr.add]
  rw [run_store Tryz.prog W ta _ _ (by rfl)]
  simp [ht, hf]

set_option maxHeartbeats 4000000 in
theorem as_hit (e t : Addr) (old : Value) (w : World) (hg : w.cell? ⟨0, 0, none⟩ = some (.iface 153 (.agg #[.pointer (some ⟨5, 42, none⟩)]))) (ht0 : w.cell? t = some old) (hf0 : w.frozen? t = false) :
    Calls Tryz.prog 36 #[.iface 89 (.pointer (some e)), .iface 91 (.pointer (some t))] w fun ev w' => ev = .returned (.bool true) ∧ w' = ((((w.alloc (.cells #[.pointer (some t)] 91)).alloc (.cells #[.pointer (some ⟨5, 91, none⟩), .pointer (some ⟨w.heap.size, 0, none⟩), .int .u64 150] 118)).alloc (.cells #[.pointer (some ⟨5, 91, none⟩), .pointer (some ⟨w.heap.size, 0, none⟩), .int .u64 150] 118)).alloc (.cells #[.pointer (some e)] 89)).setCell t (.pointer (some e)) := by
  have h6 := @run_callFunc_extern Tryz.prog 50 _ (fun args => ReflectliteValue.unpack (args.getD 0 (.tuple #[]))) Tryz.func50 (by kernel_rfl) (by kernel_rfl) (by kernel_rfl) (by kernel_rfl)
  have h7 := @run_callFunc_extern Tryz.prog 51 _ (ReflectliteValue.methodAny (ReflectliteValue.valueError "reflectlite.Value.Type" 0) (fun t _ _ _ => ReflectliteType.toType t)) Tryz.func51 (by kernel_rfl) (by kernel_rfl) (by kernel_rfl) (by kernel_rfl)
  have h8 := @run_callFunc_extern Tryz.prog 52 _ (ReflectliteValue.method (ReflectliteValue.valueError "reflectlite.Value.IsNil" 0) ReflectliteValue.isNil) Tryz.func52 (by kernel_rfl) (by kernel_rfl) (by kernel_rfl) (by kernel_rfl)
  have h27 := @run_callFunc_extern Tryz.prog 237 _ (ReflectliteType.abiMethod fun t => do pure (.int .u8 (← Rtype.kind t))) Tryz.func237 (by kernel_rfl) (by kernel_rfl) (by kernel_rfl) (by kernel_rfl)
  have h37 := @run_callFunc_extern Tryz.prog 249 _ (ReflectliteType.method ReflectliteType.elem) Tryz.func249 (by kernel_rfl) (by kernel_rfl) (by kernel_rfl) (by kernel_rfl)
  have h38 := @run_callFunc_extern Tryz.prog 250 _ (ReflectliteType.relation "Implements" ReflectliteType.implements_) Tryz.func250 (by kernel_rfl) (by kernel_rfl) (by kernel_rfl) (by kernel_rfl)
  have h10 := @run_callFunc_extern Tryz.prog 75 _ ReflectliteType.typeOf Tryz.func75 (by kernel_rfl) (by kernel_rfl) (by kernel_rfl) (by kernel_rfl)
  have h35 := @run_callFunc_extern Tryz.prog 247 _ (ReflectliteType.relation "AssignableTo" ReflectliteType.assignableTo) Tryz.func247 (by kernel_rfl) (by kernel_rfl) (by kernel_rfl) (by kernel_rfl)
  have h11 := @run_callFunc_extern Tryz.prog 76 _ (ReflectliteValue.method (ReflectliteValue.valueError "reflectlite.Value.Elem" 0) ReflectliteValue.elem) Tryz.func76 (by kernel_rfl) (by kernel_rfl) (by kernel_rfl) (by kernel_rfl)
  have h12 := @run_callFunc_extern Tryz.prog 77 _ ReflectliteValue.set Tryz.func77 (by kernel_rfl) (by kernel_rfl) (by kernel_rfl) (by kernel_rfl)
  have tO := As_typeOf25
  have mA := As_methodAssignableTo
  have a25 := As_assignable25
  have v25 := As_valueOf25
  have f6 := As_valueOf27
  have f7 := As_type27
  have mK := As_methodKind
  have mE := As_methodElem
  have mI := As_methodImplements
  have k27 := As_kind27
  have k25 := As_kind25
  have e27 := As_elem27
  have i25 := As_implements25
  have n8 := As_isNil27 ⟨w.heap.size, 0, none⟩ t ((w.alloc (.cells #[.pointer (some t)] 91)).alloc (.cells #[.pointer (some ⟨5, 91, none⟩), .pointer (some ⟨w.heap.size, 0, none⟩), .int .u64 150] 118)) (by simp)
  have hlt : 0 < w.heap.size := World.block_lt_of_cell? w _ hg
  have hg2 : ((w.alloc (.cells #[.pointer (some t)] 91)).alloc (.cells #[.pointer (some ⟨5, 91, none⟩), .pointer (some ⟨w.heap.size, 0, none⟩), .int .u64 150] 118)).cell? ⟨0, 0, none⟩ = some (.iface 153 (.agg #[.pointer (some ⟨5, 42, none⟩)])) := by
    rw [World.cell?_alloc_lt _ _ ⟨0, 0, none⟩ (by first | (simp; done) | (simp; omega)), World.cell?_alloc_lt _ _ ⟨0, 0, none⟩ hlt]; exact hg
  have htl : t.block < w.heap.size := by
    rcases Nat.lt_or_ge t.block w.heap.size with h | h
    · exact h
    · simp [World.cell?, Array.getElem?_eq_none h] at ht0
  have el := As_elemV27 ⟨w.heap.size, 0, none⟩ t (((w.alloc (.cells #[.pointer (some t)] 91)).alloc (.cells #[.pointer (some ⟨5, 91, none⟩), .pointer (some ⟨w.heap.size, 0, none⟩), .int .u64 150] 118)).alloc (.cells #[.pointer (some ⟨5, 91, none⟩), .pointer (some ⟨w.heap.size, 0, none⟩), .int .u64 150] 118)) (by rw [World.cell?_alloc_lt _ _ ⟨w.heap.size, 0, none⟩ (by simp; omega)]; simp)
  have st := As_set25 t ⟨w.heap.size + 1 + 1 + 1, 0, none⟩ e old ((((w.alloc (.cells #[.pointer (some t)] 91)).alloc (.cells #[.pointer (some ⟨5, 91, none⟩), .pointer (some ⟨w.heap.size, 0, none⟩), .int .u64 150] 118)).alloc (.cells #[.pointer (some ⟨5, 91, none⟩), .pointer (some ⟨w.heap.size, 0, none⟩), .int .u64 150] 118)).alloc (.cells #[.pointer (some e)] 89))
    (by rw [World.cell?_alloc_at _ _ _ _ (by simp)]; rfl)
    (by rw [World.cell?_alloc_lt _ _ t (by simp; omega), World.cell?_alloc_lt _ _ t (by simp; omega), World.cell?_alloc_lt _ _ t (by simp; omega), World.cell?_alloc_lt _ _ t htl]; exact ht0)
    (by rw [World.frozen?_alloc_old _ _ t (by simp; omega), World.frozen?_alloc_old _ _ t (by simp; omega), World.frozen?_alloc_old _ _ t (by simp; omega), World.frozen?_alloc_old _ _ t (Nat.ne_of_lt htl)]; exact hf0)
  go_enter Tryz.func36, Tryz.ntmps36
  go_wp2
  refine wp_loop_rounds 1 ?_
  rw [rounds_succ]
  go_wp2
  go_ret
  exact ⟨rfl, rfl⟩
end Go.Proofs.YtibhohpamnpkcaaGreatDoor

/- The kind and the place of an error, as the statements read them. -/
namespace Go.Proofs.YtibhohpamnpkcaaGreatDoor
open Go.RowKit

theorem as_world (b : Nat) (w w1 w' : World) (h1 : w1 = w.alloc (.cells #[.pointer none] 89))
    (hw : w' = ((((w1.alloc (.cells #[.pointer (some ⟨w.heap.size, 0, none⟩)] 91)).alloc (.cells #[.pointer (some ⟨5, 91, none⟩), .pointer (some ⟨w1.heap.size, 0, none⟩), .int .u64 150] 118)).alloc (.cells #[.pointer (some ⟨5, 91, none⟩), .pointer (some ⟨w1.heap.size, 0, none⟩), .int .u64 150] 118)).alloc (.cells #[.pointer (some ⟨b, 0, none⟩)] 89)).setCell ⟨w.heap.size, 0, none⟩ (.pointer (some ⟨b, 0, none⟩))) :
    Below w.heap.size w w' ∧ w'.cell? ⟨w.heap.size, 0, none⟩ = some (.pointer (some ⟨b, 0, none⟩)) := by
  have hs : w1.heap.size = w.heap.size + 1 := by rw [h1]; simp
  have hb0 : Below w.heap.size w w1 := by rw [h1]; exact (Below.refl _ _).alloc (Nat.le_refl _) _
  have hc : w1.cell? ⟨w.heap.size, 0, none⟩ = some (.pointer none) := by rw [h1]; simp
  subst hw
  refine ⟨((((hb0.alloc (by omega) _).alloc (by simp; omega) _).alloc (by simp; omega) _).alloc (by simp; omega) _).setCell (Nat.le_refl _) _, ?_⟩
  refine World.cell?_setCell_same (u := .pointer none) _ _ _ ?_
  rw [World.cell?_alloc_lt _ _ _ (by simp; omega), World.cell?_alloc_lt _ _ _ (by simp; omega), World.cell?_alloc_lt _ _ _ (by simp; omega), World.cell?_alloc_lt _ _ _ (by simp; omega), hc]

set_option maxHeartbeats 1600000 in
set_option maxRecDepth 100000 in
theorem fault_Kind_is (v : Value) (k i : Int) (inner : Value) (w : World) (hg : Handle w) (hv : FaultIs w v k i inner) :
    Calls Tryz.prog 14 #[v] w fun e w' => e = .returned (.int .i64 k) ∧ Below w.heap.size w w' := by
  obtain ⟨b, rfl, hblk⟩ := hv
  have hlt := lt_of_block hblk
  have hg1 : Handle (w.alloc (.cells #[.pointer none] 89)) := hg.below ((Below.refl _ _).alloc (Nat.le_refl _) _)
  have ht1 : (w.alloc (.cells #[.pointer none] 89)).cell? ⟨w.heap.size, 0, none⟩ = some (.pointer none) := by simp
  have hf1 : (w.alloc (.cells #[.pointer none] 89)).frozen? ⟨w.heap.size, 0, none⟩ = false := by simp
  go_enter Tryz.func14, Tryz.ntmps14
  go_wp2_with fail
  refine (as_hit ⟨b, 0, none⟩ ⟨w.heap.size, 0, none⟩ (.pointer none) _ hg1 ht1 hf1).mono ?_
  rintro e w' ⟨rfl, hw⟩
  obtain ⟨hb, hc0⟩ := as_world b w _ w' rfl hw
  have hcb : w'.cell? ⟨b, 0, none⟩ = some (.int .i64 k) := by
    rw [hb.cell hlt, cell_of_row w b 0 _ _ _ hblk]; rfl
  clear hw hg1 ht1 hf1
  go_wp2_with fail
  go_ret
  exact ⟨rfl, hb⟩

set_option maxHeartbeats 1600000 in
set_option maxRecDepth 100000 in
theorem fault_At_is (v : Value) (k i : Int) (inner : Value) (w : World) (hg : Handle w) (hv : FaultIs w v k i inner) :
    Calls Tryz.prog 15 #[v] w fun e w' => e = .returned (.int .i64 i) ∧ Below w.heap.size w w' := by
  obtain ⟨b, rfl, hblk⟩ := hv
  have hlt := lt_of_block hblk
  have hg1 : Handle (w.alloc (.cells #[.pointer none] 89)) := hg.below ((Below.refl _ _).alloc (Nat.le_refl _) _)
  have ht1 : (w.alloc (.cells #[.pointer none] 89)).cell? ⟨w.heap.size, 0, none⟩ = some (.pointer none) := by simp
  have hf1 : (w.alloc (.cells #[.pointer none] 89)).frozen? ⟨w.heap.size, 0, none⟩ = false := by simp
  go_enter Tryz.func15, Tryz.ntmps15
  go_wp2_with fail
  refine (as_hit ⟨b, 0, none⟩ ⟨w.heap.size, 0, none⟩ (.pointer none) _ hg1 ht1 hf1).mono ?_
  rintro e w' ⟨rfl, hw⟩
  obtain ⟨hb, hc0⟩ := as_world b w _ w' rfl hw
  have hcb : w'.cell? ⟨b, 1, none⟩ = some (.int .i64 i) := by
    rw [hb.cell hlt, cell_of_row w b 1 _ _ _ hblk]; rfl
  clear hw hg1 ht1 hf1
  go_wp2_with fail
  go_ret
  exact ⟨rfl, hb⟩

theorem fault_Kind_nil (w : World) : Calls Tryz.prog 14 #[.nilIface] w fun e w' => e = .returned (.int .i64 0) ∧ Below w.heap.size w w' := by
  go_enter Tryz.func14, Tryz.ntmps14
  go_wp2_with fail
  go_ret
  exact ⟨rfl, Below.refl _ _⟩

theorem fault_Kind (v : Value) (k i : Nat) (w : World) (hg : Handle w) (hv : IsErr w v k i) :
    Calls Tryz.prog 14 #[v] w fun e w' => e = .returned (.int .i64 (k : Int)) ∧ Below w.heap.size w w' := by
  rcases hv with ⟨rfl, rfl⟩ | ⟨_, n, hv⟩
  · exact fault_Kind_nil w
  · exact fault_Kind_is v k i n w hg hv
theorem fault_At (v : Value) (k i : Nat) (w : World) (hg : Handle w) (hv : IsErr w v k i) (hk : k ≠ 0) :
    Calls Tryz.prog 15 #[v] w fun e w' => e = .returned (.int .i64 (i : Int)) ∧ Below w.heap.size w w' := by
  rcases hv with ⟨rfl, rfl⟩ | ⟨_, n, hv⟩
  · exact absurd rfl hk
  · exact fault_At_is v k i n w hg hv
end Go.Proofs.YtibhohpamnpkcaaGreatDoor

/- api.Wrap. -/
namespace Go.Proofs.YtibhohpamnpkcaaGreatDoor
open Go.RowKit

theorem wrap_at (k i : Int) (t : TypeId) (x : Value) (w : World) : Calls Tryz.prog 47 #[.int .i64 k, .int .i64 i, .iface t x] w fun e w' =>
    e = .returned (.iface 89 (.pointer (some ⟨w.heap.size, 0, none⟩))) ∧ w.alloc (.cells #[.int .i64 k, .int .i64 i, .iface t x] 93) = w' := by
  go_enter Tryz.func47, Tryz.ntmps47
  go_wp2
  go_ret
  exact ⟨rfl, rfl⟩
theorem wrap_fault (k i : Int) (v : Value) (w : World) (hv : ∃ t x, v = .iface t x) : Calls Tryz.prog 47 #[.int .i64 k, .int .i64 i, v] w fun e w' =>
    ∃ u, e = .returned u ∧ FaultIs w' u k i v ∧ Below w.heap.size w w' := by
  obtain ⟨t, x, rfl⟩ := hv
  exact (wrap_at k i t x w).mono fun _ _ ⟨he, hw⟩ => ⟨_, he, ⟨_, rfl, by rw [← hw]; exact heap_alloc_new w _⟩, by rw [← hw]; exact (Below.refl _ _).alloc (Nat.le_refl _) _⟩
end Go.Proofs.YtibhohpamnpkcaaGreatDoor

/- A region that draws its order, whose operations but for a tail only read: its head, walked by the quiet walk's cheap steps, in the one world. -/
namespace Go.Proofs.YtibhohpamnpkcaaGreatDoor
open Go.RowKit

theorem still_of_quiet {P : Program} {ops : Array Oper} {w : World} {o : Oper} {a : Act} {K : Act → Prop} (h : o.quiet P a (fun x => x = w) K) : o.still P a w K := by
  obtain ⟨v, h1, h2⟩ := h
  have h3 := h1 w rfl
  unfold Oper.quietAt at h3
  unfold Oper.still
  generalize (execOp a.eval o).run P w = r at *
  cases r with
  | ok n w' =>
    cases n <;> simp only [Oper.quietUpon] at h3 <;> simp only [Oper.stillUpon]
    case value u => obtain ⟨h4, rfl⟩ := h3; exact ⟨h4, h2⟩
    case skip => obtain ⟨h4, rfl⟩ := h3; exact ⟨h4, h2⟩
    case enter f args => exact ⟨h3.1, v, h3.2, h2⟩
  | halt x w' => simp only [Oper.quietUpon] at h3
theorem wpStill_of_quiet {P : Program} {ops : Array Oper} {w : World} {Q : Act → Prop} : ∀ (l : List Oper) (a : Act), wpQuiet P ops (fun x => x = w) Q l a → wpStill P ops w Q l a
  | [], _, h => h
  | o :: rest, a, h => by
    unfold wpQuiet at h
    unfold wpStill
    split
    · rename_i hw
      rw [if_pos hw] at h
      exact Oper.still_mono (fun a' h' => wpStill_of_quiet rest a' h') (still_of_quiet (ops := ops) h)
    · rename_i hw
      rw [if_neg hw] at h
      exact wpStill_of_quiet rest _ h
end Go.Proofs.YtibhohpamnpkcaaGreatDoor

/- label.moved. -/
namespace Go.Proofs.YtibhohpamnpkcaaGreatDoor
open Go.RowKit

theorem wrap_nil (k i : Int) (w : World) : Calls Tryz.prog 47 #[.int .i64 k, .int .i64 i, .nilIface] w fun e w' =>
    ∃ u, e = .returned u ∧ IsFault w' u k i ∧ Below w.heap.size w w' := by
  go_enter Tryz.func47, Tryz.ntmps47
  go_wp2
  go_ret
  exact ⟨_, rfl, ⟨_, rfl, heap_alloc_new w _⟩, (Below.refl _ _).alloc (Nat.le_refl _) _⟩
end Go.Proofs.YtibhohpamnpkcaaGreatDoor

/- label.Name. -/
namespace Go.Proofs.YtibhohpamnpkcaaGreatDoor
open Go.RowKit

/-- What a name of labels is told as. -/
inductive NameIs (s : ByteArray) : Except (Nat × Nat) ByteArray → Prop
  | empty (h : (cutP s).size = 0) : NameIs s (.error (10, 0))
  | many (i : Nat) (h : (cutP s).size ≠ 0) (h1 : i < (cutP s).size) (h2 : byteAt (cutP s) i = 46) (h3 : (cutAt (cutP s) 46 (i + 1)).1.length = 127) : NameIs s (.error (15, i))
  | bad (e : Nat × Nat) (h : (cutP s).size ≠ 0) (h1 : (cutAt (cutP s) 46 (cutP s).size).1.length < 127) (h2 : nameF (fieldsB (cutP s)) 0 = .error e) : NameIs s (.error e)
  | long (xs : List ByteArray) (h : (cutP s).size ≠ 0) (h1 : (cutAt (cutP s) 46 (cutP s).size).1.length < 127) (h2 : nameF (fieldsB (cutP s)) 0 = .ok xs) (h3 : 253 < (joinP xs).size) : NameIs s (.error (14, 253))
  | ok (xs : List ByteArray) (h : (cutP s).size ≠ 0) (h1 : (cutAt (cutP s) 46 (cutP s).size).1.length < 127) (h2 : nameF (fieldsB (cutP s)) 0 = .ok xs) (h3 : ¬ 253 < (joinP xs).size) : NameIs s (.ok (joinP xs))
def NamePost (s : ByteArray) (w : World) (e : Ending) (w' : World) : Prop := Below w.heap.size w w' ∧
  ((∃ k i : Nat, ∃ v, NameIs s (.error (k, i)) ∧ k ≠ 0 ∧ e = .returned (.tuple #[.string ⟨#[]⟩, v]) ∧ IsFault w' v k i) ∨ ∃ t, NameIs s (.ok t) ∧ e = .returned (.tuple #[.string t, .nilIface]))
theorem nameF_kind : ∀ (ps : List ByteArray) (a k i : Nat), nameF ps a = .error (k, i) → k ≠ 0 := by
  intro ps
  induction ps with
  | nil => intro a k i h; cases h
  | cons p ps ih =>
    intro a k i h
    cases hp : asciiL p with
    | error e =>
      obtain ⟨k', i'⟩ := e
      rw [nameF_err hp] at h
      cases h
      cases hc : (chrs p).2 with
      | some j => rw [asciiL_utf hc] at hp; cases hp; decide
      | none =>
        cases hw : wideL (chrs p).1 with
        | true =>
          rw [asciiL_wide hc hw] at hp
          generalize lowC (lowerS p) = l at *
          cases hb : badC l 0 with
          | some j => rw [asciiW_bad hb] at hp; cases hp; decide
          | none =>
            cases hm : marksL l with
            | false => rw [asciiW_marks hb hm] at hp; cases hp; decide
            | true =>
              by_cases hl : 256 < l.length ∨ 59 < (encN l).length
              · rw [asciiW_long hb hm hl] at hp; cases hp; decide
              · rw [asciiW_ok hb hm hl] at hp; cases hp
        | false =>
          by_cases h0 : (rightL (lowerS p)).1 = 0
          · rw [asciiL_low hc hw h0] at hp; cases hp
          · rw [asciiL_err hc hw h0] at hp
            injection hp with hp
            rw [hp] at h0
            exact h0
    | ok x =>
      rw [nameF_ok hp] at h
      cases hn : nameF ps (a + p.size + 1) with
      | error e => rw [hn] at h; cases h; exact ih _ _ _ hn
      | ok xs => rw [hn] at h; cases h
theorem OwnS.set {w : World} {base g n c : Nat} {l : List ByteArray} (h : OwnS w base (.slice (some ⟨g, 0, none⟩) n c) l) (i : Nat) (hi : i < l.length) (x : ByteArray) : OwnS (w.setCell ⟨g, i, none⟩ (.string x)) base (.slice (some ⟨g, 0, none⟩) n c) (l.set i x) := by
  obtain ⟨h0, h⟩ := h
  rcases h with ⟨e, _⟩ | ⟨g', cap, cur, e, hg, hh, h1, h2, h3, h4⟩
  · cases e
  · cases e
    refine ⟨by simp, .inr ⟨g, c, cur.setIfInBounds i (.string x), by simp, hg, ?_, by simpa using h1, h2, by simpa using h3, ?_⟩⟩
    · simp [World.setCell, Array.getElem?_modify, hh]
    · have e4 : (cur.setIfInBounds i (.string x)).toList = cur.toList.set i (.string x) := by simp
      rw [e4, List.length_set, Nat.mul_one] at *
      rw [List.take_set, h4, List.map_set]
      rfl
theorem OwnS.cellS {w : World} {base : Nat} {a : Option Addr} {n c : Nat} {l : List ByteArray} (h : OwnS w base (.slice a n c) l) {i : Nat} (hi : i < l.length) : ∃ g, a = some ⟨g, 0, none⟩ ∧ base ≤ g ∧ g < w.heap.size ∧ l.length ≤ c ∧ c ≤ maxLen ∧ w.cell? ⟨g, i, none⟩ = some (.string (l.getD i ByteArray.empty)) ∧ w.frozen? ⟨g, i, none⟩ = false := by
  rcases h.2 with ⟨e, h0⟩ | ⟨g, cap, cur, e, hg, hh, h1, h2, _⟩
  · omega
  · cases e
    have := World.ownsRow.cellAt h i (by omega)
    refine ⟨g, rfl, hg, lt_of_block hh, h1, h2, ?_, by simp [World.frozen?, hh]⟩
    rw [this]
    simp [hi, strV, List.getD]
theorem set_mid2 (xs ps : List ByteArray) (i : Nat) (p x : ByteArray) (h : xs.length = i) (hp : ps.drop i = p :: ps.drop (i + 1)) : (xs ++ ps.drop i).set i x = (xs ++ [x]) ++ ps.drop (i + 1) := by
  rw [hp, List.set_append_right _ _ (by omega), h, Nat.sub_self, List.set_cons_zero]
  simp
theorem joinP_len : ∀ xs : List ByteArray, (∀ x ∈ xs, x.size ≤ 63) → (joinA 46 (xs.map (·.data.toList))).length ≤ 64 * xs.length := by
  intro xs h
  have := joinA_len 46 63 (xs.map (·.data.toList)) (fun p hp => by
    obtain ⟨x, hx, rfl⟩ := List.mem_map.1 hp
    exact h x hx)
  simpa using this
theorem OwnS.fault {w : World} {base g n c : Nat} {l : List ByteArray} (h : OwnS w base (.slice (some ⟨g, 0, none⟩) n c) l) {v : Value} {k i : Int} {m : Value} (hv : FaultIs w v k i m) (j : Nat) (u : Value) : FaultIs (w.setCell ⟨g, j, none⟩ u) v k i m := by
  obtain ⟨b, rfl, hb⟩ := hv
  refine ⟨b, rfl, ?_⟩
  rcases h.2 with ⟨e, _⟩ | ⟨g', cap, cur, e, hg, hh, _⟩
  · cases e
  · cases e
    have hne : b ≠ g := by
      rintro rfl
      rw [hb] at hh
      injection hh with hh
      injection hh with _ h2
      revert h2
      decide
    exact (Below.heap_setCell w ⟨g, j, none⟩ u b hne).trans hb
theorem map_data (xs : List ByteArray) : (xs.map (·.data.toList)).map ofL = xs := by
  rw [List.map_map]
  conv => rhs; rw [← List.map_id xs]
  exact List.map_congr_left fun x _ => ofL_list x
theorem joinP_size (xs : List ByteArray) (n : Nat) (hn : xs.length = n) (h : n ≤ 127) (hx : ∀ x ∈ xs, x.size ≤ 63) : (joinP xs).size ≤ 100000 := by
  have hjl := joinP_len xs hx
  unfold joinP
  rw [show ∀ l, (ofL l).size = l.length from fun l => by show l.toArray.size = _; simp]
  omega
end Go.Proofs.YtibhohpamnpkcaaGreatDoor

/- A label of a letter and a character, in plain words. -/
namespace Go.Proofs.YtibhohpamnpkcaaGreatDoor
open Go.RowKit

theorem markL_two {c : Nat} (h : 128 ≤ c) : markL [97, c] = [c] := by
  apply up_unique
  · exact markL_up _
  · simp
  · intro x
    rw [markL_mem]
    simp
    constructor
    · rintro ⟨rfl | rfl, h2⟩
      · omega
      · rfl
    · rintro rfl
      exact ⟨.inr rfl, h⟩
theorem encN_two {c : Nat} (h : 128 ≤ c) : encN [97, c] = [97, 45] ++ numD ((c - 128) * 2 + 1) 72 := by
  have hb : basicL [97, c] = [97] := by
    unfold basicL
    have : ([97, c] : List Nat).filter (fun c => decide (c < 128)) = [97] := by
      rw [List.filter_cons_of_pos (by decide), List.filter_cons_of_neg (by simp; omega)]
      rfl
    rw [this]
    rfl
  have ho : basicO [97, c] = [97, 45] := by unfold basicO; rw [hb]; rfl
  unfold encN
  rw [markL_two h, hb, ho]
  show (nextC (roundC [97, c] 1 c 128 ⟨0, 72, 1, [97, 45]⟩)).out = _
  unfold nextC roundC
  simp only [List.foldl_cons, List.foldl_nil]
  have e1 : stepC c 1 ⟨0 + (c - 128) * (1 + 1), 72, 1, [97, 45]⟩ 97 = ⟨(c - 128) * 2 + 1, 72, 1, [97, 45]⟩ := by
    unfold stepC
    rw [if_pos (by omega)]
    simp
  rw [e1]
  unfold stepC
  rw [if_neg (by omega), if_pos rfl]
theorem ascii_two {c : Nat} (h : 128 ≤ c) (h2 : c ≤ 1114111) : ((charZ (c : Int) = true ∧ ∃ t : ByteArray, asciiW [97, c] = .ok t ∧ 5 < t.size ∧ (t.extract 0 4).toList = [120, 110, 45, 45]) ∨ (charZ (c : Int) = false ∧ ∃ k i, asciiW [97, c] = .error (k, i))) := by
  have hs : smallZ (c : Int) = false := decide_eq_false (by omega)
  have hm : mayB c = charZ (c : Int) := by unfold mayB; rw [hs]; rfl
  have h97 : mayB 97 = true := by decide
  cases hc : charZ (c : Int) with
  | true =>
    left
    rw [hc] at hm
    have hb : badC [97, c] 0 = none := by rw [badC_next h97, badC_next hm]; rfl
    have hmk : marksL [97, c] = true := marks_yes (by simp) (by simp) (by simp; omega) (.inl (by simp))
    have hl := numD_len (n := (c - 128) * 2 + 1) (b := 72) (by omega)
    have he := encN_two h
    have hlen : (encN [97, c]).length = 2 + (numD ((c - 128) * 2 + 1) 72).length := by rw [he]; simp; omega
    refine ⟨rfl, _, asciiW_ok hb hmk (by simp; omega), ?_, ?_⟩
    · show 5 < (xnL ++ encN [97, c]).toArray.size
      simp [xnL]
      omega
    · rw [ByteArray.toList_eq]
      simp [xnL]
  | false =>
    right
    rw [hc] at hm
    exact ⟨rfl, 11, _, asciiW_bad (by rw [badC_next h97, badC_hit hm])⟩
theorem lowerB_high {b : UInt8} (h : 128 ≤ b.toNat) : lowerB b = b := by
  apply UInt8.toNat_inj.1
  rw [lowerB_nat]
  unfold smallN
  split <;> omega
theorem putL_high {c : Nat} (h : 128 ≤ c) (h2 : c ≤ 1114111) : ∀ b ∈ putL c, 128 ≤ b.toNat := by
  intro b hb
  unfold putL at hb
  obtain ⟨n, hn, rfl⟩ := List.mem_map.1 hb
  unfold putN at hn
  split at hn
  · omega
  · split at hn
    · simp at hn
      rcases hn with rfl | rfl
      · rw [UInt8.toNat_ofNat_of_lt' (by have : 192 + c / 64 < 256 := by omega
                                         exact this)]; omega
      · rw [UInt8.toNat_ofNat_of_lt' (by have : 128 + c % 64 < 256 := by omega
                                         exact this)]; omega
    · split at hn
      · simp at hn
        rcases hn with rfl | rfl | rfl
        · rw [UInt8.toNat_ofNat_of_lt' (by have : 224 + c / 4096 < 256 := by omega
                                           exact this)]; omega
        · rw [UInt8.toNat_ofNat_of_lt' (by have : 128 + c / 64 % 64 < 256 := by omega
                                           exact this)]; omega
        · rw [UInt8.toNat_ofNat_of_lt' (by have : 128 + c % 64 < 256 := by omega
                                           exact this)]; omega
      · simp at hn
        rcases hn with rfl | rfl | rfl | rfl
        · rw [UInt8.toNat_ofNat_of_lt' (by have : 240 + c / 262144 < 256 := by omega
                                           exact this)]; omega
        · rw [UInt8.toNat_ofNat_of_lt' (by have : 128 + c / 4096 % 64 < 256 := by omega
                                           exact this)]; omega
        · rw [UInt8.toNat_ofNat_of_lt' (by have : 128 + c / 64 % 64 < 256 := by omega
                                           exact this)]; omega
        · rw [UInt8.toNat_ofNat_of_lt' (by have : 128 + c % 64 < 256 := by omega
                                           exact this)]; omega
theorem ascii_char {c : Nat} (h : 128 ≤ c) (hr : rightB (c : Int) = true) (h2 : c ≤ 1114111) : asciiL ⟨(97 :: putL c).toArray⟩ = asciiW [97, c] := by
  have hrc := (rightC_iff c).2 hr
  have hput : putAll [97, c] = 97 :: putL c := by
    show putL 97 ++ (putL c ++ []) = _
    rw [List.append_nil]
    rfl
  have hch : chrs ⟨(97 :: putL c).toArray⟩ = ([97, c], none) := by
    rw [← hput]
    exact chrs_put [97, c] fun x hx => by
      simp at hx
      rcases hx with rfl | rfl
      · exact .inl (by omega)
      · exact hrc
  have hlow : lowerS ⟨(97 :: putL c).toArray⟩ = ⟨(97 :: putL c).toArray⟩ := by
    have e0 : lowerS ⟨(97 :: putL c).toArray⟩ = ⟨((97 :: putL c).map lowerB).toArray⟩ := rfl
    have e1 : (putL c).map lowerB = putL c := by
      have := List.map_congr_left (l := putL c) (f := lowerB) (g := id) fun b hb => lowerB_high (putL_high h h2 b hb)
      rw [this, List.map_id]
    have e2 : lowerB 97 = 97 := by decide
    rw [e0, List.map_cons, e1, e2]
  rw [asciiL_wide (by rw [hch]) (by rw [hch]; unfold wideL; simp [h]), hlow, lowC_ok (by rw [hch]), hch]
end Go.Proofs.YtibhohpamnpkcaaGreatDoor
