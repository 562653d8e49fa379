/- errors.As at a pointer to a fault: its contract (after the kit's worked example of errors.As at a concrete target, turned to this program's types and numbers). -/
import Derived.Test.YtakcfgmibijdnaaDoorPunyReadsM1
import Derived.LaidEql
import Derived.Stop.Asserts
import Derived.RowKitTokens
import Derived.Test.YtakcfgmibijdnaaDoorPunyReadsM3
import Derived.Test.YtakcfgmibijdnaaDoorPunyReadsM11
import Derived.Test.YtakcfgmibijdnaaDoorPunyReadsM13
import Derived.Test.YtakcfgmibijdnaaDoorPunyReadsM10

namespace Go.Proofs.YtakcfgmibijdnaaDoor
open Go.RowKit Go.Extern.Stop Go.Stop Go.Extern


theorem as_nil (t : Value) (w : World) :
    Calls Tryd.prog 49 #[.nilIface, t] w fun e w' => e = .returned (.bool false) ∧ w' = w := by
  go_enter Tryd.func49, Tryd.ntmps49
  go_wp2
  go_ret
  exact ⟨rfl, rfl⟩

theorem As_valueOf27 (t : Addr) (w : World) : (ReflectliteValue.unpack (.iface 98 (.pointer (some t)))).run Tryd.prog w
    = .ok (.agg #[.pointer (some ⟨5, 98, none⟩), .pointer (some ⟨w.heap.size, 0, none⟩), .int .u64 150]) (w.alloc (.cells #[.pointer (some t)] 98)) := by kernel_rfl
theorem As_type27 (a : Addr) (w : World) : (ReflectliteValue.methodAny (ReflectliteValue.valueError "reflectlite.Value.Type" 0) (fun t _ _ _ => ReflectliteType.toType t) #[.agg #[.pointer (some ⟨5, 98, none⟩), .pointer (some a), .int .u64 150]]).run Tryd.prog w
    = .ok (.iface 204 (.agg #[.pointer (some ⟨5, 98, none⟩)])) w := by kernel_rfl
theorem As_methodKind (h : Value) (w : World) : (Go.method 397 204 (.agg #[h]) "Kind").run Tryd.prog w = .ok (208, h) w := by kernel_rfl
theorem As_kind27 (w : World) : ((ReflectliteType.abiMethod fun t => (fun a : Nat => Value.int IntKind.u8 (a : Int)) <$> Rtype.kind t) #[.pointer (some ⟨5, 98, none⟩)]).run Tryd.prog w = .ok (.int .u8 22) w := by kernel_rfl
theorem As_kind25 (w : World) : ((ReflectliteType.abiMethod fun t => (fun a : Nat => Value.int IntKind.u8 (a : Int)) <$> Rtype.kind t) #[.pointer (some ⟨5, 96, none⟩)]).run Tryd.prog w = .ok (.int .u8 22) w := by kernel_rfl

theorem rlm (z : Sem Value) (f : TypeId → Addr → Nat → Nat → Sem Value) (v : Value) :
    ReflectliteValue.method z f #[v] = (do match ← ReflectliteValue.parts v with | none => z | some (t, a, fl) => f t a fl (fl % 32)) := rfl
theorem As_parts27 (a : Addr) (w : World) : (ReflectliteValue.parts (.agg #[.pointer (some ⟨5, 98, none⟩), .pointer (some a), .int .u64 150])).run Tryd.prog w = .ok (some (98, a, 150)) w := by kernel_rfl
theorem As_isNil27 (a p : Addr) (W : World) (ha : W.cell? a = some (.pointer (some p))) :
    (ReflectliteValue.method (ReflectliteValue.valueError "reflectlite.Value.IsNil" 0) ReflectliteValue.isNil #[.agg #[.pointer (some ⟨5, 98, none⟩), .pointer (some a), .int .u64 150]]).run Tryd.prog W = .ok (.bool false) W := by
  rw [rlm]
  simp only [Sem.run_bind, As_parts27, Result.andThen]
  simp [ReflectliteValue.isNil, loadVar, isAgg, underlying, Tryd.underlying98, ha, Result.andThen]

theorem As_methodElem (h : Value) (w : World) : (Go.method 397 204 (.agg #[h]) "Elem").run Tryd.prog w = .ok (222, .agg #[h]) w := by kernel_rfl
theorem As_methodImplements (h : Value) (w : World) : (Go.method 397 204 (.agg #[h]) "Implements").run Tryd.prog w = .ok (223, .agg #[h]) w := by kernel_rfl
theorem As_methodAssignableTo (h : Value) (w : World) : (Go.method 397 204 (.agg #[h]) "AssignableTo").run Tryd.prog w = .ok (220, .agg #[h]) w := by kernel_rfl
theorem As_elem27 (w : World) : (ReflectliteType.method ReflectliteType.elem #[.agg #[.pointer (some ⟨5, 98, none⟩)]]).run Tryd.prog w = .ok (.iface 204 (.agg #[.pointer (some ⟨5, 96, none⟩)])) w := by kernel_rfl
theorem As_implements25 (w : World) : (ReflectliteType.relation "Implements" ReflectliteType.implements_ #[.agg #[.pointer (some ⟨5, 96, none⟩)], .iface 204 (.agg #[.pointer (some ⟨5, 33, none⟩)])]).run Tryd.prog w = .ok (.bool true) w := by kernel_rfl
theorem As_typeOf25 (v : Value) (w : World) : (ReflectliteType.typeOf #[.iface 96 v]).run Tryd.prog w = .ok (.iface 204 (.agg #[.pointer (some ⟨5, 96, none⟩)])) w := by kernel_rfl
theorem As_assignable25 (w : World) : (ReflectliteType.relation "AssignableTo" ReflectliteType.assignableTo #[.agg #[.pointer (some ⟨5, 96, none⟩)], .iface 204 (.agg #[.pointer (some ⟨5, 96, none⟩)])]).run Tryd.prog w = .ok (.bool true) w := by kernel_rfl
theorem As_valueOf25 (e : Addr) (w : World) : (ReflectliteValue.unpack (.iface 96 (.pointer (some e)))).run Tryd.prog w
    = .ok (.agg #[.pointer (some ⟨5, 96, none⟩), .pointer (some ⟨w.heap.size, 0, none⟩), .int .u64 150]) (w.alloc (.cells #[.pointer (some e)] 96)) := by kernel_rfl

theorem As_elemOf27 (w : World) : (Rtype.elem? 98).run Tryd.prog w = .ok (some 96) w := by kernel_rfl
theorem As_mk25 (p : Addr) (w : World) : (ReflectliteValue.mk 96 p ReflectliteValue.flagAddr).run Tryd.prog w = .ok (.agg #[.pointer (some ⟨5, 96, none⟩), .pointer (some p), .int .u64 406]) w := by kernel_rfl
theorem As_elemV27 (a p : Addr) (W : World) (ha : W.cell? a = some (.pointer (some p))) :
    (ReflectliteValue.method (ReflectliteValue.valueError "reflectlite.Value.Elem" 0) ReflectliteValue.elem #[.agg #[.pointer (some ⟨5, 98, none⟩), .pointer (some a), .int .u64 150]]).run Tryd.prog W
      = .ok (.agg #[.pointer (some ⟨5, 96, none⟩), .pointer (some p), .int .u64 406]) W := by
  rw [rlm]
  simp only [Sem.run_bind, As_parts27, Result.andThen]
  simp [ReflectliteValue.elem, loadVar, isAgg, underlying, Tryd.underlying98, ha, Result.andThen, As_elemOf27, As_mk25]
theorem rls (v x : Value) : ReflectliteValue.set #[v, x] = (do
    let (some (dst, a, fl), some (src, b, _)) := (← ReflectliteValue.parts v, ← ReflectliteValue.parts x)
      | unsupported (.noEntry "extern/(internal/reflectlite.Value).Set.zeroValue")
    if fl / ReflectliteValue.flagAddr % 2 == 0 then unsupported (.noEntry "extern/(internal/reflectlite.Value).Set.unaddressable")
    let val ← loadVar src b
    if ← Rtype.directlyAssignable dst src then storeVar dst a val
    else if ← Rtype.implements dst src then
      if (← Rtype.kind src) == 20 then
        match val with
        | .nilIface => unsupported (.noEntry "extern/reflectlite: a nil value of one interface type handed on as a value of another")
        | _ => storeVar dst a val
      else storeVar dst a (.iface src val)
    else panicString ("reflectlite.Set: value of type " ++ (← Rtype.spelt src) ++ " is not assignable to type " ++ (← Rtype.spelt dst))
    pure (.tuple #[])) := rfl
theorem As_parts25a (a : Addr) (w : World) : (ReflectliteValue.parts (.agg #[.pointer (some ⟨5, 96, none⟩), .pointer (some a), .int .u64 406])).run Tryd.prog w = .ok (some (96, a, 406)) w := by kernel_rfl
theorem As_parts25 (a : Addr) (w : World) : (ReflectliteValue.parts (.agg #[.pointer (some ⟨5, 96, none⟩), .pointer (some a), .int .u64 150])).run Tryd.prog w = .ok (some (96, a, 150)) w := by kernel_rfl
theorem As_direct25 (w : World) : (Rtype.directlyAssignable 96 96).run Tryd.prog w = .ok true w := by kernel_rfl
theorem As_size25 (w : World) : (sizeOf 96).run Tryd.prog w = .ok 1 w := by kernel_rfl
theorem As_set25 (ta b e : Addr) (old : Value) (W : World) (hb : W.cell? b = some (.pointer (some e))) (ht : W.cell? ta = some old) (hf : W.frozen? ta = false) :
    (ReflectliteValue.set #[.agg #[.pointer (some ⟨5, 96, none⟩), .pointer (some ta), .int .u64 406], .agg #[.pointer (some ⟨5, 96, none⟩), .pointer (some b), .int .u64 150]]).run Tryd.prog W
      = .ok (.tuple #[]) (W.setCell ta (.pointer (some e))) := by
  rw [rls]
  simp only [Sem.run_bind, As_parts25a, As_parts25, Result.andThen]
  simp [ReflectliteValue.flagAddr, loadVar, isAgg, underlying, Tryd.underlying96, hb, Result.andThen, As_direct25, storeVar, Value.cells, storeCells, Addr.add]
  rw [run_store Tryd.prog W ta _ _ (by rfl)]
  simp [ht, hf]

set_option maxHeartbeats 4000000 in
theorem as_hit (e t : Addr) (old : Value) (w : World) (hg : w.cell? ⟨0, 0, none⟩ = some (.iface 204 (.agg #[.pointer (some ⟨5, 33, none⟩)]))) (ht0 : w.cell? t = some old) (hf0 : w.frozen? t = false) :
    Calls Tryd.prog 49 #[.iface 96 (.pointer (some e)), .iface 98 (.pointer (some t))] w fun ev w' => ev = .returned (.bool true) ∧ w' = ((((w.alloc (.cells #[.pointer (some t)] 98)).alloc (.cells #[.pointer (some ⟨5, 98, none⟩), .pointer (some ⟨w.heap.size, 0, none⟩), .int .u64 150] 156)).alloc (.cells #[.pointer (some ⟨5, 98, none⟩), .pointer (some ⟨w.heap.size, 0, none⟩), .int .u64 150] 156)).alloc (.cells #[.pointer (some e)] 96)).setCell t (.pointer (some e)) := by
  have h6 := @run_callFunc_extern Tryd.prog 86 _ (fun args => ReflectliteValue.unpack (args.getD 0 (.tuple #[]))) Tryd.func86 (by kernel_rfl) (by kernel_rfl) (by kernel_rfl) (by kernel_rfl)
  have h7 := @run_callFunc_extern Tryd.prog 87 _ (ReflectliteValue.methodAny (ReflectliteValue.valueError "reflectlite.Value.Type" 0) (fun t _ _ _ => ReflectliteType.toType t)) Tryd.func87 (by kernel_rfl) (by kernel_rfl) (by kernel_rfl) (by kernel_rfl)
  have h8 := @run_callFunc_extern Tryd.prog 88 _ (ReflectliteValue.method (ReflectliteValue.valueError "reflectlite.Value.IsNil" 0) ReflectliteValue.isNil) Tryd.func88 (by kernel_rfl) (by kernel_rfl) (by kernel_rfl) (by kernel_rfl)
  have h27 := @run_callFunc_extern Tryd.prog 208 _ (ReflectliteType.abiMethod fun t => do pure (.int .u8 (← Rtype.kind t))) Tryd.func208 (by kernel_rfl) (by kernel_rfl) (by kernel_rfl) (by kernel_rfl)
  have h37 := @run_callFunc_extern Tryd.prog 222 _ (ReflectliteType.method ReflectliteType.elem) Tryd.func222 (by kernel_rfl) (by kernel_rfl) (by kernel_rfl) (by kernel_rfl)
  have h38 := @run_callFunc_extern Tryd.prog 223 _ (ReflectliteType.relation "Implements" ReflectliteType.implements_) Tryd.func223 (by kernel_rfl) (by kernel_rfl) (by kernel_rfl) (by kernel_rfl)
  have h10 := @run_callFunc_extern Tryd.prog 90 _ ReflectliteType.typeOf Tryd.func90 (by kernel_rfl) (by kernel_rfl) (by kernel_rfl) (by kernel_rfl)
  have h35 := @run_callFunc_extern Tryd.prog 220 _ (ReflectliteType.relation "AssignableTo" ReflectliteType.assignableTo) Tryd.func220 (by kernel_rfl) (by kernel_rfl) (by kernel_rfl) (by kernel_rfl)
  have h11 := @run_callFunc_extern Tryd.prog 127 _ (ReflectliteValue.method (ReflectliteValue.valueError "reflectlite.Value.Elem" 0) ReflectliteValue.elem) Tryd.func127 (by kernel_rfl) (by kernel_rfl) (by kernel_rfl) (by kernel_rfl)
  have h12 := @run_callFunc_extern Tryd.prog 128 _ ReflectliteValue.set Tryd.func128 (by kernel_rfl) (by kernel_rfl) (by kernel_rfl) (by kernel_rfl)
  have tO := As_typeOf25
  have mA := As_methodAssignableTo
  have a25 := As_assignable25
  have v25 := As_valueOf25
  have f6 := As_valueOf27
  have f7 := As_type27
  have mK := As_methodKind
  have mE := As_methodElem
  have mI := As_methodImplements
  have k27 := As_kind27
  have k25 := As_kind25
  have e27 := As_elem27
  have i25 := As_implements25
  have n8 := As_isNil27 ⟨w.heap.size, 0, none⟩ t ((w.alloc (.cells #[.pointer (some t)] 98)).alloc (.cells #[.pointer (some ⟨5, 98, none⟩), .pointer (some ⟨w.heap.size, 0, none⟩), .int .u64 150] 156)) (by simp)
  have hlt : 0 < w.heap.size := World.block_lt_of_cell? w _ hg
  have hg2 : ((w.alloc (.cells #[.pointer (some t)] 98)).alloc (.cells #[.pointer (some ⟨5, 98, none⟩), .pointer (some ⟨w.heap.size, 0, none⟩), .int .u64 150] 156)).cell? ⟨0, 0, none⟩ = some (.iface 204 (.agg #[.pointer (some ⟨5, 33, none⟩)])) := by
    rw [World.cell?_alloc_lt _ _ ⟨0, 0, none⟩ (by first | (simp; done) | (simp; omega)), World.cell?_alloc_lt _ _ ⟨0, 0, none⟩ hlt]; exact hg
  have htl : t.block < w.heap.size := by
    rcases Nat.lt_or_ge t.block w.heap.size with h | h
    · exact h
    · simp [World.cell?, Array.getElem?_eq_none h] at ht0
  have el := As_elemV27 ⟨w.heap.size, 0, none⟩ t (((w.alloc (.cells #[.pointer (some t)] 98)).alloc (.cells #[.pointer (some ⟨5, 98, none⟩), .pointer (some ⟨w.heap.size, 0, none⟩), .int .u64 150] 156)).alloc (.cells #[.pointer (some ⟨5, 98, none⟩), .pointer (some ⟨w.heap.size, 0, none⟩), .int .u64 150] 156)) (by rw [World.cell?_alloc_lt _ _ ⟨w.heap.size, 0, none⟩ (by simp; omega)]; simp)
  have st := As_set25 t ⟨w.heap.size + 1 + 1 + 1, 0, none⟩ e old ((((w.alloc (.cells #[.pointer (some t)] 98)).alloc (.cells #[.pointer (some ⟨5, 98, none⟩), .pointer (some ⟨w.heap.size, 0, none⟩), .int .u64 150] 156)).alloc (.cells #[.pointer (some ⟨5, 98, none⟩), .pointer (some ⟨w.heap.size, 0, none⟩), .int .u64 150] 156)).alloc (.cells #[.pointer (some e)] 96))
    (by rw [World.cell?_alloc_at _ _ _ _ (by simp)]; rfl)
    (by rw [World.cell?_alloc_lt _ _ t (by simp; omega), World.cell?_alloc_lt _ _ t (by simp; omega), World.cell?_alloc_lt _ _ t (by simp; omega), World.cell?_alloc_lt _ _ t htl]; exact ht0)
    (by rw [World.frozen?_alloc_old _ _ t (by simp; omega), World.frozen?_alloc_old _ _ t (by simp; omega), World.frozen?_alloc_old _ _ t (by simp; omega), World.frozen?_alloc_old _ _ t (Nat.ne_of_lt htl)]; exact hf0)
  go_enter Tryd.func49, Tryd.ntmps49
  go_wp2
  refine wp_loop_rounds 1 ?_
  rw [rounds_succ]
  go_wp2
  go_ret
  exact ⟨rfl, rfl⟩
end Go.Proofs.YtakcfgmibijdnaaDoor

/- The kind and the place of an error, as the statements read them. -/
namespace Go.Proofs.YtakcfgmibijdnaaDoor
open Go.RowKit

theorem as_world (b : Nat) (w w1 w' : World) (h1 : w1 = w.alloc (.cells #[.pointer none] 96))
    (hw : w' = ((((w1.alloc (.cells #[.pointer (some ⟨w.heap.size, 0, none⟩)] 98)).alloc (.cells #[.pointer (some ⟨5, 98, none⟩), .pointer (some ⟨w1.heap.size, 0, none⟩), .int .u64 150] 156)).alloc (.cells #[.pointer (some ⟨5, 98, none⟩), .pointer (some ⟨w1.heap.size, 0, none⟩), .int .u64 150] 156)).alloc (.cells #[.pointer (some ⟨b, 0, none⟩)] 96)).setCell ⟨w.heap.size, 0, none⟩ (.pointer (some ⟨b, 0, none⟩))) :
    Below w.heap.size w w' ∧ w'.cell? ⟨w.heap.size, 0, none⟩ = some (.pointer (some ⟨b, 0, none⟩)) := by
  have hs : w1.heap.size = w.heap.size + 1 := by rw [h1]; simp
  have hb0 : Below w.heap.size w w1 := by rw [h1]; exact (Below.refl _ _).alloc (Nat.le_refl _) _
  have hc : w1.cell? ⟨w.heap.size, 0, none⟩ = some (.pointer none) := by rw [h1]; simp
  subst hw
  refine ⟨((((hb0.alloc (by omega) _).alloc (by simp; omega) _).alloc (by simp; omega) _).alloc (by simp; omega) _).setCell (Nat.le_refl _) _, ?_⟩
  refine World.cell?_setCell_same (u := .pointer none) _ _ _ ?_
  rw [World.cell?_alloc_lt _ _ _ (by simp; omega), World.cell?_alloc_lt _ _ _ (by simp; omega), World.cell?_alloc_lt _ _ _ (by simp; omega), World.cell?_alloc_lt _ _ _ (by simp; omega), hc]

set_option maxHeartbeats 1600000 in
set_option maxRecDepth 100000 in
theorem fault_Kind_is (v : Value) (k i : Int) (inner : Value) (w : World) (hg : Handle w) (hv : FaultIs w v k i inner) :
    Calls Tryd.prog 14 #[v] w fun e w' => e = .returned (.int .i64 k) ∧ Below w.heap.size w w' := by
  obtain ⟨b, rfl, hblk⟩ := hv
  have hlt := lt_of_block hblk
  have hg1 : Handle (w.alloc (.cells #[.pointer none] 96)) := hg.below ((Below.refl _ _).alloc (Nat.le_refl _) _)
  have ht1 : (w.alloc (.cells #[.pointer none] 96)).cell? ⟨w.heap.size, 0, none⟩ = some (.pointer none) := by simp
  have hf1 : (w.alloc (.cells #[.pointer none] 96)).frozen? ⟨w.heap.size, 0, none⟩ = false := by simp
  go_enter Tryd.func14, Tryd.ntmps14
  go_wp2_with fail
  refine (as_hit ⟨b, 0, none⟩ ⟨w.heap.size, 0, none⟩ (.pointer none) _ hg1 ht1 hf1).mono ?_
  rintro e w' ⟨rfl, hw⟩
  obtain ⟨hb, hc0⟩ := as_world b w _ w' rfl hw
  have hcb : w'.cell? ⟨b, 0, none⟩ = some (.int .i64 k) := by
    rw [hb.cell hlt, cell_of_row w b 0 _ _ _ hblk]; rfl
  clear hw hg1 ht1 hf1
  go_wp2_with fail
  go_ret
  exact ⟨rfl, hb⟩

set_option maxHeartbeats 1600000 in
set_option maxRecDepth 100000 in
theorem fault_At_is (v : Value) (k i : Int) (inner : Value) (w : World) (hg : Handle w) (hv : FaultIs w v k i inner) :
    Calls Tryd.prog 15 #[v] w fun e w' => e = .returned (.int .i64 i) ∧ Below w.heap.size w w' := by
  obtain ⟨b, rfl, hblk⟩ := hv
  have hlt := lt_of_block hblk
  have hg1 : Handle (w.alloc (.cells #[.pointer none] 96)) := hg.below ((Below.refl _ _).alloc (Nat.le_refl _) _)
  have ht1 : (w.alloc (.cells #[.pointer none] 96)).cell? ⟨w.heap.size, 0, none⟩ = some (.pointer none) := by simp
  have hf1 : (w.alloc (.cells #[.pointer none] 96)).frozen? ⟨w.heap.size, 0, none⟩ = false := by simp
  go_enter Tryd.func15, Tryd.ntmps15
  go_wp2_with fail
  refine (as_hit ⟨b, 0, none⟩ ⟨w.heap.size, 0, none⟩ (.pointer none) _ hg1 ht1 hf1).mono ?_
  rintro e w' ⟨rfl, hw⟩
  obtain ⟨hb, hc0⟩ := as_world b w _ w' rfl hw
  have hcb : w'.cell? ⟨b, 1, none⟩ = some (.int .i64 i) := by
    rw [hb.cell hlt, cell_of_row w b 1 _ _ _ hblk]; rfl
  clear hw hg1 ht1 hf1
  go_wp2_with fail
  go_ret
  exact ⟨rfl, hb⟩

theorem fault_Kind_nil (w : World) : Calls Tryd.prog 14 #[.nilIface] w fun e w' => e = .returned (.int .i64 0) ∧ Below w.heap.size w w' := by
  go_enter Tryd.func14, Tryd.ntmps14
  go_wp2_with fail
  go_ret
  exact ⟨rfl, Below.refl _ _⟩

theorem fault_Kind (v : Value) (k i : Nat) (w : World) (hg : Handle w) (hv : IsErr w v k i) :
    Calls Tryd.prog 14 #[v] w fun e w' => e = .returned (.int .i64 (k : Int)) ∧ Below w.heap.size w w' := by
  rcases hv with ⟨rfl, rfl⟩ | ⟨_, n, hv⟩
  · exact fault_Kind_nil w
  · exact fault_Kind_is v k i n w hg hv
theorem fault_At (v : Value) (k i : Nat) (w : World) (hg : Handle w) (hv : IsErr w v k i) (hk : k ≠ 0) :
    Calls Tryd.prog 15 #[v] w fun e w' => e = .returned (.int .i64 (i : Int)) ∧ Below w.heap.size w w' := by
  rcases hv with ⟨rfl, rfl⟩ | ⟨_, n, hv⟩
  · exact absurd rfl hk
  · exact fault_At_is v k i n w hg hv
end Go.Proofs.YtakcfgmibijdnaaDoor

/- Chapter 9's told: is an error this one, at this place? -/
namespace Go.Proofs.YtakcfgmibijdnaaDoor
open Go.RowKit

theorem told09 (v : Value) (k i : Nat) (w : World) (hg : Handle w) (hv : IsErr w v k i) : Calls Tryd.prog 30 #[v, .int .i64 (k : Int), .int .i64 (i : Int)] w fun e w' => e = .returned (.bool true) ∧ Below w.heap.size w w' := by
  have cK := Lib.hid (fault_Kind v k i w hg hv)
  have ek : ((k : Int) == (k : Int)) = true := beq_self_eq_true _
  have ei : ((i : Int) == (i : Int)) = true := beq_self_eq_true _
  rcases hv with ⟨rfl, rfl⟩ | ⟨hk, n, hv⟩
  · go_enter Tryd.func30, Tryd.ntmps30
    go_wp2_with fail
    refine cK.out.mono ?_
    rintro e w1 ⟨rfl, hb1⟩
    go_wp2_with fail
    go_ret
    exact ⟨rfl, hb1⟩
  · have cA := Lib.hid (fun W hg hb => fault_At v k i W hg (.inr ⟨hk, n, FaultIs.below (w := w) hv hb⟩) hk)
    obtain ⟨p, rfl⟩ := hv.ne_nil
    clear hv hk
    go_enter Tryd.func30, Tryd.ntmps30
    go_wp2_with fail
    refine cK.out.mono ?_
    rintro e w1 ⟨rfl, hb1⟩
    have hg1 := hg.below hb1
    go_wp2_with fail
    refine (cA.out _ hg1 hb1).mono ?_
    rintro e w2 ⟨rfl, hb2⟩
    have hb12 := Bt hb1 hb2
    go_wp2_with fail
    go_ret
    exact ⟨rfl, hb12⟩
end Go.Proofs.YtakcfgmibijdnaaDoor

/- The walk of PunyReads. -/
namespace Go.Proofs.YtakcfgmibijdnaaDoor
open Go.RowKit

set_option maxHeartbeats 1600000 in
theorem punyReads_long (s : ByteArray) (w : World) (h : 2000 < s.size) : Calls Tryd.prog 8 #[.string s] w fun e w' => e = .returned (.bool true) ∧ Below w.heap.size w w' := by
  go_enter Tryd.func8, Tryd.ntmps8
  go_wp2_with fail
  refine (speaks09 _).mono ?_
  rintro e w1 ⟨rfl, hb1⟩
  go_wp2_with fail
  go_ret
  exact ⟨rfl, hb1⟩
set_option maxHeartbeats 3200000 in
set_option maxRecDepth 100000 in
theorem walkPunyReads (s : ByteArray) (w : World) (hH : Handle w) (hms : s.size ≤ maxLen) : Calls Tryd.prog 8 #[.string s] w fun e w' => e = .returned (.bool true) ∧ Below w.heap.size w w' := by
  by_cases hlong : 2000 < s.size
  · exact punyReads_long s w hlong
  have c2 := Lib.hid (fun W => puny_Decode s W)
  have c3 := Lib.hid (fun W => ref09_Decode s W (by omega))
  have c5 := Lib.hid (fun v k i W hg hv => told09 v k i W hg hv)
  go_enter Tryd.func8, Tryd.ntmps8
  go_wp2_with fail
  refine (speaks09 _).mono ?_
  rintro e w1 ⟨rfl, hb1⟩
  have hg1 := hH.below hb1
  go_wp2_with fail
  refine (c2.out _).mono ?_
  rintro e w2 ⟨hb2, h2⟩
  have hg2 := hg1.below hb2
  have hb12 := Bt hb1 hb2
  clear hb1 hb2 hg1
  rcases h2 with ⟨k, j, v, hE, hk, rfl, hv⟩ | ⟨l, v, hE, rfl, hown⟩
  · have HE := Lib.hid hE
    have HV := Lib.hid hv
    obtain ⟨p, rfl⟩ := hv.ne_nil
    clear hE hv
    go_wp2_with fail
    refine (c3.out _).mono ?_
    rintro e w3 ⟨hb3, h3⟩
    have hg3 := hg2.below hb3
    have hb13 := Bt hb12 hb3
    rcases h3 with ⟨k', j', a, c, hE', rfl⟩ | ⟨l', v', hE', _⟩
    · rw [HE.out] at hE'
      obtain ⟨rfl, rfl⟩ : k = k' ∧ j = j' := by cases hE'; exact ⟨rfl, rfl⟩
      have hv3 : IsErr w3 _ k j := .inr ⟨hk, .nilIface, HV.out.below hb3⟩
      have HV3 := Lib.hid hv3
      clear hE' hv3 hb12 hg2 hb3
      go_wp2_with fail
      refine (ref05_Same _ _ [] _ (.inl ⟨rfl, _, _, rfl⟩) (.inl ⟨rfl, _, _, rfl⟩) (by decide)).mono ?_
      rintro e w4 ⟨rfl, q, rfl⟩
      go_wp2_with fail
      refine (c5.out _ k j _ (hg3.drewN q) (HV3.out.below (below_drewN (Below.refl _ _) q))).mono ?_
      rintro e w5 ⟨rfl, hb5⟩
      have hb15 := Bt (below_drewN hb13 q) hb5
      go_wp2_with fail
      refine wp_loop_rounds 1 ?_
      rw [rounds_succ]
      go_wp2_with fail
      go_ret
      exact ⟨rfl, hb15⟩
    · rw [HE.out] at hE'; cases hE'
  · have HE := Lib.hid hE
    obtain ⟨hright, hlen⟩ := decE_facts hE
    obtain ⟨va, vc, rfl⟩ := row_len hown
    have HO := Lib.hid hown
    have HR := Lib.hid hright
    clear hE hown hright
    go_wp2_with fail
    refine (c3.out _).mono ?_
    rintro e w3 ⟨hb3, h3⟩
    have hg3 := hg2.below hb3
    have hb13 := Bt hb12 hb3
    rcases h3 with ⟨k', j', a, c, hE', rfl⟩ | ⟨l', v', hE', rfl, hown'⟩
    · rw [HE.out] at hE'; cases hE'
    · rw [HE.out] at hE'
      obtain rfl : l = l' := by cases hE'; rfl
      have HO3 := Lib.hid (HO.out.below hb3)
      have HOR := Lib.hid hown'
      clear hE' hown' hb12 hg2 hb3
      go_wp2_with fail
      refine (ref05_Same _ _ (intsN l) _ HO3.out.sl HOR.out.sl (by rw [intsN_len]; omega)).mono ?_
      rintro e w4 ⟨rfl, q, rfl⟩
      go_wp2_with fail
      refine (c5.out .nilIface 0 0 _ (hg3.drewN q) (.inl ⟨rfl, rfl⟩)).mono ?_
      rintro e w5 ⟨rfl, hb5⟩
      have hb15 := Bt (below_drewN hb13 q) hb5
      have HO5 := Lib.hid ((HO3.out.below (below_drewN (Below.refl _ _) q)).below hb5)
      clear hb5 hb13 hg3
      go_wp2_with fail
      go_loopw [39] (fun v wr => ∃ i n : Nat, i ≤ l.length ∧ v = .int .i64 i ∧ w5.drewN n = wr) (fun v _ => l.length - (intOf v).toNat)
      case atStart => exact ⟨0, 0, Nat.zero_le _, rfl, rfl⟩
      case round =>
        obtain ⟨i, n, hil, rfl, hwr⟩ := hrel
        have HW := Lib.hid hwr
        by_cases hlt : i < l.length
        · obtain ⟨g, rfl, _, _, hc1, hc2, hcell⟩ := (hwr ▸ HO5.out.below (below_drewN (Below.refl _ _) n) : OwnN wr _ _ l).cellAt hlt
          have hr := HR.out l[i] (List.getElem_mem _)
          have cR : ∀ W : World, Calls Tryd.prog 34 #[.int .i64 (l[i] : Int)] W fun e w' => e = .returned (.bool true) ∧ W = w' := fun W => (ref_Right _ W).mono fun _ _ ⟨a, b⟩ => ⟨by rw [a, hr], b⟩
          have CR := Lib.hid cR
          have hiI : (i : Int) < (l.length : Int) := by omega
          clear hwr cR hr
          generalize l[i] = c at *
          go_wp2_with fail
          refine (CR.out _).mono ?_
          rintro e w6 ⟨rfl, rfl⟩
          go_wp2_with fail
          go_roundw
          case rel => exact ⟨i + 1, _, by omega, by go_num, by first | exact HW.out | rw [← HW.out, World.drewN_drewN]⟩
          case measure => simp [intOf]; omega
        · obtain rfl : i = l.length := by omega
          have hiI : ¬ (l.length : Int) < (l.length : Int) := by omega
          have hlI : (l.length : Int) ≤ 256 := by omega
          have hbE : Below w.heap.size w wr := by rw [← hwr]; exact below_drewN hb15 n
          clear hwr
          go_wp2_with fail
          go_ret
          exact ⟨rfl, hbE⟩
end Go.Proofs.YtakcfgmibijdnaaDoor
