/- errors.As at a pointer to a fault: its contract (after the kit's worked example of errors.As at a concrete target, turned to this program's types and numbers). -/
import Derived.Test.YtipenfeplampeaaDoorSubstVarsM1
import Derived.LaidEql
import Derived.Stop.Asserts
import Derived.RowKitTokens
import Derived.Test.YtipenfeplampeaaDoorSubstVarsM3

namespace Go.Proofs.YtipenfeplampeaaDoor
open Go.RowKit Go.Extern.Stop Go.Stop Go.Extern


theorem as_nil (t : Value) (w : World) :
    Calls Tryd.prog 23 #[.nilIface, t] w fun e w' => e = .returned (.bool false) ∧ w' = w := by
  go_enter Tryd.func23, Tryd.ntmps23
  go_wp2
  go_ret
  exact ⟨rfl, rfl⟩

theorem As_valueOf27 (t : Addr) (w : World) : (ReflectliteValue.unpack (.iface 56 (.pointer (some t)))).run Tryd.prog w
    = .ok (.agg #[.pointer (some ⟨5, 56, none⟩), .pointer (some ⟨w.heap.size, 0, none⟩), .int .u64 150]) (w.alloc (.cells #[.pointer (some t)] 56)) := by kernel_rfl
theorem As_type27 (a : Addr) (w : World) : (ReflectliteValue.methodAny (ReflectliteValue.valueError "reflectlite.Value.Type" 0) (fun t _ _ _ => ReflectliteType.toType t) #[.agg #[.pointer (some ⟨5, 56, none⟩), .pointer (some a), .int .u64 150]]).run Tryd.prog w
    = .ok (.iface 116 (.agg #[.pointer (some ⟨5, 56, none⟩)])) w := by kernel_rfl
theorem As_methodKind (h : Value) (w : World) : (Go.method 282 116 (.agg #[h]) "Kind").run Tryd.prog w = .ok (93, h) w := by kernel_rfl
theorem As_kind27 (w : World) : ((ReflectliteType.abiMethod fun t => (fun a : Nat => Value.int IntKind.u8 (a : Int)) <$> Rtype.kind t) #[.pointer (some ⟨5, 56, none⟩)]).run Tryd.prog w = .ok (.int .u8 22) w := by kernel_rfl
theorem As_kind25 (w : World) : ((ReflectliteType.abiMethod fun t => (fun a : Nat => Value.int IntKind.u8 (a : Int)) <$> Rtype.kind t) #[.pointer (some ⟨5, 54, none⟩)]).run Tryd.prog w = .ok (.int .u8 22) w := by kernel_rfl

theorem rlm (z : Sem Value) (f : TypeId → Addr → Nat → Nat → Sem Value) (v : Value) :
    ReflectliteValue.method z f #[v] = (do match ← ReflectliteValue.parts v with | none => z | some (t, a, fl) => f t a fl (fl % 32)) := rfl
theorem As_parts27 (a : Addr) (w : World) : (ReflectliteValue.parts (.agg #[.pointer (some ⟨5, 56, none⟩), .pointer (some a), .int .u64 150])).run Tryd.prog w = .ok (some (56, a, 150)) w := by kernel_rfl
theorem As_isNil27 (a p : Addr) (W : World) (ha : W.cell? a = some (.pointer (some p))) :
    (ReflectliteValue.method (ReflectliteValue.valueError "reflectlite.Value.IsNil" 0) ReflectliteValue.isNil #[.agg #[.pointer (some ⟨5, 56, none⟩), .pointer (some a), .int .u64 150]]).run Tryd.prog W = .ok (.bool false) W := by
  rw [rlm]
  simp only [Sem.run_bind, As_parts27, Result.andThen]
  simp [ReflectliteValue.isNil, loadVar, isAgg, underlying, Tryd.underlying56, ha, Result.andThen]

theorem As_methodElem (h : Value) (w : World) : (Go.method 282 116 (.agg #[h]) "Elem").run Tryd.prog w = .ok (106, .agg #[h]) w := by kernel_rfl
theorem As_methodImplements (h : Value) (w : World) : (Go.method 282 116 (.agg #[h]) "Implements").run Tryd.prog w = .ok (107, .agg #[h]) w := by kernel_rfl
theorem As_methodAssignableTo (h : Value) (w : World) : (Go.method 282 116 (.agg #[h]) "AssignableTo").run Tryd.prog w = .ok (104, .agg #[h]) w := by kernel_rfl
theorem As_elem27 (w : World) : (ReflectliteType.method ReflectliteType.elem #[.agg #[.pointer (some ⟨5, 56, none⟩)]]).run Tryd.prog w = .ok (.iface 116 (.agg #[.pointer (some ⟨5, 54, none⟩)])) w := by kernel_rfl
theorem As_implements25 (w : World) : (ReflectliteType.relation "Implements" ReflectliteType.implements_ #[.agg #[.pointer (some ⟨5, 54, none⟩)], .iface 116 (.agg #[.pointer (some ⟨5, 29, none⟩)])]).run Tryd.prog w = .ok (.bool true) w := by kernel_rfl
theorem As_typeOf25 (v : Value) (w : World) : (ReflectliteType.typeOf #[.iface 54 v]).run Tryd.prog w = .ok (.iface 116 (.agg #[.pointer (some ⟨5, 54, none⟩)])) w := by kernel_rfl
theorem As_assignable25 (w : World) : (ReflectliteType.relation "AssignableTo" ReflectliteType.assignableTo #[.agg #[.pointer (some ⟨5, 54, none⟩)], .iface 116 (.agg #[.pointer (some ⟨5, 54, none⟩)])]).run Tryd.prog w = .ok (.bool true) w := by kernel_rfl
theorem As_valueOf25 (e : Addr) (w : World) : (ReflectliteValue.unpack (.iface 54 (.pointer (some e)))).run Tryd.prog w
    = .ok (.agg #[.pointer (some ⟨5, 54, none⟩), .pointer (some ⟨w.heap.size, 0, none⟩), .int .u64 150]) (w.alloc (.cells #[.pointer (some e)] 54)) := by kernel_rfl

theorem As_elemOf27 (w : World) : (Rtype.elem? 56).run Tryd.prog w = .ok (some 54) w := by kernel_rfl
theorem As_mk25 (p : Addr) (w : World) : (ReflectliteValue.mk 54 p ReflectliteValue.flagAddr).run Tryd.prog w = .ok (.agg #[.pointer (some ⟨5, 54, none⟩), .pointer (some p), .int .u64 406]) w := by kernel_rfl
theorem As_elemV27 (a p : Addr) (W : World) (ha : W.cell? a = some (.pointer (some p))) :
    (ReflectliteValue.method (ReflectliteValue.valueError "reflectlite.Value.Elem" 0) ReflectliteValue.elem #[.agg #[.pointer (some ⟨5, 56, none⟩), .pointer (some a), .int .u64 150]]).run Tryd.prog W
      = .ok (.agg #[.pointer (some ⟨5, 54, none⟩), .pointer (some p), .int .u64 406]) W := by
  rw [rlm]
  simp only [Sem.run_bind, As_parts27, Result.andThen]
  simp [ReflectliteValue.elem, loadVar, isAgg, underlying, Tryd.underlying56, ha, Result.andThen, As_elemOf27, As_mk25]
theorem rls (v x : Value) : ReflectliteValue.set #[v, x] = (do
    let (some (dst, a, fl), some (src, b, _)) := (← ReflectliteValue.parts v, ← ReflectliteValue.parts x)
      | unsupported (.noEntry "extern/(internal/reflectlite.Value).Set.zeroValue")
    if fl / ReflectliteValue.flagAddr % 2 == 0 then unsupported (.noEntry "extern/(internal/reflectlite.Value).Set.unaddressable")
    let val ← loadVar src b
    if ← Rtype.directlyAssignable dst src then storeVar dst a val
    else if ← Rtype.implements dst src then
      if (← Rtype.kind src) == 20 then
        match val with
        | .nilIface => unsupported (.noEntry "extern/reflectlite: a nil value of one interface type handed on as a value of another")
        | _ => storeVar dst a val
      else storeVar dst a (.iface src val)
    else panicString ("reflectlite.Set: value of type " ++ (← Rtype.spelt src) ++ " is not assignable to type " ++ (← Rtype.spelt dst))
    pure (.tuple #[])) := rfl
theorem As_parts25a (a : Addr) (w : World) : (ReflectliteValue.parts (.agg #[.pointer (some ⟨5, 54, none⟩), .pointer (some a), .int .u64 406])).run Tryd.prog w = .ok (some (54, a, 406)) w := by kernel_rfl
theorem As_parts25 (a : Addr) (w : World) : (ReflectliteValue.parts (.agg #[.pointer (some ⟨5, 54, none⟩), .pointer (some a), .int .u64 150])).run Tryd.prog w = .ok (some (54, a, 150)) w := by kernel_rfl
theorem As_direct25 (w : World) : (Rtype.directlyAssignable 54 54).run Tryd.prog w = .ok true w := by kernel_rfl
theorem As_size25 (w : World) : (sizeOf 54).run Tryd.prog w = .ok 1 w := by kernel_rfl
theorem As_set25 (ta b e : Addr) (old : Value) (W : World) (hb : W.cell? b = some (.pointer (some e))) (ht : W.cell? ta = some old) (hf : W.frozen? ta = false) :
    (ReflectliteValue.set #[.agg #[.pointer (some ⟨5, 54, none⟩), .pointer (some ta), .int .u64 406], .agg #[.pointer (some ⟨5, 54, none⟩), .pointer (some b), .int .u64 150]]).run Tryd.prog W
      = .ok (.tuple #[]) (W.setCell ta (.pointer (some e))) := by
  rw [rls]
  simp only [Sem.run_bind, As_parts25a, As_parts25, Result.andThen]
  simp [ReflectliteValue.flagAddr, loadVar, isAgg, underlying, Tryd.underlying54, hb, Result.andThen, As_direct25, storeVar, Value.cells, storeCells, Addr.add]
  rw [run_store Tryd.prog W ta _ _ (by rfl)]
  simp [ht, hf]

set_option maxHeartbeats 4000000 in
theorem as_hit (e t : Addr) (old : Value) (w : World) (hg : w.cell? ⟨0, 0, none⟩ = some (.iface 116 (.agg #[.pointer (some ⟨5, 29, none⟩)]))) (ht0 : w.cell? t = some old) (hf0 : w.frozen? t = false) :
    Calls Tryd.prog 23 #[.iface 54 (.pointer (some e)), .iface 56 (.pointer (some t))] w fun ev w' => ev = .returned (.bool true) ∧ w' = ((((w.alloc (.cells #[.pointer (some t)] 56)).alloc (.cells #[.pointer (some ⟨5, 56, none⟩), .pointer (some ⟨w.heap.size, 0, none⟩), .int .u64 150] 83)).alloc (.cells #[.pointer (some ⟨5, 56, none⟩), .pointer (some ⟨w.heap.size, 0, none⟩), .int .u64 150] 83)).alloc (.cells #[.pointer (some e)] 54)).setCell t (.pointer (some e)) := by
  have h6 := @run_callFunc_extern Tryd.prog 34 _ (fun args => ReflectliteValue.unpack (args.getD 0 (.tuple #[]))) Tryd.func34 (by kernel_rfl) (by kernel_rfl) (by kernel_rfl) (by kernel_rfl)
  have h7 := @run_callFunc_extern Tryd.prog 35 _ (ReflectliteValue.methodAny (ReflectliteValue.valueError "reflectlite.Value.Type" 0) (fun t _ _ _ => ReflectliteType.toType t)) Tryd.func35 (by kernel_rfl) (by kernel_rfl) (by kernel_rfl) (by kernel_rfl)
  have h8 := @run_callFunc_extern Tryd.prog 36 _ (ReflectliteValue.method (ReflectliteValue.valueError "reflectlite.Value.IsNil" 0) ReflectliteValue.isNil) Tryd.func36 (by kernel_rfl) (by kernel_rfl) (by kernel_rfl) (by kernel_rfl)
  have h27 := @run_callFunc_extern Tryd.prog 93 _ (ReflectliteType.abiMethod fun t => do pure (.int .u8 (← Rtype.kind t))) Tryd.func93 (by kernel_rfl) (by kernel_rfl) (by kernel_rfl) (by kernel_rfl)
  have h37 := @run_callFunc_extern Tryd.prog 106 _ (ReflectliteType.method ReflectliteType.elem) Tryd.func106 (by kernel_rfl) (by kernel_rfl) (by kernel_rfl) (by kernel_rfl)
  have h38 := @run_callFunc_extern Tryd.prog 107 _ (ReflectliteType.relation "Implements" ReflectliteType.implements_) Tryd.func107 (by kernel_rfl) (by kernel_rfl) (by kernel_rfl) (by kernel_rfl)
  have h10 := @run_callFunc_extern Tryd.prog 38 _ ReflectliteType.typeOf Tryd.func38 (by kernel_rfl) (by kernel_rfl) (by kernel_rfl) (by kernel_rfl)
  have h35 := @run_callFunc_extern Tryd.prog 104 _ (ReflectliteType.relation "AssignableTo" ReflectliteType.assignableTo) Tryd.func104 (by kernel_rfl) (by kernel_rfl) (by kernel_rfl) (by kernel_rfl)
  have h11 := @run_callFunc_extern Tryd.prog 55 _ (ReflectliteValue.method (ReflectliteValue.valueError "reflectlite.Value.Elem" 0) ReflectliteValue.elem) Tryd.func55 (by kernel_rfl) (by kernel_rfl) (by kernel_rfl) (by kernel_rfl)
  have h12 := @run_callFunc_extern Tryd.prog 56 _ ReflectliteValue.set Tryd.func56 (by kernel_rfl) (by kernel_rfl) (by kernel_rfl) (by kernel_rfl)
  have tO := As_typeOf25
  have mA := As_methodAssignableTo
  have a25 := As_assignable25
  have v25 := As_valueOf25
  have f6 := As_valueOf27
  have f7 := As_type27
  have mK := As_methodKind
  have mE := As_methodElem
  have mI := As_methodImplements
  have k27 := As_kind27
  have k25 := As_kind25
  have e27 := As_elem27
  have i25 := As_implements25
  have n8 := As_isNil27 ⟨w.heap.size, 0, none⟩ t ((w.alloc (.cells #[.pointer (some t)] 56)).alloc (.cells #[.pointer (some ⟨5, 56, none⟩), .pointer (some ⟨w.heap.size, 0, none⟩), .int .u64 150] 83)) (by simp)
  have hlt : 0 < w.heap.size := World.block_lt_of_cell? w _ hg
  have hg2 : ((w.alloc (.cells #[.pointer (some t)] 56)).alloc (.cells #[.pointer (some ⟨5, 56, none⟩), .pointer (some ⟨w.heap.size, 0, none⟩), .int .u64 150] 83)).cell? ⟨0, 0, none⟩ = some (.iface 116 (.agg #[.pointer (some ⟨5, 29, none⟩)])) := by
    rw [World.cell?_alloc_lt _ _ ⟨0, 0, none⟩ (by first | (simp; done) | (simp; omega)), World.cell?_alloc_lt _ _ ⟨0, 0, none⟩ hlt]; exact hg
  have htl : t.block < w.heap.size := by
    rcases Nat.lt_or_ge t.block w.heap.size with h | h
    · exact h
    · simp [World.cell?, Array.getElem?_eq_none h] at ht0
  have el := As_elemV27 ⟨w.heap.size, 0, none⟩ t (((w.alloc (.cells #[.pointer (some t)] 56)).alloc (.cells #[.pointer (some ⟨5, 56, none⟩), .pointer (some ⟨w.heap.size, 0, none⟩), .int .u64 150] 83)).alloc (.cells #[.pointer (some ⟨5, 56, none⟩), .pointer (some ⟨w.heap.size, 0, none⟩), .int .u64 150] 83)) (by rw [World.cell?_alloc_lt _ _ ⟨w.heap.size, 0, none⟩ (by simp; omega)]; simp)
  have st := As_set25 t ⟨w.heap.size + 1 + 1 + 1, 0, none⟩ e old ((((w.alloc (.cells #[.pointer (some t)] 56)).alloc (.cells #[.pointer (some ⟨5, 56, none⟩), .pointer (some ⟨w.heap.size, 0, none⟩), .int .u64 150] 83)).alloc (.cells #[.pointer (some ⟨5, 56, none⟩), .pointer (some ⟨w.heap.size, 0, none⟩), .int .u64 150] 83)).alloc (.cells #[.pointer (some e)] 54))
    (by rw [World.cell?_alloc_at _ _ _ _ (by simp)]; rfl)
    (by rw [World.cell?_alloc_lt _ _ t (by simp; omega), World.cell?_alloc_lt _ _ t (by simp; omega), World.cell?_alloc_lt _ _ t (by simp; omega), World.cell?_alloc_lt _ _ t htl]; exact ht0)
    (by rw [World.frozen?_alloc_old _ _ t (by simp; omega), World.frozen?_alloc_old _ _ t (by simp; omega), World.frozen?_alloc_old _ _ t (by simp; omega), World.frozen?_alloc_old _ _ t (Nat.ne_of_lt htl)]; exact hf0)
  go_enter Tryd.func23, Tryd.ntmps23
  go_wp2
  refine wp_loop_rounds 1 ?_
  rw [rounds_succ]
  go_wp2
  go_ret
  exact ⟨rfl, rfl⟩
end Go.Proofs.YtipenfeplampeaaDoor

/- The kind and the place of an error, as the statements read them. -/
namespace Go.Proofs.YtipenfeplampeaaDoor
open Go.RowKit

theorem as_world (b : Nat) (w w1 w' : World) (h1 : w1 = w.alloc (.cells #[.pointer none] 54))
    (hw : w' = ((((w1.alloc (.cells #[.pointer (some ⟨w.heap.size, 0, none⟩)] 56)).alloc (.cells #[.pointer (some ⟨5, 56, none⟩), .pointer (some ⟨w1.heap.size, 0, none⟩), .int .u64 150] 83)).alloc (.cells #[.pointer (some ⟨5, 56, none⟩), .pointer (some ⟨w1.heap.size, 0, none⟩), .int .u64 150] 83)).alloc (.cells #[.pointer (some ⟨b, 0, none⟩)] 54)).setCell ⟨w.heap.size, 0, none⟩ (.pointer (some ⟨b, 0, none⟩))) :
    Below w.heap.size w w' ∧ w'.cell? ⟨w.heap.size, 0, none⟩ = some (.pointer (some ⟨b, 0, none⟩)) := by
  have hs : w1.heap.size = w.heap.size + 1 := by rw [h1]; simp
  have hb0 : Below w.heap.size w w1 := by rw [h1]; exact (Below.refl _ _).alloc (Nat.le_refl _) _
  have hc : w1.cell? ⟨w.heap.size, 0, none⟩ = some (.pointer none) := by rw [h1]; simp
  subst hw
  refine ⟨((((hb0.alloc (by omega) _).alloc (by simp; omega) _).alloc (by simp; omega) _).alloc (by simp; omega) _).setCell (Nat.le_refl _) _, ?_⟩
  refine World.cell?_setCell_same (u := .pointer none) _ _ _ ?_
  rw [World.cell?_alloc_lt _ _ _ (by simp; omega), World.cell?_alloc_lt _ _ _ (by simp; omega), World.cell?_alloc_lt _ _ _ (by simp; omega), World.cell?_alloc_lt _ _ _ (by simp; omega), hc]

set_option maxHeartbeats 1600000 in
set_option maxRecDepth 100000 in
theorem fault_Kind_is (v : Value) (k i : Int) (inner : Value) (w : World) (hg : Handle w) (hv : FaultIs w v k i inner) :
    Calls Tryd.prog 8 #[v] w fun e w' => e = .returned (.int .i64 k) ∧ Below w.heap.size w w' := by
  obtain ⟨b, rfl, hblk⟩ := hv
  have hlt := lt_of_block hblk
  have hg1 : Handle (w.alloc (.cells #[.pointer none] 54)) := hg.below ((Below.refl _ _).alloc (Nat.le_refl _) _)
  have ht1 : (w.alloc (.cells #[.pointer none] 54)).cell? ⟨w.heap.size, 0, none⟩ = some (.pointer none) := by simp
  have hf1 : (w.alloc (.cells #[.pointer none] 54)).frozen? ⟨w.heap.size, 0, none⟩ = false := by simp
  go_enter Tryd.func8, Tryd.ntmps8
  go_wp2_with fail
  refine (as_hit ⟨b, 0, none⟩ ⟨w.heap.size, 0, none⟩ (.pointer none) _ hg1 ht1 hf1).mono ?_
  rintro e w' ⟨rfl, hw⟩
  obtain ⟨hb, hc0⟩ := as_world b w _ w' rfl hw
  have hcb : w'.cell? ⟨b, 0, none⟩ = some (.int .i64 k) := by
    rw [hb.cell hlt, cell_of_row w b 0 _ _ _ hblk]; rfl
  clear hw hg1 ht1 hf1
  go_wp2_with fail
  go_ret
  exact ⟨rfl, hb⟩

set_option maxHeartbeats 1600000 in
set_option maxRecDepth 100000 in
theorem fault_At_is (v : Value) (k i : Int) (inner : Value) (w : World) (hg : Handle w) (hv : FaultIs w v k i inner) :
    Calls Tryd.prog 9 #[v] w fun e w' => e = .returned (.int .i64 i) ∧ Below w.heap.size w w' := by
  obtain ⟨b, rfl, hblk⟩ := hv
  have hlt := lt_of_block hblk
  have hg1 : Handle (w.alloc (.cells #[.pointer none] 54)) := hg.below ((Below.refl _ _).alloc (Nat.le_refl _) _)
  have ht1 : (w.alloc (.cells #[.pointer none] 54)).cell? ⟨w.heap.size, 0, none⟩ = some (.pointer none) := by simp
  have hf1 : (w.alloc (.cells #[.pointer none] 54)).frozen? ⟨w.heap.size, 0, none⟩ = false := by simp
  go_enter Tryd.func9, Tryd.ntmps9
  go_wp2_with fail
  refine (as_hit ⟨b, 0, none⟩ ⟨w.heap.size, 0, none⟩ (.pointer none) _ hg1 ht1 hf1).mono ?_
  rintro e w' ⟨rfl, hw⟩
  obtain ⟨hb, hc0⟩ := as_world b w _ w' rfl hw
  have hcb : w'.cell? ⟨b, 1, none⟩ = some (.int .i64 i) := by
    rw [hb.cell hlt, cell_of_row w b 1 _ _ _ hblk]; rfl
  clear hw hg1 ht1 hf1
  go_wp2_with fail
  go_ret
  exact ⟨rfl, hb⟩

theorem fault_Kind_nil (w : World) : Calls Tryd.prog 8 #[.nilIface] w fun e w' => e = .returned (.int .i64 0) ∧ Below w.heap.size w w' := by
  go_enter Tryd.func8, Tryd.ntmps8
  go_wp2_with fail
  go_ret
  exact ⟨rfl, Below.refl _ _⟩

theorem fault_Kind (v : Value) (k i : Nat) (w : World) (hg : Handle w) (hv : IsErr w v k i) :
    Calls Tryd.prog 8 #[v] w fun e w' => e = .returned (.int .i64 (k : Int)) ∧ Below w.heap.size w w' := by
  rcases hv with ⟨rfl, rfl⟩ | ⟨_, n, hv⟩
  · exact fault_Kind_nil w
  · exact fault_Kind_is v k i n w hg hv
theorem fault_At (v : Value) (k i : Nat) (w : World) (hg : Handle w) (hv : IsErr w v k i) (hk : k ≠ 0) :
    Calls Tryd.prog 9 #[v] w fun e w' => e = .returned (.int .i64 (i : Int)) ∧ Below w.heap.size w w' := by
  rcases hv with ⟨rfl, rfl⟩ | ⟨_, n, hv⟩
  · exact absurd rfl hk
  · exact fault_At_is v k i n w hg hv
end Go.Proofs.YtipenfeplampeaaDoor

/- api.Wrap. -/
namespace Go.Proofs.YtipenfeplampeaaDoor
open Go.RowKit

theorem wrap_at (k i : Int) (t : TypeId) (x : Value) (w : World) : Calls Tryd.prog 22 #[.int .i64 k, .int .i64 i, .iface t x] w fun e w' =>
    e = .returned (.iface 54 (.pointer (some ⟨w.heap.size, 0, none⟩))) ∧ w.alloc (.cells #[.int .i64 k, .int .i64 i, .iface t x] 58) = w' := by
  go_enter Tryd.func22, Tryd.ntmps22
  go_wp2
  go_ret
  exact ⟨rfl, rfl⟩
theorem wrap_fault (k i : Int) (v : Value) (w : World) (hv : ∃ t x, v = .iface t x) : Calls Tryd.prog 22 #[.int .i64 k, .int .i64 i, v] w fun e w' =>
    ∃ u, e = .returned u ∧ FaultIs w' u k i v ∧ Below w.heap.size w w' := by
  obtain ⟨t, x, rfl⟩ := hv
  exact (wrap_at k i t x w).mono fun _ _ ⟨he, hw⟩ => ⟨_, he, ⟨_, rfl, by rw [← hw]; exact heap_alloc_new w _⟩, by rw [← hw]; exact (Below.refl _ _).alloc (Nat.le_refl _) _⟩
end Go.Proofs.YtipenfeplampeaaDoor
