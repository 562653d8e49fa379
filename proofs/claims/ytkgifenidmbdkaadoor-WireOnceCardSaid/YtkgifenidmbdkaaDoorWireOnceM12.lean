/- errors.As at a pointer to a fault: its contract (after the kit's worked example of errors.As at a concrete target, turned to this program's types and numbers). -/
import Derived.Test.YtkgifenidmbdkaaDoorWireOnceM1
import Derived.LaidEql
import Derived.Stop.Asserts
import Derived.RowKitTokens
import Derived.LaidHandle
import Derived.LaidLaws
import Derived.Stop.Joined
import Derived.Lib.LaidU8T
import Derived.Test.YtkgifenidmbdkaaDoorWireOnceM11

namespace Go.Proofs.YtkgifenidmbdkaaDoor
open Go.RowKit Go.Extern.Stop Go.Stop Go.Extern


theorem as_nil (t : Value) (w : World) :
    Calls Tryd.prog 22 #[.nilIface, t] w fun e w' => e = .returned (.bool false) ∧ w' = w := by
  go_enter Tryd.func22, Tryd.ntmps22
  go_wp2
  go_ret
  exact ⟨rfl, rfl⟩

theorem As_valueOf27 (t : Addr) (w : World) : (ReflectliteValue.unpack (.iface 63 (.pointer (some t)))).run Tryd.prog w
    = .ok (.agg #[.pointer (some ⟨4, 63, none⟩), .pointer (some ⟨w.heap.size, 0, none⟩), .int .u64 150]) (w.alloc (.cells #[.pointer (some t)] 63)) := by kernel_rfl
theorem As_type27 (a : Addr) (w : World) : (ReflectliteValue.methodAny (ReflectliteValue.valueError "reflectlite.Value.Type" 0) (fun t _ _ _ => ReflectliteType.toType t) #[.agg #[.pointer (some ⟨4, 63, none⟩), .pointer (some a), .int .u64 150]]).run Tryd.prog w
    = .ok (.iface 101 (.agg #[.pointer (some ⟨4, 63, none⟩)])) w := by kernel_rfl
theorem As_methodKind (h : Value) (w : World) : (Go.method 270 101 (.agg #[h]) "Kind").run Tryd.prog w = .ok (87, h) w := by kernel_rfl
theorem As_kind27 (w : World) : ((ReflectliteType.abiMethod fun t => (fun a : Nat => Value.int IntKind.u8 (a : Int)) <$> Rtype.kind t) #[.pointer (some ⟨4, 63, none⟩)]).run Tryd.prog w = .ok (.int .u8 22) w := by kernel_rfl
theorem As_kind25 (w : World) : ((ReflectliteType.abiMethod fun t => (fun a : Nat => Value.int IntKind.u8 (a : Int)) <$> Rtype.kind t) #[.pointer (some ⟨4, 61, none⟩)]).run Tryd.prog w = .ok (.int .u8 22) w := by kernel_rfl

theorem rlm (z : Sem Value) (f : TypeId → Addr → Nat → Nat → Sem Value) (v : Value) :
    ReflectliteValue.method z f #[v] = (do match ← ReflectliteValue.parts v with | none => z | some (t, a, fl) => f t a fl (fl % 32)) := rfl
theorem As_parts27 (a : Addr) (w : World) : (ReflectliteValue.parts (.agg #[.pointer (some ⟨4, 63, none⟩), .pointer (some a), .int .u64 150])).run Tryd.prog w = .ok (some (63, a, 150)) w := by kernel_rfl
theorem As_isNil27 (a p : Addr) (W : World) (ha : W.cell? a = some (.pointer (some p))) :
    (ReflectliteValue.method (ReflectliteValue.valueError "reflectlite.Value.IsNil" 0) ReflectliteValue.isNil #[.agg #[.pointer (some ⟨4, 63, none⟩), .pointer (some a), .int .u64 150]]).run Tryd.prog W = .ok (.bool false) W := by
  rw [rlm]
  simp only [Sem.run_bind, As_parts27, Result.andThen]
  simp [ReflectliteValue.isNil, loadVar, isAgg, underlying, Tryd.underlying63, ha, Result.andThen]

theorem As_methodElem (h : Value) (w : World) : (Go.method 270 101 (.agg #[h]) "Elem").run Tryd.prog w = .ok (99, .agg #[h]) w := by kernel_rfl
theorem As_methodImplements (h : Value) (w : World) : (Go.method 270 101 (.agg #[h]) "Implements").run Tryd.prog w = .ok (100, .agg #[h]) w := by kernel_rfl
theorem As_methodAssignableTo (h : Value) (w : World) : (Go.method 270 101 (.agg #[h]) "AssignableTo").run Tryd.prog w = .ok (97, .agg #[h]) w := by kernel_rfl
theorem As_elem27 (w : World) : (ReflectliteType.method ReflectliteType.elem #[.agg #[.pointer (some ⟨4, 63, none⟩)]]).run Tryd.prog w = .ok (.iface 101 (.agg #[.pointer (some ⟨4, 61, none⟩)])) w := by kernel_rfl
theorem As_implements25 (w : World) : (ReflectliteType.relation "Implements" ReflectliteType.implements_ #[.agg #[.pointer (some ⟨4, 61, none⟩)], .iface 101 (.agg #[.pointer (some ⟨4, 37, none⟩)])]).run Tryd.prog w = .ok (.bool true) w := by kernel_rfl
theorem As_typeOf25 (v : Value) (w : World) : (ReflectliteType.typeOf #[.iface 61 v]).run Tryd.prog w = .ok (.iface 101 (.agg #[.pointer (some ⟨4, 61, none⟩)])) w := by kernel_rfl
theorem As_assignable25 (w : World) : (ReflectliteType.relation "AssignableTo" ReflectliteType.assignableTo #[.agg #[.pointer (some ⟨4, 61, none⟩)], .iface 101 (.agg #[.pointer (some ⟨4, 61, none⟩)])]).run Tryd.prog w = .ok (.bool true) w := by kernel_rfl
theorem As_valueOf25 (e : Addr) (w : World) : (ReflectliteValue.unpack (.iface 61 (.pointer (some e)))).run Tryd.prog w
    = .ok (.agg #[.pointer (some ⟨4, 61, none⟩), .pointer (some ⟨w.heap.size, 0, none⟩), .int .u64 150]) (w.alloc (.cells #[.pointer (some e)] 61)) := by kernel_rfl

theorem As_elemOf27 (w : World) : (Rtype.elem? 63).run Tryd.prog w = .ok (some 61) w := by kernel_rfl
theorem As_mk25 (p : Addr) (w : World) : (ReflectliteValue.mk 61 p ReflectliteValue.flagAddr).run Tryd.prog w = .ok (.agg #[.pointer (some ⟨4, 61, none⟩), .pointer (some p), .int .u64 406]) w := by kernel_rfl
theorem As_elemV27 (a p : Addr) (W : World) (ha : W.cell? a = some (.pointer (some p))) :
    (ReflectliteValue.method (ReflectliteValue.valueError "reflectlite.Value.Elem" 0) ReflectliteValue.elem #[.agg #[.pointer (some ⟨4, 63, none⟩), .pointer (some a), .int .u64 150]]).run Tryd.prog W
      = .ok (.agg #[.pointer (some ⟨4, 61, none⟩), .pointer (some p), .int .u64 406]) W := by
  rw [rlm]
  simp only [Sem.run_bind, As_parts27, Result.andThen]
  simp [ReflectliteValue.elem, loadVar, isAgg, underlying, Tryd.underlying63, ha, Result.andThen, As_elemOf27, As_mk25]
theorem rls (v x : Value) : ReflectliteValue.set #[v, x] = (do
    let (some (dst, a, fl), some (src, b, _)) := (← ReflectliteValue.parts v, ← ReflectliteValue.parts x)
      | unsupported (.noEntry "extern/(internal/reflectlite.Value).Set.zeroValue")
    if fl / ReflectliteValue.flagAddr % 2 == 0 then unsupported (.noEntry "extern/(internal/reflectlite.Value).Set.unaddressable")
    let val ← loadVar src b
    if ← Rtype.directlyAssignable dst src then storeVar dst a val
    else if ← Rtype.implements dst src then
      if (← Rtype.kind src) == 20 then
        match val with
        | .nilIface => unsupported (.noEntry "extern/reflectlite: a nil value of one interface type handed on as a value of another")
        | _ => storeVar dst a val
      else storeVar dst a (.iface src val)
    else panicString ("reflectlite.Set: value of type " ++ (← Rtype.spelt src) ++ " is not assignable to type " ++ (← Rtype.spelt dst))
    pure (.tuple #[])) := rfl
theorem As_parts25a (a : Addr) (w : World) : (ReflectliteValue.parts (.agg #[.pointer (some ⟨4, 61, none⟩), .pointer (some a), .int .u64 406])).run Tryd.prog w = .ok (some (61, a, 406)) w := by kernel_rfl
theorem As_parts25 (a : Addr) (w : World) : (ReflectliteValue.parts (.agg #[.pointer (some ⟨4, 61, none⟩), .pointer (some a), .int .u64 150])).run Tryd.prog w = .ok (some (61, a, 150)) w := by kernel_rfl
theorem As_direct25 (w : World) : (Rtype.directlyAssignable 61 61).run Tryd.prog w = .ok true w := by kernel_rfl
theorem As_size25 (w : World) : (sizeOf 61).run Tryd.prog w = .ok 1 w := by kernel_rfl
theorem As_set25 (ta b e : Addr) (old : Value) (W : World) (hb : W.cell? b = some (.pointer (some e))) (ht : W.cell? ta = some old) (hf : W.frozen? ta = false) :
    (ReflectliteValue.set #[.agg #[.pointer (some ⟨4, 61, none⟩), .pointer (some ta), .int .u64 406], .agg #[.pointer (some ⟨4, 61, none⟩), .pointer (some b), .int .u64 150]]).run Tryd.prog W
      = .ok (.tuple #[]) (W.setCell ta (.pointer (some e))) := by
  rw [rls]
  simp only [Sem.run_bind, As_parts25a, As_parts25, Result.andThen]
  simp [ReflectliteValue.flagAddr, loadVar, isAgg, underlying, Tryd.underlying61, hb, Result.andThen, As_direct25, storeVar, Value.cells, storeCells, Addr.add]
  rw [run_store Tryd.prog W ta _ _ (by rfl)]
  simp [ht, hf]

set_option maxHeartbeats 4000000 in
theorem as_hit (e t : Addr) (old : Value) (w : World) (hg : w.cell? ⟨0, 0, none⟩ = some (.iface 101 (.agg #[.pointer (some ⟨4, 37, none⟩)]))) (ht0 : w.cell? t = some old) (hf0 : w.frozen? t = false) :
    Calls Tryd.prog 22 #[.iface 61 (.pointer (some e)), .iface 63 (.pointer (some t))] w fun ev w' => ev = .returned (.bool true) ∧ w' = ((((w.alloc (.cells #[.pointer (some t)] 63)).alloc (.cells #[.pointer (some ⟨4, 63, none⟩), .pointer (some ⟨w.heap.size, 0, none⟩), .int .u64 150] 79)).alloc (.cells #[.pointer (some ⟨4, 63, none⟩), .pointer (some ⟨w.heap.size, 0, none⟩), .int .u64 150] 79)).alloc (.cells #[.pointer (some e)] 61)).setCell t (.pointer (some e)) := by
  have h6 := @run_callFunc_extern Tryd.prog 29 _ (fun args => ReflectliteValue.unpack (args.getD 0 (.tuple #[]))) Tryd.func29 (by kernel_rfl) (by kernel_rfl) (by kernel_rfl) (by kernel_rfl)
  have h7 := @run_callFunc_extern Tryd.prog 30 _ (ReflectliteValue.methodAny (ReflectliteValue.valueError "reflectlite.Value.Type" 0) (fun t _ _ _ => ReflectliteType.toType t)) Tryd.func30 (by kernel_rfl) (by kernel_rfl) (by kernel_rfl) (by kernel_rfl)
  have h8 := @run_callFunc_extern Tryd.prog 31 _ (ReflectliteValue.method (ReflectliteValue.valueError "reflectlite.Value.IsNil" 0) ReflectliteValue.isNil) Tryd.func31 (by kernel_rfl) (by kernel_rfl) (by kernel_rfl) (by kernel_rfl)
  have h27 := @run_callFunc_extern Tryd.prog 87 _ (ReflectliteType.abiMethod fun t => do pure (.int .u8 (← Rtype.kind t))) Tryd.func87 (by kernel_rfl) (by kernel_rfl) (by kernel_rfl) (by kernel_rfl)
  have h37 := @run_callFunc_extern Tryd.prog 99 _ (ReflectliteType.method ReflectliteType.elem) Tryd.func99 (by kernel_rfl) (by kernel_rfl) (by kernel_rfl) (by kernel_rfl)
  have h38 := @run_callFunc_extern Tryd.prog 100 _ (ReflectliteType.relation "Implements" ReflectliteType.implements_) Tryd.func100 (by kernel_rfl) (by kernel_rfl) (by kernel_rfl) (by kernel_rfl)
  have h10 := @run_callFunc_extern Tryd.prog 43 _ ReflectliteType.typeOf Tryd.func43 (by kernel_rfl) (by kernel_rfl) (by kernel_rfl) (by kernel_rfl)
  have h35 := @run_callFunc_extern Tryd.prog 97 _ (ReflectliteType.relation "AssignableTo" ReflectliteType.assignableTo) Tryd.func97 (by kernel_rfl) (by kernel_rfl) (by kernel_rfl) (by kernel_rfl)
  have h11 := @run_callFunc_extern Tryd.prog 44 _ (ReflectliteValue.method (ReflectliteValue.valueError "reflectlite.Value.Elem" 0) ReflectliteValue.elem) Tryd.func44 (by kernel_rfl) (by kernel_rfl) (by kernel_rfl) (by kernel_rfl)
  have h12 := @run_callFunc_extern Tryd.prog 45 _ ReflectliteValue.set Tryd.func45 (by kernel_rfl) (by kernel_rfl) (by kernel_rfl) (by kernel_rfl)
  have tO := As_typeOf25
  have mA := As_methodAssignableTo
  have a25 := As_assignable25
  have v25 := As_valueOf25
  have f6 := As_valueOf27
  have f7 := As_type27
  have mK := As_methodKind
  have mE := As_methodElem
  have mI := As_methodImplements
  have k27 := As_kind27
  have k25 := As_kind25
  have e27 := As_elem27
  have i25 := As_implements25
  have n8 := As_isNil27 ⟨w.heap.size, 0, none⟩ t ((w.alloc (.cells #[.pointer (some t)] 63)).alloc (.cells #[.pointer (some ⟨4, 63, none⟩), .pointer (some ⟨w.heap.size, 0, none⟩), .int .u64 150] 79)) (by simp)
  have hlt : 0 < w.heap.size := World.block_lt_of_cell? w _ hg
  have hg2 : ((w.alloc (.cells #[.pointer (some t)] 63)).alloc (.cells #[.pointer (some ⟨4, 63, none⟩), .pointer (some ⟨w.heap.size, 0, none⟩), .int .u64 150] 79)).cell? ⟨0, 0, none⟩ = some (.iface 101 (.agg #[.pointer (some ⟨4, 37, none⟩)])) := by
    rw [World.cell?_alloc_lt _ _ ⟨0, 0, none⟩ (by first | (simp; done) | (simp; omega)), World.cell?_alloc_lt _ _ ⟨0, 0, none⟩ hlt]; exact hg
  have htl : t.block < w.heap.size := by
    rcases Nat.lt_or_ge t.block w.heap.size with h | h
    · exact h
    · simp [World.cell?, Array.getElem?_eq_none h] at ht0
  have el := As_elemV27 ⟨w.heap.size, 0, none⟩ t (((w.alloc (.cells #[.pointer (some t)] 63)).alloc (.cells #[.pointer (some ⟨4, 63, none⟩), .pointer (some ⟨w.heap.size, 0, none⟩), .int .u64 150] 79)).alloc (.cells #[.pointer (some ⟨4, 63, none⟩), .pointer (some ⟨w.heap.size, 0, none⟩), .int .u64 150] 79)) (by rw [World.cell?_alloc_lt _ _ ⟨w.heap.size, 0, none⟩ (by simp; omega)]; simp)
  have st := As_set25 t ⟨w.heap.size + 1 + 1 + 1, 0, none⟩ e old ((((w.alloc (.cells #[.pointer (some t)] 63)).alloc (.cells #[.pointer (some ⟨4, 63, none⟩), .pointer (some ⟨w.heap.size, 0, none⟩), .int .u64 150] 79)).alloc (.cells #[.pointer (some ⟨4, 63, none⟩), .pointer (some ⟨w.heap.size, 0, none⟩), .int .u64 150] 79)).alloc (.cells #[.pointer (some e)] 61))
    (by rw [World.cell?_alloc_at _ _ _ _ (by simp)]; rfl)
    (by rw [World.cell?_alloc_lt _ _ t (by simp; omega), World.cell?_alloc_lt _ _ t (by simp; omega), World.cell?_alloc_lt _ _ t (by simp; omega), World.cell?_alloc_lt _ _ t htl]; exact ht0)
    (by rw [World.frozen?_alloc_old _ _ t (by simp; omega), World.frozen?_alloc_old _ _ t (by simp; omega), World.frozen?_alloc_old _ _ t (by simp; omega), World.frozen?_alloc_old _ _ t (Nat.ne_of_lt htl)]; exact hf0)
  go_enter Tryd.func22, Tryd.ntmps22
  go_wp2
  refine wp_loop_rounds 1 ?_
  rw [rounds_succ]
  go_wp2
  go_ret
  exact ⟨rfl, rfl⟩
end Go.Proofs.YtkgifenidmbdkaaDoor

/- What a row's list of package variables gives: errors.errorType; plain data. -/
namespace Go.Proofs.YtkgifenidmbdkaaDoor
open Go.ChangeShapes Go.WideShapes Go.RowKit

/-- The package-level variable that errors.As reads, as the row lists it. -/
def Handle (w : World) : Prop := w.cell? ⟨0, 0, none⟩ = some (.iface 101 (.agg #[.pointer (some ⟨4, 37, none⟩)]))
theorem Handle.below {w w' : World} (h : Handle w) (hb : Below w.heap.size w w') : Handle w' := (hb.cell (World.block_lt_of_cell? w _ h)).trans h
theorem Handle.drewN {w : World} (h : Handle w) (n : Nat) : Handle (w.drewN n) := h

theorem laid_et : Tryd.prog.globalNamed "errors.errorType" = some 0 := by kernel_rfl
theorem laid_row : ((List.range 170).filter fun t => Tryd.prog.rowNamed t [101, 114, 114, 111, 114]) = [37] := by kernel_rfl
theorem laid_size : Tryd.prog.types.size = 170 := by kernel_rfl

theorem handle_of_laid {l : List (String × DataW Unit)} {W : World} (h : laidMetH Tryd.prog l W) (hx : ("errors.errorType", Rows.laid_errors_errorType) ∈ l) : Handle W := by
  have hs : (Rows.laid_errors_errorType : DataW Unit).handleName?.isSome = true := rfl
  have hm : ("errors.errorType", Rows.laid_errors_errorType) ∈ l.filter fun x => x.2.handleName?.isSome := List.mem_filter.2 ⟨hx, hs⟩
  unfold laidMetH at h
  generalize (l.filter fun x => x.2.handleName?.isSome) = fl at h hm
  cases fl with
  | nil => cases hm
  | cons a q =>
    obtain ⟨name, u, ty, e1, e2, e3, e4, e5⟩ := h.2 _ hm
    have en : name = [101, 114, 114, 111, 114] := (Option.some.inj e1).symm
    subst en
    obtain rfl : u = 101 := Option.some.inj (e2.symm.trans (by kernel_rfl))
    have hm : ty ∈ (List.range 170).filter fun t => Tryd.prog.rowNamed t [101, 114, 114, 111, 114] := List.mem_filter.2 ⟨List.mem_range.2 (by rw [← laid_size]; exact e3), e4⟩
    rw [laid_row] at hm
    obtain rfl := List.mem_singleton.1 hm
    have hh : typeHandle Tryd.prog 37 = .pointer (some ⟨4, 37, none⟩) := by kernel_rfl
    rw [hh] at e5
    simpa [Handle] using World.var?_cell laid_et e5 0

theorem data_of_laid {l : List (String × DataW Unit)} {W : World} (h : laidMetH Tryd.prog l W) {n : String} {d : DataW Unit} (hx : (n, d) ∈ l) (hd : d.handleName?.isNone = true) : Lib.VarReads Tryd.prog W n d := by
  unfold laidMetH at h
  generalize hfl : (l.filter fun x => x.2.handleName?.isSome) = fl at h
  cases fl with
  | nil => exact Lib.laidMet.reads h hx
  | cons a q => exact Lib.laidMet.reads h.1 (List.mem_filter.2 ⟨hx, hd⟩)

end Go.Proofs.YtkgifenidmbdkaaDoor

/- The kind and the place of an error, as the statements read them. -/
namespace Go.Proofs.YtkgifenidmbdkaaDoor
open Go.RowKit

theorem as_world (b : Nat) (w w1 w' : World) (h1 : w1 = w.alloc (.cells #[.pointer none] 61))
    (hw : w' = ((((w1.alloc (.cells #[.pointer (some ⟨w.heap.size, 0, none⟩)] 63)).alloc (.cells #[.pointer (some ⟨4, 63, none⟩), .pointer (some ⟨w1.heap.size, 0, none⟩), .int .u64 150] 79)).alloc (.cells #[.pointer (some ⟨4, 63, none⟩), .pointer (some ⟨w1.heap.size, 0, none⟩), .int .u64 150] 79)).alloc (.cells #[.pointer (some ⟨b, 0, none⟩)] 61)).setCell ⟨w.heap.size, 0, none⟩ (.pointer (some ⟨b, 0, none⟩))) :
    Below w.heap.size w w' ∧ w'.cell? ⟨w.heap.size, 0, none⟩ = some (.pointer (some ⟨b, 0, none⟩)) := by
  have hs : w1.heap.size = w.heap.size + 1 := by rw [h1]; simp
  have hb0 : Below w.heap.size w w1 := by rw [h1]; exact (Below.refl _ _).alloc (Nat.le_refl _) _
  have hc : w1.cell? ⟨w.heap.size, 0, none⟩ = some (.pointer none) := by rw [h1]; simp
  subst hw
  refine ⟨((((hb0.alloc (by omega) _).alloc (by simp; omega) _).alloc (by simp; omega) _).alloc (by simp; omega) _).setCell (Nat.le_refl _) _, ?_⟩
  refine World.cell?_setCell_same (u := .pointer none) _ _ _ ?_
  rw [World.cell?_alloc_lt _ _ _ (by simp; omega), World.cell?_alloc_lt _ _ _ (by simp; omega), World.cell?_alloc_lt _ _ _ (by simp; omega), World.cell?_alloc_lt _ _ _ (by simp; omega), hc]

set_option maxHeartbeats 1600000 in
set_option maxRecDepth 100000 in
theorem fault_Kind_is (v : Value) (k i : Int) (inner : Value) (w : World) (hg : Handle w) (hv : FaultIs w v k i inner) :
    Calls Tryd.prog 12 #[v] w fun e w' => e = .returned (.int .i64 k) ∧ Below w.heap.size w w' := by
  obtain ⟨b, rfl, hblk⟩ := hv
  have hlt := lt_of_block hblk
  have hg1 : Handle (w.alloc (.cells #[.pointer none] 61)) := hg.below ((Below.refl _ _).alloc (Nat.le_refl _) _)
  have ht1 : (w.alloc (.cells #[.pointer none] 61)).cell? ⟨w.heap.size, 0, none⟩ = some (.pointer none) := by simp
  have hf1 : (w.alloc (.cells #[.pointer none] 61)).frozen? ⟨w.heap.size, 0, none⟩ = false := by simp
  go_enter Tryd.func12, Tryd.ntmps12
  go_wp2_with fail
  refine (as_hit ⟨b, 0, none⟩ ⟨w.heap.size, 0, none⟩ (.pointer none) _ hg1 ht1 hf1).mono ?_
  rintro e w' ⟨rfl, hw⟩
  obtain ⟨hb, hc0⟩ := as_world b w _ w' rfl hw
  have hcb : w'.cell? ⟨b, 0, none⟩ = some (.int .i64 k) := by
    rw [hb.cell hlt, cell_of_row w b 0 _ _ _ hblk]; rfl
  clear hw hg1 ht1 hf1
  go_wp2_with fail
  go_ret
  exact ⟨rfl, hb⟩

theorem fault_Kind_nil (w : World) : Calls Tryd.prog 12 #[.nilIface] w fun e w' => e = .returned (.int .i64 0) ∧ Below w.heap.size w w' := by
  go_enter Tryd.func12, Tryd.ntmps12
  go_wp2_with fail
  go_ret
  exact ⟨rfl, Below.refl _ _⟩

theorem fault_Kind (v : Value) (k i : Nat) (w : World) (hg : Handle w) (hv : IsErr w v k i) :
    Calls Tryd.prog 12 #[v] w fun e w' => e = .returned (.int .i64 (k : Int)) ∧ Below w.heap.size w w' := by
  rcases hv with ⟨rfl, rfl⟩ | ⟨_, n, hv⟩
  · exact fault_Kind_nil w
  · exact fault_Kind_is v k i n w hg hv
end Go.Proofs.YtkgifenidmbdkaaDoor

/- api.Wrap. -/
namespace Go.Proofs.YtkgifenidmbdkaaDoor
open Go.RowKit

theorem wrap_at (k i : Int) (t : TypeId) (x : Value) (w : World) : Calls Tryd.prog 21 #[.int .i64 k, .int .i64 i, .iface t x] w fun e w' =>
    e = .returned (.iface 61 (.pointer (some ⟨w.heap.size, 0, none⟩))) ∧ w.alloc (.cells #[.int .i64 k, .int .i64 i, .iface t x] 65) = w' := by
  go_enter Tryd.func21, Tryd.ntmps21
  go_wp2
  go_ret
  exact ⟨rfl, rfl⟩
theorem wrap_fault (k i : Int) (v : Value) (w : World) (hv : ∃ t x, v = .iface t x) : Calls Tryd.prog 21 #[.int .i64 k, .int .i64 i, v] w fun e w' =>
    ∃ u, e = .returned u ∧ FaultIs w' u k i v ∧ Below w.heap.size w w' := by
  obtain ⟨t, x, rfl⟩ := hv
  exact (wrap_at k i t x w).mono fun _ _ ⟨he, hw⟩ => ⟨_, he, ⟨_, rfl, by rw [← hw]; exact heap_alloc_new w _⟩, by rw [← hw]; exact (Below.refl _ _).alloc (Nat.le_refl _) _⟩
end Go.Proofs.YtkgifenidmbdkaaDoor

/- media.Param, JSON, Accept. -/
namespace Go.Proofs.YtkgifenidmbdkaaDoor
open Go.RowKit

/-- A name's value. -/
def paramM (l : List It) (n : ByteArray) : Option ByteArray := (l.find? fun x => decide (x.name = n)).map (·.value)
theorem find_ways (l : List It) (n : ByteArray) : (findI (fun x => decide (x.name = n)) l = -1 ∧ paramM l n = none) ∨ ∃ (i : Nat) (x : It), findI (fun x => decide (x.name = n)) l = i ∧ l[i]? = some x ∧ paramM l n = some x.value := by
  unfold findI paramM
  cases h : l.findIdx? fun x => decide (x.name = n) with
  | none =>
    refine .inl ⟨rfl, ?_⟩
    rw [List.findIdx?_eq_none_iff] at h
    have : (l.find? fun x => decide (x.name = n)) = none := by
      rw [List.find?_eq_none]
      intro x hx
      rw [h x hx]; decide
    rw [this]; rfl
  | some i =>
    rw [List.findIdx?_eq_some_iff_getElem] at h
    obtain ⟨hi, hx, hall⟩ := h
    refine .inr ⟨i, l[i], rfl, List.getElem?_eq_getElem hi, ?_⟩
    have : (l.find? fun x => decide (x.name = n)) = some l[i] := by
      rw [List.find?_eq_some_iff_getElem]
      exact ⟨hx, i, hi, rfl, fun j hj => by simpa using hall j hj⟩
    rw [this]; rfl
set_option maxHeartbeats 800000 in
theorem param_fn (b : Nat) (n : ByteArray) (w : World) (hb : w.heap[b]? = some (.cells #[.string n] 9 (0, 0))) : TestI w 41 #[.pointer (some ⟨b, 0, none⟩)] (fun x => decide (x.name = n)) := by
  intro W x hW
  obtain ⟨xn, xv, xh⟩ := x
  have hst : Below W.heap.size W (W.alloc (.cells #[.string xn, .string xv, .bool xh] 95)) := (Below.refl _ _).alloc (Nat.le_refl _) _
  have hlt := lt_of_block hb
  have h1 := (hst.block b (Nat.lt_of_lt_of_le hlt hW.size)).trans ((hW.block b hlt).trans hb)
  have c0 : (W.alloc (.cells #[.string xn, .string xv, .bool xh] 95)).cell? ⟨b, 0, none⟩ = some (.string n) := by rw [cell_of_row _ b 0 _ _ _ h1]; rfl
  have he : (xn.toList == n.toList) = decide (xn = n) := str_eqB xn n
  have HE := Lib.hid he
  clear he h1
  show Calls Tryd.prog 41 #[.agg #[.string xn, .string xv, .bool xh], .pointer (some ⟨b, 0, none⟩)] W _
  go_enter Tryd.func41, Tryd.ntmps41
  go_wp2_with fail
  go_ret
  exact ⟨ret_bool HE.out, hst⟩
set_option maxHeartbeats 1600000 in
set_option maxRecDepth 100000 in
theorem media_Param (a b n : ByteArray) (pa : Option Addr) (c : Nat) (l : List It) (w : World) (hsl : ItemsOwn w pa l) (hl : l.length ≤ 16777216) :
    Calls Tryd.prog 26 #[.agg #[.string a, .string b, .slice pa l.length c], .string n] w fun e w' => Below w.heap.size w w' ∧ ((paramM l n = none ∧ e = .returned (.tuple #[.string ⟨#[]⟩, .bool false])) ∨ ∃ v, paramM l n = some v ∧ e = .returned (.tuple #[.string v, .bool true])) := by
  have hm1 : MediaAt (w.alloc (.cells #[.string a, .string b, .slice pa l.length c] 69)) w.heap.size a b pa l.length c := MediaAt.new
  have hst1 := (Below.refl w.heap.size w).alloc (Nat.le_refl _) (.cells #[.string a, .string b, .slice pa l.length c] 69)
  have hst2 := (Below.refl (w.alloc (.cells #[.string a, .string b, .slice pa l.length c] 69)).heap.size (w.alloc (.cells #[.string a, .string b, .slice pa l.length c] 69))).alloc (Nat.le_refl _) (.cells #[.string n] 9)
  have hm2 := hm1.below hst2
  have hb2 := Bt hst1 hst2
  have hs2 := hsl.below hb2
  have hbx : ((w.alloc (.cells #[.string a, .string b, .slice pa l.length c] 69)).alloc (.cells #[.string n] 9)).heap[w.heap.size + 1]? = some (.cells #[.string n] 9 (0, 0)) := by
    have := heap_alloc_new (w.alloc (.cells #[.string a, .string b, .slice pa l.length c] 69)) (.cells #[.string n] 9)
    rw [World.size_alloc] at this
    exact this
  have cI := Lib.hid (items_IndexFunc pa c l 41 (w.heap.size + 1) (fun x => decide (x.name = n)) _ hs2 hl (enters_of Tryd.func41 (by kernel_rfl) rfl) (param_fn _ n _ hbx))
  have hw := find_ways l n
  have hmf : ∀ (fn : Fn) (first cap : Array Value) (w : World), (Instr.makeFunc fn first cap).run Tryd.prog w = .ok (.func fn first cap) w := fun _ _ _ _ => rfl
  obtain ⟨_, _, k2⟩ := hm2.cells
  clear hbx hst1 hst2 hm1
  rcases hw with ⟨hi, hp⟩ | ⟨i, x, hi, hx, hp⟩
  · rw [hi] at cI
    have HP := Lib.hid hp
    clear hp hi
    go_enter Tryd.func26, Tryd.ntmps26
    go_wp2_with fail
    refine cI.out.mono ?_
    rintro e w3 ⟨rfl, hb3⟩
    have hb4 := Bt hb2 hb3
    go_wp2_with fail
    go_ret2
    exact ⟨hb4, .inl ⟨HP.out, rfl⟩⟩
  · rw [hi] at cI
    have HP := Lib.hid hp
    have hil := (List.getElem?_eq_some_iff.1 hx).1
    have hiI : (i : Int) < (l.length : Int) := by omega
    have HX := Lib.hid hx
    clear hp hi hx
    go_enter Tryd.func26, Tryd.ntmps26
    go_wp2_with fail
    refine cI.out.mono ?_
    rintro e w3 ⟨rfl, hb3⟩
    have hb4 := Bt hb2 hb3
    obtain ⟨q, rfl, hq, d0, d1, d2⟩ := (hs2.below hb3) i x HX.out
    obtain ⟨_, _, k2⟩ := (hm2.below hb3).cells
    clear hs2 hm2
    go_wp2_with fail
    go_ret2
    exact ⟨hb4, .inr ⟨_, HP.out, rfl⟩⟩
def appS : ByteArray := ⟨#[97, 112, 112, 108, 105, 99, 97, 116, 105, 111, 110]⟩
def jsonS : ByteArray := ⟨#[106, 115, 111, 110]⟩
def pkcsS : ByteArray := ⟨#[112, 107, 99, 115, 55, 45, 109, 105, 109, 101]⟩
def sufS : ByteArray := ⟨#[43, 106, 115, 111, 110]⟩
def charS : ByteArray := ⟨#[99, 104, 97, 114, 115, 101, 116]⟩
def utf8S : ByteArray := ⟨#[117, 116, 102, 45, 56]⟩
/-- Is a kind of content JSON? -/
def jsonB (a b : ByteArray) : Bool := decide (a = appS) && (decide (b = jsonS) || (decide (b = pkcsS) || (decide (5 < b.size) && Lib.hasSuffix b.data.toList sufS.data.toList)))
theorem str_yes {a : ByteArray} {l : List UInt8} (h : a = ofL l) : (a.toList == l) = true := by
  rw [h, ByteArray.toList_eq]
  simp [ofL]
theorem str_no {a : ByteArray} {l : List UInt8} (h : a ≠ ofL l) : (a.toList == l) = false := by
  rw [beq_eq_false_iff_ne, ByteArray.toList_eq]
  intro e
  apply h
  rw [← e]
  exact (ofL_list a).symm
set_option maxHeartbeats 1600000 in
set_option maxRecDepth 100000 in
theorem media_JSON (a b : ByteArray) (pa : Option Addr) (l c : Nat) (w : World) (hb : b.size ≤ 16777216) :
    Calls Tryd.prog 27 #[.agg #[.string a, .string b, .slice pa l c]] w fun e w' => e = .returned (.bool (jsonB a b)) ∧ Below w.heap.size w w' := by
  have hm1 : MediaAt (w.alloc (.cells #[.string a, .string b, .slice pa l c] 69)) w.heap.size a b pa l c := MediaAt.new
  have hst1 := (Below.refl w.heap.size w).alloc (Nat.le_refl _) (.cells #[.string a, .string b, .slice pa l c] 69)
  obtain ⟨k0, k1, _⟩ := hm1.cells
  have cS := Lib.hid (fun W => Tryd.strings_HasSuffix b sufS W (by omega))
  clear hm1
  by_cases h1 : a = appS
  · have e1 : (a.toList == [97, 112, 112, 108, 105, 99, 97, 116, 105, 111, 110]) = true := str_yes h1
    by_cases h2 : b = jsonS
    · have e2 : (b.toList == [106, 115, 111, 110]) = true := str_yes h2
      have hj : jsonB a b = true := by unfold jsonB; rw [decide_eq_true h1, decide_eq_true h2]; rfl
      have HJ := Lib.hid hj
      clear h1 h2 hj
      go_enter Tryd.func27, Tryd.ntmps27
      go_wp2_with fail
      go_ret
      exact ⟨ret_bool HJ.out.symm, hst1⟩
    · have e2 : (b.toList == [106, 115, 111, 110]) = false := str_no h2
      by_cases h3 : b = pkcsS
      · have e3 : (b.toList == [112, 107, 99, 115, 55, 45, 109, 105, 109, 101]) = true := str_yes h3
        have hj : jsonB a b = true := by unfold jsonB; rw [decide_eq_true h1, decide_eq_true h3]; simp
        have HJ := Lib.hid hj
        clear h1 h2 h3 hj
        go_enter Tryd.func27, Tryd.ntmps27
        go_wp2_with fail
        go_ret
        exact ⟨ret_bool HJ.out.symm, hst1⟩
      · have e3 : (b.toList == [112, 107, 99, 115, 55, 45, 109, 105, 109, 101]) = false := str_no h3
        by_cases h5 : 5 < b.size
        · have h5I : (b.size : Int) > 5 := by omega
          have hj : jsonB a b = Lib.hasSuffix b.data.toList sufS.data.toList := by unfold jsonB; rw [decide_eq_true h1, decide_eq_false h2, decide_eq_false h3, decide_eq_true h5]; simp
          have HJ := Lib.hid hj
          clear h1 h2 h3 hj
          go_enter Tryd.func27, Tryd.ntmps27
          go_wp2_with fail
          refine (cS.out _).mono ?_
          rintro e w2 ⟨rfl, rfl⟩
          go_wp2_with fail
          go_ret
          exact ⟨ret_bool HJ.out.symm, hst1⟩
        · have h5I : decide ((b.size : Int) > 5) = false := decide_eq_false (by omega)
          have h5J : ¬ (b.size : Int) > 5 := by omega
          have hj : jsonB a b = false := by unfold jsonB; rw [decide_eq_false h2, decide_eq_false h3, decide_eq_false h5]; simp
          have HJ := Lib.hid hj
          clear h1 h2 h3 hj h5
          go_enter Tryd.func27, Tryd.ntmps27
          go_wp2_with fail
          go_ret
          exact ⟨ret_bool HJ.out.symm, hst1⟩
  · have e1 : (a.toList == [97, 112, 112, 108, 105, 99, 97, 116, 105, 111, 110]) = false := str_no h1
    have hj : jsonB a b = false := by unfold jsonB; rw [decide_eq_false h1]; rfl
    have HJ := Lib.hid hj
    clear h1 hj
    go_enter Tryd.func27, Tryd.ntmps27
    go_wp2_with fail
    go_ret
    exact ⟨ret_bool HJ.out.symm, hst1⟩
end Go.Proofs.YtkgifenidmbdkaaDoor
