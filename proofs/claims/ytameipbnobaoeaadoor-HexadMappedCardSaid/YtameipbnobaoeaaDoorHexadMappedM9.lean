/- errors.As at a pointer to a fault: its contract (after the kit's worked example of errors.As at a concrete target, turned to this program's types and numbers). -/
import Derived.Test.YtameipbnobaoeaaDoorHexadMappedM1
import Derived.LaidEql
import Derived.Stop.Asserts
import Derived.RowKitTokens
import Derived.LaidHandle
import Derived.LaidLaws
import Derived.Stop.Joined
import Derived.Lib.LaidU8T
import Derived.Test.YtameipbnobaoeaaDoorHexadMappedM7
import Derived.Test.YtameipbnobaoeaaDoorHexadMappedM8

namespace Go.Proofs.YtameipbnobaoeaaDoor
open Go.RowKit Go.Extern.Stop Go.Stop Go.Extern


theorem as_nil (t : Value) (w : World) :
    Calls Tryd.prog 38 #[.nilIface, t] w fun e w' => e = .returned (.bool false) ∧ w' = w := by
  go_enter Tryd.func38, Tryd.ntmps38
  go_wp2
  go_ret
  exact ⟨rfl, rfl⟩

theorem As_valueOf27 (t : Addr) (w : World) : (ReflectliteValue.unpack (.iface 82 (.pointer (some t)))).run Tryd.prog w
    = .ok (.agg #[.pointer (some ⟨4, 82, none⟩), .pointer (some ⟨w.heap.size, 0, none⟩), .int .u64 150]) (w.alloc (.cells #[.pointer (some t)] 82)) := by kernel_rfl
theorem As_type27 (a : Addr) (w : World) : (ReflectliteValue.methodAny (ReflectliteValue.valueError "reflectlite.Value.Type" 0) (fun t _ _ _ => ReflectliteType.toType t) #[.agg #[.pointer (some ⟨4, 82, none⟩), .pointer (some a), .int .u64 150]]).run Tryd.prog w
    = .ok (.iface 125 (.agg #[.pointer (some ⟨4, 82, none⟩)])) w := by kernel_rfl
theorem As_methodKind (h : Value) (w : World) : (Go.method 270 125 (.agg #[h]) "Kind").run Tryd.prog w = .ok (94, h) w := by kernel_rfl
theorem As_kind27 (w : World) : ((ReflectliteType.abiMethod fun t => (fun a : Nat => Value.int IntKind.u8 (a : Int)) <$> Rtype.kind t) #[.pointer (some ⟨4, 82, none⟩)]).run Tryd.prog w = .ok (.int .u8 22) w := by kernel_rfl
theorem As_kind25 (w : World) : ((ReflectliteType.abiMethod fun t => (fun a : Nat => Value.int IntKind.u8 (a : Int)) <$> Rtype.kind t) #[.pointer (some ⟨4, 80, none⟩)]).run Tryd.prog w = .ok (.int .u8 22) w := by kernel_rfl

theorem rlm (z : Sem Value) (f : TypeId → Addr → Nat → Nat → Sem Value) (v : Value) :
    ReflectliteValue.method z f #[v] = (do match ← ReflectliteValue.parts v with | none => z | some (t, a, fl) => f t a fl (fl % 32)) := rfl
theorem As_parts27 (a : Addr) (w : World) : (ReflectliteValue.parts (.agg #[.pointer (some ⟨4, 82, none⟩), .pointer (some a), .int .u64 150])).run Tryd.prog w = .ok (some (82, a, 150)) w := by kernel_rfl
theorem As_isNil27 (a p : Addr) (W : World) (ha : W.cell? a = some (.pointer (some p))) :
    (ReflectliteValue.method (ReflectliteValue.valueError "reflectlite.Value.IsNil" 0) ReflectliteValue.isNil #[.agg #[.pointer (some ⟨4, 82, none⟩), .pointer (some a), .int .u64 150]]).run Tryd.prog W = .ok (.bool false) W := by
  rw [rlm]
  simp only [Sem.run_bind, As_parts27, Result.andThen]
  simp [ReflectliteValue.isNil, loadVar, isAgg, underlying, Tryd.underlying82, ha, Result.andThen]

theorem As_methodElem (h : Value) (w : World) : (Go.method 270 125 (.agg #[h]) "Elem").run Tryd.prog w = .ok (107, .agg #[h]) w := by kernel_rfl
theorem As_methodImplements (h : Value) (w : World) : (Go.method 270 125 (.agg #[h]) "Implements").run Tryd.prog w = .ok (108, .agg #[h]) w := by kernel_rfl
theorem As_methodAssignableTo (h : Value) (w : World) : (Go.method 270 125 (.agg #[h]) "AssignableTo").run Tryd.prog w = .ok (105, .agg #[h]) w := by kernel_rfl
theorem As_elem27 (w : World) : (ReflectliteType.method ReflectliteType.elem #[.agg #[.pointer (some ⟨4, 82, none⟩)]]).run Tryd.prog w = .ok (.iface 125 (.agg #[.pointer (some ⟨4, 80, none⟩)])) w := by kernel_rfl
theorem As_implements25 (w : World) : (ReflectliteType.relation "Implements" ReflectliteType.implements_ #[.agg #[.pointer (some ⟨4, 80, none⟩)], .iface 125 (.agg #[.pointer (some ⟨4, 29, none⟩)])]).run Tryd.prog w = .ok (.bool true) w := by kernel_rfl
theorem As_typeOf25 (v : Value) (w : World) : (ReflectliteType.typeOf #[.iface 80 v]).run Tryd.prog w = .ok (.iface 125 (.agg #[.pointer (some ⟨4, 80, none⟩)])) w := by kernel_rfl
theorem As_assignable25 (w : World) : (ReflectliteType.relation "AssignableTo" ReflectliteType.assignableTo #[.agg #[.pointer (some ⟨4, 80, none⟩)], .iface 125 (.agg #[.pointer (some ⟨4, 80, none⟩)])]).run Tryd.prog w = .ok (.bool true) w := by kernel_rfl
theorem As_valueOf25 (e : Addr) (w : World) : (ReflectliteValue.unpack (.iface 80 (.pointer (some e)))).run Tryd.prog w
    = .ok (.agg #[.pointer (some ⟨4, 80, none⟩), .pointer (some ⟨w.heap.size, 0, none⟩), .int .u64 150]) (w.alloc (.cells #[.pointer (some e)] 80)) := by kernel_rfl

theorem As_elemOf27 (w : World) : (Rtype.elem? 82).run Tryd.prog w = .ok (some 80) w := by kernel_rfl
theorem As_mk25 (p : Addr) (w : World) : (ReflectliteValue.mk 80 p ReflectliteValue.flagAddr).run Tryd.prog w = .ok (.agg #[.pointer (some ⟨4, 80, none⟩), .pointer (some p), .int .u64 406]) w := by kernel_rfl
theorem As_elemV27 (a p : Addr) (W : World) (ha : W.cell? a = some (.pointer (some p))) :
    (ReflectliteValue.method (ReflectliteValue.valueError "reflectlite.Value.Elem" 0) ReflectliteValue.elem #[.agg #[.pointer (some ⟨4, 82, none⟩), .pointer (some a), .int .u64 150]]).run Tryd.prog W
      = .ok (.agg #[.pointer (some ⟨4, 80, none⟩), .pointer (some p), .int .u64 406]) W := by
  rw [rlm]
  simp only [Sem.run_bind, As_parts27, Result.andThen]
  simp [ReflectliteValue.elem, loadVar, isAgg, underlying, Tryd.underlying82, ha, Result.andThen, As_elemOf27, As_mk25]
theorem rls (v x : Value) : ReflectliteValue.set #[v, x] = (do
    let (some (dst, a, fl), some (src, b, _)) := (← ReflectliteValue.parts v, ← ReflectliteValue.parts x)
      | unsupported (.noEntry "extern/(internal/reflectlite.Value).Set.zeroValue")
    if fl / ReflectliteValue.flagAddr % 2 == 0 then unsupported (.noEntry "extern/(internal/reflectlite.Value).Set.unaddressable")
    let val ← loadVar src b
    if ← Rtype.directlyAssignable dst src then storeVar dst a val
    else if ← Rtype.implements dst src then
      if (← Rtype.kind src) == 20 then
        match val with
        | .nilIface => unsupported (.noEntry "extern/reflectlite: a nil value of one interface type handed on as a value of another")
        | _ => storeVar dst a val
      else storeVar dst a (.iface src val)
    else panicString ("reflectlite.Set: value of type " ++ (← Rtype.spelt src) ++ " is not assignable to type " ++ (← Rtype.spelt dst))
    pure (.tuple #[])) := rfl
theorem As_parts25a (a : Addr) (w : World) : (ReflectliteValue.parts (.agg #[.pointer (some ⟨4, 80, none⟩), .pointer (some a), .int .u64 406])).run Tryd.prog w = .ok (some (80, a, 406)) w := by kernel_rfl
theorem As_parts25 (a : Addr) (w : World) : (ReflectliteValue.parts (.agg #[.pointer (some ⟨4, 80, none⟩), .pointer (some a), .int .u64 150])).run Tryd.prog w = .ok (some (80, a, 150)) w := by kernel_rfl
theorem As_direct25 (w : World) : (Rtype.directlyAssignable 80 80).run Tryd.prog w = .ok true w := by kernel_rfl
theorem As_size25 (w : World) : (sizeOf 80).run Tryd.prog w = .ok 1 w := by kernel_rfl
theorem As_set25 (ta b e : Addr) (old : Value) (W : World) (hb : W.cell? b = some (.pointer (some e))) (ht : W.cell? ta = some old) (hf : W.frozen? ta = false) :
    (ReflectliteValue.set #[.agg #[.pointer (some ⟨4, 80, none⟩), .pointer (some ta), .int .u64 406], .agg #[.pointer (some ⟨4, 80, none⟩), .pointer (some b), .int .u64 150]]).run Tryd.prog W
      = .ok (.tuple #[]) (W.setCell ta (.pointer (some e))) := by
  rw [rls]
  simp only [Sem.run_bind, As_parts25a, As_parts25, Result.andThen]
  simp [ReflectliteValue.flagAddr, loadVar, isAgg, underlying, Tryd.underlying80, hb, Result.andThen, As_direct25, storeVar, Value.cells, storeCells, Addr.add]
  rw [run_store Tryd.prog W ta _ _ (by rfl)]
  simp [ht, hf]

set_option maxHeartbeats 4000000 in
theorem as_hit (e t : Addr) (old : Value) (w : World) (hg : w.cell? ⟨1, 0, none⟩ = some (.iface 125 (.agg #[.pointer (some ⟨4, 29, none⟩)]))) (ht0 : w.cell? t = some old) (hf0 : w.frozen? t = false) :
    Calls Tryd.prog 38 #[.iface 80 (.pointer (some e)), .iface 82 (.pointer (some t))] w fun ev w' => ev = .returned (.bool true) ∧ w' = ((((w.alloc (.cells #[.pointer (some t)] 82)).alloc (.cells #[.pointer (some ⟨4, 82, none⟩), .pointer (some ⟨w.heap.size, 0, none⟩), .int .u64 150] 100)).alloc (.cells #[.pointer (some ⟨4, 82, none⟩), .pointer (some ⟨w.heap.size, 0, none⟩), .int .u64 150] 100)).alloc (.cells #[.pointer (some e)] 80)).setCell t (.pointer (some e)) := by
  have h6 := @run_callFunc_extern Tryd.prog 55 _ (fun args => ReflectliteValue.unpack (args.getD 0 (.tuple #[]))) Tryd.func55 (by kernel_rfl) (by kernel_rfl) (by kernel_rfl) (by kernel_rfl)
  have h7 := @run_callFunc_extern Tryd.prog 56 _ (ReflectliteValue.methodAny (ReflectliteValue.valueError "reflectlite.Value.Type" 0) (fun t _ _ _ => ReflectliteType.toType t)) Tryd.func56 (by kernel_rfl) (by kernel_rfl) (by kernel_rfl) (by kernel_rfl)
  have h8 := @run_callFunc_extern Tryd.prog 57 _ (ReflectliteValue.method (ReflectliteValue.valueError "reflectlite.Value.IsNil" 0) ReflectliteValue.isNil) Tryd.func57 (by kernel_rfl) (by kernel_rfl) (by kernel_rfl) (by kernel_rfl)
  have h27 := @run_callFunc_extern Tryd.prog 94 _ (ReflectliteType.abiMethod fun t => do pure (.int .u8 (← Rtype.kind t))) Tryd.func94 (by kernel_rfl) (by kernel_rfl) (by kernel_rfl) (by kernel_rfl)
  have h37 := @run_callFunc_extern Tryd.prog 107 _ (ReflectliteType.method ReflectliteType.elem) Tryd.func107 (by kernel_rfl) (by kernel_rfl) (by kernel_rfl) (by kernel_rfl)
  have h38 := @run_callFunc_extern Tryd.prog 108 _ (ReflectliteType.relation "Implements" ReflectliteType.implements_) Tryd.func108 (by kernel_rfl) (by kernel_rfl) (by kernel_rfl) (by kernel_rfl)
  have h10 := @run_callFunc_extern Tryd.prog 73 _ ReflectliteType.typeOf Tryd.func73 (by kernel_rfl) (by kernel_rfl) (by kernel_rfl) (by kernel_rfl)
  have h35 := @run_callFunc_extern Tryd.prog 105 _ (ReflectliteType.relation "AssignableTo" ReflectliteType.assignableTo) Tryd.func105 (by kernel_rfl) (by kernel_rfl) (by kernel_rfl) (by kernel_rfl)
  have h11 := @run_callFunc_extern Tryd.prog 74 _ (ReflectliteValue.method (ReflectliteValue.valueError "reflectlite.Value.Elem" 0) ReflectliteValue.elem) Tryd.func74 (by kernel_rfl) (by kernel_rfl) (by kernel_rfl) (by kernel_rfl)
  have h12 := @run_callFunc_extern Tryd.prog 75 _ ReflectliteValue.set Tryd.func75 (by kernel_rfl) (by kernel_rfl) (by kernel_rfl) (by kernel_rfl)
  have tO := As_typeOf25
  have mA := As_methodAssignableTo
  have a25 := As_assignable25
  have v25 := As_valueOf25
  have f6 := As_valueOf27
  have f7 := As_type27
  have mK := As_methodKind
  have mE := As_methodElem
  have mI := As_methodImplements
  have k27 := As_kind27
  have k25 := As_kind25
  have e27 := As_elem27
  have i25 := As_implements25
  have n8 := As_isNil27 ⟨w.heap.size, 0, none⟩ t ((w.alloc (.cells #[.pointer (some t)] 82)).alloc (.cells #[.pointer (some ⟨4, 82, none⟩), .pointer (some ⟨w.heap.size, 0, none⟩), .int .u64 150] 100)) (by simp)
  have hlt : 1 < w.heap.size := World.block_lt_of_cell? w _ hg
  have hg2 : ((w.alloc (.cells #[.pointer (some t)] 82)).alloc (.cells #[.pointer (some ⟨4, 82, none⟩), .pointer (some ⟨w.heap.size, 0, none⟩), .int .u64 150] 100)).cell? ⟨1, 0, none⟩ = some (.iface 125 (.agg #[.pointer (some ⟨4, 29, none⟩)])) := by
    rw [World.cell?_alloc_lt _ _ ⟨1, 0, none⟩ (by first | (simp; done) | (simp; omega)), World.cell?_alloc_lt _ _ ⟨1, 0, none⟩ hlt]; exact hg
  have htl : t.block < w.heap.size := by
    rcases Nat.lt_or_ge t.block w.heap.size with h | h
    · exact h
    · simp [World.cell?, Array.getElem?_eq_none h] at ht0
  have el := As_elemV27 ⟨w.heap.size, 0, none⟩ t (((w.alloc (.cells #[.pointer (some t)] 82)).alloc (.cells #[.pointer (some ⟨4, 82, none⟩), .pointer (some ⟨w.heap.size, 0, none⟩), .int .u64 150] 100)).alloc (.cells #[.pointer (some ⟨4, 82, none⟩), .pointer (some ⟨w.heap.size, 0, none⟩), .int .u64 150] 100)) (by rw [World.cell?_alloc_lt _ _ ⟨w.heap.size, 0, none⟩ (by simp; omega)]; simp)
  have st := As_set25 t ⟨w.heap.size + 1 + 1 + 1, 0, none⟩ e old ((((w.alloc (.cells #[.pointer (some t)] 82)).alloc (.cells #[.pointer (some ⟨4, 82, none⟩), .pointer (some ⟨w.heap.size, 0, none⟩), .int .u64 150] 100)).alloc (.cells #[.pointer (some ⟨4, 82, none⟩), .pointer (some ⟨w.heap.size, 0, none⟩), .int .u64 150] 100)).alloc (.cells #[.pointer (some e)] 80))
    (by rw [World.cell?_alloc_at _ _ _ _ (by simp)]; rfl)
    (by rw [World.cell?_alloc_lt _ _ t (by simp; omega), World.cell?_alloc_lt _ _ t (by simp; omega), World.cell?_alloc_lt _ _ t (by simp; omega), World.cell?_alloc_lt _ _ t htl]; exact ht0)
    (by rw [World.frozen?_alloc_old _ _ t (by simp; omega), World.frozen?_alloc_old _ _ t (by simp; omega), World.frozen?_alloc_old _ _ t (by simp; omega), World.frozen?_alloc_old _ _ t (Nat.ne_of_lt htl)]; exact hf0)
  go_enter Tryd.func38, Tryd.ntmps38
  go_wp2
  refine wp_loop_rounds 1 ?_
  rw [rounds_succ]
  go_wp2
  go_ret
  exact ⟨rfl, rfl⟩
end Go.Proofs.YtameipbnobaoeaaDoor

/- What a row's list of package variables gives: errors.errorType; plain data. -/
namespace Go.Proofs.YtameipbnobaoeaaDoor
open Go.ChangeShapes Go.WideShapes Go.RowKit

/-- The package-level variable that errors.As reads, as the row lists it. -/
def Handle (w : World) : Prop := w.cell? ⟨1, 0, none⟩ = some (.iface 125 (.agg #[.pointer (some ⟨4, 29, none⟩)]))
theorem Handle.below {w w' : World} (h : Handle w) (hb : Below w.heap.size w w') : Handle w' := (hb.cell (World.block_lt_of_cell? w _ h)).trans h
theorem Handle.drewN {w : World} (h : Handle w) (n : Nat) : Handle (w.drewN n) := h

theorem laid_et : Tryd.prog.globalNamed "errors.errorType" = some 1 := by kernel_rfl
theorem laid_row : ((List.range 170).filter fun t => Tryd.prog.rowNamed t [101, 114, 114, 111, 114]) = [29] := by kernel_rfl
theorem laid_size : Tryd.prog.types.size = 170 := by kernel_rfl

theorem handle_of_laid {l : List (String × DataW Unit)} {W : World} (h : laidMetH Tryd.prog l W) (hx : ("errors.errorType", Rows.laid_errors_errorType) ∈ l) : Handle W := by
  have hs : (Rows.laid_errors_errorType : DataW Unit).handleName?.isSome = true := rfl
  have hm : ("errors.errorType", Rows.laid_errors_errorType) ∈ l.filter fun x => x.2.handleName?.isSome := List.mem_filter.2 ⟨hx, hs⟩
  unfold laidMetH at h
  generalize (l.filter fun x => x.2.handleName?.isSome) = fl at h hm
  cases fl with
  | nil => cases hm
  | cons a q =>
    obtain ⟨name, u, ty, e1, e2, e3, e4, e5⟩ := h.2 _ hm
    have en : name = [101, 114, 114, 111, 114] := (Option.some.inj e1).symm
    subst en
    obtain rfl : u = 125 := Option.some.inj (e2.symm.trans (by kernel_rfl))
    have hm : ty ∈ (List.range 170).filter fun t => Tryd.prog.rowNamed t [101, 114, 114, 111, 114] := List.mem_filter.2 ⟨List.mem_range.2 (by rw [← laid_size]; exact e3), e4⟩
    rw [laid_row] at hm
    obtain rfl := List.mem_singleton.1 hm
    have hh : typeHandle Tryd.prog 29 = .pointer (some ⟨4, 29, none⟩) := by kernel_rfl
    rw [hh] at e5
    simpa [Handle] using World.var?_cell laid_et e5 0

theorem data_of_laid {l : List (String × DataW Unit)} {W : World} (h : laidMetH Tryd.prog l W) {n : String} {d : DataW Unit} (hx : (n, d) ∈ l) (hd : d.handleName?.isNone = true) : Lib.VarReads Tryd.prog W n d := by
  unfold laidMetH at h
  generalize hfl : (l.filter fun x => x.2.handleName?.isSome) = fl at h
  cases fl with
  | nil => exact Lib.laidMet.reads h hx
  | cons a q => exact Lib.laidMet.reads h.1 (List.mem_filter.2 ⟨hx, hd⟩)

end Go.Proofs.YtameipbnobaoeaaDoor

/- The kind and the place of an error, as the statements read them. -/
namespace Go.Proofs.YtameipbnobaoeaaDoor
open Go.RowKit

theorem as_world (b : Nat) (w w1 w' : World) (h1 : w1 = w.alloc (.cells #[.pointer none] 80))
    (hw : w' = ((((w1.alloc (.cells #[.pointer (some ⟨w.heap.size, 0, none⟩)] 82)).alloc (.cells #[.pointer (some ⟨4, 82, none⟩), .pointer (some ⟨w1.heap.size, 0, none⟩), .int .u64 150] 100)).alloc (.cells #[.pointer (some ⟨4, 82, none⟩), .pointer (some ⟨w1.heap.size, 0, none⟩), .int .u64 150] 100)).alloc (.cells #[.pointer (some ⟨b, 0, none⟩)] 80)).setCell ⟨w.heap.size, 0, none⟩ (.pointer (some ⟨b, 0, none⟩))) :
    Below w.heap.size w w' ∧ w'.cell? ⟨w.heap.size, 0, none⟩ = some (.pointer (some ⟨b, 0, none⟩)) := by
  have hs : w1.heap.size = w.heap.size + 1 := by rw [h1]; simp
  have hb0 : Below w.heap.size w w1 := by rw [h1]; exact (Below.refl _ _).alloc (Nat.le_refl _) _
  have hc : w1.cell? ⟨w.heap.size, 0, none⟩ = some (.pointer none) := by rw [h1]; simp
  subst hw
  refine ⟨((((hb0.alloc (by omega) _).alloc (by simp; omega) _).alloc (by simp; omega) _).alloc (by simp; omega) _).setCell (Nat.le_refl _) _, ?_⟩
  refine World.cell?_setCell_same (u := .pointer none) _ _ _ ?_
  rw [World.cell?_alloc_lt _ _ _ (by simp; omega), World.cell?_alloc_lt _ _ _ (by simp; omega), World.cell?_alloc_lt _ _ _ (by simp; omega), World.cell?_alloc_lt _ _ _ (by simp; omega), hc]

end Go.Proofs.YtameipbnobaoeaaDoor

/- quad.Strict. -/
namespace Go.Proofs.YtameipbnobaoeaaDoor
open Go.RowKit

def strictB (s : ByteArray) : Bool := decide ((parseQ s).2.1 = 0) && decide (textN (parseQ s).1 = s)
def StrictPost (s : ByteArray) (w : World) (e : Ending) (w' : World) : Prop := Below w.heap.size w w' ∧ ((strictB s = true ∧ e = .returned (.tuple #[v4N (parseQ s).1, .nilIface])) ∨ (strictB s = false ∧ ∃ v, e = .returned (.tuple #[v4N 0, v]) ∧ IsFault w' v 11 0))
theorem quad_TextN (n : Nat) (w : World) : Calls Tryd.prog 39 #[v4N n] w fun e w' => e = .returned (.string (textN n)) ∧ Below w.heap.size w w' :=
  quad_Text (n / 16777216 % 256) (n / 65536 % 256) (n / 256 % 256) (n % 256) (by omega) (by omega) (by omega) (by omega) w
set_option maxHeartbeats 3200000 in
set_option maxRecDepth 100000 in
theorem quad_Strict (s : ByteArray) (hs : s.size ≤ 16777216) (w : World) (hg : Handle w) : Calls Tryd.prog 26 #[.string s] w (StrictPost s w) := by
  have cQ' : ∀ W : World, Calls Tryd.prog 37 #[.string s] W fun e w' => Below W.heap.size W w' ∧ ∃ v, e = .returned (.tuple #[v4N (parseQ s).1, v]) ∧ IsErrN w' v (parseQ s).2.1 (parseQ s).2.2 := fun W => quad_Parse s hs W
  have cT' := fun W => quad_TextN (parseQ s).1 W
  have hyes : (parseQ s).2.1 = 0 → textN (parseQ s).1 = s → strictB s = true := fun h1 h2 => by unfold strictB; rw [decide_eq_true h1, decide_eq_true h2]; rfl
  have hno1 : (parseQ s).2.1 ≠ 0 → strictB s = false := fun h1 => by unfold strictB; rw [decide_eq_false h1]; rfl
  have hno2 : textN (parseQ s).1 ≠ s → strictB s = false := fun h1 => by unfold strictB; rw [decide_eq_false h1]; simp
  have hpost : ∀ e w', StrictPost s w e w' ↔ (Below w.heap.size w w' ∧ ((strictB s = true ∧ e = .returned (.tuple #[v4N (parseQ s).1, .nilIface])) ∨ (strictB s = false ∧ ∃ v, e = .returned (.tuple #[v4N 0, v]) ∧ IsFault w' v 11 0))) := fun _ _ => Iff.rfl
  generalize (parseQ s).2.1 = k at *
  generalize (parseQ s).2.2 = i at *
  generalize textN (parseQ s).1 = tx at *
  obtain ⟨x0, x1, x2, x3, hx⟩ : ∃ a b c d : Int, v4N (parseQ s).1 = .agg #[.int .u8 a, .int .u8 b, .int .u8 c, .int .u8 d] := ⟨_, _, _, _, rfl⟩
  rw [hx] at cQ' cT'
  simp only [hx] at hpost
  have cQ := Lib.hid cQ'
  have cT := Lib.hid cT'
  have HPOST := Lib.hid hpost
  have HYES := Lib.hid hyes
  have HNO1 := Lib.hid hno1
  have HNO2 := Lib.hid hno2
  clear cQ' cT' hpost hx hyes hno1 hno2
  go_enter Tryd.func26, Tryd.ntmps26
  go_wp2_with fail
  refine (cQ.out _).mono ?_
  rintro e w2 ⟨hb2, v, rfl, hv⟩
  have hz2 := (V4At.new w).below hb2
  have hb12 : Below w.heap.size w w2 := ((Below.refl _ _).alloc (Nat.le_refl _) _).trans (hb2.mono (by simp))
  have hg2 := hg.below hb12
  clear hb2
  have hal2 : Below w2.heap.size w2 (w2.alloc (.cells #[.int .u8 x0, .int .u8 x1, .int .u8 x2, .int .u8 x3] 37)) := (Below.refl _ _).alloc (Nat.le_refl _) _
  have hma := V4At.made w2 x0 x1 x2 x3
  have hzm := hz2.below hal2
  have hbm := hb12.trans (hal2.mono (Nat.le_of_lt hz2.lt))
  have hvm := hv.below hal2
  have hgm := hg2.below hal2
  have hblk : w2.heap.size < (w2.alloc (.cells #[.int .u8 x0, .int .u8 x1, .int .u8 x2, .int .u8 x3] 37)).heap.size := hma.lt
  rcases hvm with ⟨rfl, rfl⟩ | ⟨hk, hv2⟩
  · clear hv hgm hg2
    go_wp2_with fail
    refine (as_nil _ _).mono ?_
    rintro e w3 ⟨rfl, rfl⟩
    go_wp2_with fail
    refine (cT.out _).mono ?_
    rintro e w4 ⟨rfl, hb4⟩
    have hal3 : Below (w2.alloc (.cells #[.int .u8 x0, .int .u8 x1, .int .u8 x2, .int .u8 x3] 37)).heap.size (w2.alloc (.cells #[.int .u8 x0, .int .u8 x1, .int .u8 x2, .int .u8 x3] 37)) ((w2.alloc (.cells #[.int .u8 x0, .int .u8 x1, .int .u8 x2, .int .u8 x3] 37)).alloc (.cells #[.pointer none] 80)) := (Below.refl _ _).alloc (Nat.le_refl _) _
    have hz4 := (hzm.below hal3).below hb4
    have hma4 := (hma.below hal3).below hb4
    have hb14 := (hbm.trans (hal3.mono (Nat.le_of_lt hzm.lt))).trans (hb4.mono (Nat.le_of_lt (hzm.below hal3).lt))
    obtain ⟨c0, c1, c2, c3⟩ := hma4.cells
    clear hal3 hal2 hma hzm hbm hb4 hma4 hz2 hb12 hblk
    by_cases hts : tx = s
    · have HY := Lib.hid (HYES.out (by first | rfl | trivial) hts)
      have et : (tx.toList == s.toList) = true := by rw [hts]; exact beq_self_eq_true _
      clear hts
      go_wp2_with (refine wpList_store_v4 (o := ⟨none, _, _, _, _, _⟩) rfl _ _ rfl w.heap.size x0 x1 x2 x3 rfl rfl _ hz4 ?_; intro hst)
      (try simp only [Exit.inBlock, Exit.then])
      refine bodyPost_ret (results_v4 rfl rfl hst) rfl ?_
      exact (HPOST.out _ _).2 ⟨below_setRow hb14 (Nat.le_refl _) _, .inl ⟨HY.out, rfl⟩⟩
    · have HNO := Lib.hid (HNO2.out hts)
      have et : (tx.toList == s.toList) = false := by rw [str_eqB, decide_eq_false hts]
      clear hts
      go_wp2_with fail
      refine (api_Fail' 11 0 _).mono ?_
      rintro e w7 ⟨f, rfl, hf, hb7⟩
      have hz7 := hz4.below hb7
      have hb17 := hb14.trans (hb7.mono (Nat.le_of_lt hz4.lt))
      have HF := Lib.hid hf
      obtain ⟨q, rfl⟩ := hf.ne_nil
      clear hf
      go_wp2_with (refine wpList_store_v4 (o := ⟨none, _, _, _, _, _⟩) rfl _ _ rfl w.heap.size 0 0 0 0 rfl rfl _ hz7 ?_; intro hst)
      (try simp only [Exit.inBlock, Exit.then])
      refine bodyPost_ret (results_v4 rfl rfl hst) rfl ?_
      exact (HPOST.out _ _).2 ⟨below_setRow hb17 (Nat.le_refl _) _, .inr ⟨HNO.out, _, rfl, HF.out.setV4 hz7 _⟩⟩
  · have HNO := Lib.hid (HNO1.out hk)
    obtain ⟨b, rfl, hfb⟩ := hv2
    clear hv hk hma hal2 hblk
    go_wp2_with fail
    have hsz : (w2.alloc (.cells #[.int .u8 x0, .int .u8 x1, .int .u8 x2, .int .u8 x3] 37)).heap.size = w2.heap.size + 1 := by simp
    rw [← hsz]
    clear hsz
    generalize w2.alloc (.cells #[.int .u8 x0, .int .u8 x1, .int .u8 x2, .int .u8 x3] 37) = wm at *
    have hg1 := hgm.below ((Below.refl _ _).alloc (Nat.le_refl _) (.cells #[.pointer none] 80))
    have ht1 : (wm.alloc (.cells #[.pointer none] 80)).cell? ⟨wm.heap.size, 0, none⟩ = some (.pointer none) := by simp
    have hf1 : (wm.alloc (.cells #[.pointer none] 80)).frozen? ⟨wm.heap.size, 0, none⟩ = false := by simp
    refine (as_hit ⟨b, 0, none⟩ ⟨wm.heap.size, 0, none⟩ (.pointer none) _ hg1 ht1 hf1).mono ?_
    rintro e w' ⟨rfl, hw⟩
    obtain ⟨hb4, _⟩ := as_world b wm _ w' rfl hw
    have hz4 := hzm.below hb4
    have hb14 := hbm.trans (hb4.mono (Nat.le_of_lt hzm.lt))
    clear hw hg1 ht1 hf1 hfb hb4 hzm hbm hgm
    go_wp2_with fail
    refine (api_Fail' 11 0 _).mono ?_
    rintro e w7 ⟨f, rfl, hf, hb7⟩
    have hz7 := hz4.below hb7
    have hb17 := hb14.trans (hb7.mono (Nat.le_of_lt hz4.lt))
    have HF := Lib.hid hf
    obtain ⟨q, rfl⟩ := hf.ne_nil
    clear hf
    go_wp2_with (refine wpList_store_v4 (o := ⟨none, _, _, _, _, _⟩) rfl _ _ rfl w.heap.size 0 0 0 0 rfl rfl _ hz7 ?_; intro hst)
    (try simp only [Exit.inBlock, Exit.then])
    refine bodyPost_ret (results_v4 rfl rfl hst) rfl ?_
    exact (HPOST.out _ _).2 ⟨below_setRow hb17 (Nat.le_refl _) _, .inr ⟨HNO.out, _, rfl, HF.out.setV4 hz7 _⟩⟩
end Go.Proofs.YtameipbnobaoeaaDoor
